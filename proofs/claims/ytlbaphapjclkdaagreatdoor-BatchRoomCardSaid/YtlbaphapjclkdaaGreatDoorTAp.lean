/- What stands for the compiling of the example's two texts. -/
import Derived.Test.YtlbaphapjclkdaaGreatDoorTRoom
namespace Go.Proofs.YtlbaphapjclkdaaGreatDoor.Ev.C
open Go Go.Proofs.YtlbaphapjclkdaaGreatDoor.Ev
set_option linter.unusedVariables false
def exT : List UInt8 := [116,121,112,101,32,117,115,101,114,32,123,125,32,116,121,112,101,32,100,111,99,32,123,32,114,101,108,32,114,101,97,100,32,40,114,101,97,100,44,32,114,101,97,100,44,32,114,101,97,100,41,58,32,117,115,101,114,59,32,125]
/-- as it is shown -/
def exU : List UInt8 := [116, 121, 112, 101, 32, 117, 115, 101, 114, 32, 123, 10, 125, 10, 116, 121, 112, 101, 32, 100, 111, 99, 32, 123, 10, 9, 114, 101, 108, 32, 114, 101, 97, 100, 32, 40, 114, 101, 97, 100, 44, 32, 114, 101, 97, 100, 44, 32, 114, 101, 97, 100, 41, 58, 32, 117, 115, 101, 114, 59, 10, 125, 10]
def exV : AV := .tup [.agg [.str exU, .slice 4 0 2 1, .slice 5 0 1 8, .map 3], .int .i64 0]
def exO : List AObj := [.cells [.str [117, 115, 101, 114], .str []] (some 2), .mem (.map [(.agg [.str [100, 111, 99], .str [114, 101, 97, 100]], .int .i64 0, 0)] 1), .cells [.str [117, 115, 101, 114], .str [100, 111, 99]] (some 4),
  .cells [.str [100, 111, 99], .str [114, 101, 97, 100], .int .i64 0, .int .i64 0, .int .i64 0, .int .i64 0, .slice 2 0 1 2, .slice 6 0 1 3] (some 5), .cells [.int .i64 1, .int .i64 0, .str []] (some 6)]
def noV : AV := .tup [.agg [.str [], .nils, .nils, .map 2], .int .i64 0]
def noO : List AObj := [.mem (.map [] 0)]
def exG : List AV → H → Option (AOut × H) := fun args h => match layG g_token_keys 4 (strCells keysL) [.str exT] exV exO args h with
  | some x => some x
  | none => match layG g_token_keys 4 (strCells keysL) [.str exU] exV exO args h with
    | some x => some x
    | none => layG g_token_keys 4 (strCells keysL) [.str []] noV noO args h
set_option maxRecDepth 1000000 in
theorem ex_run : layB [375, 427, 433, 437, 469] exV exO ((ev (env PP ovA) 1500).call (.fn n_table_Compile) [.str exT] HK) = true := by kernel_rfl
end Go.Proofs.YtlbaphapjclkdaaGreatDoor.Ev.C

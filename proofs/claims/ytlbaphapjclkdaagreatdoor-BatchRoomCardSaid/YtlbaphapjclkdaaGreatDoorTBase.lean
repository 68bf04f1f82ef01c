/-
  DERIVED: THE SHELF's CONTRACTS AT THIS DUMP, IN PLAIN WORDS (tools/lay-plain.mjs out of 'TryzShelf.lean', which tools/lay-shelf.mjs wrote): THE SAME DECLARATIONS UNDER THE SAME NAMES: 'import', 'namespace', 'open', 'def', 'theorem' AND NOTHING ELSE: no command of the shelf's: FOR A HAND-IN. Each laying: the table of numbers ('.._ren') and one theorem, a field a fact of the dump's own or the kernel's comparison; each contract: ONE APPLICATION.
-/
import Derived.Test.YtlbaphapjclkdaaGreatDoorProg
import Derived.Room.Shelf.Join48
import Derived.Test.YtlbaphapjclkdaaGreatDoorCode
import Derived.Test.YtlbaphapjclkdaaGreatDoorEvL2
import Derived.Lib.Join
import Derived.Lib.Bytealg
import Derived.Laws.StandIn
namespace Go.Proofs
open Go.Shelf
def Tryz.lays156_ren : Go.Shelf.Ren := ⟨fun | 156 => 64 | 165 => 112 | 166 => 93 | 169 => 95 | 240 => 139 | 241 => 151 | 276 => 176 | 277 => 194 | n => n, fun | 31 => 51 | 9 => 9 | 3 => 3 | 4 => 4 | 0 => 0 | 20 => 20 | 72 => 185 | 76 => 188 | 70 => 183 | 37 => 31 | 75 => 187 | 127 => 258 | 164 => 285 | 5 => 5 | 80 => 92 | n => n, fun | n => n⟩
theorem Tryz.lays156 : Go.Proofs.Lays.n156 Tryz.prog Tryz.lays156_ren := {
  mixed := by kernel_rfl
  f156 := Tryz.func64.trans (congrArg some (by kernel_rfl))
  f165 := Tryz.func112.trans (congrArg some (by kernel_rfl))
  f166 := Tryz.func93.trans (congrArg some (by kernel_rfl))
  f169 := Tryz.func95.trans (congrArg some (by kernel_rfl))
  f240 := Tryz.func139.trans (congrArg some (by kernel_rfl))
  f241 := Tryz.func151.trans (congrArg some (by kernel_rfl))
  f276 := Tryz.func176.trans (congrArg some (by kernel_rfl))
  f277 := Tryz.func194.trans (congrArg some (by kernel_rfl))
  t0 := Tryz.underlying0
  a0 := Tryz.isAgg0
  z0 := Tryz.sizeOf0
  v0 := Tryz.zeroValue0
  t3 := Tryz.underlying3
  a3 := Tryz.isAgg3
  z3 := Tryz.sizeOf3
  v3 := Tryz.zeroValue3
  t4 := Tryz.underlying4
  a4 := Tryz.isAgg4
  z4 := Tryz.sizeOf4
  v4 := Tryz.zeroValue4
  t9 := Tryz.underlying9
  a9 := Tryz.isAgg9
  z9 := Tryz.sizeOf9
  v9 := Tryz.zeroValue9
  t20 := Tryz.underlying20
  a20 := Tryz.isAgg20
  z20 := Tryz.sizeOf20
  v20 := Tryz.zeroValue20
  t31 := Tryz.underlying51
  a31 := Tryz.isAgg51
  z31 := Tryz.sizeOf51
  v31 := Tryz.zeroValue51
  t37 := Tryz.underlying31
  a37 := Tryz.isAgg31
  z37 := Tryz.sizeOf31
  v37 := Tryz.zeroValue31
  t70 := Tryz.underlying183
  a70 := Tryz.isAgg183
  z70 := Tryz.sizeOf183
  v70 := Tryz.zeroValue183
  t72 := Tryz.underlying185
  a72 := Tryz.isAgg185
  z72 := Tryz.sizeOf185
  v72 := Tryz.zeroValue185
  t75 := Tryz.underlying187
  a75 := Tryz.isAgg187
  z75 := Tryz.sizeOf187
  v75 := Tryz.zeroValue187
  t76 := Tryz.underlying188
  a76 := Tryz.isAgg188
  z76 := Tryz.sizeOf188
  v76 := Tryz.zeroValue188
  t127 := Tryz.underlying258
  a127 := Tryz.isAgg258
  z127 := Tryz.sizeOf258
  v127 := Tryz.zeroValue258
  t164 := Tryz.underlying285
  a164 := Tryz.isAgg285
  z164 := Tryz.sizeOf285
  v164 := Tryz.zeroValue285 }
end Go.Proofs

/- What stands for calls of law12: the row that looks for a byte, and the example. -/
namespace Go.Proofs.YtlbaphapjclkdaaGreatDoor.Ev.C
open Go Go.Proofs.YtlbaphapjclkdaaGreatDoor.Ev
set_option linter.unusedSimpArgs false
set_option linter.unusedVariables false
abbrev nAwake : Nat := n_doormanlaw15_awake
/-- the program's words that may be no names -/
def keysL : List (List UInt8) := [[116, 121, 112, 101], [114, 101, 108], [105, 115], [116, 104, 105, 115]]
abbrev KStart (h : H) : Prop := StartG g_token_keys 4 (strCells keysL) h
/-- where a byte is in a text, from a place on; below 0: nowhere -/
def idxB : List UInt8 → UInt8 → Nat → Int
  | [], _, _ => -1
  | b :: l, c, k => if b = c then (k : Int) else idxB l c (k + 1)
theorem idxB_lib : ∀ (l : List UInt8) (c : UInt8) (k : Nat), idxB l c k = if Lib.indexByte l c = -1 then -1 else Lib.indexByte l c + k
  | [], c, k => rfl
  | b :: l, c, k => by
    simp only [idxB, Lib.indexByte]
    by_cases h : b = c
    · subst h; simp
    · rw [if_neg h, idxB_lib l c (k + 1)]
      have hb : (b == c) = false := by simpa using h
      have hge := Lib.indexByte_ge l c
      simp only [hb, Bool.false_eq_true, if_false, beq_iff_eq]
      by_cases h1 : Lib.indexByte l c = -1
      · simp [h1]
      · rw [if_neg h1, if_neg h1, if_neg (by omega)]; omega
def ibs : List AV → H → Option (AOut × H)
  | [.str s, .int .u8 c], h => some (.val (.int .i64 (idxB s (UInt8.ofNat c.toNat) 0)), h)
  | _, _ => none
/-- the runes below 161 that may stand in a name -/
def lettersL : List UInt8 := [97, 98, 99, 100, 101, 102, 103, 104, 105, 106, 107, 108, 109, 110, 111, 112, 113, 114, 115, 116, 117, 118, 119, 120, 121, 122, 65, 66, 67, 68, 69, 70, 71, 72, 73, 74, 75, 76, 77, 78, 79, 80, 81, 82, 83, 84, 85, 86, 87, 88, 89, 90, 48, 49, 50, 51, 52, 53, 54, 55, 56, 57, 95]
def letterB (n : Nat) : Bool := lettersL.any fun b => b.toNat == n
def crG : List AV → H → Option (AOut × H)
  | [.str s, .int .i32 c], h => if s = lettersL ∧ 0 ≤ c ∧ c < 161 then some (.val (.bool (letterB c.toNat)), h) else none
  | _, _ => none
/-- texts of cells -/
def strsOf : List AV → Option (List (List UInt8))
  | [] => some []
  | .str s :: r => (strsOf r).map (s :: ·)
  | _ :: _ => none
def joinG : List AV → H → Option (AOut × H)
  | [.slice o i len 1, .str sep], h => match h.firstCells 1 len (.slice o i len 1) with
    | some cs => match strsOf cs with
      | some l => if 1 ≤ l.length ∧ l.length ≤ 1000 ∧ (Lib.join l sep).length ≤ 1000000 then some (.val (.str (Lib.join l sep)), h) else none
      | none => none
    | none => none
  | _, _ => none
/-- how often a byte stands in a text -/
def countB : List UInt8 → UInt8 → Nat
  | [], _ => 0
  | b :: r, c => (if b = c then 1 else 0) + countB r c
def cntG : List AV → H → Option (AOut × H)
  | [.str s, .int .u8 c], h => some (.val (.int .i64 (countB s (UInt8.ofNat c.toNat) : Int)), h)
  | _, _ => none
def yes : List AV → H → Option (AOut × H) := fun args h => match args with | [] => if startB g_token_keys 4 (strCells keysL) h then some (.val (.bool true), h) else none | _ => none
def ov0 : Ovs := fun f => if f = n_bytealg_IndexByteString then some ibs else if f = n_strings_ContainsRune then some crG else if f = n_strings_Join then some joinG else if f = n_bytealg_CountString then some cntG else if f = nAwake then some yes else none
/-- what is stood for -/
def isOv (f : Nat) : Bool := f == n_bytealg_IndexByteString || f == n_strings_ContainsRune || f == n_strings_Join || f == n_bytealg_CountString || f == nAwake
noncomputable def E0 : Env := Env.mk (table PP) ov0 (tableD PP) (tableR PP)
/-- the program, with the row that looks for a byte; the example may stand for itself -/
structure Std (E : Env) : Prop where
  tT : ∀ {i : Nat} {a : AFunc}, table PP i = some a → E.T i = some a
  tD : ∀ {i : Nat} {a : ADef}, tableD PP i = some a → E.D i = some a
  tR : ∀ {i : Nat} {a : ARec}, tableR PP i = some a → E.R i = some a
  ov : ∀ f, isOv f = false → E.ov f = none
  ibs : E.ov n_bytealg_IndexByteString = some ibs
  cr : E.ov n_strings_ContainsRune = some crG
  join : E.ov n_strings_Join = some joinG
  count : E.ov n_bytealg_CountString = some cntG
theorem E0_ov (i : Nat) : E0.ov i = ov0 i := by unfold E0; rw [env_ov]
theorem std0 : Std E0 where
  tT := fun {i a} h => by unfold E0; rw [env_T]; exact h
  tD := fun {i a} h => by unfold E0; rw [env_D]; exact h
  tR := fun {i a} h => by unfold E0; rw [env_R]; exact h
  ov := fun f h => by
    simp only [isOv, Bool.or_eq_false_iff, beq_eq_false_iff_ne] at h
    rw [E0_ov]
    unfold ov0
    rw [if_neg h.1.1.1.1, if_neg h.1.1.1.2, if_neg h.1.1.2, if_neg h.1.2, if_neg h.2]
  ibs := by rw [E0_ov]; rfl
  cr := by rw [E0_ov]; rfl
  join := by rw [E0_ov]; rfl
  count := by rw [E0_ov]; rfl
def ov1 : Ovs := fun f => if f = n_bytealg_IndexByteString then some ibs else if f = n_strings_ContainsRune then some crG else if f = n_strings_Join then some joinG else if f = n_bytealg_CountString then some cntG else none
noncomputable def E1 : Env := Env.mk (table PP) ov1 (tableD PP) (tableR PP)
theorem E1_ov (i : Nat) : E1.ov i = ov1 i := by unfold E1; rw [env_ov]
theorem std1 : Std E1 where
  tT := fun {i a} h => by unfold E1; rw [env_T]; exact h
  tD := fun {i a} h => by unfold E1; rw [env_D]; exact h
  tR := fun {i a} h => by unfold E1; rw [env_R]; exact h
  ov := fun f h => by
    simp only [isOv, Bool.or_eq_false_iff, beq_eq_false_iff_ne] at h
    rw [E1_ov]
    unfold ov1
    rw [if_neg h.1.1.1.1, if_neg h.1.1.1.2, if_neg h.1.1.2, if_neg h.1.2]
  ibs := by rw [E1_ov]; rfl
  cr := by rw [E1_ov]; rfl
  join := by rw [E1_ov]; rfl
  count := by rw [E1_ov]; rfl
theorem tT {i : Nat} {a : AFunc} (h : table PP i = some a) : E0.T i = some a := std0.tT h
theorem ovn (f : Nat) (h : isOv f = false := by decide) : E0.ov f = none := std0.ov f h
theorem awake_call {h : H} (ks : KStart h) : WCall E0 nAwake [] h fun r h' => r = .val (.bool true) ∧ h' = h :=
  WCall_ov (g := yes) (by rw [E0_ov]; rfl) (by simp [yes, startB_of ks]) ⟨rfl, rfl⟩
theorem ibs_call {E : Env} (he : Std E) (s : List UInt8) (c : UInt8) (h : H) : WCall E n_bytealg_IndexByteString [.str s, .int .u8 (c.toNat : Int)] h fun r h' => r = .val (.int .i64 (idxB s c 0)) ∧ h' = h :=
  WCall_ov (g := ibs) he.ibs rfl ⟨by simp, rfl⟩
theorem cr_call {E : Env} (he : Std E) (c : Nat) (hc : c < 161) (h : H) : WCall E n_strings_ContainsRune [.str lettersL, .int .i32 (c : Int)] h fun r h' => r = .val (.bool (letterB c)) ∧ h' = h :=
  WCall_ov (g := crG) he.cr (by
    unfold crG
    simp only
    rw [if_pos ⟨trivial, by omega, by omega⟩, Int.toNat_natCast]) ⟨rfl, rfl⟩
end Go.Proofs.YtlbaphapjclkdaaGreatDoor.Ev.C

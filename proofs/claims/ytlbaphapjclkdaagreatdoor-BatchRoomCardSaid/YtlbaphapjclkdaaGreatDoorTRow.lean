/- BatchRoom: all that is run in the kernel, put together. -/
import Derived.Test.YtlbaphapjclkdaaGreatDoorTRoom
import Derived.Test.YtlbaphapjclkdaaGreatDoorTAr
import Derived.Test.YtlbaphapjclkdaaGreatDoorTCo
import Derived.Test.YtlbaphapjclkdaaGreatDoorTEa
import Derived.Test.YtlbaphapjclkdaaGreatDoorTEb
import Derived.Test.YtlbaphapjclkdaaGreatDoorTEc
import Derived.Test.YtlbaphapjclkdaaGreatDoorTEd
import Derived.Test.YtlbaphapjclkdaaGreatDoorTEe
import Derived.Test.YtlbaphapjclkdaaGreatDoorTEf
import Derived.Test.YtlbaphapjclkdaaGreatDoorTEg
import Derived.Test.YtlbaphapjclkdaaGreatDoorTEh
import Derived.Test.YtlbaphapjclkdaaGreatDoorTEi
import Derived.Test.YtlbaphapjclkdaaGreatDoorTEj
import Derived.Test.YtlbaphapjclkdaaGreatDoorTEk
import Derived.Test.YtlbaphapjclkdaaGreatDoorTFa
import Derived.Test.YtlbaphapjclkdaaGreatDoorTFb
import Derived.Test.YtlbaphapjclkdaaGreatDoorTFc
import Derived.Test.YtlbaphapjclkdaaGreatDoorTFd
import Derived.Test.YtlbaphapjclkdaaGreatDoorCards
import Derived.Test.YtlbaphapjclkdaaGreatDoorTie
import Derived.WalkKit
import Derived.ProofKit
import Derived.OpenShut
import Derived.ShutString
import Derived.ChangeOld
import Derived.Below
import Derived.SizedLaws
import Derived.Deep.DeepHandedRow
import Derived.Deep.DeepWitnessRowRef
import Derived.Lib.LaidTab
import Derived.Lib.LaidIn
import Derived.Lib.LaidU8
namespace Go.Proofs.YtlbaphapjclkdaaGreatDoor.Ev.C
open Go Go.Proofs.YtlbaphapjclkdaaGreatDoor.Ev
set_option linter.unusedVariables false
theorem room_one {B : H} (hst : startX = some B) {lo hi : Nat} (h : chainAll lo hi = true) {j : Nat} (a : lo ≤ j) (b : j ≤ hi) (h1 : 1 ≤ j) : ∃ C, RoomAt B j C := by
  obtain ⟨B', e, k⟩ := chain_all h
  rw [hst] at e; cases e
  obtain ⟨C, C', p1, p0, p2, p3⟩ := chain_at _ _ _ _ _ k (j - 1) (by omega)
  rw [show 1 + (j - 1) = j by omega] at p2 p3
  exact ⟨C, p1, p0, ⟨C', p2⟩, (p3 a b).1, (p3 a b).2⟩
theorem room_all : ∃ B, startX = some B ∧ ∀ j, 1 ≤ j → j ≤ 69 → ∃ C, RoomAt B j C := by
  obtain ⟨B, e, _⟩ := chain_all chain_1
  refine ⟨B, e, fun j h1 h2 => ?_⟩
  by_cases a1 : j ≤ 22
  · exact room_one e chain_1 h1 a1 h1
  by_cases a2 : j ≤ 32
  · exact room_one e chain_2 (by omega) a2 h1
  by_cases a3 : j ≤ 39
  · exact room_one e chain_3 (by omega) a3 h1
  by_cases a4 : j ≤ 45
  · exact room_one e chain_4 (by omega) a4 h1
  by_cases a5 : j ≤ 50
  · exact room_one e chain_5 (by omega) a5 h1
  by_cases a6 : j ≤ 54
  · exact room_one e chain_6 (by omega) a6 h1
  by_cases a7 : j ≤ 57
  · exact room_one e chain_7 (by omega) a7 h1
  by_cases a8 : j ≤ 60
  · exact room_one e chain_8 (by omega) a8 h1
  by_cases a9 : j ≤ 63
  · exact room_one e chain_9 (by omega) a9 h1
  by_cases a10 : j ≤ 66
  · exact room_one e chain_10 (by omega) a10 h1
  exact room_one e chain_11 (by omega) h2 h1
theorem tails : ∀ q, q < 7 → roomB q = true
  | 0, _ => tail_0
  | 1, _ => tail_1
  | 2, _ => tail_2
  | 3, _ => tail_3
  | 4, _ => tail_4
  | 5, _ => tail_5
  | 6, _ => tail_6
  | q + 7, h => by omega
theorem ovR_ok : ∀ B, B ≠ 0 → OvOK PP B ovR := by
  intro B hB f g hf args h r h' hg
  unfold ovR at hf
  split at hf
  · rename_i e; subst e; cases hf
    exact layG_ok mixed (table_ok _ _) ovA_ok hB (table_plain _ _) (by decide) (by decide) (by decide) comp_run hg
  · exact ov0_ok B hB f g hf args h r h' hg
theorem ER_env : ER = env PP ovR := by unfold ER env; rfl
end Go.Proofs.YtlbaphapjclkdaaGreatDoor.Ev.C

/- The answer of the law BatchRoom, for every input: over the interpreter. -/
namespace Go.Proofs.YtlbaphapjclkdaaGreatDoor
open Go Go.Proofs.YtlbaphapjclkdaaGreatDoor.Ev
set_option linter.unusedVariables false
theorem batchRoom_answer (a0 a1 : Int) (w0 : (Lit.int .u8 a0).wf = true) (w1 : (Lit.int .u8 a1).wf = true) :
    WCall (env C.PP C.ovR) C.n_doormanlaw15_BatchRoom [.int .u8 a0, .int .u8 a1] C.HK fun r _ => r = .val (.bool true) := by
  obtain ⟨x, y⟩ := u8_arg w0
  obtain ⟨x', y'⟩ := u8_arg w1
  obtain ⟨n, rfl⟩ := Int.eq_ofNat_of_zero_le x
  obtain ⟨m, rfl⟩ := Int.eq_ofNat_of_zero_le x'
  obtain ⟨B, hst, hch⟩ := C.room_all
  rw [← C.ER_env]
  exact C.room_walk (by omega) (by omega) hst hch C.tails
end Go.Proofs.YtlbaphapjclkdaaGreatDoor

/- The law BatchRoom holds for every input: its call returns true, on every tape. Conditions: none but those of the given statement itself (arguments of the types of its parameters). -/
namespace Go.Proofs.YtlbaphapjclkdaaGreatDoor.batchRoom
open Go.ChangeShapes Go.WideShapes Go.ChangeAt Go.RowKit Go.Proofs.YtlbaphapjclkdaaGreatDoor.Ev
open Go.ChangeMaps (open_string shut_string)
set_option linter.unusedVariables false
theorem own : ownKnob Tryz.prog.godebug = none := by kernel_rfl
theorem laidOut : laidOutB Tryz.prog = true := by kernel_rfl
theorem gKeys : Tryz.prog.globalNamed "doorman/token.keys" = some Go.Proofs.YtlbaphapjclkdaaGreatDoor.Ev.C.g_token_keys := by kernel_rfl
theorem gType : (Tryz.prog.globals[Go.Proofs.YtlbaphapjclkdaaGreatDoor.Ev.C.g_token_keys]?).map (·.type) = some 51 := by kernel_rfl
/-- a world that holds the list and the tables -/
noncomputable def laidWorld (os : Os) : World :=
  let N := (World.settled Tryz.prog os).heap.size
  let w0 := World.holding Tryz.prog os ⟨#[.cells #[.string ⟨#[116, 121, 112, 101]⟩, .string ⟨#[114, 101, 108]⟩, .string ⟨#[105, 115]⟩, .string ⟨#[116, 104, 105, 115]⟩] 9], #[], []⟩
  let put (h : Array Obj) (g : Nat) (cs : Array Value) : Array Obj := h.modify g fun
      | .cells _ t frozen => .cells cs t frozen
      | o => o
  let h1 := put w0.heap Go.Proofs.YtlbaphapjclkdaaGreatDoor.Ev.C.g_token_keys #[.slice (some ⟨N, 0, none⟩) 4 4]
  let h2 := put h1 Go.Proofs.YtlbaphapjclkdaaGreatDoor.Ev.C.g_utf8_first (Lib.firstTab.map fun z => Value.int .u8 z).toArray
  let h3 := put h2 Go.Proofs.YtlbaphapjclkdaaGreatDoor.Ev.C.g_utf8_acceptRanges ((List.range 16).flatMap fun i => [Value.int .u8 (Lib.accLo i), Value.int .u8 (Lib.accHi i)]).toArray
  { w0 with heap := h3 }
set_option maxRecDepth 100000 in
theorem laid_met (os : Os) : laidMet Tryz.prog Rows.batchRoomRow.laid ((laidWorld os).forCall (fun _ _ => 0) ⟨#[], #[.int .u8 0, .int .u8 0], []⟩).memory :=
  (LaidIn.of_run (l := Rows.batchRoomRow.laid) [Go.Proofs.YtlbaphapjclkdaaGreatDoor.Ev.C.g_token_keys, Go.Proofs.YtlbaphapjclkdaaGreatDoor.Ev.C.g_utf8_first, Go.Proofs.YtlbaphapjclkdaaGreatDoor.Ev.C.g_utf8_acceptRanges, (World.settled Tryz.prog os).heap.size] 8 (by kernel_rfl) (by kernel_rfl) (by kernel_rfl) (by kernel_rfl)).met
set_option maxRecDepth 100000 in
theorem reads (os : Os) {H : Type} (enc : TypeId × Value → H) : ∃ places, DataW.whole enc Tryz.prog ((laidWorld os).forCall (fun _ _ => 0) ⟨#[], #[.int .u8 0, .int .u8 0], []⟩).memory Tryz.f3.params.toList Rows.batchRoomSpec.vars false (#[.int .u8 0, .int .u8 0] : Array Value).toList 8 = some ([.lit (.int .u8 0), .lit (.int .u8 0)], [], places) := by
  have hw : (DataW.whole enc Tryz.prog ((laidWorld os).forCall (fun _ _ => 0) ⟨#[], #[.int .u8 0, .int .u8 0], []⟩).memory Tryz.f3.params.toList Rows.batchRoomSpec.vars false (#[.int .u8 0, .int .u8 0] : Array Value).toList 8).map (fun x => (x.1, x.2.1)) = some ([.lit (.int .u8 0), .lit (.int .u8 0)], []) := by kernel_rfl
  obtain ⟨⟨x1, x2, x3⟩, hx, hx1⟩ := Option.map_eq_some_iff.1 hw
  simp only [Prod.mk.injEq] at hx1
  obtain ⟨rfl, rfl⟩ := hx1
  exact ⟨x3, hx⟩
set_option maxRecDepth 100000 in
theorem lifted (os : Os) (started : os.Started) (H : Type) (enc : TypeId × Value → H) (F : Stop.Interp) :
    ReturnsInHanded {} Tryz.checked os 3 .any ((OpenSpec.ofChange Rows.batchRoomSpec).preRow enc Tryz.prog Tryz.f3 Rows.batchRoomRow.domain false Rows.batchRoomRow.laid) (((OpenSpec.ofChange Rows.batchRoomSpec).at F).post enc Tryz.prog Tryz.f3 false true false false) := by
  obtain ⟨places, hx⟩ := reads os enc
  refine returnsInHanded_of_row (C := Tryz.checked) (s := OpenSpec.ofChange Rows.batchRoomSpec) own started (by kernel_rfl) Tryz.func3
    (witness_row_atRef (enc := enc) (C := Tryz.checked) false (laidWorld os) #[.int .u8 0, .int .u8 0] rfl (by kernel_rfl) (by kernel_rfl) (by kernel_rfl)
      (OpenSpec.preRow_of_cond 8 hx (by kernel_rfl) (fun k hk => by cases hk) (by kernel_rfl) (laid_met os))) ?_
  intro W base args ds gs before hval0 hW hcnd _ hsz0 hL _ _
  have hsz : (DataW.weightsEach Tryz.prog (Tryz.f3.params.toList ++ Rows.batchRoomSpec.plain.varTypes Tryz.prog) (ds ++ gs)).all (· ≤ reachBytes) = true := hsz0
  have hval : ∀ (j : Nat) t v, Tryz.f3.params[j]? = some t → args[j]? = some v → Value.okWide Tryz.prog W .any base t v := hval0
  have hW' := hW
  obtain ⟨p, q, hA0, hV, rfl, hfz, hnd⟩ := hW
  have hA : DataW.TrodAll enc Tryz.prog W 0 (fun _ => true) true Tryz.f3.params.toList args.toList ds p := hA0
  rw [Tryz.params3] at hA hval hsz
  obtain ⟨v0, vs0, d0, ds0, p0, q0, hargs, rfl, rfl, h0, r0⟩ := trodAll_cons hA
  obtain ⟨v1, vs1, d1, ds1, p1, q1, rfl, rfl, rfl, h1, r1⟩ := trodAll_cons r0
  obtain ⟨rfl, rfl, rfl⟩ := trodAll_nil r1
  obtain rfl : args = #[v0, v1] := by cases args; simp_all
  obtain ⟨rfl, rfl⟩ := trodVars_none hV
  obtain ⟨m0, R0⟩ : ∃ m, Rel Tryz.prog W.heap.size m Go.Proofs.YtlbaphapjclkdaaGreatDoor.Ev.C.HK W := by
    obtain ⟨mS, hr⟩ := start_laid2 (P := Tryz.prog) (W := W) (name := "doorman/token.keys") (l := Go.Proofs.YtlbaphapjclkdaaGreatDoor.Ev.C.keysL) hL gKeys gType Tryz.underlying51 (Tryz.underlying9) (by kernel_rfl) (by decide)
    exact ⟨mS, hr⟩
  have hpos : 0 < W.heap.size := Nat.lt_of_le_of_lt (Nat.zero_le _) (R0.gb (StartG.hg _ _ _).glob).1
  obtain ⟨a0, rfl, rfl, rfl, w0⟩ := open_int Tryz.underlying5 (hval 0 5 v0 rfl rfl) h0
  obtain ⟨a1, rfl, rfl, rfl, w1⟩ := open_int Tryz.underlying5 (hval 1 5 v1 rfl rfl) h1
  clear hA0 hval0 hsz0 hsz
  refine (law_calls (P := Tryz.prog) (ov := Go.Proofs.YtlbaphapjclkdaaGreatDoor.Ev.C.ovR) (Tryz.checked).mixed Go.Proofs.YtlbaphapjclkdaaGreatDoor.Ev.C.ovR_ok Tryz.func3 (by decide +kernel) (by kernel_rfl) (Nat.pos_iff_ne_zero.1 hpos) R0 (.cons (.int .u8 a0) (.cons (.int .u8 a1) .nil)) (batchRoom_answer a0 a1 w0 w1)).mono fun e W' ⟨he, bel⟩ => ?_
  subst he
  exact ⟨_, rfl, _, _, _, [], _, [], hW', trodAll_mk1 (shut_bool Tryz.underlying4 _), (trodAll_cons_mk (shut_int Tryz.underlying5 w0) (trodAll_cons_mk (shut_int Tryz.underlying5 w1) trodAll_mk0)), rfl, bel.frame _, fun h => by cases h⟩
theorem said : Rows.BatchRoomSaid :=
  OpenClaim.holds_of_cond 3 Tryz.f3 rfl rfl rfl rfl rfl rfl rfl ⟨rfl, rfl, rfl, rfl, rfl⟩ rfl rfl rfl rfl rfl (by kernel_rfl) Tryz.func3 (by kernel_rfl)
    (of_decide_eq_true (by kernel_rfl)) (by unfold Func.isWrapper; first | (rw [if_pos (by decide +kernel)]; kernel_rfl) | (rw [if_neg (by decide +kernel)]; exact ⟨rfl, rfl⟩))
    (fun os started H enc _ F => by rw [OpenClaim.pre_eq_preRow]; exact lifted os started H enc F)
theorem plain (f : FuncId) (fn : Func) (hf : Tryz.pinned.checked.prog.funcNamed "doorman/doormanlaw15.BatchRoom" = some f) (hfn : Tryz.pinned.checked.prog.funcs[f]? = some fn) :
    true = Tryz.pinned.checked.prog.looks [] ∧ ∀ (j : Nat) t, fn.params[j]? = some t → Tryz.pinned.checked.prog.wantsStandIn t = false := by
  obtain rfl : f = 3 := Option.some.inj ((show Tryz.prog.funcNamed "doorman/doormanlaw15.BatchRoom" = some 3 by kernel_rfl).symm.trans hf) |>.symm
  obtain rfl : fn = Tryz.f3 := (Option.some.inj (Tryz.func3.symm.trans hfn)).symm
  refine ⟨by kernel_rfl, fun j t ht => ?_⟩
  rw [Tryz.params3] at ht
  have hm : t ∈ #[5, 5] := Array.mem_of_getElem? ht
  simp only [List.mem_toArray, List.mem_cons, List.not_mem_nil, or_false] at hm
  rcases hm with rfl | rfl
  · exact (show Tryz.prog.wantsStandIn 5 = false by kernel_rfl)
  · exact (show Tryz.prog.wantsStandIn 5 = false by kernel_rfl)
theorem card : Rows.BatchRoomCardSaid :=
  Claim7.holds_tied_plain_at .later [] _ _ _ _ said (fun _ h => by cases h) (by kernel_rfl) (fun _ h => by cases h) batchRoom_row_tie rfl ⟨rfl, rfl⟩ (by kernel_rfl) rfl plain (by kernel_rfl)
end Go.Proofs.YtlbaphapjclkdaaGreatDoor.batchRoom
namespace Go.Proofs.YtlbaphapjclkdaaGreatDoor
theorem batchRoom_holds : Rows.BatchRoomCardSaid := batchRoom.card
end Go.Proofs.YtlbaphapjclkdaaGreatDoor


/- The law ReplyTakes holds for every input: its call returns true, on every tape. Conditions: none but those of the given statement itself (arguments of the types of its parameters). -/
import Derived.Test.YthhibhhpcjggnabTAnsRTakes
import Derived.WalkKit
import Derived.ProofKit
import Derived.OpenShut
import Derived.ShutString
import Derived.ChangeOld
import Derived.Below
import Derived.SizedLaws
namespace Go.Proofs.Ythhibhhpcjggnab.replyTakes
open Go.ChangeShapes Go.WideShapes Go.ChangeAt Go.RowKit Go.Proofs.Ythhibhhpcjggnab.Ev
open Go.ChangeMaps (open_string shut_string)
set_option linter.unusedVariables false
theorem own : ownKnob Try.prog.godebug = none := by kernel_rfl
theorem laidOut : laidOutB Try.prog = true := by kernel_rfl
set_option maxRecDepth 100000 in
theorem lifted (os : Os) (started : os.Started) (H : Type) (enc : TypeId × Value → H) :
    ReturnsInHanded {} Try.checked os 9 .any (Rows.replyTakesSpec.pre6 enc Try.prog Try.f9 Rows.replyTakesRow.domain false) (Rows.replyTakesSpec.post enc Try.prog Try.f9 false true false false) := by
  refine returnsInHanded_of_change_sized (C := Try.checked) own started (by kernel_rfl) Try.func9
    (ChangeSpec.witness6 (enc := enc) (C := Try.checked) false ⟨#[], #[.slice none 0 0, .agg #[.int .i64 0, .int .i64 0, .int .i64 0, .bool false, .slice none 0 0, .slice none 0 0], .int .u16 0, .slice none 0 0], []⟩ 8 (by kernel_rfl) (by kernel_rfl) (by kernel_rfl) (by kernel_rfl)) ?_
  intro W base args ds gs before hval0 hW hcnd hsz0 _
  have hsz : (DataW.weightsEach Try.prog (Try.f9.params.toList ++ Rows.replyTakesSpec.plain.varTypes Try.prog) (ds ++ gs)).all (· ≤ reachBytes) = true := hsz0
  have hval : ∀ (j : Nat) t v, Try.f9.params[j]? = some t → args[j]? = some v → Value.okWide Try.prog W .any base t v := hval0
  have hW' := hW
  obtain ⟨p, q, hA0, hV, rfl, hfz, hnd⟩ := hW
  have hA : DataW.TrodAll enc Try.prog W 0 (fun _ => true) true Try.f9.params.toList args.toList ds p := hA0
  rw [Try.params9] at hA hval hsz
  obtain ⟨v0, vs0, d0, ds0, p0, q0, hargs, rfl, rfl, h0, r0⟩ := trodAll_cons hA
  obtain ⟨v1, vs1, d1, ds1, p1, q1, rfl, rfl, rfl, h1, r1⟩ := trodAll_cons r0
  obtain ⟨v2, vs2, d2, ds2, p2, q2, rfl, rfl, rfl, h2, r2⟩ := trodAll_cons r1
  obtain ⟨v3, vs3, d3, ds3, p3, q3, rfl, rfl, rfl, h3, r3⟩ := trodAll_cons r2
  obtain ⟨rfl, rfl, rfl⟩ := trodAll_nil r3
  obtain rfl : args = #[v0, v1, v2, v3] := by cases args; simp_all
  obtain ⟨rfl, rfl⟩ := trodVars_none hV
  have R0 : Rel W.heap.size M0 H0 W := Rel.start (Nat.le_refl _)
  have okw0 := (hval 0 24 v0 rfl rfl)
  obtain ⟨a0, len0, cap0, rfl⟩ := okWide_slice Try.underlying24 okw0
  have k0 := h0
  have lt0 : ∀ x ∈ p0, x.block < W.heap.size := by obtain ⟨m, hm⟩ := k0; exact DataW.trod_lt m _ _ _ hm
  obtain ⟨z0, w0⟩ : ∃ zs, IntRow W .u8 a0 len0 cap0 zs := by
    obtain ⟨fuel, hf⟩ := h0
    rcases open_ints Try.underlying24 Try.underlying5 (by kernel_rfl) hf with ⟨hcs, _⟩ | ⟨x, l, c, zs, hcs, _, hl, hm, hz, _, hcell, hwz⟩
    · simp [Value.cells] at hcs
      obtain ⟨rfl, rfl, rfl⟩ := hcs
      exact ⟨[], .inl ⟨rfl, rfl, rfl, rfl⟩⟩
    · simp [Value.cells] at hcs
      obtain ⟨rfl, rfl, rfl⟩ := hcs
      exact ⟨zs, .inr ⟨_, rfl, okWide_block Try.underlying24 okw0, hl, hm, by simpa using hz, hcell, hwz⟩⟩
  have y0 : len0 * 1 ≤ 140737488351232 := sized_ints hsz (j := 0) (t := 24) rfl rfl Try.underlying24 Try.underlying5 (by kernel_rfl) (by kernel_rfl) h0
  obtain ⟨m1, hp1, x0, R1, l0, K0, V0, S0, T0⟩ := open_ints_arg R0 w0
  have k1 := h1
  have lt1 : ∀ x ∈ p1, x.block < W.heap.size := by obtain ⟨m, hm⟩ := k1; exact DataW.trod_lt m _ _ _ hm
  obtain ⟨c1_0, c1_1, c1_2, c1_3, c1_4, c1_5, _, _, _, _, _, _, _, rfl, e1_0, e1_1, e1_2, e1_3, e1_4, e1_5, ok1_4, ok1_5⟩ := open_agg6 (t0 := 28) (t1 := 3) (t2 := 3) (t3 := 4) (t4 := 23) (t5 := 24) Try.underlying60 (by kernel_rfl) (by kernel_rfl) (by kernel_rfl) (hval 1 60 v1 rfl rfl) h1
  obtain ⟨a1_0, hb1_0, _, w1_0⟩ := DataW.trod_int Try.underlying28 e1_0
  obtain rfl : c1_0 = .int .i64 a1_0 := by simpa using hb1_0
  obtain ⟨a1_1, hb1_1, _, w1_1⟩ := DataW.trod_int Try.underlying3 e1_1
  obtain rfl : c1_1 = .int .i64 a1_1 := by simpa using hb1_1
  obtain ⟨a1_2, hb1_2, _, w1_2⟩ := DataW.trod_int Try.underlying3 e1_2
  obtain rfl : c1_2 = .int .i64 a1_2 := by simpa using hb1_2
  obtain ⟨a1_3, hb1_3, _⟩ := DataW.trod_bool Try.underlying4 e1_3
  obtain rfl : c1_3 = .bool a1_3 := by simpa using hb1_3
  obtain ⟨b1_4, len1_4, cap1_4, z1_4, rfl, w1_4⟩ : ∃ a len cap zs, c1_4 = .slice a len cap ∧ StrRow W a len cap zs := by
    rcases open_strings Try.underlying23 Try.underlying9 (by kernel_rfl) e1_4 with ⟨hcs, _⟩ | ⟨x, l, c, zs, hcs, _, hl, hm, hz, _, hcell, hwz⟩
    · exact ⟨none, 0, 0, [], by simpa using hcs, .inl ⟨rfl, rfl, rfl, rfl⟩⟩
    · obtain rfl : c1_4 = .slice (some x) l c := by simpa using hcs
      exact ⟨some x, l, c, zs, rfl, .inr ⟨_, rfl, cell_block Try.underlying23 ok1_4, hl, hm, by simpa using hz, hcell, hwz⟩⟩
  obtain ⟨m2, hp2, x1_4, R2, l1, K1, V1_4, S1_4, T1_4⟩ := open_strs_arg R1 w1_4
  obtain ⟨b1_5, len1_5, cap1_5, z1_5, rfl, w1_5⟩ : ∃ a len cap zs, c1_5 = .slice a len cap ∧ IntRow W .u8 a len cap zs := by
    rcases open_ints Try.underlying24 Try.underlying5 (by kernel_rfl) e1_5 with ⟨hcs, _⟩ | ⟨x, l, c, zs, hcs, _, hl, hm, hz, _, hcell, hwz⟩
    · exact ⟨none, 0, 0, [], by simpa using hcs, .inl ⟨rfl, rfl, rfl, rfl⟩⟩
    · obtain rfl : c1_5 = .slice (some x) l c := by simpa using hcs
      exact ⟨some x, l, c, zs, rfl, .inr ⟨_, rfl, cell_block Try.underlying24 ok1_5, hl, hm, by simpa using hz, hcell, hwz⟩⟩
  obtain ⟨m3, hp3, x1_5, R3, l2, K2, V1_5, S1_5, T1_5⟩ := open_ints_arg R2 w1_5
  obtain ⟨a2, rfl, rfl, rfl, w2⟩ := open_int Try.underlying55 (hval 2 55 v2 rfl rfl) h2
  have okw3 := (hval 3 24 v3 rfl rfl)
  obtain ⟨a3, len3, cap3, rfl⟩ := okWide_slice Try.underlying24 okw3
  have k3 := h3
  have lt3 : ∀ x ∈ p3, x.block < W.heap.size := by obtain ⟨m, hm⟩ := k3; exact DataW.trod_lt m _ _ _ hm
  obtain ⟨z3, w3⟩ : ∃ zs, IntRow W .u8 a3 len3 cap3 zs := by
    obtain ⟨fuel, hf⟩ := h3
    rcases open_ints Try.underlying24 Try.underlying5 (by kernel_rfl) hf with ⟨hcs, _⟩ | ⟨x, l, c, zs, hcs, _, hl, hm, hz, _, hcell, hwz⟩
    · simp [Value.cells] at hcs
      obtain ⟨rfl, rfl, rfl⟩ := hcs
      exact ⟨[], .inl ⟨rfl, rfl, rfl, rfl⟩⟩
    · simp [Value.cells] at hcs
      obtain ⟨rfl, rfl, rfl⟩ := hcs
      exact ⟨zs, .inr ⟨_, rfl, okWide_block Try.underlying24 okw3, hl, hm, by simpa using hz, hcell, hwz⟩⟩
  have y3 : len3 * 1 ≤ 140737488351232 := sized_ints hsz (j := 3) (t := 24) rfl rfl Try.underlying24 Try.underlying5 (by kernel_rfl) (by kernel_rfl) h3
  obtain ⟨m4, hp4, x3, R4, l3, K3, V3, S3, T3⟩ := open_ints_arg R3 w3
  clear hA0 hval0 hsz0 hsz
  refine (law_calls (P := Try.prog) (ov := ovs) (Try.checked).mixed ovs_ok Try.func9 (by decide +kernel) (by kernel_rfl) R4 (.cons (VRel.mono l3 (VRel.mono l2 (VRel.mono l1 V0))) (.cons (.agg (.cons (.int .i64 a1_0) (.cons (.int .i64 a1_1) (.cons (.int .i64 a1_2) (.cons (.bool a1_3) (.cons (VRel.mono l3 (VRel.mono l2 V1_4)) (.cons (VRel.mono l3 V1_5) .nil))))))) (.cons (.int .u16 a2) (.cons V3 .nil)))) (replyTakes_answer len0 z0 a1_0 a1_1 a1_2 a1_3 len1_4 z1_4 len1_5 z1_5 a2 len3 z3 R4.wf (IntRow.wf w0) y0 (Sl.keep (Sl.keep (Sl.keep S0 K1 T0) K2 (Slot.keep T0 K1 fun o ho => Nat.lt_of_lt_of_le ho K1.n)) K3 (Slot.keep (Slot.keep T0 K1 fun o ho => Nat.lt_of_lt_of_le ho K1.n) K2 fun o ho => Nat.lt_of_lt_of_le ho K2.n)) (Slot.keep (Slot.keep (Slot.keep T0 K1 fun o ho => Nat.lt_of_lt_of_le ho K1.n) K2 fun o ho => Nat.lt_of_lt_of_le ho K2.n) K3 fun o ho => Nat.lt_of_lt_of_le ho K3.n) w1_0 w1_1 w1_2 (StrRow.lenLe w1_4) (StrRow.size w1_4) (Sl.keep (Sl.keep S1_4 K2 T1_4) K3 (Slot.keep T1_4 K2 fun o ho => Nat.lt_of_lt_of_le ho K2.n)) (Slot.keep (Slot.keep T1_4 K2 fun o ho => Nat.lt_of_lt_of_le ho K2.n) K3 fun o ho => Nat.lt_of_lt_of_le ho K3.n) (IntRow.lenLe w1_5) (IntRow.wf w1_5) (Sl.keep S1_5 K3 T1_5) (Slot.keep T1_5 K3 fun o ho => Nat.lt_of_lt_of_le ho K3.n) w2 (IntRow.wf w3) y3 S3 T3)).mono fun e W' ⟨he, bel⟩ => ?_
  subst he
  exact ⟨_, rfl, _, _, _, [], _, [], hW', trodAll_mk1 (shut_bool Try.underlying4 _), (trodAll_cons_mk (Below.trod laidOut (by kernel_rfl) (of_decide_eq_true (by kernel_rfl)) k0 bel lt0) (trodAll_cons_mk (Below.trod laidOut (by kernel_rfl) (of_decide_eq_true (by kernel_rfl)) k1 bel lt1) (trodAll_cons_mk (shut_int Try.underlying55 w2) (trodAll_cons_mk (Below.trod laidOut (by kernel_rfl) (of_decide_eq_true (by kernel_rfl)) k3 bel lt3) trodAll_mk0)))), rfl, bel.frame _, fun h => by cases h⟩
theorem over : Rows.replyTakesRow.holds Try.pinned (OpenSpec.ofChange Rows.replyTakesSpec) :=
  OpenClaim.holds_of_wide 9 Try.f9 rfl rfl rfl rfl rfl rfl rfl ⟨rfl, rfl, rfl, rfl, rfl⟩ rfl rfl rfl rfl rfl (by kernel_rfl) Try.func9 (by kernel_rfl)
    (of_decide_eq_true (by kernel_rfl)) (by unfold Func.isWrapper; first | (rw [if_pos (by decide +kernel)]; kernel_rfl) | (rw [if_neg (by decide +kernel)]; exact ⟨rfl, rfl⟩))
    (fun os started H enc _ => lifted os started H enc)
theorem proved : Rows.ReplyTakesSaid := over
end Go.Proofs.Ythhibhhpcjggnab.replyTakes
namespace Go.Proofs.Ythhibhhpcjggnab
theorem replyTakes_holds : Rows.ReplyTakesSaid := replyTakes.proved
end Go.Proofs.Ythhibhhpcjggnab


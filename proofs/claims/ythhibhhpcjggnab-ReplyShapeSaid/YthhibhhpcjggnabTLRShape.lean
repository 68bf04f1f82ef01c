/- The law ReplyShape holds for every input: its call returns true, on every tape. Conditions: none but those of the given statement itself (arguments of the types of its parameters). -/
import Derived.Test.YthhibhhpcjggnabTAnsRShape
import Derived.WalkKit
import Derived.ProofKit
import Derived.OpenShut
import Derived.ShutString
import Derived.ChangeOld
import Derived.Below
import Derived.SizedLaws
namespace Go.Proofs.Ythhibhhpcjggnab.replyShape
open Go.ChangeShapes Go.WideShapes Go.ChangeAt Go.RowKit Go.Proofs.Ythhibhhpcjggnab.Ev
open Go.ChangeMaps (open_string shut_string)
set_option linter.unusedVariables false
theorem own : ownKnob Try.prog.godebug = none := by kernel_rfl
theorem laidOut : laidOutB Try.prog = true := by kernel_rfl
set_option maxRecDepth 100000 in
theorem lifted (os : Os) (started : os.Started) (H : Type) (enc : TypeId × Value → H) :
    ReturnsInHanded {} Try.checked os 10 .any (Rows.replyShapeSpec.pre6 enc Try.prog Try.f10 Rows.replyShapeRow.domain false) (Rows.replyShapeSpec.post enc Try.prog Try.f10 false true false false) := by
  refine returnsInHanded_of_change_sized (C := Try.checked) own started (by kernel_rfl) Try.func10
    (ChangeSpec.witness6 (enc := enc) (C := Try.checked) false ⟨#[], #[.int .u8 0, .int .u8 0, .int .u16 0, .agg #[.int .i64 0, .int .i64 0, .int .i64 0, .bool false, .slice none 0 0, .slice none 0 0]], []⟩ 8 (by kernel_rfl) (by kernel_rfl) (by kernel_rfl) (by kernel_rfl)) ?_
  intro W base args ds gs before hval0 hW hcnd hsz0 _
  have hsz : (DataW.weightsEach Try.prog (Try.f10.params.toList ++ Rows.replyShapeSpec.plain.varTypes Try.prog) (ds ++ gs)).all (· ≤ reachBytes) = true := hsz0
  have hval : ∀ (j : Nat) t v, Try.f10.params[j]? = some t → args[j]? = some v → Value.okWide Try.prog W .any base t v := hval0
  have hW' := hW
  obtain ⟨p, q, hA0, hV, rfl, hfz, hnd⟩ := hW
  have hA : DataW.TrodAll enc Try.prog W 0 (fun _ => true) true Try.f10.params.toList args.toList ds p := hA0
  rw [Try.params10] at hA hval hsz
  obtain ⟨v0, vs0, d0, ds0, p0, q0, hargs, rfl, rfl, h0, r0⟩ := trodAll_cons hA
  obtain ⟨v1, vs1, d1, ds1, p1, q1, rfl, rfl, rfl, h1, r1⟩ := trodAll_cons r0
  obtain ⟨v2, vs2, d2, ds2, p2, q2, rfl, rfl, rfl, h2, r2⟩ := trodAll_cons r1
  obtain ⟨v3, vs3, d3, ds3, p3, q3, rfl, rfl, rfl, h3, r3⟩ := trodAll_cons r2
  obtain ⟨rfl, rfl, rfl⟩ := trodAll_nil r3
  obtain rfl : args = #[v0, v1, v2, v3] := by cases args; simp_all
  obtain ⟨rfl, rfl⟩ := trodVars_none hV
  have R0 : Rel W.heap.size M0 H0 W := Rel.start (Nat.le_refl _)
  obtain ⟨a0, rfl, rfl, rfl, w0⟩ := open_int Try.underlying5 (hval 0 5 v0 rfl rfl) h0
  obtain ⟨a1, rfl, rfl, rfl, w1⟩ := open_int Try.underlying5 (hval 1 5 v1 rfl rfl) h1
  obtain ⟨a2, rfl, rfl, rfl, w2⟩ := open_int Try.underlying55 (hval 2 55 v2 rfl rfl) h2
  have k3 := h3
  have lt3 : ∀ x ∈ p3, x.block < W.heap.size := by obtain ⟨m, hm⟩ := k3; exact DataW.trod_lt m _ _ _ hm
  obtain ⟨c3_0, c3_1, c3_2, c3_3, c3_4, c3_5, _, _, _, _, _, _, _, rfl, e3_0, e3_1, e3_2, e3_3, e3_4, e3_5, ok3_4, ok3_5⟩ := open_agg6 (t0 := 28) (t1 := 3) (t2 := 3) (t3 := 4) (t4 := 23) (t5 := 24) Try.underlying60 (by kernel_rfl) (by kernel_rfl) (by kernel_rfl) (hval 3 60 v3 rfl rfl) h3
  obtain ⟨a3_0, hb3_0, _, w3_0⟩ := DataW.trod_int Try.underlying28 e3_0
  obtain rfl : c3_0 = .int .i64 a3_0 := by simpa using hb3_0
  obtain ⟨a3_1, hb3_1, _, w3_1⟩ := DataW.trod_int Try.underlying3 e3_1
  obtain rfl : c3_1 = .int .i64 a3_1 := by simpa using hb3_1
  obtain ⟨a3_2, hb3_2, _, w3_2⟩ := DataW.trod_int Try.underlying3 e3_2
  obtain rfl : c3_2 = .int .i64 a3_2 := by simpa using hb3_2
  obtain ⟨a3_3, hb3_3, _⟩ := DataW.trod_bool Try.underlying4 e3_3
  obtain rfl : c3_3 = .bool a3_3 := by simpa using hb3_3
  obtain ⟨b3_4, len3_4, cap3_4, z3_4, rfl, w3_4⟩ : ∃ a len cap zs, c3_4 = .slice a len cap ∧ StrRow W a len cap zs := by
    rcases open_strings Try.underlying23 Try.underlying9 (by kernel_rfl) e3_4 with ⟨hcs, _⟩ | ⟨x, l, c, zs, hcs, _, hl, hm, hz, _, hcell, hwz⟩
    · exact ⟨none, 0, 0, [], by simpa using hcs, .inl ⟨rfl, rfl, rfl, rfl⟩⟩
    · obtain rfl : c3_4 = .slice (some x) l c := by simpa using hcs
      exact ⟨some x, l, c, zs, rfl, .inr ⟨_, rfl, cell_block Try.underlying23 ok3_4, hl, hm, by simpa using hz, hcell, hwz⟩⟩
  obtain ⟨m1, hp1, x3_4, R1, l0, K0, V3_4, S3_4, T3_4⟩ := open_strs_arg R0 w3_4
  obtain ⟨b3_5, len3_5, cap3_5, z3_5, rfl, w3_5⟩ : ∃ a len cap zs, c3_5 = .slice a len cap ∧ IntRow W .u8 a len cap zs := by
    rcases open_ints Try.underlying24 Try.underlying5 (by kernel_rfl) e3_5 with ⟨hcs, _⟩ | ⟨x, l, c, zs, hcs, _, hl, hm, hz, _, hcell, hwz⟩
    · exact ⟨none, 0, 0, [], by simpa using hcs, .inl ⟨rfl, rfl, rfl, rfl⟩⟩
    · obtain rfl : c3_5 = .slice (some x) l c := by simpa using hcs
      exact ⟨some x, l, c, zs, rfl, .inr ⟨_, rfl, cell_block Try.underlying24 ok3_5, hl, hm, by simpa using hz, hcell, hwz⟩⟩
  obtain ⟨m2, hp2, x3_5, R2, l1, K1, V3_5, S3_5, T3_5⟩ := open_ints_arg R1 w3_5
  clear hA0 hval0 hsz0 hsz
  refine (law_calls (P := Try.prog) (ov := ovs) (Try.checked).mixed ovs_ok Try.func10 (by decide +kernel) (by kernel_rfl) R2 (.cons (.int .u8 a0) (.cons (.int .u8 a1) (.cons (.int .u16 a2) (.cons (.agg (.cons (.int .i64 a3_0) (.cons (.int .i64 a3_1) (.cons (.int .i64 a3_2) (.cons (.bool a3_3) (.cons (VRel.mono l1 V3_4) (.cons V3_5 .nil))))))) .nil)))) (replyShape_answer a0 a1 a2 a3_0 a3_1 a3_2 a3_3 len3_4 z3_4 len3_5 z3_5 R2.wf w0 w1 w2 w3_0 w3_1 w3_2 (StrRow.lenLe w3_4) (StrRow.size w3_4) (Sl.keep S3_4 K1 T3_4) (Slot.keep T3_4 K1 fun o ho => Nat.lt_of_lt_of_le ho K1.n) (IntRow.lenLe w3_5) (IntRow.wf w3_5) S3_5 T3_5)).mono fun e W' ⟨he, bel⟩ => ?_
  subst he
  exact ⟨_, rfl, _, _, _, [], _, [], hW', trodAll_mk1 (shut_bool Try.underlying4 _), (trodAll_cons_mk (shut_int Try.underlying5 w0) (trodAll_cons_mk (shut_int Try.underlying5 w1) (trodAll_cons_mk (shut_int Try.underlying55 w2) (trodAll_cons_mk (Below.trod laidOut (by kernel_rfl) (of_decide_eq_true (by kernel_rfl)) k3 bel lt3) trodAll_mk0)))), rfl, bel.frame _, fun h => by cases h⟩
theorem over : Rows.replyShapeRow.holds Try.pinned (OpenSpec.ofChange Rows.replyShapeSpec) :=
  OpenClaim.holds_of_wide 10 Try.f10 rfl rfl rfl rfl rfl rfl rfl ⟨rfl, rfl, rfl, rfl, rfl⟩ rfl rfl rfl rfl rfl (by kernel_rfl) Try.func10 (by kernel_rfl)
    (of_decide_eq_true (by kernel_rfl)) (by unfold Func.isWrapper; first | (rw [if_pos (by decide +kernel)]; kernel_rfl) | (rw [if_neg (by decide +kernel)]; exact ⟨rfl, rfl⟩))
    (fun os started H enc _ => lifted os started H enc)
theorem proved : Rows.ReplyShapeSaid := over
end Go.Proofs.Ythhibhhpcjggnab.replyShape
namespace Go.Proofs.Ythhibhhpcjggnab
theorem replyShape_holds : Rows.ReplyShapeSaid := replyShape.proved
end Go.Proofs.Ythhibhhpcjggnab


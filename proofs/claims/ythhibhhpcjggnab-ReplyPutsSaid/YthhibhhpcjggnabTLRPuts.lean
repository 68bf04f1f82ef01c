/- The law ReplyPuts holds for every input: its call returns true, on every tape. Conditions: none but those of the given statement itself (arguments of the types of its parameters). -/
import Derived.Test.YthhibhhpcjggnabTAnsRPuts
import Derived.WalkKit
import Derived.ProofKit
import Derived.OpenShut
import Derived.ShutString
import Derived.ChangeOld
import Derived.Below
import Derived.SizedLaws
namespace Go.Proofs.Ythhibhhpcjggnab.replyPuts
open Go.ChangeShapes Go.WideShapes Go.ChangeAt Go.RowKit Go.Proofs.Ythhibhhpcjggnab.Ev
open Go.ChangeMaps (open_string shut_string)
set_option linter.unusedVariables false
theorem own : ownKnob Try.prog.godebug = none := by kernel_rfl
theorem laidOut : laidOutB Try.prog = true := by kernel_rfl
set_option maxRecDepth 100000 in
theorem lifted (os : Os) (started : os.Started) (H : Type) (enc : TypeId × Value → H) :
    ReturnsInHanded {} Try.checked os 8 .any (Rows.replyPutsSpec.pre6 enc Try.prog Try.f8 Rows.replyPutsRow.domain false) (Rows.replyPutsSpec.post enc Try.prog Try.f8 false true false false) := by
  refine returnsInHanded_of_change_sized (C := Try.checked) own started (by kernel_rfl) Try.func8
    (ChangeSpec.witness6 (enc := enc) (C := Try.checked) false ⟨#[], #[.agg #[.int .i64 0, .int .i64 0, .int .i64 0, .bool false, .slice none 0 0, .slice none 0 0], .int .i64 0, .int .i64 0], []⟩ 8 (by kernel_rfl) (by kernel_rfl) (by kernel_rfl) (by kernel_rfl)) ?_
  intro W base args ds gs before hval0 hW hcnd hsz0 _
  have hsz : (DataW.weightsEach Try.prog (Try.f8.params.toList ++ Rows.replyPutsSpec.plain.varTypes Try.prog) (ds ++ gs)).all (· ≤ reachBytes) = true := hsz0
  have hval : ∀ (j : Nat) t v, Try.f8.params[j]? = some t → args[j]? = some v → Value.okWide Try.prog W .any base t v := hval0
  have hW' := hW
  obtain ⟨p, q, hA0, hV, rfl, hfz, hnd⟩ := hW
  have hA : DataW.TrodAll enc Try.prog W 0 (fun _ => true) true Try.f8.params.toList args.toList ds p := hA0
  rw [Try.params8] at hA hval hsz
  obtain ⟨v0, vs0, d0, ds0, p0, q0, hargs, rfl, rfl, h0, r0⟩ := trodAll_cons hA
  obtain ⟨v1, vs1, d1, ds1, p1, q1, rfl, rfl, rfl, h1, r1⟩ := trodAll_cons r0
  obtain ⟨v2, vs2, d2, ds2, p2, q2, rfl, rfl, rfl, h2, r2⟩ := trodAll_cons r1
  obtain ⟨rfl, rfl, rfl⟩ := trodAll_nil r2
  obtain rfl : args = #[v0, v1, v2] := by cases args; simp_all
  obtain ⟨rfl, rfl⟩ := trodVars_none hV
  have R0 : Rel W.heap.size M0 H0 W := Rel.start (Nat.le_refl _)
  have k0 := h0
  have lt0 : ∀ x ∈ p0, x.block < W.heap.size := by obtain ⟨m, hm⟩ := k0; exact DataW.trod_lt m _ _ _ hm
  obtain ⟨c0_0, c0_1, c0_2, c0_3, c0_4, c0_5, _, _, _, _, _, _, _, rfl, e0_0, e0_1, e0_2, e0_3, e0_4, e0_5, ok0_4, ok0_5⟩ := open_agg6 (t0 := 28) (t1 := 3) (t2 := 3) (t3 := 4) (t4 := 23) (t5 := 24) Try.underlying60 (by kernel_rfl) (by kernel_rfl) (by kernel_rfl) (hval 0 60 v0 rfl rfl) h0
  obtain ⟨a0_0, hb0_0, _, w0_0⟩ := DataW.trod_int Try.underlying28 e0_0
  obtain rfl : c0_0 = .int .i64 a0_0 := by simpa using hb0_0
  obtain ⟨a0_1, hb0_1, _, w0_1⟩ := DataW.trod_int Try.underlying3 e0_1
  obtain rfl : c0_1 = .int .i64 a0_1 := by simpa using hb0_1
  obtain ⟨a0_2, hb0_2, _, w0_2⟩ := DataW.trod_int Try.underlying3 e0_2
  obtain rfl : c0_2 = .int .i64 a0_2 := by simpa using hb0_2
  obtain ⟨a0_3, hb0_3, _⟩ := DataW.trod_bool Try.underlying4 e0_3
  obtain rfl : c0_3 = .bool a0_3 := by simpa using hb0_3
  obtain ⟨b0_4, len0_4, cap0_4, z0_4, rfl, w0_4⟩ : ∃ a len cap zs, c0_4 = .slice a len cap ∧ StrRow W a len cap zs := by
    rcases open_strings Try.underlying23 Try.underlying9 (by kernel_rfl) e0_4 with ⟨hcs, _⟩ | ⟨x, l, c, zs, hcs, _, hl, hm, hz, _, hcell, hwz⟩
    · exact ⟨none, 0, 0, [], by simpa using hcs, .inl ⟨rfl, rfl, rfl, rfl⟩⟩
    · obtain rfl : c0_4 = .slice (some x) l c := by simpa using hcs
      exact ⟨some x, l, c, zs, rfl, .inr ⟨_, rfl, cell_block Try.underlying23 ok0_4, hl, hm, by simpa using hz, hcell, hwz⟩⟩
  obtain ⟨m1, hp1, x0_4, R1, l0, K0, V0_4, S0_4, T0_4⟩ := open_strs_arg R0 w0_4
  obtain ⟨b0_5, len0_5, cap0_5, z0_5, rfl, w0_5⟩ : ∃ a len cap zs, c0_5 = .slice a len cap ∧ IntRow W .u8 a len cap zs := by
    rcases open_ints Try.underlying24 Try.underlying5 (by kernel_rfl) e0_5 with ⟨hcs, _⟩ | ⟨x, l, c, zs, hcs, _, hl, hm, hz, _, hcell, hwz⟩
    · exact ⟨none, 0, 0, [], by simpa using hcs, .inl ⟨rfl, rfl, rfl, rfl⟩⟩
    · obtain rfl : c0_5 = .slice (some x) l c := by simpa using hcs
      exact ⟨some x, l, c, zs, rfl, .inr ⟨_, rfl, cell_block Try.underlying24 ok0_5, hl, hm, by simpa using hz, hcell, hwz⟩⟩
  obtain ⟨m2, hp2, x0_5, R2, l1, K1, V0_5, S0_5, T0_5⟩ := open_ints_arg R1 w0_5
  obtain ⟨a1, rfl, rfl, rfl, w1⟩ := open_int Try.underlying28 (hval 1 28 v1 rfl rfl) h1
  obtain ⟨a2, rfl, rfl, rfl, w2⟩ := open_int Try.underlying3 (hval 2 3 v2 rfl rfl) h2
  clear hA0 hval0 hsz0 hsz
  refine (law_calls (P := Try.prog) (ov := ovs) (Try.checked).mixed ovs_ok Try.func8 (by decide +kernel) (by kernel_rfl) R2 (.cons (.agg (.cons (.int .i64 a0_0) (.cons (.int .i64 a0_1) (.cons (.int .i64 a0_2) (.cons (.bool a0_3) (.cons (VRel.mono l1 V0_4) (.cons V0_5 .nil))))))) (.cons (.int .i64 a1) (.cons (.int .i64 a2) .nil))) (replyPuts_answer a0_0 a0_1 a0_2 a0_3 len0_4 z0_4 len0_5 z0_5 a1 a2 R2.wf w0_0 w0_1 w0_2 (StrRow.lenLe w0_4) (StrRow.size w0_4) (Sl.keep S0_4 K1 T0_4) (Slot.keep T0_4 K1 fun o ho => Nat.lt_of_lt_of_le ho K1.n) (IntRow.lenLe w0_5) (IntRow.wf w0_5) S0_5 T0_5 w1 w2)).mono fun e W' ⟨he, bel⟩ => ?_
  subst he
  exact ⟨_, rfl, _, _, _, [], _, [], hW', trodAll_mk1 (shut_bool Try.underlying4 _), (trodAll_cons_mk (Below.trod laidOut (by kernel_rfl) (of_decide_eq_true (by kernel_rfl)) k0 bel lt0) (trodAll_cons_mk (shut_int Try.underlying28 w1) (trodAll_cons_mk (shut_int Try.underlying3 w2) trodAll_mk0))), rfl, bel.frame _, fun h => by cases h⟩
theorem over : Rows.replyPutsRow.holds Try.pinned (OpenSpec.ofChange Rows.replyPutsSpec) :=
  OpenClaim.holds_of_wide 8 Try.f8 rfl rfl rfl rfl rfl rfl rfl ⟨rfl, rfl, rfl, rfl, rfl⟩ rfl rfl rfl rfl rfl (by kernel_rfl) Try.func8 (by kernel_rfl)
    (of_decide_eq_true (by kernel_rfl)) (by unfold Func.isWrapper; first | (rw [if_pos (by decide +kernel)]; kernel_rfl) | (rw [if_neg (by decide +kernel)]; exact ⟨rfl, rfl⟩))
    (fun os started H enc _ => lifted os started H enc)
theorem proved : Rows.ReplyPutsSaid := over
end Go.Proofs.Ythhibhhpcjggnab.replyPuts
namespace Go.Proofs.Ythhibhhpcjggnab
theorem replyPuts_holds : Rows.ReplyPutsSaid := replyPuts.proved
end Go.Proofs.Ythhibhhpcjggnab


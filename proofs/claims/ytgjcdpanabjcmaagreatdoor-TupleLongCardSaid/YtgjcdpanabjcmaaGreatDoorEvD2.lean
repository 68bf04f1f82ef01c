/- Regions that draw their order: the plan, and the order of ours against any order. -/
import Derived.Test.YtgjcdpanabjcmaaGreatDoorEvD1
namespace Go.Proofs.YtgjcdpanabjcmaaGreatDoor.Ev
set_option linter.unusedVariables false
set_option linter.unusedSimpArgs false

section
variable {B0 : Nat} {P : Program}

/-! ### the plan -/
theorem befOf_spec {acc : List DStep} : ∀ {l : List Nat} {b : Nat}, befOf acc l = some b → (∀ on ∈ l, ∃ d ∈ acc, d.i = on) ∧ ∀ j, b.testBit j = true → ∃ on ∈ l, ∃ d ∈ acc, d.i = on ∧ (j = on ∨ d.bef.testBit j = true)
  | [], b, h => by
    cases h
    refine ⟨fun _ h => ?_, fun j h => ?_⟩
    · cases h
    · simp at h
  | on :: r, b, h => by
    simp only [befOf] at h
    split at h
    case h_2 => cases h
    rename_i d b' hd hb
    cases h
    obtain ⟨h1, h2⟩ := befOf_spec hb
    have hdm := List.mem_of_find?_eq_some hd
    have hdi : d.i = on := by simpa using List.find?_some hd
    refine ⟨fun x hx => ?_, fun j hj => ?_⟩
    · rcases List.mem_cons.1 hx with rfl | hx
      · exact ⟨d, hdm, hdi⟩
      · exact h1 x hx
    · simp only [Nat.testBit_or, Bool.or_eq_true] at hj
      rcases hj with (hj | hj) | hj
      · exact ⟨on, by simp, d, hdm, hdi, .inr hj⟩
      · rw [Nat.testBit_two_pow] at hj
        exact ⟨on, by simp, d, hdm, hdi, .inl (by simpa using hj : on = j).symm⟩
      · obtain ⟨x, hx, d', hd', e⟩ := h2 j hj
        exact ⟨x, by simp [hx], d', hd', e⟩

structure RowOK (P : Program) (nt : Nat) (ops : Array Oper) (acc : List DStep) (d : DStep) : Prop where
  step : ∃ o, ops[d.i]? = some o ∧ trStep P nt ops.toList o = some d.st ∧ (∀ on ∈ binding o, ∃ d' ∈ acc, d'.i = on) ∧ ∀ j, d.bef.testBit j = true → ∃ on ∈ binding o, ∃ d' ∈ acc, d'.i = on ∧ (j = on ∨ d'.bef.testBit j = true)

theorem mkPlan_spec {nt : Nat} {ops : Array Oper} : ∀ {order : List Nat} {acc l : List DStep}, mkPlan P nt ops order acc = some l → ∀ l1 d l2, l = l1 ++ d :: l2 → RowOK P nt ops (l1.reverse ++ acc) d
  | [], acc, l, h, l1, d, l2, e => by cases h; simp at e
  | i :: r, acc, l, h, l1, d, l2, e => by
    simp only [mkPlan] at h
    split at h
    case h_2 => cases h
    rename_i o ho
    split at h
    case h_2 => cases h
    rename_i st b hst hb
    obtain ⟨l', hl', rfl⟩ := Option.map_eq_some_iff.1 h
    cases l1 with
    | nil =>
      simp only [List.nil_append, List.cons.injEq] at e
      obtain ⟨rfl, rfl⟩ := e
      obtain ⟨h1, h2⟩ := befOf_spec hb
      exact ⟨o, ho, hst, h1, h2⟩
    | cons x l1 =>
      simp only [List.cons_append, List.cons.injEq] at e
      obtain ⟨rfl, rfl⟩ := e
      have := mkPlan_spec hl' l1 d l2 rfl
      simpa using this

structure PlanOK (P : Program) (nt : Nat) (ops : Array Oper) (plan : List DStep) : Prop where
  row : ∀ l1 d l2, plan = l1 ++ d :: l2 → ∃ o, ops[d.i]? = some o ∧ trStep P nt ops.toList o = some d.st ∧ (∀ on ∈ binding o, ∃ d' ∈ l1, d'.i = on) ∧ ∀ j, d.bef.testBit j = true → ∃ on ∈ binding o, ∃ d' ∈ l1, d'.i = on ∧ (j = on ∨ d'.bef.testBit j = true)
  pair : ∀ l1 d l2, plan = l1 ++ d :: l2 → ∀ d' ∈ l2, pairOK d d' = true
  cov : ∀ i, i < ops.size → ∃ d ∈ plan, d.i = i
  len : plan.length ≤ ops.size

theorem pairsOK_spec : ∀ {l : List DStep}, pairsOK l = true → ∀ l1 d l2, l = l1 ++ d :: l2 → ∀ d' ∈ l2, pairOK d d' = true
  | [], _, l1, d, l2, e, _, _ => by simp at e
  | x :: l, h, l1, d, l2, e, d', hd' => by
    simp only [pairsOK, Bool.and_eq_true, List.all_eq_true] at h
    cases l1 with
    | nil => simp only [List.nil_append, List.cons.injEq] at e; obtain ⟨rfl, rfl⟩ := e; exact h.1 d' hd'
    | cons y l1 => simp only [List.cons_append, List.cons.injEq] at e; obtain ⟨rfl, rfl⟩ := e; exact pairsOK_spec h.2 l1 d l2 rfl d' hd'

theorem mask_spec : ∀ (l : List DStep) (s i : Nat), (l.foldl (fun s d => s ||| 2 ^ d.i) s).testBit i = true → s.testBit i = true ∨ ∃ d ∈ l, d.i = i
  | [], s, i, h => .inl h
  | d :: l, s, i, h => by
    rcases mask_spec l _ i h with h | ⟨d', h1, h2⟩
    · simp only [Nat.testBit_or, Bool.or_eq_true] at h
      rcases h with h | h
      · exact .inl h
      · rw [Nat.testBit_two_pow] at h; exact .inr ⟨d, by simp, by simpa using h⟩
    · exact .inr ⟨d', by simp [h1], h2⟩

theorem planOf_spec {nt : Nat} {ops : Array Oper} {plan : List DStep} (h : planOf P nt ops = some plan) : PlanOK P nt ops plan := by
  unfold planOf at h
  simp only at h
  split at h
  case h_2 => cases h
  rename_i l hl
  split at h
  case isFalse => cases h
  rename_i hc
  cases h
  simp only [Bool.and_eq_true, beq_iff_eq, decide_eq_true_eq] at hc
  refine ⟨fun l1 d l2 e => ?_, pairsOK_spec hc.1.1, fun i hi => ?_, hc.2⟩
  · obtain ⟨o, h1, h2, h3, h4⟩ := (mkPlan_spec hl l1 d l2 e).step
    refine ⟨o, h1, h2, fun on ho => ?_, fun j hj => ?_⟩
    · obtain ⟨d', h5, h6⟩ := h3 on ho; exact ⟨d', by simpa using h5, h6⟩
    · obtain ⟨on, h5, d', h6, h7⟩ := h4 j hj; exact ⟨on, h5, d', by simpa using h6, h7⟩
  · have hb : (2 ^ ops.size - 1).testBit i = true := by rw [Nat.testBit_two_pow_sub_one]; simpa using hi
    rw [← hc.1.2] at hb
    rcases mask_spec _ _ _ hb with hz | hz
    · simp at hz
    · exact hz

/-- what the pairs of a plan say -/
structure PairOK (d d' : DStep) : Prop where
  ne : d.i ≠ d'.i
  eff : d.st.op.kind = .eff → d'.bef.testBit d.i = true
  no : d.bef.testBit d'.i = false
  dst : ∀ t, d.st.dst = some t → d'.st.dst ≠ some t
  rd : ∀ t, d.st.dst = some t → t ∈ d'.st.reads → d'.bef.testBit d.i = true
  rd' : ∀ t, d'.st.dst = some t → t ∈ d.st.reads → d'.bef.testBit d.i = true
theorem pairOK_spec {d d' : DStep} (h : pairOK d d' = true) : PairOK d d' := by
  unfold pairOK at h
  simp only [Bool.and_eq_true] at h
  obtain ⟨⟨⟨⟨h1, h2⟩, h3⟩, h4⟩, h5⟩ := h
  refine ⟨by simpa using h1, fun hk => by simpa [hk] using h2, by simpa using h3, fun t ht => ?_, fun t ht hr => ?_, fun t ht hr => ?_⟩
  · rw [ht] at h4; simp at h4; exact h4.1
  · rw [ht] at h4; simp at h4; rcases h4.2 with h | h
    · exact h
    · exact absurd hr h
  · rw [ht] at h5; simp at h5; rcases h5 with h | h
    · exact h
    · exact absurd hr h
end
end Go.Proofs.YtgjcdpanabjcmaaGreatDoor.Ev

/- Regions that draw their order: the plan, and the order of ours against any order. -/
import Derived.Test.YtlbaphapjclkdaaGreatDoorEv12
namespace Go.Proofs.YtlbaphapjclkdaaGreatDoor.Ev
set_option linter.unusedVariables false
set_option linter.unusedSimpArgs false

section
variable {B0 : Nat} {P : Program}

/-! ### the plan -/
theorem befOf_spec {acc : List DStep} : ∀ {l : List Nat} {b : Nat}, befOf acc l = some b → (∀ on ∈ l, ∃ d ∈ acc, d.i = on) ∧ ∀ j, b.testBit j = true → ∃ on ∈ l, ∃ d ∈ acc, d.i = on ∧ (j = on ∨ d.bef.testBit j = true)
  | [], b, h => by
    cases h
    refine ⟨fun _ h => ?_, fun j h => ?_⟩
    · cases h
    · simp at h
  | on :: r, b, h => by
    simp only [befOf] at h
    split at h
    case h_2 => cases h
    rename_i d b' hd hb
    cases h
    obtain ⟨h1, h2⟩ := befOf_spec hb
    have hdm := List.mem_of_find?_eq_some hd
    have hdi : d.i = on := by simpa using List.find?_some hd
    refine ⟨fun x hx => ?_, fun j hj => ?_⟩
    · rcases List.mem_cons.1 hx with rfl | hx
      · exact ⟨d, hdm, hdi⟩
      · exact h1 x hx
    · simp only [Nat.testBit_or, Bool.or_eq_true] at hj
      rcases hj with (hj | hj) | hj
      · exact ⟨on, by simp, d, hdm, hdi, .inr hj⟩
      · rw [Nat.testBit_two_pow] at hj
        exact ⟨on, by simp, d, hdm, hdi, .inl (by simpa using hj : on = j).symm⟩
      · obtain ⟨x, hx, d', hd', e⟩ := h2 j hj
        exact ⟨x, by simp [hx], d', hd', e⟩

structure RowOK (P : Program) (nt : Nat) (ops : Array Oper) (acc : List DStep) (d : DStep) : Prop where
  step : ∃ o, ops[d.i]? = some o ∧ trStep P nt ops.toList o = some d.st ∧ (∀ on ∈ binding o, ∃ d' ∈ acc, d'.i = on) ∧ ∀ j, d.bef.testBit j = true → ∃ on ∈ binding o, ∃ d' ∈ acc, d'.i = on ∧ (j = on ∨ d'.bef.testBit j = true)

theorem mkPlan_spec {nt : Nat} {ops : Array Oper} : ∀ {order : List Nat} {acc l : List DStep}, mkPlan P nt ops order acc = some l → ∀ l1 d l2, l = l1 ++ d :: l2 → RowOK P nt ops (l1.reverse ++ acc) d
  | [], acc, l, h, l1, d, l2, e => by cases h; simp at e
  | i :: r, acc, l, h, l1, d, l2, e => by
    simp only [mkPlan] at h
    split at h
    case h_2 => cases h
    rename_i o ho
    split at h
    case h_2 => cases h
    rename_i st b hst hb
    obtain ⟨l', hl', rfl⟩ := Option.map_eq_some_iff.1 h
    cases l1 with
    | nil =>
      simp only [List.nil_append, List.cons.injEq] at e
      obtain ⟨rfl, rfl⟩ := e
      obtain ⟨h1, h2⟩ := befOf_spec hb
      exact ⟨o, ho, hst, h1, h2⟩
    | cons x l1 =>
      simp only [List.cons_append, List.cons.injEq] at e
      obtain ⟨rfl, rfl⟩ := e
      have := mkPlan_spec hl' l1 d l2 rfl
      simpa using this

structure PlanOK (P : Program) (nt : Nat) (ops : Array Oper) (plan : List DStep) : Prop where
  row : ∀ l1 d l2, plan = l1 ++ d :: l2 → ∃ o, ops[d.i]? = some o ∧ trStep P nt ops.toList o = some d.st ∧ (∀ on ∈ binding o, ∃ d' ∈ l1, d'.i = on) ∧ ∀ j, d.bef.testBit j = true → ∃ on ∈ binding o, ∃ d' ∈ l1, d'.i = on ∧ (j = on ∨ d'.bef.testBit j = true)
  pair : ∀ l1 d l2, plan = l1 ++ d :: l2 → ∀ d' ∈ l2, pairOK d d' = true
  cov : ∀ i, i < ops.size → ∃ d ∈ plan, d.i = i
  len : plan.length ≤ ops.size

theorem pairsOK_spec : ∀ {l : List DStep}, pairsOK l = true → ∀ l1 d l2, l = l1 ++ d :: l2 → ∀ d' ∈ l2, pairOK d d' = true
  | [], _, l1, d, l2, e, _, _ => by simp at e
  | x :: l, h, l1, d, l2, e, d', hd' => by
    simp only [pairsOK, Bool.and_eq_true, List.all_eq_true] at h
    cases l1 with
    | nil => simp only [List.nil_append, List.cons.injEq] at e; obtain ⟨rfl, rfl⟩ := e; exact h.1 d' hd'
    | cons y l1 => simp only [List.cons_append, List.cons.injEq] at e; obtain ⟨rfl, rfl⟩ := e; exact pairsOK_spec h.2 l1 d l2 rfl d' hd'

theorem mask_spec : ∀ (l : List DStep) (s i : Nat), (l.foldl (fun s d => s ||| 2 ^ d.i) s).testBit i = true → s.testBit i = true ∨ ∃ d ∈ l, d.i = i
  | [], s, i, h => .inl h
  | d :: l, s, i, h => by
    rcases mask_spec l _ i h with h | ⟨d', h1, h2⟩
    · simp only [Nat.testBit_or, Bool.or_eq_true] at h
      rcases h with h | h
      · exact .inl h
      · rw [Nat.testBit_two_pow] at h; exact .inr ⟨d, by simp, by simpa using h⟩
    · exact .inr ⟨d', by simp [h1], h2⟩

theorem planOf_spec {nt : Nat} {ops : Array Oper} {plan : List DStep} (h : planOf P nt ops = some plan) : PlanOK P nt ops plan := by
  unfold planOf at h
  simp only at h
  split at h
  case h_2 => cases h
  rename_i l hl
  split at h
  case isFalse => cases h
  rename_i hc
  cases h
  simp only [Bool.and_eq_true, beq_iff_eq, decide_eq_true_eq] at hc
  refine ⟨fun l1 d l2 e => ?_, pairsOK_spec hc.1.1, fun i hi => ?_, hc.2⟩
  · obtain ⟨o, h1, h2, h3, h4⟩ := (mkPlan_spec hl l1 d l2 e).step
    refine ⟨o, h1, h2, fun on ho => ?_, fun j hj => ?_⟩
    · obtain ⟨d', h5, h6⟩ := h3 on ho; exact ⟨d', by simpa using h5, h6⟩
    · obtain ⟨on, h5, d', h6, h7⟩ := h4 j hj; exact ⟨on, h5, d', by simpa using h6, h7⟩
  · have hb : (2 ^ ops.size - 1).testBit i = true := by rw [Nat.testBit_two_pow_sub_one]; simpa using hi
    rw [← hc.1.2] at hb
    rcases mask_spec _ _ _ hb with hz | hz
    · simp at hz
    · exact hz

/-- what the pairs of a plan say -/
structure PairOK (d d' : DStep) : Prop where
  ne : d.i ≠ d'.i
  eff : d.st.op.kind = .eff → d'.bef.testBit d.i = true
  no : d.bef.testBit d'.i = false
  dst : ∀ t, d.st.dst = some t → d'.st.dst ≠ some t
  rd : ∀ t, d.st.dst = some t → t ∈ d'.st.reads → d'.bef.testBit d.i = true
  rd' : ∀ t, d'.st.dst = some t → t ∈ d.st.reads → d'.bef.testBit d.i = true
theorem pairOK_spec {d d' : DStep} (h : pairOK d d' = true) : PairOK d d' := by
  unfold pairOK at h
  simp only [Bool.and_eq_true] at h
  obtain ⟨⟨⟨⟨h1, h2⟩, h3⟩, h4⟩, h5⟩ := h
  refine ⟨by simpa using h1, fun hk => by simpa [hk] using h2, by simpa using h3, fun t ht => ?_, fun t ht hr => ?_, fun t ht hr => ?_⟩
  · rw [ht] at h4; simp at h4; exact h4.1
  · rw [ht] at h4; simp at h4; rcases h4.2 with h | h
    · exact h
    · exact absurd hr h
  · rw [ht] at h5; simp at h5; rcases h5 with h | h
    · exact h
    · exact absurd hr h
end
end Go.Proofs.YtlbaphapjclkdaaGreatDoor.Ev

/- Regions that draw their order: whatever order is drawn, the answer is that of the plan's order. -/
namespace Go.Proofs.YtlbaphapjclkdaaGreatDoor.Ev
set_option linter.unusedVariables false
set_option linter.unusedSimpArgs false

theorem upd_ne {s : S} {d : Option Nat} {v : AV} {t : Nat} (h : d ≠ some t) : upd s d v t = s t := by
  cases d with
  | none => rfl
  | some x => show (if t = x then v else s t) = s t; rw [if_neg (fun e => h (by rw [e]))]
theorem upd_eq {s : S} {d : Option Nat} {v : AV} {t : Nat} (h : d = some t) : upd s d v t = v := by subst h; simp [upd]

def lis (L : Array Bool) (i : Nat) : Bool := L.getD i false
theorem lis_set {L : Array Bool} {i : Nat} (hi : i < L.size) (j : Nat) : lis (L.setIfInBounds i true) j = if j = i then true else lis L j := by
  unfold lis
  simp only [Array.getD_eq_getD_getElem?, Array.getElem?_setIfInBounds]
  by_cases h : i = j
  · subst h; simp [hi]
  · rw [if_neg h, if_neg (fun e => h e.symm)]

def SX (L : Array Bool) (pre : List DStep) (s0 sp : S) : S := fun t => if pre.any (fun d => !lis L d.i && decide (d.st.dst = some t)) then s0 t else sp t
theorem SX_pend {L : Array Bool} {pre : List DStep} {s0 sp : S} {t : Nat} {d : DStep} (hd : d ∈ pre) (hl : lis L d.i = false) (ht : d.st.dst = some t) : SX L pre s0 sp t = s0 t := by
  unfold SX
  rw [if_pos]
  rw [List.any_eq_true]
  exact ⟨d, hd, by simp [hl, ht]⟩
theorem SX_done {L : Array Bool} {pre : List DStep} {s0 sp : S} {t : Nat} (h : ∀ d ∈ pre, d.st.dst = some t → lis L d.i = true) : SX L pre s0 sp t = sp t := by
  unfold SX
  rw [if_neg]
  rw [List.any_eq_true]
  rintro ⟨d, hd, hc⟩
  simp only [Bool.and_eq_true, Bool.not_eq_true', decide_eq_true_eq] at hc
  rw [h d hd hc.2] at hc
  exact absurd hc.1 (by decide)

section
variable {B0 : Nat} {P : Program} {nt : Nat} {ops : Array Oper} {plan : List DStep} {C : CallP} {Pn : AV → H → Prop}
  {m0 : M} {h0 : H} {w0 : World} {s0 : S} {Qd : S → H → Prop} {ds : List Deferred}

theorem PlanOK.bef (hP : PlanOK P nt ops plan) {A B : List DStep} {d x : DStep} (e : plan = A ++ d :: B) (hx : x ∈ A) : PairOK x d := by
  obtain ⟨l1, l2, rfl⟩ := List.append_of_mem hx
  exact pairOK_spec (hP.pair l1 x (l2 ++ d :: B) (by rw [e]; simp) d (by simp))
theorem PlanOK.aft (hP : PlanOK P nt ops plan) {A B : List DStep} {d x : DStep} (e : plan = A ++ d :: B) (hx : x ∈ B) : PairOK d x :=
  pairOK_spec (hP.pair A d B e x hx)
theorem PlanOK.tri (hP : PlanOK P nt ops plan) {x y : DStep} (hx : x ∈ plan) (hy : y ∈ plan) : x = y ∨ PairOK x y ∨ PairOK y x := by
  obtain ⟨A, B, e⟩ := List.append_of_mem hx
  rw [e] at hy
  rcases List.mem_append.1 hy with hy | hy
  · exact .inr (.inr (hP.bef e hy))
  · rcases List.mem_cons.1 hy with rfl | hy
    · exact .inl rfl
    · exact .inr (.inl (hP.aft e hy))
theorem PlanOK.idx (hP : PlanOK P nt ops plan) {x y : DStep} (hx : x ∈ plan) (hy : y ∈ plan) (e : x.i = y.i) : x = y := by
  rcases hP.tri hx hy with h | h | h
  · exact h
  · exact absurd e h.ne
  · exact absurd e.symm h.ne
theorem PlanOK.uniq (hP : PlanOK P nt ops plan) {x y : DStep} (hx : x ∈ plan) (hy : y ∈ plan) {t : Nat} (h1 : x.st.dst = some t) (h2 : y.st.dst = some t) : x = y := by
  rcases hP.tri hx hy with h | h | h
  · exact h
  · exact absurd h2 (h.dst t h1)
  · exact absurd h1 (h.dst t h2)

def PendOK (h0 : H) (m : M) (hp : H) (pd : List Pend) (oid : Nat → Option Nat) (s0 sp : S) (l1 : List DStep) (d : DStep) (l2 : List DStep) : Prop :=
  ∃ sd : S, (∀ t, (∀ x ∈ l1, x.st.dst ≠ some t) → sd t = s0 t) ∧ (∀ t, (∀ x ∈ d :: l2, x.st.dst ≠ some t) → sp t = sd t) ∧
    ((wanted d.st.guard sd = false ∧ ∀ t, d.st.dst = some t → sp t = undefA) ∨
     (wanted d.st.guard sd = true ∧ ∃ v, (∀ t, d.st.dst = some t → sp t = v) ∧
       ((d.st.op.kind = .pure ∧ ∀ h, exec d.st.op sd h = some (v, h)) ∨
        (d.st.op.kind = .read ∧ (⟨d.i, d.st.op, sd, v⟩ : Pend) ∈ pd) ∨
        (d.st.op.kind = .make ∧ ∃ p o, makeOf d.st.op sd = some p ∧ v = p.1 o ∧ oid d.i = some o ∧ h0.n ≤ o ∧ m o = none ∧ hp.get o = some (.cells p.2 (some o))))))

variable (B0 P nt ops plan C Pn m0 h0 w0 s0 Qd ds) in
structure Sim (L : Array Bool) (pre rest : List DStep) (sp : S) (hp : H) (pd : List Pend) (oid : Nat → Option Nat) (m : M) (a : Act) (w : World) : Prop where
  split : plan = pre ++ rest
  size : L.size = ops.size
  notrest : ∀ d ∈ rest, lis L d.i = false
  effs : ∀ d ∈ pre, d.st.op.kind = .eff → lis L d.i = true
  closed : ∀ d ∈ plan, lis L d.i = true → ∀ j, d.bef.testBit j = true → lis L j = true
  run : WDrawG C Pn rest pd Qd sp hp
  rel : Rel P B0 m hp w
  fr : Fr B0 m0 m h0 hp w0 w
  tmps : ARel m nt (SX L pre s0 sp) a
  defers : a.defers = ds
  keep : ∀ t, (∀ d ∈ pre, d.st.dst ≠ some t) → sp t = s0 t
  inj : ∀ i j o, oid i = some o → oid j = some o → i = j
  bound : ∀ i o, oid i = some o → o < hp.n
  pend : ∀ l1 d l2, pre = l1 ++ d :: l2 → lis L d.i = false → PendOK h0 m hp pd oid s0 sp l1 d l2

theorem snoc_split {α : Type} {pre l1 l2 : List α} {x d : α} (e : pre ++ [x] = l1 ++ d :: l2) : (l1 = pre ∧ d = x ∧ l2 = []) ∨ ∃ l3, l2 = l3 ++ [x] ∧ pre = l1 ++ d :: l3 := by
  rcases List.eq_nil_or_concat l2 with rfl | ⟨l3, y, rfl⟩
  · have := List.append_inj' e rfl
    simp at this
    exact .inl ⟨this.1.symm, this.2.symm, rfl⟩
  · have e' : pre ++ [x] = (l1 ++ d :: l3) ++ [y] := by rw [e]; simp
    have := List.append_inj' e' rfl
    simp at this
    obtain ⟨h1, rfl⟩ := this
    exact .inr ⟨l3, by simp, h1⟩

theorem wdraw_non {d : DStep} {r : List DStep} {pd : List Pend} {s : S} {h : H} (hk : d.st.op.kind ≠ .eff) (he : WDrawG C Pn (d :: r) pd Qd s h) :
    (wanted d.st.guard s = false ∧ WDrawG C Pn r pd Qd (upd s d.st.dst undefA) h) ∨
    (wanted d.st.guard s = true ∧ ∃ v h1, exec d.st.op s h = some (v, h1) ∧ WDrawG C Pn r (if d.st.op.kind = .read then ⟨d.i, d.st.op, s, v⟩ :: pd else pd) Qd (upd s d.st.dst v) h1) := by
  simp only [WDrawG, if_neg hk] at he
  split at he
  · rename_i hw
    obtain ⟨v, h1, hx, he⟩ := he.get
    exact .inr ⟨hw, v, h1, hx, he⟩
  · rename_i hw
    exact .inl ⟨by simpa using hw, he⟩

/-- what is told early -/
theorem Sim.one (hP : PlanOK P nt ops plan) {L : Array Bool} {pre r : List DStep} {d : DStep} {sp : S} {hp : H} {pd : List Pend} {oid : Nat → Option Nat} {m : M} {a : Act} {w : World}
    (S0 : Sim B0 P nt ops plan C Pn m0 h0 w0 s0 Qd ds L pre (d :: r) sp hp pd oid m a w) (hk : d.st.op.kind ≠ .eff) :
    ∃ sp1 hp1 pd1 oid1, Sim B0 P nt ops plan C Pn m0 h0 w0 s0 Qd ds L (pre ++ [d]) r sp1 hp1 pd1 oid1 m a w := by
  have hspl : plan = (pre ++ [d]) ++ r := by rw [S0.split]; simp
  have hdl : lis L d.i = false := S0.notrest d (by simp)
  have hpair : ∀ x ∈ pre, PairOK x d := fun x hx => hP.bef S0.split hx
  have hfresh : ∀ t, d.st.dst = some t → ∀ x ∈ pre, x.st.dst ≠ some t := fun t ht x hx hxt => (hpair x hx).dst t hxt ht
  have hSX : ∀ v, SX L (pre ++ [d]) s0 (upd sp d.st.dst v) = SX L pre s0 sp := by
    intro v
    funext t
    by_cases hd : d.st.dst = some t
    · rw [SX_pend (d := d) (by simp) hdl hd, SX_done (fun x hx hxt => absurd hxt (hfresh t hd x hx)), S0.keep t (hfresh t hd)]
    · unfold SX
      rw [upd_ne hd]
      simp [hd]
  have hkeep : ∀ v t, (∀ x ∈ pre ++ [d], x.st.dst ≠ some t) → upd sp d.st.dst v t = s0 t := fun v t ht => by
    rw [upd_ne (ht d (by simp)), S0.keep t (fun x hx => ht x (by simp [hx]))]
  have heffs : ∀ x ∈ pre ++ [d], x.st.op.kind = .eff → lis L x.i = true := by
    intro x hx hxk
    rcases List.mem_append.1 hx with hx | hx
    · exact S0.effs x hx hxk
    · simp at hx; subst hx; exact absurd hxk hk
  have hnr : ∀ x ∈ r, lis L x.i = false := fun x hx => S0.notrest x (by simp [hx])
  -- what was told before
  have hold : ∀ (v : AV) (hp1 : H) (pd1 : List Pend) (oid1 : Nat → Option Nat), (∀ p ∈ pd, p ∈ pd1) → (∀ i, i ≠ d.i → oid1 i = oid i) → (∀ o, o < hp.n → hp1.get o = hp.get o) → ∀ l1 x l2, pre = l1 ++ x :: l2 → lis L x.i = false →
      PendOK h0 m hp1 pd1 oid1 s0 (upd sp d.st.dst v) l1 x (l2 ++ [d]) := by
    intro v hp1 pd1 oid1 hpd hoid hget l1 x l2 e hx
    obtain ⟨sd, k1, k2, k3⟩ := S0.pend l1 x l2 e hx
    have hxm : x ∈ pre := by rw [e]; simp
    have hsp : ∀ t, x.st.dst = some t → upd sp d.st.dst v t = sp t := fun t ht => upd_ne ((hpair x hxm).dst t ht)
    refine ⟨sd, k1, fun t ht => ?_, ?_⟩
    · rw [upd_ne (ht d (by simp)), k2 t (fun y hy => ht y (by rcases List.mem_cons.1 hy with rfl | hy <;> simp [*]))]
    · rcases k3 with ⟨k4, k5⟩ | ⟨k4, u, k5, k6⟩
      · exact .inl ⟨k4, fun t ht => by rw [hsp t ht]; exact k5 t ht⟩
      · refine .inr ⟨k4, u, fun t ht => by rw [hsp t ht]; exact k5 t ht, ?_⟩
        rcases k6 with k6 | ⟨k6, k7⟩ | ⟨k6, p, o, k7, k8, k9, k10, k11, k12⟩
        · exact .inl k6
        · exact .inr (.inl ⟨k6, hpd _ k7⟩)
        · exact .inr (.inr ⟨k6, p, o, k7, k8, by rw [hoid _ (hpair x hxm).ne]; exact k9, k10, k11, by rw [hget o (S0.rel.wf.ob _ _ k12)]; exact k12⟩)
  rcases wdraw_non hk S0.run with ⟨hw, hrun⟩ | ⟨hw, v, h1, hex, hrun⟩
  · -- not wanted
    refine ⟨_, _, _, oid, hspl, S0.size, hnr, heffs, S0.closed, hrun, S0.rel, S0.fr, by rw [hSX]; exact S0.tmps, S0.defers, hkeep _, S0.inj, S0.bound, ?_⟩
    intro l1 x l2 e hx
    rcases snoc_split e with ⟨rfl, rfl, rfl⟩ | ⟨l3, rfl, e2⟩
    · refine ⟨sp, fun t ht => S0.keep t ht, fun t ht => upd_ne (ht x (by simp)), .inl ⟨hw, fun t ht => upd_eq ht⟩⟩
    · exact hold _ hp pd oid (fun p hp => hp) (fun i hi => rfl) (fun o ho => rfl) l1 x l3 e2 hx
  · cases hkd : d.st.op.kind with
    | eff => exact absurd hkd hk
    | pure =>
      have hh := exec_pure hkd hex
      have : h1 = hp := by have := hh hp; rw [hex] at this; cases this; rfl
      subst this
      rw [if_neg (by rw [hkd]; decide)] at hrun
      refine ⟨_, _, _, oid, hspl, S0.size, hnr, heffs, S0.closed, hrun, S0.rel, S0.fr, by rw [hSX]; exact S0.tmps, S0.defers, hkeep _, S0.inj, S0.bound, ?_⟩
      intro l1 x l2 e hx
      rcases snoc_split e with ⟨rfl, rfl, rfl⟩ | ⟨l3, rfl, e2⟩
      · exact ⟨sp, fun t ht => S0.keep t ht, fun t ht => upd_ne (ht x (by simp)), .inr ⟨hw, v, fun t ht => upd_eq ht, .inl ⟨hkd, hh⟩⟩⟩
      · exact hold _ h1 pd oid (fun p hp => hp) (fun i hi => rfl) (fun o ho => rfl) l1 x l3 e2 hx
    | read =>
      have := exec_read hkd hex
      subst this
      rw [if_pos hkd] at hrun
      refine ⟨_, _, _, oid, hspl, S0.size, hnr, heffs, S0.closed, hrun, S0.rel, S0.fr, by rw [hSX]; exact S0.tmps, S0.defers, hkeep _, S0.inj, S0.bound, ?_⟩
      intro l1 x l2 e hx
      rcases snoc_split e with ⟨rfl, rfl, rfl⟩ | ⟨l3, rfl, e2⟩
      · exact ⟨sp, fun t ht => S0.keep t ht, fun t ht => upd_ne (ht x (by simp)), .inr ⟨hw, v, fun t ht => upd_eq ht, .inr (.inl ⟨hkd, by simp⟩)⟩⟩
      · exact hold _ h1 _ oid (fun p hp => by simp [hp]) (fun i hi => rfl) (fun o ho => rfl) l1 x l3 e2 hx
    | make =>
      rw [exec_make hkd] at hex
      obtain ⟨p, hp1, hp2⟩ := Option.map_eq_some_iff.1 hex
      cases hp2
      rw [if_neg (by rw [hkd]; decide)] at hrun
      obtain ⟨r1, f1⟩ := S0.rel.reserve p.2
      have hgn : ∀ o, (hp.new p.2).get o = if o = hp.n then some (.cells p.2 (some hp.n)) else hp.get o := fun o => H.get_push _ _ _
      refine ⟨_, _, _, fun i => if i = d.i then some hp.n else oid i, hspl, S0.size, hnr, heffs, S0.closed, hrun, r1, S0.fr.trans f1, by rw [hSX]; exact S0.tmps, S0.defers, hkeep _, ?_, ?_, ?_⟩
      · intro i j o hi hj
        split at hi
        · rename_i e1; cases hi
          split at hj
          · rename_i e2; rw [e1, e2]
          · exact absurd (S0.bound j _ hj) (Nat.lt_irrefl _)
        · split at hj
          · cases hj; exact absurd (S0.bound i _ hi) (Nat.lt_irrefl _)
          · exact S0.inj i j o hi hj
      · intro i o hi
        split at hi
        · cases hi; exact Nat.lt_succ_self _
        · exact Nat.lt_succ_of_lt (S0.bound i o hi)
      · intro l1 x l2 e hx
        rcases snoc_split e with ⟨rfl, rfl, rfl⟩ | ⟨l3, rfl, e2⟩
        · exact ⟨sp, fun t ht => S0.keep t ht, fun t ht => upd_ne (ht x (by simp)), .inr ⟨hw, _, fun t ht => upd_eq ht, .inr (.inr ⟨hkd, p, hp.n, hp1, rfl, by simp, S0.fr.n, S0.rel.fresh, by rw [hgn, if_pos rfl]⟩)⟩⟩
        · exact hold _ _ pd _ (fun p hp => hp) (fun i hi => by simp [hi]) (fun o ho => by rw [hgn, if_neg (by omega)]) l1 x l3 e2 hx

def Headed (rest : List DStep) : Prop := rest = [] ∨ ∃ e r, rest = e :: r ∧ e.st.op.kind = .eff
theorem Sim.extend (hP : PlanOK P nt ops plan) {L : Array Bool} {m : M} {a : Act} {w : World} : ∀ {rest pre : List DStep} {sp : S} {hp : H} {pd : List Pend} {oid : Nat → Option Nat},
    Sim B0 P nt ops plan C Pn m0 h0 w0 s0 Qd ds L pre rest sp hp pd oid m a w →
    ∃ pre1 rest1 sp1 hp1 pd1 oid1, Sim B0 P nt ops plan C Pn m0 h0 w0 s0 Qd ds L pre1 rest1 sp1 hp1 pd1 oid1 m a w ∧ Headed rest1
  | [], pre, sp, hp, pd, oid, S0 => ⟨_, _, _, _, _, _, S0, .inl rfl⟩
  | d :: r, pre, sp, hp, pd, oid, S0 => by
    by_cases hk : d.st.op.kind = .eff
    · exact ⟨_, _, _, _, _, _, S0, .inr ⟨d, r, rfl, hk⟩⟩
    · obtain ⟨sp1, hp1, pd1, oid1, S1⟩ := S0.one hP hk
      exact S1.extend hP
end
end Go.Proofs.YtlbaphapjclkdaaGreatDoor.Ev

/- Regions that draw their order: whatever order is drawn, the answer is that of the plan's order. -/
namespace Go.Proofs.YtlbaphapjclkdaaGreatDoor.Ev
set_option linter.unusedVariables false
set_option linter.unusedSimpArgs false

theorem trStep_spec {P : Program} {nt : Nat} {ops : List Oper} {o : Oper} {st : AStep} (h : trStep P nt ops o = some st) :
    trOp P o.op = some st.op ∧ trGuard nt ops o.guard = some st.guard ∧ st.dst = o.dst ∧ ∀ x, o.dst = some x → x < nt := by
  unfold trStep at h
  split at h
  case h_2 => cases h
  rename_i ao g hop hg
  cases hd : o.dst with
  | none => rw [hd] at h; cases h; exact ⟨hop, hg, rfl, fun x hx => by cases hx⟩
  | some d =>
    rw [hd] at h
    simp only at h
    split at h
    · rename_i hlt; cases h; exact ⟨hop, hg, rfl, fun x hx => by cases hx; exact hlt⟩
    · cases h

theorem recheck_mem {h : H} : ∀ {l : List Pend}, recheck h l = true → ∀ p ∈ l, ∃ h1, exec p.op p.s h = some (p.v, h1)
  | [], _, p, hp => by cases hp
  | q :: l, hc, p, hp => by
    simp only [recheck, Bool.and_eq_true] at hc
    rcases List.mem_cons.1 hp with rfl | hp
    · have h1 := hc.1
      split at h1
      · rename_i v h2 hx; rw [AV.beq_eq h1] at hx; exact ⟨h2, hx⟩
      · cases h1
    · exact recheck_mem hc.2 p hp

section
variable {B0 : Nat} {P : Program} {nt : Nat} {ops : Array Oper} {plan : List DStep} {C : CallP} {Pn : AV → H → Prop}
  {m0 : M} {h0 : H} {w0 : World} {s0 : S} {Qd : S → H → Prop} {ds : List Deferred}

theorem wdraw_eff {d : DStep} {r : List DStep} {pd : List Pend} {s : S} {h : H} (hk : d.st.op.kind = .eff) (he : WDrawG C Pn (d :: r) pd Qd s h) :
    recheck h pd = true ∧ ((wanted d.st.guard s = false ∧ WDrawG C Pn r (pd.filter fun p => !d.bef.testBit p.i) Qd (upd s d.st.dst undefA) h) ∨
    (wanted d.st.guard s = true ∧ WOpG C d.st.op s h (fun v h1 => WDrawG C Pn r (pd.filter fun p => !d.bef.testBit p.i) Qd (upd s d.st.dst v) h1) Pn)) := by
  simp only [WDrawG, if_pos hk] at he
  refine ⟨he.1, ?_⟩
  have he := he.2
  split at he
  · rename_i hw
    exact .inr ⟨hw, he⟩
  · rename_i hw
    exact .inl ⟨by simpa using hw, he⟩

theorem Sim.chk {L : Array Bool} {pre rest : List DStep} {sp : S} {hp : H} {pd : List Pend} {oid : Nat → Option Nat} {m : M} {a : Act} {w : World}
    (S0 : Sim B0 P nt ops plan C Pn m0 h0 w0 s0 Qd ds L pre rest sp hp pd oid m a w) (hh : Headed rest) : recheck hp pd = true := by
  rcases hh with rfl | ⟨e, r, rfl, hk⟩
  · exact S0.run.1
  · exact (wdraw_eff hk S0.run).1

theorem listed_of_bef (hP : PlanOK P nt ops plan) {L : Array Bool} (hc : ∀ d ∈ plan, lis L d.i = true → ∀ j, d.bef.testBit j = true → lis L j = true) {d : DStep} (hd : d ∈ plan)
    (hr : d.i ∈ Region.ready .any ops L) : ∀ j, d.bef.testBit j = true → lis L j = true := by
  intro j hj
  obtain ⟨l1, l2, e⟩ := List.append_of_mem hd
  obtain ⟨o, ho, _, _, hjj⟩ := hP.row l1 d l2 e
  obtain ⟨_, o', ho', hb⟩ := mem_ready.1 hr
  rw [ho] at ho'; cases ho'
  obtain ⟨on, hon, d', hd', hdi, hor⟩ := hjj j hj
  unfold binding at hon
  obtain ⟨ed, hed, rfl⟩ := List.mem_map.1 hon
  simp only [List.mem_filter, Array.mem_toList_iff] at hed
  have hl : lis L ed.on = true := hb ed hed.1 hed.2
  rcases hor with rfl | hor
  · exact hl
  · exact hc d' (by rw [e]; simp [hd']) (by rw [hdi]; exact hl) j hor

theorem reads_agree {s1 s2 : S} {st : AStep} (h : ∀ t ∈ st.reads, s1 t = s2 t) : wanted st.guard s1 = wanted st.guard s2 ∧ ∀ x ∈ st.op.opds, x.ev s1 = x.ev s2 := by
  constructor
  · unfold wanted
    cases hg : st.guard with
    | none => rfl
    | some p =>
      obtain ⟨t, b⟩ := p
      simp only
      rw [h t (by unfold AStep.reads; rw [hg]; simp)]
  · exact opds_of_reads fun t ht => h t (by unfold AStep.reads; exact List.mem_append_right _ ht)

/-- an operation told early, run now -/
theorem Sim.agree (hP : PlanOK P nt ops plan) {L : Array Bool} {pre rest l1 l2 : List DStep} {d : DStep} {sp sd : S} {hp : H} {pd : List Pend} {oid : Nat → Option Nat} {m : M} {a : Act} {w : World}
    (S0 : Sim B0 P nt ops plan C Pn m0 h0 w0 s0 Qd ds L pre rest sp hp pd oid m a w) (e : pre = l1 ++ d :: l2) (hl : lis L d.i = false) (hb : ∀ j, d.bef.testBit j = true → lis L j = true)
    (k1 : ∀ t, (∀ x ∈ l1, x.st.dst ≠ some t) → sd t = s0 t) (k2 : ∀ t, (∀ x ∈ d :: l2, x.st.dst ≠ some t) → sp t = sd t) : ∀ t ∈ d.st.reads, SX L pre s0 sp t = sd t := by
  intro t ht
  have hsp : plan = l1 ++ d :: (l2 ++ rest) := by rw [S0.split, e]; simp
  have hdm : d ∈ plan := by rw [hsp]; simp
  have hprem : ∀ x ∈ pre, x ∈ plan := fun x hx => by rw [S0.split]; simp [hx]
  by_cases hA : ∃ x ∈ plan, x.st.dst = some t
  · obtain ⟨x, hx, hxt⟩ := hA
    have hx' := hx
    rw [hsp] at hx'
    rcases List.mem_append.1 hx' with hx1 | hx1
    · have hp1 := hP.bef hsp hx1
      have hlx := hb _ (hp1.rd t hxt ht)
      rw [SX_done (fun y hy hyt => by rw [hP.uniq (hprem y hy) hx hyt hxt]; exact hlx)]
      refine k2 t (fun y hy hyt => ?_)
      have hym : y ∈ plan := by rw [hsp]; rcases List.mem_cons.1 hy with rfl | hy <;> simp [*]
      have : y = x := hP.uniq hym hx hyt hxt
      subst this
      rcases List.mem_cons.1 hy with rfl | hy
      · exact hp1.ne rfl
      · obtain ⟨A, B, e3⟩ := List.append_of_mem hx1
        have := hP.aft (A := A) (d := y) (B := B ++ d :: (l2 ++ rest)) (x := y) (by rw [hsp, e3]; simp) (by simp [hy])
        exact this.ne rfl
    · rcases List.mem_cons.1 hx1 with rfl | hx1
      · rw [SX_pend (d := x) (by rw [e]; simp) hl hxt]
        refine (k1 t (fun y hy hyt => ?_)).symm
        exact (hP.bef hsp hy).dst t hyt hxt
      · have hp1 := hP.aft hsp hx1
        have hxl : lis L x.i = false := by
          cases hq : lis L x.i with
          | false => rfl
          | true => have := S0.closed x hx hq _ (hp1.rd' t hxt ht); rw [hl] at this; cases this
        have hk1 : sd t = s0 t := k1 t (fun y hy hyt => by
          have : y = x := hP.uniq (by rw [hsp]; simp [hy]) hx hyt hxt
          subst this
          obtain ⟨A, B, e3⟩ := List.append_of_mem hy
          exact (hP.aft (A := A) (d := y) (B := B ++ d :: (l2 ++ rest)) (x := y) (by rw [hsp, e3]; simp) (by rw [List.mem_append]; exact .inr (List.mem_cons_of_mem _ hx1))).ne rfl)
        rw [hk1]
        by_cases hxp : x ∈ pre
        · exact SX_pend hxp hxl hxt
        · have hno : ∀ y ∈ pre, y.st.dst ≠ some t := fun y hy hyt => hxp (by rw [← hP.uniq (hprem y hy) hx hyt hxt]; exact hy)
          rw [SX_done (fun y hy hyt => absurd hyt (hno y hy)), S0.keep t hno]
  · have hno : ∀ y ∈ plan, y.st.dst ≠ some t := fun y hy hyt => hA ⟨y, hy, hyt⟩
    rw [SX_done (fun y hy hyt => absurd hyt (hno y (hprem y hy))), S0.keep t (fun y hy => hno y (hprem y hy)), k1 t (fun y hy => hno y (hprem y (by rw [e]; simp [hy])))]

theorem SX_list (hP : PlanOK P nt ops plan) {L : Array Bool} {pre : List DStep} (hpre : ∀ x ∈ pre, x ∈ plan) {d : DStep} (hd : d ∈ pre) (hi : d.i < L.size) {sp : S} {v : AV} (hv : ∀ t, d.st.dst = some t → sp t = v) :
    SX (L.setIfInBounds d.i true) pre s0 sp = upd (SX L pre s0 sp) d.st.dst v := by
  funext t
  by_cases ht : d.st.dst = some t
  · rw [upd_eq ht, SX_done (fun y hy hyt => by rw [hP.uniq (hpre y hy) (hpre d hd) hyt ht, lis_set hi]; simp), hv t ht]
  · rw [upd_ne ht]
    unfold SX
    have : (pre.any fun x => !lis (L.setIfInBounds d.i true) x.i && decide (x.st.dst = some t)) = pre.any fun x => !lis L x.i && decide (x.st.dst = some t) := by
      rw [Bool.eq_iff_iff, List.any_eq_true, List.any_eq_true]
      have key : ∀ x ∈ pre, x.st.dst = some t → lis (L.setIfInBounds d.i true) x.i = lis L x.i := fun x hx hxt => by
        rw [lis_set hi, if_neg]
        intro e
        exact ht (by rw [← hP.idx (hpre x hx) (hpre d hd) e]; exact hxt)
      constructor
      · rintro ⟨x, hx, hc⟩
        simp only [Bool.and_eq_true, decide_eq_true_eq] at hc
        exact ⟨x, hx, by rw [key x hx hc.2] at hc; simpa using hc⟩
      · rintro ⟨x, hx, hc⟩
        simp only [Bool.and_eq_true, decide_eq_true_eq] at hc
        exact ⟨x, hx, by rw [← key x hx hc.2] at hc; simpa using hc⟩
    rw [this]

theorem Sim.pendstep (hP : PlanOK P nt ops plan) {L : Array Bool} {pre rest l1 l2 : List DStep} {d : DStep} {sp : S} {hp : H} {pd : List Pend} {oid : Nat → Option Nat} {m : M} {a : Act} {w : World}
    (S0 : Sim B0 P nt ops plan C Pn m0 h0 w0 s0 Qd ds L pre rest sp hp pd oid m a w) (e : pre = l1 ++ d :: l2) (hi : d.i < L.size) (hl : lis L d.i = false) (hb : ∀ j, d.bef.testBit j = true → lis L j = true)
    {v : AV} (hv : ∀ t, d.st.dst = some t → sp t = v) {o : Oper} (hdst : d.st.dst = o.dst) (hnt : ∀ x, o.dst = some x → x < nt) {m1 : M} {w1 : World} {v' : Value} (hle : M.le m m1) (hvr : VRel m1 v v') (hrel : Rel P B0 m1 hp w1) (hfr : Fr B0 m0 m1 h0 hp w0 w1)
    (hkeep : ∀ i q, i ≠ d.i → oid i = some q → m q = none → m1 q = none) :
    Sim B0 P nt ops plan C Pn m0 h0 w0 s0 Qd ds (L.setIfInBounds d.i true) pre rest sp hp pd oid m1 (a.put o.dst v') w1 := by
  have hpre : ∀ x ∈ pre, x ∈ plan := fun x hx => by rw [S0.split]; simp [hx]
  have hdp : d ∈ pre := by rw [e]; simp
  have hmono : ∀ j, lis L j = true → lis (L.setIfInBounds d.i true) j = true := fun j hj => by rw [lis_set hi]; split <;> simp [hj]
  refine ⟨S0.split, by simp [S0.size], ?_, fun x hx hk => hmono _ (S0.effs x hx hk), ?_, S0.run, hrel, hfr, ?_, by rw [put_defers]; exact S0.defers, S0.keep, S0.inj, S0.bound, ?_⟩
  · intro x hx
    rw [lis_set hi, if_neg]
    · exact S0.notrest x hx
    · intro e2
      have hxm : x ∈ plan := by rw [S0.split]; simp [hx]
      have : x = d := hP.idx hxm (hpre d hdp) e2
      subst this
      exact (hP.aft (A := l1) (d := x) (B := l2 ++ rest) (x := x) (by rw [S0.split, e]; simp) (by simp [hx])).ne rfl
  · intro x hx hxl j hj
    rw [lis_set hi] at hxl
    split at hxl
    · rename_i e2
      have : x = d := hP.idx hx (hpre d hdp) e2
      subst this
      exact hmono _ (hb j hj)
    · exact hmono _ (S0.closed x hx hxl j hj)
  · rw [SX_list hP hpre hdp hi hv, hdst]
    exact (S0.tmps.mono hle).put o.dst hnt hvr
  · intro k1 x k2 e2 hx
    rw [lis_set hi] at hx
    split at hx
    · cases hx
    rename_i hne
    obtain ⟨sd, a1, a2, a3⟩ := S0.pend k1 x k2 e2 hx
    refine ⟨sd, a1, a2, ?_⟩
    rcases a3 with a3 | ⟨a4, u, a5, a6⟩
    · exact .inl a3
    · refine .inr ⟨a4, u, a5, ?_⟩
      rcases a6 with a6 | a6 | ⟨a6, p, q, b1, b2, b3, b4, b5, b6⟩
      · exact .inl a6
      · exact .inr (.inl a6)
      · exact .inr (.inr ⟨a6, p, q, b1, b2, b3, b4, hkeep x.i q hne b3 b5, b6⟩)

theorem Sim.effstep (hP : PlanOK P nt ops plan) {L : Array Bool} {pre r : List DStep} {d : DStep} {sp : S} {hp : H} {pd : List Pend} {oid : Nat → Option Nat} {m : M} {a : Act} {w : World}
    (S0 : Sim B0 P nt ops plan C Pn m0 h0 w0 s0 Qd ds L pre (d :: r) sp hp pd oid m a w) (hi : d.i < L.size) (hk : d.st.op.kind = .eff) (hb : ∀ j, d.bef.testBit j = true → lis L j = true)
    {v : AV} {h1 : H} (hrun : WDrawG C Pn r (pd.filter fun p => !d.bef.testBit p.i) Qd (upd sp d.st.dst v) h1)
    {o : Oper} (hdst : d.st.dst = o.dst) (hnt : ∀ x, o.dst = some x → x < nt) {m1 : M} {w1 : World} {v' : Value} (hvr : VRel m1 v v') (hrel : Rel P B0 m1 h1 w1) (hfr : Fr B0 m m1 hp h1 w w1) :
    Sim B0 P nt ops plan C Pn m0 h0 w0 s0 Qd ds (L.setIfInBounds d.i true) (pre ++ [d]) r (upd sp d.st.dst v) h1 (pd.filter fun p => !d.bef.testBit p.i) oid m1 (a.put o.dst v') w1 := by
  have hspl : plan = (pre ++ [d]) ++ r := by rw [S0.split]; simp
  have hdm : d ∈ plan := by rw [hspl]; simp
  have hpre : ∀ x ∈ pre, x ∈ plan := fun x hx => by rw [S0.split]; simp [hx]
  have hpair : ∀ x ∈ pre, PairOK x d := fun x hx => hP.bef S0.split hx
  have hmono : ∀ j, lis L j = true → lis (L.setIfInBounds d.i true) j = true := fun j hj => by rw [lis_set hi]; split <;> simp [hj]
  have hfresh : ∀ t, d.st.dst = some t → ∀ x ∈ pre, x.st.dst ≠ some t := fun t ht x hx hxt => (hpair x hx).dst t hxt ht
  refine ⟨hspl, by simp [S0.size], ?_, ?_, ?_, hrun, hrel, S0.fr.trans hfr, ?_, by rw [put_defers]; exact S0.defers, ?_, S0.inj, fun i q hq => Nat.lt_of_lt_of_le (S0.bound i q hq) hfr.n, ?_⟩
  · intro x hx
    rw [lis_set hi, if_neg]
    · exact S0.notrest x (by simp [hx])
    · exact fun e2 => (hP.aft S0.split hx).ne e2.symm
  · intro x hx hxk
    rcases List.mem_append.1 hx with hx | hx
    · exact hmono _ (S0.effs x hx hxk)
    · simp at hx; subst hx; rw [lis_set hi]; simp
  · intro x hx hxl j hj
    rw [lis_set hi] at hxl
    split at hxl
    · rename_i e2
      have : x = d := hP.idx hx hdm e2
      subst this
      exact hmono _ (hb j hj)
    · exact hmono _ (S0.closed x hx hxl j hj)
  · have : SX (L.setIfInBounds d.i true) (pre ++ [d]) s0 (upd sp d.st.dst v) = upd (SX L pre s0 sp) d.st.dst v := by
      funext t
      by_cases ht : d.st.dst = some t
      · rw [upd_eq ht, SX_done ?_, upd_eq ht]
        intro y hy hyt
        rcases List.mem_append.1 hy with hy | hy
        · exact absurd hyt (hfresh t ht y hy)
        · simp at hy; subst hy; rw [lis_set hi]; simp
      · rw [upd_ne ht]
        unfold SX
        rw [upd_ne ht]
        have : ((pre ++ [d]).any fun x => !lis (L.setIfInBounds d.i true) x.i && decide (x.st.dst = some t)) = pre.any fun x => !lis L x.i && decide (x.st.dst = some t) := by
          rw [List.any_append]
          simp only [List.any_cons, ht, decide_false, Bool.and_false, List.any_nil, Bool.or_false]
          rw [Bool.eq_iff_iff, List.any_eq_true, List.any_eq_true]
          have key : ∀ x ∈ pre, lis (L.setIfInBounds d.i true) x.i = lis L x.i := fun x hx => by
            rw [lis_set hi, if_neg (hpair x hx).ne]
          constructor
          · rintro ⟨x, hx, hc⟩; exact ⟨x, hx, by rw [key x hx] at hc; exact hc⟩
          · rintro ⟨x, hx, hc⟩; exact ⟨x, hx, by rw [key x hx]; exact hc⟩
        rw [this]
    rw [this, hdst]
    exact (S0.tmps.mono hfr.le).put o.dst hnt hvr
  · intro t ht
    rw [upd_ne (ht d (by simp)), S0.keep t (fun x hx => ht x (by simp [hx]))]
  · intro k1 x k2 e2 hx
    rw [lis_set hi] at hx
    split at hx
    · cases hx
    rename_i hne
    rcases snoc_split e2 with ⟨rfl, rfl, rfl⟩ | ⟨l3, rfl, e3⟩
    · exact absurd rfl hne
    have hxm : x ∈ pre := by rw [e3]; simp
    have hsp : ∀ t, x.st.dst = some t → upd sp d.st.dst v t = sp t := fun t ht => upd_ne ((hpair x hxm).dst t ht)
    obtain ⟨sd, a1, a2, a3⟩ := S0.pend k1 x l3 e3 hx
    refine ⟨sd, a1, fun t ht => ?_, ?_⟩
    · rw [upd_ne (ht d (by simp)), a2 t (fun y hy => ht y (by rcases List.mem_cons.1 hy with rfl | hy <;> simp [*]))]
    · rcases a3 with ⟨a4, a5⟩ | ⟨a4, u, a5, a6⟩
      · exact .inl ⟨a4, fun t ht => by rw [hsp t ht]; exact a5 t ht⟩
      · refine .inr ⟨a4, u, fun t ht => by rw [hsp t ht]; exact a5 t ht, ?_⟩
        rcases a6 with a6 | ⟨a6, a7⟩ | ⟨a6, p, q, b1, b2, b3, b4, b5, b6⟩
        · exact .inl a6
        · refine .inr (.inl ⟨a6, List.mem_filter.2 ⟨a7, ?_⟩⟩)
          simp only [Bool.not_eq_true']
          cases hq : d.bef.testBit x.i with
          | false => rfl
          | true => have := hb _ hq; rw [hx] at this; cases this
        · obtain ⟨c1, c2⟩ := hfr.keep q (S0.rel.wf.ob _ _ b6) b5
          exact .inr (.inr ⟨a6, p, q, b1, b2, b3, b4, c2, by rw [c1]; exact b6⟩)

end
end Go.Proofs.YtlbaphapjclkdaaGreatDoor.Ev

/- Regions that draw their order: whatever order is drawn, the answer is that of the plan's order. -/
import Derived.Test.YtgjcdpanabjcmaaGreatDoorEvD2
namespace Go.Proofs.YtgjcdpanabjcmaaGreatDoor.Ev
set_option linter.unusedVariables false
set_option linter.unusedSimpArgs false

theorem upd_ne {s : S} {d : Option Nat} {v : AV} {t : Nat} (h : d ≠ some t) : upd s d v t = s t := by
  cases d with
  | none => rfl
  | some x => show (if t = x then v else s t) = s t; rw [if_neg (fun e => h (by rw [e]))]
theorem upd_eq {s : S} {d : Option Nat} {v : AV} {t : Nat} (h : d = some t) : upd s d v t = v := by subst h; simp [upd]

def lis (L : Array Bool) (i : Nat) : Bool := L.getD i false
theorem lis_set {L : Array Bool} {i : Nat} (hi : i < L.size) (j : Nat) : lis (L.setIfInBounds i true) j = if j = i then true else lis L j := by
  unfold lis
  simp only [Array.getD_eq_getD_getElem?, Array.getElem?_setIfInBounds]
  by_cases h : i = j
  · subst h; simp [hi]
  · rw [if_neg h, if_neg (fun e => h e.symm)]

def SX (L : Array Bool) (pre : List DStep) (s0 sp : S) : S := fun t => if pre.any (fun d => !lis L d.i && decide (d.st.dst = some t)) then s0 t else sp t
theorem SX_pend {L : Array Bool} {pre : List DStep} {s0 sp : S} {t : Nat} {d : DStep} (hd : d ∈ pre) (hl : lis L d.i = false) (ht : d.st.dst = some t) : SX L pre s0 sp t = s0 t := by
  unfold SX
  rw [if_pos]
  rw [List.any_eq_true]
  exact ⟨d, hd, by simp [hl, ht]⟩
theorem SX_done {L : Array Bool} {pre : List DStep} {s0 sp : S} {t : Nat} (h : ∀ d ∈ pre, d.st.dst = some t → lis L d.i = true) : SX L pre s0 sp t = sp t := by
  unfold SX
  rw [if_neg]
  rw [List.any_eq_true]
  rintro ⟨d, hd, hc⟩
  simp only [Bool.and_eq_true, Bool.not_eq_true', decide_eq_true_eq] at hc
  rw [h d hd hc.2] at hc
  exact absurd hc.1 (by decide)

section
variable {B0 : Nat} {P : Program} {nt : Nat} {ops : Array Oper} {plan : List DStep} {C : CallP} {Pn : AV → H → Prop}
  {m0 : M} {h0 : H} {w0 : World} {s0 : S} {Qd : S → H → Prop} {ds : List Deferred}

theorem PlanOK.bef (hP : PlanOK P nt ops plan) {A B : List DStep} {d x : DStep} (e : plan = A ++ d :: B) (hx : x ∈ A) : PairOK x d := by
  obtain ⟨l1, l2, rfl⟩ := List.append_of_mem hx
  exact pairOK_spec (hP.pair l1 x (l2 ++ d :: B) (by rw [e]; simp) d (by simp))
theorem PlanOK.aft (hP : PlanOK P nt ops plan) {A B : List DStep} {d x : DStep} (e : plan = A ++ d :: B) (hx : x ∈ B) : PairOK d x :=
  pairOK_spec (hP.pair A d B e x hx)
theorem PlanOK.tri (hP : PlanOK P nt ops plan) {x y : DStep} (hx : x ∈ plan) (hy : y ∈ plan) : x = y ∨ PairOK x y ∨ PairOK y x := by
  obtain ⟨A, B, e⟩ := List.append_of_mem hx
  rw [e] at hy
  rcases List.mem_append.1 hy with hy | hy
  · exact .inr (.inr (hP.bef e hy))
  · rcases List.mem_cons.1 hy with rfl | hy
    · exact .inl rfl
    · exact .inr (.inl (hP.aft e hy))
theorem PlanOK.idx (hP : PlanOK P nt ops plan) {x y : DStep} (hx : x ∈ plan) (hy : y ∈ plan) (e : x.i = y.i) : x = y := by
  rcases hP.tri hx hy with h | h | h
  · exact h
  · exact absurd e h.ne
  · exact absurd e.symm h.ne
theorem PlanOK.uniq (hP : PlanOK P nt ops plan) {x y : DStep} (hx : x ∈ plan) (hy : y ∈ plan) {t : Nat} (h1 : x.st.dst = some t) (h2 : y.st.dst = some t) : x = y := by
  rcases hP.tri hx hy with h | h | h
  · exact h
  · exact absurd h2 (h.dst t h1)
  · exact absurd h1 (h.dst t h2)

def PendOK (h0 : H) (m : M) (hp : H) (pd : List Pend) (oid : Nat → Option Nat) (s0 sp : S) (l1 : List DStep) (d : DStep) (l2 : List DStep) : Prop :=
  ∃ sd : S, (∀ t, (∀ x ∈ l1, x.st.dst ≠ some t) → sd t = s0 t) ∧ (∀ t, (∀ x ∈ d :: l2, x.st.dst ≠ some t) → sp t = sd t) ∧
    ((wanted d.st.guard sd = false ∧ ∀ t, d.st.dst = some t → sp t = undefA) ∨
     (wanted d.st.guard sd = true ∧ ∃ v, (∀ t, d.st.dst = some t → sp t = v) ∧
       ((d.st.op.kind = .pure ∧ ∀ h, exec d.st.op sd h = some (v, h)) ∨
        (d.st.op.kind = .read ∧ (⟨d.i, d.st.op, sd, v⟩ : Pend) ∈ pd) ∨
        (d.st.op.kind = .make ∧ ∃ p o, makeOf d.st.op sd = some p ∧ v = p.1 o ∧ oid d.i = some o ∧ h0.n ≤ o ∧ m o = none ∧ hp.get o = some (.cells p.2 (some o))))))

variable (B0 P nt ops plan C Pn m0 h0 w0 s0 Qd ds) in
structure Sim (L : Array Bool) (pre rest : List DStep) (sp : S) (hp : H) (pd : List Pend) (oid : Nat → Option Nat) (m : M) (a : Act) (w : World) : Prop where
  split : plan = pre ++ rest
  size : L.size = ops.size
  notrest : ∀ d ∈ rest, lis L d.i = false
  effs : ∀ d ∈ pre, d.st.op.kind = .eff → lis L d.i = true
  closed : ∀ d ∈ plan, lis L d.i = true → ∀ j, d.bef.testBit j = true → lis L j = true
  run : WDrawG C Pn rest pd Qd sp hp
  rel : Rel P B0 m hp w
  fr : Fr B0 m0 m h0 hp w0 w
  tmps : ARel m nt (SX L pre s0 sp) a
  defers : a.defers = ds
  keep : ∀ t, (∀ d ∈ pre, d.st.dst ≠ some t) → sp t = s0 t
  inj : ∀ i j o, oid i = some o → oid j = some o → i = j
  bound : ∀ i o, oid i = some o → o < hp.n
  pend : ∀ l1 d l2, pre = l1 ++ d :: l2 → lis L d.i = false → PendOK h0 m hp pd oid s0 sp l1 d l2

theorem snoc_split {α : Type} {pre l1 l2 : List α} {x d : α} (e : pre ++ [x] = l1 ++ d :: l2) : (l1 = pre ∧ d = x ∧ l2 = []) ∨ ∃ l3, l2 = l3 ++ [x] ∧ pre = l1 ++ d :: l3 := by
  rcases List.eq_nil_or_concat l2 with rfl | ⟨l3, y, rfl⟩
  · have := List.append_inj' e rfl
    simp at this
    exact .inl ⟨this.1.symm, this.2.symm, rfl⟩
  · have e' : pre ++ [x] = (l1 ++ d :: l3) ++ [y] := by rw [e]; simp
    have := List.append_inj' e' rfl
    simp at this
    obtain ⟨h1, rfl⟩ := this
    exact .inr ⟨l3, by simp, h1⟩

theorem wdraw_non {d : DStep} {r : List DStep} {pd : List Pend} {s : S} {h : H} (hk : d.st.op.kind ≠ .eff) (he : WDrawG C Pn (d :: r) pd Qd s h) :
    (wanted d.st.guard s = false ∧ WDrawG C Pn r pd Qd (upd s d.st.dst undefA) h) ∨
    (wanted d.st.guard s = true ∧ ∃ v h1, exec d.st.op s h = some (v, h1) ∧ WDrawG C Pn r (if d.st.op.kind = .read then ⟨d.i, d.st.op, s, v⟩ :: pd else pd) Qd (upd s d.st.dst v) h1) := by
  simp only [WDrawG, if_neg hk] at he
  split at he
  · rename_i hw
    obtain ⟨v, h1, hx, he⟩ := he.get
    exact .inr ⟨hw, v, h1, hx, he⟩
  · rename_i hw
    exact .inl ⟨by simpa using hw, he⟩

/-- what is told early -/
theorem Sim.one (hP : PlanOK P nt ops plan) {L : Array Bool} {pre r : List DStep} {d : DStep} {sp : S} {hp : H} {pd : List Pend} {oid : Nat → Option Nat} {m : M} {a : Act} {w : World}
    (S0 : Sim B0 P nt ops plan C Pn m0 h0 w0 s0 Qd ds L pre (d :: r) sp hp pd oid m a w) (hk : d.st.op.kind ≠ .eff) :
    ∃ sp1 hp1 pd1 oid1, Sim B0 P nt ops plan C Pn m0 h0 w0 s0 Qd ds L (pre ++ [d]) r sp1 hp1 pd1 oid1 m a w := by
  have hspl : plan = (pre ++ [d]) ++ r := by rw [S0.split]; simp
  have hdl : lis L d.i = false := S0.notrest d (by simp)
  have hpair : ∀ x ∈ pre, PairOK x d := fun x hx => hP.bef S0.split hx
  have hfresh : ∀ t, d.st.dst = some t → ∀ x ∈ pre, x.st.dst ≠ some t := fun t ht x hx hxt => (hpair x hx).dst t hxt ht
  have hSX : ∀ v, SX L (pre ++ [d]) s0 (upd sp d.st.dst v) = SX L pre s0 sp := by
    intro v
    funext t
    by_cases hd : d.st.dst = some t
    · rw [SX_pend (d := d) (by simp) hdl hd, SX_done (fun x hx hxt => absurd hxt (hfresh t hd x hx)), S0.keep t (hfresh t hd)]
    · unfold SX
      rw [upd_ne hd]
      simp [hd]
  have hkeep : ∀ v t, (∀ x ∈ pre ++ [d], x.st.dst ≠ some t) → upd sp d.st.dst v t = s0 t := fun v t ht => by
    rw [upd_ne (ht d (by simp)), S0.keep t (fun x hx => ht x (by simp [hx]))]
  have heffs : ∀ x ∈ pre ++ [d], x.st.op.kind = .eff → lis L x.i = true := by
    intro x hx hxk
    rcases List.mem_append.1 hx with hx | hx
    · exact S0.effs x hx hxk
    · simp at hx; subst hx; exact absurd hxk hk
  have hnr : ∀ x ∈ r, lis L x.i = false := fun x hx => S0.notrest x (by simp [hx])
  -- what was told before
  have hold : ∀ (v : AV) (hp1 : H) (pd1 : List Pend) (oid1 : Nat → Option Nat), (∀ p ∈ pd, p ∈ pd1) → (∀ i, i ≠ d.i → oid1 i = oid i) → (∀ o, o < hp.n → hp1.get o = hp.get o) → ∀ l1 x l2, pre = l1 ++ x :: l2 → lis L x.i = false →
      PendOK h0 m hp1 pd1 oid1 s0 (upd sp d.st.dst v) l1 x (l2 ++ [d]) := by
    intro v hp1 pd1 oid1 hpd hoid hget l1 x l2 e hx
    obtain ⟨sd, k1, k2, k3⟩ := S0.pend l1 x l2 e hx
    have hxm : x ∈ pre := by rw [e]; simp
    have hsp : ∀ t, x.st.dst = some t → upd sp d.st.dst v t = sp t := fun t ht => upd_ne ((hpair x hxm).dst t ht)
    refine ⟨sd, k1, fun t ht => ?_, ?_⟩
    · rw [upd_ne (ht d (by simp)), k2 t (fun y hy => ht y (by rcases List.mem_cons.1 hy with rfl | hy <;> simp [*]))]
    · rcases k3 with ⟨k4, k5⟩ | ⟨k4, u, k5, k6⟩
      · exact .inl ⟨k4, fun t ht => by rw [hsp t ht]; exact k5 t ht⟩
      · refine .inr ⟨k4, u, fun t ht => by rw [hsp t ht]; exact k5 t ht, ?_⟩
        rcases k6 with k6 | ⟨k6, k7⟩ | ⟨k6, p, o, k7, k8, k9, k10, k11, k12⟩
        · exact .inl k6
        · exact .inr (.inl ⟨k6, hpd _ k7⟩)
        · exact .inr (.inr ⟨k6, p, o, k7, k8, by rw [hoid _ (hpair x hxm).ne]; exact k9, k10, k11, by rw [hget o (S0.rel.wf.ob _ _ k12)]; exact k12⟩)
  rcases wdraw_non hk S0.run with ⟨hw, hrun⟩ | ⟨hw, v, h1, hex, hrun⟩
  · -- not wanted
    refine ⟨_, _, _, oid, hspl, S0.size, hnr, heffs, S0.closed, hrun, S0.rel, S0.fr, by rw [hSX]; exact S0.tmps, S0.defers, hkeep _, S0.inj, S0.bound, ?_⟩
    intro l1 x l2 e hx
    rcases snoc_split e with ⟨rfl, rfl, rfl⟩ | ⟨l3, rfl, e2⟩
    · refine ⟨sp, fun t ht => S0.keep t ht, fun t ht => upd_ne (ht x (by simp)), .inl ⟨hw, fun t ht => upd_eq ht⟩⟩
    · exact hold _ hp pd oid (fun p hp => hp) (fun i hi => rfl) (fun o ho => rfl) l1 x l3 e2 hx
  · cases hkd : d.st.op.kind with
    | eff => exact absurd hkd hk
    | pure =>
      have hh := exec_pure hkd hex
      have : h1 = hp := by have := hh hp; rw [hex] at this; cases this; rfl
      subst this
      rw [if_neg (by rw [hkd]; decide)] at hrun
      refine ⟨_, _, _, oid, hspl, S0.size, hnr, heffs, S0.closed, hrun, S0.rel, S0.fr, by rw [hSX]; exact S0.tmps, S0.defers, hkeep _, S0.inj, S0.bound, ?_⟩
      intro l1 x l2 e hx
      rcases snoc_split e with ⟨rfl, rfl, rfl⟩ | ⟨l3, rfl, e2⟩
      · exact ⟨sp, fun t ht => S0.keep t ht, fun t ht => upd_ne (ht x (by simp)), .inr ⟨hw, v, fun t ht => upd_eq ht, .inl ⟨hkd, hh⟩⟩⟩
      · exact hold _ h1 pd oid (fun p hp => hp) (fun i hi => rfl) (fun o ho => rfl) l1 x l3 e2 hx
    | read =>
      have := exec_read hkd hex
      subst this
      rw [if_pos hkd] at hrun
      refine ⟨_, _, _, oid, hspl, S0.size, hnr, heffs, S0.closed, hrun, S0.rel, S0.fr, by rw [hSX]; exact S0.tmps, S0.defers, hkeep _, S0.inj, S0.bound, ?_⟩
      intro l1 x l2 e hx
      rcases snoc_split e with ⟨rfl, rfl, rfl⟩ | ⟨l3, rfl, e2⟩
      · exact ⟨sp, fun t ht => S0.keep t ht, fun t ht => upd_ne (ht x (by simp)), .inr ⟨hw, v, fun t ht => upd_eq ht, .inr (.inl ⟨hkd, by simp⟩)⟩⟩
      · exact hold _ h1 _ oid (fun p hp => by simp [hp]) (fun i hi => rfl) (fun o ho => rfl) l1 x l3 e2 hx
    | make =>
      rw [exec_make hkd] at hex
      obtain ⟨p, hp1, hp2⟩ := Option.map_eq_some_iff.1 hex
      cases hp2
      rw [if_neg (by rw [hkd]; decide)] at hrun
      obtain ⟨r1, f1⟩ := S0.rel.reserve p.2
      have hgn : ∀ o, (hp.new p.2).get o = if o = hp.n then some (.cells p.2 (some hp.n)) else hp.get o := fun o => H.get_push _ _ _
      refine ⟨_, _, _, fun i => if i = d.i then some hp.n else oid i, hspl, S0.size, hnr, heffs, S0.closed, hrun, r1, S0.fr.trans f1, by rw [hSX]; exact S0.tmps, S0.defers, hkeep _, ?_, ?_, ?_⟩
      · intro i j o hi hj
        split at hi
        · rename_i e1; cases hi
          split at hj
          · rename_i e2; rw [e1, e2]
          · exact absurd (S0.bound j _ hj) (Nat.lt_irrefl _)
        · split at hj
          · cases hj; exact absurd (S0.bound i _ hi) (Nat.lt_irrefl _)
          · exact S0.inj i j o hi hj
      · intro i o hi
        split at hi
        · cases hi; exact Nat.lt_succ_self _
        · exact Nat.lt_succ_of_lt (S0.bound i o hi)
      · intro l1 x l2 e hx
        rcases snoc_split e with ⟨rfl, rfl, rfl⟩ | ⟨l3, rfl, e2⟩
        · exact ⟨sp, fun t ht => S0.keep t ht, fun t ht => upd_ne (ht x (by simp)), .inr ⟨hw, _, fun t ht => upd_eq ht, .inr (.inr ⟨hkd, p, hp.n, hp1, rfl, by simp, S0.fr.n, S0.rel.fresh, by rw [hgn, if_pos rfl]⟩)⟩⟩
        · exact hold _ _ pd _ (fun p hp => hp) (fun i hi => by simp [hi]) (fun o ho => by rw [hgn, if_neg (by omega)]) l1 x l3 e2 hx

def Headed (rest : List DStep) : Prop := rest = [] ∨ ∃ e r, rest = e :: r ∧ e.st.op.kind = .eff
theorem Sim.extend (hP : PlanOK P nt ops plan) {L : Array Bool} {m : M} {a : Act} {w : World} : ∀ {rest pre : List DStep} {sp : S} {hp : H} {pd : List Pend} {oid : Nat → Option Nat},
    Sim B0 P nt ops plan C Pn m0 h0 w0 s0 Qd ds L pre rest sp hp pd oid m a w →
    ∃ pre1 rest1 sp1 hp1 pd1 oid1, Sim B0 P nt ops plan C Pn m0 h0 w0 s0 Qd ds L pre1 rest1 sp1 hp1 pd1 oid1 m a w ∧ Headed rest1
  | [], pre, sp, hp, pd, oid, S0 => ⟨_, _, _, _, _, _, S0, .inl rfl⟩
  | d :: r, pre, sp, hp, pd, oid, S0 => by
    by_cases hk : d.st.op.kind = .eff
    · exact ⟨_, _, _, _, _, _, S0, .inr ⟨d, r, rfl, hk⟩⟩
    · obtain ⟨sp1, hp1, pd1, oid1, S1⟩ := S0.one hP hk
      exact S1.extend hP
end
end Go.Proofs.YtgjcdpanabjcmaaGreatDoor.Ev

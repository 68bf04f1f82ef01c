/- Regions that draw their order: whatever order is drawn, the answer is that of the plan's order. -/
import Derived.Test.YtgjcdpanabjcmaaGreatDoorEvD3
namespace Go.Proofs.YtgjcdpanabjcmaaGreatDoor.Ev
set_option linter.unusedVariables false
set_option linter.unusedSimpArgs false

theorem trStep_spec {P : Program} {nt : Nat} {ops : List Oper} {o : Oper} {st : AStep} (h : trStep P nt ops o = some st) :
    trOp P o.op = some st.op ∧ trGuard nt ops o.guard = some st.guard ∧ st.dst = o.dst ∧ ∀ x, o.dst = some x → x < nt := by
  unfold trStep at h
  split at h
  case h_2 => cases h
  rename_i ao g hop hg
  cases hd : o.dst with
  | none => rw [hd] at h; cases h; exact ⟨hop, hg, rfl, fun x hx => by cases hx⟩
  | some d =>
    rw [hd] at h
    simp only at h
    split at h
    · rename_i hlt; cases h; exact ⟨hop, hg, rfl, fun x hx => by cases hx; exact hlt⟩
    · cases h

theorem recheck_mem {h : H} : ∀ {l : List Pend}, recheck h l = true → ∀ p ∈ l, ∃ h1, exec p.op p.s h = some (p.v, h1)
  | [], _, p, hp => by cases hp
  | q :: l, hc, p, hp => by
    simp only [recheck, Bool.and_eq_true] at hc
    rcases List.mem_cons.1 hp with rfl | hp
    · have h1 := hc.1
      split at h1
      · rename_i v h2 hx; rw [AV.beq_eq h1] at hx; exact ⟨h2, hx⟩
      · cases h1
    · exact recheck_mem hc.2 p hp

section
variable {B0 : Nat} {P : Program} {nt : Nat} {ops : Array Oper} {plan : List DStep} {C : CallP} {Pn : AV → H → Prop}
  {m0 : M} {h0 : H} {w0 : World} {s0 : S} {Qd : S → H → Prop} {ds : List Deferred}

theorem wdraw_eff {d : DStep} {r : List DStep} {pd : List Pend} {s : S} {h : H} (hk : d.st.op.kind = .eff) (he : WDrawG C Pn (d :: r) pd Qd s h) :
    recheck h pd = true ∧ ((wanted d.st.guard s = false ∧ WDrawG C Pn r (pd.filter fun p => !d.bef.testBit p.i) Qd (upd s d.st.dst undefA) h) ∨
    (wanted d.st.guard s = true ∧ WOpG C d.st.op s h (fun v h1 => WDrawG C Pn r (pd.filter fun p => !d.bef.testBit p.i) Qd (upd s d.st.dst v) h1) Pn)) := by
  simp only [WDrawG, if_pos hk] at he
  refine ⟨he.1, ?_⟩
  have he := he.2
  split at he
  · rename_i hw
    exact .inr ⟨hw, he⟩
  · rename_i hw
    exact .inl ⟨by simpa using hw, he⟩

theorem Sim.chk {L : Array Bool} {pre rest : List DStep} {sp : S} {hp : H} {pd : List Pend} {oid : Nat → Option Nat} {m : M} {a : Act} {w : World}
    (S0 : Sim B0 P nt ops plan C Pn m0 h0 w0 s0 Qd ds L pre rest sp hp pd oid m a w) (hh : Headed rest) : recheck hp pd = true := by
  rcases hh with rfl | ⟨e, r, rfl, hk⟩
  · exact S0.run.1
  · exact (wdraw_eff hk S0.run).1

theorem listed_of_bef (hP : PlanOK P nt ops plan) {L : Array Bool} (hc : ∀ d ∈ plan, lis L d.i = true → ∀ j, d.bef.testBit j = true → lis L j = true) {d : DStep} (hd : d ∈ plan)
    (hr : d.i ∈ Region.ready .any ops L) : ∀ j, d.bef.testBit j = true → lis L j = true := by
  intro j hj
  obtain ⟨l1, l2, e⟩ := List.append_of_mem hd
  obtain ⟨o, ho, _, _, hjj⟩ := hP.row l1 d l2 e
  obtain ⟨_, o', ho', hb⟩ := mem_ready.1 hr
  rw [ho] at ho'; cases ho'
  obtain ⟨on, hon, d', hd', hdi, hor⟩ := hjj j hj
  unfold binding at hon
  obtain ⟨ed, hed, rfl⟩ := List.mem_map.1 hon
  simp only [List.mem_filter, Array.mem_toList_iff] at hed
  have hl : lis L ed.on = true := hb ed hed.1 hed.2
  rcases hor with rfl | hor
  · exact hl
  · exact hc d' (by rw [e]; simp [hd']) (by rw [hdi]; exact hl) j hor

theorem reads_agree {s1 s2 : S} {st : AStep} (h : ∀ t ∈ st.reads, s1 t = s2 t) : wanted st.guard s1 = wanted st.guard s2 ∧ ∀ x ∈ st.op.opds, x.ev s1 = x.ev s2 := by
  constructor
  · unfold wanted
    cases hg : st.guard with
    | none => rfl
    | some p =>
      obtain ⟨t, b⟩ := p
      simp only
      rw [h t (by unfold AStep.reads; rw [hg]; simp)]
  · exact opds_of_reads fun t ht => h t (by unfold AStep.reads; exact List.mem_append_right _ ht)

/-- an operation told early, run now -/
theorem Sim.agree (hP : PlanOK P nt ops plan) {L : Array Bool} {pre rest l1 l2 : List DStep} {d : DStep} {sp sd : S} {hp : H} {pd : List Pend} {oid : Nat → Option Nat} {m : M} {a : Act} {w : World}
    (S0 : Sim B0 P nt ops plan C Pn m0 h0 w0 s0 Qd ds L pre rest sp hp pd oid m a w) (e : pre = l1 ++ d :: l2) (hl : lis L d.i = false) (hb : ∀ j, d.bef.testBit j = true → lis L j = true)
    (k1 : ∀ t, (∀ x ∈ l1, x.st.dst ≠ some t) → sd t = s0 t) (k2 : ∀ t, (∀ x ∈ d :: l2, x.st.dst ≠ some t) → sp t = sd t) : ∀ t ∈ d.st.reads, SX L pre s0 sp t = sd t := by
  intro t ht
  have hsp : plan = l1 ++ d :: (l2 ++ rest) := by rw [S0.split, e]; simp
  have hdm : d ∈ plan := by rw [hsp]; simp
  have hprem : ∀ x ∈ pre, x ∈ plan := fun x hx => by rw [S0.split]; simp [hx]
  by_cases hA : ∃ x ∈ plan, x.st.dst = some t
  · obtain ⟨x, hx, hxt⟩ := hA
    have hx' := hx
    rw [hsp] at hx'
    rcases List.mem_append.1 hx' with hx1 | hx1
    · have hp1 := hP.bef hsp hx1
      have hlx := hb _ (hp1.rd t hxt ht)
      rw [SX_done (fun y hy hyt => by rw [hP.uniq (hprem y hy) hx hyt hxt]; exact hlx)]
      refine k2 t (fun y hy hyt => ?_)
      have hym : y ∈ plan := by rw [hsp]; rcases List.mem_cons.1 hy with rfl | hy <;> simp [*]
      have : y = x := hP.uniq hym hx hyt hxt
      subst this
      rcases List.mem_cons.1 hy with rfl | hy
      · exact hp1.ne rfl
      · obtain ⟨A, B, e3⟩ := List.append_of_mem hx1
        have := hP.aft (A := A) (d := y) (B := B ++ d :: (l2 ++ rest)) (x := y) (by rw [hsp, e3]; simp) (by simp [hy])
        exact this.ne rfl
    · rcases List.mem_cons.1 hx1 with rfl | hx1
      · rw [SX_pend (d := x) (by rw [e]; simp) hl hxt]
        refine (k1 t (fun y hy hyt => ?_)).symm
        exact (hP.bef hsp hy).dst t hyt hxt
      · have hp1 := hP.aft hsp hx1
        have hxl : lis L x.i = false := by
          cases hq : lis L x.i with
          | false => rfl
          | true => have := S0.closed x hx hq _ (hp1.rd' t hxt ht); rw [hl] at this; cases this
        have hk1 : sd t = s0 t := k1 t (fun y hy hyt => by
          have : y = x := hP.uniq (by rw [hsp]; simp [hy]) hx hyt hxt
          subst this
          obtain ⟨A, B, e3⟩ := List.append_of_mem hy
          exact (hP.aft (A := A) (d := y) (B := B ++ d :: (l2 ++ rest)) (x := y) (by rw [hsp, e3]; simp) (by rw [List.mem_append]; exact .inr (List.mem_cons_of_mem _ hx1))).ne rfl)
        rw [hk1]
        by_cases hxp : x ∈ pre
        · exact SX_pend hxp hxl hxt
        · have hno : ∀ y ∈ pre, y.st.dst ≠ some t := fun y hy hyt => hxp (by rw [← hP.uniq (hprem y hy) hx hyt hxt]; exact hy)
          rw [SX_done (fun y hy hyt => absurd hyt (hno y hy)), S0.keep t hno]
  · have hno : ∀ y ∈ plan, y.st.dst ≠ some t := fun y hy hyt => hA ⟨y, hy, hyt⟩
    rw [SX_done (fun y hy hyt => absurd hyt (hno y (hprem y hy))), S0.keep t (fun y hy => hno y (hprem y hy)), k1 t (fun y hy => hno y (hprem y (by rw [e]; simp [hy])))]

theorem SX_list (hP : PlanOK P nt ops plan) {L : Array Bool} {pre : List DStep} (hpre : ∀ x ∈ pre, x ∈ plan) {d : DStep} (hd : d ∈ pre) (hi : d.i < L.size) {sp : S} {v : AV} (hv : ∀ t, d.st.dst = some t → sp t = v) :
    SX (L.setIfInBounds d.i true) pre s0 sp = upd (SX L pre s0 sp) d.st.dst v := by
  funext t
  by_cases ht : d.st.dst = some t
  · rw [upd_eq ht, SX_done (fun y hy hyt => by rw [hP.uniq (hpre y hy) (hpre d hd) hyt ht, lis_set hi]; simp), hv t ht]
  · rw [upd_ne ht]
    unfold SX
    have : (pre.any fun x => !lis (L.setIfInBounds d.i true) x.i && decide (x.st.dst = some t)) = pre.any fun x => !lis L x.i && decide (x.st.dst = some t) := by
      rw [Bool.eq_iff_iff, List.any_eq_true, List.any_eq_true]
      have key : ∀ x ∈ pre, x.st.dst = some t → lis (L.setIfInBounds d.i true) x.i = lis L x.i := fun x hx hxt => by
        rw [lis_set hi, if_neg]
        intro e
        exact ht (by rw [← hP.idx (hpre x hx) (hpre d hd) e]; exact hxt)
      constructor
      · rintro ⟨x, hx, hc⟩
        simp only [Bool.and_eq_true, decide_eq_true_eq] at hc
        exact ⟨x, hx, by rw [key x hx hc.2] at hc; simpa using hc⟩
      · rintro ⟨x, hx, hc⟩
        simp only [Bool.and_eq_true, decide_eq_true_eq] at hc
        exact ⟨x, hx, by rw [← key x hx hc.2] at hc; simpa using hc⟩
    rw [this]

theorem Sim.pendstep (hP : PlanOK P nt ops plan) {L : Array Bool} {pre rest l1 l2 : List DStep} {d : DStep} {sp : S} {hp : H} {pd : List Pend} {oid : Nat → Option Nat} {m : M} {a : Act} {w : World}
    (S0 : Sim B0 P nt ops plan C Pn m0 h0 w0 s0 Qd ds L pre rest sp hp pd oid m a w) (e : pre = l1 ++ d :: l2) (hi : d.i < L.size) (hl : lis L d.i = false) (hb : ∀ j, d.bef.testBit j = true → lis L j = true)
    {v : AV} (hv : ∀ t, d.st.dst = some t → sp t = v) {o : Oper} (hdst : d.st.dst = o.dst) (hnt : ∀ x, o.dst = some x → x < nt) {m1 : M} {w1 : World} {v' : Value} (hle : M.le m m1) (hvr : VRel m1 v v') (hrel : Rel P B0 m1 hp w1) (hfr : Fr B0 m0 m1 h0 hp w0 w1)
    (hkeep : ∀ i q, i ≠ d.i → oid i = some q → m q = none → m1 q = none) :
    Sim B0 P nt ops plan C Pn m0 h0 w0 s0 Qd ds (L.setIfInBounds d.i true) pre rest sp hp pd oid m1 (a.put o.dst v') w1 := by
  have hpre : ∀ x ∈ pre, x ∈ plan := fun x hx => by rw [S0.split]; simp [hx]
  have hdp : d ∈ pre := by rw [e]; simp
  have hmono : ∀ j, lis L j = true → lis (L.setIfInBounds d.i true) j = true := fun j hj => by rw [lis_set hi]; split <;> simp [hj]
  refine ⟨S0.split, by simp [S0.size], ?_, fun x hx hk => hmono _ (S0.effs x hx hk), ?_, S0.run, hrel, hfr, ?_, by rw [put_defers]; exact S0.defers, S0.keep, S0.inj, S0.bound, ?_⟩
  · intro x hx
    rw [lis_set hi, if_neg]
    · exact S0.notrest x hx
    · intro e2
      have hxm : x ∈ plan := by rw [S0.split]; simp [hx]
      have : x = d := hP.idx hxm (hpre d hdp) e2
      subst this
      exact (hP.aft (A := l1) (d := x) (B := l2 ++ rest) (x := x) (by rw [S0.split, e]; simp) (by simp [hx])).ne rfl
  · intro x hx hxl j hj
    rw [lis_set hi] at hxl
    split at hxl
    · rename_i e2
      have : x = d := hP.idx hx (hpre d hdp) e2
      subst this
      exact hmono _ (hb j hj)
    · exact hmono _ (S0.closed x hx hxl j hj)
  · rw [SX_list hP hpre hdp hi hv, hdst]
    exact (S0.tmps.mono hle).put o.dst hnt hvr
  · intro k1 x k2 e2 hx
    rw [lis_set hi] at hx
    split at hx
    · cases hx
    rename_i hne
    obtain ⟨sd, a1, a2, a3⟩ := S0.pend k1 x k2 e2 hx
    refine ⟨sd, a1, a2, ?_⟩
    rcases a3 with a3 | ⟨a4, u, a5, a6⟩
    · exact .inl a3
    · refine .inr ⟨a4, u, a5, ?_⟩
      rcases a6 with a6 | a6 | ⟨a6, p, q, b1, b2, b3, b4, b5, b6⟩
      · exact .inl a6
      · exact .inr (.inl a6)
      · exact .inr (.inr ⟨a6, p, q, b1, b2, b3, b4, hkeep x.i q hne b3 b5, b6⟩)

theorem Sim.effstep (hP : PlanOK P nt ops plan) {L : Array Bool} {pre r : List DStep} {d : DStep} {sp : S} {hp : H} {pd : List Pend} {oid : Nat → Option Nat} {m : M} {a : Act} {w : World}
    (S0 : Sim B0 P nt ops plan C Pn m0 h0 w0 s0 Qd ds L pre (d :: r) sp hp pd oid m a w) (hi : d.i < L.size) (hk : d.st.op.kind = .eff) (hb : ∀ j, d.bef.testBit j = true → lis L j = true)
    {v : AV} {h1 : H} (hrun : WDrawG C Pn r (pd.filter fun p => !d.bef.testBit p.i) Qd (upd sp d.st.dst v) h1)
    {o : Oper} (hdst : d.st.dst = o.dst) (hnt : ∀ x, o.dst = some x → x < nt) {m1 : M} {w1 : World} {v' : Value} (hvr : VRel m1 v v') (hrel : Rel P B0 m1 h1 w1) (hfr : Fr B0 m m1 hp h1 w w1) :
    Sim B0 P nt ops plan C Pn m0 h0 w0 s0 Qd ds (L.setIfInBounds d.i true) (pre ++ [d]) r (upd sp d.st.dst v) h1 (pd.filter fun p => !d.bef.testBit p.i) oid m1 (a.put o.dst v') w1 := by
  have hspl : plan = (pre ++ [d]) ++ r := by rw [S0.split]; simp
  have hdm : d ∈ plan := by rw [hspl]; simp
  have hpre : ∀ x ∈ pre, x ∈ plan := fun x hx => by rw [S0.split]; simp [hx]
  have hpair : ∀ x ∈ pre, PairOK x d := fun x hx => hP.bef S0.split hx
  have hmono : ∀ j, lis L j = true → lis (L.setIfInBounds d.i true) j = true := fun j hj => by rw [lis_set hi]; split <;> simp [hj]
  have hfresh : ∀ t, d.st.dst = some t → ∀ x ∈ pre, x.st.dst ≠ some t := fun t ht x hx hxt => (hpair x hx).dst t hxt ht
  refine ⟨hspl, by simp [S0.size], ?_, ?_, ?_, hrun, hrel, S0.fr.trans hfr, ?_, by rw [put_defers]; exact S0.defers, ?_, S0.inj, fun i q hq => Nat.lt_of_lt_of_le (S0.bound i q hq) hfr.n, ?_⟩
  · intro x hx
    rw [lis_set hi, if_neg]
    · exact S0.notrest x (by simp [hx])
    · exact fun e2 => (hP.aft S0.split hx).ne e2.symm
  · intro x hx hxk
    rcases List.mem_append.1 hx with hx | hx
    · exact hmono _ (S0.effs x hx hxk)
    · simp at hx; subst hx; rw [lis_set hi]; simp
  · intro x hx hxl j hj
    rw [lis_set hi] at hxl
    split at hxl
    · rename_i e2
      have : x = d := hP.idx hx hdm e2
      subst this
      exact hmono _ (hb j hj)
    · exact hmono _ (S0.closed x hx hxl j hj)
  · have : SX (L.setIfInBounds d.i true) (pre ++ [d]) s0 (upd sp d.st.dst v) = upd (SX L pre s0 sp) d.st.dst v := by
      funext t
      by_cases ht : d.st.dst = some t
      · rw [upd_eq ht, SX_done ?_, upd_eq ht]
        intro y hy hyt
        rcases List.mem_append.1 hy with hy | hy
        · exact absurd hyt (hfresh t ht y hy)
        · simp at hy; subst hy; rw [lis_set hi]; simp
      · rw [upd_ne ht]
        unfold SX
        rw [upd_ne ht]
        have : ((pre ++ [d]).any fun x => !lis (L.setIfInBounds d.i true) x.i && decide (x.st.dst = some t)) = pre.any fun x => !lis L x.i && decide (x.st.dst = some t) := by
          rw [List.any_append]
          simp only [List.any_cons, ht, decide_false, Bool.and_false, List.any_nil, Bool.or_false]
          rw [Bool.eq_iff_iff, List.any_eq_true, List.any_eq_true]
          have key : ∀ x ∈ pre, lis (L.setIfInBounds d.i true) x.i = lis L x.i := fun x hx => by
            rw [lis_set hi, if_neg (hpair x hx).ne]
          constructor
          · rintro ⟨x, hx, hc⟩; exact ⟨x, hx, by rw [key x hx] at hc; exact hc⟩
          · rintro ⟨x, hx, hc⟩; exact ⟨x, hx, by rw [key x hx]; exact hc⟩
        rw [this]
    rw [this, hdst]
    exact (S0.tmps.mono hfr.le).put o.dst hnt hvr
  · intro t ht
    rw [upd_ne (ht d (by simp)), S0.keep t (fun x hx => ht x (by simp [hx]))]
  · intro k1 x k2 e2 hx
    rw [lis_set hi] at hx
    split at hx
    · cases hx
    rename_i hne
    rcases snoc_split e2 with ⟨rfl, rfl, rfl⟩ | ⟨l3, rfl, e3⟩
    · exact absurd rfl hne
    have hxm : x ∈ pre := by rw [e3]; simp
    have hsp : ∀ t, x.st.dst = some t → upd sp d.st.dst v t = sp t := fun t ht => upd_ne ((hpair x hxm).dst t ht)
    obtain ⟨sd, a1, a2, a3⟩ := S0.pend k1 x l3 e3 hx
    refine ⟨sd, a1, fun t ht => ?_, ?_⟩
    · rw [upd_ne (ht d (by simp)), a2 t (fun y hy => ht y (by rcases List.mem_cons.1 hy with rfl | hy <;> simp [*]))]
    · rcases a3 with ⟨a4, a5⟩ | ⟨a4, u, a5, a6⟩
      · exact .inl ⟨a4, fun t ht => by rw [hsp t ht]; exact a5 t ht⟩
      · refine .inr ⟨a4, u, fun t ht => by rw [hsp t ht]; exact a5 t ht, ?_⟩
        rcases a6 with a6 | ⟨a6, a7⟩ | ⟨a6, p, q, b1, b2, b3, b4, b5, b6⟩
        · exact .inl a6
        · refine .inr (.inl ⟨a6, List.mem_filter.2 ⟨a7, ?_⟩⟩)
          simp only [Bool.not_eq_true']
          cases hq : d.bef.testBit x.i with
          | false => rfl
          | true => have := hb _ hq; rw [hx] at this; cases this
        · obtain ⟨c1, c2⟩ := hfr.keep q (S0.rel.wf.ob _ _ b6) b5
          exact .inr (.inr ⟨a6, p, q, b1, b2, b3, b4, c2, by rw [c1]; exact b6⟩)

end
end Go.Proofs.YtgjcdpanabjcmaaGreatDoor.Ev

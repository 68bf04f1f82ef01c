/- Regions that draw their order: whatever order is drawn, the answer is that of the plan's order. -/
import Derived.Test.YtlbaphapjclkdaaGreatDoorEvD2
import Derived.RangeFuncIn
import Derived.RangeFuncLeaves
import Derived.RangeFuncRecord
import Derived.RecoverIn
namespace Go.Proofs.YtlbaphapjclkdaaGreatDoor.Ev
set_option linter.unusedVariables false
set_option linter.unusedSimpArgs false

section
variable {B0 : Nat} {P : Program} {nt : Nat} {ops : Array Oper} {plan : List DStep} {Pn : AV → H → Prop}
  {m0 : M} {h0 : H} {w0 : World} {s0 : S} {Qd : S → H → Prop} {ds : List Deferred}

theorem kind_plain {op : AOp} (h : op.kind ≠ .eff) : op.plain = true := by
  cases op <;> first | rfl | (exact absurd rfl h)

theorem Sim.step (hP : PlanOK P nt ops plan) {ro : Option Nat} {L : Array Bool} {pre rest : List DStep} {sp : S} {hp : H} {pd : List Pend} {oid : Nat → Option Nat} {m : M} {a : Act} {w : World} {Q : Exit → Act → World → Prop} {K : Act → World → Prop}
    (hpn : ∀ v h1 s1 m1 v' w1 a, Pn v h1 → (∀ t, noDst plan t → s1 t = s0 t) → VRel m1 v v' → Rel P B0 m1 h1 w1 → Fr B0 m0 m1 h0 h1 w0 w1 → ARel m1 nt s1 a → a.defers = ds → Q (.panic [{ v := v', recovered := false }]) a w1)
    (S0 : Sim B0 P nt ops plan (CallOK P B0) Pn m0 h0 w0 s0 Qd ds L pre rest sp hp pd oid m a w) (hh : Headed rest) {i : Nat} (hready : i ∈ Region.ready .any ops L)
    (hK : ∀ pre rest sp hp pd oid m a w, Sim B0 P nt ops plan (CallOK P B0) Pn m0 h0 w0 s0 Qd ds (L.setIfInBounds i true) pre rest sp hp pd oid m a w → Headed rest → K a w) : wpOpIn (FW ro) 0 P ops Q i K a w := by
  obtain ⟨hL, o, ho, _⟩ := mem_ready.1 hready
  have hisz : i < ops.size := (Array.getElem?_eq_some_iff.1 ho).1
  have hiL : i < L.size := by rw [S0.size]; exact hisz
  obtain ⟨d, hd, rfl⟩ := hP.cov i hisz
  have hdl : lis L d.i = false := by
    unfold lis
    simp only [Array.getD_eq_getD_getElem?] at hL ⊢
    rw [show L[d.i]? = some (L[d.i]'hiL) by simp [hiL]] at hL ⊢
    exact hL
  have hb := listed_of_bef hP S0.closed hd hready
  obtain ⟨A, B, eAB⟩ := List.append_of_mem hd
  obtain ⟨o', ho', hst, _, _⟩ := hP.row A d B eAB
  rw [ho] at ho'; cases ho'
  obtain ⟨hop, hg, hdst, hnt⟩ := trStep_spec hst
  unfold wpOpIn
  rw [ho]
  simp only
  rw [wanted_rel S0.tmps (ops := ops) hg]
  have hnd : ∀ c, o.op ≠ .defer c := by
    intro c hc; rw [hc] at hop; simp [trOp] at hop
  by_cases hpre : d ∈ pre
  · -- told early
    obtain ⟨l1, l2, e⟩ := List.append_of_mem hpre
    obtain ⟨sd, k1, k2, k3⟩ := S0.pend l1 d l2 e hdl
    have hag := S0.agree hP e hdl hb k1 k2
    obtain ⟨hwd, hopds⟩ := reads_agree hag
    rw [hwd]
    rcases k3 with ⟨k4, k5⟩ | ⟨k4, v, k5, k6⟩
    · rw [k4]
      simp only [Bool.false_eq_true, if_false]
      refine ⟨about_ok ro w o _, hK _ _ _ _ _ _ m _ w (S0.pendstep hP e hiL hdl hb k5 hdst hnt (M.le_refl m) undef_rel S0.rel S0.fr (fun i q _ _ hm => hm)) hh⟩
    · rw [k4]
      simp only [if_true]
      refine ⟨about_ok ro w o _, ?_⟩
      rw [Oper.semAt_eq _ _ _ hnd]
      have hplain : ∀ v1, exec d.st.op (SX L pre s0 sp) hp = some (v1, hp) → v1 = v → o.uponIn (FW ro) 0 P a K Q ((execOp a.eval o).run P w) := by
        intro v1 hx hv1
        subst hv1
        obtain ⟨_, m1, w1, v', hrun, dn⟩ := sound_exec S0.rel S0.tmps hop hx
        have hKK := hK _ _ _ _ _ _ m1 _ w1 (S0.pendstep hP e hiL hdl hb k5 hdst hnt dn.fr.le dn.val dn.rel (S0.fr.trans dn.fr)
          (fun j q hj hq hm => by
            have hqb : q < hp.n := S0.bound j q hq
            exact (dn.fr.keep q hqb hm).2)) hh
        rcases hrun with hrun | ⟨hrun, rfl⟩
        · rw [hrun]; exact hKK
        · rw [hrun]; exact hKK
      rcases k6 with ⟨k6, k7⟩ | ⟨k6, k7⟩ | ⟨k6, p, q, b1, b2, b3, b4, b5, b6⟩
      · exact hplain v (by rw [exec_congr _ _ hopds]; exact k7 hp) rfl
      · obtain ⟨h1, hx⟩ := recheck_mem (S0.chk hh) _ k7
        simp only at hx
        have := exec_read k6 hx
        subst this
        exact hplain v (by rw [exec_congr _ _ hopds]; exact hx) rfl
      · rw [← makeOf_congr _ hopds] at b1
        obtain ⟨wx, CS, ty, fr, v', hwx, hrun, hvals, hlen, hfz, hvr⟩ := make_run (w := w) S0.tmps hop k6 b1
        rw [hrun]
        have hsz : wx.heap.size = w.heap.size := by rcases hwx with rfl | rfl <;> rfl
        have hrx : Rel P B0 m hp wx := by
          rcases hwx with rfl | rfl
          · exact S0.rel
          · exact S0.rel.drew
        have hfx : Fr B0 m0 m h0 hp w0 wx := by
          rcases hwx with rfl | rfl
          · exact S0.fr
          · exact S0.fr.drew_right
        have r1 := hrx.fill b5 b6 CS ty fr hvals hlen hfz
        have f1 := hfx.fill b4 b5 CS.size (.cells CS ty fr)
        rw [hsz] at r1 f1
        subst b2
        refine hK _ _ _ _ _ _ _ _ _ (S0.pendstep hP e hiL hdl hb k5 hdst hnt (M.set_le _ b5) (hvr q) r1 f1 (fun j q' hj hq' hm => ?_)) hh
        unfold M.set
        rw [if_neg (fun e3 => hj (S0.inj j d.i q' hq' (by rw [b3, e3])))]
        exact hm
  · -- an effect
    have hdr : d ∈ rest := by
      have := S0.split
      rw [this] at hd
      rcases List.mem_append.1 hd with hd | hd
      · exact absurd hd hpre
      · exact hd
    rcases hh with rfl | ⟨e, r, rfl, hk⟩
    · cases hdr
    have hde : d = e := by
      rcases List.mem_cons.1 hdr with rfl | hdr
      · rfl
      · have hp1 := hP.aft S0.split hdr
        have := hb _ (hp1.eff hk)
        rw [S0.notrest e (by simp)] at this
        cases this
    subst hde
    have hag : ∀ t ∈ d.st.reads, SX L pre s0 sp t = sp t := fun t ht => SX_done (fun y hy hyt => hb _ ((hP.bef S0.split hy).rd t hyt ht))
    obtain ⟨hwd, hopds⟩ := reads_agree hag
    rw [hwd]
    obtain ⟨_, hrr⟩ := wdraw_eff hk S0.run
    rcases hrr with ⟨hw, hrun⟩ | ⟨hw, hex⟩
    · rw [hw]
      simp only [Bool.false_eq_true, if_false]
      obtain ⟨_, _, _, _, _, _, S2, hh2⟩ := (S0.effstep hP hiL hk hb hrun hdst hnt undef_rel S0.rel (Fr.refl _ _ _ _)).extend hP
      exact ⟨about_ok ro w o _, hK _ _ _ _ _ _ _ _ _ S2 hh2⟩
    · rw [hw]
      simp only [if_true]
      refine ⟨about_ok ro w o _, ?_⟩
      rw [Oper.semAt_eq _ _ _ hnd]
      have hfin : ∀ {v : AV} {h1 : H} {m1 : M} {w1 : World} {v' : Value}, WDrawG (CallOK P B0) Pn r (pd.filter fun p => !d.bef.testBit p.i) Qd (upd sp d.st.dst v) h1 → VRel m1 v v' → Rel P B0 m1 h1 w1 → Fr B0 m m1 hp h1 w w1 → K (a.put o.dst v') w1 := by
        intro v h1 m1 w1 v' hrun hvr hrel hfr
        obtain ⟨_, _, _, _, _, _, S2, hh2⟩ := (S0.effstep hP hiL hk hb hrun hdst hnt hvr hrel hfr).extend hP
        exact hK _ _ _ _ _ _ _ _ _ S2 hh2
      have hpan : ∀ {v : AV} {h1 : H} {m1 : M} {w1 : World} {v' : Value}, Pn v h1 → VRel m1 v v' → Rel P B0 m1 h1 w1 → Fr B0 m m1 hp h1 w w1 → Q (.panic [{ v := v', recovered := false }]) a w1 := by
        intro v h1 m1 w1 v' hp hvr hrel hfr
        refine hpn v h1 _ m1 v' w1 a hp (fun t ht => ?_) hvr hrel (S0.fr.trans hfr) (S0.tmps.mono hfr.le) S0.defers
        have hpre : ∀ y ∈ pre, y.st.dst ≠ some t := fun y hy => ht y (by rw [S0.split]; simp [hy])
        rw [SX_done (fun y hy hyt => absurd hyt (hpre y hy)), S0.keep t hpre]
      rw [← WOpG_congr _ _ _ _ hopds] at hex
      by_cases hpl : d.st.op.plain = true
      · rw [WOpG_plain hpl] at hex
        obtain ⟨v, h1, hex', hrun⟩ := hex.get
        obtain ⟨_, m1, w1, v', hrun', dn⟩ := sound_exec S0.rel S0.tmps hop hex'
        rcases hrun' with hrun' | ⟨hrun', rfl⟩
        · rw [hrun']; exact hfin hrun dn.val dn.rel dn.fr
        · rw [hrun']; exact hfin hrun dn.val dn.rel dn.fr
      · cases hopd : d.st.op <;> rw [hopd] at hpl <;> simp only [AOp.plain, not_true_eq_false] at hpl
        case call fo args =>
          rw [hopd] at hex hop
          simp only [WOpG] at hex
          obtain ⟨c, x, hoc, hcx, hx, hxs⟩ := trOp_call hop
          have hf := S0.tmps.ev hx
          have hargs := S0.tmps.evs hxs
          generalize hfv : fo.ev (SX L pre s0 sp) = fv at hex hf
          generalize hfc : a.eval x = fc at hf
          have hrunF : ∀ {fn : Nat} {vs : List AV} {cvs : List Value}, VRels m vs cvs → FnOK P B0 fn vs hp (onOut (fun v h1 => WDrawG (CallOK P B0) Pn r (pd.filter fun p => !d.bef.testBit p.i) Qd (upd sp d.st.dst v) h1) Pn) →
              (execOp a.eval o).run P w = (callFunc fn ⟨cvs⟩).run P w → o.uponIn (FW ro) 0 P a K Q ((execOp a.eval o).run P w) := by
            intro fn vs cvs hvs hok hexe
            rw [hexe]
            rcases hok m w _ S0.rel hvs with ⟨hrun, hci⟩ | ⟨v, w', hrun, r, h1, hR, m1, hE, r1, f1⟩
            · rw [hrun]
              refine ⟨by simp [FW, Fence.wide], ?_⟩
              refine CallsIn.mono (F := FW none) hci ?_
              rintro e w1 ⟨r, h1, hR, m1, hE, r1, f1⟩
              cases hE with
              | val hv => exact hfin hR hv r1 f1
              | panic hv => exact hpan hR hv r1 f1
            · rw [hrun]
              cases hE with
              | val hv => exact hfin hR hv r1 f1
          cases hf <;> simp only [WFunG] at hex <;> (try (exact hex.elim))
          case func f cs cs' hcs =>
            refine hrunF (hargs.append hcs) hex ?_
            have e1 : c.args.map a.eval ++ (⟨cs'⟩ : Array Value) = ⟨c.args.toList.map a.eval ++ cs'⟩ := by apply Array.ext'; simp
            simp only [execOp, hoc, resolve, hcx, hfc, Deferred.ofValue, Sem.run_bind, Sem.run_pure, Result.andThen_ok, invoke]
            rw [show (#[] : Array Value) ++ c.args.map a.eval = c.args.map a.eval from by simp, e1]
          case meth f v v' hv =>
            refine hrunF (.cons hv hargs) hex ?_
            have e1 : #[v'] ++ c.args.map a.eval ++ (#[] : Array Value) = ⟨v' :: c.args.toList.map a.eval⟩ := by apply Array.ext'; simp
            simp only [execOp, hoc, resolve, hcx, hfc, Deferred.ofValue, Sem.run_bind, Sem.run_pure, Result.andThen_ok, invoke]
            rw [e1]
          case yield yo b hb =>
            have hexe : (execOp a.eval o).run P w = (Instr.yield b ⟨c.args.toList.map a.eval⟩).run P w := by
              have e1 : c.args.map a.eval = (⟨c.args.toList.map a.eval⟩ : Array Value) := by apply Array.ext'; simp
              simp only [execOp, hoc, resolve, hcx, hfc, Deferred.ofValue, Sem.run_bind, Sem.run_pure, Result.andThen_ok, invoke]
              rw [show (#[] : Array Value) ++ c.args.map a.eval = c.args.map a.eval from by simp, e1]
            rw [hexe]
            obtain ⟨fn, tmps, assign, body, hrun', hround⟩ := hex m w _ b S0.rel hb hargs
            rw [hrun']
            refine ⟨by simp [FW, Fence.wide], ?_⟩
            refine RoundIn.mono (F := FW none) hround ?_
            rintro e w1 ⟨r, h1, hR, m1, hE, r1, f1⟩
            cases hE with
            | val hv => exact hfin hR hv r1 f1
            | panic hv => exact hpan hR hv r1 f1
        case panic x =>
          rw [hopd] at hex hop
          simp only [WOpG] at hex
          obtain ⟨y, hoy, hy⟩ := trOp_panic hop
          have hv := S0.tmps.ev hy
          generalize x.ev (SX L pre s0 sp) = xv at hex hv
          generalize hxc : a.eval y = xc at hv
          cases hv <;> simp only at hex <;> (try (exact hex.elim))
          case iface ty v v' hvv =>
            have hexe : (execOp a.eval o).run P w = .halt (.panic (.iface ty v')) w := by
              simp only [execOp, hoy, hxc, Sem.run_bind, Go.run_panic_iface]
              rfl
            rw [hexe]
            exact hpan hex (.iface ty hvv) S0.rel (Fr.refl _ _ _ _)
        case nextM x =>
          rw [hopd] at hex hop
          simp only [WOpG] at hex
          obtain ⟨y, hoy, hy⟩ := trOp_nextM hop
          obtain ⟨v, h1, hKK, m1, w1, v', hrun, dn⟩ := sound_nextM (ty := o.type) S0.rel (S0.tmps.ev hy) hex
          have hexe : (execOp a.eval o).run P w = .ok (.value v') w1 := by
            simp only [execOp, hoy, Sem.run_bind, hrun, Result.andThen_ok]
            rfl
          rw [hexe]
          exact hfin hKK dn.val dn.rel dn.fr

theorem cnt_set (hP : PlanOK P nt ops plan) {L : Array Bool} {d : DStep} (hd : d ∈ plan) (hi : d.i < L.size) (hl : lis L d.i = false) :
    plan.countP (fun x => !lis (L.setIfInBounds d.i true) x.i) + 1 ≤ plan.countP (fun x => !lis L x.i) := by
  obtain ⟨A, B, e⟩ := List.append_of_mem hd
  have h1 : ∀ l : List DStep, l.countP (fun x => !lis (L.setIfInBounds d.i true) x.i) ≤ l.countP (fun x => !lis L x.i) := by
    intro l
    apply List.countP_mono_left
    intro x _ hx
    rw [lis_set hi] at hx
    split at hx
    · cases hx
    · exact hx
  rw [e, List.countP_append, List.countP_append, List.countP_cons, List.countP_cons, lis_set hi, hl]
  have a1 := h1 A
  have a2 := h1 B
  simp
  omega

theorem first_unlisted {L : Array Bool} : ∀ {l : List DStep}, (∃ d ∈ l, lis L d.i = false) → ∃ l1 d l2, l = l1 ++ d :: l2 ∧ (∀ x ∈ l1, lis L x.i = true) ∧ lis L d.i = false
  | [], ⟨d, hd, _⟩ => by cases hd
  | x :: l, ⟨d, hd, hdl⟩ => by
    cases hx : lis L x.i with
    | false => exact ⟨[], x, l, rfl, by simp, hx⟩
    | true =>
      have : d ∈ l := by
        rcases List.mem_cons.1 hd with rfl | hd
        · rw [hx] at hdl; cases hdl
        · exact hd
      obtain ⟨l1, e, l2, rfl, h1, h2⟩ := first_unlisted ⟨d, this, hdl⟩
      exact ⟨x :: l1, e, l2, rfl, fun y hy => (by
        rcases List.mem_cons.1 hy with rfl | hy
        · exact hx
        · exact h1 y hy), h2⟩

theorem all_listed (hP : PlanOK P nt ops plan) {L : Array Bool} (hs : L.size = ops.size) (hr : Region.ready .any ops L = []) : ∀ d ∈ plan, lis L d.i = true := by
  intro d hd
  cases hl : lis L d.i with
  | true => rfl
  | false =>
    obtain ⟨l1, e, l2, hsp, h1, h2⟩ := first_unlisted ⟨d, hd, hl⟩
    obtain ⟨o, ho, _, hb, _⟩ := hP.row l1 e l2 hsp
    have : e.i ∈ Region.ready .any ops L := by
      refine mem_ready.2 ⟨?_, o, ho, fun ed hed hbd => ?_⟩
      · unfold lis at h2
        have hlt : e.i < L.size := by rw [hs]; exact (Array.getElem?_eq_some_iff.1 ho).1
        simp only [Array.getD_eq_getD_getElem?] at h2 ⊢
        rw [show L[e.i]? = some (L[e.i]'hlt) by simp [hlt]] at h2 ⊢
        exact h2
      · obtain ⟨d', hd', he⟩ := hb ed.on (List.mem_map.2 ⟨ed, List.mem_filter.2 ⟨by simpa using hed, hbd⟩, rfl⟩)
        have := h1 d' hd'
        rw [he] at this
        exact this
    rw [hr] at this
    cases this

theorem Sim.any (hP : PlanOK P nt ops plan) {ro : Option Nat} {Q : Exit → Act → World → Prop} (hpn : ∀ v h1 s1 m1 v' w1 a, Pn v h1 → (∀ t, noDst plan t → s1 t = s0 t) → VRel m1 v v' → Rel P B0 m1 h1 w1 → Fr B0 m0 m1 h0 h1 w0 w1 → ARel m1 nt s1 a → a.defers = ds → Q (.panic [{ v := v', recovered := false }]) a w1)
    (hq : ∀ s' h' e a' w', Qd s' h' → CPost P B0 m0 h0 w0 nt ds .normal s' h' e a' w' → Q e a' w') : ∀ (fuel : Nat) {L : Array Bool} {pre rest : List DStep} {sp : S} {hp : H} {pd : List Pend} {oid : Nat → Option Nat} {m : M} {a : Act} {w : World},
    Sim B0 P nt ops plan (CallOK P B0) Pn m0 h0 w0 s0 Qd ds L pre rest sp hp pd oid m a w → Headed rest → plan.countP (fun x => !lis L x.i) ≤ fuel → wpAnyIn (FW ro) 0 P .any ops Q fuel L a w := by
  have hend : ∀ {L : Array Bool} {pre rest : List DStep} {sp : S} {hp : H} {pd : List Pend} {oid : Nat → Option Nat} {m : M} {a : Act} {w : World},
      Sim B0 P nt ops plan (CallOK P B0) Pn m0 h0 w0 s0 Qd ds L pre rest sp hp pd oid m a w → (∀ d ∈ plan, lis L d.i = true) → Q .normal a w := by
    intro L pre rest sp hp pd oid m a w S0 hall
    have hrest : rest = [] := by
      cases rest with
      | nil => rfl
      | cons e r => have h1 := S0.notrest e (by simp); rw [hall e (by rw [S0.split]; simp)] at h1; cases h1
    subst hrest
    refine hq _ _ _ _ _ S0.run.2 ⟨m, .normal, S0.rel, S0.fr, ?_, S0.defers⟩
    have hSX : SX L pre s0 sp = sp := by
      funext t
      exact SX_done (fun d hd _ => hall d (by rw [S0.split]; simp [hd]))
    have := S0.tmps
    rw [hSX] at this
    exact this
  intro fuel
  induction fuel with
  | zero =>
    intro L pre rest sp hp pd oid m a w S0 hh hc
    have hall : ∀ d ∈ plan, lis L d.i = true := by
      intro d hd
      cases hl : lis L d.i with
      | true => rfl
      | false =>
        have : 0 < plan.countP (fun x => !lis L x.i) := List.countP_pos_iff.2 ⟨d, hd, by simp [hl]⟩
        omega
    refine ⟨?_, hend S0 hall⟩
    rw [List.eq_nil_iff_forall_not_mem]
    intro i hi
    obtain ⟨hL, o, ho, _⟩ := mem_ready.1 hi
    have hisz : i < ops.size := (Array.getElem?_eq_some_iff.1 ho).1
    obtain ⟨d, hd, rfl⟩ := hP.cov i hisz
    have := hall d hd
    unfold lis at this
    have hlt : d.i < L.size := by rw [S0.size]; exact hisz
    simp only [Array.getD_eq_getD_getElem?] at this hL
    rw [show L[d.i]? = some (L[d.i]'hlt) by simp [hlt]] at this hL
    simp only [Option.getD_some] at this hL
    rw [this] at hL
    cases hL
  | succ fuel ih =>
    intro L pre rest sp hp pd oid m a w S0 hh hc
    refine ⟨fun hr => hend S0 (all_listed hP S0.size hr), fun i hi => ?_⟩
    refine S0.step hP hpn hh hi (fun pre rest sp hp pd oid m a w S2 hh2 => ih S2 hh2 ?_)
    obtain ⟨hL, o, ho, _⟩ := mem_ready.1 hi
    have hisz : i < ops.size := (Array.getElem?_eq_some_iff.1 ho).1
    obtain ⟨d, hd, rfl⟩ := hP.cov i hisz
    have hlt : d.i < L.size := by rw [S0.size]; exact hisz
    have hdl : lis L d.i = false := by
      unfold lis
      simp only [Array.getD_eq_getD_getElem?] at hL ⊢
      rw [show L[d.i]? = some (L[d.i]'hlt) by simp [hlt]] at hL ⊢
      exact hL
    have := cnt_set hP hd hlt hdl
    omega

/-- a region that draws its order -/
theorem sound_draw (hmix : P.follows .mixedOrders = true) {ro : Option Nat} {id : Nat} {a : Act} {w : World} {s : S} {m : M} {h : H} {Qa : Post} {Q : Exit → Act → World → Prop} (hpl : planOf P nt ops = some plan)
    (hr : Rel P B0 m h w) (hA : ARel m nt s a) (he : WDrawG (CallOK P B0) (panD plan s Qa) plan [] (Qa .normal) s h)
    (hq : ∀ ex s' h' e a' w', Qa ex s' h' → CPost P B0 m h w nt a.defers ex s' h' e a' w' → Q e a' w') : (Code.region id ops true).wpIn (FW ro) 0 P Q a w := by
  have hP := planOf_spec hpl
  refine wpIn_region_any hmix ?_
  have hlis : ∀ i, lis (Array.replicate ops.size false) i = false := by
    intro i
    unfold lis
    simp only [Array.getD_eq_getD_getElem?, Array.getElem?_replicate]
    split <;> rfl
  have hS : Sim B0 P nt ops plan (CallOK P B0) (panD plan s Qa) m h w s (Qa .normal) a.defers (Array.replicate ops.size false) [] plan s h [] (fun _ => none) m a w.drew := by
    constructor
    · rfl
    · simp
    · exact fun d _ => hlis _
    · intro d hd; cases hd
    · intro d _ hd; rw [hlis] at hd; cases hd
    · exact he
    · exact hr.drew
    · exact Fr.drew m h w
    · exact hA
    · rfl
    · exact fun t _ => rfl
    · intro i j o hi; cases hi
    · intro i o hi; cases hi
    · intro l1 d l2 e; simp at e
  obtain ⟨_, _, _, _, _, _, S2, hh2⟩ := hS.extend hP
  refine S2.any hP ?_ (fun s' h' e a' w' hqa hc => hq _ _ _ _ _ _ hqa hc) ops.size hh2 ?_
  · intro v h1 s1 m1 v' w1 a1 hp hs hv hrel hfr hA1 hd1
    exact hq _ _ _ _ _ _ (hp s1 hs) ⟨m1, .panic hv, hrel, hfr, hA1, hd1⟩
  · exact Nat.le_trans List.countP_le_length hP.len
end
end Go.Proofs.YtlbaphapjclkdaaGreatDoor.Ev

/- Loops' records in memory: written, laid, and blocks that no object lies in. -/
namespace Go.Proofs.YtlbaphapjclkdaaGreatDoor.Ev
set_option linter.unusedVariables false
set_option linter.unusedSimpArgs false

section
variable {B0 : Nat} {P : Program}
/-- a block that no object lies in is turned -/
theorem Rel.putFar {m : M} {h : H} {w : World} (r : Rel P B0 m h w) {D : Nat} {ob : Obj} (hB : B0 ≤ D) (hD : ∀ o base sz, m o ≠ some (D, base, sz)) : Rel P B0 m h (w.putObj D ob) where
  base := by rw [World.putObj_size]; exact r.base
  lt := r.lt
  row := fun hg hm => by
    obtain ⟨h1, CS, e, fr, h2, h3⟩ := r.row hg hm
    exact ⟨h1, CS, e, fr, by rw [World.putObj_heap_other (fun e => hD _ _ _ (e ▸ hm))]; exact h2, h3⟩
  val := fun hg hm i a hi => by
    rw [cell?_putObj (fun e => hD _ _ _ (e ▸ hm))]; exact r.val hg hm i a hi
  own := fun hg hm => by
    obtain ⟨h1, h2⟩ := r.own hg hm
    exact ⟨h1, fun i hi => unf_same (World.putObj_heap_other (fun e => hD _ _ _ (e ▸ hm))) (h2 i hi)⟩
  ro := r.ro
  sep := r.sep
  ord := r.ord
  blk := fun hm => by rw [World.putObj_size]; exact r.blk hm
  any := r.any
  lp := fun hg hm => by
    obtain ⟨q1, rec, q2, q3⟩ := r.lp hg hm
    exact ⟨q1, rec, by rw [World.putObj_heap_other (fun e => hD _ _ _ (e ▸ hm))]; exact q2, q3⟩
  mm := fun hg hm => by
    obtain ⟨q1, q0, rec, q2, q3⟩ := r.mm hg hm
    exact ⟨q1, q0, rec, by rw [World.putObj_heap_other (fun e => hD _ _ _ (e ▸ hm))]; exact q2, q3⟩
  gb := fun hg => by
    obtain ⟨q1, v', q2, q3⟩ := r.gb hg
    exact ⟨q1, v', by rw [cell?_putObj (by omega)]; exact q2, q3⟩
  wf := r.wf
/-- a loop's record is written -/
theorem Rel.setLoop {m : M} {h : H} {w : World} (r : Rel P B0 m h w) {o b base sz : Nat} {L L' : LoopRec} {r' : Loop} (hg : h.get o = some (.loop L)) (hm : m o = some (b, base, sz)) (q : LRel P m L' r') :
    Rel P B0 m (h.setLoop o L') (w.putObj b (.loop r')) ∧ Fr B0 m m h (h.setLoop o L') w (w.putObj b (.loop r')) := by
  have hget : ∀ j, (h.setLoop o L').get j = if j = o then some (.loop L') else h.get j := fun j => Tr.get_set _ _ _ _
  obtain ⟨hB, rec, hb, _⟩ := r.lp hg hm
  have hbs : b < w.heap.size := r.blk hm
  have hne : ∀ {j x base' sz'}, j ≠ o → m j = some (x, base', sz') → x ≠ b := by
    intro j x base' sz' hj hmj e
    subst e
    obtain ⟨g, cs, cs', e1, e2⟩ := r.sep hm hmj (fun e => hj e.symm) hB
    rw [hg] at e1; cases e1
  have hrow : ∀ {j cs}, (h.setLoop o L').row j = some cs → j ≠ o ∧ h.row j = some cs := by
    intro j cs hr
    unfold H.row at hr
    rw [hget] at hr
    by_cases hj : j = o
    · rw [if_pos hj] at hr; cases hr
    · rw [if_neg hj] at hr; exact ⟨hj, hr⟩
  refine ⟨⟨?_, r.lt, ?_, ?_, ?_, ?_, ?_, ?_, ?_, ?_, ?_, ?_, ?_, ?_⟩, ⟨M.le_refl m, rfl, rfl, rfl, by rw [World.putObj_size]; exact Nat.le_refl _, ?_, Nat.le_refl _, ?_, fun o b base sz hs hn => (by rw [hn] at hs; cases hs), fun _ => Nat.le_refl _⟩⟩
  · rw [World.putObj_size]; exact r.base
  · intro j cs g x base' sz' hj hmj
    rw [hget] at hj
    by_cases e : j = o
    · rw [if_pos e] at hj; cases hj
    · rw [if_neg e] at hj
      obtain ⟨h1, CS, e', fr, h2, h3⟩ := r.row hj hmj
      exact ⟨h1, CS, e', fr, by rw [World.putObj_heap_other (hne e hmj)]; exact h2, h3⟩
  · intro j cs x base' sz' hj hmj i a hi
    obtain ⟨e, hj⟩ := hrow hj
    rw [cell?_putObj (hne e hmj)]; exact r.val hj hmj i a hi
  · intro j cs g x base' sz' hj hmj
    rw [hget] at hj
    by_cases e : j = o
    · rw [if_pos e] at hj; cases hj
    · rw [if_neg e] at hj
      obtain ⟨h1, h2⟩ := r.own hj hmj
      exact ⟨h1, fun i hi => unf_same (World.putObj_heap_other (hne e hmj)) (h2 i hi)⟩
  · intro j cs x base' sz' hj hmj
    rw [hget] at hj
    by_cases e : j = o
    · rw [if_pos e] at hj; cases hj
    · rw [if_neg e] at hj; exact r.ro hj hmj
  · intro j j' x base' sz' base2 sz2 h1 h2 hjj hx
    obtain ⟨g, cs, cs', e1, e2⟩ := r.sep h1 h2 hjj hx
    refine ⟨g, cs, cs', ?_, ?_⟩
    · rw [hget, if_neg (fun e => by subst e; rw [hg] at e1; cases e1)]; exact e1
    · rw [hget, if_neg (fun e => by subst e; rw [hg] at e2; cases e2)]; exact e2
  · intro j j' g cs cs' x base' sz' base2 sz2 hlt h1 h2 hk h3 h4
    rw [hget] at h1 h2
    by_cases e : j = o
    · rw [if_pos e] at h1; cases h1
    · by_cases e' : j' = o
      · rw [if_pos e'] at h2; cases h2
      · rw [if_neg e] at h1; rw [if_neg e'] at h2
        exact r.ord hlt h1 h2 hk h3 h4
  · intro j x base' sz' hmj
    rw [World.putObj_size]; exact r.blk hmj
  · intro j x hmj
    obtain ⟨ob, hob⟩ := r.any hmj
    rw [hget]
    by_cases e : j = o
    · exact ⟨_, by rw [if_pos e]⟩
    · exact ⟨ob, by rw [if_neg e]; exact hob⟩
  · intro j L2 x base' sz' hj hmj
    rw [hget] at hj
    by_cases e : j = o
    · rw [if_pos e] at hj
      cases hj
      subst e
      rw [hm] at hmj; cases hmj
      exact ⟨hB, r', World.putObj_heap_same hbs, q⟩
    · rw [if_neg e] at hj
      obtain ⟨q1, rec2, q2, q3⟩ := r.lp hj hmj
      exact ⟨q1, rec2, by rw [World.putObj_heap_other (hne e hmj)]; exact q2, q3⟩
  · intro j X2 x base' sz' hj hmj
    rw [hget] at hj
    by_cases e : j = o
    · rw [if_pos e] at hj; cases hj
    · rw [if_neg e] at hj
      obtain ⟨q1, q0, rec2, q2, q3⟩ := r.mm hj hmj
      exact ⟨q1, q0, rec2, by rw [World.putObj_heap_other (hne e hmj)]; exact q2, q3⟩
  · intro j g v hj
    rw [hget] at hj
    by_cases e : j = o
    · rw [if_pos e] at hj; cases hj
    · rw [if_neg e] at hj
      obtain ⟨q1, v', q2, q3⟩ := r.gb hj
      exact ⟨q1, v', by rw [cell?_putObj (by omega)]; exact q2, q3⟩
  · refine ⟨r.wf.gr, fun j cs g hj => ?_, fun j x hj => ?_, r.wf.kt, r.wf.tl⟩
    · rw [hget] at hj
      by_cases e : j = o
      · rw [if_pos e] at hj; cases hj
      · rw [if_neg e] at hj; exact r.wf.mem j cs g hj
    · rw [hget] at hj
      by_cases e : j = o
      · subst e; exact r.wf.ob _ _ hg
      · rw [if_neg e] at hj; exact r.wf.ob j x hj
  · intro x hx hc
    rw [World.putObj_heap_other]
    rintro rfl
    rcases hc with hc | hc
    · omega
    · exact hc _ _ _ hm
  · intro j hj hmj
    refine ⟨?_, hmj⟩
    rw [hget, if_neg]
    rintro rfl
    rw [hm] at hmj; cases hmj
/-- a loop's record is laid, behind a block for deferred calls -/
theorem Rel.pushLoop {m : M} {h : H} {w : World} (r : Rel P B0 m h w) {L : LoopRec} {r' : Loop} {ob : Obj} (q : LRel P m L r') :
    Rel P B0 (m.set h.n (w.heap.size + 1, 0, 0)) (h.push (.loop L)) ((w.alloc ob).alloc (.loop r')) ∧
    Fr B0 m (m.set h.n (w.heap.size + 1, 0, 0)) h (h.push (.loop L)) w ((w.alloc ob).alloc (.loop r')) := by
  have hle : M.le m (m.set h.n (w.heap.size + 1, 0, 0)) := M.set_le _ r.fresh
  have hheap : ∀ b, b < w.heap.size → ((w.alloc ob).alloc (.loop r')).heap[b]? = w.heap[b]? := by
    intro b hb
    rw [heap_alloc_eq, heap_alloc_eq, if_neg (by simp; omega), if_neg (by omega)]
  have hnew : ∀ o b base sz, (m.set h.n (w.heap.size + 1, 0, 0)) o = some (b, base, sz) → (o = h.n ∧ b = w.heap.size + 1 ∧ base = 0 ∧ sz = 0) ∨ (o ≠ h.n ∧ m o = some (b, base, sz) ∧ b < w.heap.size) := by
    intro o b base sz ho
    unfold M.set at ho
    split at ho
    · rename_i e; cases ho; exact .inl ⟨e, rfl, rfl, rfl⟩
    · rename_i e; exact .inr ⟨e, ho, r.blk ho⟩
  have hget : ∀ o, (h.push (.loop L)).get o = if o = h.n then some (.loop L) else h.get o := fun o => H.get_push _ _ _
  have hcell : ∀ b i, b < w.heap.size → ((w.alloc ob).alloc (.loop r')).cell? ⟨b, i, none⟩ = w.cell? ⟨b, i, none⟩ := by
    intro b i hb
    rw [cell?_alloc_of_lt _ _ _ (by simp; omega), cell?_alloc_of_lt _ _ _ hb]
  refine ⟨⟨?_, ?_, ?_, ?_, ?_, ?_, ?_, ?_, ?_, ?_, ?_, ?_, ?_, ?_⟩, ⟨hle, rfl, rfl, rfl, by simp; omega, fun b hb _ => hheap b hb, Nat.le_succ _, ?_, ?_, fun _ => Nat.le_refl _⟩⟩
  · have := r.base; simp; omega
  · intro o x hx
    obtain ⟨b, base, sz⟩ := x
    rcases hnew o b base sz hx with ⟨rfl, _⟩ | ⟨_, hm, _⟩
    · exact Nat.lt_succ_self _
    · exact Nat.lt_succ_of_lt (r.lt _ _ hm)
  · intro o cs g b base sz hg hx
    rw [hget] at hg
    rcases hnew o b base sz hx with ⟨rfl, _⟩ | ⟨hne, hm, hb⟩
    · simp at hg
    · rw [if_neg hne] at hg
      obtain ⟨h1, CS', e', fr', h2, h3⟩ := r.row hg hm
      exact ⟨h1, CS', e', fr', by rw [hheap _ hb]; exact h2, h3⟩
  · intro o cs b base sz hg hx i a hi
    rcases hnew o b base sz hx with ⟨rfl, _⟩ | ⟨hne, hm, hb⟩
    · unfold H.row at hg
      rw [hget, if_pos rfl] at hg; cases hg
    · have hr : h.row o = some cs := by
        have : (h.push (.loop L)).row o = h.row o := by unfold H.row; rw [hget, if_neg hne]; rfl
        rw [← this]; exact hg
      obtain ⟨v, h1, h2⟩ := r.val hr hm i a hi
      exact ⟨v, by rw [hcell _ _ hb]; exact h1, h2.mono hle⟩
  · intro o cs g b base sz hg hx
    rw [hget] at hg
    rcases hnew o b base sz hx with ⟨rfl, _⟩ | ⟨hne, hm, hb⟩
    · simp at hg
    · rw [if_neg hne] at hg
      obtain ⟨h1, h2⟩ := r.own hg hm
      exact ⟨h1, fun i hi => unf_same (hheap _ hb) (h2 i hi)⟩
  · intro o cs b base sz hg hx
    rw [hget] at hg
    rcases hnew o b base sz hx with ⟨rfl, _⟩ | ⟨hne, hm, hb⟩
    · simp at hg
    · rw [if_neg hne] at hg; exact r.ro hg hm
  · intro o o' b base sz base' sz' hx hx' hne hb
    rcases hnew o b base sz hx with ⟨rfl, rfl, _⟩ | ⟨h1, hm, hb1⟩
    · rcases hnew o' _ base' sz' hx' with ⟨rfl, _⟩ | ⟨_, _, hb2⟩
      · exact absurd rfl hne
      · omega
    · rcases hnew o' _ base' sz' hx' with ⟨_, rfl, _⟩ | ⟨h2, hm', _⟩
      · omega
      · obtain ⟨g, cs, cs', e1, e2⟩ := r.sep hm hm' hne hb
        exact ⟨g, cs, cs', by rw [hget, if_neg h1]; exact e1, by rw [hget, if_neg h2]; exact e2⟩
  · intro o o' g cs cs' b base sz base' sz' hlt hg hg' hk hx hx'
    rw [hget] at hg hg'
    rcases hnew o b base sz hx with ⟨rfl, _⟩ | ⟨h1, hm, hb1⟩
    · simp at hg
    · rcases hnew o' _ base' sz' hx' with ⟨rfl, _⟩ | ⟨h2, hm', _⟩
      · simp at hg'
      · rw [if_neg h1] at hg; rw [if_neg h2] at hg'
        exact r.ord hlt hg hg' hk hm hm'
  · intro o b base sz hx
    rcases hnew o b base sz hx with ⟨rfl, rfl, _⟩ | ⟨h1, hm, hb1⟩
    · simp
    · simp; omega
  · intro o x hx
    obtain ⟨b, base, sz⟩ := x
    rcases hnew o b base sz hx with ⟨rfl, _⟩ | ⟨h1, hm, _⟩
    · exact ⟨_, by rw [hget, if_pos rfl]⟩
    · obtain ⟨ob, hob⟩ := r.any hm
      exact ⟨ob, by rw [hget, if_neg h1]; exact hob⟩
  · intro o L2 b base sz hg hx
    rw [hget] at hg
    rcases hnew o b base sz hx with ⟨rfl, rfl, _⟩ | ⟨h1, hm, hb1⟩
    · simp only [if_true] at hg
      cases hg
      refine ⟨by have := r.base; omega, r', ?_, q.mono hle⟩
      rw [heap_alloc_eq, if_pos (by simp)]
    · rw [if_neg h1] at hg
      obtain ⟨q1, rec, q2, q3⟩ := r.lp hg hm
      exact ⟨q1, rec, by rw [hheap _ hb1]; exact q2, q3.mono hle⟩
  · intro o X2 b base sz hg hx
    rw [hget] at hg
    rcases hnew o b base sz hx with ⟨rfl, rfl, rfl, rfl⟩ | ⟨h1, hm, hb1⟩
    · simp at hg
    · rw [if_neg h1] at hg
      obtain ⟨q1, q0, rec, q2, q3⟩ := r.mm hg hm
      exact ⟨q1, q0, rec, by rw [hheap _ hb1]; exact q2, q3.mono hle⟩
  · intro o g v hg
    rw [hget] at hg
    split at hg
    · cases hg
    · obtain ⟨q1, v', q2, q3⟩ := r.gb hg
      exact ⟨q1, v', by rw [hcell _ _ (by have := r.base; omega)]; exact q2, q3.mono hle⟩
  · refine ⟨fun g p hg => Nat.lt_succ_of_lt (r.wf.gr g p hg), fun o cs g hg => ?_, fun o x hg => ?_, r.wf.kt, r.wf.tl_push _⟩
    · rw [hget] at hg
      split at hg
      · cases hg
      · exact r.wf.mem o cs g hg
    · rw [hget] at hg
      split at hg
      · rename_i e; subst e; exact Nat.lt_succ_self _
      · exact Nat.lt_succ_of_lt (r.wf.ob o x hg)
  · intro o ho hm
    refine ⟨by rw [hget, if_neg (Nat.ne_of_lt ho)], ?_⟩
    unfold M.set; rw [if_neg (Nat.ne_of_lt ho)]; exact hm
  · intro o b base sz hx hn
    rcases hnew o b base sz hx with ⟨rfl, rfl, rfl, rfl⟩ | ⟨h1, hm, _⟩
    · exact .inl (by omega)
    · rw [hn] at hm; cases hm
end
end Go.Proofs.YtlbaphapjclkdaaGreatDoor.Ev

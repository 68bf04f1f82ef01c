/- Whatever code and calls come to over the abstract heap, they come to in the model. -/
import Derived.Test.YtlbaphapjclkdaaGreatDoorEv14
namespace Go.Proofs.YtlbaphapjclkdaaGreatDoor.Ev
set_option linter.unusedVariables false
set_option linter.unusedSimpArgs false

section
variable {B0 : Nat} {P : Program}

theorem noGoto_then {F : Fence} {Q : Exit → Act → World → Prop} {K : Act → World → Prop} (hg : ∀ l a w, ¬ Q (.goto l) a w) : ∀ l a w, ¬ (Exit.then K Q) (.goto l) a w := fun l a w h => hg l a w h

/-- behind a region that recovers: plain operations -/
theorem sound_opsS {nt : Nat} {ops : Array Oper} {Qa : Post} {Q : Exit → Act → List Frame → World → Prop} {cs : List Frame} :
    ∀ (rest : List Oper) (l : List AStep) (k : Nat), trSteps P nt ops.toList rest = some l → (∀ j, rest[j]? = ops[k + j]?) → ∀ {m : M} {h : H} {w : World} {s : S} {a : Act}, Rel P B0 m h w → ARel m nt s a →
      WOpsG (fun _ _ _ _ => False) l Qa s h → (∀ s' h' a' w', Qa .normal s' h' → CPost P B0 m h w nt a.defers .normal s' h' .normal a' w' → Q .normal a' cs w') → (∀ v s' h', ¬ Qa (.panic v) s' h') →
      wpOpsSIn (FW none) 0 P ops Q (List.range' k rest.length) a cs w
  | [], l, k, ht, hk, m, h, w, s, a, hr, hA, he, hq, hnp => by
    cases ht
    exact hq _ _ _ _ he ⟨m, .normal, hr, Fr.refl _ _ _ _, hA, rfl⟩
  | o :: rest, l, k, ht, hk, m, h, w, s, a, hr, hA, he, hq, hnp => by
    simp only [trSteps] at ht
    split at ht
    case h_2 => cases ht
    rename_i st l' hst hl'
    cases ht
    obtain ⟨hop, hg, hd, hdst⟩ := trStep_spec hst
    have hwant := wanted_rel hA (ops := ops) hg
    have h0 : ops[k]? = some o := by simpa using (hk 0).symm
    have hk' : ∀ j, rest[j]? = ops[k + 1 + j]? := fun j => by have := hk (j + 1); simpa [Nat.add_assoc, Nat.add_comm 1 j] using this
    simp only [List.length_cons, List.range'_succ, wpOpsSIn, h0]
    refine ⟨about_ok none w o _, ?_⟩
    simp only [WOpsG] at he
    have hdd : ∀ v, (a.put o.dst v).defers = a.defers := put_defers a o.dst
    rw [hd] at he
    rw [hwant]
    cases hwg : wanted st.guard s with
    | false =>
      rw [hwg] at he
      simp only [Bool.false_eq_true, if_false] at he ⊢
      exact sound_opsS rest l' (k + 1) hl' hk' hr (hA.put o.dst hdst undef_rel) he (fun s' h' a' w' hqa hc => hq s' h' a' w' hqa (by rw [hdd] at hc; exact hc)) hnp
    | true =>
      rw [hwg] at he
      simp only [if_true] at he ⊢
      by_cases hpl : st.op.plain = true
      · rw [WOpG_plain hpl] at he
        obtain ⟨v, h1, hex, he⟩ := he.get
        obtain ⟨_, m1, w1, v', hrun, d⟩ := sound_exec hr hA hop hex
        have hnext := sound_opsS rest l' (k + 1) hl' hk' d.rel ((hA.mono d.fr.le).put o.dst hdst d.val) he (fun s' h' a' w' hqa hc => hq s' h' a' w' hqa (.trans d.fr (by rw [hdd] at hc; exact hc))) hnp
        rcases hrun with hrun | ⟨hrun, rfl⟩
        · rw [hrun]; exact hnext
        · rw [hrun]; exact hnext
      · cases hopd : st.op <;> rw [hopd] at hpl <;> simp only [AOp.plain, not_true_eq_false] at hpl
        case call f args =>
          rw [hopd] at he
          simp only [WOpG] at he
          unfold WFunG at he
          split at he <;> exact he.elim
        case panic x =>
          rw [hopd] at he
          simp only [WOpG] at he
          split at he
          · exact absurd he (hnp _ _ _)
          · exact he.elim
        case nextM x =>
          rw [hopd] at he
          simp only [WOpG] at he
          rw [hopd] at hop
          obtain ⟨y, hoy, hy⟩ := trOp_nextM hop
          obtain ⟨v, h1, hK, m1, w1, v', hrun, d⟩ := sound_nextM (ty := o.type) hr (hA.ev hy) he
          have hexe : (execOp a.eval o).run P w = .ok (.value v') w1 := by
            simp only [execOp, hoy, Sem.run_bind, hrun, Result.andThen_ok]
            rfl
          rw [hexe]
          exact sound_opsS rest l' (k + 1) hl' hk' d.rel ((hA.mono d.fr.le).put o.dst hdst d.val) hK (fun s' h' a' w' hqa hc => hq s' h' a' w' hqa (.trans d.fr (by rw [hdd] at hc; exact hc))) hnp

theorem trDef_seq {nt : Nat} {cc : Code} {ax : ACode} {d : DCode} (h : trDef P nt cc = some (.seq ax d)) : ∃ x y, cc = .seq x y ∧ trCode P nt x = some ax ∧ trDef P nt y = some d := by
  unfold trDef at h
  split at h
  · rename_i id ops b
    split at h
    · split at h
      · split at h
        · split at h <;> cases h
        · cases h
      · cases h
    · split at h
      · rename_i l d' hl hd
        cases h
        exact ⟨_, _, rfl, by simp [trCode, hl], hd⟩
      · cases h
  · rename_i a b
    split at h
    · rename_i a' d' ha hd
      split at h
      · cases h; exact ⟨_, _, rfl, ha, hd⟩
      · cases h
    · cases h
  · cases h
theorem trDef_dfr {nt : Nat} {cc : Code} {l : List AStep} {f : AOpd} {post : ACode} (h : trDef P nt cc = some (.dfr l f post)) :
    ∃ id ops b o c fo, cc = .seq (.region id ops false) b ∧ ops.toList.getLast? = some o ∧ o.op = .defer c ∧ o.guard = none ∧ o.dst = none ∧ c.callee = .value fo ∧ c.args.toList = [] ∧ trSteps P nt ops.toList ops.toList.dropLast = some l ∧ trOpd fo = some f ∧
      trCode P nt b = some post ∧ post.flat = true := by
  unfold trDef at h
  split at h
  · rename_i id ops b
    split at h
    · rename_i c hm
      split at hm
      case h_2 => cases hm
      rename_i o ho
      split at hm
      case h_2 => cases hm
      rename_i c' hop
      simp only [Option.some.injEq, Prod.mk.injEq] at hm
      obtain ⟨rfl, hg, hd⟩ := hm
      split at h
      case h_2 => cases h
      rename_i fo l' hcal hargs hl
      split at h
      case h_2 => cases h
      rename_i f' b' hf hb
      split at h
      case isFalse => cases h
      rename_i hfl
      cases h
      exact ⟨id, ops, b, o, c', fo, rfl, ho, hop, by simpa using hg, by simpa using hd, hcal, hargs, hl, hf, hb, hfl⟩
    · split at h <;> cases h
  · split at h
    · split at h <;> cases h
    · cases h
  · cases h

theorem holds_ok {E : Env} (hmix : P.follows .mixedOrders = true) (hT : TableOK P E) (hO : OvOK P B0 E.ov) {j : Job} (w : Holds E j) : JobOK P B0 j := by
  induction w with
  | skip w =>
    intro ro nt fl cc ht hro hfl m wd a Qc hr hA hq
    have fin := hq _ _ _ _ a wd w (CPost.marks ⟨m, .normal, hr, Fr.refl _ _ _ _, hA, rfl⟩)
    cases cc <;> simp only [trCode] at ht <;> (try (cases ht; done))
    case skip => exact wpIn_skip fin
    case label => exact wpIn_label fin
    case region id ops d => (repeat' (split at ht)) <;> simp at ht
    all_goals (try (repeat' (split at ht)))
    all_goals (simp at ht)
  | exit w =>
    intro ro nt fl cc ht hro hfl m wd a Qc hr hA hq
    have fin := hq _ _ _ _ a wd w (CPost.marks ⟨m, .exit _, hr, Fr.refl _ _ _ _, hA, rfl⟩)
    cases cc <;> simp only [trCode] at ht <;> (try (cases ht; done))
    case exit => cases ht; exact wpIn_exit fin
    all_goals (try (repeat' (split at ht)))
    all_goals (simp at ht)
  | ret w =>
    intro ro nt fl cc ht hro hfl m wd a Qc hr hA hq
    have fin := hq _ _ _ _ a wd w (CPost.marks ⟨m, .ret, hr, Fr.refl _ _ _ _, hA, rfl⟩)
    cases cc <;> simp only [trCode] at ht <;> (try (cases ht; done))
    case ret => exact wpIn_ret fin
    all_goals (try (repeat' (split at ht)))
    all_goals (simp at ht)
  | @ops l s h Q C hC w ih =>
    intro ro nt fl cc ht hro hfl m wd a Qc hr hA hq
    have w' : WOpsG (CallOK P B0) l Q s h := WOpsG.imp (fun f a h R R' hr c => CallOK.imp hr (ih f a h R c)) (fun _ _ _ q => q) w
    cases cc <;> simp only [trCode] at ht <;> (try (cases ht; done))
    case region id ops d =>
      split at ht
      · (repeat' (split at ht)) <;> simp at ht
      · rename_i hd
        split at ht
        case h_2 => split at ht <;> simp at ht
        rename_i l' hl
        cases ht
        have hd' : d = false := by simpa using hd
        subst hd'
        exact wpIn_region_list (sound_ops _ l hl hr hA w' (fun ex s' h' e a' w' hqa hc => hq _ _ _ _ _ _ hqa hc.marks))
    all_goals (try (repeat' (split at ht)))
    all_goals (simp at ht)
  | @draw l s h Q C hC w ih =>
    intro ro nt fl cc ht hro hfl m wd a Qc hr hA hq
    have w' : WDrawG (CallOK P B0) (panD l s Q) l [] (Q .normal) s h := WDrawG.imp (fun f a h R R' hr c => CallOK.imp hr (ih f a h R c)) (fun _ _ q => q) (fun _ _ q => q) w
    cases cc <;> simp only [trCode] at ht <;> (try (cases ht; done))
    case region id ops d =>
      split at ht
      · rename_i hd
        split at ht
        case h_2 => split at ht <;> simp at ht
        rename_i l' hl
        cases ht
        subst hd
        exact sound_draw hmix hl hr hA w' (fun ex s' h' e a' w' hqa hc => hq _ _ _ _ _ _ hqa hc.marks)
      · (repeat' (split at ht)) <;> simp at ht
    all_goals (try (repeat' (split at ht)))
    all_goals (simp at ht)
  | @seq ca cb s h Q M w k ih ik =>
    intro ro nt fl cc ht hro hfl m wd a Qc hr hA hq
    cases cc <;> simp only [trCode] at ht <;> (try (cases ht; done))
    case seq x y =>
      split at ht
      case h_2 => cases ht
      rename_i ax ay hx hy
      cases ht
      have hf2 : (ro = none ∨ ca.flat = true) ∧ (ro = none ∨ cb.flat = true) := by
        rcases hro with e | e
        · exact ⟨.inl e, .inl e⟩
        · simp only [ACode.flat, Bool.and_eq_true] at e; exact ⟨.inr e.1, .inr e.2⟩
      have hf3 : (fl = true → ca.flat = true) ∧ (fl = true → cb.flat = true) := ⟨fun e => by have := hfl e; simp only [ACode.flat, Bool.and_eq_true] at this; exact this.1, fun e => by have := hfl e; simp only [ACode.flat, Bool.and_eq_true] at this; exact this.2⟩
      refine wpIn_seq (CodeGo.wp (ih x hx hf2.1 hf3.1 hr hA ?_))
      intro ex s1 h1 e a1 w1 hqa hc
      have hc' := hc
      obtain ⟨m1, hX, r1, f1, A1, ms1, d1, k1, l1⟩ := hc'
      cases hX with
      | normal => exact CodeGo.wp (ik s1 h1 hqa y hy hf2.2 hf3.2 r1 A1 (fun ex s2 h2 e a2 w2 hqa2 hc2 => hq _ _ _ _ _ _ hqa2 (.trans f1 k1 l1 (by rw [d1] at hc2; exact hc2))))
      | ret => exact hq _ _ _ _ _ _ hqa hc
      | exit id => exact hq _ _ _ _ _ _ hqa hc
      | panic hv => exact hq _ _ _ _ _ _ hqa hc
    all_goals (try (repeat' (split at ht)))
    all_goals (simp at ht)
  | @cond c t ca cb s h Q hc w ih =>
    intro ro nt fl cc ht hro hfl m wd a Qc hr hA hq
    cases cc <;> simp only [trCode] at ht <;> (try (cases ht; done))
    case cond c' x y =>
      split at ht
      case h_2 => cases ht
      rename_i ac ax ay hcc hx hy
      cases ht
      have hf2 : (ro = none ∨ ca.flat = true) ∧ (ro = none ∨ cb.flat = true) := by
        rcases hro with e | e
        · exact ⟨.inl e, .inl e⟩
        · simp only [ACode.flat, Bool.and_eq_true] at e; exact ⟨.inr e.1, .inr e.2⟩
      have hf3 : (fl = true → ca.flat = true) ∧ (fl = true → cb.flat = true) := ⟨fun e => by have := hfl e; simp only [ACode.flat, Bool.and_eq_true] at this; exact this.1, fun e => by have := hfl e; simp only [ACode.flat, Bool.and_eq_true] at this; exact this.2⟩
      have hv := hA.ev hcc
      rw [hc] at hv
      generalize hvv : a.eval c' = vc at hv
      cases hv
      refine wpIn_cond hvv ?_
      cases t
      · exact CodeGo.wp (ih y hy hf2.2 hf3.2 hr hA hq)
      · exact CodeGo.wp (ih x hx hf2.1 hf3.1 hr hA hq)
    all_goals (try (repeat' (split at ht)))
    all_goals (simp at ht)
  | @block id c s h Q w ih =>
    intro ro nt fl cc ht hro hfl m wd a Qc hr hA hq
    cases cc <;> simp only [trCode] at ht <;> (try (cases ht; done))
    case block id' c' =>
      obtain ⟨ac, hc, e⟩ := Option.map_eq_some_iff.1 ht
      cases e
      refine wpIn_block (CodeGo.wp (ih c' hc hro hfl hr hA ?_))
      intro ex s1 h1 e a1 w1 hqa hc
      obtain ⟨m1, hX, r1, f1, A1, rest⟩ := hc
      cases hX with
      | normal => exact hq _ _ _ _ _ _ hqa ⟨m1, .normal, r1, f1, A1, rest⟩
      | ret => exact hq _ _ _ _ _ _ hqa ⟨m1, .ret, r1, f1, A1, rest⟩
      | panic hv => exact hq _ _ _ _ _ _ hqa ⟨m1, .panic hv, r1, f1, A1, rest⟩
      | exit id' =>
        simp only [atExit] at hqa
        by_cases hid : id' = id
        · simp only [Exit.inBlock, hid, if_true] at hqa ⊢
          exact hq _ _ _ _ _ _ hqa ⟨m1, .normal, r1, f1, A1, rest⟩
        · simp only [Exit.inBlock, hid, if_false] at hqa ⊢
          exact hq _ _ _ _ _ _ hqa ⟨m1, .exit _, r1, f1, A1, rest⟩
    all_goals (try (repeat' (split at ht)))
    all_goals (simp at ht)
  | @scope c s h Q w ih =>
    intro ro nt fl cc ht hro hfl m wd a Qc hr hA hq
    cases cc <;> simp only [trCode] at ht <;> (try (cases ht; done))
    case scope c' =>
      obtain ⟨ac, hc, e⟩ := Option.map_eq_some_iff.1 ht
      cases e
      refine wpIn_mono (wpIn_scope (Q := fun e a w => (∀ l, e ≠ .goto l) ∧ Qc e a w) (CodeGo.wp (ih c' hc hro hfl hr hA ?_)) (fun l a w h => h.1 l rfl)) (fun e a w h => h.2)
      intro ex s1 h1 e a1 w1 hqa hc
      refine ⟨fun l e2 => ?_, hq _ _ _ _ _ _ hqa hc⟩
      obtain ⟨m1, hX, _⟩ := hc
      rw [e2] at hX
      cases hX
    all_goals (try (repeat' (split at ht)))
    all_goals (simp at ht)
  | @loop c s h Q M w k ih ik =>
    intro ro nt fl cc ht hro hfl m wd a Qc hr hA hq
    cases cc <;> simp only [trCode] at ht <;> (try (cases ht; done))
    case loop c' =>
      obtain ⟨ac, hc, e⟩ := Option.map_eq_some_iff.1 ht
      cases e
      have ht' : trCode P nt (.loop c') = some (.loop c) := by simp [trCode, hc]
      refine LoopsIn.step (CodeGo.wp (ih c' hc hro hfl hr hA ?_))
      intro ex s1 h1 e a1 w1 hqa hc
      have hc' := hc
      obtain ⟨m1, hX, r1, f1, A1, ms1, d1, k1, l1⟩ := hc'
      cases hX with
      | normal => exact ik s1 h1 hqa (.loop c') ht' hro hfl r1 A1 (fun ex s2 h2 e a2 w2 hqa2 hc2 => hq _ _ _ _ _ _ hqa2 (.trans f1 k1 l1 (by rw [d1] at hc2; exact hc2)))
      | ret => exact hq _ _ _ _ _ _ hqa hc
      | exit id => exact hq _ _ _ _ _ _ hqa hc
      | panic hv => exact hq _ _ _ _ _ _ hqa hc
    all_goals (try (repeat' (split at ht)))
    all_goals (simp at ht)
  | @range nt' f ps assign body s h Q g cs hf hg w ih =>
    intro ro nt fl cc ht hro hfl m wd a Qc hr hA hq
    have hro' : ro = none := by
      rcases hro with e | e
      · exact e
      · simp [ACode.flat] at e
    subst hro'
    have hfl' : fl = false := by
      cases fl with
      | false => rfl
      | true => have := hfl rfl; simp [ACode.flat] at this
    subst hfl'
    cases cc <;> simp only [trCode] at ht <;> (try (cases ht; done))
    case rangeFunc f' ps' x y =>
      split at ht
      case h_2 => cases ht
      rename_i af ax ay hf' hx hy
      split at ht
      case isFalse => cases ht
      rename_i hps
      cases ht
      exact range_ok hT hf' hx hy hps hr hA hf hg ih hq
    all_goals (try (repeat' (split at ht)))
    all_goals (simp at ht)
  | mono w hq' ih =>
    intro ro nt fl cc ht hro hfl m wd a Qc hr hA hq
    exact ih cc ht hro hfl hr hA (fun ex s' h' e a' w' hqa hc => hq _ _ _ _ _ _ (hq' _ _ _ hqa) hc)
  | ov ho hg hr =>
    exact CallOK.imp (f := .fn _) (fun r h ⟨e1, e2⟩ => by rw [e1, e2]; exact hr) (hO _ _ ho _ _ _ _ hg)
  | @fn f af args h R ho hTf hl w ih =>
    obtain ⟨fn, hf, hn, htr⟩ := hT.T f af hTf
    unfold trFunc at htr
    split at htr
    · cases htr
    rename_i c hb
    split at htr
    case h_2 => cases htr
    rename_i ac ar hc hrs
    cases htr
    intro m w cargs hr hargs
    refine .inl ⟨run_callFunc_enter hf hn hb _ _, ?_⟩
    refine callsIn_of_wp_marks hf hb trivial ?_ rfl
    refine CodeGo.wp (ih (ro := none) (fl := false) c hc (.inl rfl) (fun h => by cases h) hr (enter_rel hargs hl) ?_)
    intro ex s1 h1 e a1 w1 hqa hc2
    obtain ⟨m1, hX, r1, f1, A1, ms1, d1, k1, l1⟩ := hc2
    rw [List.append_nil] at d1
    exact body_end hrs hr.base hqa hX r1 f1 A1 (by rw [d1]; exact k1)
  | @fnD f af args h R ho hTf hl w ih =>
    obtain ⟨fn, hf, hn, htr⟩ := hT.D f af hTf
    unfold trFuncD at htr
    split at htr
    · cases htr
    rename_i c hb
    split at htr
    case h_2 => cases htr
    rename_i ac ar hc hrs
    cases htr
    intro m w cargs hr hargs
    refine .inl ⟨run_callFunc_enter hf hn hb _ _, ?_⟩
    exact callsIn_of_wp_marks hf hb trivial (ih c fn hc hrs hr (Fr.refl _ _ _ _) hr.base (enter_rel hargs hl) trivial) rfl
  | @yld o args h R L hL hl M L1 w hL1 hst k ih ik =>
    intro m wd cargs b hr hm hargs
    obtain ⟨hB, rec, hb, q⟩ := hr.lp hL hm
    have hsz : (⟨cargs⟩ : Array Value).size = rec.params.size := by
      have e1 := hargs.len
      have e2 : rec.params.size = L.ps.length := by rw [← q.ps]; simp
      simp only [List.size_toArray]; omega
    refine ⟨_, _, _, _, run_yield hb hsz, roundIn_of_wpIn (F := FW none) trivial ?_⟩
    have hfl := q.flat
    simp only [Bool.and_eq_true] at hfl
    have hA0 : ARel m L.nt L.s { tmps := rec.tmps, defers := [] } := ⟨q.size, q.tmp⟩
    have hA : ARel m L.nt (setPs L.s L.ps args) { tmps := (rec.params.zip (⟨cargs⟩ : Array Value)).foldl (fun tmps (p : Tmp × Value) => tmps.setIfInBounds p.1 p.2) rec.tmps, defers := [] } := by
      have := setPs_rel q.lt hargs hA0
      rw [← q.ps] at this
      rw [← Array.foldl_toList, Array.toList_zip]
      rw [q.ps] at this ⊢
      exact this
    refine CodeGo.wp (ih (ro := some b) (fl := true) rec.assign q.assign (.inr hfl.1) (fun _ => hfl.1) hr hA ?_)
    rintro ex s1 h1 e a1 w1 ⟨rfl, hM⟩ ⟨m1, hX, r1, f1, A1, ms1, d1, k1, l1⟩
    cases hX
    rw [l1 rfl] at d1
    have hm1 : m1 o = some (b, 0, 0) := f1.le _ _ hm
    have hL2 := hL1 _ _ hM
    obtain ⟨hB1, rec1, hb1, q1⟩ := r1.lp hL2 hm1
    refine ⟨_, run_beginRound hb1 (by rw [q1.st, hst _ _ hM]; rfl), ?_⟩
    have q2 : LRel P m1 { L1 s1 h1 with st := 1 } { rec1 with state := .busy } := ⟨rfl, q1.pend, q1.size, q1.tmp, q1.ps, q1.assign, q1.body, q1.flat, q1.lt⟩
    obtain ⟨r2, f2⟩ := r1.setLoop hL2 hm1 q2
    refine CodeGo.wp (ik s1 h1 hM (ro := some b) (fl := true) rec.body q.body (.inr hfl.2) (fun _ => hfl.2) r2 A1 ?_)
    rintro ex s2 h2 e a3 w3 hqa ⟨m3, hX, r3, f3, A3, ms3, d3, k3, l3⟩
    rw [l3 rfl] at d3
    cases hX with
    | normal => exact endRound_ok (jump := none) r3 ((f1.trans f2).trans f3) (f3.le _ _ hm1) hqa rfl
    | ret => exact endRound_ok (jump := some none) r3 ((f1.trans f2).trans f3) (f3.le _ _ hm1) hqa rfl
    | exit id => exact endRound_ok (jump := some (some id)) r3 ((f1.trans f2).trans f3) (f3.le _ _ hm1) hqa rfl
    | panic hv => obtain ⟨_, _, hF⟩ := hqa; exact hF.elim
  | monoC w hr ih => exact CallOK.imp hr ih
  | @dseq ca d rs s h R M w k ih ik =>
    intro cc fn ht hrs m0 h0 w0 m wd a hr hf hB hA hmk
    obtain ⟨x, y, rfl, hx, hy⟩ := trDef_seq ht
    refine wpIn_seq (CodeGo.wp (ih (ro := none) (fl := false) x hx (.inl rfl) (fun h => by cases h) hr hA ?_))
    intro ex s1 h1 e a1 w1 hqa hc
    obtain ⟨m1, hX, r1, f1, A1, ms1, d1, k1, l1⟩ := hc
    have hmk1 : Marks w0.heap.size m1 w1 w1.heap.size a1.defers := by
      rw [d1]; exact (hmk.frame f1 (Nat.le_refl _)).append hf.size f1.size k1
    cases hX with
    | normal => exact ik s1 h1 hqa y fn hy hrs r1 (hf.trans f1) hB A1 hmk1
    | ret => exact body_end (ex := .ret) hrs hB hqa .ret r1 (hf.trans f1) A1 hmk1
    | exit id => exact False.elim hqa
    | @panic v v' hv => exact body_end (ex := .panic v) hrs hB hqa (.panic hv) r1 (hf.trans f1) A1 hmk1
  | @dfr l f post rs s h R C hC M w hfn M2 k hx k2 ihC ik ik2 =>
    intro cc fn ht hrs m0 h0 w0 m wd a hr hf hB hA hmk
    obtain ⟨id, ops, b, o, c, fo, rfl, hlast, hop, hgd, hdst, hcal, hargs, hl, hfo, hb, hfl⟩ := trDef_dfr ht
    have w' : WOpsG (CallOK P B0) l (fun ex s h => ex = .normal ∧ M s h) s h := WOpsG.imp (fun f a h R R' hr c => CallOK.imp hr (ihC f a h R c)) (fun _ _ _ q => q) w
    have hsplit : ops.toList = ops.toList.dropLast ++ [o] := by
      rw [List.getLast?_eq_some_iff] at hlast
      obtain ⟨ys, hys⟩ := hlast
      rw [hys]; simp
    refine wpIn_seq (wpIn_region_list ?_)
    rw [hsplit]
    refine wpListIn_append (sound_ops _ l hl hr hA w' ?_)
    rintro ex s1 h1 e a1 w1 ⟨rfl, hM⟩ ⟨m1, hX, r1, f1, A1, d1⟩
    cases hX
    -- the deferring
    have hfv := A1.ev hfo
    obtain ⟨g, cs, hfe⟩ := hfn s1 h1 hM
    rw [hfe] at hfv
    generalize hfc : a1.eval fo = fc at hfv
    cases hfv with
    | func _ hcs =>
    rename_i cs'
    show wpListIn _ _ _ _ _ [o] a1 w1
    simp only [wpListIn, Region.wanted, hgd, if_true]
    refine ⟨about_ok none w1 o _, ?_⟩
    have hrun : (Oper.semAt (FW none).round a1.eval o).run P w1 = .ok (.defer { target := .fn (.func g) ⟨cs'⟩, args := #[] }) w1 := by
      have hca : c.args = #[] := by apply Array.ext'; simpa using hargs
      show (Oper.semAt none a1.eval o).run P w1 = _
      rw [Oper.semAt_none]
      simp only [execOp, hop, resolve, hcal, hfc, Deferred.ofValue, hca, Sem.run_bind, Sem.run_pure, Result.andThen_ok]
      simp
    rw [hrun]
    show b.wpIn _ _ _ _ ({ a1 with defers := { target := .fn (.func g) ⟨cs'⟩, args := #[] } :: a1.defers }.put o.dst undef) w1
    rw [hdst]
    have A2 : ARel m1 fn.ntmps s1 { a1 with defers := { target := .fn (.func g) ⟨cs'⟩, args := #[] } :: a1.defers } := ⟨A1.size, A1.tmp⟩
    have hmk1 : Marks w0.heap.size m1 w1 w1.heap.size a1.defers := by
      rw [d1]; exact (hmk.frame f1 (Nat.le_refl _)).up f1.size
    refine CodeGo.wp (ik s1 h1 hM (ro := none) (fl := true) b hb (.inl rfl) (fun _ => hfl) r1 A2 ?_)
    intro ex s2 h2 e a2 w2 hqa hc
    obtain ⟨m2, hX2, r2, f2, A3, ms2, d2, k2', l2⟩ := hc
    rw [l2 rfl] at d2
    simp only [List.nil_append] at d2
    have hmk2 := (hmk1.frame f2 (Nat.le_refl _)).up f2.size
    have f02 := (hf.trans f1).trans f2
    have hsome := hx s1 h1 hM ex s2 h2 hqa
    obtain ⟨u, hu⟩ := Option.isSome_iff_exists.1 hsome
    have hJ := ik2 s1 h1 hM ex s2 h2 u hqa hu
    have hleave : ∀ (uc : FrameMode), URel m2 u uc → LeavesInM (FW none) 0 P fn a2.tmps (CallR P B0 m0 h0 w0 R) a2.defers uc w2 := by
      intro uc hU
      rw [d2]
      obtain ⟨hrun, hcd⟩ := hJ m2 w2 g cs cs' uc hfe (hcs.mono f2.le) hU r2
      have hur : uc ≠ .run := by cases hU <;> simp
      refine ⟨hur, .inr ⟨by simp [FW, Fence.wide], .func g, ⟨cs'⟩, g, ⟨cs'⟩, rfl, ?_, fun _ _ => trivial, hcd.mono ?_⟩⟩
      · simp only [invoke]
        rw [show (#[] : Array Value) ++ (⟨cs'⟩ : Array Value) = ⟨cs'⟩ by apply Array.ext'; simp]
        exact hrun
      · rintro e u' w3 ⟨⟨v, rfl⟩, hset, m3, h3, hlast3, r3, f3⟩
        show LeavesInM _ _ _ _ _ _ a1.defers (settle u') w3
        rw [hset]
        have hmk3 := hmk2.frame f3 (Nat.le_refl _)
        have := leaves_marks (rest := []) hB (by simp) r3 (f02.trans f3) hmk3 f3.size (fn := fn) (tmps := a2.tmps) (R := CallR P B0 m0 h0 w0 R) (u := .returning) fun w4 r4 f4 => by
          obtain ⟨v4, h4, hv, hR⟩ := WX.get hlast3
          obtain ⟨v', hv', e2⟩ := Option.map_eq_some_iff.1 hv
          cases e2
          obtain ⟨v2, hvr, hres⟩ := results_ok r4 (A3.mono f3.le) hrs hv'
          exact ⟨v2, hres, _, _, hR, m3, .val hvr, r4, f4⟩
        rw [List.append_nil] at this
        exact this
    cases hX2 with
    | normal => cases hu; exact hleave .returning .none
    | ret => cases hu; exact hleave .returning .none
    | exit id => cases hu
    | panic hv => cases hu; exact hleave _ (.some hv)
  | @recv g cs fn u h R hR hl M w k ih =>
    intro m wd g' cs1 cs' uc he hcs hU hr
    cases he
    obtain ⟨fnc, hf, hn, htr⟩ := hT.R g fn hR
    unfold trFuncR at htr
    split at htr
    case h_2 => cases htr
    rename_i id ops b hb
    split at htr
    case h_2 => cases htr
    rename_i o r hops
    split at htr
    case h_2 => cases htr
    rename_i c d hop hdst hgd
    split at htr
    case h_2 => cases htr
    rename_i l b' hcal hl' hb'
    split at htr
    case isFalse => cases htr
    rename_i hcond
    cases htr
    refine ⟨run_callFunc_enter hf hn hb _ _, callsDIn_of_wpSIn hf hb trivial fun c₀ cs₀ hu => ?_⟩
    refine wpSIn_seq (wpSIn_region ?_)
    have hsz : ops.size = r.length + 1 := by have := congrArg List.length hops; simpa using this
    have hget : ∀ j, ops[j]? = (o :: r)[j]? := fun j => by rw [← hops]; exact (Array.getElem?_toList).symm
    rw [List.range_eq_range', hsz, List.range'_succ]
    simp only [wpOpsSIn]
    rw [hget 0]
    simp only [List.getElem?_cons_zero]
    refine ⟨about_ok none wd o _, ?_⟩
    simp only [Region.wanted, hgd, if_true]
    have hA0 := enter_rel hcs hl
    have hrun : ∀ a : Act, (execOp a.eval o).run P wd = .ok .recover wd := by
      intro a
      simp only [execOp, hop, resolve, hcal, Sem.run_bind, Sem.run_pure, Result.andThen_ok, invoke, builtin]
    rw [hrun]
    have hrest : ∀ {uv : Value} {u' : FrameMode}, VRel m (u.getD .nili) uv → settle u' = .returning → wpOpsSIn (FW none) 0 P ops
        (Exit.thenS (b.wpSIn (FW none) 0 P (bodyPostS P fnc c₀ cs₀ fun e u' w' => (∃ v, e = .returned v) ∧ settle u' = .returning ∧ ∃ m' h', R h' ∧ Rel P B0 m' h' w' ∧ Fr B0 m m' h h' wd w'))
          (bodyPostS P fnc c₀ cs₀ fun e u' w' => (∃ v, e = .returned v) ∧ settle u' = .returning ∧ ∃ m' h', R h' ∧ Rel P B0 m' h' w' ∧ Fr B0 m m' h h' wd w')) (List.range' (0 + 1) r.length)
        (({ tmps := (⟨cs'⟩ : Array Value) ++ Array.replicate (fnc.ntmps - (⟨cs'⟩ : Array Value).size) undef, defers := [] } : Act).put o.dst uv) ({ c₀ with mode := u' } :: cs₀) wd := by
      intro uv u' huv hset
      rw [hdst]
      have hA1 := hA0.put (some d) (fun x hx => by cases hx; exact hcond.1) huv
      refine sound_opsS r _ 1 hl' (fun j => by rw [hget (1 + j), Nat.add_comm 1 j]; rfl) hr hA1 w ?_ (fun v s' h' q => by cases q.1)
      rintro s1 h1 a1 w1 ⟨_, hM⟩ ⟨m1, hX, r1, f1, A1, d1⟩
      have d1' : a1.defers = [] := d1
      show b.wpSIn _ _ _ _ a1 _ w1
      refine wpSIn_of_wpIn rfl (CodeGo.wp (ih s1 h1 hM (ro := none) (fl := true) b hb' (.inl rfl) (fun _ => hcond.2.2.1) r1 A1 ?_))
      rintro ex s2 h2 e a2 w2 ⟨hex, hRR⟩ ⟨m2, hX2, r2, f2, A2, ms2, d2, k2', l2⟩
      rw [l2 rfl, d1'] at d2
      have hrs : trRess P fnc.results.toList = some [] := by
        have : fnc.results.toList = [] := by simpa using hcond.2.1
        rw [this]; rfl
      have hend : a2.defers = [] ∧ ∃ u2, ({ c₀ with mode := u' } :: cs₀ : List Frame) = { c₀ with mode := u2 } :: cs₀ ∧ ∃ v, (results fnc a2.tmps).run P w2 = .ok v w2 ∧ ((∃ v2, Ending.returned v = .returned v2) ∧ settle u2 = .returning ∧ ∃ m' h', R h' ∧ Rel P B0 m' h' w2 ∧ Fr B0 m m' h h' wd w2) := by
        obtain ⟨v2, hvr, hres⟩ := results_ok r2 A2 hrs (v := .tup []) rfl
        exact ⟨d2, u', rfl, v2, hres, ⟨v2, rfl⟩, hset, m2, h2, hRR, r2, f1.trans f2⟩
      cases hX2 with
      | normal => exact hend
      | ret => exact hend
      | exit id => rcases hex with e | e <;> cases e
      | panic hv => rcases hex with e | e <;> cases e
    cases hU with
    | none =>
      have hrd : recoverD (c₀ :: cs₀) = none := by cases c₀; simp only at hu; subst hu; rfl
      rw [hrd]
      have hc0 : ({ c₀ with mode := FrameMode.returning } : Frame) = c₀ := by rw [← hu]
      have := hrest (uv := .nilIface) (u' := .returning) .nili rfl
      rw [hc0] at this
      exact this
    | @some v v' hv =>
      have hrd : recoverD (c₀ :: cs₀) = some (v', { c₀ with mode := .panicking [{ v := v', recovered := true }] } :: cs₀) := by cases c₀; simp only at hu; subst hu; rfl
      rw [hrd]
      exact hrest hv rfl
end
end Go.Proofs.YtlbaphapjclkdaaGreatDoor.Ev

/- What the executable interpreter answers, code and calls come to. -/
namespace Go.Proofs.YtlbaphapjclkdaaGreatDoor.Ev
set_option linter.unusedVariables false
set_option linter.unusedSimpArgs false

/-- calls that are answered -/
def CallA (call : Fn → List AV → H → Option (AOut × H)) : CallP := fun f a h R => ∃ r h', call f a h = some (r, h') ∧ R r h'
section
variable {call : Fn → List AV → H → Option (AOut × H)}
theorem runOps_W : ∀ {l : List AStep} {s : S} {h : H} {ex : AEx} {s' : S} {h' : H}, runOps call l s h = some (ex, s', h') → ∀ {Q : Post}, Q ex s' h' → WOpsG (CallA call) l Q s h
  | [], s, h, ex, s', h', e, Q, q => by
    simp only [runOps, Option.some.injEq, Prod.mk.injEq] at e
    obtain ⟨rfl, rfl, rfl⟩ := e
    exact q
  | st :: r, s, h, ex, s', h', e, Q, q => by
    simp only [runOps] at e
    simp only [WOpsG]
    split at e
    · rename_i hw
      rw [if_pos hw]
      by_cases hpl : st.op.plain = true
      · rw [WOpG_plain hpl]
        have e' : (match exec st.op s h with | some (v, h) => runOps call r (upd s st.dst v) h | none => none) = some (ex, s', h') := by
          revert e hpl
          cases st.op <;> intro e hpl <;> first | exact e | cases hpl
        split at e'
        · rename_i v h1 hx
          rw [hx]
          exact runOps_W e' q
        · cases e'
      · cases hop : st.op <;> rw [hop] at hpl e <;> simp only [AOp.plain, not_true_eq_false] at hpl
        case call f args =>
          simp only at e
          simp only [WOpG]
          generalize f.ev s = fv at e
          have main : ∀ {fn : Fn} {vs : List AV}, (match call fn vs h with | some (.val v, h) => runOps call r (upd s st.dst v) h | some (.panic v, h) => some (.panic v, s, h) | none => none) = some (ex, s', h') →
              CallA call fn vs h (onOut (fun v h => WOpsG (CallA call) r Q (upd s st.dst v) h) (fun v h => Q (.panic v) s h)) := by
            intro fn vs e
            split at e
            · rename_i v h1 hc; exact ⟨_, _, hc, runOps_W e q⟩
            · rename_i v h1 hc; cases e; exact ⟨_, _, hc, q⟩
            · cases e
          cases fv <;> simp only at e <;> (try (cases e; done))
          all_goals exact main e
        case panic x =>
          simp only at e
          simp only [WOpG]
          split at e
          · rename_i t v hx; cases e; rw [hx]; exact q
          · cases e
        case nextM x =>
          simp only at e
          simp only [WOpG]
          split at e
          · rename_i v h1 hx; exact nextEA_P hx (runOps_W e q)
          · cases e
    · rename_i hw
      rw [if_neg hw]
      exact runOps_W e q
theorem runEff_W {op : AOp} {s : S} {h h' : H} {v : AV} (e : runEff call op s h = some (v, h')) {K Pn : AV → H → Prop} (k : K v h') : WOpG (CallA call) op s h K Pn := by
  by_cases hpl : op.plain = true
  · rw [WOpG_plain hpl]
    have e' : exec op s h = some (v, h') := by
      revert e hpl
      cases op <;> intro e hpl <;> first | exact e | cases hpl
    rw [e']; exact k
  · cases op <;> simp only [AOp.plain, not_true_eq_false] at hpl
    case call f args =>
      simp only [runEff] at e
      simp only [WOpG]
      generalize f.ev s = fv at e
      have main : ∀ {fn : Fn} {vs : List AV}, (match call fn vs h with | some (.val v, h) => some (v, h) | _ => none) = some (v, h') → CallA call fn vs h (onOut K Pn) := by
        intro fn vs e
        split at e
        · rename_i v h1 hc; cases e; exact ⟨_, _, hc, k⟩
        · cases e
      cases fv <;> simp only at e <;> (try (cases e; done))
      all_goals exact main e
    case panic x => simp only [runEff] at e; cases e
    case nextM x =>
      simp only [runEff] at e
      simp only [WOpG]
      exact nextEA_P e k
theorem runDraw_W {Pn : AV → H → Prop} : ∀ {l : List DStep} {pd : List Pend} {s : S} {h : H} {s' : S} {h' : H}, runDraw call l pd s h = some (s', h') → ∀ {Q : S → H → Prop}, Q s' h' → WDrawG (CallA call) Pn l pd Q s h
  | [], pd, s, h, s', h', e, Q, q => by
    simp only [runDraw] at e
    split at e
    · rename_i hc; cases e; exact ⟨hc, q⟩
    · cases e
  | d :: r, pd, s, h, s', h', e, Q, q => by
    simp only [runDraw] at e
    simp only [WDrawG]
    split at e
    · rename_i hk
      rw [if_pos hk]
      split at e
      case isFalse => cases e
      rename_i hc
      refine ⟨hc, ?_⟩
      split at e
      · rename_i hw
        rw [if_pos hw]
        split at e
        · rename_i v h1 hx; exact runEff_W hx (runDraw_W e q)
        · cases e
      · rename_i hw
        rw [if_neg hw]; exact runDraw_W e q
    · rename_i hk
      rw [if_neg hk]
      split at e
      · rename_i hw
        rw [if_pos hw]
        split at e
        · rename_i v h1 hx; rw [hx]; exact runDraw_W e q
        · cases e
      · rename_i hw
        rw [if_neg hw]; exact runDraw_W e q
end

section
variable {E : Env}
def CodeA (E : Env) (k : Nat) : Prop := ∀ c s h ex s' h', (ev E k).code c s h = some (ex, s', h') → ∀ Q : Post, Q ex s' h' → Holds E (.code c s h Q)
def CallsA (E : Env) (k : Nat) : Prop := ∀ f a h r h', (ev E k).call f a h = some (r, h') → ∀ R : AOut → H → Prop, R r h' → Holds E (.call f a h R)
theorem callsA_C {k : Nat} (il : CallsA E k) : ∀ f a h R, CallA (ev E k).call f a h R → Holds E (.call f a h R) := fun f a h R ⟨r, h', e, q⟩ => il f a h r h' e R q
theorem code_A {k : Nat} (ic : CodeA E k) (il : CallsA E k) : CodeA E (k + 1) := by
  intro c s h ex s' h' e Q q
  change stepCode E (ev E k) c s h = some (ex, s', h') at e
  cases c <;> simp only [stepCode] at e
  case skip => cases e; exact .skip q
  case exit id => cases e; exact .exit q
  case ret => cases e; exact .ret q
  case stuck => cases e
  case scope c => exact .scope (ic _ _ _ _ _ _ e _ q)
  case ops l => exact .ops _ (callsA_C il) (runOps_W e q)
  case draw l =>
    obtain ⟨p, h1, h2⟩ := Option.map_eq_some_iff.1 e
    cases h2
    exact .draw _ (callsA_C il) (runDraw_W h1 q)
  case seq a b =>
    split at e
    · rename_i s1 h1 e1
      exact .seq (fun s h => s = s1 ∧ h = h1) (ic _ _ _ _ _ _ e1 _ ⟨rfl, rfl⟩) (fun s h ⟨hs, hh⟩ => by rw [hs, hh]; exact ic _ _ _ _ _ _ e _ q)
    · rename_i hne
      refine .seq (fun _ _ => False) (ic _ _ _ _ _ _ e _ ?_) (fun s h hf => hf.elim)
      cases ex with
      | normal => exact absurd e (hne _ _)
      | _ => exact q
  case cond c a b =>
    generalize hc : c.ev s = cv at e
    cases cv <;> simp only at e <;> (try (cases e; done))
    exact .cond hc (ic _ _ _ _ _ _ e _ q)
  case block id c =>
    split at e
    · rename_i id' s1 h1 e1
      cases e
      exact .block (ic _ _ _ _ _ _ e1 _ q)
    · rename_i hne
      refine .block (ic _ _ _ _ _ _ e _ ?_)
      cases ex with
      | exit id' => exact absurd e (hne _ _ _)
      | _ => exact q
  case loop c =>
    split at e
    · rename_i s1 h1 e1
      exact .loop (fun s h => s = s1 ∧ h = h1) (ic _ _ _ _ _ _ e1 _ ⟨rfl, rfl⟩) (fun s h ⟨hs, hh⟩ => by rw [hs, hh]; exact ic _ _ _ _ _ _ e _ q)
    · rename_i hne
      refine .loop (fun _ _ => False) (ic _ _ _ _ _ _ e _ ?_) (fun s h hf => hf.elim)
      cases ex with
      | normal => exact absurd e (hne _ _)
      | _ => exact q
  case range nt f ps assign body =>
    generalize hf : f.ev s = fv at e
    cases fv <;> simp only at e <;> (try (cases e; done))
    split at e
    case isFalse => cases e
    rename_i hg
    split at e
    case h_2 => cases e
    rename_i v h1 e1
    refine .range hf hg (il _ _ _ _ _ e1 _ ?_)
    unfold endLoopA at e
    split at e
    case h_2 => cases e
    rename_i L hL
    split at e
    case isTrue => cases e
    rename_i hst
    refine ⟨L, hL, hst, ?_⟩
    split at e <;> cases e <;> (rename_i hp; simp only [hp] at q ⊢; exact q)
theorem yield_A {k : Nat} (ic : CodeA E k) {o : Nat} {a : List AV} {h : H} {r : AOut} {h' : H} (e : stepYield (ev E k) o a h = some (r, h')) {R : AOut → H → Prop} (q : R r h') : Holds E (.call (.yld o) a h R) := by
  simp only [stepYield] at e
  split at e
  case h_2 => cases e
  rename_i L hL
  split at e
  case isFalse => cases e
  rename_i hl
  split at e
  case h_2 => cases e
  rename_i s1 h1 e1
  split at e
  case h_2 => cases e
  rename_i L1 hL1
  split at e
  case isFalse => cases e
  rename_i hst
  have hend : ∀ {h2 : H} {jump : Option (Option Nat)} {ex : AEx} {s2 : S}, endRoundA h2 o jump = some (r, h') → (match ex with | .normal => jump = none | .ret => jump = some none | .exit id => jump = some (some id) | .panic _ => False) → roundEnd R o ex s2 h2 := by
    intro h2 jump ex s2 e hj
    unfold endRoundA at e
    split at e
    case h_2 => cases e
    rename_i L2 hL2
    refine ⟨L2, hL2, ?_⟩
    cases ex with
    | normal => subst hj; cases e; exact q
    | ret => subst hj; cases e; exact q
    | exit id => subst hj; cases e; exact q
    | panic v => exact hj.elim
  refine .yld hL hl (fun s h => s = s1 ∧ h = h1) (fun _ _ => L1) (ic _ _ _ _ _ _ e1 _ ⟨rfl, rfl, rfl⟩) (fun s h ⟨hs, hh⟩ => by rw [hh]; exact hL1) (fun s h _ => hst) ?_
  rintro s h ⟨hs, hh⟩
  rw [hs, hh]
  split at e
  · rename_i s2 h2 e2; exact ic _ _ _ _ _ _ e2 _ (hend e rfl)
  · rename_i s2 h2 e2; exact ic _ _ _ _ _ _ e2 _ (hend e rfl)
  · rename_i id s2 h2 e2; exact ic _ _ _ _ _ _ e2 _ (hend e rfl)
  · cases e
theorem rec_A {k : Nat} (ic : CodeA E k) (hplain : ∀ g fn, E.R g = some fn → fn.ops.all (fun st => st.op.plain) = true) {f : AV} {h h' : H} (e : stepRec E (ev E k) f h = some h') {R : H → Prop} (q : R h') : Holds E (.rcv f none h R) := by
  unfold stepRec at e
  split at e
  case h_2 => cases e
  rename_i g cs
  split at e
  case h_2 => cases e
  rename_i fn hR
  split at e
  case isFalse => cases e
  rename_i hl
  split at e
  case h_2 => cases e
  rename_i s1 h1 e1
  have hw : ∀ {l : List AStep} {Q : Post} {s : S} {h : H}, l.all (fun st => st.op.plain) = true → WOpsG (CallA (ev E k).call) l Q s h → WOpsG (fun _ _ _ _ => False) l Q s h := by
    intro l
    induction l with
    | nil => intro Q s h _ w; exact w
    | cons st r ih =>
      intro Q s h hp w
      simp only [List.all_cons, Bool.and_eq_true] at hp
      simp only [WOpsG] at w ⊢
      split at w
      · rename_i hw
        rw [if_pos hw]
        rw [WOpG_plain hp.1] at w ⊢
        exact WX.imp w (fun v h w => ih hp.2 w)
      · rename_i hw
        rw [if_neg hw]; exact ih hp.2 w
  refine .recv hR hl (fun s h => s = s1 ∧ h = h1) (hw (hplain g fn hR) (runOps_W e1 ⟨rfl, rfl, rfl⟩)) ?_
  rintro s h ⟨hs, hh⟩
  rw [hs, hh]
  split at e
  · rename_i s2 h2 e2; cases e; exact ic _ _ _ _ _ _ e2 _ ⟨.inl rfl, q⟩
  · rename_i s2 h2 e2; cases e; exact ic _ _ _ _ _ _ e2 _ ⟨.inr rfl, q⟩
  · cases e
theorem def_A {k : Nat} (ic : CodeA E k) (il : CallsA E k) (hplain : ∀ g fn, E.R g = some fn → fn.ops.all (fun st => st.op.plain) = true) {rs : List ARes} {r : AOut} {h' : H} {R : AOut → H → Prop} (q : R r h') :
    ∀ {d : DCode} {s : S} {h : H}, stepDef E (ev E k) rs d s h = some (r, h') → Holds E (.dcode d rs s h R)
  | .seq a d, s, h, e => by
    simp only [stepDef] at e
    split at e
    · rename_i s1 h1 e1
      exact .dseq (fun s h => s = s1 ∧ h = h1) (ic _ _ _ _ _ _ e1 _ ⟨rfl, rfl⟩) (fun s h ⟨hs, hh⟩ => by rw [hs, hh]; exact def_A ic il hplain q e)
    · rename_i s1 h1 e1
      obtain ⟨v, hv, e2⟩ := Option.map_eq_some_iff.1 e
      cases e2
      refine .dseq (fun _ _ => False) (ic _ _ _ _ _ _ e1 _ ?_) (fun s h hf => hf.elim)
      show WX _ _
      rw [hv]; exact q
    · rename_i v s1 h1 e1
      cases e
      exact .dseq (fun _ _ => False) (ic _ _ _ _ _ _ e1 _ q) (fun s h hf => hf.elim)
    · cases e
  | .dfr l f post, s, h, e => by
    simp only [stepDef] at e
    split at e
    case h_2 => cases e
    rename_i s1 h1 e1
    have hfn : ∀ {h2 h3 : H}, stepRec E (ev E k) (f.ev s1) h2 = some h3 → ∃ g cs, f.ev s1 = .func g cs := by
      intro h2 h3 e
      unfold stepRec at e
      split at e
      · rename_i g cs hf; exact ⟨g, cs, hf⟩
      · cases e
    have main : ∀ {ex : AEx} {s2 : S} {h2 : H}, (ev E k).code post s1 h1 = some (ex, s2, h2) → panOf ex = some none → ((stepRec E (ev E k) (f.ev s1) h2).bind fun h => (resultsA rs s2 h).map (AOut.val ·, h)) = some (r, h') → Holds E (.dcode (.dfr l f post) rs s h R) := by
      intro ex s2 h2 e2 hp e
      obtain ⟨h3, e3, e4⟩ := Option.bind_eq_some_iff.1 e
      obtain ⟨v, hv, e5⟩ := Option.map_eq_some_iff.1 e4
      cases e5
      refine .dfr _ (callsA_C il) (fun s h => s = s1 ∧ h = h1) (runOps_W e1 ⟨rfl, rfl, rfl⟩) (fun s h ⟨hs, _⟩ => by rw [hs]; exact hfn e3) (fun _ _ ex' s' h' => ex' = ex ∧ s' = s2 ∧ h' = h2) (fun s h ⟨hs, hh⟩ => by rw [hs, hh]; exact ic _ _ _ _ _ _ e2 _ ⟨rfl, rfl, rfl⟩) ?_ ?_
      · rintro s h _ ex' s' h' ⟨rfl, _, _⟩; rw [hp]; rfl
      · rintro s h ⟨hs, hh⟩ ex' s' h'' u ⟨rfl, rfl, rfl⟩ hu
        rw [hp] at hu; cases hu
        rw [hs]
        refine rec_A ic hplain e3 ?_
        show WX _ _
        rw [hv]; exact q
    split at e
    · rename_i s2 h2 e2; exact main e2 rfl e
    · rename_i s2 h2 e2; exact main e2 rfl e
    · cases e
theorem calls_A {k : Nat} (ic : CodeA E k) (il : CallsA E k) (hplain : ∀ g fn, E.R g = some fn → fn.ops.all (fun st => st.op.plain) = true) : CallsA E (k + 1) := by
  intro f a h r h' e R q
  change stepCall E (ev E k) f a h = some (r, h') at e
  cases f with
  | yld o => exact yield_A ic e q
  | fn f =>
    simp only [stepCall] at e
    split at e
    · rename_i g hg; exact .ov hg e q
    · rename_i hg
      split at e
      · rename_i fn hfn
        unfold stepFn at e
        split at e
        case isFalse => cases e
        rename_i hl
        split at e
        · rename_i s1 h1 e1
          obtain ⟨v, hv, e2⟩ := Option.map_eq_some_iff.1 e
          cases e2
          refine .fn hg hfn hl (ic _ _ _ _ _ _ e1 _ ?_)
          show WX _ _
          rw [hv]; exact q
        · rename_i s1 h1 e1
          obtain ⟨v, hv, e2⟩ := Option.map_eq_some_iff.1 e
          cases e2
          refine .fn hg hfn hl (ic _ _ _ _ _ _ e1 _ ?_)
          show WX _ _
          rw [hv]; exact q
        · rename_i v s1 h1 e1
          cases e
          exact .fn hg hfn hl (ic _ _ _ _ _ _ e1 _ q)
        · cases e
      · split at e
        case h_2 => cases e
        rename_i fn hfn
        split at e
        case isFalse => cases e
        rename_i hl
        exact .fnD hg hfn hl (def_A ic il hplain q e)
theorem ev_A (hplain : ∀ g fn, E.R g = some fn → fn.ops.all (fun st => st.op.plain) = true) (k : Nat) : CodeA E k ∧ CallsA E k := by
  induction k with
  | zero =>
    constructor
    · intro c s h ex s' h' e; cases e
    · intro f a h r h' e; cases e
  | succ k ih => exact ⟨code_A ih.1 ih.2, calls_A ih.1 ih.2 hplain⟩
end
/-- what the executable interpreter answers for a call, the model answers -/
theorem sound_call {B0 : Nat} {P : Program} {E : Env} (hm : P.follows .mixedOrders = true) (hT : TableOK P E) (hO : OvOK P B0 E.ov) (hplain : ∀ g fn, E.R g = some fn → fn.ops.all (fun st => st.op.plain) = true)
    {k f : Nat} {args : List AV} {h h' : H} {r : AOut} (he : (ev E k).call (.fn f) args h = some (r, h')) : FnOK P B0 f args h (fun r1 h1 => r1 = r ∧ h1 = h') :=
  holds_ok hm hT hO ((ev_A hplain k).2 (.fn f) args h r h' he _ ⟨rfl, rfl⟩)
end Go.Proofs.YtlbaphapjclkdaaGreatDoor.Ev

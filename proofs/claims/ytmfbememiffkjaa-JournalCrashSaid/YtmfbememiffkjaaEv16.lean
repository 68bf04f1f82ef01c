/- Rules for reasoning about the interpreter without its fuel. -/
import Derived.Test.YtmfbememiffkjaaEv15
namespace Go.Proofs.Ytmfbememiffkjaa.Ev
set_option linter.unusedVariables false
set_option linter.unusedSimpArgs false

section
variable {E : Env}

theorem WC.mono {c : ACode} {Q Q' : Post} {s : S} {h : H} (w : WC E c Q s h) (hq : ∀ ex s h, Q ex s h → Q' ex s h) : WC E c Q' s h := by
  obtain ⟨k, ex, s', h', e, q⟩ := w; exact ⟨k, ex, s', h', e, hq _ _ _ q⟩
theorem WCall.mono {f : Nat} {args : List AV} {h : H} {R R' : AOut → H → Prop} (w : WCall E f args h R) (hr : ∀ r h, R r h → R' r h) : WCall E f args h R' := by
  obtain ⟨k, r, h', e, q⟩ := w; exact ⟨k, r, h', e, hr _ _ q⟩

theorem WYield.mono {o : Nat} {args : List AV} {h : H} {R R' : AOut → H → Prop} (w : WYield E o args h R) (hr : ∀ r h, R r h → R' r h) : WYield E o args h R' := by
  obtain ⟨k, r, h', e, q⟩ := w; exact ⟨k, r, h', e, hr _ _ q⟩

/-- what an answer makes of what is next -/
def WX (x : Option (AV × H)) (K : AV → H → Prop) : Prop := match x with | some (v, h) => K v h | none => False
@[go_sem] theorem WX_some (v : AV) (h : H) (K : AV → H → Prop) : WX (some (v, h)) K = K v h := id rfl
@[go_sem] theorem WX_none (K : AV → H → Prop) : WX none K = False := id rfl
@[go_sem] theorem WX_map (x : Option AV) (h : H) (K : AV → H → Prop) : WX (x.map (·, h)) K = WX (x.map (·, h)) K := id rfl

/-- a call, or another operation -/
def WOp (E : Env) (op : AOp) (s : S) (h : H) (K : AV → H → Prop) (Pn : AV → H → Prop) : Prop :=
  match op with
  | .call f args => match f.ev s with
    | .func f cs => WCall E f (args.map (·.ev s) ++ cs) h fun r h => match r with | .val v => K v h | .panic v => Pn v h
    | .yield o => WYield E o (args.map (·.ev s)) h fun r h => match r with | .val v => K v h | .panic v => Pn v h
    | _ => False
  | .panic x => match x.ev s with | .iface t v => Pn (.iface t v) h | _ => False
  | op => WX (exec op s h) K
def WOps (E : Env) : List AStep → Post → S → H → Prop
  | [], Q, s, h => Q .normal s h
  | st :: r, Q, s, h =>
    if wanted st.guard s = true then WOp E st.op s h (fun v h => WOps E r Q (upd s st.dst v) h) (fun v h => Q (.panic v) s h)
    else WOps E r Q (upd s st.dst undefA) h
def WDraw (E : Env) : List DStep → List Pend → (S → H → Prop) → S → H → Prop
  | [], pd, Q, s, h => recheck h pd = true ∧ Q s h
  | d :: r, pd, Q, s, h =>
    if d.st.op.kind = .eff then
      recheck h pd = true ∧
      if wanted d.st.guard s = true then WOp E d.st.op s h (fun v h => WDraw E r (pd.filter fun p => !d.bef.testBit p.i) Q (upd s d.st.dst v) h) (fun _ _ => False)
      else WDraw E r (pd.filter fun p => !d.bef.testBit p.i) Q (upd s d.st.dst undefA) h
    else if wanted d.st.guard s = true then
      WX (exec d.st.op s h) fun v h' => WDraw E r (if d.st.op.kind = .read then ⟨d.i, d.st.op, s, v⟩ :: pd else pd) Q (upd s d.st.dst v) h'
    else WDraw E r pd Q (upd s d.st.dst undefA) h

/-- the interpreter at so much fuel -/
abbrev Env.code (E : Env) (k : Nat) := (ev E.T E.ov k).code
abbrev Env.call (E : Env) (k : Nat) := (ev E.T E.ov k).call
theorem up_code {k j : Nat} (hkj : k ≤ j) {c : ACode} {s : S} {h : H} {x : AEx × S × H} (e : E.code k c s h = some x) : E.code j c s h = some x := (ev_mono hkj).1 _ _ _ _ e
theorem up_call {k j : Nat} (hkj : k ≤ j) : CallLe (E.call k) (E.call j) := (ev_mono hkj).2

theorem WOp_plain {op : AOp} (hp : op.plain = true) (s : S) (h : H) (K Pn : AV → H → Prop) : WOp E op s h K Pn = WX (exec op s h) K := by
  cases op <;> first | rfl | cases hp

theorem WOps_run : ∀ {l : List AStep} {Q : Post} {s : S} {h : H}, WOps E l Q s h → ∃ k ex s' h', runOps (E.call k) l s h = some (ex, s', h') ∧ Q ex s' h'
  | [], Q, s, h, w => ⟨0, .normal, s, h, rfl, w⟩
  | st :: r, Q, s, h, w => by
    simp only [WOps] at w
    simp only [runOps]
    split at w
    · rename_i hw
      simp only [if_pos hw]
      by_cases hp : st.op.plain = true
      · rw [WOp_plain hp] at w
        unfold WX at w
        split at w
        case h_2 => exact w.elim
        rename_i v h1 hx
        obtain ⟨k, ex, s', h', e, q⟩ := WOps_run w
        refine ⟨k, ex, s', h', ?_, q⟩
        revert hx hp
        cases st.op <;> intro hp hx <;> first | (cases hp; done) | (simp only [hx]; exact e)
      · cases hop : st.op <;> rw [hop] at hp <;> simp only [AOp.plain, not_true_eq_false] at hp
        case call f args =>
          rw [hop] at w
          simp only [WOp] at w
          simp only
          split at w
          case h_3 => exact w.elim
          case h_1 =>
            rename_i fn cs hf
            obtain ⟨k, x, h1, e1, w⟩ := w
            cases x with
            | val v =>
              obtain ⟨j, ex, s', h', e, q⟩ := WOps_run w
              refine ⟨max k j, ex, s', h', ?_, q⟩
              simp only [hf, up_call (Nat.le_max_left k j) _ _ _ _ e1]
              exact runOps_mono (up_call (Nat.le_max_right k j)) e
            | panic v =>
              refine ⟨k, .panic v, s, h1, ?_, w⟩
              simp only [hf, show E.call k (.fn fn) (args.map (·.ev s) ++ cs) h = some (.panic v, h1) from e1]
          case h_2 =>
            rename_i yo hf
            obtain ⟨k, x, h1, e1, w⟩ := w
            cases x with
            | val v =>
              obtain ⟨j, ex, s', h', e, q⟩ := WOps_run w
              refine ⟨max k j, ex, s', h', ?_, q⟩
              simp only [hf, up_call (Nat.le_max_left k j) _ _ _ _ e1]
              exact runOps_mono (up_call (Nat.le_max_right k j)) e
            | panic v =>
              refine ⟨k, .panic v, s, h1, ?_, w⟩
              simp only [hf, show E.call k (.yld yo) (args.map (·.ev s)) h = some (.panic v, h1) from e1]
        case panic x =>
          rw [hop] at w
          simp only [WOp] at w
          simp only
          split at w
          · rename_i t v hx; exact ⟨0, _, _, _, by simp only [hx], w⟩
          · exact w.elim
    · rename_i hw
      simp only [if_neg hw]
      exact WOps_run w

theorem WDraw_run : ∀ {l : List DStep} {pd : List Pend} {Q : S → H → Prop} {s : S} {h : H}, WDraw E l pd Q s h → ∃ k s' h', runDraw (E.call k) l pd s h = some (s', h') ∧ Q s' h'
  | [], pd, Q, s, h, w => ⟨0, s, h, by simp only [runDraw, if_pos w.1], w.2⟩
  | d :: r, pd, Q, s, h, w => by
    simp only [WDraw] at w
    simp only [runDraw]
    split at w
    · rename_i hk
      simp only [if_pos hk]
      obtain ⟨hc, w⟩ := w
      simp only [if_pos hc]
      split at w
      · rename_i hw
        simp only [if_pos hw]
        by_cases hp : d.st.op.plain = true
        · rw [WOp_plain hp] at w
          unfold WX at w
          split at w
          case h_2 => exact w.elim
          rename_i v h1 hx
          obtain ⟨k, s', h', e, q⟩ := WDraw_run w
          refine ⟨k, s', h', ?_, q⟩
          have : runEff (E.call k) d.st.op s h = some (v, h1) := by
            revert hx hp
            cases d.st.op <;> intro hp hx <;> first | (cases hp; done) | exact hx
          rw [this]; exact e
        · cases hop : d.st.op <;> rw [hop] at hp <;> simp only [AOp.plain, not_true_eq_false] at hp
          case call f args =>
            rw [hop] at w
            simp only [WOp] at w
            have go : ∀ {fn : Fn} {vs : List AV}, (∀ k, runEff (E.call k) (.call f args) s h = match E.call k fn vs h with | some (.val v, h) => some (v, h) | _ => none) →
                (∃ k x h1, (ev E.T E.ov k).call fn vs h = some (x, h1) ∧ (match x with | .val v => WDraw E r (pd.filter fun p => !d.bef.testBit p.i) Q (upd s d.st.dst v) h1 | .panic v => False)) →
                ∃ k s' h', (match runEff (E.call k) (.call f args) s h with | some (v, h) => runDraw (E.call k) r (pd.filter fun p => !d.bef.testBit p.i) (upd s d.st.dst v) h | none => none) = some (s', h') ∧ Q s' h' := by
              intro fn vs hf w
              obtain ⟨k, x, h1, e1, w⟩ := w
              cases x with
              | val v =>
                obtain ⟨j, s', h', e, q⟩ := WDraw_run w
                refine ⟨max k j, s', h', ?_, q⟩
                have : runEff (E.call (max k j)) (.call f args) s h = some (v, h1) := by
                  rw [hf, up_call (Nat.le_max_left k j) _ _ _ _ e1]
                rw [this]
                exact runDraw_mono (up_call (Nat.le_max_right k j)) e
              | panic v => exact w.elim
            split at w
            case h_3 => exact w.elim
            case h_1 => rename_i fn cs hf; exact go (fun k => by simp only [runEff, hf]; rfl) w
            case h_2 => rename_i yo hf; exact go (fun k => by simp only [runEff, hf]; rfl) w
          case panic x =>
            rw [hop] at w
            simp only [WOp] at w
            split at w <;> exact w.elim
      · rename_i hw
        simp only [if_neg hw]
        exact WDraw_run w
    · rename_i hk
      simp only [if_neg hk]
      split at w
      · rename_i hw
        simp only [if_pos hw]
        unfold WX at w
        split at w
        case h_2 => exact w.elim
        rename_i v h1 hx
        simp only [hx]
        exact WDraw_run w
      · rename_i hw
        simp only [if_neg hw]
        exact WDraw_run w

theorem WC_skip {Q : Post} {s : S} {h : H} (w : Q .normal s h) : WC E .skip Q s h := ⟨1, _, _, _, rfl, w⟩
theorem WC_exit {id : Nat} {Q : Post} {s : S} {h : H} (w : Q (.exit id) s h) : WC E (.exit id) Q s h := ⟨1, _, _, _, rfl, w⟩
theorem WC_ret {Q : Post} {s : S} {h : H} (w : Q .ret s h) : WC E .ret Q s h := ⟨1, _, _, _, rfl, w⟩
theorem WC_ops {l : List AStep} {Q : Post} {s : S} {h : H} (w : WOps E l Q s h) : WC E (.ops l) Q s h := by
  obtain ⟨k, ex, s', h', e, q⟩ := WOps_run w; exact ⟨k + 1, ex, s', h', e, q⟩
theorem WC_draw {l : List DStep} {Q : Post} {s : S} {h : H} (w : WDraw E l [] (Q .normal) s h) : WC E (.draw l) Q s h := by
  obtain ⟨k, s', h', e, q⟩ := WDraw_run w
  refine ⟨k + 1, .normal, s', h', ?_, q⟩
  show (runDraw (E.call k) l [] s h).map _ = _
  rw [e]; rfl
/-- what stands behind code -/
def andThen (K : S → H → Prop) (Q : Post) : Post := fun ex s h => match ex with | .normal => K s h | ex => Q ex s h
theorem WC_seq {a b : ACode} {Q : Post} {s : S} {h : H} (w : WC E a (andThen (WC E b Q) Q) s h) : WC E (.seq a b) Q s h := by
  obtain ⟨k, ex, s1, h1, e, q⟩ := w
  cases ex with
  | normal =>
    obtain ⟨j, ex, s2, h2, e2, q2⟩ := q
    refine ⟨max k j + 1, ex, s2, h2, ?_, q2⟩
    show (match E.code (max k j) a s h with | some (.normal, s, h) => E.code (max k j) b s h | x => x) = _
    rw [up_code (Nat.le_max_left k j) e]
    exact up_code (Nat.le_max_right k j) e2
  | _ =>
    refine ⟨k + 1, _, s1, h1, ?_, q⟩
    show (match E.code k a s h with | some (.normal, s, h) => E.code k b s h | x => x) = _
    rw [show E.code k a s h = _ from e]
theorem WC_cond {c : AOpd} {t : Bool} {a b : ACode} {Q : Post} {s : S} {h : H} (hc : c.ev s = .bool t) (w : WC E (if t then a else b) Q s h) : WC E (.cond c a b) Q s h := by
  obtain ⟨k, ex, s1, h1, e, q⟩ := w
  refine ⟨k + 1, ex, s1, h1, ?_, q⟩
  show (match c.ev s with | .bool t => E.code k (if t then a else b) s h | _ => none) = _
  rw [hc]; exact e
def atExit (id : Nat) (Q : Post) : Post := fun ex s h => match ex with | .exit id' => Q (if id' = id then .normal else .exit id') s h | ex => Q ex s h
theorem WC_block {id : Nat} {c : ACode} {Q : Post} {s : S} {h : H} (w : WC E c (atExit id Q) s h) : WC E (.block id c) Q s h := by
  obtain ⟨k, ex, s1, h1, e, q⟩ := w
  cases ex with
  | exit id' =>
    refine ⟨k + 1, _, s1, h1, ?_, q⟩
    show (match E.code k c s h with | some (.exit id', s, h) => some (if id' = id then AEx.normal else AEx.exit id', s, h) | x => x) = _
    rw [show E.code k c s h = _ from e]
  | _ =>
    refine ⟨k + 1, _, s1, h1, ?_, q⟩
    show (match E.code k c s h with | some (.exit id', s, h) => some (if id' = id then AEx.normal else AEx.exit id', s, h) | x => x) = _
    rw [show E.code k c s h = _ from e]
theorem WC_loop {c : ACode} {Q : Post} (I : Nat → S → H → Prop) (step : ∀ n s h, I n s h → WC E c (andThen (fun s h => ∃ m, m < n ∧ I m s h) Q) s h) : ∀ (n : Nat) {s : S} {h : H}, I n s h → WC E (.loop c) Q s h := by
  intro n
  induction n using Nat.strongRecOn with
  | _ n ih =>
    intro s h hI
    obtain ⟨k, ex, s1, h1, e, q⟩ := step n s h hI
    cases ex with
    | normal =>
      obtain ⟨m, hm, hI⟩ := q
      obtain ⟨j, ex, s2, h2, e2, q2⟩ := ih m hm hI
      refine ⟨max k j + 1, ex, s2, h2, ?_, q2⟩
      show (match E.code (max k j) c s h with | some (.normal, s, h) => E.code (max k j) (.loop c) s h | x => x) = _
      rw [up_code (Nat.le_max_left k j) e]
      exact up_code (Nat.le_max_right k j) e2
    | _ =>
      refine ⟨k + 1, _, s1, h1, ?_, q⟩
      show (match E.code k c s h with | some (.normal, s, h) => E.code k (.loop c) s h | x => x) = _
      rw [show E.code k c s h = _ from e]

/-- a loop's end -/
def loopEnd (Q : Post) (s : S) (o : Nat) : AOut → H → Prop := fun r h => match r with
  | .val _ => ∃ L, h.get o = some (.loop L) ∧ L.st ≠ 1 ∧ (match L.pend with
    | none => Q .normal s (h.setLoop o { L with st := 3 })
    | some none => Q .ret s (h.setLoop o { L with st := 3 })
    | some (some id) => Q (.exit id) s (h.setLoop o { L with st := 3 }))
  | .panic _ => False
theorem WC_range {nt : Nat} {f : AOpd} {ps : List Nat} {assign body : ACode} {Q : Post} {s : S} {h : H} {g : Nat} {cs : List AV} (hf : f.ev s = .func g cs)
    (w : WCall E g (.yield h.n :: cs) (h.push (.loop ⟨0, none, nt, s, ps, assign, body⟩)) (loopEnd Q s h.n)) : WC E (.range nt f ps assign body) Q s h := by
  obtain ⟨k, r, h1, e, q⟩ := w
  cases r with
  | panic v => exact q.elim
  | val v =>
    obtain ⟨L, hL, hst, q⟩ := q
    have key : E.code (k + 1) (.range nt f ps assign body) s h = endLoopA s h1 h.n := by
      show stepCode (ev E.T E.ov k) (.range nt f ps assign body) s h = _
      simp only [stepCode, hf]
      rw [show (ev E.T E.ov k).call (.fn g) ([.yield h.n] ++ cs) (h.push (.loop ⟨0, none, nt, s, ps, assign, body⟩)) = _ from e]
    unfold endLoopA at key
    simp only [hL, if_neg hst] at key
    generalize L.pend = p at key q
    cases p with
    | none => exact ⟨k + 1, _, _, _, key, q⟩
    | some j => cases j with
      | none => exact ⟨k + 1, _, _, _, key, q⟩
      | some id => exact ⟨k + 1, _, _, _, key, q⟩
/-- a round's end -/
def roundEnd (R : AOut → H → Prop) (o : Nat) : Post := fun ex s h => ∃ L, h.get o = some (.loop L) ∧ (match ex with
  | .normal => R (.val (.bool true)) (h.setLoop o { L with st := 0, pend := none })
  | .ret => R (.val (.bool false)) (h.setLoop o { L with st := 2, pend := some none })
  | .exit id => R (.val (.bool false)) (h.setLoop o { L with st := 2, pend := some (some id) })
  | .panic _ => False)
theorem WYield_round {o : Nat} {args : List AV} {h : H} {R : AOut → H → Prop} {L : LoopRec} (hL : h.get o = some (.loop L)) (hl : args.length = L.ps.length)
    (w : WC E L.assign (fun ex s1 h1 => ex = .normal ∧ ∃ L1, h1.get o = some (.loop L1) ∧ L1.st = 0 ∧ WC E L.body (roundEnd R o) s1 (h1.setLoop o { L1 with st := 1 })) (setPs L.s L.ps args) h) : WYield E o args h R := by
  obtain ⟨k, ex, s1, h1, e, rfl, L1, hL1, hst, j, ex, s2, h2, e2, L2, hL2, q⟩ := w
  have key : E.call (max k j + 1) (.yld o) args h = (match ex with
      | .normal => endRoundA h2 o none
      | .ret => endRoundA h2 o (some none)
      | .exit id => endRoundA h2 o (some (some id))
      | _ => none) := by
    show stepCall E.T E.ov (ev E.T E.ov (max k j)) (.yld o) args h = _
    simp only [stepCall, stepYield, hL, if_pos hl]
    rw [show (ev E.T E.ov (max k j)).code L.assign (setPs L.s L.ps args) h = _ from up_code (Nat.le_max_left k j) e]
    simp only [hL1, if_pos hst]
    rw [show (ev E.T E.ov (max k j)).code L.body s1 (h1.setLoop o { L1 with st := 1 }) = _ from up_code (Nat.le_max_right k j) e2]
    cases ex <;> rfl
  cases ex with
  | panic v => exact q.elim
  | _ =>
    simp only [endRoundA, hL2] at key
    exact ⟨_, _, _, key, q⟩

/-- what a body leaves behind -/
def atEnd (rs : List ARes) (R : AOut → H → Prop) : Post := fun ex s h => match ex with
  | .normal | .ret => WX ((resultsA rs s h).map (·, h)) fun v h => R (.val v) h
  | .panic v => R (.panic v) h
  | .exit _ => False
theorem WCall_fn {f : Nat} {fn : AFunc} {args : List AV} {h : H} {R : AOut → H → Prop} (ho : E.ov f = none) (hT : E.T f = some fn) (hl : args.length ≤ fn.ntmps) (w : WC E fn.body (atEnd fn.results R) (enterS args) h) : WCall E f args h R := by
  obtain ⟨k, ex, s1, h1, e, q⟩ := w
  have key : ∀ x, (match E.code k fn.body (enterS args) h with
      | some (.normal, s, h) => (resultsA fn.results s h).map (AOut.val ·, h)
      | some (.ret, s, h) => (resultsA fn.results s h).map (AOut.val ·, h)
      | some (.panic v, _, h) => some (.panic v, h)
      | _ => none) = x → E.call (k + 1) (.fn f) args h = x := by
    intro x hx
    show stepCall E.T E.ov (ev E.T E.ov k) (.fn f) args h = x
    simp only [stepCall, ho, hT, if_pos hl]
    exact hx
  rw [show E.code k fn.body (enterS args) h = _ from e] at key
  cases ex with
  | normal =>
    simp only [atEnd] at q
    cases hr : resultsA fn.results s1 h1 with
    | none => rw [hr] at q; exact q.elim
    | some v => rw [hr] at q; exact ⟨k + 1, .val v, h1, key _ (by simp only [hr]; rfl), q⟩
  | ret =>
    simp only [atEnd] at q
    cases hr : resultsA fn.results s1 h1 with
    | none => rw [hr] at q; exact q.elim
    | some v => rw [hr] at q; exact ⟨k + 1, .val v, h1, key _ (by simp only [hr]; rfl), q⟩
  | panic v => exact ⟨k + 1, .panic v, h1, key _ rfl, q⟩
  | exit id => exact q.elim
theorem WCall_ov {f : Nat} {g : List AV → H → Option (AOut × H)} {args : List AV} {h h' : H} {r : AOut} {R : AOut → H → Prop} (ho : E.ov f = some g) (hg : g args h = some (r, h')) (hr : R r h') : WCall E f args h R := by
  refine ⟨1, r, h', ?_, hr⟩
  show stepCall E.T E.ov (ev E.T E.ov 0) (.fn f) args h = _
  simp only [stepCall, ho, hg]
end
end Go.Proofs.Ytmfbememiffkjaa.Ev

/- What the executable interpreter answers, code and calls come to. -/
import Derived.Test.YtgjcdpanabjcmaaGreatDoorEvH
namespace Go.Proofs.YtgjcdpanabjcmaaGreatDoor.Ev
set_option linter.unusedVariables false
set_option linter.unusedSimpArgs false

/-- calls that are answered -/
def CallA (call : Fn → List AV → H → Option (AOut × H)) : CallP := fun f a h R => ∃ r h', call f a h = some (r, h') ∧ R r h'
section
variable {call : Fn → List AV → H → Option (AOut × H)}
theorem runOps_W : ∀ {l : List AStep} {s : S} {h : H} {ex : AEx} {s' : S} {h' : H}, runOps call l s h = some (ex, s', h') → ∀ {Q : Post}, Q ex s' h' → WOpsG (CallA call) l Q s h
  | [], s, h, ex, s', h', e, Q, q => by
    simp only [runOps, Option.some.injEq, Prod.mk.injEq] at e
    obtain ⟨rfl, rfl, rfl⟩ := e
    exact q
  | st :: r, s, h, ex, s', h', e, Q, q => by
    simp only [runOps] at e
    simp only [WOpsG]
    split at e
    · rename_i hw
      rw [if_pos hw]
      by_cases hpl : st.op.plain = true
      · rw [WOpG_plain hpl]
        have e' : (match exec st.op s h with | some (v, h) => runOps call r (upd s st.dst v) h | none => none) = some (ex, s', h') := by
          revert e hpl
          cases st.op <;> intro e hpl <;> first | exact e | cases hpl
        split at e'
        · rename_i v h1 hx
          rw [hx]
          exact runOps_W e' q
        · cases e'
      · cases hop : st.op <;> rw [hop] at hpl e <;> simp only [AOp.plain, not_true_eq_false] at hpl
        case call f args =>
          simp only at e
          simp only [WOpG]
          generalize f.ev s = fv at e
          have main : ∀ {fn : Fn} {vs : List AV}, (match call fn vs h with | some (.val v, h) => runOps call r (upd s st.dst v) h | some (.panic v, h) => some (.panic v, s, h) | none => none) = some (ex, s', h') →
              CallA call fn vs h (onOut (fun v h => WOpsG (CallA call) r Q (upd s st.dst v) h) (fun v h => Q (.panic v) s h)) := by
            intro fn vs e
            split at e
            · rename_i v h1 hc; exact ⟨_, _, hc, runOps_W e q⟩
            · rename_i v h1 hc; cases e; exact ⟨_, _, hc, q⟩
            · cases e
          cases fv <;> simp only at e <;> (try (cases e; done))
          all_goals exact main e
        case panic x =>
          simp only at e
          simp only [WOpG]
          split at e
          · rename_i t v hx; cases e; rw [hx]; exact q
          · cases e
        case nextM x => simp only [exec] at e; cases e
    · rename_i hw
      rw [if_neg hw]
      exact runOps_W e q
theorem runEff_W {op : AOp} {s : S} {h h' : H} {v : AV} (e : runEff call op s h = some (v, h')) {K Pn : AV → H → Prop} (k : K v h') : WOpG (CallA call) op s h K Pn := by
  by_cases hpl : op.plain = true
  · rw [WOpG_plain hpl]
    have e' : exec op s h = some (v, h') := by
      revert e hpl
      cases op <;> intro e hpl <;> first | exact e | cases hpl
    rw [e']; exact k
  · cases op <;> simp only [AOp.plain, not_true_eq_false] at hpl
    case call f args =>
      simp only [runEff] at e
      simp only [WOpG]
      generalize f.ev s = fv at e
      have main : ∀ {fn : Fn} {vs : List AV}, (match call fn vs h with | some (.val v, h) => some (v, h) | _ => none) = some (v, h') → CallA call fn vs h (onOut K Pn) := by
        intro fn vs e
        split at e
        · rename_i v h1 hc; cases e; exact ⟨_, _, hc, k⟩
        · cases e
      cases fv <;> simp only at e <;> (try (cases e; done))
      all_goals exact main e
    case panic x => simp only [runEff] at e; cases e
    case nextM x => simp only [runEff, exec] at e; cases e
theorem runDraw_W {Pn : AV → H → Prop} : ∀ {l : List DStep} {pd : List Pend} {s : S} {h : H} {s' : S} {h' : H}, runDraw call l pd s h = some (s', h') → ∀ {Q : S → H → Prop}, Q s' h' → WDrawG (CallA call) Pn l pd Q s h
  | [], pd, s, h, s', h', e, Q, q => by
    simp only [runDraw] at e
    split at e
    · rename_i hc; cases e; exact ⟨hc, q⟩
    · cases e
  | d :: r, pd, s, h, s', h', e, Q, q => by
    simp only [runDraw] at e
    simp only [WDrawG]
    split at e
    · rename_i hk
      rw [if_pos hk]
      split at e
      case isFalse => cases e
      rename_i hc
      refine ⟨hc, ?_⟩
      split at e
      · rename_i hw
        rw [if_pos hw]
        split at e
        · rename_i v h1 hx; exact runEff_W hx (runDraw_W e q)
        · cases e
      · rename_i hw
        rw [if_neg hw]; exact runDraw_W e q
    · rename_i hk
      rw [if_neg hk]
      split at e
      · rename_i hw
        rw [if_pos hw]
        split at e
        · rename_i v h1 hx; rw [hx]; exact runDraw_W e q
        · cases e
      · rename_i hw
        rw [if_neg hw]; exact runDraw_W e q
end

section
variable {E : Env}
def CodeA (E : Env) (k : Nat) : Prop := ∀ c s h ex s' h', (ev E k).code c s h = some (ex, s', h') → ∀ Q : Post, Q ex s' h' → Holds E (.code c s h Q)
def CallsA (E : Env) (k : Nat) : Prop := ∀ f a h r h', (ev E k).call f a h = some (r, h') → ∀ R : AOut → H → Prop, R r h' → Holds E (.call f a h R)
theorem callsA_C {k : Nat} (il : CallsA E k) : ∀ f a h R, CallA (ev E k).call f a h R → Holds E (.call f a h R) := fun f a h R ⟨r, h', e, q⟩ => il f a h r h' e R q
theorem code_A {k : Nat} (ic : CodeA E k) (il : CallsA E k) : CodeA E (k + 1) := by
  intro c s h ex s' h' e Q q
  change stepCode E (ev E k) c s h = some (ex, s', h') at e
  cases c <;> simp only [stepCode] at e
  case skip => cases e; exact .skip q
  case exit id => cases e; exact .exit q
  case ret => cases e; exact .ret q
  case stuck => cases e
  case scope c => exact .scope (ic _ _ _ _ _ _ e _ q)
  case ops l => exact .ops _ (callsA_C il) (runOps_W e q)
  case draw l =>
    obtain ⟨p, h1, h2⟩ := Option.map_eq_some_iff.1 e
    cases h2
    exact .draw _ (callsA_C il) (runDraw_W h1 q)
  case seq a b =>
    split at e
    · rename_i s1 h1 e1
      exact .seq (fun s h => s = s1 ∧ h = h1) (ic _ _ _ _ _ _ e1 _ ⟨rfl, rfl⟩) (fun s h ⟨hs, hh⟩ => by rw [hs, hh]; exact ic _ _ _ _ _ _ e _ q)
    · rename_i hne
      refine .seq (fun _ _ => False) (ic _ _ _ _ _ _ e _ ?_) (fun s h hf => hf.elim)
      cases ex with
      | normal => exact absurd e (hne _ _)
      | _ => exact q
  case cond c a b =>
    generalize hc : c.ev s = cv at e
    cases cv <;> simp only at e <;> (try (cases e; done))
    exact .cond hc (ic _ _ _ _ _ _ e _ q)
  case block id c =>
    split at e
    · rename_i id' s1 h1 e1
      cases e
      exact .block (ic _ _ _ _ _ _ e1 _ q)
    · rename_i hne
      refine .block (ic _ _ _ _ _ _ e _ ?_)
      cases ex with
      | exit id' => exact absurd e (hne _ _ _)
      | _ => exact q
  case loop c =>
    split at e
    · rename_i s1 h1 e1
      exact .loop (fun s h => s = s1 ∧ h = h1) (ic _ _ _ _ _ _ e1 _ ⟨rfl, rfl⟩) (fun s h ⟨hs, hh⟩ => by rw [hs, hh]; exact ic _ _ _ _ _ _ e _ q)
    · rename_i hne
      refine .loop (fun _ _ => False) (ic _ _ _ _ _ _ e _ ?_) (fun s h hf => hf.elim)
      cases ex with
      | normal => exact absurd e (hne _ _)
      | _ => exact q
  case range nt f ps assign body =>
    generalize hf : f.ev s = fv at e
    cases fv <;> simp only at e <;> (try (cases e; done))
    split at e
    case isFalse => cases e
    rename_i hg
    split at e
    case h_2 => cases e
    rename_i v h1 e1
    refine .range hf hg (il _ _ _ _ _ e1 _ ?_)
    unfold endLoopA at e
    split at e
    case h_2 => cases e
    rename_i L hL
    split at e
    case isTrue => cases e
    rename_i hst
    refine ⟨L, hL, hst, ?_⟩
    split at e <;> cases e <;> (rename_i hp; simp only [hp] at q ⊢; exact q)
theorem yield_A {k : Nat} (ic : CodeA E k) {o : Nat} {a : List AV} {h : H} {r : AOut} {h' : H} (e : stepYield (ev E k) o a h = some (r, h')) {R : AOut → H → Prop} (q : R r h') : Holds E (.call (.yld o) a h R) := by
  simp only [stepYield] at e
  split at e
  case h_2 => cases e
  rename_i L hL
  split at e
  case isFalse => cases e
  rename_i hl
  split at e
  case h_2 => cases e
  rename_i s1 h1 e1
  split at e
  case h_2 => cases e
  rename_i L1 hL1
  split at e
  case isFalse => cases e
  rename_i hst
  have hend : ∀ {h2 : H} {jump : Option (Option Nat)} {ex : AEx} {s2 : S}, endRoundA h2 o jump = some (r, h') → (match ex with | .normal => jump = none | .ret => jump = some none | .exit id => jump = some (some id) | .panic _ => False) → roundEnd R o ex s2 h2 := by
    intro h2 jump ex s2 e hj
    unfold endRoundA at e
    split at e
    case h_2 => cases e
    rename_i L2 hL2
    refine ⟨L2, hL2, ?_⟩
    cases ex with
    | normal => subst hj; cases e; exact q
    | ret => subst hj; cases e; exact q
    | exit id => subst hj; cases e; exact q
    | panic v => exact hj.elim
  refine .yld hL hl (fun s h => s = s1 ∧ h = h1) (fun _ _ => L1) (ic _ _ _ _ _ _ e1 _ ⟨rfl, rfl, rfl⟩) (fun s h ⟨hs, hh⟩ => by rw [hh]; exact hL1) (fun s h _ => hst) ?_
  rintro s h ⟨hs, hh⟩
  rw [hs, hh]
  split at e
  · rename_i s2 h2 e2; exact ic _ _ _ _ _ _ e2 _ (hend e rfl)
  · rename_i s2 h2 e2; exact ic _ _ _ _ _ _ e2 _ (hend e rfl)
  · rename_i id s2 h2 e2; exact ic _ _ _ _ _ _ e2 _ (hend e rfl)
  · cases e
theorem rec_A {k : Nat} (ic : CodeA E k) (hplain : ∀ g fn, E.R g = some fn → fn.ops.all (fun st => st.op.plain) = true) {f : AV} {h h' : H} (e : stepRec E (ev E k) f h = some h') {R : H → Prop} (q : R h') : Holds E (.rcv f none h R) := by
  unfold stepRec at e
  split at e
  case h_2 => cases e
  rename_i g cs
  split at e
  case h_2 => cases e
  rename_i fn hR
  split at e
  case isFalse => cases e
  rename_i hl
  split at e
  case h_2 => cases e
  rename_i s1 h1 e1
  have hw : ∀ {l : List AStep} {Q : Post} {s : S} {h : H}, l.all (fun st => st.op.plain) = true → WOpsG (CallA (ev E k).call) l Q s h → WOpsG (fun _ _ _ _ => False) l Q s h := by
    intro l
    induction l with
    | nil => intro Q s h _ w; exact w
    | cons st r ih =>
      intro Q s h hp w
      simp only [List.all_cons, Bool.and_eq_true] at hp
      simp only [WOpsG] at w ⊢
      split at w
      · rename_i hw
        rw [if_pos hw]
        rw [WOpG_plain hp.1] at w ⊢
        exact WX.imp w (fun v h w => ih hp.2 w)
      · rename_i hw
        rw [if_neg hw]; exact ih hp.2 w
  refine .recv hR hl (fun s h => s = s1 ∧ h = h1) (hw (hplain g fn hR) (runOps_W e1 ⟨rfl, rfl, rfl⟩)) ?_
  rintro s h ⟨hs, hh⟩
  rw [hs, hh]
  split at e
  · rename_i s2 h2 e2; cases e; exact ic _ _ _ _ _ _ e2 _ ⟨.inl rfl, q⟩
  · rename_i s2 h2 e2; cases e; exact ic _ _ _ _ _ _ e2 _ ⟨.inr rfl, q⟩
  · cases e
theorem def_A {k : Nat} (ic : CodeA E k) (il : CallsA E k) (hplain : ∀ g fn, E.R g = some fn → fn.ops.all (fun st => st.op.plain) = true) {rs : List ARes} {r : AOut} {h' : H} {R : AOut → H → Prop} (q : R r h') :
    ∀ {d : DCode} {s : S} {h : H}, stepDef E (ev E k) rs d s h = some (r, h') → Holds E (.dcode d rs s h R)
  | .seq a d, s, h, e => by
    simp only [stepDef] at e
    split at e
    · rename_i s1 h1 e1
      exact .dseq (fun s h => s = s1 ∧ h = h1) (ic _ _ _ _ _ _ e1 _ ⟨rfl, rfl⟩) (fun s h ⟨hs, hh⟩ => by rw [hs, hh]; exact def_A ic il hplain q e)
    · rename_i s1 h1 e1
      obtain ⟨v, hv, e2⟩ := Option.map_eq_some_iff.1 e
      cases e2
      refine .dseq (fun _ _ => False) (ic _ _ _ _ _ _ e1 _ ?_) (fun s h hf => hf.elim)
      show WX _ _
      rw [hv]; exact q
    · rename_i v s1 h1 e1
      cases e
      exact .dseq (fun _ _ => False) (ic _ _ _ _ _ _ e1 _ q) (fun s h hf => hf.elim)
    · cases e
  | .dfr l f post, s, h, e => by
    simp only [stepDef] at e
    split at e
    case h_2 => cases e
    rename_i s1 h1 e1
    have hfn : ∀ {h2 h3 : H}, stepRec E (ev E k) (f.ev s1) h2 = some h3 → ∃ g cs, f.ev s1 = .func g cs := by
      intro h2 h3 e
      unfold stepRec at e
      split at e
      · rename_i g cs hf; exact ⟨g, cs, hf⟩
      · cases e
    have main : ∀ {ex : AEx} {s2 : S} {h2 : H}, (ev E k).code post s1 h1 = some (ex, s2, h2) → panOf ex = some none → ((stepRec E (ev E k) (f.ev s1) h2).bind fun h => (resultsA rs s2 h).map (AOut.val ·, h)) = some (r, h') → Holds E (.dcode (.dfr l f post) rs s h R) := by
      intro ex s2 h2 e2 hp e
      obtain ⟨h3, e3, e4⟩ := Option.bind_eq_some_iff.1 e
      obtain ⟨v, hv, e5⟩ := Option.map_eq_some_iff.1 e4
      cases e5
      refine .dfr _ (callsA_C il) (fun s h => s = s1 ∧ h = h1) (runOps_W e1 ⟨rfl, rfl, rfl⟩) (fun s h ⟨hs, _⟩ => by rw [hs]; exact hfn e3) (fun _ _ ex' s' h' => ex' = ex ∧ s' = s2 ∧ h' = h2) (fun s h ⟨hs, hh⟩ => by rw [hs, hh]; exact ic _ _ _ _ _ _ e2 _ ⟨rfl, rfl, rfl⟩) ?_ ?_
      · rintro s h _ ex' s' h' ⟨rfl, _, _⟩; rw [hp]; rfl
      · rintro s h ⟨hs, hh⟩ ex' s' h'' u ⟨rfl, rfl, rfl⟩ hu
        rw [hp] at hu; cases hu
        rw [hs]
        refine rec_A ic hplain e3 ?_
        show WX _ _
        rw [hv]; exact q
    split at e
    · rename_i s2 h2 e2; exact main e2 rfl e
    · rename_i s2 h2 e2; exact main e2 rfl e
    · cases e
theorem calls_A {k : Nat} (ic : CodeA E k) (il : CallsA E k) (hplain : ∀ g fn, E.R g = some fn → fn.ops.all (fun st => st.op.plain) = true) : CallsA E (k + 1) := by
  intro f a h r h' e R q
  change stepCall E (ev E k) f a h = some (r, h') at e
  cases f with
  | yld o => exact yield_A ic e q
  | fn f =>
    simp only [stepCall] at e
    split at e
    · rename_i g hg; exact .ov hg e q
    · rename_i hg
      split at e
      · rename_i fn hfn
        unfold stepFn at e
        split at e
        case isFalse => cases e
        rename_i hl
        split at e
        · rename_i s1 h1 e1
          obtain ⟨v, hv, e2⟩ := Option.map_eq_some_iff.1 e
          cases e2
          refine .fn hg hfn hl (ic _ _ _ _ _ _ e1 _ ?_)
          show WX _ _
          rw [hv]; exact q
        · rename_i s1 h1 e1
          obtain ⟨v, hv, e2⟩ := Option.map_eq_some_iff.1 e
          cases e2
          refine .fn hg hfn hl (ic _ _ _ _ _ _ e1 _ ?_)
          show WX _ _
          rw [hv]; exact q
        · rename_i v s1 h1 e1
          cases e
          exact .fn hg hfn hl (ic _ _ _ _ _ _ e1 _ q)
        · cases e
      · split at e
        case h_2 => cases e
        rename_i fn hfn
        split at e
        case isFalse => cases e
        rename_i hl
        exact .fnD hg hfn hl (def_A ic il hplain q e)
theorem ev_A (hplain : ∀ g fn, E.R g = some fn → fn.ops.all (fun st => st.op.plain) = true) (k : Nat) : CodeA E k ∧ CallsA E k := by
  induction k with
  | zero =>
    constructor
    · intro c s h ex s' h' e; cases e
    · intro f a h r h' e; cases e
  | succ k ih => exact ⟨code_A ih.1 ih.2, calls_A ih.1 ih.2 hplain⟩
end
/-- what the executable interpreter answers for a call, the model answers -/
theorem sound_call {B0 : Nat} {P : Program} {E : Env} (hm : P.follows .mixedOrders = true) (hT : TableOK P E) (hO : OvOK P B0 E.ov) (hplain : ∀ g fn, E.R g = some fn → fn.ops.all (fun st => st.op.plain) = true)
    {k f : Nat} {args : List AV} {h h' : H} {r : AOut} (he : (ev E k).call (.fn f) args h = some (r, h')) : FnOK P B0 f args h (fun r1 h1 => r1 = r ∧ h1 = h') :=
  holds_ok hm hT hO ((ev_A hplain k).2 (.fn f) args h r h' he _ ⟨rfl, rfl⟩)
end Go.Proofs.YtgjcdpanabjcmaaGreatDoor.Ev

/- Reasoning about the interpreter without its fuel. -/
import Derived.Test.YtmfbememiffkjaaEv14
namespace Go.Proofs.Ytmfbememiffkjaa.Ev
set_option linter.unusedVariables false
set_option linter.unusedSimpArgs false

/-- the functions of a program, and what stands for some of them -/
structure Env where
  T : Nat → Option AFunc
  ov : Ovs

abbrev Post := AEx → S → H → Prop
def WC (E : Env) (c : ACode) (Q : Post) (s : S) (h : H) : Prop := ∃ k ex s' h', (ev E.T E.ov k).code c s h = some (ex, s', h') ∧ Q ex s' h'
def WCall (E : Env) (f : Nat) (args : List AV) (h : H) (R : AOut → H → Prop) : Prop := ∃ k r h', (ev E.T E.ov k).call (.fn f) args h = some (r, h') ∧ R r h'
/-- a call of a loop's yield -/
def WYield (E : Env) (o : Nat) (args : List AV) (h : H) (R : AOut → H → Prop) : Prop := ∃ k r h', (ev E.T E.ov k).call (.yld o) args h = some (r, h') ∧ R r h'

/-! ### more fuel, the same answer -/
abbrev CallF := Fn → List AV → H → Option (AOut × H)
def CallLe (c d : CallF) : Prop := ∀ f a h x, c f a h = some x → d f a h = some x
theorem runOps_mono {c d : CallF} (hcd : CallLe c d) : ∀ {l : List AStep} {s : S} {h : H} {x : AEx × S × H}, runOps c l s h = some x → runOps d l s h = some x
  | [], s, h, x, e => e
  | st :: r, s, h, x, e => by
    simp only [runOps] at e ⊢
    split
    · rename_i hw
      rw [if_pos hw] at e
      cases hop : st.op <;> rw [hop] at e <;> simp only at e ⊢
      case call f args =>
        cases hf : f.ev s <;> rw [hf] at e <;> simp only at e ⊢ <;> (try (cases e; done))
        all_goals
          split at e
          · rename_i v h1 h2; rw [hcd _ _ _ _ h2]; exact runOps_mono hcd e
          · rename_i v h1 h2; rw [hcd _ _ _ _ h2]; exact e
          · cases e
      case panic y => exact e
      all_goals (split at e)
      all_goals first | (cases e; done) | exact runOps_mono hcd e
    · rename_i hw
      rw [if_neg hw] at e
      exact runOps_mono hcd e
theorem runEff_mono {c d : CallF} (hcd : CallLe c d) {op : AOp} {s : S} {h : H} {x : AV × H} (e : runEff c op s h = some x) : runEff d op s h = some x := by
  cases op <;> simp only [runEff] at e ⊢
  case call f args =>
    cases hf : f.ev s <;> rw [hf] at e <;> simp only at e ⊢ <;> (try (cases e; done))
    all_goals
      split at e
      · rename_i v h1 h2; rw [hcd _ _ _ _ h2]; exact e
      · cases e
  all_goals exact e
theorem runDraw_mono {c d : CallF} (hcd : CallLe c d) : ∀ {l : List DStep} {pd : List Pend} {s : S} {h : H} {x : S × H}, runDraw c l pd s h = some x → runDraw d l pd s h = some x
  | [], pd, s, h, x, e => e
  | st :: r, pd, s, h, x, e => by
    simp only [runDraw] at e ⊢
    split
    · rename_i hk
      rw [if_pos hk] at e
      split at e
      · rename_i hc
        rw [if_pos hc]
        split at e
        · rename_i hw
          rw [if_pos hw]
          split at e
          · rename_i h2; rw [runEff_mono hcd h2]; exact runDraw_mono hcd e
          · cases e
        · rename_i hw
          rw [if_neg hw]; exact runDraw_mono hcd e
      · cases e
    · rename_i hk
      rw [if_neg hk] at e
      split at e
      · rename_i hw
        rw [if_pos hw]
        split at e
        · exact runDraw_mono hcd e
        · cases e
      · rename_i hw
        rw [if_neg hw]; exact runDraw_mono hcd e

theorem stepYield_mono {r r' : Rc} (ic : ∀ c s h x, r.code c s h = some x → r'.code c s h = some x) {o : Nat} {a : List AV} {h : H} {x : AOut × H} (e : stepYield r o a h = some x) : stepYield r' o a h = some x := by
  simp only [stepYield] at e ⊢
  split at e
  case h_2 => cases e
  rename_i L hL
  split at e
  case isFalse => cases e
  rename_i hl
  rw [if_pos hl]
  split at e
  case h_2 => cases e
  rename_i s1 h1 e1
  rw [ic _ _ _ _ e1]
  simp only
  split at e
  case h_2 => cases e
  rename_i L1 hL1
  split at e
  case isFalse => cases e
  rename_i hst
  rw [if_pos hst]
  split at e
  · rename_i s2 h2 e2; rw [ic _ _ _ _ e2]; exact e
  · rename_i s2 h2 e2; rw [ic _ _ _ _ e2]; exact e
  · rename_i id s2 h2 e2; rw [ic _ _ _ _ e2]; exact e
  · cases e
theorem ev_mono1 {T : Nat → Option AFunc} {ov : Ovs} : ∀ (k : Nat), (∀ c s h x, (ev T ov k).code c s h = some x → (ev T ov (k + 1)).code c s h = some x) ∧ CallLe (ev T ov k).call (ev T ov (k + 1)).call
  | 0 => by constructor <;> (intro _ _ _ _ e; cases e)
  | k + 1 => by
    obtain ⟨ic, il⟩ := ev_mono1 (T := T) (ov := ov) k
    constructor
    · intro c s h x e
      simp only [ev] at e ⊢
      change stepCode (ev T ov k) c s h = some x at e
      change stepCode (ev T ov (k + 1)) c s h = some x
      cases c <;> simp only [stepCode] at e ⊢
      case skip => exact e
      case ops l => exact runOps_mono il e
      case draw l =>
        obtain ⟨q, h1, h2⟩ := Option.map_eq_some_iff.1 e
        rw [runDraw_mono il h1]; exact congrArg some h2
      case seq a b =>
        split at e
        · rename_i s1 h1 e1; rw [ic _ _ _ _ e1]; exact ic _ _ _ _ e
        · rename_i hne
          rw [ic _ _ _ _ e]
          split
          · rename_i s1 h1 e1; cases e1; exact absurd e (hne _ _)
          · rfl
      case cond c a b =>
        cases hc : c.ev s <;> rw [hc] at e <;> simp only at e ⊢ <;> (try (cases e; done))
        exact ic _ _ _ _ e
      case block id c =>
        split at e
        · rename_i id' s1 h1 e1; rw [ic _ _ _ _ e1]; exact e
        · rename_i hne
          rw [ic _ _ _ _ e]
          split
          · rename_i s1 h1 e1; cases e1; exact absurd e (hne _ _ _)
          · rfl
      case loop c =>
        split at e
        · rename_i s1 h1 e1; rw [ic _ _ _ _ e1]; exact ic _ _ _ _ e
        · rename_i hne
          rw [ic _ _ _ _ e]
          split
          · rename_i s1 h1 e1; cases e1; exact absurd e (hne _ _)
          · rfl
      case exit => exact e
      case ret => exact e
      case range nt f ps assign body =>
        cases hf : f.ev s <;> rw [hf] at e <;> simp only at e ⊢ <;> (try (cases e; done))
        split at e
        case h_2 => cases e
        rename_i v h1 h2
        rw [il _ _ _ _ h2]; exact e
    · intro f a h x e
      simp only [ev] at e ⊢
      change stepCall T ov (ev T ov k) f a h = some x at e
      change stepCall T ov (ev T ov (k + 1)) f a h = some x
      cases f with
      | yld o => exact stepYield_mono ic e
      | fn f =>
      simp only [stepCall] at e ⊢
      split at e
      · exact e
      · split at e
        · cases e
        · rename_i fn hfn
          split at e
          case isFalse => cases e
          rename_i hl
          rw [if_pos hl]
          split at e
          · rename_i s1 h1 e1; rw [ic _ _ _ _ e1]; exact e
          · rename_i s1 h1 e1; rw [ic _ _ _ _ e1]; exact e
          · rename_i v s1 h1 e1; rw [ic _ _ _ _ e1]; exact e
          · cases e
theorem ev_mono {T : Nat → Option AFunc} {ov : Ovs} {k j : Nat} (hkj : k ≤ j) : (∀ c s h x, (ev T ov k).code c s h = some x → (ev T ov j).code c s h = some x) ∧ CallLe (ev T ov k).call (ev T ov j).call := by
  induction hkj with
  | refl => exact ⟨fun _ _ _ _ e => e, fun _ _ _ _ e => e⟩
  | step _ ih => exact ⟨fun c s h x e => (ev_mono1 _).1 c s h x (ih.1 c s h x e), fun f a h x e => (ev_mono1 _).2 f a h x (ih.2 f a h x e)⟩
end Go.Proofs.Ytmfbememiffkjaa.Ev

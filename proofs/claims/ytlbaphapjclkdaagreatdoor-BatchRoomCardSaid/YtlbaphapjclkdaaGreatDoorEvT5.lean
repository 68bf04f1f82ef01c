/- Calls, run on two memories side by side. -/
import Derived.Test.YtlbaphapjclkdaaGreatDoorEvT3
import Derived.Test.YtlbaphapjclkdaaGreatDoorEv20
namespace Go.Proofs.YtlbaphapjclkdaaGreatDoor.Ev
set_option linter.unusedVariables false
set_option linter.unusedSimpArgs false
/-- what an environment's tagged run is asked: the tags, and which of the functions that others stand for may be called -/
structure GEnv where
  E : Env
  G : Tags
  okf : Nat → Bool
def resOK (s : S) : ARes → Bool
  | .tmp j => opdOK s (.tmp j)
  | .cell j _ _ => opdOK s (.tmp j)
/-- a function as a table -/
def tabT : Nat → (Nat → AV) → Tr AV
  | 0, _ => .nil
  | d + 1, f => .node (some (f 0)) (tabT d fun j => f (2 * j + 1)) (tabT d fun j => f (2 * j + 2))
def compactS (d : Nat) (s : S) : S := fun j => match (tabT d s).get j with | some v => v | none => s j
theorem tabT_get : ∀ {d : Nat} {f : Nat → AV} {j : Nat} {v : AV}, (tabT d f).get j = some v → v = f j
  | 0, f, j, v, e => by simp [tabT, Tr.get] at e
  | d + 1, f, j, v, e => by
    simp only [tabT, Tr.get] at e
    split at e
    · rename_i q; cases e; rw [q]
    · split at e
      · have := tabT_get e; rwa [show 2 * (j / 2) + 1 = j by omega] at this
      · have := tabT_get e; rwa [show 2 * (j / 2 - 1) + 2 = j by omega] at this
theorem compactS_eq (d : Nat) (s : S) : compactS d s = s := by
  funext j
  unfold compactS
  split
  · rename_i v e; exact tabT_get e
  · rfl
def stepCodeX (X : GEnv) (r : Rc) (c : ACode) (s : S) (h : H) : Option (AEx × S × H) :=
  match c with
  | .skip => some (.normal, s, h)
  | .ops l => runOpsX X.G r.call l s h
  | .draw l => (runDrawX X.G r.call l [] s h).map fun p => (.normal, p.1, p.2)
  | .seq a b => match r.code a s h with | some (.normal, s, h) => r.code b s h | x => x
  | .cond c a b => if opdOK s c = true then (match c.ev s with | .bool t => r.code (if t then a else b) s h | _ => none) else none
  | .block id c => match r.code c s h with | some (.exit id', s, h) => some (if id' = id then .normal else .exit id', s, h) | x => x
  | .loop c => match r.code c s h with | some (.normal, s, h) => r.code (.loop c) (compactS 7 s) h | x => x
  | .exit id => some (.exit id, s, h)
  | .ret => some (.ret, s, h)
  | .scope c => r.code c s h
  | .stuck => none
  | .range nt f ps assign body => if opdOK s f = true then (match f.ev s with
    | .func g cs => if (X.E.T g).isSome = true then (match r.call (.fn g) ([.yield h.n] ++ cs) (h.push (.loop ⟨0, none, nt, s, ps, assign, body⟩)) with
      | some (.val _, h1) => endLoopA s h1 h.n
      | _ => none) else none
    | _ => none) else none
def stepFnX (fn : AFunc) (r : Rc) (args : List AV) (h : H) : Option (AOut × H) :=
  if args.length ≤ fn.ntmps then match r.code fn.body (enterS args) h with
    | some (.normal, s, h) => if fn.results.all (resOK s) = true then (resultsA fn.results s h).map (.val ·, h) else none
    | some (.ret, s, h) => if fn.results.all (resOK s) = true then (resultsA fn.results s h).map (.val ·, h) else none
    | some (.panic v, _, h) => some (.panic v, h)
    | _ => none
  else none
def stepCallX (X : GEnv) (r : Rc) (f : Fn) (args : List AV) (h : H) : Option (AOut × H) :=
  match f with
  | .yld o => stepYield r o args h
  | .fn f => match X.E.ov f with
    | some g => if X.okf f = true then g args h else none
    | none => match X.E.T f with
      | some fn => stepFnX fn r args h
      | none => none
def evX (X : GEnv) : Nat → Rc
  | 0 => ⟨fun _ _ _ => none, fun _ _ _ => none⟩
  | k + 1 => ⟨stepCodeX X (evX X k), stepCallX X (evX X k)⟩
/-- what stands for functions keeps side by side what is side by side -/
def OvT (X : GEnv) (t : Tau) : Prop := ∀ f g, X.E.ov f = some g → X.okf f = true → ∀ args h0 h r h1, HS t h0 h → g args h0 = some (r, h1) → ∃ h2, g (args.map (AV.tau t)) h = some (r.tau t, h2) ∧ HS t h1 h2
section
variable {t : Tau} {X : GEnv} {h0 h h1 : H} {s0 s : S} {r0 r : Rc}
def CodeT (t : Tau) (r0 r : Rc) : Prop := ∀ c s0 s h0 h ex s1 h1, SR t s0 s → HS t h0 h → r0.code c s0 h0 = some (ex, s1, h1) → ∃ s2 h2, r.code c s h = some (ex.tau t, s2, h2) ∧ SR t s1 s2 ∧ HS t h1 h2
theorem HS.loop (hs : HS t h0 h) {o : Nat} {L : LoopRec} (e : h0.get o = some (.loop L)) : ∃ L', h.get (t.ρ o) = some (.loop L') ∧ LR t L L' := by
  have := hs.get o; rw [e] at this; exact this
theorem HS.setLoop (tk : TauOK t) (hs : HS t h0 h) {o : Nat} {L L' : LoopRec} (hl : LR t L L') : HS t (h0.setLoop o L) (h.setLoop (t.ρ o) L') := hs.set tk ⟨L', rfl, hl⟩
theorem setPs_tau : ∀ {ps : List Nat} {args : List AV} {s0 s : S}, SR t s0 s → SR t (setPs s0 ps args) (setPs s ps (args.map (AV.tau t)))
  | [], args, s0, s, sr => by cases args <;> exact sr
  | p :: ps, [], s0, s, sr => sr
  | p :: ps, v :: vs, s0, s, sr => setPs_tau (ps := ps) (args := vs) (sr.upd (some p) v)
theorem enterS_tau (args : List AV) : SR t (enterS args) (enterS (args.map (AV.tau t))) := by
  intro j
  unfold enterS
  rw [List.getD_eq_getElem?_getD, List.getD_eq_getElem?_getD, List.getElem?_map]
  cases args[j]? with
  | none => exact .inr tau_undef.symm
  | some v => exact .inr rfl
theorem endRound_tau (tk : TauOK t) (hs : HS t h0 h) {o : Nat} {jump : Option (Option Nat)} {x : AOut} (e : endRoundA h0 o jump = some (x, h1)) : ∃ h2, endRoundA h (t.ρ o) jump = some (x.tau t, h2) ∧ HS t h1 h2 := by
  unfold endRoundA at e
  split at e
  case h_2 => cases e
  rename_i L hg
  cases e
  obtain ⟨L', hg', l1, l2, l3, l4, l5, l6, l7⟩ := hs.loop hg
  unfold endRoundA
  rw [hg']
  exact ⟨_, rfl, hs.setLoop tk ⟨rfl, rfl, l3, l4, l5, l6, l7⟩⟩
theorem endLoop_tau (tk : TauOK t) (sr : SR t s0 s) (hs : HS t h0 h) {o : Nat} {ex : AEx} {s1 : S} (e : endLoopA s0 h0 o = some (ex, s1, h1)) : ∃ s2 h2, endLoopA s h (t.ρ o) = some (ex.tau t, s2, h2) ∧ SR t s1 s2 ∧ HS t h1 h2 := by
  unfold endLoopA at e
  split at e
  case h_2 => cases e
  rename_i L hg
  obtain ⟨L', hg', l1, l2, l3, l4, l5, l6, l7⟩ := hs.loop hg
  unfold endLoopA
  rw [hg']
  simp only [l1, l2]
  split at e
  · cases e
  · rename_i q
    rw [if_neg q]
    split at e
    all_goals
      rename_i hp
      cases e
      simp only [hp]
      exact ⟨_, _, rfl, sr, hs.setLoop tk ⟨rfl, l2.trans hp ▸ rfl, l3, l4, l5, l6, l7⟩⟩
theorem result_tau (tk : TauOK t) (sr : SR t s0 s) (hs : HS t h0 h) {x : ARes} {v : AV} (ho : resOK s0 x = true) (e : result1 s0 h0 x = some v) : result1 s h x = some (v.tau t) := by
  cases x with
  | tmp j =>
    simp only [result1, Option.some.injEq] at e ⊢
    subst e
    exact opd_tau tk sr (x := .tmp j) ho
  | cell j agg n =>
    simp only [result1] at e ⊢
    have := opd_tau tk sr (x := .tmp j) ho
    simp only [AOpd.ev] at this
    rw [this]; exact loadA_tau tk hs e
theorem resultsL_tau (tk : TauOK t) (sr : SR t s0 s) (hs : HS t h0 h) : ∀ {l : List ARes} {vs : List AV}, l.all (resOK s0) = true → resultsL s0 h0 l = some vs → resultsL s h l = some (vs.map (AV.tau t))
  | [], vs, ho, e => by cases e; rfl
  | x :: l, vs, ho, e => by
    rw [List.all_cons, Bool.and_eq_true] at ho
    simp only [resultsL] at e
    split at e
    · rename_i v vs' e1 e2
      cases e
      simp only [resultsL, result_tau tk sr hs ho.1 e1, resultsL_tau tk sr hs ho.2 e2, List.map_cons]
    · cases e
theorem resultsA_tau (tk : TauOK t) (sr : SR t s0 s) (hs : HS t h0 h) {l : List ARes} {v : AV} (ho : l.all (resOK s0) = true) (e : resultsA l s0 h0 = some v) : resultsA l s h = some (v.tau t) := by
  unfold resultsA at e ⊢
  obtain ⟨vs, e1, e2⟩ := Option.map_eq_some_iff.1 e
  rw [resultsL_tau tk sr hs ho e1, Option.map_some, ← e2]
  match vs with
  | [] => simp [AV.tau]
  | [a] => rfl
  | a :: b :: l => simp [AV.tau]
theorem stepYield_tau (tk : TauOK t) (hc : CodeT t r0 r) (hs : HS t h0 h) {o : Nat} {args : List AV} {x : AOut} (e : stepYield r0 o args h0 = some (x, h1)) : ∃ h2, stepYield r (t.ρ o) (args.map (AV.tau t)) h = some (x.tau t, h2) ∧ HS t h1 h2 := by
  unfold stepYield at e
  split at e
  case h_2 => cases e
  rename_i L hg
  obtain ⟨L', hg', l1, l2, l3, l4, l5, l6, l7⟩ := hs.loop hg
  unfold stepYield
  rw [hg']
  simp only [l5, l6, l7, List.length_map]
  split at e
  case isFalse => cases e
  rename_i hlen
  rw [if_pos hlen]
  split at e
  case h_2 => cases e
  rename_i s1 h3 e1
  obtain ⟨s2, h4, e1', sr1, hs1⟩ := hc _ _ _ _ _ _ _ _ (setPs_tau l4) hs e1
  rw [e1']
  simp only [AEx.tau]
  split at e
  case h_2 => cases e
  rename_i L1 hg1
  obtain ⟨L1', hg1', k1, k2, k3, k4, k5, k6, k7⟩ := hs1.loop hg1
  rw [hg1']
  simp only [k1]
  split at e
  case isFalse => cases e
  rename_i hst
  rw [if_pos hst]
  have hs2 : HS t (h3.setLoop o { L1 with st := 1 }) (h4.setLoop (t.ρ o) { L1' with st := 1 }) := hs1.setLoop tk ⟨rfl, k2, k3, k4, k5, k6, k7⟩
  split at e
  · rename_i s5 h5 e2
    obtain ⟨s6, h6, e2', sr2, hs3⟩ := hc _ _ _ _ _ _ _ _ sr1 hs2 e2
    rw [e2']; exact endRound_tau tk hs3 e
  · rename_i s5 h5 e2
    obtain ⟨s6, h6, e2', sr2, hs3⟩ := hc _ _ _ _ _ _ _ _ sr1 hs2 e2
    rw [e2']; exact endRound_tau tk hs3 e
  · rename_i id s5 h5 e2
    obtain ⟨s6, h6, e2', sr2, hs3⟩ := hc _ _ _ _ _ _ _ _ sr1 hs2 e2
    rw [e2']; exact endRound_tau tk hs3 e
  · cases e
theorem stepFn_tau (tk : TauOK t) (hc : CodeT t r0 r) (hs : HS t h0 h) {fn : AFunc} {args : List AV} {x : AOut} (e : stepFnX fn r0 args h0 = some (x, h1)) : ∃ h2, stepFn fn r (args.map (AV.tau t)) h = some (x.tau t, h2) ∧ HS t h1 h2 := by
  unfold stepFnX at e
  unfold stepFn
  rw [List.length_map]
  split at e
  case isFalse => cases e
  rename_i hl
  rw [if_pos hl]
  split at e
  · rename_i s1 h3 e1
    split at e
    case isFalse => cases e
    rename_i ho
    obtain ⟨s2, h4, e1', sr1, hs1⟩ := hc _ _ _ _ _ _ _ _ (enterS_tau args) hs e1
    obtain ⟨v, e2, e3⟩ := Option.map_eq_some_iff.1 e
    cases e3
    rw [e1']; simp only [AEx.tau, resultsA_tau tk sr1 hs1 ho e2]
    exact ⟨h4, rfl, hs1⟩
  · rename_i s1 h3 e1
    split at e
    case isFalse => cases e
    rename_i ho
    obtain ⟨s2, h4, e1', sr1, hs1⟩ := hc _ _ _ _ _ _ _ _ (enterS_tau args) hs e1
    obtain ⟨v, e2, e3⟩ := Option.map_eq_some_iff.1 e
    cases e3
    rw [e1']; simp only [AEx.tau, resultsA_tau tk sr1 hs1 ho e2]
    exact ⟨h4, rfl, hs1⟩
  · rename_i v s1 h3 e1
    obtain ⟨s2, h4, e1', sr1, hs1⟩ := hc _ _ _ _ _ _ _ _ (enterS_tau args) hs e1
    cases e
    rw [e1']; exact ⟨h4, rfl, hs1⟩
  · cases e
theorem stepCall_tau (tk : TauOK t) (hov : OvT X t) (hc : CodeT t r0 r) : CallT t (stepCallX X r0) (stepCall X.E r) := by
  intro f args h0 h x h1 hs e
  cases f with
  | yld o => exact stepYield_tau tk hc hs e
  | fn f =>
    simp only [stepCallX] at e
    simp only [Fn.tau, stepCall]
    split at e
    · rename_i g hg
      split at e
      case isFalse => cases e
      rename_i hf
      rw [hg]; exact hov f g hg hf _ _ _ _ _ hs e
    · rename_i hg
      rw [hg]
      split at e
      · rename_i fn hfn
        rw [hfn]; exact stepFn_tau tk hc hs e
      · cases e
theorem stepCode_tau (tk : TauOK t) (gk : TagsOK X.G t) (hc : CodeT t r0 r) (hl : CallT t r0.call r.call) : ∀ c s0 s h0 h ex s1 h1, SR t s0 s → HS t h0 h → stepCodeX X r0 c s0 h0 = some (ex, s1, h1) → ∃ s2 h2, stepCode X.E r c s h = some (ex.tau t, s2, h2) ∧ SR t s1 s2 ∧ HS t h1 h2 := by
  intro c s0 s h0 h ex s1 h1 sr hs e
  cases c <;> simp only [stepCodeX] at e <;> simp only [stepCode]
  case skip => cases e; exact ⟨s, h, rfl, sr, hs⟩
  case exit id => cases e; exact ⟨s, h, rfl, sr, hs⟩
  case ret => cases e; exact ⟨s, h, rfl, sr, hs⟩
  case stuck => cases e
  case scope c => exact hc _ _ _ _ _ _ _ _ sr hs e
  case ops l => exact runOps_tau tk gk hl sr hs e
  case draw l =>
    obtain ⟨p, e1, e2⟩ := Option.map_eq_some_iff.1 e
    cases e2
    obtain ⟨s2, h2, e1', sr', hs'⟩ := runDraw_tau tk gk hl .nil sr hs e1
    exact ⟨s2, h2, by rw [e1']; rfl, sr', hs'⟩
  case seq a b =>
    split at e
    · rename_i s3 h3 e1
      obtain ⟨s4, h4, e1', sr1, hs1⟩ := hc _ _ _ _ _ _ _ _ sr hs e1
      rw [e1']; exact hc _ _ _ _ _ _ _ _ sr1 hs1 e
    · rename_i hne
      obtain ⟨s4, h4, e1', sr1, hs1⟩ := hc _ _ _ _ _ _ _ _ sr hs e
      refine ⟨s4, h4, ?_, sr1, hs1⟩
      rw [e1']
      cases ex with
      | normal => exact absurd e (hne _ _)
      | _ => rfl
  case cond c a b =>
    split at e
    case isFalse => cases e
    rename_i ho
    rw [opd_tau tk sr ho]
    split at e
    · rename_i b' hb
      rw [hb]; exact hc _ _ _ _ _ _ _ _ sr hs e
    · cases e
  case block id c =>
    split at e
    · rename_i id' s3 h3 e1
      obtain ⟨s4, h4, e1', sr1, hs1⟩ := hc _ _ _ _ _ _ _ _ sr hs e1
      cases e
      rw [e1']
      refine ⟨s4, h4, ?_, sr1, hs1⟩
      simp only [AEx.tau]
      split <;> rfl
    · rename_i hne
      obtain ⟨s4, h4, e1', sr1, hs1⟩ := hc _ _ _ _ _ _ _ _ sr hs e
      refine ⟨s4, h4, ?_, sr1, hs1⟩
      rw [e1']
      cases ex with
      | exit id => exact absurd e (hne _ _ _)
      | _ => rfl
  case loop c =>
    split at e
    · rename_i s3 h3 e1
      obtain ⟨s4, h4, e1', sr1, hs1⟩ := hc _ _ _ _ _ _ _ _ sr hs e1
      rw [compactS_eq] at e
      rw [e1']; exact hc _ _ _ _ _ _ _ _ sr1 hs1 e
    · rename_i hne
      obtain ⟨s4, h4, e1', sr1, hs1⟩ := hc _ _ _ _ _ _ _ _ sr hs e
      refine ⟨s4, h4, ?_, sr1, hs1⟩
      rw [e1']
      cases ex with
      | normal => exact absurd e (hne _ _)
      | _ => rfl
  case range nt f ps assign body =>
    split at e
    case isFalse => cases e
    rename_i ho
    rw [opd_tau tk sr ho]
    split at e
    case h_2 => cases e
    rename_i g cs hf
    rw [hf]
    simp only [AV.tau, taus_map]
    split at e
    case isFalse => cases e
    rename_i hT
    rw [if_pos hT]
    split at e
    case h_2 => cases e
    rename_i v h3 e1
    have hp : HS t (h0.push (.loop ⟨0, none, nt, s0, ps, assign, body⟩)) (h.push (.loop ⟨0, none, nt, s, ps, assign, body⟩)) := hs.push tk ⟨_, rfl, rfl, rfl, rfl, sr, rfl, rfl, rfl⟩
    obtain ⟨h4, e1', hs1⟩ := hl _ _ _ _ _ _ hp e1
    simp only [Fn.tau, List.map_append, List.map_cons, List.map_nil, AV.tau, ← hs.n] at e1'
    rw [e1']
    simp only [AOut.tau]
    have := endLoop_tau tk sr hs1 e
    rwa [← hs.n] at this
theorem evX_tau (tk : TauOK t) (gk : TagsOK X.G t) (hov : OvT X t) : ∀ k, CodeT t (evX X k) (ev X.E k) ∧ CallT t (evX X k).call (ev X.E k).call
  | 0 => by
    constructor
    · intro c s0 s h0 h ex s1 h1 sr hs e; cases e
    · intro f args h0 h r h1 hs e; cases e
  | k + 1 => by
    obtain ⟨a, b⟩ := evX_tau tk gk hov k
    exact ⟨stepCode_tau tk gk a b, stepCall_tau tk hov a⟩
end
end Go.Proofs.YtlbaphapjclkdaaGreatDoor.Ev

/- Numbers that stand for others: a mark for one that lies in a range, and a mark for one of a list. -/
namespace Go.Proofs.YtlbaphapjclkdaaGreatDoor.Ev
set_option linter.unusedVariables false
set_option linter.unusedSimpArgs false
/-- what a number stands for: from 2^40 on for κ and what is added, behind it for u, from 2^42 on for u's rest by 7 -/
def sigB (κ u n : Int) : Int := if n < 1099511627776 then n else if n < 1099512676352 then n - 1099511627776 + κ else if n < 4398046511104 then u else u % 7
def tauR (ρ δ : Nat → Nat) (κ u : Int) : Tau := ⟨ρ, δ, fun _ n => sigB κ u n⟩
def tauI (σ : Int → Int) : AV → AV
  | .int k n => .int k (σ n)
  | v => v
def flatIB : AV → Bool
  | .int _ _ => true
  | .bool _ => true
  | _ => false
def resB (σ : Int → Int) (x : Option AV) (v : AV) : Bool := match x with | some x => x.beq (tauI σ v) | none => false
def noU (n : Int) : Bool := decide (n < 1099512676352)
def noK (n : Int) : Bool := decide (n < 1099511627776) || decide (1099512676352 ≤ n)
def noUv : AV → Bool
  | .int _ n => noU n
  | _ => true
def noKv : AV → Bool
  | .int _ n => noK n
  | _ => true
def tagsR (ks us : List Int) : Tags where
  bin op k k' a b v := flatIB v && (if (noU a && noU b && noUv v) = true then ks.all fun κ => resB (sigB κ 0) (binA op (.int k (sigB κ 0 a)) (.int k' (sigB κ 0 b))) v
    else noK a && noK b && noKv v && us.all fun u => resB (sigB 0 u) (binA op (.int k (sigB 0 u a)) (.int k' (sigB 0 u b))) v)
  mx m k k' a b v := flatIB v && (if (noU a && noU b && noUv v) = true then ks.all fun κ => resB (sigB κ 0) ((if m then maxA else minA) (.int k (sigB κ 0 a)) (.int k' (sigB κ 0 b))) v
    else noK a && noK b && noKv v && us.all fun u => resB (sigB 0 u) ((if m then maxA else minA) (.int k (sigB 0 u a)) (.int k' (sigB 0 u b))) v)
  cv k k' a v := flatIB v && (if (noU a && noUv v) = true then ks.all fun κ => resB (sigB κ 0) (cvIntA k (.int k' (sigB κ 0 a))) v
    else noK a && noKv v && us.all fun u => resB (sigB 0 u) (cvIntA k (.int k' (sigB 0 u a))) v)
section
variable {ks us : List Int} {κ u : Int}
theorem sig_noU {n : Int} (h : noU n = true) : sigB κ u n = sigB κ 0 n := by
  unfold noU at h; rw [decide_eq_true_eq] at h
  unfold sigB; rw [if_pos h, if_pos h]
theorem sig_noK {n : Int} (h : noK n = true) : sigB κ u n = sigB 0 u n := by
  unfold noK at h; rw [Bool.or_eq_true, decide_eq_true_eq, decide_eq_true_eq] at h
  unfold sigB
  rcases h with q | q
  · rw [if_pos q, if_pos q]
  · have h1 : ¬ n < 1099511627776 := by omega
    have h2 : ¬ n < 1099512676352 := by omega
    simp only [h1, h2, if_false]
theorem tauI_noU {v : AV} (h : noUv v = true) : tauI (sigB κ u) v = tauI (sigB κ 0) v := by
  cases v <;> simp only [tauI]
  rw [sig_noU h]
theorem tauI_noK {v : AV} (h : noKv v = true) : tauI (sigB κ u) v = tauI (sigB 0 u) v := by
  cases v <;> simp only [tauI]
  rw [sig_noK h]
theorem tau_flatIB {ρ δ : Nat → Nat} {v : AV} (h : flatIB v = true) : v.tau (tauR ρ δ κ u) = tauI (sigB κ u) v := by
  cases v <;> first | (cases h; done) | simp only [AV.tau, tauI, tauR]
theorem resB_eq {σ : Int → Int} {x : Option AV} {v : AV} (h : resB σ x v = true) : x = some (tauI σ v) := by
  unfold resB at h
  split at h
  · rw [AV.beq_eq h]
  · cases h
theorem tagsR_ok (hκ : κ ∈ ks) (hu : u ∈ us) (ρ δ : Nat → Nat) : TagsOK (tagsR ks us) (tauR ρ δ κ u) where
  bin := by
    intro op k k' a b v h e
    simp only [tagsR, Bool.and_eq_true] at h
    rw [tau_flatIB h.1]
    show binA op (.int k (sigB κ u a)) (.int k' (sigB κ u b)) = _
    have h2 := h.2
    split at h2
    · rename_i q
      rw [sig_noU q.1.1, sig_noU q.1.2, tauI_noU q.2]
      exact resB_eq (List.all_eq_true.1 h2 κ hκ)
    · simp only [Bool.and_eq_true] at h2
      obtain ⟨⟨⟨q1, q2⟩, q3⟩, q4⟩ := h2
      rw [sig_noK q1, sig_noK q2, tauI_noK q3]
      exact resB_eq (List.all_eq_true.1 q4 u hu)
  mx := by
    intro m k k' a b v h e
    simp only [tagsR, Bool.and_eq_true] at h
    rw [tau_flatIB h.1]
    show (if m then maxA else minA) (.int k (sigB κ u a)) (.int k' (sigB κ u b)) = _
    have h2 := h.2
    split at h2
    · rename_i q
      rw [sig_noU q.1.1, sig_noU q.1.2, tauI_noU q.2]
      exact resB_eq (List.all_eq_true.1 h2 κ hκ)
    · simp only [Bool.and_eq_true] at h2
      obtain ⟨⟨⟨q1, q2⟩, q3⟩, q4⟩ := h2
      rw [sig_noK q1, sig_noK q2, tauI_noK q3]
      exact resB_eq (List.all_eq_true.1 q4 u hu)
  cv := by
    intro k k' a v h e
    simp only [tagsR, Bool.and_eq_true] at h
    rw [tau_flatIB h.1]
    show cvIntA k (.int k' (sigB κ u a)) = _
    have h2 := h.2
    split at h2
    · rename_i q
      rw [sig_noU q.1, tauI_noU q.2]
      exact resB_eq (List.all_eq_true.1 h2 κ hκ)
    · simp only [Bool.and_eq_true] at h2
      obtain ⟨⟨q1, q3⟩, q4⟩ := h2
      rw [sig_noK q1, tauI_noK q3]
      exact resB_eq (List.all_eq_true.1 q4 u hu)
theorem sig_fix {n : Int} (h : fixI n = true) : sigB κ u n = n := by
  unfold fixI at h
  rw [Nat.ble_eq] at h
  unfold sigB; rw [if_pos (by omega)]
end
end Go.Proofs.YtlbaphapjclkdaaGreatDoor.Ev

/- What a call that is run apart makes is laid behind a memory. -/
namespace Go.Proofs.YtlbaphapjclkdaaGreatDoor.Ev
set_option linter.unusedVariables false
set_option linter.unusedSimpArgs false
/-- where an object of a list goes: behind the n there are -/
def rnO (n : Nat) (L : List Nat) (o : Nat) : Nat := if o < 2 then o else n + L.idxOf o
mutual
/-- a value whose objects are numbered otherwise -/
def shV (d : Nat → Nat) : AV → AV
  | .ptr o i => .ptr (d o) i
  | .slice o i len es => .slice (d o) i len es
  | .map o => .map (d o)
  | .func f cs => .func f (shVs d cs)
  | .yield l => .yield (d l)
  | .meth f v => .meth f (shV d v)
  | .iface t v => .iface t (shV d v)
  | .agg cs => .agg (shVs d cs)
  | .tup vs => .tup (shVs d vs)
  | .bool b => .bool b
  | .int k n => .int k n
  | .str s => .str s
  | .nilp => .nilp
  | .nils => .nils
  | .nilm => .nilm
  | .nilf => .nilf
  | .gptr g => .gptr g
  | .nili => .nili
def shVs (d : Nat → Nat) : List AV → List AV
  | [] => []
  | v :: l => shV d v :: shVs d l
end
theorem shVs_map (d : Nat → Nat) : ∀ l : List AV, shVs d l = l.map (shV d)
  | [] => by simp [shVs]
  | v :: l => by simp [shVs, shVs_map d l]
/-- an object that is taken along: a row that is its group's last one, or a map -/
def liveO (H1 : H) (o : Nat) : Bool := match H1.get o with
  | some (.cells _ (some g)) => decide (2 ≤ o) && (decide (H1.tip g = o) && decide (H1.kill g ≤ o))
  | some (.mem (.map _ _)) => decide (2 ≤ o)
  | _ => false
mutual
/-- all that a value points to is taken along -/
def okV (L : Nat → Bool) : AV → Bool
  | .ptr o _ => decide (o = 1) || L o
  | .slice o _ _ _ => decide (o = 1) || L o
  | .map o => decide (o = 1) || L o
  | .func _ cs => okVs L cs
  | .yield _ => false
  | .meth _ v => okV L v
  | .iface _ v => okV L v
  | .agg cs => okVs L cs
  | .tup vs => okVs L vs
  | .bool _ | .int _ _ | .str _ | .nilp | .nils | .nilm | .nilf | .gptr _ | .nili => true
def okVs (L : Nat → Bool) : List AV → Bool
  | [] => true
  | v :: l => okV L v && okVs L l
end
theorem okVs_mem {L : Nat → Bool} : ∀ {l : List AV}, okVs L l = true → ∀ {a : AV}, a ∈ l → okV L a = true
  | [], _, a, h => by cases h
  | v :: l, h, a, ha => by
    simp only [okVs, Bool.and_eq_true] at h
    rcases List.mem_cons.1 ha with rfl | ha
    · exact h.1
    · exact okVs_mem h.2 ha
def okE (L : Nat → Bool) : List (AV × AV × Nat) → Bool
  | [] => true
  | e :: l => okV L e.1 && (okV L e.2.1 && okE L l)
def inL (L : List Nat) (o : Nat) : Bool := L.contains o
/-- numbers that rise -/
def rises : List Nat → Bool
  | a :: b :: l => Nat.blt a b && rises (b :: l)
  | _ => true
/-- all that is taken along points to what is taken along -/
def okH (H1 : H) (L : List Nat) : Bool := rises L && L.all fun o => liveO H1 o && (match H1.get o with
  | some (.cells cs (some _)) => okVs (inL L) cs
  | some (.mem (.map es _)) => okE (inL L) es
  | _ => true)
def shE (d : Nat → Nat) : List (AV × AV × Nat) → List (AV × AV × Nat)
  | [] => []
  | e :: l => (shV d e.1, shV d e.2.1, e.2.2) :: shE d l
/-- an object, laid behind -/
def shObj (d : Nat → Nat) (H1 : H) (o : Nat) : AObj := match H1.get o with
  | some (.cells cs (some _)) => .cells (shVs d cs) (some (d o))
  | some (.mem (.map es c)) => .mem (.map (shE d es) c)
  | _ => .other
theorem rises_get : ∀ {L : List Nat}, rises L = true → ∀ {i j : Nat} {a b : Nat}, L[i]? = some a → L[j]? = some b → i < j → a < b
  | [], _, i, j, a, b, h1, _, _ => by simp at h1
  | [x], _, i, j, a, b, h1, h2, h3 => by
    have : j = 0 := by
      cases j with
      | zero => rfl
      | succ j => simp at h2
    omega
  | x :: y :: l, h, i, j, a, b, h1, h2, h3 => by
    simp only [rises, Bool.and_eq_true, Nat.blt_eq] at h
    cases j with
    | zero => omega
    | succ j =>
      rw [List.getElem?_cons_succ] at h2
      cases i with
      | succ i => rw [List.getElem?_cons_succ] at h1; exact rises_get h.2 h1 h2 (by omega)
      | zero =>
        simp only [List.getElem?_cons_zero, Option.some.injEq] at h1
        subst h1
        cases j with
        | zero => simp only [List.getElem?_cons_zero, Option.some.injEq] at h2; omega
        | succ j =>
          have := rises_get h.2 (i := 0) (j := j + 1) (a := y) (b := b) rfl h2 (by omega)
          omega
theorem rises_idx {L : List Nat} (h : rises L = true) {i o : Nat} (e : L[i]? = some o) : L.idxOf o = i := by
  have hm : o ∈ L := List.mem_of_getElem? e
  have h1 : L.idxOf o < L.length := List.idxOf_lt_length_of_mem hm
  have h2 : L[L.idxOf o]? = some o := by rw [List.getElem?_eq_getElem h1, List.getElem_idxOf h1]
  rcases Nat.lt_trichotomy (L.idxOf o) i with q | q | q
  · have := rises_get h h2 e q; omega
  · exact q
  · have := rises_get h e h2 q; omega
def H.pushes (h : H) : List AObj → H
  | [] => h
  | x :: l => (h.push x).pushes l
theorem H.pushes_n : ∀ (l : List AObj) (h : H), (h.pushes l).n = h.n + l.length
  | [], h => rfl
  | x :: l, h => by rw [H.pushes, H.pushes_n l, H.n_push, List.length_cons]; omega
theorem H.pushes_get : ∀ (l : List AObj) (h : H) (o : Nat), (h.pushes l).get o = if o < h.n then h.get o else if o < h.n + l.length then l[o - h.n]? else h.get o
  | [], h, o => by
    simp only [H.pushes, List.length_nil, Nat.add_zero]
    split
    · rfl
    · rfl
  | x :: l, h, o => by
    rw [H.pushes, H.pushes_get l, H.get_push, H.n_push, List.length_cons]
    by_cases h1 : o < h.n
    · rw [if_pos (by omega), if_neg (by omega), if_pos h1]
    · rw [if_neg h1]
      by_cases h2 : o = h.n
      · subst h2; rw [if_pos (by omega), if_pos rfl, if_pos (by omega), Nat.sub_self]; rfl
      · rw [if_neg (by omega)]
        by_cases h3 : o < h.n + (l.length + 1)
        · rw [if_pos (by omega), if_pos h3, show o - h.n = (o - (h.n + 1)) + 1 by omega, List.getElem?_cons_succ]
        · rw [if_neg (by omega), if_neg h2, if_neg h3]
theorem H.pushes_gr : ∀ (l : List AObj) (h : H), (h.pushes l).gr = h.gr
  | [], h => rfl
  | x :: l, h => by rw [H.pushes, H.pushes_gr l]; rfl
/-- a memory with what another one holds behind it -/
def H.lay (h H1 : H) (L : List Nat) : H := h.pushes (L.map (shObj (rnO h.n L) H1))
section
variable {h H1 : H} {L : List Nat}
theorem H.lay_n : (h.lay H1 L).n = h.n + L.length := by unfold H.lay; rw [H.pushes_n, List.length_map]
theorem H.lay_old {o : Nat} (ho : o < h.n) : (h.lay H1 L).get o = h.get o := by unfold H.lay; rw [H.pushes_get, if_pos ho]
theorem H.lay_new {j o : Nat} (ho : L[j]? = some o) : (h.lay H1 L).get (h.n + j) = some (shObj (rnO h.n L) H1 o) := by
  have hj : j < L.length := (List.getElem?_eq_some_iff.1 ho).1
  unfold H.lay
  rw [H.pushes_get, if_neg (by omega), if_pos (by rw [List.length_map]; omega), Nat.add_sub_cancel_left, List.getElem?_map, ho, Option.map_some]
theorem H.lay_off (wf : h.Wf) {o : Nat} (ho : h.n + L.length ≤ o) : (h.lay H1 L).get o = none := by
  unfold H.lay
  rw [H.pushes_get, if_neg (by omega), if_neg (by rw [List.length_map]; omega)]
  cases hg : h.get o with
  | none => rfl
  | some x => have := wf.ob _ _ hg; omega
theorem H.lay_tip (g : Nat) : (h.lay H1 L).tip g = h.tip g := by unfold H.tip H.lay; rw [H.pushes_gr]
theorem H.lay_kill (g : Nat) : (h.lay H1 L).kill g = h.kill g := by unfold H.kill H.lay; rw [H.pushes_gr]
theorem H.Wf.tip_new' (wf : h.Wf) {g : Nat} (hg : h.n ≤ g) : h.tip g = g := by
  unfold H.tip
  cases e : h.gr.get g with
  | none => rfl
  | some p => have := wf.gr _ _ e; omega
theorem H.Wf.kill_new' (wf : h.Wf) {g : Nat} (hg : h.n ≤ g) : h.kill g = 0 := by
  unfold H.kill
  cases e : h.gr.get g with
  | none => rfl
  | some p => have := wf.gr _ _ e; omega
theorem liveO_two {o : Nat} (hl : liveO H1 o = true) : 2 ≤ o := by
  unfold liveO at hl
  split at hl
  · simp only [Bool.and_eq_true, decide_eq_true_eq] at hl; exact hl.1
  · simpa using hl
  · cases hl
theorem okH_at (ok : okH H1 L = true) {j o : Nat} (ho : L[j]? = some o) : liveO H1 o = true ∧ rnO h.n L o = h.n + j ∧ (match H1.get o with | some (.cells cs (some _)) => okVs (inL L) cs | some (.mem (.map es _)) => okE (inL L) es | _ => true) = true := by
  unfold okH at ok
  rw [Bool.and_eq_true] at ok
  have := List.all_eq_true.1 ok.2 o (List.mem_of_getElem? ho)
  rw [Bool.and_eq_true] at this
  refine ⟨this.1, ?_, this.2⟩
  have := liveO_two this.1
  unfold rnO; rw [if_neg (by omega), rises_idx ok.1 ho]
theorem shObj_cells {d : Nat → Nat} {o : Nat} {cs : List AV} {g : Option Nat} (hl : liveO H1 o = true) (e : shObj d H1 o = .cells cs g) : ∃ cs0 g0, H1.get o = some (.cells cs0 (some g0)) ∧ cs = shVs d cs0 ∧ g = some (d o) ∧ H1.tip g0 = o ∧ H1.kill g0 ≤ o := by
  unfold shObj at e
  split at e
  · rename_i cs0 g0 hg
    cases e
    unfold liveO at hl
    rw [hg] at hl
    simp only [Bool.and_eq_true, decide_eq_true_eq] at hl
    exact ⟨cs0, g0, hg, rfl, rfl, hl.2.1, hl.2.2⟩
  · cases e
  · cases e
theorem shObj_mem {d : Nat → Nat} {o : Nat} {X : MObj} (e : shObj d H1 o = .mem X) : ∃ es c, H1.get o = some (.mem (.map es c)) ∧ X = .map (shE d es) c := by
  unfold shObj at e
  split at e
  · cases e
  · rename_i es c hg
    cases e
    exact ⟨es, c, hg, rfl⟩
  · cases e
theorem H.lay_at (wf : h.Wf) (ok : okH H1 L = true) {o : Nat} {X : AObj} (h3 : h.n ≤ o) (hg : (h.lay H1 L).get o = some X) : ∃ o1, L[o - h.n]? = some o1 ∧ liveO H1 o1 = true ∧ rnO h.n L o1 = o ∧ shObj (rnO h.n L) H1 o1 = X := by
  by_cases hn : o - h.n < L.length
  · have hj : L[o - h.n]? = some L[o - h.n] := List.getElem?_eq_getElem hn
    have h1 := H.lay_new (h := h) (H1 := H1) hj
    obtain ⟨a, b, _⟩ := okH_at (h := h) ok hj
    rw [show h.n + (o - h.n) = o by omega] at h1 b
    rw [hg] at h1
    exact ⟨_, hj, a, b, (Option.some.inj h1).symm⟩
  · rw [H.lay_off wf (by omega)] at hg; cases hg
theorem H.lay_wf (wf : h.Wf) (ok : okH H1 L = true) : (h.lay H1 L).Wf := by
  refine ⟨fun g p hg => ?_, fun o cs g hg => ?_, fun o x hg => ?_, fun g p hg => ?_, fun g hg => ?_⟩
  · have hg' : h.gr.get g = some p := by rw [← hg]; unfold H.lay; rw [H.pushes_gr]
    have := wf.gr _ _ hg'
    rw [H.lay_n]; omega
  · by_cases q : o < h.n
    · rw [H.lay_old q] at hg; rw [H.lay_tip]; exact wf.mem _ _ _ hg
    · obtain ⟨o1, _, hl, hrn, hX⟩ := H.lay_at wf ok (by omega) hg
      obtain ⟨_, _, _, _, hgg, _⟩ := shObj_cells hl hX
      injection hgg with hgg
      rw [H.lay_tip, wf.tip_new' (by omega)]; omega
  · by_cases q : o < h.n + L.length
    · rw [H.lay_n]; exact q
    · rw [H.lay_off wf (by omega)] at hg; cases hg
  · have hg' : h.gr.get g = some p := by rw [← hg]; unfold H.lay; rw [H.pushes_gr]
    exact wf.kt _ _ hg'
  · rw [H.lay_tip, H.lay_n]
    by_cases q : g < h.n
    · have := wf.tl _ q; omega
    · rw [wf.tip_new' (by omega)]; rw [H.lay_n] at hg; exact hg
theorem shObj_not {d : Nat → Nat} {o : Nat} : (∀ L, shObj d H1 o ≠ .loop L) ∧ ∀ g v, shObj d H1 o ≠ .glob g v := by
  unfold shObj
  split <;> exact ⟨fun _ h => (by cases h), fun _ _ h => (by cases h)⟩
/-- where all lies -/
def layM (h : H) (L : List Nat) (m m1 : M) : M := fun o => if o < h.n then m o else match L[o - h.n]? with | some o1 => m1 o1 | none => none
theorem layM_inv {m m1 : M} {o : Nat} {x : Nat × Nat × Nat} (ok : okH H1 L = true) (e : layM h L m m1 o = some x) : (o < h.n ∧ m o = some x) ∨ (∃ o1, L[o - h.n]? = some o1 ∧ h.n ≤ o ∧ liveO H1 o1 = true ∧ rnO h.n L o1 = o ∧ m1 o1 = some x) := by
  unfold layM at e
  split at e
  · rename_i q; exact .inl ⟨q, e⟩
  · rename_i q
    split at e
    · rename_i o1 hj
      obtain ⟨a, b, _⟩ := okH_at (h := h) ok hj
      exact .inr ⟨o1, hj, by omega, a, by rw [b]; omega, e⟩
    · cases e
variable {m m1 : M}
mutual
theorem VRel.sh {d : Nat → Nat} {m' : M} {L : Nat → Bool} (ht : ∀ o x, (o = 1 ∨ L o = true) → m1 o = some x → m' (d o) = some x) : ∀ {a : AV} {v : Value}, VRel m1 a v → okV L a = true → VRel m' (shV d a) v
  | _, _, .bool b, _ => by rw [shV]; exact .bool b
  | _, _, .int k n, _ => by rw [shV]; exact .int k n
  | _, _, .str s, _ => by rw [shV]; exact .str s
  | _, _, .nilp, _ => by rw [shV]; exact .nilp
  | _, _, .ptr i h, ho => by rw [okV, Bool.or_eq_true, decide_eq_true_eq] at ho; rw [shV]; exact .ptr i (ht _ _ ho h)
  | _, _, .nils, _ => by rw [shV]; exact .nils
  | _, _, .slice i len es cap h hl hs, ho => by rw [okV, Bool.or_eq_true, decide_eq_true_eq] at ho; rw [shV]; exact .slice i len es cap (ht _ _ ho h) hl hs
  | _, _, .slice0 i es a x h, ho => by rw [okV, Bool.or_eq_true, decide_eq_true_eq] at ho; rw [shV]; exact .slice0 i es a x (ht _ _ ho h)
  | _, _, .nilm, _ => by rw [shV]; exact .nilm
  | _, _, .map h, ho => by rw [okV, Bool.or_eq_true, decide_eq_true_eq] at ho; rw [shV]; exact .map (ht _ _ ho h)
  | _, _, .nilf, _ => by rw [shV]; exact .nilf
  | _, _, .func f h, ho => by rw [okV] at ho; rw [shV]; exact .func f (VRels.sh ht h ho)
  | _, _, .yield h, ho => by rw [okV] at ho; cases ho
  | _, _, .meth f h, ho => by rw [okV] at ho; rw [shV]; exact .meth f (VRel.sh ht h ho)
  | _, _, .gptr g, _ => by rw [shV]; exact .gptr g
  | _, _, .nili, _ => by rw [shV]; exact .nili
  | _, _, .iface t h, ho => by rw [okV] at ho; rw [shV]; exact .iface t (VRel.sh ht h ho)
  | _, _, .agg h, ho => by rw [okV] at ho; rw [shV]; exact .agg (VRels.sh ht h ho)
  | _, _, .tup h, ho => by rw [okV] at ho; rw [shV]; exact .tup (VRels.sh ht h ho)
theorem VRels.sh {d : Nat → Nat} {m' : M} {L : Nat → Bool} (ht : ∀ o x, (o = 1 ∨ L o = true) → m1 o = some x → m' (d o) = some x) : ∀ {l : List AV} {l' : List Value}, VRels m1 l l' → okVs L l = true → VRels m' (shVs d l) l'
  | _, _, .nil, _ => by rw [shVs]; exact .nil
  | _, _, .cons h t, ho => by rw [okVs, Bool.and_eq_true] at ho; rw [shVs]; exact .cons (VRel.sh ht h ho.1) (VRels.sh ht t ho.2)
end
theorem ERels.sh {d : Nat → Nat} {m' : M} {L : Nat → Bool} (ht : ∀ o x, (o = 1 ∨ L o = true) → m1 o = some x → m' (d o) = some x) : ∀ {l : List (AV × AV × Nat)} {l' : List MapEntry}, ERels m1 l l' → okE L l = true → ERels m' (shE d l) l'
  | _, _, .nil, _ => .nil
  | _, _, .cons hk hv hn t, ho => by
    rw [okE, Bool.and_eq_true, Bool.and_eq_true] at ho
    exact .cons (hk.sh ht ho.1) (hv.sh ht ho.2.1) hn (ERels.sh ht t ho.2.2)
end
section
variable {B0 : Nat} {P : Program}
theorem Rel.lay {m m1 : M} {h H1 : H} {w w' : World} {L : List Nat} (r : Rel P B0 m h w) (r1 : Rel P w.heap.size m1 H1 w') (hs : w.heap.size ≤ w'.heap.size) (he : ∀ b, b < w.heap.size → w'.heap[b]? = w.heap[b]?)
    (h1 : ∀ x, m1 1 = some x → m 1 = some x) (ok : okH H1 L = true) :
    Rel P B0 (layM h L m m1) (h.lay H1 L) w' ∧ M.le m (layM h L m m1) ∧ ∀ {a : AV} {v : Value}, VRel m1 a v → okV (inL L) a = true → VRel (layM h L m m1) (shV (rnO h.n L) a) v := by
  have hle : M.le m (layM h L m m1) := fun o x e => by unfold layM; rw [if_pos (r.lt _ _ e)]; exact e
  have ht : ∀ o x, (o = 1 ∨ inL L o = true) → m1 o = some x → layM h L m m1 (rnO h.n L o) = some x := by
    rintro o x (rfl | hl) e
    · exact hle _ _ (h1 x e)
    · unfold inL at hl
      have hm : o ∈ L := by simpa using hl
      have hlt : L.idxOf o < L.length := List.idxOf_lt_length_of_mem hm
      have hj : L[L.idxOf o]? = some o := by rw [List.getElem?_eq_getElem hlt, List.getElem_idxOf hlt]
      obtain ⟨_, b, _⟩ := okH_at (h := h) ok hj
      rw [b]
      unfold layM; rw [if_neg (by omega), Nat.add_sub_cancel_left, hj]; exact e
  have rs := r.same hs he
  have own1 : ∀ {o1 : Nat} {b base sz : Nat}, liveO H1 o1 = true → m1 o1 = some (b, base, sz) → w.heap.size ≤ b := by
    intro o1 b base sz hl e
    unfold liveO at hl
    split at hl
    · rename_i hg; exact (r1.own hg e).1
    · rename_i hg; exact (r1.mm hg e).1
    · cases hl
  -- an object that is new
  have new : ∀ {o o1 X}, L[o - h.n]? = some o1 → h.n ≤ o → (h.lay H1 L).get o = some X → shObj (rnO h.n L) H1 o1 = X := by
    intro o o1 X e h3 hg
    have := H.lay_new (h := h) (H1 := H1) e
    rw [show h.n + (o - h.n) = o by omega, hg] at this
    exact (Option.some.inj this).symm
  refine ⟨⟨rs.base, ?_, ?_, ?_, ?_, ?_, ?_, ?_, ?_, ?_, ?_, ?_, ?_, H.lay_wf r.wf ok⟩, hle, fun hv ho => hv.sh ht ho⟩
  · intro o x e
    rw [H.lay_n]
    rcases layM_inv ok e with ⟨q, _⟩ | ⟨o1, he1, q, hl, hrn, e1⟩
    · omega
    · have := (List.getElem?_eq_some_iff.1 he1).1; omega
  · intro o cs g b base sz hg e
    rcases layM_inv ok e with ⟨q, e0⟩ | ⟨o1, he1, q, hl, hrn, e1⟩
    · rw [H.lay_old q] at hg; exact rs.row hg e0
    · obtain ⟨cs0, g0, hg0, rfl, rfl, _⟩ := shObj_cells hl (new he1 q hg)
      obtain ⟨a, b⟩ := r1.row hg0 e1
      rw [shVs_map, List.length_map]; exact ⟨a, b⟩
  · intro o cs b base sz hr e i a hi
    rcases layM_inv ok e with ⟨q, e0⟩ | ⟨o1, he1, q, hl, hrn, e1⟩
    · have : h.row o = some cs := by
        rw [← hr]; unfold H.row; rw [H.lay_old q]
        cases h.get o with
        | none => rfl
        | some x => cases x <;> first | rfl | (simp only [H.lay_kill])
      obtain ⟨v, q1, q2⟩ := rs.val this e0 i a hi
      exact ⟨v, q1, q2.mono hle⟩
    · unfold H.row at hr
      cases hg : (h.lay H1 L).get o with
      | none => rw [hg] at hr; cases hr
      | some X =>
        have hX := new he1 q hg
        rw [hg] at hr
        cases X with
        | cells cs' g' =>
          obtain ⟨cs0, g0, hg0, rfl, rfl, ht0, hk0⟩ := shObj_cells hl hX
          simp only at hr
          split at hr
          · cases hr
            have hrow : H1.row o1 = some cs0 := by unfold H.row; rw [hg0]; simp only; rw [if_pos hk0]
            rw [shVs_map, List.getElem?_map] at hi
            obtain ⟨a0, ha0, rfl⟩ := Option.map_eq_some_iff.1 hi
            obtain ⟨v, q3, q4⟩ := r1.val hrow e1 i a0 ha0
            have := (okH_at (h := h) ok he1).2.2
            rw [hg0] at this
            exact ⟨v, q3, q4.sh ht (okVs_mem this (List.mem_of_getElem? ha0))⟩
          · cases hr
        | _ => cases hr
  · intro o cs g b base sz hg e
    rcases layM_inv ok e with ⟨q, e0⟩ | ⟨o1, he1, q, hl, hrn, e1⟩
    · rw [H.lay_old q] at hg; exact rs.own hg e0
    · obtain ⟨cs0, g0, hg0, _⟩ := shObj_cells hl (new he1 q hg)
      obtain ⟨a, b⟩ := r1.own hg0 e1
      exact ⟨Nat.le_trans r.base a, b⟩
  · intro o cs b base sz hg e
    rcases layM_inv ok e with ⟨q, e0⟩ | ⟨o1, he1, q, hl, hrn, e1⟩
    · rw [H.lay_old q] at hg; exact r.ro hg e0
    · obtain ⟨cs0, g0, _, _, hg, _⟩ := shObj_cells hl (new he1 q hg)
      cases hg
  · intro o o' b base sz base' sz' e e' hne hB
    rcases layM_inv ok e with ⟨q, e0⟩ | ⟨o1, he1, q, hl, hrn, e1⟩ <;> rcases layM_inv ok e' with ⟨q', e0'⟩ | ⟨o1', he1', q', hl', hrn', e1'⟩
    · obtain ⟨g, c, c', a1, a2⟩ := r.sep e0 e0' hne hB
      exact ⟨g, c, c', by rw [H.lay_old q]; exact a1, by rw [H.lay_old q']; exact a2⟩
    · have := r.blk e0; have := own1 hl' e1'; omega
    · have := r.blk e0'; have := own1 hl e1; omega
    · obtain ⟨g, c, c', a1, a2⟩ := r1.sep e1 e1' (by rintro rfl; omega) (own1 hl e1)
      unfold liveO at hl hl'
      rw [a1] at hl
      rw [a2] at hl'
      simp only [Bool.and_eq_true, decide_eq_true_eq] at hl hl'
      have : o1 = o1' := hl.2.1.symm.trans hl'.2.1
      subst this; omega
  · intro o o' g cs cs' b base sz base' sz' hlt hg hg' hk e e'
    rcases layM_inv ok e with ⟨q, e0⟩ | ⟨o1, he1, q, hl, hrn, e1⟩ <;> rcases layM_inv ok e' with ⟨q', e0'⟩ | ⟨o1', he1', q', hl', hrn', e1'⟩
    · rw [H.lay_old q] at hg; rw [H.lay_old q'] at hg'; rw [H.lay_kill] at hk
      exact r.ord hlt hg hg' hk e0 e0'
    · obtain ⟨_, _, _, _, hgg, _⟩ := shObj_cells hl' (new he1' q' hg')
      injection hgg with hgg
      rw [H.lay_old q] at hg
      have := (r.wf.mem _ _ _ hg).1; omega
    · omega
    · obtain ⟨_, _, _, _, hgg, _⟩ := shObj_cells hl (new he1 q hg)
      obtain ⟨_, _, _, _, hgg', _⟩ := shObj_cells hl' (new he1' q' hg')
      injection hgg with hgg; injection hgg' with hgg'; omega
  · intro o b base sz e
    rcases layM_inv ok e with ⟨q, e0⟩ | ⟨o1, he1, q, hl, hrn, e1⟩
    · exact rs.blk e0
    · exact r1.blk e1
  · intro o x e
    rcases layM_inv ok e with ⟨q, e0⟩ | ⟨o1, he1, q, hl, hrn, e1⟩
    · obtain ⟨ob, hob⟩ := r.any e0; exact ⟨ob, by rw [H.lay_old q]; exact hob⟩
    · have := H.lay_new (h := h) (H1 := H1) he1
      rw [show h.n + (o - h.n) = o by omega] at this
      exact ⟨_, this⟩
  · intro o Lp b base sz hg e
    rcases layM_inv ok e with ⟨q, e0⟩ | ⟨o1, he1, q, hl, hrn, e1⟩
    · rw [H.lay_old q] at hg
      obtain ⟨a1, rec, a2, a3⟩ := rs.lp hg e0
      exact ⟨a1, rec, a2, a3.mono hle⟩
    · exact absurd (new he1 q hg) (shObj_not.1 _)
  · intro o X b base sz hg e
    rcases layM_inv ok e with ⟨q, e0⟩ | ⟨o1, he1, q, hl, hrn, e1⟩
    · rw [H.lay_old q] at hg
      obtain ⟨a1, a0, rec, a2, a3⟩ := rs.mm hg e0
      exact ⟨a1, a0, rec, a2, a3.mono hle⟩
    · obtain ⟨es, c, hg0, rfl⟩ := shObj_mem (new he1 q hg)
      obtain ⟨a1, a0, rec, a2, a3⟩ := r1.mm hg0 e1
      have := (okH_at (h := h) ok he1).2.2
      rw [hg0] at this
      cases a3 with
      | map c h => exact ⟨Nat.le_trans r.base a1, a0, _, a2, .map c (h.sh ht this)⟩
  · intro o g v hg
    by_cases q : o < h.n
    · rw [H.lay_old q] at hg
      obtain ⟨a1, v', a2, a3⟩ := rs.gb hg
      exact ⟨a1, v', a2, a3.mono hle⟩
    · obtain ⟨o1, _, _, _, hX⟩ := H.lay_at r.wf ok (by omega) hg
      exact absurd hX (shObj_not.2 _ _)
theorem Rel.restart' {m : M} {h : H} {w : World} (r : Rel P B0 m h w) {g len : Nat} {cs : List AV} (hs : StartG g len cs h) (hlen : 0 < len) (hcs : cs.all flat = true) : ∃ x, m 1 = some x ∧ Rel P w.heap.size (MG x) (HG g len cs) w := by
  obtain ⟨hg, v', hcell, hv⟩ := r.gb hs.glob
  cases hv with
  | @slice _ b base sz _ _ _ cap hm hl hsz =>
    have hrow : h.row 1 = some cs := by unfold H.row; rw [hs.row]
    obtain ⟨hle, CS, e, fr, hb, hc⟩ := r.row hs.row hm
    refine ⟨(b, base, sz), hm, Rel.startG (cap := cap) hb hc hle ?_ (Nat.lt_of_lt_of_le hg r.base) (by simpa using hcell) hl (by simpa using hsz)⟩
    intro i a hi
    obtain ⟨v, h1, h2⟩ := r.val hrow hm i a hi
    exact ⟨v, h1, h2.flat_any (List.all_eq_true.1 hcs a (List.mem_of_getElem? hi))⟩
  | slice0 => omega
/-- a call with arguments that point nowhere, run at a start of its own, stands for the call on any memory that has that start: what it made is laid behind -/
theorem lay_ok {E : Env} (hm : P.follows .mixedOrders = true) (hT : TableOK P E) (hO : ∀ B, B ≠ 0 → OvOK P B E.ov) (hB : B0 ≠ 0) (hplain : ∀ g fn, E.R g = some fn → fn.ops.all (fun st => st.op.plain) = true) {k f : Nat} {args : List AV} {v : AV} {g len : Nat} {cs : List AV} {H1 : H} {L : List Nat} (ha : args.all flat = true)
    (hlen : 0 < len) (hcs : cs.all flat = true) (he : (ev E k).call (.fn f) args (HG g len cs) = some (.val v, H1)) (ok : okH H1 L = true) (hv : okV (inL L) v = true) {h : H} (hs : StartG g len cs h) : FnOK P B0 f args h (fun r1 h1 => r1 = .val (shV (rnO h.n L) v) ∧ h1 = h.lay H1 L) := by
  intro m w cargs hr hargs
  obtain ⟨x, hmx, hrS⟩ := hr.restart' hs hlen hcs
  have key := sound_call hm hT (hO w.heap.size (by have := hr.base; omega)) hplain he (MG x) w cargs hrS (hargs.flat_any ha)
  refine key.mono ?_
  rintro e w' ⟨r1, h2, ⟨rfl, rfl⟩, m1, hE, r1, f1⟩
  cases hE with
  | val hvr =>
    have hsame : ∀ b, b < w.heap.size → w'.heap[b]? = w.heap[b]? := fun b hb => f1.blk b hb (.inl hb)
    have e1 : ∀ y, m1 1 = some y → m 1 = some y := by
      intro y hy
      have := f1.le 1 x (by unfold MG; rw [if_pos rfl])
      rw [this] at hy; cases hy; exact hmx
    obtain ⟨R, hle, hsh⟩ := hr.lay r1 f1.size hsame e1 ok
    refine ⟨_, _, ⟨rfl, rfl⟩, layM h L m m1, .val (hsh hvr hv), R, ⟨hle, f1.os, f1.tape, f1.output, f1.size, fun b hb _ => hsame b hb, by rw [H.lay_n]; omega, fun o ho hmo => ⟨H.lay_old ho, by unfold layM; rw [if_pos ho]; exact hmo⟩, fun o b base sz e2 e3 => ?_, fun h => absurd h hB⟩⟩
    rcases layM_inv ok e2 with ⟨q, e0⟩ | ⟨o1, _, _, hl, _, e1⟩
    · rw [e3] at e0; cases e0
    · left
      unfold liveO at hl
      split at hl
      · rename_i hg; exact (r1.own hg e1).1
      · rename_i hg; exact (r1.mm hg e1).1
      · cases hl
end
end Go.Proofs.YtlbaphapjclkdaaGreatDoor.Ev

/- What code and calls come to over the abstract heap, whatever is drawn: a predicate, without fuel. -/
import Derived.Test.YtgjcdpanabjcmaaGreatDoorEv11
namespace Go.Proofs.YtgjcdpanabjcmaaGreatDoor.Ev
set_option linter.unusedVariables false
set_option linter.unusedSimpArgs false

abbrev Post := AEx → S → H → Prop
/-- what calls come to -/
abbrev CallP := Fn → List AV → H → (AOut → H → Prop) → Prop

/-- what an answer makes of what is next -/
def WX (x : Option (AV × H)) (K : AV → H → Prop) : Prop := match x with | some (v, h) => K v h | none => False
@[go_sem] theorem WX_some (v : AV) (h : H) (K : AV → H → Prop) : WX (some (v, h)) K = K v h := id rfl
@[go_sem] theorem WX_none (K : AV → H → Prop) : WX none K = False := id rfl
@[go_sem] theorem WX_map (x : Option AV) (h : H) (K : AV → H → Prop) : WX (x.map (·, h)) K = WX (x.map (·, h)) K := id rfl
theorem WX.imp {x : Option (AV × H)} {K K' : AV → H → Prop} (w : WX x K) (hk : ∀ v h, K v h → K' v h) : WX x K' := by
  unfold WX at w ⊢
  split at w
  · exact hk _ _ w
  · exact w
theorem WX.get {x : Option (AV × H)} {K : AV → H → Prop} (w : WX x K) : ∃ v h, x = some (v, h) ∧ K v h := by
  unfold WX at w
  split at w
  · exact ⟨_, _, rfl, w⟩
  · exact w.elim

/-- a call of a value -/
def WFunG (C : CallP) (f : AV) (args : List AV) (h : H) (R : AOut → H → Prop) : Prop :=
  match f with
  | .func g cs => C (.fn g) (args ++ cs) h R
  | .yield o => C (.yld o) args h R
  | .meth g v => C (.fn g) (v :: args) h R
  | _ => False
/-- what a call's answer makes of what is next -/
def onOut (K Pn : AV → H → Prop) : AOut → H → Prop := fun r h => match r with | .val v => K v h | .panic v => Pn v h
/-- a call, or another operation -/
def WOpG (C : CallP) (op : AOp) (s : S) (h : H) (K Pn : AV → H → Prop) : Prop :=
  match op with
  | .call f args => WFunG C (f.ev s) (args.map (·.ev s)) h (onOut K Pn)
  | .panic x => match x.ev s with | .iface t v => Pn (.iface t v) h | _ => False
  | .nextM x => nextP h K (x.ev s)
  | op => WX (exec op s h) K
def WOpsG (C : CallP) : List AStep → Post → S → H → Prop
  | [], Q, s, h => Q .normal s h
  | st :: r, Q, s, h =>
    if wanted st.guard s = true then WOpG C st.op s h (fun v h => WOpsG C r Q (upd s st.dst v) h) (fun v h => Q (.panic v) s h)
    else WOpsG C r Q (upd s st.dst undefA) h
/-- a region that draws its order; Pn: what a panic within it comes to -/
def WDrawG (C : CallP) (Pn : AV → H → Prop) : List DStep → List Pend → (S → H → Prop) → S → H → Prop
  | [], pd, Q, s, h => recheck h pd = true ∧ Q s h
  | d :: r, pd, Q, s, h =>
    if d.st.op.kind = .eff then
      recheck h pd = true ∧
      if wanted d.st.guard s = true then WOpG C d.st.op s h (fun v h => WDrawG C Pn r (pd.filter fun p => !d.bef.testBit p.i) Q (upd s d.st.dst v) h) Pn
      else WDrawG C Pn r (pd.filter fun p => !d.bef.testBit p.i) Q (upd s d.st.dst undefA) h
    else if wanted d.st.guard s = true then
      WX (exec d.st.op s h) fun v h' => WDrawG C Pn r (if d.st.op.kind = .read then ⟨d.i, d.st.op, s, v⟩ :: pd else pd) Q (upd s d.st.dst v) h'
    else WDrawG C Pn r pd Q (upd s d.st.dst undefA) h
/-- no operation of a region writes to a temporary -/
def noDst (l : List DStep) (t : Nat) : Prop := ∀ d ∈ l, d.st.dst ≠ some t
/-- a panic within a region that draws its order: of what the region writes nothing is known -/
def panD (l : List DStep) (s : S) (Q : Post) : AV → H → Prop := fun v h => ∀ s', (∀ t, noDst l t → s' t = s t) → Q (.panic v) s' h

/-- what stands behind code -/
def andThen (K : S → H → Prop) (Q : Post) : Post := fun ex s h => match ex with | .normal => K s h | ex => Q ex s h
def atExit (id : Nat) (Q : Post) : Post := fun ex s h => match ex with | .exit id' => Q (if id' = id then .normal else .exit id') s h | ex => Q ex s h
/-- a loop's end -/
def loopEnd (Q : Post) (s : S) (o : Nat) : AOut → H → Prop := fun r h => match r with
  | .val _ => ∃ L, h.get o = some (.loop L) ∧ L.st ≠ 1 ∧ (match L.pend with
    | none => Q .normal s (h.setLoop o { L with st := 3 })
    | some none => Q .ret s (h.setLoop o { L with st := 3 })
    | some (some id) => Q (.exit id) s (h.setLoop o { L with st := 3 }))
  | .panic _ => False
/-- a round's end -/
def roundEnd (R : AOut → H → Prop) (o : Nat) : Post := fun ex s h => ∃ L, h.get o = some (.loop L) ∧ (match ex with
  | .normal => R (.val (.bool true)) (h.setLoop o { L with st := 0, pend := none })
  | .ret => R (.val (.bool false)) (h.setLoop o { L with st := 2, pend := some none })
  | .exit id => R (.val (.bool false)) (h.setLoop o { L with st := 2, pend := some (some id) })
  | .panic _ => False)
/-- what a body leaves behind -/
def atEnd (rs : List ARes) (R : AOut → H → Prop) : Post := fun ex s h => match ex with
  | .normal | .ret => WX ((resultsA rs s h).map (·, h)) fun v h => R (.val v) h
  | .panic v => R (.panic v) h
  | .exit _ => False
/-- the panic behind which a deferred call is made; none: there is none -/
def panOf : AEx → Option (Option AV)
  | .normal => some none
  | .ret => some none
  | .panic v => some (some v)
  | .exit _ => none
/-- behind all: the results -/
def atLast (rs : List ARes) (s : S) (R : AOut → H → Prop) : H → Prop := fun h => WX ((resultsA rs s h).map (·, h)) fun v h => R (.val v) h

inductive Job where
  | code (c : ACode) (s : S) (h : H) (Q : Post)
  | call (f : Fn) (args : List AV) (h : H) (R : AOut → H → Prop)
  | dcode (d : DCode) (rs : List ARes) (s : S) (h : H) (R : AOut → H → Prop)
  | rcv (f : AV) (u : Option AV) (h : H) (R : H → Prop)

inductive Holds (E : Env) : Job → Prop
  | skip {s : S} {h : H} {Q : Post} (w : Q .normal s h) : Holds E (.code .skip s h Q)
  | exit {id : Nat} {s : S} {h : H} {Q : Post} (w : Q (.exit id) s h) : Holds E (.code (.exit id) s h Q)
  | ret {s : S} {h : H} {Q : Post} (w : Q .ret s h) : Holds E (.code .ret s h Q)
  | ops {l : List AStep} {s : S} {h : H} {Q : Post} (C : CallP) (hC : ∀ f a h R, C f a h R → Holds E (.call f a h R)) (w : WOpsG C l Q s h) : Holds E (.code (.ops l) s h Q)
  | draw {l : List DStep} {s : S} {h : H} {Q : Post} (C : CallP) (hC : ∀ f a h R, C f a h R → Holds E (.call f a h R)) (w : WDrawG C (panD l s Q) l [] (Q .normal) s h) : Holds E (.code (.draw l) s h Q)
  | seq {a b : ACode} {s : S} {h : H} {Q : Post} (M : S → H → Prop) (w : Holds E (.code a s h (andThen M Q))) (k : ∀ s h, M s h → Holds E (.code b s h Q)) : Holds E (.code (.seq a b) s h Q)
  | cond {c : AOpd} {t : Bool} {a b : ACode} {s : S} {h : H} {Q : Post} (hc : c.ev s = .bool t) (w : Holds E (.code (if t then a else b) s h Q)) : Holds E (.code (.cond c a b) s h Q)
  | block {id : Nat} {c : ACode} {s : S} {h : H} {Q : Post} (w : Holds E (.code c s h (atExit id Q))) : Holds E (.code (.block id c) s h Q)
  | scope {c : ACode} {s : S} {h : H} {Q : Post} (w : Holds E (.code c s h Q)) : Holds E (.code (.scope c) s h Q)
  | loop {c : ACode} {s : S} {h : H} {Q : Post} (M : S → H → Prop) (w : Holds E (.code c s h (andThen M Q))) (k : ∀ s h, M s h → Holds E (.code (.loop c) s h Q)) : Holds E (.code (.loop c) s h Q)
  | range {nt : Nat} {f : AOpd} {ps : List Nat} {assign body : ACode} {s : S} {h : H} {Q : Post} {g : Nat} {cs : List AV} (hf : f.ev s = .func g cs) (hg : (E.T g).isSome = true)
      (w : Holds E (.call (.fn g) (.yield h.n :: cs) (h.push (.loop ⟨0, none, nt, s, ps, assign, body⟩)) (loopEnd Q s h.n))) : Holds E (.code (.range nt f ps assign body) s h Q)
  | mono {c : ACode} {s : S} {h : H} {Q Q' : Post} (w : Holds E (.code c s h Q)) (hq : ∀ ex s h, Q ex s h → Q' ex s h) : Holds E (.code c s h Q')
  | ov {f : Nat} {g : List AV → H → Option (AOut × H)} {args : List AV} {h h' : H} {r : AOut} {R : AOut → H → Prop} (ho : E.ov f = some g) (hg : g args h = some (r, h')) (hr : R r h') : Holds E (.call (.fn f) args h R)
  | fn {f : Nat} {fn : AFunc} {args : List AV} {h : H} {R : AOut → H → Prop} (ho : E.ov f = none) (hT : E.T f = some fn) (hl : args.length ≤ fn.ntmps) (w : Holds E (.code fn.body (enterS args) h (atEnd fn.results R))) :
      Holds E (.call (.fn f) args h R)
  | fnD {f : Nat} {fn : ADef} {args : List AV} {h : H} {R : AOut → H → Prop} (ho : E.ov f = none) (hT : E.D f = some fn) (hl : args.length ≤ fn.ntmps) (w : Holds E (.dcode fn.body fn.results (enterS args) h R)) :
      Holds E (.call (.fn f) args h R)
  | yld {o : Nat} {args : List AV} {h : H} {R : AOut → H → Prop} {L : LoopRec} (hL : h.get o = some (.loop L)) (hl : args.length = L.ps.length) (M : S → H → Prop) (L1 : S → H → LoopRec)
      (w : Holds E (.code L.assign (setPs L.s L.ps args) h (fun ex s h => ex = .normal ∧ M s h)))
      (hL1 : ∀ s h, M s h → h.get o = some (.loop (L1 s h))) (hst : ∀ s h, M s h → (L1 s h).st = 0)
      (k : ∀ s h, M s h → Holds E (.code L.body s (h.setLoop o { L1 s h with st := 1 }) (roundEnd R o))) : Holds E (.call (.yld o) args h R)
  | monoC {f : Fn} {args : List AV} {h : H} {R R' : AOut → H → Prop} (w : Holds E (.call f args h R)) (hr : ∀ r h, R r h → R' r h) : Holds E (.call f args h R')
  | dseq {a : ACode} {d : DCode} {rs : List ARes} {s : S} {h : H} {R : AOut → H → Prop} (M : S → H → Prop) (w : Holds E (.code a s h (andThen M (atEnd rs R)))) (k : ∀ s h, M s h → Holds E (.dcode d rs s h R)) :
      Holds E (.dcode (.seq a d) rs s h R)
  | dfr {l : List AStep} {f : AOpd} {post : ACode} {rs : List ARes} {s : S} {h : H} {R : AOut → H → Prop} (C : CallP) (hC : ∀ f a h R, C f a h R → Holds E (.call f a h R)) (M : S → H → Prop)
      (w : WOpsG C l (fun ex s h => ex = .normal ∧ M s h) s h) (hf : ∀ s h, M s h → ∃ g cs, f.ev s = .func g cs) (M2 : S → H → Post) (k : ∀ s h, M s h → Holds E (.code post s h (M2 s h)))
      (hx : ∀ s h, M s h → ∀ ex s2 h2, M2 s h ex s2 h2 → (panOf ex).isSome = true)
      (k2 : ∀ s h, M s h → ∀ ex s2 h2 u, M2 s h ex s2 h2 → panOf ex = some u → Holds E (.rcv (f.ev s) u h2 (atLast rs s2 R))) : Holds E (.dcode (.dfr l f post) rs s h R)
  | recv {g : Nat} {cs : List AV} {fn : ARec} {u : Option AV} {h : H} {R : H → Prop} (hR : E.R g = some fn) (hl : cs.length ≤ fn.ntmps) (M : S → H → Prop)
      (w : WOpsG (fun _ _ _ _ => False) fn.ops (fun ex s h => ex = .normal ∧ M s h) (upd (enterS cs) (some fn.dst) (u.getD .nili)) h)
      (k : ∀ s h, M s h → Holds E (.code fn.body s h (fun ex _ h => (ex = .normal ∨ ex = .ret) ∧ R h))) : Holds E (.rcv (.func g cs) u h R)

/-! ### more is known of calls, less is asked -/
theorem nextP.imp {h : H} {K K' : AV → H → Prop} {x : AV} (w : nextP h K x) (hk : ∀ v h, K v h → K' v h) : nextP h K' x := by
  unfold nextP at w ⊢
  split at w
  · split at w
    · exact hk _ _ w
    · split at w
      · exact ⟨w.1, fun q => hk _ _ (w.2.1 q), fun e he hs => hk _ _ (w.2.2 e he hs)⟩
      · exact w.elim
    · exact w.elim
  · exact w.elim
section
variable {C C' : CallP}
theorem WFunG.imp (hC : ∀ f a h R, C f a h R → C' f a h R) {f : AV} {args : List AV} {h : H} {R : AOut → H → Prop} (w : WFunG C f args h R) : WFunG C' f args h R := by
  unfold WFunG at w ⊢
  split at w <;> first | exact hC _ _ _ _ w | exact w
theorem onOut.imp {K K' Pn Pn' : AV → H → Prop} (hk : ∀ v h, K v h → K' v h) (hp : ∀ v h, Pn v h → Pn' v h) : ∀ r h, onOut K Pn r h → onOut K' Pn' r h := by
  intro r h w
  cases r
  · exact hk _ _ w
  · exact hp _ _ w
theorem WOpG.imp (hC : ∀ f a h R R', (∀ r h, R r h → R' r h) → C f a h R → C' f a h R') {op : AOp} {s : S} {h : H} {K K' Pn Pn' : AV → H → Prop} (hk : ∀ v h, K v h → K' v h) (hp : ∀ v h, Pn v h → Pn' v h) (w : WOpG C op s h K Pn) : WOpG C' op s h K' Pn' := by
  cases op
  case call f args =>
    simp only [WOpG] at w ⊢
    unfold WFunG at w ⊢
    split at w <;> first | exact hC _ _ _ _ _ (onOut.imp hk hp) w | exact w
  case panic x =>
    simp only [WOpG] at w ⊢
    split at w <;> first | exact hp _ _ w | exact w
  case nextM x => exact nextP.imp w hk
  all_goals first | exact hk _ _ w | exact WX.imp (K := K) w hk
theorem WOpsG.imp (hC : ∀ f a h R R', (∀ r h, R r h → R' r h) → C f a h R → C' f a h R') : ∀ {l : List AStep} {Q Q' : Post} {s : S} {h : H}, (∀ ex s h, Q ex s h → Q' ex s h) → WOpsG C l Q s h → WOpsG C' l Q' s h
  | [], Q, Q', s, h, hq, w => hq _ _ _ w
  | st :: r, Q, Q', s, h, hq, w => by
    simp only [WOpsG] at w ⊢
    split at w
    · rename_i hw
      rw [if_pos hw]
      exact WOpG.imp hC (fun v h w => WOpsG.imp hC hq w) (fun v h w => hq _ _ _ w) w
    · rename_i hw
      rw [if_neg hw]
      exact WOpsG.imp hC hq w
theorem WDrawG.imp (hC : ∀ f a h R R', (∀ r h, R r h → R' r h) → C f a h R → C' f a h R') {Pn Pn' : AV → H → Prop} (hp : ∀ v h, Pn v h → Pn' v h) : ∀ {l : List DStep} {pd : List Pend} {Q Q' : S → H → Prop} {s : S} {h : H}, (∀ s h, Q s h → Q' s h) → WDrawG C Pn l pd Q s h → WDrawG C' Pn' l pd Q' s h
  | [], pd, Q, Q', s, h, hq, w => ⟨w.1, hq _ _ w.2⟩
  | d :: r, pd, Q, Q', s, h, hq, w => by
    simp only [WDrawG] at w ⊢
    split at w
    · rename_i hk
      rw [if_pos hk]
      refine ⟨w.1, ?_⟩
      have w := w.2
      split at w
      · rename_i hw
        rw [if_pos hw]
        exact WOpG.imp hC (fun v h w => WDrawG.imp hC hp hq w) hp w
      · rename_i hw
        rw [if_neg hw]
        exact WDrawG.imp hC hp hq w
    · rename_i hk
      rw [if_neg hk]
      split at w
      · rename_i hw
        rw [if_pos hw]
        exact WX.imp w (fun v h w => WDrawG.imp hC hp hq w)
      · rename_i hw
        rw [if_neg hw]
        exact WDrawG.imp hC hp hq w
end
theorem WOpG_plain {C : CallP} {op : AOp} (hp : op.plain = true) (s : S) (h : H) (K Pn : AV → H → Prop) : WOpG C op s h K Pn = WX (exec op s h) K := by
  cases op <;> first | rfl | cases hp
end Go.Proofs.YtgjcdpanabjcmaaGreatDoor.Ev

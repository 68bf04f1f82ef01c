/- Rules for what code and calls come to. -/
import Derived.Test.YtgjcdpanabjcmaaGreatDoorEv15
namespace Go.Proofs.YtgjcdpanabjcmaaGreatDoor.Ev
set_option linter.unusedVariables false
set_option linter.unusedSimpArgs false

def WC (E : Env) (c : ACode) (Q : Post) (s : S) (h : H) : Prop := Holds E (.code c s h Q)
def WCall (E : Env) (f : Nat) (args : List AV) (h : H) (R : AOut → H → Prop) : Prop := Holds E (.call (.fn f) args h R)
/-- a call of a loop's yield -/
def WYield (E : Env) (o : Nat) (args : List AV) (h : H) (R : AOut → H → Prop) : Prop := Holds E (.call (.yld o) args h R)
/-- what calls come to in an environment -/
def CallE (E : Env) : CallP := fun f a h R => Holds E (.call f a h R)
/-- a body that defers -/
def WD (E : Env) (d : DCode) (rs : List ARes) (R : AOut → H → Prop) (s : S) (h : H) : Prop := Holds E (.dcode d rs s h R)
/-- a deferred call; u: the panic behind which it is made -/
def WRec (E : Env) (f : AV) (u : Option AV) (h : H) (R : H → Prop) : Prop := Holds E (.rcv f u h R)

section
variable {E : Env}

theorem WC.mono {c : ACode} {Q Q' : Post} {s : S} {h : H} (w : WC E c Q s h) (hq : ∀ ex s h, Q ex s h → Q' ex s h) : WC E c Q' s h := Holds.mono w hq
theorem WCall.mono {f : Nat} {args : List AV} {h : H} {R R' : AOut → H → Prop} (w : WCall E f args h R) (hr : ∀ r h, R r h → R' r h) : WCall E f args h R' := Holds.monoC w hr
theorem WYield.mono {o : Nat} {args : List AV} {h : H} {R R' : AOut → H → Prop} (w : WYield E o args h R) (hr : ∀ r h, R r h → R' r h) : WYield E o args h R' := Holds.monoC w hr

/-- a call, or another operation -/
def WOp (E : Env) (op : AOp) (s : S) (h : H) (K : AV → H → Prop) (Pn : AV → H → Prop) : Prop := WOpG (CallE E) op s h K Pn
def WOps (E : Env) (l : List AStep) (Q : Post) (s : S) (h : H) : Prop := WOpsG (CallE E) l Q s h
def WDraw (E : Env) (Pn : AV → H → Prop) (l : List DStep) (pd : List Pend) (Q : S → H → Prop) (s : S) (h : H) : Prop := WDrawG (CallE E) Pn l pd Q s h
theorem WOp_plain {op : AOp} (hp : op.plain = true) (s : S) (h : H) (K Pn : AV → H → Prop) : WOp E op s h K Pn = WX (exec op s h) K := WOpG_plain hp s h K Pn

theorem WC_skip {Q : Post} {s : S} {h : H} (w : Q .normal s h) : WC E .skip Q s h := .skip w
theorem WC_exit {id : Nat} {Q : Post} {s : S} {h : H} (w : Q (.exit id) s h) : WC E (.exit id) Q s h := .exit w
theorem WC_ret {Q : Post} {s : S} {h : H} (w : Q .ret s h) : WC E .ret Q s h := .ret w
theorem WC_ops {l : List AStep} {Q : Post} {s : S} {h : H} (w : WOps E l Q s h) : WC E (.ops l) Q s h := .ops _ (fun _ _ _ _ c => c) w
theorem WC_draw {l : List DStep} {Q : Post} {s : S} {h : H} (w : WDraw E (panD l s Q) l [] (Q .normal) s h) : WC E (.draw l) Q s h := .draw _ (fun _ _ _ _ c => c) w
theorem WC_seq {a b : ACode} {Q : Post} {s : S} {h : H} (w : WC E a (andThen (WC E b Q) Q) s h) : WC E (.seq a b) Q s h := .seq _ w (fun _ _ k => k)
theorem WC_cond {c : AOpd} {t : Bool} {a b : ACode} {Q : Post} {s : S} {h : H} (hc : c.ev s = .bool t) (w : WC E (if t then a else b) Q s h) : WC E (.cond c a b) Q s h := .cond hc w
theorem WC_block {id : Nat} {c : ACode} {Q : Post} {s : S} {h : H} (w : WC E c (atExit id Q) s h) : WC E (.block id c) Q s h := .block w
theorem WC_scope {c : ACode} {Q : Post} {s : S} {h : H} (w : WC E c Q s h) : WC E (.scope c) Q s h := .scope w
theorem WC_loop1 {c : ACode} {Q : Post} {s : S} {h : H} (w : WC E c (andThen (WC E (.loop c) Q) Q) s h) : WC E (.loop c) Q s h := .loop _ w (fun _ _ k => k)
theorem WC_loop {c : ACode} {Q : Post} (I : Nat → S → H → Prop) (step : ∀ n s h, I n s h → WC E c (andThen (fun s h => ∃ m, m < n ∧ I m s h) Q) s h) : ∀ (n : Nat) {s : S} {h : H}, I n s h → WC E (.loop c) Q s h := by
  intro n
  induction n using Nat.strongRecOn with
  | _ n ih =>
    intro s h hI
    exact .loop _ (step n s h hI) (fun s h ⟨m, hm, hI⟩ => ih m hm hI)
/-- a loop whose measure is of any kind -/
theorem WC_loopW {α : Type} {r : α → α → Prop} (wf : WellFounded r) {c : ACode} {Q : Post} (I : α → S → H → Prop) (step : ∀ n s h, I n s h → WC E c (andThen (fun s h => ∃ m, r m n ∧ I m s h) Q) s h) : ∀ (n : α) {s : S} {h : H}, I n s h → WC E (.loop c) Q s h := by
  intro n
  induction n using wf.induction with
  | _ n ih =>
    intro s h hI
    exact .loop _ (step n s h hI) (fun s h ⟨m, hm, hI⟩ => ih m hm hI)
theorem WC_range {nt : Nat} {f : AOpd} {ps : List Nat} {assign body : ACode} {Q : Post} {s : S} {h : H} {g : Nat} {cs : List AV} (hf : f.ev s = .func g cs) (hg : (E.T g).isSome = true)
    (w : WCall E g (.yield h.n :: cs) (h.push (.loop ⟨0, none, nt, s, ps, assign, body⟩)) (loopEnd Q s h.n)) : WC E (.range nt f ps assign body) Q s h := .range hf hg w
theorem WYield_round {o : Nat} {args : List AV} {h : H} {R : AOut → H → Prop} {L : LoopRec} (hL : h.get o = some (.loop L)) (hl : args.length = L.ps.length)
    (w : WC E L.assign (fun ex s1 h1 => ex = .normal ∧ ∃ L1, h1.get o = some (.loop L1) ∧ L1.st = 0 ∧ WC E L.body (roundEnd R o) s1 (h1.setLoop o { L1 with st := 1 })) (setPs L.s L.ps args) h) : WYield E o args h R := by
  classical
  refine .yld hL hl (fun s1 h1 => ∃ L1, h1.get o = some (.loop L1) ∧ L1.st = 0 ∧ WC E L.body (roundEnd R o) s1 (h1.setLoop o { L1 with st := 1 }))
    (fun s1 h1 => if hx : ∃ L1, h1.get o = some (.loop L1) ∧ L1.st = 0 ∧ WC E L.body (roundEnd R o) s1 (h1.setLoop o { L1 with st := 1 }) then Classical.choose hx else L) w ?_ ?_ ?_
  · intro s1 h1 hx
    rw [dif_pos hx]; exact (Classical.choose_spec hx).1
  · intro s1 h1 hx
    simp only [dif_pos hx]; exact (Classical.choose_spec hx).2.1
  · intro s1 h1 hx
    simp only [dif_pos hx]; exact (Classical.choose_spec hx).2.2
theorem WCall_fn {f : Nat} {fn : AFunc} {args : List AV} {h : H} {R : AOut → H → Prop} (ho : E.ov f = none) (hT : E.T f = some fn) (hl : args.length ≤ fn.ntmps) (w : WC E fn.body (atEnd fn.results R) (enterS args) h) : WCall E f args h R := .fn ho hT hl w
theorem WCall_fnD {f : Nat} {fn : ADef} {args : List AV} {h : H} {R : AOut → H → Prop} (ho : E.ov f = none) (hT : E.D f = some fn) (hl : args.length ≤ fn.ntmps) (w : WD E fn.body fn.results R (enterS args) h) : WCall E f args h R := .fnD ho hT hl w
theorem WCall_ov {f : Nat} {g : List AV → H → Option (AOut × H)} {args : List AV} {h h' : H} {r : AOut} {R : AOut → H → Prop} (ho : E.ov f = some g) (hg : g args h = some (r, h')) (hr : R r h') : WCall E f args h R := .ov ho hg hr
theorem WD_seq {a : ACode} {d : DCode} {rs : List ARes} {R : AOut → H → Prop} {s : S} {h : H} (w : WC E a (andThen (WD E d rs R) (atEnd rs R)) s h) : WD E (.seq a d) rs R s h := .dseq _ w (fun _ _ k => k)
/-- behind a deferring: the rest, and then the deferred call -/
theorem WD_dfr {l : List AStep} {f : AOpd} {post : ACode} {rs : List ARes} {R : AOut → H → Prop} {s : S} {h : H}
    (w : WOps E l (fun ex s1 h1 => ex = .normal ∧ (∃ g cs, f.ev s1 = .func g cs) ∧ WC E post (fun ex s2 h2 => ∃ u, panOf ex = some u ∧ WRec E (f.ev s1) u h2 (atLast rs s2 R)) s1 h1) s h) : WD E (.dfr l f post) rs R s h := by
  refine .dfr _ (fun _ _ _ _ c => c) (fun s1 h1 => (∃ g cs, f.ev s1 = .func g cs) ∧ WC E post (fun ex s2 h2 => ∃ u, panOf ex = some u ∧ WRec E (f.ev s1) u h2 (atLast rs s2 R)) s1 h1) w (fun _ _ k => k.1)
    (fun s1 _ ex s2 h2 => ∃ u, panOf ex = some u ∧ WRec E (f.ev s1) u h2 (atLast rs s2 R)) (fun _ _ k => k.2) ?_ ?_
  · rintro s1 h1 _ ex s2 h2 ⟨u, hu, _⟩; rw [hu]; rfl
  · rintro s1 h1 _ ex s2 h2 u ⟨u', hu', k⟩ hu
    rw [hu] at hu'; cases hu'; exact k
theorem WRec_run {g : Nat} {cs : List AV} {fn : ARec} {u : Option AV} {h : H} {R : H → Prop} (hR : E.R g = some fn) (hl : cs.length ≤ fn.ntmps)
    (w : WOpsG (fun _ _ _ _ => False) fn.ops (fun ex s h => ex = .normal ∧ WC E fn.body (fun ex _ h => (ex = .normal ∨ ex = .ret) ∧ R h) s h) (upd (enterS cs) (some fn.dst) (u.getD .nili)) h) : WRec E (.func g cs) u h R :=
  .recv hR hl _ w (fun _ _ k => k)
end
end Go.Proofs.YtgjcdpanabjcmaaGreatDoor.Ev

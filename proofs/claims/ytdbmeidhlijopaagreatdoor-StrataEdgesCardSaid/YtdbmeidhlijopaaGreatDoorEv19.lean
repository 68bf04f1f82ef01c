/- Code with what stands behind it, as a condition on what is ahead of it. -/
import Derived.Test.YtdbmeidhlijopaaGreatDoorEv18
import Derived.Test.YtdbmeidhlijopaaGreatDoorEv20
import Derived.Below
import Derived.SizedLaws
import Derived.ChangeSlices
import Derived.ChangeOld
namespace Go.Proofs.YtdbmeidhlijopaaGreatDoor.Ev
set_option linter.unusedVariables false
set_option linter.unusedSimpArgs false

inductive Fr1 where
 | code (c:ACode)
 | blk (id:Nat)
/-- what stands behind -/
def fin (E:Env):List Fr1→Post→Post
 | [],Q=>Q
 | .code b::k,Q=>aHV (WC E b (fin E k Q)) (fin E k Q)
 | .blk id::k,Q=>atExit id (fin E k Q)
/-- code, and what stands behind it -/
def WS (E:Env) (c:ACode) (k:List Fr1) (Q:Post) (s:S) (h:H):Prop:=WC E c (fin E k Q) s h
def WNext (E:Env) (k:List Fr1) (Q:Post) (s:S) (h:H):Prop:=fin E k Q .normal s h
def WExit (E:Env) (id:Nat) (k:List Fr1) (Q:Post) (s:S) (h:H):Prop:=fin E k Q (.exit id) s h
def WOK (E:Env) (l:List AStep) (k:List Fr1) (Q:Post) (s:S) (h:H):Prop:=WOps E l (fin E k Q) s h
def WDK (E:Env) (Pn:AV→H→Prop) (l:List DStep) (pd:List Pend) (k:List Fr1) (Q:Post) (s:S) (h:H):Prop:=WDraw E Pn l pd (fin E k Q .normal) s h
/-- no panic comes -/
def noPan:AV→H→Prop:=fun _ _=>False
def WIf (v:AV) (A B:Prop):Prop:=match v with | .bool t=>if t then A else B | _=>False

section
variable {E:Env} {k:List Fr1} {Q:Post} {s:S} {h:H}
theorem aJp : ∀ (k:List Fr1),fin E k Q .ret s h=Q .ret s h
 | []=>rfl
 | .code b::k=>aJp k
 | .blk id::k=>aJp k
theorem aFe (v:AV) : ∀ (k:List Fr1),fin E k Q (.panic v) s h=Q (.panic v) s h
 | []=>rfl
 | .code b::k=>aFe v k
 | .blk id::k=>aFe v k
end

/-! Each rule leads from what is left to be shown to what is to be shown first. -/
section
variable {E:Env} {k:List Fr1} {Q:Post} {s:S} {h:H}
theorem aAA {a b:ACode} (w:WS E a (.code b::k) Q s h):WS E (.seq a b) k Q s h:=WC_seq w
theorem aAG {id:Nat} {c:ACode} (w:WS E c (.blk id::k) Q s h):WS E (.block id c) k Q s h:=a0p w
theorem aAB {l:List AStep} (w:WOK E l k Q s h):WS E (.ops l) k Q s h:=WC_ops w
theorem aSm {l:List DStep} (Pn:AV→H→Prop) (hp : ∀ v h,Pn v h→panD l s Q v h) (w:WDK E Pn l [] k Q s h):WS E (.draw l) k Q s h:=by
 have w':WDrawG (CallE E) Pn l [] (fin E k Q .normal) s h:=w
 refine a2G (WDrawG.imp (C:=CallE E) (C':=CallE E) (fun f a h R R' hr c=>Holds.monoC c hr) (fun v h1 q => ?_) (fun _ _ q=>q) w')
 intro s' hs
 rw [aFe]
 exact hp v h1 q s' hs
theorem aAS {l:List DStep} (w:WDK E noPan l [] k Q s h):WS E (.draw l) k Q s h:=aSm noPan (fun v h q=>q.elim) w
theorem aX6 {c:ACode} (w:WS E c k Q s h):WS E (.scope c) k Q s h:=a0w w
theorem aSf {c:ACode} (w:WS E c (.code (.loop c)::k) Q s h):WS E (.loop c) k Q s h:=a0q w
theorem aAF (w:WNext E k Q s h):WS E .skip k Q s h:=a2Y w
theorem aAE (w:Q .ret s h):WS E .ret k Q s h:=WC_ret (by rw [aJp];exact w)
theorem aAK {id:Nat} (w:WExit E id k Q s h):WS E (.exit id) k Q s h:=a2i w
theorem aAD {c:AOpd} {a b:ACode} (w:WIf (c.ev s) (WS E a k Q s h) (WS E b k Q s h)):WS E (.cond c a b) k Q s h:=by
 unfold WIf at w
 split at w
 · rename_i t ht
   refine a2J ht ?_
   cases t <;> exact w
 · exact w.elim
theorem aAP {c:ACode} (I:Nat→S→H→Prop) (step : ∀ n s h,I n s h→WS E c [] (fun ex s h=>match ex with | .normal => ∃ m,m<n∧I m s h | ex=>fin E k Q ex s h) s h) (n:Nat) (hI:I n s h):WS E (.loop c) k Q s h:=by
 refine a2E I (fun n s h hI=>(step n s h hI).mono ?_) n hI
 intro ex s h w
 cases ex <;> exact w
end
section
variable (E:Env) (k:List Fr1) (Q:Post) (s:S) (h:H)
theorem a0L:WNext E [] Q s h=Q .normal s h:=id rfl
theorem aY9 (b:ACode):WNext E (.code b::k) Q s h=WS E b k Q s h:=id rfl
theorem aZX (id:Nat):WNext E (.blk id::k) Q s h=WNext E k Q s h:=_root_.id rfl
theorem aZt (id:Nat):WExit E id [] Q s h=Q (.exit id) s h:=_root_.id rfl
theorem aY3 (id:Nat) (b:ACode):WExit E id (.code b::k) Q s h=WExit E id k Q s h:=_root_.id rfl
theorem a0F (id id':Nat):WExit E id (.blk id'::k) Q s h=if id=id' then WNext E k Q s h else WExit E id k Q s h:=by
 unfold WExit WNext
 show fin E k Q (if id=id' then .normal else .exit id) s h=_
 split <;> rfl
theorem a2u:WOK E [] k Q s h=WNext E k Q s h:=id rfl
theorem a1a (st:AStep) (r:List AStep):WOK E (st::r) k Q s h=if wanted st.guard s=true then WOp E st.op s h (fun v h=>WOK E r k Q (upd s st.dst v) h) (fun v h=>Q (.panic v) s h) else WOK E r k Q (upd s st.dst undefA) h:=by
 unfold WOK
 show (if wanted st.guard s=true then WOp E st.op s h (fun v h=>WOps E r (fin E k Q) (upd s st.dst v) h) (fun v h=>fin E k Q (.panic v) s h) else WOps E r (fin E k Q) (upd s st.dst undefA) h)=_
 simp only [aFe]
variable (Pn:AV→H→Prop)
theorem a2T (pd:List Pend):WDK E Pn [] pd k Q s h=(aBx h pd=true∧WNext E k Q s h):=id rfl
/-- an operation that does nothing to memory -/
theorem aX3 (d:DStep) (r:List DStep) (pd:List Pend) (hk:d.st.op.kind = .pure∨d.st.op.kind = .make):WDK E Pn (d::r) pd k Q s h =
 if wanted d.st.guard s=true then WOp E d.st.op s h (fun v h=>WDK E Pn r pd k Q (upd s d.st.dst v) h) Pn else WDK E Pn r pd k Q (upd s d.st.dst undefA) h:=by
 unfold WDK
 have h1:d.st.op.kind ≠ .eff:=by rcases hk with h | h <;> rw [h] <;> decide
 have h2:d.st.op.kind ≠ .read:=by rcases hk with h | h <;> rw [h] <;> decide
 simp only [WDraw,WDrawG,if_neg h1,if_neg h2]
 rw [aR7 (by revert hk;cases d.st.op <;> simp [AOp.kind,AOp.plain])]
theorem a1K (d:DStep) (r:List DStep) (pd:List Pend) (hk:d.st.op.kind = .read):WDK E Pn (d::r) pd k Q s h =
 if wanted d.st.guard s=true then WOp E d.st.op s h (fun v h=>WDK E Pn r (⟨d.i,d.st.op,s,v⟩::pd) k Q (upd s d.st.dst v) h) Pn else WDK E Pn r pd k Q (upd s d.st.dst undefA) h:=by
 unfold WDK
 have h1:d.st.op.kind ≠ .eff:=by rw [hk];decide
 simp only [WDraw,WDrawG,if_neg h1,if_pos hk]
 rw [aR7 (by revert hk;cases d.st.op <;> simp [AOp.kind,AOp.plain])]
theorem a2t (d:DStep) (r:List DStep) (pd:List Pend) (hk:d.st.op.kind = .eff):WDK E Pn (d::r) pd k Q s h =
 (aBx h pd=true∧if wanted d.st.guard s=true then WOp E d.st.op s h (fun v h=>WDK E Pn r (pd.filter fun p => !d.bef.testBit p.i) k Q (upd s d.st.dst v) h) Pn else WDK E Pn r (pd.filter fun p => !d.bef.testBit p.i) k Q (upd s d.st.dst undefA) h):=by
 unfold WDK
 simp only [WDraw,WDrawG,if_pos hk]
 rfl
theorem a1e (t:Bool) (A B:Prop):WIf (.bool t) A B=if t=true then A else B:=id rfl
theorem aXS (rs:List ARes) (R:AOut→H→Prop):atEnd rs R .normal s h=WV (aA7 rs s h) fun v=>R (.val v) h:=aA6 _ _ _
theorem aZn (rs:List ARes) (R:AOut→H→Prop):atEnd rs R .ret s h=WV (aA7 rs s h) fun v=>R (.val v) h:=aA6 _ _ _
theorem aXm (rs:List ARes) (R:AOut→H→Prop) (v:AV):atEnd rs R (.panic v) s h=R (.panic v) h:=id rfl
end
theorem a1n (E:Env) (k:List Fr1) (Q:Post) (s:S) (h:H) (i:Nat):fin E k Q (.exit i) s h=WExit E i k Q s h:=id rfl
attribute [go_sem] a1n aJp aFe a0L aY9 aZX aZt aY3 a0F a2u a2T a1e aXS aZn aXm
@[go_sem] theorem a3p (h:H):aBx h []=true:=id rfl
@[go_sem] theorem a6W (s:S) (h:H) (t:Nat):aA7 [.tmp t] s h=some (s t):=id rfl
@[go_sem] theorem a5s (s:S) (h:H) (t u:Nat):aA7 [.tmp t,.tmp u] s h=some (.tup [s t,s u]):=id rfl
@[go_sem] theorem a4e (s:S) (h:H) (t u x:Nat):aA7 [.tmp t,.tmp u,.tmp x] s h=some (.tup [s t,s u,s x]):=id rfl
@[go_sem] theorem res_no (s:S) (h:H):aA7 [] s h=some (.tup []):=id rfl
@[go_sem] theorem a5b (x:AOpd):(AOp.mov x).kind = .pure:=_root_.id rfl
@[go_sem] theorem a4q (c a b:AOpd):(AOp.pick c a b).kind = .pure:=_root_.id rfl
@[go_sem] theorem a47 (zero:List AV):(AOp.alloc zero).kind = .make:=_root_.id rfl
@[go_sem] theorem a59 (x:AOpd):(AOp.box x).kind = .make:=_root_.id rfl
@[go_sem] theorem a4S (zero:List AV) (parts:List (Nat×Nat×AOpd)):(AOp.build zero parts).kind = .pure:=_root_.id rfl
@[go_sem] theorem a1t (es len:Nat) (zero:List AV) (parts:List (Nat×Nat×AOpd)):(AOp.buildSlice es len zero parts).kind = .make:=_root_.id rfl
@[go_sem] theorem a4p (agg:Bool) (n:Nat) (x:AOpd):(AOp.load agg n x).kind = .read:=_root_.id rfl
@[go_sem] theorem a4E (n:Nat) (x v:AOpd):(AOp.store n x v).kind = .eff:=_root_.id rfl
@[go_sem] theorem a3Y (x:AOpd):(AOp.nilCheck x).kind = .pure:=_root_.id rfl
@[go_sem] theorem a56 (op:BinOp) (x y:AOpd):(AOp.bin op x y).kind = .pure:=_root_.id rfl
@[go_sem] theorem a6I (k:AEq) (neg:Bool) (x y:AOpd):(AOp.eq k neg x y).kind = .pure:=_root_.id rfl
@[go_sem] theorem a57 (x:AOpd):(AOp.not x).kind = .pure:=_root_.id rfl
@[go_sem] theorem a5c (x:AOpd):(AOp.neg x).kind = .pure:=_root_.id rfl
@[go_sem] theorem a4b (k:IntKind) (x:AOpd):(AOp.cvInt k x).kind = .pure:=_root_.id rfl
@[go_sem] theorem a3u (x:AOpd):(AOp.cvSame x).kind = .pure:=_root_.id rfl
@[go_sem] theorem a40 (x:AOpd):(AOp.cvS2B x).kind = .make:=_root_.id rfl
@[go_sem] theorem a44 (x:AOpd):(AOp.cvB2S x).kind = .read:=_root_.id rfl
@[go_sem] theorem a42 (x:AOpd):(AOp.cvB2B x).kind = .eff:=_root_.id rfl
@[go_sem] theorem a3m (es:Nat) (x:AOpd) (lo hi:Option AOpd):(AOp.sliceS es x lo hi).kind = .pure:=_root_.id rfl
@[go_sem] theorem a4D (es:Nat) (x:AOpd) (lo:Option AOpd) (hi mx:AOpd):(AOp.slice3 es x lo hi mx).kind = .pure:=_root_.id rfl
@[go_sem] theorem a3n (x:AOpd) (lo hi:Option AOpd):(AOp.sliceT x lo hi).kind = .pure:=_root_.id rfl
@[go_sem] theorem a3s (es n:Nat) (x:AOpd) (lo hi:Option AOpd):(AOp.sliceA es n x lo hi).kind = .read:=_root_.id rfl
@[go_sem] theorem a3J (off:Nat) (x:AOpd):(AOp.fieldAddr off x).kind = .pure:=_root_.id rfl
@[go_sem] theorem a4W (agg:Bool) (off n:Nat) (x:AOpd):(AOp.field agg off n x).kind = .pure:=_root_.id rfl
@[go_sem] theorem a2X (es:Nat) (x i:AOpd):(AOp.indexAddr es x i).kind = .pure:=_root_.id rfl
@[go_sem] theorem a3W (es n:Nat) (x i:AOpd):(AOp.indexArr es n x i).kind = .pure:=_root_.id rfl
@[go_sem] theorem a3Z (x i:AOpd):(AOp.indexStr x i).kind = .pure:=_root_.id rfl
@[go_sem] theorem a30 (agg:Bool) (es n:Nat) (x i:AOpd):(AOp.indexAgg agg es n x i).kind = .pure:=_root_.id rfl
@[go_sem] theorem a32 (x:AOpd) (i:Nat):(AOp.extract x i).kind = .pure:=_root_.id rfl
@[go_sem] theorem a5R (x:AOpd):(AOp.len x).kind = .pure:=_root_.id rfl
@[go_sem] theorem a5C (x:AOpd):(AOp.lenT x).kind = .pure:=_root_.id rfl
@[go_sem] theorem a4r (n:Nat):(AOp.lenC n).kind = .pure:=_root_.id rfl
@[go_sem] theorem a3y (es:Nat) (x y:AOpd):(AOp.append es x y).kind = .eff:=_root_.id rfl
@[go_sem] theorem a5I (es:Nat) (x y:AOpd):(AOp.copy es x y).kind = .eff:=_root_.id rfl
@[go_sem] theorem a5T (x y:AOpd):(AOp.min x y).kind = .pure:=_root_.id rfl
@[go_sem] theorem a5g (x y:AOpd):(AOp.max x y).kind = .pure:=_root_.id rfl
@[go_sem] theorem a31 (f:Nat) (cs:List AOpd):(AOp.makeFunc f cs).kind = .pure:=_root_.id rfl
@[go_sem] theorem a2F (es bytes:Nat) (zero:List AV) (len cap:AOpd):(AOp.makeSlice es bytes zero len cap).kind = .make:=_root_.id rfl
@[go_sem] theorem a3A (t:Nat) (x:AOpd):(AOp.makeIface t x).kind = .pure:=_root_.id rfl
@[go_sem] theorem a3V (f:Nat) (x:AOpd):(AOp.makeMeth f x).kind = .pure:=_root_.id rfl
@[go_sem] theorem a38:AOp.makeMap.kind = .eff:=_root_.id rfl
@[go_sem] theorem a3q (kk:KTy) (m k v:AOpd):(AOp.mapPut kk m k v).kind = .eff:=_root_.id rfl
@[go_sem] theorem a3z (kk:KTy) (m k:AOpd):(AOp.mapDel kk m k).kind = .eff:=_root_.id rfl
@[go_sem] theorem a3g (kk:KTy) (ok:Bool) (z:AV) (m k:AOpd):(AOp.mapGet kk ok z m k).kind = .read:=_root_.id rfl
@[go_sem] theorem a4v (x:AOpd):(AOp.lenM x).kind = .read:=_root_.id rfl
@[go_sem] theorem a3k (x:AOpd):(AOp.rangeT x).kind = .eff:=_root_.id rfl
@[go_sem] theorem a4c (x:AOpd):(AOp.nextT x).kind = .eff:=_root_.id rfl
@[go_sem] theorem a3v (x:AOpd):(AOp.rangeM x).kind = .eff:=_root_.id rfl
@[go_sem] theorem a4F (x:AOpd):(AOp.nextM x).kind = .eff:=_root_.id rfl
@[go_sem] theorem a4C (x:AOpd):(AOp.entryM x).kind = .read:=_root_.id rfl
@[go_sem] theorem a3o (t:Nat) (z:AV) (ok:Bool) (x:AOpd):(AOp.assert t z ok x).kind = .pure:=_root_.id rfl
@[go_sem] theorem a4Z (x:AOpd):(AOp.cvR2S x).kind = .pure:=_root_.id rfl
@[go_sem] theorem a4O (es:Nat) (z:List AV) (x:AOpd):(AOp.clear es z x).kind = .eff:=_root_.id rfl
@[go_sem] theorem a4h (f:AOpd) (args:List AOpd):(AOp.call f args).kind = .eff:=_root_.id rfl
@[go_sem] theorem a4T (x:AOpd):(AOp.panic x).kind = .eff:=_root_.id rfl
/-- what is behind an operation: the steps that are left -/
inductive Kt where
 | ops (d:Option Nat) (r:List AStep) (k:List Fr1) (Q:Post) (s:S)
 | draw (Pn:AV→H→Prop) (d:Option Nat) (r:List DStep) (pd:List Pend) (k:List Fr1) (Q:Post) (s:S)
 | read (Pn:AV→H→Prop) (i:Nat) (op:AOp) (d:Option Nat) (r:List DStep) (pd:List Pend) (k:List Fr1) (Q:Post) (s:S)
def Kt.run (E:Env):Kt→AV→H→Prop
 | .ops d r k Q s,v,h=>WOK E r k Q (upd s d v) h
 | .draw Pn d r pd k Q s,v,h=>WDK E Pn r pd k Q (upd s d v) h
 | .read Pn i op d r pd k Q s,v,h=>WDK E Pn r (⟨i,op,s,v⟩::pd) k Q (upd s d v) h
def Kt.pan:Kt→AV→H→Prop
 | .ops d r k Q s,v,h=>Q (.panic v) s h
 | .draw Pn d r pd k Q s,v,h=>Pn v h
 | .read Pn i op d r pd k Q s,v,h=>Pn v h
def WSt (E:Env) (op:AOp) (s:S) (h:H) (κ:Kt):Prop:=WOp E op s h (κ.run E) κ.pan
def WT (E:Env) (x:Option AV) (h:H) (κ:Kt):Prop:=WV x fun v=>κ.run E v h
def WTH (E:Env) (x:Option (AV×H)) (κ:Kt):Prop:=WX x (κ.run E)
def Kt.out (E:Env) (κ:Kt):AOut→H→Prop:=onOut (κ.run E) κ.pan
def WFn (E:Env) (f:AV) (args:List AV) (h:H) (κ:Kt):Prop:=WFun E f args h (κ.out E)
section
variable (E:Env) (s:S) (h:H) (κ:Kt)
@[go_sem] theorem a41 (d:Option Nat) (r:List AStep) (k:List Fr1) (Q:Post) (v:AV):Kt.run E (.ops d r k Q s) v h=WOK E r k Q (upd s d v) h:=id rfl
@[go_sem] theorem a4A (Pn:AV→H→Prop) (d:Option Nat) (r:List DStep) (pd:List Pend) (k:List Fr1) (Q:Post) (v:AV):Kt.run E (.draw Pn d r pd k Q s) v h=WDK E Pn r pd k Q (upd s d v) h:=id rfl
@[go_sem] theorem a3x (Pn:AV→H→Prop) (d:Option Nat) (r:List DStep) (pd:List Pend) (k:List Fr1) (Q:Post) (v:AV):Kt.pan (.draw Pn d r pd k Q s) v h=Pn v h:=id rfl
@[go_sem] theorem a5e (v:AV):noPan v h=False:=id rfl
@[go_sem] theorem a3h (Pn:AV→H→Prop) (i:Nat) (op:AOp) (d:Option Nat) (r:List DStep) (pd:List Pend) (k:List Fr1) (Q:Post) (v:AV):Kt.run E (.read Pn i op d r pd k Q s) v h=WDK E Pn r (⟨i,op,s,v⟩::pd) k Q (upd s d v) h:=id rfl
@[go_sem] theorem a4P (d:Option Nat) (r:List AStep) (k:List Fr1) (Q:Post) (v:AV):Kt.pan (.ops d r k Q s) v h=Q (.panic v) s h:=id rfl
@[go_sem] theorem a4Q (v:AV):Kt.out E κ (.val v) h=κ.run E v h:=id rfl
@[go_sem] theorem a3e (v:AV):Kt.out E κ (.panic v) h=κ.pan v h:=id rfl
@[go_sem] theorem a6G (v:AV):WT E (some v) h κ=κ.run E v h:=id rfl
@[go_sem] theorem a6Y:WT E none h κ=False:=id rfl
@[go_sem] theorem a5Z (v:AV):WTH E (some (v,h)) κ=κ.run E v h:=id rfl
@[go_sem] theorem a5j:WTH E none κ=False:=id rfl
@[go_sem] theorem WT_ite (c:Prop) [Decidable c] (x:Option AV):WT E (if c then x else none) h κ=(c∧WT E x h κ):=by
 by_cases h:c <;> simp [h,WT,WV]
@[go_sem] theorem a5w (c:Prop) [Decidable c] (x:Option AV):WT E (if c then none else x) h κ=(¬ c∧WT E x h κ):=by
 by_cases h:c <;> simp [h,WT,WV]
@[go_sem] theorem a6B (x:AOpd):WSt E (.mov x) s h κ=κ.run E (x.ev s) h:=a2Z E s h (κ.run E) κ.pan x
@[go_sem] theorem a5S (c a b:AOpd):WSt E (.pick c a b) s h κ=WT E (pickA (c.ev s) (a.ev s) (b.ev s)) h κ:=a0o E s h (κ.run E) κ.pan c a b
@[go_sem] theorem a4i (z:List AV):WSt E (.alloc z) s h κ=κ.run E (.ptr h.n 0) (h.new z):=a0I E s h (κ.run E) κ.pan z
@[go_sem] theorem a5u (x:AOpd):WSt E (.box x) s h κ=κ.run E (.ptr h.n 0) (h.new (x.ev s).cells):=a2W E s h (κ.run E) κ.pan x
@[go_sem] theorem a4f (z:List AV) (ps:List (Nat×Nat×AOpd)):WSt E (.build z ps) s h κ=WT E ((afill z (parts s ps)).map AV.agg) h κ:=a01 E s h (κ.run E) κ.pan z ps
@[go_sem] theorem a2V (es n:Nat) (z:List AV) (ps:List (Nat×Nat×AOpd)):WSt E (.buildSlice es n z ps) s h κ=match afill (zeros z (n*es)) (parts s ps) with | some cs=>κ.run E (.slice h.n 0 n es) (h.new cs) | none=>False:=aUf E s h (κ.run E) κ.pan es n z ps
@[go_sem] theorem a5i (agg:Bool) (n:Nat) (x:AOpd):WSt E (.load agg n x) s h κ=WT E (loadA h agg n (x.ev s)) h κ:=a1f E s h (κ.run E) κ.pan agg n x
@[go_sem] theorem a4o (n:Nat) (x v:AOpd):WSt E (.store n x v) s h κ=match storeA h n (x.ev s) (v.ev s) with | some h'=>κ.run E undefA h' | none=>False:=a06 E s h (κ.run E) κ.pan n x v
@[go_sem] theorem a34 (x:AOpd):WSt E (.nilCheck x) s h κ=WT E (aKn (x.ev s)) h κ:=aWp E s h (κ.run E) κ.pan x
@[go_sem] theorem a5y (op:BinOp) (x y:AOpd):WSt E (.bin op x y) s h κ=WT E (binA op (x.ev s) (y.ev s)) h κ:=a3N E s h (κ.run E) κ.pan op x y
@[go_sem] theorem WSt_eq (k:AEq) (neg:Bool) (x y:AOpd):WSt E (.eq k neg x y) s h κ=WT E ((eqA k (x.ev s) (y.ev s)).map fun b => .bool (if neg then !b else b)) h κ:=WOp_eq E s h (κ.run E) κ.pan k neg x y
@[go_sem] theorem a6H (x:AOpd):WSt E (.not x) s h κ=WT E (notA (x.ev s)) h κ:=a2v E s h (κ.run E) κ.pan x
@[go_sem] theorem a6D (x:AOpd):WSt E (.neg x) s h κ=WT E (negA (x.ev s)) h κ:=a2a E s h (κ.run E) κ.pan x
@[go_sem] theorem a4m (k:IntKind) (x:AOpd):WSt E (.cvInt k x) s h κ=WT E (cvIntA k (x.ev s)) h κ:=aZT E s h (κ.run E) κ.pan k x
@[go_sem] theorem a4H (x:AOpd):WSt E (.cvSame x) s h κ=WT E (aNp (x.ev s)) h κ:=aZN E s h (κ.run E) κ.pan x
@[go_sem] theorem a4g (x:AOpd):WSt E (.cvS2B x) s h κ=WTH E (cvS2BA h (x.ev s)) κ:=aZg E s h (κ.run E) κ.pan x
@[go_sem] theorem a4w (x:AOpd):WSt E (.cvB2S x) s h κ=WT E (cvB2SA h (x.ev s)) h κ:=a09 E s h (κ.run E) κ.pan x
@[go_sem] theorem a5L (x:AOpd):WSt E (.cvB2B x) s h κ=WT E (cvB2BA h (x.ev s)) h κ:=aZ2 E s h (κ.run E) κ.pan x
@[go_sem] theorem a4Y (es:Nat) (x:AOpd) (lo hi:Option AOpd):WSt E (.sliceS es x lo hi) s h κ=WT E (aAX es (lo.map (·.ev s)) (hi.map (·.ev s)) (x.ev s)) h κ:=aZK E s h (κ.run E) κ.pan es x lo hi
@[go_sem] theorem a4K (es:Nat) (x:AOpd) (lo:Option AOpd) (hi mx:AOpd):WSt E (.slice3 es x lo hi mx) s h κ=WT E (aOf es (lo.map (·.ev s)) (hi.ev s) (mx.ev s) (x.ev s)) h κ:=aYz E s h (κ.run E) κ.pan es x lo hi mx
@[go_sem] theorem a4X (x:AOpd) (lo hi:Option AOpd):WSt E (.sliceT x lo hi) s h κ=WT E (aBy (lo.map (·.ev s)) (hi.map (·.ev s)) (x.ev s)) h κ:=aZH E s h (κ.run E) κ.pan x lo hi
@[go_sem] theorem a4I (es n:Nat) (x:AOpd) (lo hi:Option AOpd):WSt E (.sliceA es n x lo hi) s h κ=WT E (aLi h es n (lo.map (·.ev s)) (hi.map (·.ev s)) (x.ev s)) h κ:=aYf E s h (κ.run E) κ.pan es n x lo hi
@[go_sem] theorem a3Q (off:Nat) (x:AOpd):WSt E (.fieldAddr off x) s h κ=WT E (aAC off (x.ev s)) h κ:=aVh E s h (κ.run E) κ.pan off x
@[go_sem] theorem a4t (agg:Bool) (off n:Nat) (x:AOpd):WSt E (.field agg off n x) s h κ=WT E (fieldA agg off n (x.ev s)) h κ:=aZr E s h (κ.run E) κ.pan agg off n x
@[go_sem] theorem a3X (es:Nat) (x i:AOpd):WSt E (.indexAddr es x i) s h κ=WT E (aAJ es (x.ev s) (i.ev s)) h κ:=aVi E s h (κ.run E) κ.pan es x i
@[go_sem] theorem a3b (es k:Nat) (x i:AOpd):WSt E (.indexArr es k x i) s h κ=WT E (aFb es k (x.ev s) (i.ev s)) h κ:=aXZ E s h (κ.run E) κ.pan es k x i
@[go_sem] theorem a37 (x i:AOpd):WSt E (.indexStr x i) s h κ=WT E (aCC (x.ev s) (i.ev s)) h κ:=aWa E s h (κ.run E) κ.pan x i
@[go_sem] theorem a3f (agg:Bool) (es k:Nat) (x i:AOpd):WSt E (.indexAgg agg es k x i) s h κ=WT E (aF5 agg es k (x.ev s) (i.ev s)) h κ:=aWO E s h (κ.run E) κ.pan agg es k x i
@[go_sem] theorem a3r (x:AOpd) (i:Nat):WSt E (.extract x i) s h κ=WT E (aAM i (x.ev s)) h κ:=aX7 E s h (κ.run E) κ.pan x i
@[go_sem] theorem a6M (x:AOpd):WSt E (.len x) s h κ=WT E ((lenSA (x.ev s)).map fun (n:Nat) => .int .i64 (n:Int)) h κ:=a3M E s h (κ.run E) κ.pan x
@[go_sem] theorem a5Y (x:AOpd):WSt E (.lenT x) s h κ=WT E ((lenTA (x.ev s)).map fun (n:Nat) => .int .i64 (n:Int)) h κ:=a1j E s h (κ.run E) κ.pan x
@[go_sem] theorem a5O (n:Nat):WSt E (.lenC n) s h κ=κ.run E (.int .i64 n) h:=a1T E s h (κ.run E) κ.pan n
@[go_sem] theorem a4J (es:Nat) (x y:AOpd):WSt E (.append es x y) s h κ=WTH E (aCd h es (x.ev s) (y.ev s)) κ:=aZI E s h (κ.run E) κ.pan es x y
@[go_sem] theorem a5W (es:Nat) (x y:AOpd):WSt E (.copy es x y) s h κ=WTH E (copyA h es (x.ev s) (y.ev s)) κ:=a0m E s h (κ.run E) κ.pan es x y
@[go_sem] theorem a5z (x y:AOpd):WSt E (.min x y) s h κ=WT E (minA (x.ev s) (y.ev s)) h κ:=a2U E s h (κ.run E) κ.pan x y
@[go_sem] theorem a6X (x y:AOpd):WSt E (.max x y) s h κ=WT E (maxA (x.ev s) (y.ev s)) h κ:=a1y E s h (κ.run E) κ.pan x y
@[go_sem] theorem a3a (f:Nat) (cs:List AOpd):WSt E (.makeFunc f cs) s h κ=κ.run E (.func f (cs.map (·.ev s))) h:=aWF E s h (κ.run E) κ.pan f cs
@[go_sem] theorem a3S (es bytes:Nat) (z:List AV) (l c:AOpd):WSt E (.makeSlice es bytes z l c) s h κ=WTH E (aBQ h es bytes z (l.ev s) (c.ev s)) κ:=aVs E s h (κ.run E) κ.pan es bytes z l c
@[go_sem] theorem a3R (t:Nat) (x:AOpd):WSt E (.makeIface t x) s h κ=κ.run E (.iface t (x.ev s)) h:=aVu E s h (κ.run E) κ.pan t x
@[go_sem] theorem a5V (f:AOpd) (args:List AOpd):WSt E (.call f args) s h κ=WFn E (f.ev s) (args.map (·.ev s)) h κ:=id rfl
@[go_sem] theorem a33 (f:Nat) (x:AOpd):WSt E (.makeMeth f x) s h κ=κ.run E (.meth f (x.ev s)) h:=aWx E s h (κ.run E) κ.pan f x
@[go_sem] theorem a3j:WSt E .makeMap s h κ=κ.run E (.map h.n) (h.push (.mem (.map [] 0))):=aXp E s h (κ.run E) κ.pan
@[go_sem] theorem a49 (kk:KTy) (m k v:AOpd):WSt E (.mapPut kk m k v) s h κ=WTH E ((aDW h kk (k.ev s) (v.ev s) (m.ev s)).map (undefA,·)) κ:=aZJ E s h (κ.run E) κ.pan kk m k v
@[go_sem] theorem a43 (kk:KTy) (m k:AOpd):WSt E (.mapDel kk m k) s h κ=WTH E ((aNd h kk (k.ev s) (m.ev s)).map (.tup [],·)) κ:=aYX E s h (κ.run E) κ.pan kk m k
@[go_sem] theorem a4M (kk:KTy) (ok:Bool) (z:AV) (m k:AOpd):WSt E (.mapGet kk ok z m k) s h κ=WT E (aCn h kk ok z (k.ev s) (m.ev s)) h κ:=aYi E s h (κ.run E) κ.pan kk ok z m k
@[go_sem] theorem a5h (x:AOpd):WSt E (.lenM x) s h κ=WT E ((lenMA h (x.ev s)).map fun (n:Nat) => .int .i64 (n:Int)) h κ:=a1k E s h (κ.run E) κ.pan x
@[go_sem] theorem a4N (x:AOpd):WSt E (.rangeT x) s h κ=WTH E (aDh h (x.ev s)) κ:=aZB E s h (κ.run E) κ.pan x
@[go_sem] theorem a4k (x:AOpd):WSt E (.nextT x) s h κ=WTH E (nextTA h (x.ev s)) κ:=a0W E s h (κ.run E) κ.pan x
@[go_sem] theorem a48 (x:AOpd):WSt E (.rangeM x) s h κ=WTH E (aKE h (x.ev s)) κ:=aYp E s h (κ.run E) κ.pan x
@[go_sem] theorem a5M (x:AOpd):WSt E (.nextM x) s h κ=nextP h (κ.run E) (x.ev s):=aZj E s h (κ.run E) κ.pan x
@[go_sem] theorem a4a (x:AOpd):WSt E (.entryM x) s h κ=WT E (aJs h (x.ev s)) h κ:=aYw E s h (κ.run E) κ.pan x
@[go_sem] theorem a4V (t:Nat) (z:AV) (ok:Bool) (x:AOpd):WSt E (.assert t z ok x) s h κ=WT E (aHf t z ok (x.ev s)) h κ:=aYe E s h (κ.run E) κ.pan t z ok x
@[go_sem] theorem a5H (x:AOpd):WSt E (.cvR2S x) s h κ=WT E (cvR2SA (x.ev s)) h κ:=a0P E s h (κ.run E) κ.pan x
@[go_sem] theorem a5E (es:Nat) (z:List AV) (x:AOpd):WSt E (.clear es z x) s h κ=WTH E ((clearA h es z (x.ev s)).map (.tup [],·)) κ:=a05 E s h (κ.run E) κ.pan es z x
@[go_sem] theorem a4n (x:AOpd):WSt E (.panic x) s h κ=match x.ev s with | .iface t v=>κ.pan (.iface t v) h | _=>False:=id rfl
@[go_sem] theorem a5X (g:Nat) (cs args:List AV):WFn E (.func g cs) args h κ=WCall E g (args++cs) h (κ.out E):=id rfl
@[go_sem] theorem a5a (g:Nat) (v:AV) (args:List AV):WFn E (.meth g v) args h κ=WCall E g (v::args) h (κ.out E):=id rfl
@[go_sem] theorem a5K (o:Nat) (args:List AV):WFn E (.yield o) args h κ=WYield E o args h (κ.out E):=id rfl
@[go_sem] theorem a4x (st:AStep) (r:List AStep) (k:List Fr1) (Q:Post):WOK E (st::r) k Q s h=if wanted st.guard s=true then WSt E st.op s h (.ops st.dst r k Q s) else WOK E r k Q (upd s st.dst undefA) h:=a1a E k Q s h st r
@[go_sem] theorem a5G (d:DStep) (Pn:AV→H→Prop) (r:List DStep) (pd:List Pend) (k:List Fr1) (Q:Post) (hk:d.st.op.kind = .pure):WDK E Pn (d::r) pd k Q s h =
 if wanted d.st.guard s=true then WSt E d.st.op s h (.draw Pn d.st.dst r pd k Q s) else WDK E Pn r pd k Q (upd s d.st.dst undefA) h:=aX3 E k Q s h Pn d r pd (.inl hk)
@[go_sem] theorem a4d (d:DStep) (Pn:AV→H→Prop) (r:List DStep) (pd:List Pend) (k:List Fr1) (Q:Post) (hk:d.st.op.kind = .make):WDK E Pn (d::r) pd k Q s h =
 if wanted d.st.guard s=true then WSt E d.st.op s h (.draw Pn d.st.dst r pd k Q s) else WDK E Pn r pd k Q (upd s d.st.dst undefA) h:=aX3 E k Q s h Pn d r pd (.inr hk)
@[go_sem] theorem a5F (d:DStep) (Pn:AV→H→Prop) (r:List DStep) (pd:List Pend) (k:List Fr1) (Q:Post) (hk:d.st.op.kind = .read):WDK E Pn (d::r) pd k Q s h =
 if wanted d.st.guard s=true then WSt E d.st.op s h (.read Pn d.i d.st.op d.st.dst r pd k Q s) else WDK E Pn r pd k Q (upd s d.st.dst undefA) h:=a1K E k Q s h Pn d r pd hk
@[go_sem] theorem a5l (d:DStep) (Pn:AV→H→Prop) (r:List DStep) (pd:List Pend) (k:List Fr1) (Q:Post) (hk:d.st.op.kind = .eff):WDK E Pn (d::r) pd k Q s h =
 (aBx h pd=true∧if wanted d.st.guard s=true then WSt E d.st.op s h (.draw Pn d.st.dst r (pd.filter fun p => !d.bef.testBit p.i) k Q s) else WDK E Pn r (pd.filter fun p => !d.bef.testBit p.i) k Q (upd s d.st.dst undefA) h):=a2t E k Q s h Pn d r pd hk
end
def EN:Env:={ T:=fun _=>none,ov:=fun _=>none }
@[go_sem] theorem a3c (h:H) (i:Nat) (op:AOp) (s:S) (v:AV) (r:List Pend) (hk:op.kind = .read):(aBx h (⟨i,op,s,v⟩::r)=true)=(WOp EN op s h (fun u _=>u=v) (fun _ _=>False)∧aBx h r=true):=by
 rw [aR7 (by revert hk;cases op <;> simp [AOp.kind,AOp.plain])]
 simp only [aBx,Bool.and_eq_true,WX]
 cases exec op s h with
 | none=>simp
 | some x =>
  simp only
  congr 1
  apply propext
  exact ⟨AV.beq_eq,fun e=>by rw [e];exact AV.beq_refl _⟩
theorem aAI {E:Env} {f:Nat} {fn:AFunc} {args:List AV} {h:H} {R:AOut→H→Prop} (ho:E.ov f=none) (hT:E.T f=some fn) (hl:args.length≤fn.ntmps) (w:WS E fn.body [] (atEnd fn.results R) (enterS args) h):WCall E f args h R :=
 a1A ho hT hl w
end Go.Proofs.YtdbmeidhlijopaaGreatDoor.Ev

/- Arguments: slices that are read alone. -/
namespace Go.Proofs.YtdbmeidhlijopaaGreatDoor.Ev
set_option linter.unusedVariables false
set_option linter.unusedSimpArgs false

theorem H.Wf.push_ro {h:H} (wf:h.Wf) {x:AObj} (hx : ∀ cs g,x ≠ .cells cs (some g)):(h.push x).Wf:=by
 refine ⟨fun g p hg=>Nat.lt_succ_of_lt (wf.gr g p hg),fun o cs' g hg => ?_,fun o y hg => ?_,wf.kt,wf.tl_push _⟩
 · rw [H.get_push] at hg
   split at hg
   · cases hg;exact absurd rfl (hx _ _)
   · exact wf.mem o cs' g hg
 · rw [H.get_push] at hg
   split at hg
   · rename_i e;subst e;exact Nat.lt_succ_self _
   · exact Nat.lt_succ_of_lt (wf.ob o y hg)
theorem Keep.push {h:H} {x:AObj} (hx : ∀ cs g,x ≠ .cells cs (some g)):Keep (Old h.n) h (h.push x) where
 wf:=fun w=>w.push_ro hx
 n:=Nat.le_succ _
 get:=fun o ho=>by rw [H.get_push,if_neg (Nat.ne_of_lt ho)]
 tip:=fun _ _=>rfl
 kill:=fun _ _=>rfl

section
variable {B0:Nat} {P:Program}

end
end Go.Proofs.YtdbmeidhlijopaaGreatDoor.Ev

/- From the interpreter's answer to the row's call. -/
namespace Go.Proofs.YtdbmeidhlijopaaGreatDoor.Ev
open Go.RowKit
set_option linter.unusedVariables false
set_option linter.unusedSimpArgs false

/-- the table of functions of a program: what the translation takes -/
noncomputable def table (P:Program) (i:Nat):Option AFunc :=
 match P.funcs[i]? with
 | some fn => if fn.name == "runtime.NumGoroutine" then none else trFunc P fn
 | none=>none
noncomputable def tableD (P:Program) (i:Nat):Option ADef :=
 match P.funcs[i]? with
 | some fn => if fn.name == "runtime.NumGoroutine" then none else aU9 P fn
 | none=>none
noncomputable def tableR (P:Program) (i:Nat):Option ARec :=
 match P.funcs[i]? with
 | some fn => if fn.name == "runtime.NumGoroutine" then none else aST P fn
 | none=>none
noncomputable abbrev env (P:Program) (ov:Ovs):Env:={ T:=table P,ov:=ov,D:=tableD P,R:=tableR P }
theorem env_T (a:Nat→Option AFunc) (b:Ovs) (c:Nat→Option ADef) (d:Nat→Option ARec) (i:Nat):(Env.mk a b c d).T i=a i:=rfl
theorem env_D (a:Nat→Option AFunc) (b:Ovs) (c:Nat→Option ADef) (d:Nat→Option ARec) (i:Nat):(Env.mk a b c d).D i=c i:=rfl
theorem env_R (a:Nat→Option AFunc) (b:Ovs) (c:Nat→Option ADef) (d:Nat→Option ARec) (i:Nat):(Env.mk a b c d).R i=d i:=rfl
theorem env_ov (a:Nat→Option AFunc) (b:Ovs) (c:Nat→Option ADef) (d:Nat→Option ARec) (i:Nat):(Env.mk a b c d).ov i=b i:=rfl
theorem aHC (P:Program) (ov:Ovs):TableOK P (env P ov):=by
 refine ⟨fun f af h => ?_,fun f af h => ?_,fun f af h => ?_⟩
 · simp only [env] at h
   unfold table at h
   split at h
   case h_2=>cases h
   rename_i fn hf
   split at h
   case isTrue=>cases h
   rename_i hn
   exact ⟨fn,hf,by simpa using hn,h⟩
 · simp only [env] at h
   unfold tableD at h
   split at h
   case h_2=>cases h
   rename_i fn hf
   split at h
   case isTrue=>cases h
   rename_i hn
   exact ⟨fn,hf,by simpa using hn,h⟩
 · simp only [env] at h
   unfold tableR at h
   split at h
   case h_2=>cases h
   rename_i fn hf
   split at h
   case isTrue=>cases h
   rename_i hn
   exact ⟨fn,hf,by simpa using hn,h⟩
theorem aSu (P:Program) (ov:Ovs) : ∀ g fn,(env P ov).R g=some fn→fn.ops.all (fun st=>st.op.plain)=true:=by
 intro g fn h
 obtain ⟨fnc,_,_,htr⟩:=(aHC P ov).R g fn h
 unfold aST at htr
 split at htr
 case h_2=>cases htr
 split at htr
 case h_2=>cases htr
 split at htr
 case h_2=>cases htr
 split at htr
 case h_2=>cases htr
 split at htr
 case isFalse=>cases htr
 rename_i hcond
 cases htr
 exact hcond.2.2.2

theorem a0C {P : Program} {ov : Ovs} (hm : P.follows .mixedOrders = true) (hO : ∀ B, B ≠ 0 → OvOK P B ov) {n : Nat} {fn : Func} (hf : P.funcs[n]? = some fn) (hn : (fn.name == "runtime.NumGoroutine") = false) (hb : fn.body.isSome = true)
 {m:M} {h:H} {W:World} (hW:W.heap.size≠0) (r:Rel P W.heap.size m h W) {avs:List AV} {cargs:List Value} (hv:VRels m avs cargs) (q:WCall (env P ov) n avs h fun r _=>r = .val (.bool true)) :
 Calls P n ⟨cargs⟩ W fun e W'=>e = .returned (.bool true)∧Below W.heap.size W W':=by
 obtain ⟨c,hc⟩:=Option.isSome_iff_exists.1 hb
 have hok:FnOK P W.heap.size n avs h fun r _=>r = .val (.bool true):=aLr hm (aHC P ov) (hO _ hW) q
 obtain ⟨h1,h2⟩:=aPX hf hn hc (hok m W cargs r hv)
 have hpost : ∀ e w',CallR P W.heap.size m h W (fun r _=>r = .val (.bool true)) e w'→e = .returned (.bool true)∧Below W.heap.size W w':=by
  rintro e w' ⟨r1,h',rfl,m1,hE,r1,f1⟩
  cases hE with
  | val hvr =>
   cases hvr
   exact ⟨rfl,f1.os,f1.tape,f1.output,f1.size,fun b hb=>f1.below b hb hb⟩
 have h3:=CallsIn.mono h2 hpost
 have h4:CallsIn Fence.wide 0 P n ⟨cargs⟩ W fun e W'=>e = .returned (.bool true)∧Below W.heap.size W W':=h3
 exact callsIn_wide.1 h4

end Go.Proofs.YtdbmeidhlijopaaGreatDoor.Ev

/- Arguments of a row: slices of whole numbers, texts. -/
namespace Go.Proofs.YtdbmeidhlijopaaGreatDoor.Ev
open Go.ChangeShapes Go.WideShapes Go.RowKit
set_option linter.unusedVariables false
set_option linter.unusedSimpArgs false





theorem VRel.of_string {m:M} (s:ByteArray):VRel m (.str s.data.toList) (.string s):=by
 cases s with | mk d=>cases d with | mk l=>exact .str l

end Go.Proofs.YtdbmeidhlijopaaGreatDoor.Ev

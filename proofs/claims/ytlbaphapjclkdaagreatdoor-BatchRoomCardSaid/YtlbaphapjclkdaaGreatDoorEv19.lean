/- Code with what stands behind it, as a condition on what is ahead of it. -/
import Derived.Test.YtlbaphapjclkdaaGreatDoorEv18
import Derived.Test.YtlbaphapjclkdaaGreatDoorEv20
import Derived.Below
import Derived.SizedLaws
import Derived.ChangeSlices
import Derived.ChangeOld
namespace Go.Proofs.YtlbaphapjclkdaaGreatDoor.Ev
set_option linter.unusedVariables false
set_option linter.unusedSimpArgs false

inductive Fr1 where
  | code (c : ACode)
  | blk (id : Nat)
/-- what stands behind -/
def fin (E : Env) : List Fr1 → Post → Post
  | [], Q => Q
  | .code b :: k, Q => andThen (WC E b (fin E k Q)) (fin E k Q)
  | .blk id :: k, Q => atExit id (fin E k Q)
/-- code, and what stands behind it -/
def WS (E : Env) (c : ACode) (k : List Fr1) (Q : Post) (s : S) (h : H) : Prop := WC E c (fin E k Q) s h
def WNext (E : Env) (k : List Fr1) (Q : Post) (s : S) (h : H) : Prop := fin E k Q .normal s h
def WExit (E : Env) (id : Nat) (k : List Fr1) (Q : Post) (s : S) (h : H) : Prop := fin E k Q (.exit id) s h
def WOK (E : Env) (l : List AStep) (k : List Fr1) (Q : Post) (s : S) (h : H) : Prop := WOps E l (fin E k Q) s h
def WDK (E : Env) (Pn : AV → H → Prop) (l : List DStep) (pd : List Pend) (k : List Fr1) (Q : Post) (s : S) (h : H) : Prop := WDraw E Pn l pd (fin E k Q .normal) s h
/-- no panic comes -/
def noPan : AV → H → Prop := fun _ _ => False
def WIf (v : AV) (A B : Prop) : Prop := match v with | .bool t => if t then A else B | _ => False

section
variable {E : Env} {k : List Fr1} {Q : Post} {s : S} {h : H}
theorem fin_ret : ∀ (k : List Fr1), fin E k Q .ret s h = Q .ret s h
  | [] => rfl
  | .code b :: k => fin_ret k
  | .blk id :: k => fin_ret k
theorem fin_panic (v : AV) : ∀ (k : List Fr1), fin E k Q (.panic v) s h = Q (.panic v) s h
  | [] => rfl
  | .code b :: k => fin_panic v k
  | .blk id :: k => fin_panic v k
end

/-! Each rule leads from what is left to be shown to what is to be shown first. -/
section
variable {E : Env} {k : List Fr1} {Q : Post} {s : S} {h : H}
theorem WS_of_seq {a b : ACode} (w : WS E a (.code b :: k) Q s h) : WS E (.seq a b) k Q s h := WC_seq w
theorem WS_of_block {id : Nat} {c : ACode} (w : WS E c (.blk id :: k) Q s h) : WS E (.block id c) k Q s h := WC_block w
theorem WS_of_ops {l : List AStep} (w : WOK E l k Q s h) : WS E (.ops l) k Q s h := WC_ops w
theorem WS_of_drawP {l : List DStep} (Pn : AV → H → Prop) (hp : ∀ v h, Pn v h → panD l s Q v h) (w : WDK E Pn l [] k Q s h) : WS E (.draw l) k Q s h := by
  have w' : WDrawG (CallE E) Pn l [] (fin E k Q .normal) s h := w
  refine WC_draw (WDrawG.imp (C := CallE E) (C' := CallE E) (fun f a h R R' hr c => Holds.monoC c hr) (fun v h1 q => ?_) (fun _ _ q => q) w')
  intro s' hs
  rw [fin_panic]
  exact hp v h1 q s' hs
theorem WS_of_draw {l : List DStep} (w : WDK E noPan l [] k Q s h) : WS E (.draw l) k Q s h := WS_of_drawP noPan (fun v h q => q.elim) w
theorem WS_of_scope {c : ACode} (w : WS E c k Q s h) : WS E (.scope c) k Q s h := WC_scope w
theorem WS_of_loop1 {c : ACode} (w : WS E c (.code (.loop c) :: k) Q s h) : WS E (.loop c) k Q s h := WC_loop1 w
theorem WS_of_loopW {α : Type} {r : α → α → Prop} (wf : WellFounded r) {c : ACode} (I : α → S → H → Prop) (step : ∀ n s h, I n s h → WS E c [] (fun ex s h => match ex with | .normal => ∃ m, r m n ∧ I m s h | ex => fin E k Q ex s h) s h) (n : α) (hI : I n s h) : WS E (.loop c) k Q s h := by
  refine WC_loopW wf I (fun n s h hI => (step n s h hI).mono ?_) n hI
  intro ex s h w
  cases ex <;> exact w
theorem WS_of_skip (w : WNext E k Q s h) : WS E .skip k Q s h := WC_skip w
theorem WS_of_ret (w : Q .ret s h) : WS E .ret k Q s h := WC_ret (by rw [fin_ret]; exact w)
theorem WS_of_exit {id : Nat} (w : WExit E id k Q s h) : WS E (.exit id) k Q s h := WC_exit w
theorem WS_of_cond {c : AOpd} {a b : ACode} (w : WIf (c.ev s) (WS E a k Q s h) (WS E b k Q s h)) : WS E (.cond c a b) k Q s h := by
  unfold WIf at w
  split at w
  · rename_i t ht
    refine WC_cond ht ?_
    cases t <;> exact w
  · exact w.elim
theorem WS_of_loop {c : ACode} (I : Nat → S → H → Prop) (step : ∀ n s h, I n s h → WS E c [] (fun ex s h => match ex with | .normal => ∃ m, m < n ∧ I m s h | ex => fin E k Q ex s h) s h) (n : Nat) (hI : I n s h) : WS E (.loop c) k Q s h := by
  refine WC_loop I (fun n s h hI => (step n s h hI).mono ?_) n hI
  intro ex s h w
  cases ex <;> exact w
end
section
variable (E : Env) (k : List Fr1) (Q : Post) (s : S) (h : H)
theorem WNext_nil : WNext E [] Q s h = Q .normal s h := id rfl
theorem WNext_code (b : ACode) : WNext E (.code b :: k) Q s h = WS E b k Q s h := id rfl
theorem WNext_blk (id : Nat) : WNext E (.blk id :: k) Q s h = WNext E k Q s h := _root_.id rfl
theorem WExit_nil (id : Nat) : WExit E id [] Q s h = Q (.exit id) s h := _root_.id rfl
theorem WExit_code (id : Nat) (b : ACode) : WExit E id (.code b :: k) Q s h = WExit E id k Q s h := _root_.id rfl
theorem WExit_blk (id id' : Nat) : WExit E id (.blk id' :: k) Q s h = if id = id' then WNext E k Q s h else WExit E id k Q s h := by
  unfold WExit WNext
  show fin E k Q (if id = id' then .normal else .exit id) s h = _
  split <;> rfl
theorem WOK_nil : WOK E [] k Q s h = WNext E k Q s h := id rfl
theorem WOK_cons (st : AStep) (r : List AStep) : WOK E (st :: r) k Q s h = if wanted st.guard s = true then WOp E st.op s h (fun v h => WOK E r k Q (upd s st.dst v) h) (fun v h => Q (.panic v) s h) else WOK E r k Q (upd s st.dst undefA) h := by
  unfold WOK
  show (if wanted st.guard s = true then WOp E st.op s h (fun v h => WOps E r (fin E k Q) (upd s st.dst v) h) (fun v h => fin E k Q (.panic v) s h) else WOps E r (fin E k Q) (upd s st.dst undefA) h) = _
  simp only [fin_panic]
variable (Pn : AV → H → Prop)
theorem WDK_nil (pd : List Pend) : WDK E Pn [] pd k Q s h = (recheck h pd = true ∧ WNext E k Q s h) := id rfl
/-- an operation that does nothing to memory -/
theorem WDK_pure (d : DStep) (r : List DStep) (pd : List Pend) (hk : d.st.op.kind = .pure ∨ d.st.op.kind = .make) : WDK E Pn (d :: r) pd k Q s h =
    if wanted d.st.guard s = true then WOp E d.st.op s h (fun v h => WDK E Pn r pd k Q (upd s d.st.dst v) h) Pn else WDK E Pn r pd k Q (upd s d.st.dst undefA) h := by
  unfold WDK
  have h1 : d.st.op.kind ≠ .eff := by rcases hk with h | h <;> rw [h] <;> decide
  have h2 : d.st.op.kind ≠ .read := by rcases hk with h | h <;> rw [h] <;> decide
  simp only [WDraw, WDrawG, if_neg h1, if_neg h2]
  rw [WOp_plain (by revert hk; cases d.st.op <;> simp [AOp.kind, AOp.plain])]
theorem WDK_read (d : DStep) (r : List DStep) (pd : List Pend) (hk : d.st.op.kind = .read) : WDK E Pn (d :: r) pd k Q s h =
    if wanted d.st.guard s = true then WOp E d.st.op s h (fun v h => WDK E Pn r (⟨d.i, d.st.op, s, v⟩ :: pd) k Q (upd s d.st.dst v) h) Pn else WDK E Pn r pd k Q (upd s d.st.dst undefA) h := by
  unfold WDK
  have h1 : d.st.op.kind ≠ .eff := by rw [hk]; decide
  simp only [WDraw, WDrawG, if_neg h1, if_pos hk]
  rw [WOp_plain (by revert hk; cases d.st.op <;> simp [AOp.kind, AOp.plain])]
theorem WDK_eff (d : DStep) (r : List DStep) (pd : List Pend) (hk : d.st.op.kind = .eff) : WDK E Pn (d :: r) pd k Q s h =
    (recheck h pd = true ∧ if wanted d.st.guard s = true then WOp E d.st.op s h (fun v h => WDK E Pn r (pd.filter fun p => !d.bef.testBit p.i) k Q (upd s d.st.dst v) h) Pn else WDK E Pn r (pd.filter fun p => !d.bef.testBit p.i) k Q (upd s d.st.dst undefA) h) := by
  unfold WDK
  simp only [WDraw, WDrawG, if_pos hk]
  rfl
theorem WIf_bool (t : Bool) (A B : Prop) : WIf (.bool t) A B = if t = true then A else B := id rfl
theorem atEnd_normal (rs : List ARes) (R : AOut → H → Prop) : atEnd rs R .normal s h = WV (resultsA rs s h) fun v => R (.val v) h := WX_pair _ _ _
theorem atEnd_ret (rs : List ARes) (R : AOut → H → Prop) : atEnd rs R .ret s h = WV (resultsA rs s h) fun v => R (.val v) h := WX_pair _ _ _
theorem atEnd_panic (rs : List ARes) (R : AOut → H → Prop) (v : AV) : atEnd rs R (.panic v) s h = R (.panic v) h := id rfl
end
theorem fin_exit (E : Env) (k : List Fr1) (Q : Post) (s : S) (h : H) (i : Nat) : fin E k Q (.exit i) s h = WExit E i k Q s h := id rfl
attribute [go_sem] fin_exit fin_ret fin_panic WNext_nil WNext_code WNext_blk WExit_nil WExit_code WExit_blk WOK_nil WDK_nil WIf_bool atEnd_normal atEnd_ret atEnd_panic
@[go_sem] theorem recheck_nil (h : H) : recheck h [] = true := id rfl
@[go_sem] theorem res_one (s : S) (h : H) (t : Nat) : resultsA [.tmp t] s h = some (s t) := id rfl
@[go_sem] theorem res_two (s : S) (h : H) (t u : Nat) : resultsA [.tmp t, .tmp u] s h = some (.tup [s t, s u]) := id rfl
@[go_sem] theorem res_three (s : S) (h : H) (t u x : Nat) : resultsA [.tmp t, .tmp u, .tmp x] s h = some (.tup [s t, s u, s x]) := id rfl
@[go_sem] theorem res_no (s : S) (h : H) : resultsA [] s h = some (.tup []) := id rfl
@[go_sem] theorem kind_mov (x : AOpd) : (AOp.mov x).kind = .pure := _root_.id rfl
@[go_sem] theorem kind_pick (c a b : AOpd) : (AOp.pick c a b).kind = .pure := _root_.id rfl
@[go_sem] theorem kind_alloc (zero : List AV) : (AOp.alloc zero).kind = .make := _root_.id rfl
@[go_sem] theorem kind_box (x : AOpd) : (AOp.box x).kind = .make := _root_.id rfl
@[go_sem] theorem kind_build (zero : List AV) (parts : List (Nat × Nat × AOpd)) : (AOp.build zero parts).kind = .pure := _root_.id rfl
@[go_sem] theorem kind_buildSlice (es len : Nat) (zero : List AV) (parts : List (Nat × Nat × AOpd)) : (AOp.buildSlice es len zero parts).kind = .make := _root_.id rfl
@[go_sem] theorem kind_load (agg : Bool) (n : Nat) (x : AOpd) : (AOp.load agg n x).kind = .read := _root_.id rfl
@[go_sem] theorem kind_store (n : Nat) (x v : AOpd) : (AOp.store n x v).kind = .eff := _root_.id rfl
@[go_sem] theorem kind_nilCheck (x : AOpd) : (AOp.nilCheck x).kind = .pure := _root_.id rfl
@[go_sem] theorem kind_bin (op : BinOp) (x y : AOpd) : (AOp.bin op x y).kind = .pure := _root_.id rfl
@[go_sem] theorem kind_eq (k : AEq) (neg : Bool) (x y : AOpd) : (AOp.eq k neg x y).kind = .pure := _root_.id rfl
@[go_sem] theorem kind_not (x : AOpd) : (AOp.not x).kind = .pure := _root_.id rfl
@[go_sem] theorem kind_neg (x : AOpd) : (AOp.neg x).kind = .pure := _root_.id rfl
@[go_sem] theorem kind_cvInt (k : IntKind) (x : AOpd) : (AOp.cvInt k x).kind = .pure := _root_.id rfl
@[go_sem] theorem kind_cvSame (x : AOpd) : (AOp.cvSame x).kind = .pure := _root_.id rfl
@[go_sem] theorem kind_cvS2B (x : AOpd) : (AOp.cvS2B x).kind = .make := _root_.id rfl
@[go_sem] theorem kind_cvB2S (x : AOpd) : (AOp.cvB2S x).kind = .read := _root_.id rfl
@[go_sem] theorem kind_cvB2B (x : AOpd) : (AOp.cvB2B x).kind = .eff := _root_.id rfl
@[go_sem] theorem kind_sliceS (es : Nat) (x : AOpd) (lo hi : Option AOpd) : (AOp.sliceS es x lo hi).kind = .pure := _root_.id rfl
@[go_sem] theorem kind_slice3 (es : Nat) (x : AOpd) (lo : Option AOpd) (hi mx : AOpd) : (AOp.slice3 es x lo hi mx).kind = .pure := _root_.id rfl
@[go_sem] theorem kind_sliceT (x : AOpd) (lo hi : Option AOpd) : (AOp.sliceT x lo hi).kind = .pure := _root_.id rfl
@[go_sem] theorem kind_sliceA (es n : Nat) (x : AOpd) (lo hi : Option AOpd) : (AOp.sliceA es n x lo hi).kind = .read := _root_.id rfl
@[go_sem] theorem kind_fieldAddr (off : Nat) (x : AOpd) : (AOp.fieldAddr off x).kind = .pure := _root_.id rfl
@[go_sem] theorem kind_field (agg : Bool) (off n : Nat) (x : AOpd) : (AOp.field agg off n x).kind = .pure := _root_.id rfl
@[go_sem] theorem kind_indexAddr (es : Nat) (x i : AOpd) : (AOp.indexAddr es x i).kind = .pure := _root_.id rfl
@[go_sem] theorem kind_indexArr (es n : Nat) (x i : AOpd) : (AOp.indexArr es n x i).kind = .pure := _root_.id rfl
@[go_sem] theorem kind_indexStr (x i : AOpd) : (AOp.indexStr x i).kind = .pure := _root_.id rfl
@[go_sem] theorem kind_indexAgg (agg : Bool) (es n : Nat) (x i : AOpd) : (AOp.indexAgg agg es n x i).kind = .pure := _root_.id rfl
@[go_sem] theorem kind_extract (x : AOpd) (i : Nat) : (AOp.extract x i).kind = .pure := _root_.id rfl
@[go_sem] theorem kind_len (x : AOpd) : (AOp.len x).kind = .pure := _root_.id rfl
@[go_sem] theorem kind_lenT (x : AOpd) : (AOp.lenT x).kind = .pure := _root_.id rfl
@[go_sem] theorem kind_lenC (n : Nat) : (AOp.lenC n).kind = .pure := _root_.id rfl
@[go_sem] theorem kind_append (es : Nat) (x y : AOpd) : (AOp.append es x y).kind = .eff := _root_.id rfl
@[go_sem] theorem kind_copy (es : Nat) (x y : AOpd) : (AOp.copy es x y).kind = .eff := _root_.id rfl
@[go_sem] theorem kind_min (x y : AOpd) : (AOp.min x y).kind = .pure := _root_.id rfl
@[go_sem] theorem kind_max (x y : AOpd) : (AOp.max x y).kind = .pure := _root_.id rfl
@[go_sem] theorem kind_makeFunc (f : Nat) (cs : List AOpd) : (AOp.makeFunc f cs).kind = .pure := _root_.id rfl
@[go_sem] theorem kind_makeSlice (es bytes : Nat) (zero : List AV) (len cap : AOpd) : (AOp.makeSlice es bytes zero len cap).kind = .make := _root_.id rfl
@[go_sem] theorem kind_makeIface (t : Nat) (x : AOpd) : (AOp.makeIface t x).kind = .pure := _root_.id rfl
@[go_sem] theorem kind_makeMeth (f : Nat) (x : AOpd) : (AOp.makeMeth f x).kind = .pure := _root_.id rfl
@[go_sem] theorem kind_makeMap : AOp.makeMap.kind = .eff := _root_.id rfl
@[go_sem] theorem kind_mapPut (kk : KTy) (m k v : AOpd) : (AOp.mapPut kk m k v).kind = .eff := _root_.id rfl
@[go_sem] theorem kind_mapDel (kk : KTy) (m k : AOpd) : (AOp.mapDel kk m k).kind = .eff := _root_.id rfl
@[go_sem] theorem kind_mapGet (kk : KTy) (ok : Bool) (z : AV) (m k : AOpd) : (AOp.mapGet kk ok z m k).kind = .read := _root_.id rfl
@[go_sem] theorem kind_lenM (x : AOpd) : (AOp.lenM x).kind = .read := _root_.id rfl
@[go_sem] theorem kind_rangeT (x : AOpd) : (AOp.rangeT x).kind = .eff := _root_.id rfl
@[go_sem] theorem kind_nextT (x : AOpd) : (AOp.nextT x).kind = .eff := _root_.id rfl
@[go_sem] theorem kind_rangeM (x : AOpd) : (AOp.rangeM x).kind = .eff := _root_.id rfl
@[go_sem] theorem kind_nextM (x : AOpd) : (AOp.nextM x).kind = .eff := _root_.id rfl
@[go_sem] theorem kind_entryM (x : AOpd) : (AOp.entryM x).kind = .read := _root_.id rfl
@[go_sem] theorem kind_assert (t : Nat) (z : AV) (ok : Bool) (x : AOpd) : (AOp.assert t z ok x).kind = .pure := _root_.id rfl
@[go_sem] theorem kind_cvR2S (x : AOpd) : (AOp.cvR2S x).kind = .pure := _root_.id rfl
@[go_sem] theorem kind_clear (es : Nat) (z : List AV) (x : AOpd) : (AOp.clear es z x).kind = .eff := _root_.id rfl
@[go_sem] theorem kind_call (f : AOpd) (args : List AOpd) : (AOp.call f args).kind = .eff := _root_.id rfl
@[go_sem] theorem kind_panic (x : AOpd) : (AOp.panic x).kind = .eff := _root_.id rfl
/-- what is behind an operation: the steps that are left -/
inductive Kt where
  | ops (d : Option Nat) (r : List AStep) (k : List Fr1) (Q : Post) (s : S)
  | draw (Pn : AV → H → Prop) (d : Option Nat) (r : List DStep) (pd : List Pend) (k : List Fr1) (Q : Post) (s : S)
  | read (Pn : AV → H → Prop) (i : Nat) (op : AOp) (d : Option Nat) (r : List DStep) (pd : List Pend) (k : List Fr1) (Q : Post) (s : S)
def Kt.run (E : Env) : Kt → AV → H → Prop
  | .ops d r k Q s, v, h => WOK E r k Q (upd s d v) h
  | .draw Pn d r pd k Q s, v, h => WDK E Pn r pd k Q (upd s d v) h
  | .read Pn i op d r pd k Q s, v, h => WDK E Pn r (⟨i, op, s, v⟩ :: pd) k Q (upd s d v) h
def Kt.pan : Kt → AV → H → Prop
  | .ops d r k Q s, v, h => Q (.panic v) s h
  | .draw Pn d r pd k Q s, v, h => Pn v h
  | .read Pn i op d r pd k Q s, v, h => Pn v h
def WSt (E : Env) (op : AOp) (s : S) (h : H) (κ : Kt) : Prop := WOp E op s h (κ.run E) κ.pan
def WT (E : Env) (x : Option AV) (h : H) (κ : Kt) : Prop := WV x fun v => κ.run E v h
def WTH (E : Env) (x : Option (AV × H)) (κ : Kt) : Prop := WX x (κ.run E)
def Kt.out (E : Env) (κ : Kt) : AOut → H → Prop := onOut (κ.run E) κ.pan
def WFn (E : Env) (f : AV) (args : List AV) (h : H) (κ : Kt) : Prop := WFun E f args h (κ.out E)
section
variable (E : Env) (s : S) (h : H) (κ : Kt)
@[go_sem] theorem Kt_run_ops (d : Option Nat) (r : List AStep) (k : List Fr1) (Q : Post) (v : AV) : Kt.run E (.ops d r k Q s) v h = WOK E r k Q (upd s d v) h := id rfl
@[go_sem] theorem Kt_run_draw (Pn : AV → H → Prop) (d : Option Nat) (r : List DStep) (pd : List Pend) (k : List Fr1) (Q : Post) (v : AV) : Kt.run E (.draw Pn d r pd k Q s) v h = WDK E Pn r pd k Q (upd s d v) h := id rfl
@[go_sem] theorem Kt_pan_draw (Pn : AV → H → Prop) (d : Option Nat) (r : List DStep) (pd : List Pend) (k : List Fr1) (Q : Post) (v : AV) : Kt.pan (.draw Pn d r pd k Q s) v h = Pn v h := id rfl
@[go_sem] theorem noPan_is (v : AV) : noPan v h = False := id rfl
@[go_sem] theorem Kt_run_read (Pn : AV → H → Prop) (i : Nat) (op : AOp) (d : Option Nat) (r : List DStep) (pd : List Pend) (k : List Fr1) (Q : Post) (v : AV) : Kt.run E (.read Pn i op d r pd k Q s) v h = WDK E Pn r (⟨i, op, s, v⟩ :: pd) k Q (upd s d v) h := id rfl
@[go_sem] theorem Kt_pan_ops (d : Option Nat) (r : List AStep) (k : List Fr1) (Q : Post) (v : AV) : Kt.pan (.ops d r k Q s) v h = Q (.panic v) s h := id rfl
@[go_sem] theorem Kt_out_val (v : AV) : Kt.out E κ (.val v) h = κ.run E v h := id rfl
@[go_sem] theorem Kt_out_panic (v : AV) : Kt.out E κ (.panic v) h = κ.pan v h := id rfl
@[go_sem] theorem WT_some (v : AV) : WT E (some v) h κ = κ.run E v h := id rfl
@[go_sem] theorem WT_none : WT E none h κ = False := id rfl
@[go_sem] theorem WTH_some (v : AV) : WTH E (some (v, h)) κ = κ.run E v h := id rfl
@[go_sem] theorem WTH_none : WTH E none κ = False := id rfl
@[go_sem] theorem WT_ite (c : Prop) [Decidable c] (x : Option AV) : WT E (if c then x else none) h κ = (c ∧ WT E x h κ) := by
  by_cases h : c <;> simp [h, WT, WV]
@[go_sem] theorem WT_ite' (c : Prop) [Decidable c] (x : Option AV) : WT E (if c then none else x) h κ = (¬ c ∧ WT E x h κ) := by
  by_cases h : c <;> simp [h, WT, WV]
theorem WT_of {x : Option AV} {v : AV} (e : x = some v) (k : κ.run E v h) : WT E x h κ := by rw [e]; exact k
theorem WTH_of {x : Option (AV × H)} {v : AV} (e : x = some (v, h)) (k : κ.run E v h) : WTH E x κ := by rw [e]; exact k
@[go_sem] theorem WSt_mov (x : AOpd) : WSt E (.mov x) s h κ = κ.run E (x.ev s) h := WOp_mov E s h (κ.run E) κ.pan x
@[go_sem] theorem WSt_pick (c a b : AOpd) : WSt E (.pick c a b) s h κ = WT E (pickA (c.ev s) (a.ev s) (b.ev s)) h κ := WOp_pick E s h (κ.run E) κ.pan c a b
@[go_sem] theorem WSt_alloc (z : List AV) : WSt E (.alloc z) s h κ = κ.run E (.ptr h.n 0) (h.new z) := WOp_alloc E s h (κ.run E) κ.pan z
@[go_sem] theorem WSt_box (x : AOpd) : WSt E (.box x) s h κ = κ.run E (.ptr h.n 0) (h.new (x.ev s).cells) := WOp_box E s h (κ.run E) κ.pan x
@[go_sem] theorem WSt_build (z : List AV) (ps : List (Nat × Nat × AOpd)) : WSt E (.build z ps) s h κ = WT E ((afill z (parts s ps)).map AV.agg) h κ := WOp_build E s h (κ.run E) κ.pan z ps
@[go_sem] theorem WSt_buildSlice (es n : Nat) (z : List AV) (ps : List (Nat × Nat × AOpd)) : WSt E (.buildSlice es n z ps) s h κ = match afill (zeros z (n * es)) (parts s ps) with | some cs => κ.run E (.slice h.n 0 n es) (h.new cs) | none => False := WOp_buildSlice E s h (κ.run E) κ.pan es n z ps
@[go_sem] theorem WSt_load (agg : Bool) (n : Nat) (x : AOpd) : WSt E (.load agg n x) s h κ = WT E (loadA h agg n (x.ev s)) h κ := WOp_load E s h (κ.run E) κ.pan agg n x
@[go_sem] theorem WSt_store (n : Nat) (x v : AOpd) : WSt E (.store n x v) s h κ = match storeA h n (x.ev s) (v.ev s) with | some h' => κ.run E undefA h' | none => False := WOp_store E s h (κ.run E) κ.pan n x v
@[go_sem] theorem WSt_nilCheck (x : AOpd) : WSt E (.nilCheck x) s h κ = WT E (nilCheckA (x.ev s)) h κ := WOp_nilCheck E s h (κ.run E) κ.pan x
@[go_sem] theorem WSt_bin (op : BinOp) (x y : AOpd) : WSt E (.bin op x y) s h κ = WT E (binA op (x.ev s) (y.ev s)) h κ := WOp_bin E s h (κ.run E) κ.pan op x y
@[go_sem] theorem WSt_eq (k : AEq) (neg : Bool) (x y : AOpd) : WSt E (.eq k neg x y) s h κ = WT E ((eqA k (x.ev s) (y.ev s)).map fun b => .bool (if neg then !b else b)) h κ := WOp_eq E s h (κ.run E) κ.pan k neg x y
@[go_sem] theorem WSt_not (x : AOpd) : WSt E (.not x) s h κ = WT E (notA (x.ev s)) h κ := WOp_not E s h (κ.run E) κ.pan x
@[go_sem] theorem WSt_neg (x : AOpd) : WSt E (.neg x) s h κ = WT E (negA (x.ev s)) h κ := WOp_neg E s h (κ.run E) κ.pan x
@[go_sem] theorem WSt_cvInt (k : IntKind) (x : AOpd) : WSt E (.cvInt k x) s h κ = WT E (cvIntA k (x.ev s)) h κ := WOp_cvInt E s h (κ.run E) κ.pan k x
@[go_sem] theorem WSt_cvSame (x : AOpd) : WSt E (.cvSame x) s h κ = WT E (cvSameA (x.ev s)) h κ := WOp_cvSame E s h (κ.run E) κ.pan x
@[go_sem] theorem WSt_cvS2B (x : AOpd) : WSt E (.cvS2B x) s h κ = WTH E (cvS2BA h (x.ev s)) κ := WOp_cvS2B E s h (κ.run E) κ.pan x
@[go_sem] theorem WSt_cvB2S (x : AOpd) : WSt E (.cvB2S x) s h κ = WT E (cvB2SA h (x.ev s)) h κ := WOp_cvB2S E s h (κ.run E) κ.pan x
@[go_sem] theorem WSt_cvB2B (x : AOpd) : WSt E (.cvB2B x) s h κ = WT E (cvB2BA h (x.ev s)) h κ := WOp_cvB2B E s h (κ.run E) κ.pan x
@[go_sem] theorem WSt_sliceS (es : Nat) (x : AOpd) (lo hi : Option AOpd) : WSt E (.sliceS es x lo hi) s h κ = WT E (sliceSA es (lo.map (·.ev s)) (hi.map (·.ev s)) (x.ev s)) h κ := WOp_sliceS E s h (κ.run E) κ.pan es x lo hi
@[go_sem] theorem WSt_slice3 (es : Nat) (x : AOpd) (lo : Option AOpd) (hi mx : AOpd) : WSt E (.slice3 es x lo hi mx) s h κ = WT E (slice3A es (lo.map (·.ev s)) (hi.ev s) (mx.ev s) (x.ev s)) h κ := WOp_slice3 E s h (κ.run E) κ.pan es x lo hi mx
@[go_sem] theorem WSt_sliceT (x : AOpd) (lo hi : Option AOpd) : WSt E (.sliceT x lo hi) s h κ = WT E (sliceTA (lo.map (·.ev s)) (hi.map (·.ev s)) (x.ev s)) h κ := WOp_sliceT E s h (κ.run E) κ.pan x lo hi
@[go_sem] theorem WSt_sliceA (es n : Nat) (x : AOpd) (lo hi : Option AOpd) : WSt E (.sliceA es n x lo hi) s h κ = WT E (sliceAA h es n (lo.map (·.ev s)) (hi.map (·.ev s)) (x.ev s)) h κ := WOp_sliceA E s h (κ.run E) κ.pan es n x lo hi
@[go_sem] theorem WSt_fieldAddr (off : Nat) (x : AOpd) : WSt E (.fieldAddr off x) s h κ = WT E (fieldAddrA off (x.ev s)) h κ := WOp_fieldAddr E s h (κ.run E) κ.pan off x
@[go_sem] theorem WSt_field (agg : Bool) (off n : Nat) (x : AOpd) : WSt E (.field agg off n x) s h κ = WT E (fieldA agg off n (x.ev s)) h κ := WOp_field E s h (κ.run E) κ.pan agg off n x
@[go_sem] theorem WSt_indexAddr (es : Nat) (x i : AOpd) : WSt E (.indexAddr es x i) s h κ = WT E (indexAddrA es (x.ev s) (i.ev s)) h κ := WOp_indexAddr E s h (κ.run E) κ.pan es x i
@[go_sem] theorem WSt_indexArr (es k : Nat) (x i : AOpd) : WSt E (.indexArr es k x i) s h κ = WT E (indexArrA es k (x.ev s) (i.ev s)) h κ := WOp_indexArr E s h (κ.run E) κ.pan es k x i
@[go_sem] theorem WSt_indexStr (x i : AOpd) : WSt E (.indexStr x i) s h κ = WT E (indexStrA (x.ev s) (i.ev s)) h κ := WOp_indexStr E s h (κ.run E) κ.pan x i
@[go_sem] theorem WSt_indexAgg (agg : Bool) (es k : Nat) (x i : AOpd) : WSt E (.indexAgg agg es k x i) s h κ = WT E (indexAggA agg es k (x.ev s) (i.ev s)) h κ := WOp_indexAgg E s h (κ.run E) κ.pan agg es k x i
@[go_sem] theorem WSt_extract (x : AOpd) (i : Nat) : WSt E (.extract x i) s h κ = WT E (extractA i (x.ev s)) h κ := WOp_extract E s h (κ.run E) κ.pan x i
@[go_sem] theorem WSt_len (x : AOpd) : WSt E (.len x) s h κ = WT E ((lenSA (x.ev s)).map fun (n : Nat) => .int .i64 (n : Int)) h κ := WOp_len E s h (κ.run E) κ.pan x
@[go_sem] theorem WSt_lenT (x : AOpd) : WSt E (.lenT x) s h κ = WT E ((lenTA (x.ev s)).map fun (n : Nat) => .int .i64 (n : Int)) h κ := WOp_lenT E s h (κ.run E) κ.pan x
@[go_sem] theorem WSt_lenC (n : Nat) : WSt E (.lenC n) s h κ = κ.run E (.int .i64 n) h := WOp_lenC E s h (κ.run E) κ.pan n
@[go_sem] theorem WSt_append (es : Nat) (x y : AOpd) : WSt E (.append es x y) s h κ = WTH E (appendA h es (x.ev s) (y.ev s)) κ := WOp_append E s h (κ.run E) κ.pan es x y
@[go_sem] theorem WSt_copy (es : Nat) (x y : AOpd) : WSt E (.copy es x y) s h κ = WTH E (copyA h es (x.ev s) (y.ev s)) κ := WOp_copy E s h (κ.run E) κ.pan es x y
@[go_sem] theorem WSt_min (x y : AOpd) : WSt E (.min x y) s h κ = WT E (minA (x.ev s) (y.ev s)) h κ := WOp_min E s h (κ.run E) κ.pan x y
@[go_sem] theorem WSt_max (x y : AOpd) : WSt E (.max x y) s h κ = WT E (maxA (x.ev s) (y.ev s)) h κ := WOp_max E s h (κ.run E) κ.pan x y
@[go_sem] theorem WSt_makeFunc (f : Nat) (cs : List AOpd) : WSt E (.makeFunc f cs) s h κ = κ.run E (.func f (cs.map (·.ev s))) h := WOp_makeFunc E s h (κ.run E) κ.pan f cs
@[go_sem] theorem WSt_makeSlice (es bytes : Nat) (z : List AV) (l c : AOpd) : WSt E (.makeSlice es bytes z l c) s h κ = WTH E (makeSliceA h es bytes z (l.ev s) (c.ev s)) κ := WOp_makeSlice E s h (κ.run E) κ.pan es bytes z l c
@[go_sem] theorem WSt_makeIface (t : Nat) (x : AOpd) : WSt E (.makeIface t x) s h κ = κ.run E (.iface t (x.ev s)) h := WOp_makeIface E s h (κ.run E) κ.pan t x
@[go_sem] theorem WSt_call (f : AOpd) (args : List AOpd) : WSt E (.call f args) s h κ = WFn E (f.ev s) (args.map (·.ev s)) h κ := id rfl
@[go_sem] theorem WSt_makeMeth (f : Nat) (x : AOpd) : WSt E (.makeMeth f x) s h κ = κ.run E (.meth f (x.ev s)) h := WOp_makeMeth E s h (κ.run E) κ.pan f x
@[go_sem] theorem WSt_makeMap : WSt E .makeMap s h κ = κ.run E (.map h.n) (h.push (.mem (.map [] 0))) := WOp_makeMap E s h (κ.run E) κ.pan
@[go_sem] theorem WSt_mapPut (kk : KTy) (m k v : AOpd) : WSt E (.mapPut kk m k v) s h κ = WTH E ((mapPutA h kk (k.ev s) (v.ev s) (m.ev s)).map (undefA, ·)) κ := WOp_mapPut E s h (κ.run E) κ.pan kk m k v
@[go_sem] theorem WSt_mapDel (kk : KTy) (m k : AOpd) : WSt E (.mapDel kk m k) s h κ = WTH E ((mapDelA h kk (k.ev s) (m.ev s)).map (.tup [], ·)) κ := WOp_mapDel E s h (κ.run E) κ.pan kk m k
@[go_sem] theorem WSt_mapGet (kk : KTy) (ok : Bool) (z : AV) (m k : AOpd) : WSt E (.mapGet kk ok z m k) s h κ = WT E (mapGetA h kk ok z (k.ev s) (m.ev s)) h κ := WOp_mapGet E s h (κ.run E) κ.pan kk ok z m k
@[go_sem] theorem WSt_lenM (x : AOpd) : WSt E (.lenM x) s h κ = WT E ((lenMA h (x.ev s)).map fun (n : Nat) => .int .i64 (n : Int)) h κ := WOp_lenM E s h (κ.run E) κ.pan x
@[go_sem] theorem WSt_rangeT (x : AOpd) : WSt E (.rangeT x) s h κ = WTH E (rangeTA h (x.ev s)) κ := WOp_rangeT E s h (κ.run E) κ.pan x
@[go_sem] theorem WSt_nextT (x : AOpd) : WSt E (.nextT x) s h κ = WTH E (nextTA h (x.ev s)) κ := WOp_nextT E s h (κ.run E) κ.pan x
@[go_sem] theorem WSt_rangeM (x : AOpd) : WSt E (.rangeM x) s h κ = WTH E (rangeMA h (x.ev s)) κ := WOp_rangeM E s h (κ.run E) κ.pan x
@[go_sem] theorem WSt_nextM (x : AOpd) : WSt E (.nextM x) s h κ = nextP h (κ.run E) (x.ev s) := WOp_nextM E s h (κ.run E) κ.pan x
@[go_sem] theorem WSt_entryM (x : AOpd) : WSt E (.entryM x) s h κ = WT E (entryMA h (x.ev s)) h κ := WOp_entryM E s h (κ.run E) κ.pan x
@[go_sem] theorem WSt_assert (t : Nat) (z : AV) (ok : Bool) (x : AOpd) : WSt E (.assert t z ok x) s h κ = WT E (assertA t z ok (x.ev s)) h κ := WOp_assert E s h (κ.run E) κ.pan t z ok x
@[go_sem] theorem WSt_cvR2S (x : AOpd) : WSt E (.cvR2S x) s h κ = WT E (cvR2SA (x.ev s)) h κ := WOp_cvR2S E s h (κ.run E) κ.pan x
@[go_sem] theorem WSt_clear (es : Nat) (z : List AV) (x : AOpd) : WSt E (.clear es z x) s h κ = WTH E ((clearA h es z (x.ev s)).map (.tup [], ·)) κ := WOp_clear E s h (κ.run E) κ.pan es z x
@[go_sem] theorem WSt_panic (x : AOpd) : WSt E (.panic x) s h κ = match x.ev s with | .iface t v => κ.pan (.iface t v) h | _ => False := id rfl
@[go_sem] theorem WFn_func (g : Nat) (cs args : List AV) : WFn E (.func g cs) args h κ = WCall E g (args ++ cs) h (κ.out E) := id rfl
@[go_sem] theorem WFn_meth (g : Nat) (v : AV) (args : List AV) : WFn E (.meth g v) args h κ = WCall E g (v :: args) h (κ.out E) := id rfl
@[go_sem] theorem WFn_yield (o : Nat) (args : List AV) : WFn E (.yield o) args h κ = WYield E o args h (κ.out E) := id rfl
@[go_sem] theorem WOK_cons1 (st : AStep) (r : List AStep) (k : List Fr1) (Q : Post) : WOK E (st :: r) k Q s h = if wanted st.guard s = true then WSt E st.op s h (.ops st.dst r k Q s) else WOK E r k Q (upd s st.dst undefA) h := WOK_cons E k Q s h st r
@[go_sem] theorem WDK_pure1 (d : DStep) (Pn : AV → H → Prop) (r : List DStep) (pd : List Pend) (k : List Fr1) (Q : Post) (hk : d.st.op.kind = .pure) : WDK E Pn (d :: r) pd k Q s h =
    if wanted d.st.guard s = true then WSt E d.st.op s h (.draw Pn d.st.dst r pd k Q s) else WDK E Pn r pd k Q (upd s d.st.dst undefA) h := WDK_pure E k Q s h Pn d r pd (.inl hk)
@[go_sem] theorem WDK_make1 (d : DStep) (Pn : AV → H → Prop) (r : List DStep) (pd : List Pend) (k : List Fr1) (Q : Post) (hk : d.st.op.kind = .make) : WDK E Pn (d :: r) pd k Q s h =
    if wanted d.st.guard s = true then WSt E d.st.op s h (.draw Pn d.st.dst r pd k Q s) else WDK E Pn r pd k Q (upd s d.st.dst undefA) h := WDK_pure E k Q s h Pn d r pd (.inr hk)
@[go_sem] theorem WDK_read1 (d : DStep) (Pn : AV → H → Prop) (r : List DStep) (pd : List Pend) (k : List Fr1) (Q : Post) (hk : d.st.op.kind = .read) : WDK E Pn (d :: r) pd k Q s h =
    if wanted d.st.guard s = true then WSt E d.st.op s h (.read Pn d.i d.st.op d.st.dst r pd k Q s) else WDK E Pn r pd k Q (upd s d.st.dst undefA) h := WDK_read E k Q s h Pn d r pd hk
@[go_sem] theorem WDK_eff1 (d : DStep) (Pn : AV → H → Prop) (r : List DStep) (pd : List Pend) (k : List Fr1) (Q : Post) (hk : d.st.op.kind = .eff) : WDK E Pn (d :: r) pd k Q s h =
    (recheck h pd = true ∧ if wanted d.st.guard s = true then WSt E d.st.op s h (.draw Pn d.st.dst r (pd.filter fun p => !d.bef.testBit p.i) k Q s) else WDK E Pn r (pd.filter fun p => !d.bef.testBit p.i) k Q (upd s d.st.dst undefA) h) := WDK_eff E k Q s h Pn d r pd hk
end
def EN : Env := { T := fun _ => none, ov := fun _ => none }
@[go_sem] theorem recheck_cons (h : H) (i : Nat) (op : AOp) (s : S) (v : AV) (r : List Pend) (hk : op.kind = .read) : (recheck h (⟨i, op, s, v⟩ :: r) = true) = (WOp EN op s h (fun u _ => u = v) (fun _ _ => False) ∧ recheck h r = true) := by
  rw [WOp_plain (by revert hk; cases op <;> simp [AOp.kind, AOp.plain])]
  simp only [recheck, Bool.and_eq_true, WX]
  cases exec op s h with
  | none => simp
  | some x =>
    simp only
    congr 1
    apply propext
    exact ⟨AV.beq_eq, fun e => by rw [e]; exact AV.beq_refl _⟩
theorem WCall_ws {E : Env} {f : Nat} {fn : AFunc} {args : List AV} {h : H} {R : AOut → H → Prop} (ho : E.ov f = none) (hT : E.T f = some fn) (hl : args.length ≤ fn.ntmps) (w : WS E fn.body [] (atEnd fn.results R) (enterS args) h) : WCall E f args h R :=
  WCall_fn ho hT hl w
end Go.Proofs.YtlbaphapjclkdaaGreatDoor.Ev

/- Arguments: slices that are read alone. -/
namespace Go.Proofs.YtlbaphapjclkdaaGreatDoor.Ev
set_option linter.unusedVariables false
set_option linter.unusedSimpArgs false

theorem H.Wf.push_ro {h : H} (wf : h.Wf) {x : AObj} (hx : ∀ cs g, x ≠ .cells cs (some g)) : (h.push x).Wf := by
  refine ⟨fun g p hg => Nat.lt_succ_of_lt (wf.gr g p hg), fun o cs' g hg => ?_, fun o y hg => ?_, wf.kt, wf.tl_push _⟩
  · rw [H.get_push] at hg
    split at hg
    · cases hg; exact absurd rfl (hx _ _)
    · exact wf.mem o cs' g hg
  · rw [H.get_push] at hg
    split at hg
    · rename_i e; subst e; exact Nat.lt_succ_self _
    · exact Nat.lt_succ_of_lt (wf.ob o y hg)
theorem Keep.push {h : H} {x : AObj} (hx : ∀ cs g, x ≠ .cells cs (some g)) : Keep (Old h.n) h (h.push x) where
  wf := fun w => w.push_ro hx
  n := Nat.le_succ _
  get := fun o ho => by rw [H.get_push, if_neg (Nat.ne_of_lt ho)]
  tip := fun _ _ => rfl
  kill := fun _ _ => rfl

section
variable {B0 : Nat} {P : Program}
/-- what is known of a slice that is an argument -/
def ArgRow (B0 : Nat) (m : M) (W : World) (es : Nat) (a : Option Addr) (len cap : Nat) (cs : List AV) : Prop :=
  (a = none ∧ len = 0 ∧ cap = 0 ∧ cs = []) ∨
  ∃ x, a = some x ∧ x.block < B0 ∧ len ≤ cap ∧ cs.length = cap * es ∧ ∀ (i : Nat) (u : AV), cs[i]? = some u → ∃ v, W.cell? (x.add i) = some v ∧ VRel m u v

theorem open_arg {m : M} {h : H} {W : World} (r : Rel P B0 m h W) {es : Nat} (hes : 0 < es) {a : Option Addr} {len cap : Nat} {cs : List AV} (q : ArgRow B0 m W es a len cap cs) :
    ∃ m' h' v, Rel P B0 m' h' W ∧ M.le m m' ∧ Keep (Old h.n) h h' ∧ VRel m' v (.slice a len cap) ∧ Sl h' es v len (cs.take (len * es)) ∧ Slot (Old h'.n) h' v := by
  rcases q with ⟨rfl, rfl, rfl, rfl⟩ | ⟨x, rfl, hx, hle, hlen, hcell⟩
  · exact ⟨m, h, .nils, r, M.le_refl m, Keep.refl _ _, .nils, by simpa using Sl.nil h es, trivial⟩
  · by_cases h0 : cap = 0
    · subst h0
      have hl0 : len = 0 := by omega
      subst hl0
      obtain ⟨r1, l1⟩ := r.pushOther (b := x.block) (base := 0) (sz := 0) hx
      refine ⟨_, _, .slice h.n 0 0 es, r1, l1, Keep.push (by intro _ _ e; cases e), .slice0 0 es x (x.block, 0, 0) (by unfold M.set; rw [if_pos rfl]), ⟨rfl, ?_⟩, ?_⟩
      · simp only [H.firstCells]
        have : (h.push .other).row h.n = none := by unfold H.row; rw [H.get_push, if_pos rfl]
        rw [this]
        simp
      · exact ⟨Nat.lt_succ_self _, fun cs g e => by rw [H.get_push, if_pos rfl] at e; cases e⟩
    · have hpos : 0 < cs.length := by rw [hlen]; exact Nat.mul_pos (by omega) hes
      obtain ⟨v0, hv0, _⟩ := hcell 0 cs[0] (by simp [hpos])
      have hspot : x.spot = none ∧ ∃ CS e fr, W.heap[x.block]? = some (.cells CS e fr) := by
        unfold World.cell? at hv0
        split at hv0
        · rename_i CS e fr hb
          split at hv0
          · cases hv0
          · rename_i hs
            refine ⟨by simpa [Addr.add] using hs, CS, e, fr, by simpa [Addr.add] using hb⟩
        · cases hv0
      obtain ⟨hs, CS, e, fr, hb⟩ := hspot
      have hxe : ∀ i, x.add i = ⟨x.block, x.off + i, none⟩ := fun i => by
        cases x; simp only at hs; subst hs; simp [Addr.add]
      have hcell' : ∀ (i : Nat) (u : AV), cs[i]? = some u → ∃ v, W.cell? ⟨x.block, x.off + i, none⟩ = some v ∧ VRel m u v := fun i u hu => by
        obtain ⟨v, h1, h2⟩ := hcell i u hu
        exact ⟨v, by rw [← hxe]; exact h1, h2⟩
      have hfit : x.off + cs.length ≤ CS.size := by
        obtain ⟨v, h1, _⟩ := hcell' (cs.length - 1) cs[cs.length - 1] (by simp)
        unfold World.cell? at h1
        simp only [hb] at h1
        have := (Array.getElem?_eq_some_iff.1 (by simpa using h1)).1
        omega
      obtain ⟨r1, l1⟩ := r.pushRo hx hb rfl hfit hcell'
      have hrow : (h.push (.cells cs none)).row h.n = some cs := by unfold H.row; rw [H.get_push, if_pos rfl]
      have hv : VRel (m.set h.n (x.block, x.off, CS.size)) (.slice h.n 0 len es) (.slice (some x) len cap) := by
        have := VRel.slice (m := m.set h.n (x.block, x.off, CS.size)) (o := h.n) (b := x.block) (base := x.off) (sz := CS.size) 0 len es cap (by unfold M.set; rw [if_pos rfl]) hle (by rw [← hlen]; omega)
        rw [← hxe 0] at this
        have e0 : x.add 0 = x := by cases x; simp [Addr.add]
        rw [e0] at this
        exact this
      refine ⟨_, _, _, r1, l1, Keep.push (by intro _ _ e; cases e), hv, ⟨rfl, ?_⟩, ?_⟩
      · simp only [H.firstCells, hrow]
        have : len * es ≤ cap * es := Nat.mul_le_mul_right _ hle
        rw [if_pos ⟨trivial, Nat.le_refl _⟩, if_pos (by omega)]
        simp
      · exact ⟨Nat.lt_succ_self _, fun cs g e => by rw [H.get_push, if_pos rfl] at e; cases e⟩
end
end Go.Proofs.YtlbaphapjclkdaaGreatDoor.Ev

/- From the interpreter's answer to the row's call. -/
namespace Go.Proofs.YtlbaphapjclkdaaGreatDoor.Ev
open Go.RowKit
set_option linter.unusedVariables false
set_option linter.unusedSimpArgs false

/-- the table of functions of a program: what the translation takes -/
noncomputable def table (P : Program) (i : Nat) : Option AFunc :=
  match P.funcs[i]? with
  | some fn => if fn.name == "runtime.NumGoroutine" then none else trFunc P fn
  | none => none
noncomputable def tableD (P : Program) (i : Nat) : Option ADef :=
  match P.funcs[i]? with
  | some fn => if fn.name == "runtime.NumGoroutine" then none else trFuncD P fn
  | none => none
noncomputable def tableR (P : Program) (i : Nat) : Option ARec :=
  match P.funcs[i]? with
  | some fn => if fn.name == "runtime.NumGoroutine" then none else trFuncR P fn
  | none => none
noncomputable abbrev env (P : Program) (ov : Ovs) : Env := { T := table P, ov := ov, D := tableD P, R := tableR P }
theorem env_T (a : Nat → Option AFunc) (b : Ovs) (c : Nat → Option ADef) (d : Nat → Option ARec) (i : Nat) : (Env.mk a b c d).T i = a i := rfl
theorem env_D (a : Nat → Option AFunc) (b : Ovs) (c : Nat → Option ADef) (d : Nat → Option ARec) (i : Nat) : (Env.mk a b c d).D i = c i := rfl
theorem env_R (a : Nat → Option AFunc) (b : Ovs) (c : Nat → Option ADef) (d : Nat → Option ARec) (i : Nat) : (Env.mk a b c d).R i = d i := rfl
theorem env_ov (a : Nat → Option AFunc) (b : Ovs) (c : Nat → Option ADef) (d : Nat → Option ARec) (i : Nat) : (Env.mk a b c d).ov i = b i := rfl
theorem table_ok (P : Program) (ov : Ovs) : TableOK P (env P ov) := by
  refine ⟨fun f af h => ?_, fun f af h => ?_, fun f af h => ?_⟩
  · simp only [env] at h
    unfold table at h
    split at h
    case h_2 => cases h
    rename_i fn hf
    split at h
    case isTrue => cases h
    rename_i hn
    exact ⟨fn, hf, by simpa using hn, h⟩
  · simp only [env] at h
    unfold tableD at h
    split at h
    case h_2 => cases h
    rename_i fn hf
    split at h
    case isTrue => cases h
    rename_i hn
    exact ⟨fn, hf, by simpa using hn, h⟩
  · simp only [env] at h
    unfold tableR at h
    split at h
    case h_2 => cases h
    rename_i fn hf
    split at h
    case isTrue => cases h
    rename_i hn
    exact ⟨fn, hf, by simpa using hn, h⟩
theorem table_plain (P : Program) (ov : Ovs) : ∀ g fn, (env P ov).R g = some fn → fn.ops.all (fun st => st.op.plain) = true := by
  intro g fn h
  obtain ⟨fnc, _, _, htr⟩ := (table_ok P ov).R g fn h
  unfold trFuncR at htr
  split at htr
  case h_2 => cases htr
  split at htr
  case h_2 => cases htr
  split at htr
  case h_2 => cases htr
  split at htr
  case h_2 => cases htr
  split at htr
  case isFalse => cases htr
  rename_i hcond
  cases htr
  exact hcond.2.2.2

theorem law_calls {P : Program} {ov : Ovs} (hm : P.follows .mixedOrders = true) (hO : ∀ B, B ≠ 0 → OvOK P B ov) {n : Nat} {fn : Func} (hf : P.funcs[n]? = some fn) (hn : (fn.name == "runtime.NumGoroutine") = false) (hb : fn.body.isSome = true)
    {m : M} {h : H} {W : World} (hW : W.heap.size ≠ 0) (r : Rel P W.heap.size m h W) {avs : List AV} {cargs : List Value} (hv : VRels m avs cargs) (q : WCall (env P ov) n avs h fun r _ => r = .val (.bool true)) :
    Calls P n ⟨cargs⟩ W fun e W' => e = .returned (.bool true) ∧ Below W.heap.size W W' := by
  obtain ⟨c, hc⟩ := Option.isSome_iff_exists.1 hb
  have hok : FnOK P W.heap.size n avs h fun r _ => r = .val (.bool true) := holds_ok hm (table_ok P ov) (hO _ hW) q
  obtain ⟨h1, h2⟩ := runs_enter hf hn hc (hok m W cargs r hv)
  have hpost : ∀ e w', CallR P W.heap.size m h W (fun r _ => r = .val (.bool true)) e w' → e = .returned (.bool true) ∧ Below W.heap.size W w' := by
    rintro e w' ⟨r1, h', rfl, m1, hE, r1, f1⟩
    cases hE with
    | val hvr =>
      cases hvr
      exact ⟨rfl, f1.os, f1.tape, f1.output, f1.size, fun b hb => f1.below b hb hb⟩
  have h3 := CallsIn.mono h2 hpost
  have h4 : CallsIn Fence.wide 0 P n ⟨cargs⟩ W fun e W' => e = .returned (.bool true) ∧ Below W.heap.size W W' := h3
  exact callsIn_wide.1 h4

/-- no function is stood for, but those named -/
theorem ovOK_none (P : Program) (B : Nat) : OvOK P B (fun _ => none) := fun f g h => by cases h
end Go.Proofs.YtlbaphapjclkdaaGreatDoor.Ev

/- Arguments of a row: slices of whole numbers, texts. -/
namespace Go.Proofs.YtlbaphapjclkdaaGreatDoor.Ev
open Go.ChangeShapes Go.WideShapes Go.RowKit
set_option linter.unusedVariables false
set_option linter.unusedSimpArgs false

def IntRow (W : World) (k : IntKind) (a : Option Addr) (len cap : Nat) (zs : List Int) : Prop :=
  (a = none ∧ len = 0 ∧ cap = 0 ∧ zs = []) ∨
  ∃ x, a = some x ∧ x.block < W.heap.size ∧ len ≤ cap ∧ cap ≤ maxLen ∧ zs.length = cap ∧ (∀ i, i < zs.length → W.cell? (x.add i) = some (.int k (zs.getD i 0))) ∧ ∀ n ∈ zs, (Lit.int k n).wf = true
theorem IntRow.wf {W : World} {k : IntKind} {a : Option Addr} {len cap : Nat} {zs : List Int} (w : IntRow W k a len cap zs) : ∀ n ∈ zs, (Lit.int k n).wf = true := by
  rcases w with ⟨_, _, _, rfl⟩ | ⟨x, _, _, _, _, _, _, h⟩
  · intro n hn; cases hn
  · exact h

theorem okWide_block {P : Program} {W : World} {r : Reach} {base : Nat} {t e : TypeId} {x : Addr} {l c : Nat} (ht : P.underlying t = some (.slice e)) (h : Value.okWide P W r base t (.slice (some x) l c)) : x.block < W.heap.size := by
  simp only [Value.okWide, ht, Cell.okWide, Cell.ok] at h
  obtain ⟨_, _, _, _, row, cells, hs, _⟩ := h
  unfold World.shape? at hs
  split at hs
  · rename_i hb; exact (Array.getElem?_eq_some_iff.1 hb).1
  · cases hs

theorem open_ints_arg {P : Program} {m : M} {h : H} {W : World} {k : IntKind} {a : Option Addr} {len cap : Nat} {zs : List Int} (r : Rel P W.heap.size m h W) (w : IntRow W k a len cap zs) :
    ∃ m' h' v, Rel P W.heap.size m' h' W ∧ M.le m m' ∧ Keep (Old h.n) h h' ∧ VRel m' v (.slice a len cap) ∧ Sl h' 1 v len ((zs.take len).map (AV.int k)) ∧ Slot (Old h'.n) h' v := by
  have q : ArgRow W.heap.size m W 1 a len cap (zs.map (AV.int k)) := by
    rcases w with ⟨h1, h2, h3, rfl⟩ | ⟨x, h1, h2, h3, h4, h5, h6, h7⟩
    · exact .inl ⟨h1, h2, h3, rfl⟩
    · refine .inr ⟨x, h1, h2, h3, by simpa using h5, fun i u hu => ?_⟩
      rw [List.getElem?_map] at hu
      obtain ⟨z, hz, rfl⟩ := Option.map_eq_some_iff.1 hu
      have hi := (List.getElem?_eq_some_iff.1 hz).1
      refine ⟨_, h6 i hi, ?_⟩
      rw [List.getD_eq_getElem?_getD, hz]
      exact .int k z
  obtain ⟨m', h', v, r1, l1, k1, v1, s1, t1⟩ := open_arg r (by decide) q
  refine ⟨m', h', v, r1, l1, k1, v1, ?_, t1⟩
  rw [Nat.mul_one, ← List.map_take] at s1
  exact s1

theorem sized_ints {H : Type} {enc : TypeId × Value → H} {P : Program} {W : World} {base : Nat} {spare : Nat → Bool} {held : Bool} {t e : TypeId} {k : IntKind} {a : Option Addr} {len cap : Nat} {d : DataW H} {ps : List MemPlace} {ts : List TypeId} {ds : List (DataW H)} {j : Nat}
    (hsz : (DataW.weightsEach P ts ds).all (· ≤ reachBytes) = true) (ht : ts[j]? = some t) (hd : ds[j]? = some d) (hu : P.underlying t = some (.slice e)) (he : P.underlying e = some (.int k)) (hc : P.cellsOf e = 1) {B : Nat} (hB : P.bytesOf e = B)
    (h : DataW.Trod enc P W base spare held t (.slice a len cap) d ps) : len * B ≤ 140737488351232 := by
  obtain ⟨fuel, hf⟩ := h
  rcases open_ints hu he hc hf with ⟨hcs, _⟩ | ⟨x, l, c, zs, hcs, _, hl, _, hz, hx, _, _⟩
  · simp only [Value.cells, List.cons.injEq, Value.slice.injEq, and_true] at hcs
    rw [hcs.2.1, Nat.zero_mul]
    exact Nat.zero_le _
  · simp only [Value.cells, List.cons.injEq, Value.slice.injEq, and_true] at hcs
    obtain ⟨_, rfl, rfl⟩ := hcs
    obtain ⟨rfl, _⟩ := Prod.mk.inj hx
    have z := sized_slice hsz ht hd hu
    have hle : len ≤ zs.length := by rw [hz]; split <;> omega
    have hcount : (lits (H := H) k (zs.take len)).length + (lits (H := H) k (zs.drop len)).length = zs.length := by simp [lits]; omega
    rw [hB, hcount] at z
    exact Nat.le_trans (Nat.mul_le_mul_right _ hle) z

theorem VRel.of_string {m : M} (s : ByteArray) : VRel m (.str s.data.toList) (.string s) := by
  cases s with | mk d => cases d with | mk l => exact .str l

/-- numbers below 256 that are bytes -/
theorem bytes_of_ints : ∀ (zs : List Int), (∀ n ∈ zs, (Lit.int .u8 n).wf = true) → zs.map (AV.int .u8) = byteCells (zs.map fun n => UInt8.ofNat n.toNat)
  | [], _ => rfl
  | n :: zs, h => by
    have h1 := h n (by simp)
    have h2 := bytes_of_ints zs (fun x hx => h x (by simp [hx]))
    simp only [List.map_cons, byteCells] at h2 ⊢
    rw [h2]
    congr 1
    have : 0 ≤ n ∧ n < 256 := by
      simp only [Lit.wf, IntKind.min, IntKind.max] at h1
      revert h1
      simp [IntKind.signed, IntKind.bits]
      omega
    rw [show ((UInt8.ofNat n.toNat).toNat : Int) = n from by
      rw [UInt8.toNat_ofNat_of_lt' (by simp [UInt8.size]; omega)]; omega]
end Go.Proofs.YtlbaphapjclkdaaGreatDoor.Ev

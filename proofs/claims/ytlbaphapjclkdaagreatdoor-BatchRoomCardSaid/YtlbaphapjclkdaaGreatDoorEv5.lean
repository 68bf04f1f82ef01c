/- The translation of a function by the program's tables. -/
import Derived.Test.YtlbaphapjclkdaaGreatDoorEv1
import Derived.Laws.Strings
namespace Go.Proofs.YtlbaphapjclkdaaGreatDoor.Ev
set_option linter.unusedVariables false

def trCell : Value → Option AV
  | .bool b => some (.bool b)
  | .int k n => some (.int k n)
  | .string s => some (.str s.data.toList)
  | .pointer none => some .nilp
  | .slice none 0 0 => some .nils
  | .map none => some .nilm
  | .nilFunc => some .nilf
  | .nilIface => some .nili
  | _ => none
def trCells : List Value → Option (List AV)
  | [] => some []
  | v :: l => match trCell v, trCells l with | some a, some b => some (a :: b) | _, _ => none
def trVal : Value → Option AV
  | .agg cs => (trCells cs.toList).map .agg
  | .tuple cs => (trCells cs.toList).map .tup
  | .iface t v => (trCell v).map (.iface t)
  | v => trCell v
def trOpd : Operand → Option AOpd
  | .tmp t => some (.tmp t)
  | .const v => (trVal v).map .con
  | .func f => some (.con (.func f []))
  | .global g => some (.con (.gptr g))
def trOpds : List Operand → Option (List AOpd)
  | [] => some []
  | v :: l => match trOpd v, trOpds l with | some a, some b => some (a :: b) | _, _ => none
def trOpt : Option Operand → Option (Option AOpd)
  | none => some none
  | some x => (trOpd x).map some

def aggOf (P : Program) (t : TypeId) : Option Bool :=
  match P.underlying t with
  | some (.struct _) => some true
  | some (.array _ _) => some true
  | some _ => some false
  | none => none
def sizeP (P : Program) (t : TypeId) : Option Nat := (P.info? t).map (·.size)
def zeroP (P : Program) (t : TypeId) : Option (List AV) := ((P.info? t).bind (·.zero)).bind fun z => (trVal z).map AV.cells
def zeroV (P : Program) (t : TypeId) : Option AV := ((P.info? t).bind (·.zero)).bind trVal
def isSize (x : Option Nat) : Option Nat := match x with | some 0 => none | x => x
def trParts (place : Nat → Option (Nat × Nat)) : List (Nat × Operand) → Option (List (Nat × Nat × AOpd))
  | [] => some []
  | (i, x) :: l => match place i, trOpd x, trParts place l with | some (off, n), some y, some r => some ((off, n, y) :: r) | _, _, _ => none

def isU8 (P : Program) (e : TypeId) : Bool := match P.underlying e with | some (.int .u8) => true | _ => false
/-- a struct of whole numbers alone, one a cell -/
def flatTy (P : Program) (t : TypeId) (fs : Array Field) : Bool :=
  (fs.toList.zipIdx.all fun p => p.1.name != "_" && p.1.offset == p.2 && (match P.underlying p.1.type with | some (.int _) => true | _ => false)) && !P.stoodInHeld t && !P.eqGuardType P.depth t
/-- cells of whole numbers, texts and bools, in structs and arrays to whatever depth: which -/
def fsD (rec : TypeId → Option (List FK)) (P : Program) : Nat → List Field → Option (List FK)
  | _, [] => some []
  | off, f :: r => if f.name != "_" && f.offset == off then match rec f.type with | some ks => if sizeP P f.type = some ks.length ∧ ks.length ≠ 0 then (fsD rec P (off + ks.length) r).map (ks ++ ·) else none | none => none else none
def fksD (P : Program) : Nat → TypeId → Option (List FK)
  | 0, _ => none
  | d + 1, t => match P.underlying t with
    | some (.int _) => some [.i]
    | some .string => some [.s]
    | some .bool => some [.b]
    | some (.struct fs) => if P.stoodInHeld t then none else fsD (fksD P d) P 0 fs.toList
    | some (.array n e) => match fksD P d e with | some ks => if sizeP P e = some ks.length ∧ ks.length ≠ 0 then some (List.replicate n ks).flatten else none | none => none
    | _ => none
def flatKTy (P : Program) (t : TypeId) : Option (List FK) := if !P.eqGuardType P.depth t then fksD P 64 t else none
def keyTy (P : Program) (t : TypeId) : Option KTy := match P.underlying t with
  | some (.int _) => some .int
  | some .string => some .str
  | some (.struct _) => (flatKTy P t).map .flat
  | some (.array _ _) => (flatKTy P t).map .flat
  | _ => none
def trBuiltin (P : Program) (b : Builtin) (args : List Operand) (ts : List TypeId) : Option AOp :=
  match b, args, ts with
  | .len, [x], [t] => match P.underlying t, trOpd x with
    | some .string, some x => some (.lenT x)
    | some (.slice _), some x => some (.len x)
    | some (.array n _), some _ => some (.lenC n)
    | some (.map _ _), some x => some (.lenM x)
    | _, _ => none
  | .cap, [x], [t] => some (.not (.con .nils))   -- answers nothing
  | .append, [x, y], [t, u] => match P.underlying t with
    | some (.slice e) => match P.info? e, P.underlying u, trOpd x, trOpd y with
      | some i, some (.slice _), some x, some y => if i.size ≠ 0 ∧ i.bytes ≤ 16384 ∧ (zeroP P e).map List.length = some i.size then some (.append i.size x y) else none
      | some i, some .string, some x, some y => if i.size = 1 ∧ i.bytes ≤ 16384 ∧ (zeroP P e).map List.length = some i.size then some (.append i.size x y) else none
      | _, _, _, _ => none
    | _ => none
  | .copy, [x, y], t :: _ => match P.underlying t with
    | some (.slice e) => match P.info? e, trOpd x, trOpd y with
      | some i, some x, some y => if i.size ≠ 0 then some (.copy i.size x y) else none
      | _, _, _ => none
    | _ => none
  | .clear, [x], [t] => match P.underlying t with
    | some (.slice e) => match isSize (sizeP P e), zeroP P e, trOpd x with
      | some n, some z, some x => some (.clear n z x)
      | _, _, _ => none
    | _ => none
  | .delete, [x, y], [t, _] => match P.underlying t, trOpd x, trOpd y with
    | some (.map kt _), some x, some y => (keyTy P kt).map fun kk => .mapDel kk x y
    | _, _, _ => none
  | .min, [x, y], _ => match trOpd x, trOpd y with | some x, some y => some (.min x y) | _, _ => none
  | .max, [x, y], _ => match trOpd x, trOpd y with | some x, some y => some (.max x y) | _, _ => none
  | _, _, _ => none
def isConst : Operand → Bool
  | .const _ => true
  | _ => false
def trOp (P : Program) (o : Op) : Option AOp :=
  match o with
  | .move x => (trOpd x).map .mov
  | .assign x => (trOpd x).map .mov
  | .pick c a b => match trOpd c, trOpd a, trOpd b with | some c, some a, some b => some (.pick c a b) | _, _, _ => none
  | .alloc e => (zeroP P e).map .alloc
  | .box _ x => (trOpd x).map .box
  | .build t ps => match zeroP P t with
    | none => none
    | some z => match P.underlying t with
      | some (.struct fs) => (trParts (fun i => (fs[i]?).bind fun f => (sizeP P f.type).map fun n => (f.offset, n)) ps.toList).bind fun q => if (fs.toList.all fun f => (P.info? f.type).isSome) then some (.build z q) else none
      | some (.array _ e) => (sizeP P e).bind fun n => (trParts (fun i => some (i * n, n)) ps.toList).map (.build z)
      | _ => none
  | .buildSlice t len ps => match P.underlying t with
    | some (.slice e) => match isSize (sizeP P e), zeroP P e with
      | some n, some z => if len * n ≤ 16777216 ∧ z.length ≠ 0 then (trParts (fun i => some (i * n, n)) ps.toList).map (.buildSlice n len z) else none
      | _, _ => none
    | _ => none
  | .load t x => match aggOf P t, sizeP P t, trOpd x with | some a, some n, some x => some (.load a n x) | _, _, _ => none
  | .store t x v => match sizeP P t, trOpd x, trOpd v with | some n, some x, some v => some (.store n x v) | _, _, _ => none
  | .nilCheck x => (trOpd x).map .nilCheck
  | .binOp op t x y _ => match trOpd x, trOpd y with
    | some x', some y' =>
      if op = .eql ∨ op = .neq then
        match P.underlying t with
        | some (.int _) => some (.bin op x' y')
        | some .string => some (.bin op x' y')
        | some .bool => some (.eq .bool (op == .neq) x' y')
        | some (.pointer _) => some (.eq .ptr (op == .neq) x' y')
        | some (.slice _) => some (.eq .slice (op == .neq) x' y')
        | some (.map _ _) => some (.eq .map (op == .neq) x' y')
        | some (.func _ _ _) => some (.eq .func (op == .neq) x' y')
        | some (.interface _) => if (isConst x || isConst y) = true then some (.eq .nilI (op == .neq) x' y') else some (.eq .iface (op == .neq) x' y')
        | some (.struct fs) => if flatTy P t fs then some (.eq (.flat fs.size) (op == .neq) x' y') else (flatKTy P t).map fun ks => .eq (.flatK ks) (op == .neq) x' y'
        | some (.array _ _) => (flatKTy P t).map fun ks => .eq (.flatK ks) (op == .neq) x' y'
        | _ => none
      else some (.bin op x' y')
    | _, _ => none
  | .unOp op _ x => match op, trOpd x with
    | .not, some x => some (.not x)
    | .neg, some x => some (.neg x)
    | _, _ => none
  | .convert s d x => match P.underlying s, P.underlying d, trOpd x with
    | some (.int _), some (.int k), some x => some (.cvInt k x)
    | some .string, some .string, some x => some (.cvSame x)
    | some (.int _), some .string, some x => some (.cvR2S x)
    | some .string, some (.slice e), some x => if isU8 P e then some (.cvS2B x) else none
    | some (.slice e), some .string, some x => if isU8 P e then some (.cvB2S x) else none
    | some (.slice _), some (.slice e), some x => if (s == d && isU8 P e) = true then some (.cvB2B x) else none
    | _, _, _ => none
  | .slice t x lo hi mx => match mx, P.underlying t, trOpd x, trOpt lo, trOpt hi with
    | some m, some (.slice e), some x, some lo, some (some hi) => match isSize (sizeP P e), trOpd m with | some n, some m => some (.slice3 n x lo hi m) | _, _ => none
    | none, some .string, some x, some lo, some hi => some (.sliceT x lo hi)
    | none, some (.slice e), some x, some lo, some hi => (isSize (sizeP P e)).map fun n => .sliceS n x lo hi
    | none, some (.array k e), some x, some lo, some hi => (isSize (sizeP P e)).map fun n => .sliceA n k x lo hi
    | none, some (.pointer r), some x, some lo, some hi => match P.underlying r with
      | some (.array k e) => (isSize (sizeP P e)).map fun n => .sliceA n k x lo hi
      | _ => none
    | _, _, _, _, _ => none
  | .fieldAddr t x i => match P.underlying t, trOpd x with
    | some (.struct fs), some x => (fs[i]?).bind fun f => (isSize (sizeP P f.type)).map fun _ => .fieldAddr f.offset x
    | _, _ => none
  | .field t x i => match P.underlying t, trOpd x with
    | some (.struct fs), some x => (fs[i]?).bind fun f => match aggOf P f.type, sizeP P f.type with | some a, some n => some (.field a f.offset n x) | _, _ => none
    | _, _ => none
  | .indexAddr t x i => match P.underlying t, trOpd x, trOpd i with
    | some (.slice e), some x, some i => (sizeP P e).map fun n => .indexAddr n x i
    | some (.array k e), some x, some i => (sizeP P e).map fun n => .indexArr n k x i
    | _, _, _ => none
  | .index t x i => match P.underlying t, trOpd x, trOpd i with
    | some .string, some x, some i => some (.indexStr x i)
    | some (.array k e), some x, some i => match aggOf P e, sizeP P e with | some a, some n => some (.indexAgg a n k x i) | _, _ => none
    | _, _, _ => none
  | .extract x i => (trOpd x).map fun x => .extract x i
  | .makeFunc (.func f) first cs => if first.size = 0 then (trOpds cs.toList).map (.makeFunc f) else match first.toList, cs.toList with
    | [x], [] => (trOpd x).map (.makeMeth f)
    | _, _ => none
  | .makeMap _ none => some .makeMap
  | .insert t m k v | .mapUpdate t m k v => match P.underlying t, trOpd m, trOpd k, trOpd v with
    | some (.map kt _), some m, some k, some v => (keyTy P kt).map fun kk => .mapPut kk m k v
    | _, _, _, _ => none
  | .lookup t m k ok => match P.underlying t, trOpd m, trOpd k with
    | some (.map kt e), some m, some k => match keyTy P kt, zeroV P e with
      | some kk, some z => some (.mapGet kk ok z m k)
      | _, _ => none
    | _, _, _ => none
  | .range t x => match P.underlying t, trOpd x with
    | some .string, some x => some (.rangeT x)
    | some (.map _ _), some x => some (.rangeM x)
    | _, _ => none
  | .next x true => (trOpd x).map .nextT
  | .next x false => (trOpd x).map .nextM
  | .entry x => (trOpd x).map .entryM
  | .typeAssert x _ t ok => match P.underlying t, zeroV P t, trOpd x with
    | some (.interface _), _, _ => none
    | some _, some z, some x => some (.assert t z ok x)
    | _, _, _ => none
  | .makeSlice t l c => match P.underlying t with
    | some (.slice e) => match P.info? e, zeroP P e, trOpd l, trOpd c with
      | some i, some z, some l, some c => if i.size ≠ 0 ∧ z.length ≠ 0 then some (.makeSlice i.size i.bytes z l c) else none
      | _, _, _, _ => none
    | _ => none
  | .makeInterface t x => match P.underlying t, trOpd x with
    | some (.interface _), _ => none
    | some _, some x => some (.makeIface t x)
    | _, _ => none
  | .call c => match c.callee with
    | .value f => match trOpd f, trOpds c.args.toList with | some f, some xs => some (.call f xs) | _, _ => none
    | .builtin b => trBuiltin P b c.args.toList c.argTypes.toList
    | _ => none
  | .panic x => (trOpd x).map .panic
  | _ => none

def trGuard (nt : Nat) (ops : List Oper) : Option (Nat × Bool) → Option (Option (Nat × Bool))
  | none => some none
  | some (j, b) => match (ops[j]?).bind (·.dst) with
    | some d => if d < nt then some (some (d, b)) else none
    | none => none
def trStep (P : Program) (nt : Nat) (ops : List Oper) (o : Oper) : Option AStep :=
  match trOp P o.op, trGuard nt ops o.guard with
  | some op, some g => match o.dst with
    | none => some ⟨none, op, g⟩
    | some d => if d < nt then some ⟨some d, op, g⟩ else none
  | _, _ => none
def trSteps (P : Program) (nt : Nat) (ops : List Oper) : List Oper → Option (List AStep)
  | [] => some []
  | o :: l => match trStep P nt ops o, trSteps P nt ops l with | some a, some b => some (a :: b) | _, _ => none
def binding (o : Oper) : List Nat := (o.after.toList.filter (Region.binds .any)).map (·.on)
/-- all that comes before, by the edges and by what comes before those; none: an edge does not lead to an earlier step -/
def befOf (acc : List DStep) : List Nat → Option Nat
  | [] => some 0
  | on :: r => match acc.find? (·.i == on), befOf acc r with | some d, some b => some (d.bef ||| 2 ^ on ||| b) | _, _ => none
def mkPlan (P : Program) (nt : Nat) (ops : Array Oper) : List Nat → List DStep → Option (List DStep)
  | [], _ => some []
  | i :: r, acc => match ops[i]? with
    | some o => match trStep P nt ops.toList o, befOf acc (binding o) with
      | some st, some b => (mkPlan P nt ops r (⟨i, b, st⟩ :: acc)).map (⟨i, b, st⟩ :: ·)
      | _, _ => none
    | none => none
/-- early what may come early: (place, is it an effect, what must be ahead) -/
def planOrder : Nat → Nat → List (Nat × Bool × Nat) → List Nat
  | 0, _, _ => []
  | k + 1, mask, rem =>
    match (match rem.find? (fun x => !x.2.1 && (x.2.2 &&& mask == x.2.2)) with | some x => some x | none => rem.find? (fun x => x.2.2 &&& mask == x.2.2)) with
    | some x => x.1 :: planOrder k (mask ||| 2 ^ x.1) (rem.filter (·.1 != x.1))
    | none => []
def pairOK (d d' : DStep) : Bool :=
  d.i != d'.i && (decide (d.st.op.kind ≠ .eff) || d'.bef.testBit d.i) && !d.bef.testBit d'.i &&
  (match d.st.dst with
    | none => true
    | some t => decide (d'.st.dst ≠ some t) && (d'.bef.testBit d.i || !d'.st.reads.contains t)) &&
  (match d'.st.dst with
    | none => true
    | some t => d'.bef.testBit d.i || !d.st.reads.contains t)
def pairsOK : List DStep → Bool
  | [] => true
  | d :: r => r.all (pairOK d) && pairsOK r
def planOf (P : Program) (nt : Nat) (ops : Array Oper) : Option (List DStep) :=
  let rows := ops.toList.zipIdx.map fun p => (p.2, (match trOp P p.1.op with | some op => decide (op.kind = .eff) | none => true), (binding p.1).foldl (fun s on => s ||| 2 ^ on) 0)
  match mkPlan P nt ops (planOrder ops.size 0 rows) [] with
  | some l => if pairsOK l && (l.foldl (fun s d => s ||| 2 ^ d.i) 0 == 2 ^ ops.size - 1) && decide (l.length ≤ ops.size) then some l else none
  | none => none
/-- no range over a function stands in it: such code may be a round's body -/
def ACode.flat : ACode → Bool
  | .seq a b | .cond _ a b => a.flat && b.flat
  | .block _ c | .loop c | .scope c => c.flat
  | .range .. => false
  | _ => true
/-- does a region defer nothing? -/
def noDefer (l : List Oper) : Bool := l.all fun o => match o.op with | .defer _ => false | _ => true
def trCode (P : Program) (nt : Nat) : Code → Option ACode
  | .skip => some .skip
  | .region _ ops draw => if draw then (match planOf P nt ops with | some l => some (.draw l) | none => if noDefer ops.toList = true then some .stuck else none) else (match trSteps P nt ops.toList ops.toList with | some l => some (.ops l) | none => if noDefer ops.toList = true then some .stuck else none)
  | .seq a b => match trCode P nt a, trCode P nt b with | some a, some b => some (.seq a b) | _, _ => none
  | .cond c a b => match trOpd c, trCode P nt a, trCode P nt b with | some c, some a, some b => some (.cond c a b) | _, _, _ => none
  | .block id c => (trCode P nt c).map (.block id)
  | .loop c => (trCode P nt c).map .loop
  | .exit id => some (.exit id)
  | .ret => some .ret
  | .scope c => (trCode P nt c).map .scope
  | .label _ => some .skip
  | .goto _ => some .stuck
  | .rangeFunc f ps a b => match trOpd f, trCode P nt a, trCode P nt b with
    | some f, some a, some b => if (a.flat && b.flat && ps.all (· < nt)) = true then some (.range nt f ps.toList a b) else none
    | _, _, _ => none
  | _ => none
def trRes (P : Program) : ResultVar → Option ARes
  | .tmp t => some (.tmp t)
  | .cell a t => match aggOf P t, sizeP P t with | some b, some n => some (.cell a b n) | _, _ => none
def trRess (P : Program) : List ResultVar → Option (List ARes)
  | [] => some []
  | v :: l => match trRes P v, trRess P l with | some a, some b => some (a :: b) | _, _ => none
def trFunc (P : Program) (fn : Func) : Option AFunc :=
  match fn.body with
  | none => none
  | some c => match trCode P fn.ntmps c, trRess P fn.results.toList with
    | some c, some r => some ⟨fn.ntmps, r, c⟩
    | _, _ => none
/-- a body that defers one call: of a function value without arguments, as the last operation of a region -/
def trDef (P : Program) (nt : Nat) : Code → Option DCode
  | .seq (.region id ops false) b =>
    match (match ops.toList.getLast? with | some o => (match o.op with | .defer c => some (c, o.guard.isNone, o.dst.isNone) | _ => none) | none => none) with
    | some (c, true, true) => match c.callee, c.args.toList, trSteps P nt ops.toList ops.toList.dropLast with
      | .value f, [], some l => match trOpd f, trCode P nt b with
        | some f, some b => if b.flat then some (.dfr l f b) else none
        | _, _ => none
      | _, _, _ => none
    | _ => match trSteps P nt ops.toList ops.toList, trDef P nt b with
      | some l, some d => some (.seq (.ops l) d)
      | _, _ => none
  | .seq a b => match trCode P nt a, trDef P nt b with
    | some a, some d => if a.flat then some (.seq a d) else none
    | _, _ => none
  | _ => none
def trFuncD (P : Program) (fn : Func) : Option ADef :=
  match fn.body with
  | none => none
  | some c => match trDef P fn.ntmps c, trRess P fn.results.toList with
    | some c, some r => some ⟨fn.ntmps, r, c⟩
    | _, _ => none
/-- a deferred function without results that recovers first of all -/
def trFuncR (P : Program) (fn : Func) : Option ARec :=
  match fn.body with
  | some (.seq (.region _ ops false) b) => match ops.toList with
    | o :: r => match o.op, o.dst, o.guard with
      | .call c, some d, none => match c.callee, trSteps P fn.ntmps ops.toList r, trCode P fn.ntmps b with
        | .builtin .recover, some l, some b => if d < fn.ntmps ∧ fn.results.size = 0 ∧ b.flat = true ∧ l.all (fun st => st.op.plain) = true then some ⟨fn.ntmps, d, l, b⟩ else none
        | _, _, _ => none
      | _, _, _ => none
    | [] => none
  | _ => none
end Go.Proofs.YtlbaphapjclkdaaGreatDoor.Ev

/- What abstract values and the abstract heap say of the model's values and memory. -/
namespace Go.Proofs.YtlbaphapjclkdaaGreatDoor.Ev
set_option linter.unusedVariables false

/-- where an object lies: its block, the cell at which it begins there, the block's cells -/
abbrev M := Nat → Option (Nat × Nat × Nat)
def M.le (m m' : M) : Prop := ∀ o x, m o = some x → m' o = some x
def M.set (m : M) (o : Nat) (x : Nat × Nat × Nat) : M := fun j => if j = o then some x else m j

mutual
inductive VRel (m : M) : AV → Value → Prop
  | bool (b : Bool) : VRel m (.bool b) (.bool b)
  | int (k : IntKind) (n : Int) : VRel m (.int k n) (.int k n)
  | str (s : List UInt8) : VRel m (.str s) (.string ⟨⟨s⟩⟩)
  | nilp : VRel m .nilp (.pointer none)
  | ptr {o b base sz : Nat} (i : Nat) (h : m o = some (b, base, sz)) : VRel m (.ptr o i) (.pointer (some ⟨b, base + i, none⟩))
  | nils : VRel m .nils (.slice none 0 0)
  | slice {o b base sz : Nat} (i len es cap : Nat) (h : m o = some (b, base, sz)) (hl : len ≤ cap) (hs : base + i + cap * es ≤ sz) :
      VRel m (.slice o i len es) (.slice (some ⟨b, base + i, none⟩) len cap)
  | slice0 {o : Nat} (i es : Nat) (a : Addr) (x : Nat × Nat × Nat) (h : m o = some x) : VRel m (.slice o i 0 es) (.slice (some a) 0 0)
  | nilm : VRel m .nilm (.map none)
  | map {o b : Nat} (h : m o = some (b, 0, 0)) : VRel m (.map o) (.map (some b))
  | nilf : VRel m .nilf .nilFunc
  | func (f : Nat) {cs : List AV} {cs' : List Value} (h : VRels m cs cs') : VRel m (.func f cs) (.func (.func f) #[] ⟨cs'⟩)
  | yield {l b : Nat} (h : m l = some (b, 0, 0)) : VRel m (.yield l) (.func (.yield b) #[] #[])
  | meth (f : Nat) {v : AV} {v' : Value} (h : VRel m v v') : VRel m (.meth f v) (.func (.func f) #[v'] #[])
  | gptr (g : Nat) : VRel m (.gptr g) (.pointer (some ⟨g, 0, none⟩))
  | nili : VRel m .nili .nilIface
  | iface (t : Nat) {v : AV} {v' : Value} (h : VRel m v v') : VRel m (.iface t v) (.iface t v')
  | agg {cs : List AV} {cs' : List Value} (h : VRels m cs cs') : VRel m (.agg cs) (.agg ⟨cs'⟩)
  | tup {cs : List AV} {cs' : List Value} (h : VRels m cs cs') : VRel m (.tup cs) (.tuple ⟨cs'⟩)
inductive VRels (m : M) : List AV → List Value → Prop
  | nil : VRels m [] []
  | cons {a : AV} {v : Value} {l : List AV} {l' : List Value} (h : VRel m a v) (t : VRels m l l') : VRels m (a :: l) (v :: l')
end

mutual
theorem VRel.mono {m m' : M} (hm : M.le m m') : ∀ {a : AV} {v : Value}, VRel m a v → VRel m' a v
  | _, _, .bool b => .bool b
  | _, _, .int k n => .int k n
  | _, _, .str s => .str s
  | _, _, .nilp => .nilp
  | _, _, .ptr i h => .ptr i (hm _ _ h)
  | _, _, .nils => .nils
  | _, _, .slice i len es cap h hl hs => .slice i len es cap (hm _ _ h) hl hs
  | _, _, .slice0 i es a x h => .slice0 i es a x (hm _ _ h)
  | _, _, .nilm => .nilm
  | _, _, .map h => .map (hm _ _ h)
  | _, _, .nilf => .nilf
  | _, _, .func f h => .func f (VRels.mono hm h)
  | _, _, .yield h => .yield (hm _ _ h)
  | _, _, .meth f h => .meth f (VRel.mono hm h)
  | _, _, .gptr g => .gptr g
  | _, _, .nili => .nili
  | _, _, .iface t h => .iface t (VRel.mono hm h)
  | _, _, .agg h => .agg (VRels.mono hm h)
  | _, _, .tup h => .tup (VRels.mono hm h)
theorem VRels.mono {m m' : M} (hm : M.le m m') : ∀ {l : List AV} {l' : List Value}, VRels m l l' → VRels m' l l'
  | _, _, .nil => .nil
  | _, _, .cons h t => .cons (VRel.mono hm h) (VRels.mono hm t)
end

theorem VRels.len {m : M} : ∀ {l : List AV} {l' : List Value}, VRels m l l' → l.length = l'.length
  | _, _, .nil => rfl
  | _, _, .cons _ t => by simp [t.len]
theorem VRels.get {m : M} : ∀ {l : List AV} {l' : List Value}, VRels m l l' → ∀ (i : Nat) (a : AV), l[i]? = some a → ∃ v, l'[i]? = some v ∧ VRel m a v
  | _, _, .nil, i, a, h => by simp at h
  | _, _, .cons (v := v) h0 t, 0, a, h => by simp at h; subst h; exact ⟨v, by simp, h0⟩
  | _, _, .cons h0 t, i + 1, a, h => by simpa using t.get i a (by simpa using h)
theorem VRels.of_get {m : M} : ∀ {l : List AV} {l' : List Value}, l.length = l'.length → (∀ (i : Nat) (a : AV), l[i]? = some a → ∃ v, l'[i]? = some v ∧ VRel m a v) → VRels m l l'
  | [], [], _, _ => .nil
  | [], _ :: _, h, _ => by simp at h
  | _ :: _, [], h, _ => by simp at h
  | a :: l, v :: l', h, hh => .cons (by obtain ⟨u, hu, hr⟩ := hh 0 a (by simp); simp at hu; subst hu; exact hr)
      (VRels.of_get (by simpa using h) (fun i x hx => by simpa using hh (i + 1) x (by simpa using hx)))
theorem VRels.append {m : M} : ∀ {l : List AV} {l' : List Value} {k : List AV} {k' : List Value}, VRels m l l' → VRels m k k' → VRels m (l ++ k) (l' ++ k')
  | _, _, _, _, .nil, h => h
  | _, _, _, _, .cons h t, hk => .cons h (t.append hk)
theorem VRels.take {m : M} : ∀ {l : List AV} {l' : List Value} (n : Nat), VRels m l l' → VRels m (l.take n) (l'.take n)
  | _, _, 0, _ => by simp; exact .nil
  | _, _, n + 1, .nil => .nil
  | _, _, n + 1, .cons h t => .cons h (t.take n)
theorem VRels.drop {m : M} : ∀ {l : List AV} {l' : List Value} (n : Nat), VRels m l l' → VRels m (l.drop n) (l'.drop n)
  | _, _, 0, h => h
  | _, _, n + 1, .nil => .nil
  | _, _, n + 1, .cons h t => t.drop n
theorem VRels.splice {m : M} {l : List AV} {l' : List Value} (i : Nat) {k : List AV} {k' : List Value} (h : VRels m l l') (hk : VRels m k k') :
    VRels m (splice l i k) (l'.take i ++ k' ++ l'.drop (i + k'.length)) := by
  unfold Ev.splice; rw [hk.len]; exact ((h.take i).append hk).append (h.drop _)
theorem VRels.map_ev {m : M} {α : Type} (f : α → AV) (g : α → Value) : ∀ (l : List α), (∀ x ∈ l, VRel m (f x) (g x)) → VRels m (l.map f) (l.map g)
  | [], _ => .nil
  | x :: l, h => .cons (h x (by simp)) (VRels.map_ev f g l (fun y hy => h y (by simp [hy])))
theorem VRel.cells {m : M} {a : AV} {v : Value} (h : VRel m a v) : VRels m a.cells v.cells.toList := by
  cases h <;> first | (rename_i h; exact h) | (exact .cons (by constructor <;> assumption) .nil)
theorem VRel.one {m : M} {a : AV} {v : Value} (h : VRel m a v) (ho : a.one = true) : v.oneCell' = true := by
  cases h <;> simp [AV.one] at ho <;> rfl
theorem VRels.all_one {m : M} : ∀ {l : List AV} {l' : List Value}, VRels m l l' → l.all AV.one = true → ∀ v ∈ l', v.oneCell' = true
  | _, _, .nil, _ => by simp
  | _, _, .cons h t, ho => by
    simp only [List.all_cons, Bool.and_eq_true] at ho
    intro v hv
    rcases List.mem_cons.1 hv with rfl | hv
    · exact h.one ho.1
    · exact t.all_one ho.2 v hv

/-- the heap's own order -/
structure H.Wf (h : H) : Prop where
  gr : ∀ g p, h.gr.get g = some p → g < h.n
  mem : ∀ o cs g, h.get o = some (.cells cs (some g)) → g ≤ o ∧ o ≤ h.tip g
  ob : ∀ o x, h.get o = some x → o < h.n
  kt : ∀ g p, h.gr.get g = some p → p.2 ≤ p.1
  tl : ∀ g, g < h.n → h.tip g < h.n

/-- a place that is not frozen, nor will be by a mark behind its row -/
def unf (w : World) (a : Addr) : Prop := ∀ CS e fr, w.heap[a.block]? = some (.cells CS e fr) → fr.1 = fr.2 ∨ a.off < fr.1
theorem unf.frozen {w : World} {a : Addr} (u : unf w a) : w.frozen? a = false := by
  unfold World.frozen?
  split
  · rename_i CS e lo hi he
    have := u _ _ _ he
    simp only [Bool.and_eq_false_iff, decide_eq_false_iff_not]
    rcases this with h | h
    · simp only at h; omega
    · simp only at h; omega
  · rfl
/-- how a loop's record stands -/
def stOf : Nat → LoopState
  | 0 => .ready
  | 1 => .busy
  | 2 => .done
  | _ => .exhausted
def jumpOf : Option Nat → Code
  | none => .ret
  | some id => .exit id
structure LRel (P : Program) (m : M) (L : LoopRec) (r : Loop) : Prop where
  st : r.state = stOf L.st
  pend : r.pending = L.pend.map jumpOf
  size : r.tmps.size = L.nt
  tmp : ∀ j, VRel m (L.s j) (r.tmps.getD j undef)
  ps : r.params.toList = L.ps
  assign : trCode P L.nt r.assign = some L.assign
  body : trCode P L.nt r.body = some L.body
  flat : (L.assign.flat && L.body.flat) = true
  lt : ∀ p ∈ L.ps, p < L.nt
theorem LRel.mono {P : Program} {m m' : M} (hm : M.le m m') {L : LoopRec} {r : Loop} (q : LRel P m L r) : LRel P m' L r :=
  ⟨q.st, q.pend, q.size, fun j => (q.tmp j).mono hm, q.ps, q.assign, q.body, q.flat, q.lt⟩
/-- a map's entries -/
inductive ERels (m : M) : List (AV × AV × Nat) → List MapEntry → Prop
  | nil : ERels m [] []
  | cons {k v : AV} {n : Nat} {l : List (AV × AV × Nat)} {e : MapEntry} {l' : List MapEntry} (hk : VRel m k e.key) (hv : VRel m v e.val) (hn : e.born = n) (t : ERels m l l') : ERels m ((k, v, n) :: l) (e :: l')
theorem ERels.mono {m m' : M} (hm : M.le m m') : ∀ {l : List (AV × AV × Nat)} {l' : List MapEntry}, ERels m l l' → ERels m' l l'
  | _, _, .nil => .nil
  | _, _, .cons hk hv hn t => .cons (hk.mono hm) (hv.mono hm) hn (t.mono hm)
inductive MRel (m : M) : MObj → Obj → Prop
  | map {es : List (AV × AV × Nat)} {ES : List MapEntry} (c : Nat) (h : ERels m es ES) : MRel m (.map es c) (.map ⟨ES⟩ c)
  | siter (s : List UInt8) (p : Nat) : MRel m (.siter s p) (.stringIter ⟨⟨s⟩⟩ p)
  | miter0 (since : Nat) (seen : List Nat) (stepped : Nat) : MRel m (.miter none since seen stepped) (.mapIter none since ⟨seen⟩ stepped)
  | miter {o b : Nat} (h : m o = some (b, 0, 0)) (since : Nat) (seen : List Nat) (stepped : Nat) : MRel m (.miter (some o) since seen stepped) (.mapIter (some b) since ⟨seen⟩ stepped)
theorem MRel.mono {m m' : M} (hm : M.le m m') {X : MObj} {r : Obj} (q : MRel m X r) : MRel m' X r := by
  cases q with
  | map c h => exact .map c (h.mono hm)
  | siter s p => exact .siter s p
  | miter0 a b c => exact .miter0 a b c
  | miter h a b c => exact .miter (hm _ _ h) a b c
/-- what the abstract heap says of memory; B0: the blocks ahead of it are read alone -/
structure Rel (P : Program) (B0 : Nat) (m : M) (h : H) (w : World) : Prop where
  base : B0 ≤ w.heap.size
  lt : ∀ o x, m o = some x → o < h.n
  row : ∀ {o cs g b base sz}, h.get o = some (.cells cs g) → m o = some (b, base, sz) → base + cs.length ≤ sz ∧ ∃ CS e fr, w.heap[b]? = some (.cells CS e fr) ∧ CS.size = sz
  val : ∀ {o cs b base sz}, h.row o = some cs → m o = some (b, base, sz) → ∀ i a, cs[i]? = some a → ∃ v, w.cell? ⟨b, base + i, none⟩ = some v ∧ VRel m a v
  own : ∀ {o cs g b base sz}, h.get o = some (.cells cs (some g)) → m o = some (b, base, sz) → B0 ≤ b ∧ ∀ i, i < sz → unf w ⟨b, i, none⟩
  ro : ∀ {o cs b base sz}, h.get o = some (.cells cs none) → m o = some (b, base, sz) → b < B0
  sep : ∀ {o o' b base sz base' sz'}, m o = some (b, base, sz) → m o' = some (b, base', sz') → o ≠ o' → B0 ≤ b →
    ∃ g cs cs', h.get o = some (.cells cs (some g)) ∧ h.get o' = some (.cells cs' (some g))
  ord : ∀ {o o' g cs cs' b base sz base' sz'}, o < o' → h.get o = some (.cells cs (some g)) → h.get o' = some (.cells cs' (some g)) → h.kill g ≤ o →
    m o = some (b, base, sz) → m o' = some (b, base', sz') → base + cs.length ≤ base' + cs'.length
  blk : ∀ {o b base sz}, m o = some (b, base, sz) → b < w.heap.size
  any : ∀ {o x}, m o = some x → ∃ ob, h.get o = some ob
  lp : ∀ {o L b base sz}, h.get o = some (.loop L) → m o = some (b, base, sz) → B0 ≤ b ∧ ∃ r, w.heap[b]? = some (.loop r) ∧ LRel P m L r
  mm : ∀ {o X b base sz}, h.get o = some (.mem X) → m o = some (b, base, sz) → B0 ≤ b ∧ base = 0 ∧ ∃ r, w.heap[b]? = some r ∧ MRel m X r
  gb : ∀ {o g v}, h.get o = some (.glob g v) → g < B0 ∧ ∃ v', w.cell? ⟨g, 0, none⟩ = some v' ∧ VRel m v v'
  wf : h.Wf

/-- what a step leaves as it was -/
structure Fr (B0 : Nat) (m m' : M) (h h' : H) (w w' : World) : Prop where
  le : M.le m m'
  os : w'.os = w.os
  tape : w'.tape = w.tape
  output : w'.output = w.output
  size : w.heap.size ≤ w'.heap.size
  blk : ∀ b, b < w.heap.size → (b < B0 ∨ ∀ o base sz, m o ≠ some (b, base, sz)) → w'.heap[b]? = w.heap[b]?
  n : h.n ≤ h'.n
  keep : ∀ o, o < h.n → m o = none → h'.get o = h.get o ∧ m' o = none
  img : ∀ o b base sz, m' o = some (b, base, sz) → m o = none → w.heap.size ≤ b ∨ ∃ o0 base0 sz0, m o0 = some (b, base0, sz0)
  dr : B0 = 0 → w.drawn ≤ w'.drawn

theorem M.le_refl (m : M) : M.le m m := fun _ _ h => h
theorem M.le_trans {a b c : M} (h : M.le a b) (k : M.le b c) : M.le a c := fun o x hx => k o x (h o x hx)
theorem Fr.refl (B0 : Nat) (m : M) (h : H) (w : World) : Fr B0 m m h h w w :=
  ⟨M.le_refl m, rfl, rfl, rfl, Nat.le_refl _, fun _ _ _ => rfl, Nat.le_refl _, fun _ _ hm => ⟨rfl, hm⟩, fun o b base sz hs hn => (by rw [hn] at hs; cases hs), fun _ => Nat.le_refl _⟩
theorem Fr.trans {B0 : Nat} {m m1 m2 : M} {h h1 h2 : H} {w w1 w2 : World} (f : Fr B0 m m1 h h1 w w1) (k : Fr B0 m1 m2 h1 h2 w1 w2) : Fr B0 m m2 h h2 w w2 where
  le := M.le_trans f.le k.le
  os := k.os.trans f.os
  tape := k.tape.trans f.tape
  output := k.output.trans f.output
  size := Nat.le_trans f.size k.size
  blk := fun b hb hc => by
    rw [k.blk b (Nat.lt_of_lt_of_le hb f.size) ?_, f.blk b hb hc]
    rcases hc with hc | hc
    · exact .inl hc
    · refine .inr fun o base sz hm => ?_
      cases hmo : m o with
      | some x => exact hc o base sz (by rw [f.le o x hmo] at hm; rw [hmo]; exact hm)
      | none =>
        rcases f.img o b base sz hm hmo with hs | ⟨o0, b0, s0, h0⟩
        · omega
        · exact hc _ _ _ h0
  n := Nat.le_trans f.n k.n
  keep := fun o ho hm => by
    obtain ⟨e1, n1⟩ := f.keep o ho hm
    obtain ⟨e2, n2⟩ := k.keep o (Nat.lt_of_lt_of_le ho f.n) n1
    exact ⟨e2.trans e1, n2⟩
  img := fun o b base sz hm hn => by
    cases hm1 : m1 o with
    | some x =>
      have := k.le o x hm1
      rw [this] at hm
      cases hm
      exact f.img o b base sz hm1 hn
    | none =>
      rcases k.img o b base sz hm hm1 with hs | ⟨o0, b0, s0, h0⟩
      · exact .inl (Nat.le_trans f.size hs)
      · cases hm0 : m o0 with
        | some x => have := f.le o0 x hm0; rw [this] at h0; cases h0; exact .inr ⟨o0, _, _, hm0⟩
        | none => exact f.img o0 b b0 s0 h0 hm0
  dr := fun h => Nat.le_trans (f.dr h) (k.dr h)
theorem Fr.below {B0 : Nat} {m m' : M} {h h' : H} {w w' : World} (f : Fr B0 m m' h h' w w') : ∀ b, b < w.heap.size → b < B0 → w'.heap[b]? = w.heap[b]? := fun b hb h0 => f.blk b hb (.inl h0)

/-! ### heap lemmas -/
@[simp] theorem H.get_push (h : H) (x : AObj) (o : Nat) : (h.push x).get o = if o = h.n then some x else h.get o := Tr.get_set _ _ _ _
@[simp] theorem H.n_push (h : H) (x : AObj) : (h.push x).n = h.n + 1 := rfl
@[simp] theorem H.tip_push (h : H) (x : AObj) (g : Nat) : (h.push x).tip g = h.tip g := rfl
@[simp] theorem H.kill_push (h : H) (x : AObj) (g : Nat) : (h.push x).kill g = h.kill g := rfl

theorem H.row_push {h : H} {x : AObj} {o : Nat} (ho : o ≠ h.n) : (h.push x).row o = h.row o := by
  unfold H.row; rw [H.get_push, if_neg ho]; rfl

theorem heap_alloc_eq (w : World) (ob : Obj) (b : Nat) : (w.alloc ob).heap[b]? = if b = w.heap.size then some ob else w.heap[b]? := by
  show (w.heap.push ob)[b]? = _
  rw [Array.getElem?_push]
theorem M.set_le {m : M} {o : Nat} (x : Nat × Nat × Nat) (h : m o = none) : M.le m (m.set o x) := fun j y hy => by
  unfold M.set; split
  · rename_i e; subst e; rw [h] at hy; cases hy
  · exact hy
theorem Rel.fresh {P : Program} {B0 : Nat} {m : M} {h : H} {w : World} (r : Rel P B0 m h w) : m h.n = none := by
  cases e : m h.n with
  | none => rfl
  | some x => exact absurd (r.lt _ _ e) (Nat.lt_irrefl _)
theorem H.Wf.tip_new {h : H} (wf : h.Wf) : h.tip h.n = h.n := by
  unfold H.tip
  cases e : h.gr.get h.n with
  | none => rfl
  | some p => exact absurd (wf.gr _ _ e) (Nat.lt_irrefl _)
theorem H.Wf.kill_new {h : H} (wf : h.Wf) : h.kill h.n = 0 := by
  unfold H.kill
  cases e : h.gr.get h.n with
  | none => rfl
  | some p => exact absurd (wf.gr _ _ e) (Nat.lt_irrefl _)
theorem H.Wf.tl_push {h : H} (wf : h.Wf) (x : AObj) : ∀ g, g < (h.push x).n → (h.push x).tip g < (h.push x).n := by
  intro g hg
  rw [H.n_push] at hg ⊢
  rw [H.tip_push]
  by_cases e : g = h.n
  · rw [e, wf.tip_new]; exact Nat.lt_succ_self _
  · exact Nat.lt_succ_of_lt (wf.tl g (by omega))
theorem H.Wf.new {h : H} (wf : h.Wf) (vs : List AV) : (h.new vs).Wf where
  gr := fun g p hg => Nat.lt_succ_of_lt (wf.gr g p hg)
  mem := fun o cs g hg => by
    unfold H.new at hg; rw [H.get_push] at hg
    split at hg
    · rename_i e; subst e; cases hg; exact ⟨Nat.le_refl _, Nat.le_of_eq wf.tip_new.symm⟩
    · exact wf.mem o cs g hg
  ob := fun o x hg => by
    unfold H.new at hg; rw [H.get_push] at hg
    split at hg
    · rename_i e; subst e; exact Nat.lt_succ_self _
    · exact Nat.lt_succ_of_lt (wf.ob o x hg)
  kt := wf.kt
  tl := wf.tl_push _

theorem cell?_alloc_cells (w : World) (CS : Array Value) (e : Nat) (fr : Nat × Nat) (i : Nat) : (w.alloc (.cells CS e fr)).cell? ⟨w.heap.size, i, none⟩ = CS[i]? := by
  unfold World.cell?; rw [heap_alloc_eq, if_pos rfl]; rfl
theorem cell?_alloc_of_lt (w : World) (ob : Obj) {b : Nat} (i : Nat) (hb : b < w.heap.size) : (w.alloc ob).cell? ⟨b, i, none⟩ = w.cell? ⟨b, i, none⟩ :=
  World.cell?_alloc_lt w ob ⟨b, i, none⟩ hb
theorem frozen?_alloc_of_lt (w : World) (ob : Obj) {b : Nat} (i : Nat) (hb : b < w.heap.size) : (w.alloc ob).frozen? ⟨b, i, none⟩ = w.frozen? ⟨b, i, none⟩ :=
  World.frozen?_alloc_old w ob ⟨b, i, none⟩ (Nat.ne_of_lt hb)

theorem unf_alloc {w : World} {ob : Obj} {b i : Nat} (hb : b < w.heap.size) (u : unf w ⟨b, i, none⟩) : unf (w.alloc ob) ⟨b, i, none⟩ := by
  intro CS e fr h
  rw [heap_alloc_eq, if_neg (Nat.ne_of_lt hb)] at h
  exact u _ _ _ h
theorem unf_same {w w' : World} {b i : Nat} (e : w'.heap[b]? = w.heap[b]?) (u : unf w ⟨b, i, none⟩) : unf w' ⟨b, i, none⟩ := by
  intro CS e' fr h
  rw [e] at h
  exact u _ _ _ h
/-- a new row -/
theorem Rel.new {P : Program} {B0 : Nat} {m : M} {h : H} {w : World} (r : Rel P B0 m h w) (vs : List AV) (CS : Array Value) (e : Nat) (fr : Nat × Nat)
    (hv : ∀ (i : Nat) (a : AV), vs[i]? = some a → ∃ v, CS[i]? = some v ∧ VRel m a v) (hl : vs.length ≤ CS.size) (hf : ∀ i, i < CS.size → fr.1 = fr.2 ∨ i < fr.1) :
    Rel P B0 (m.set h.n (w.heap.size, 0, CS.size)) (h.new vs) (w.alloc (.cells CS e fr)) ∧ Fr B0 m (m.set h.n (w.heap.size, 0, CS.size)) h (h.new vs) w (w.alloc (.cells CS e fr)) := by
  have hle : M.le m (m.set h.n (w.heap.size, 0, CS.size)) := M.set_le _ r.fresh
  have hnew : ∀ o b base sz, (m.set h.n (w.heap.size, 0, CS.size)) o = some (b, base, sz) → (o = h.n ∧ b = w.heap.size ∧ base = 0 ∧ sz = CS.size) ∨ (o ≠ h.n ∧ m o = some (b, base, sz) ∧ b < w.heap.size) := by
    intro o b base sz ho
    unfold M.set at ho
    split at ho
    · rename_i e; cases ho; exact .inl ⟨e, rfl, rfl, rfl⟩
    · rename_i e; exact .inr ⟨e, ho, r.blk ho⟩
  have hget : ∀ o, (h.new vs).get o = if o = h.n then some (.cells vs (some h.n)) else h.get o := fun o => H.get_push _ _ _
  refine ⟨⟨?_, ?_, ?_, ?_, ?_, ?_, ?_, ?_, ?_, ?_, ?_, ?_, ?_, r.wf.new vs⟩, ⟨hle, rfl, rfl, rfl, by simp, ?_, Nat.le_succ _, ?_, ?_, fun _ => Nat.le_refl _⟩⟩
  · have := r.base; simp; omega
  · intro o x hx
    obtain ⟨b, base, sz⟩ := x
    rcases hnew o b base sz hx with ⟨rfl, _⟩ | ⟨_, hm, _⟩
    · exact Nat.lt_succ_self _
    · exact Nat.lt_succ_of_lt (r.lt _ _ hm)
  · intro o cs g b base sz hg hx
    rw [hget] at hg
    rcases hnew o b base sz hx with ⟨rfl, rfl, rfl, rfl⟩ | ⟨hne, hm, hb⟩
    · simp only [if_true] at hg; cases hg
      exact ⟨by simpa using hl, CS, e, fr, by rw [heap_alloc_eq, if_pos rfl], rfl⟩
    · rw [if_neg hne] at hg
      obtain ⟨h1, CS', e', fr', h2, h3⟩ := r.row hg hm
      exact ⟨h1, CS', e', fr', by rw [heap_alloc_eq, if_neg (Nat.ne_of_lt hb)]; exact h2, h3⟩
  · intro o cs b base sz hg hx i a hi
    rcases hnew o b base sz hx with ⟨rfl, rfl, rfl, rfl⟩ | ⟨hne, hm, hb⟩
    · have hrow : (h.new vs).row h.n = some vs := by
        unfold H.row; rw [hget, if_pos rfl]
        show (if (h.new vs).kill h.n ≤ h.n then some vs else none) = some vs
        rw [show (h.new vs).kill h.n = 0 from r.wf.kill_new]; simp
      rw [hrow] at hg; cases hg
      obtain ⟨v, h1, h2⟩ := hv i a hi
      exact ⟨v, by rw [Nat.zero_add, cell?_alloc_cells]; exact h1, h2.mono hle⟩
    · have hr : h.row o = some cs := by rw [← hg]; exact (H.row_push hne).symm
      obtain ⟨v, h1, h2⟩ := r.val hr hm i a hi
      exact ⟨v, by rw [cell?_alloc_of_lt _ _ _ hb]; exact h1, h2.mono hle⟩
  · intro o cs g b base sz hg hx
    rw [hget] at hg
    rcases hnew o b base sz hx with ⟨rfl, rfl, rfl, rfl⟩ | ⟨hne, hm, hb⟩
    · refine ⟨r.base, fun i hi => ?_⟩
      intro CS' e' fr' hb'
      rw [heap_alloc_eq, if_pos rfl] at hb'
      cases hb'; exact hf i hi
    · rw [if_neg hne] at hg
      obtain ⟨h1, h2⟩ := r.own hg hm
      exact ⟨h1, fun i hi => by exact unf_alloc hb (h2 i hi)⟩
  · intro o cs b base sz hg hx
    rw [hget] at hg
    rcases hnew o b base sz hx with ⟨rfl, rfl, rfl, rfl⟩ | ⟨hne, hm, hb⟩
    · simp at hg
    · rw [if_neg hne] at hg; exact r.ro hg hm
  · intro o o' b base sz base' sz' hx hx' hne hb
    rcases hnew o b base sz hx with ⟨rfl, rfl, rfl, rfl⟩ | ⟨h1, hm, hb1⟩
    · rcases hnew o' _ base' sz' hx' with ⟨rfl, _⟩ | ⟨_, _, hb2⟩
      · exact absurd rfl hne
      · omega
    · rcases hnew o' _ base' sz' hx' with ⟨_, rfl, _⟩ | ⟨h2, hm', _⟩
      · omega
      · obtain ⟨g, cs, cs', e1, e2⟩ := r.sep hm hm' hne hb
        exact ⟨g, cs, cs', by rw [hget, if_neg h1]; exact e1, by rw [hget, if_neg h2]; exact e2⟩
  · intro o o' g cs cs' b base sz base' sz' hlt hg hg' hk hx hx'
    rw [hget] at hg hg'
    rcases hnew o b base sz hx with ⟨rfl, rfl, rfl, rfl⟩ | ⟨h1, hm, hb1⟩
    · rcases hnew o' _ base' sz' hx' with ⟨rfl, _⟩ | ⟨_, _, hb2⟩
      · omega
      · omega
    · rcases hnew o' _ base' sz' hx' with ⟨_, rfl, _⟩ | ⟨h2, hm', _⟩
      · omega
      · rw [if_neg h1] at hg; rw [if_neg h2] at hg'
        exact r.ord hlt hg hg' hk hm hm'
  · intro o b base sz hx
    rcases hnew o b base sz hx with ⟨rfl, rfl, rfl, rfl⟩ | ⟨h1, hm, hb1⟩
    · simp
    · simp; omega
  · intro o x hx
    obtain ⟨b, base, sz⟩ := x
    rcases hnew o b base sz hx with ⟨rfl, _⟩ | ⟨h1, hm, _⟩
    · exact ⟨_, by rw [hget, if_pos rfl]⟩
    · obtain ⟨ob, hob⟩ := r.any hm
      exact ⟨ob, by rw [hget, if_neg h1]; exact hob⟩
  · intro o L b base sz hg hx
    rw [hget] at hg
    rcases hnew o b base sz hx with ⟨rfl, rfl, rfl, rfl⟩ | ⟨h1, hm, hb1⟩
    · simp at hg
    · rw [if_neg h1] at hg
      obtain ⟨q1, rec, q2, q3⟩ := r.lp hg hm
      exact ⟨q1, rec, by rw [heap_alloc_eq, if_neg (Nat.ne_of_lt hb1)]; exact q2, q3.mono hle⟩
  · intro o X b base sz hg hx
    rw [hget] at hg
    rcases hnew o b base sz hx with ⟨rfl, rfl, rfl, rfl⟩ | ⟨h1, hm, hb1⟩
    · simp at hg
    · rw [if_neg h1] at hg
      obtain ⟨q1, q0, rec, q2, q3⟩ := r.mm hg hm
      exact ⟨q1, q0, rec, by rw [heap_alloc_eq, if_neg (Nat.ne_of_lt hb1)]; exact q2, q3.mono hle⟩
  · intro o g v hg
    rw [hget] at hg
    split at hg
    · cases hg
    · obtain ⟨q1, v', q2, q3⟩ := r.gb hg
      exact ⟨q1, v', by rw [cell?_alloc_of_lt _ _ _ (by have := r.base; omega)]; exact q2, q3.mono hle⟩
  · intro b hb _
    rw [heap_alloc_eq, if_neg (Nat.ne_of_lt hb)]
  · intro o ho hm
    refine ⟨by rw [hget, if_neg (Nat.ne_of_lt ho)], ?_⟩
    unfold M.set; rw [if_neg (Nat.ne_of_lt ho)]; exact hm
  · intro o b base sz hx hn
    rcases hnew o b base sz hx with ⟨rfl, rfl, rfl, rfl⟩ | ⟨h1, hm, _⟩
    · exact .inl (Nat.le_refl _)
    · rw [hn] at hm; cases hm

theorem Rel.drew {P : Program} {B0 : Nat} {m : M} {h : H} {w : World} (r : Rel P B0 m h w) : Rel P B0 m h w.drew :=
  ⟨r.base, r.lt, r.row, r.val, r.own, r.ro, r.sep, r.ord, r.blk, r.any, r.lp, r.mm, r.gb, r.wf⟩
theorem Fr.drew {B0 : Nat} (m : M) (h : H) (w : World) : Fr B0 m m h h w w.drew :=
  ⟨M.le_refl m, rfl, rfl, rfl, Nat.le_refl _, fun _ _ _ => rfl, Nat.le_refl _, fun _ _ hm => ⟨rfl, hm⟩, fun o b base sz hs hn => (by rw [hn] at hs; cases hs), fun _ => Nat.le_succ _⟩
end Go.Proofs.YtlbaphapjclkdaaGreatDoor.Ev

/- The translation of a function by the program's tables. -/
import Derived.Test.YtgjcdpanabjcmaaGreatDoorEv1
namespace Go.Proofs.YtgjcdpanabjcmaaGreatDoor.Ev
set_option linter.unusedVariables false

def trCell : Value → Option AV
  | .bool b => some (.bool b)
  | .int k n => some (.int k n)
  | .string s => some (.str s.data.toList)
  | .pointer none => some .nilp
  | .slice none 0 0 => some .nils
  | .map none => some .nilm
  | .nilFunc => some .nilf
  | .nilIface => some .nili
  | _ => none
def trCells : List Value → Option (List AV)
  | [] => some []
  | v :: l => match trCell v, trCells l with | some a, some b => some (a :: b) | _, _ => none
def trVal : Value → Option AV
  | .agg cs => (trCells cs.toList).map .agg
  | .tuple cs => (trCells cs.toList).map .tup
  | .iface t v => (trCell v).map (.iface t)
  | v => trCell v
def trOpd : Operand → Option AOpd
  | .tmp t => some (.tmp t)
  | .const v => (trVal v).map .con
  | .func f => some (.con (.func f []))
  | .global g => some (.con (.gptr g))
def trOpds : List Operand → Option (List AOpd)
  | [] => some []
  | v :: l => match trOpd v, trOpds l with | some a, some b => some (a :: b) | _, _ => none
def trOpt : Option Operand → Option (Option AOpd)
  | none => some none
  | some x => (trOpd x).map some

def aggOf (P : Program) (t : TypeId) : Option Bool :=
  match P.underlying t with
  | some (.struct _) => some true
  | some (.array _ _) => some true
  | some _ => some false
  | none => none
def sizeP (P : Program) (t : TypeId) : Option Nat := (P.info? t).map (·.size)
def zeroP (P : Program) (t : TypeId) : Option (List AV) := ((P.info? t).bind (·.zero)).bind fun z => (trVal z).map AV.cells
def zeroV (P : Program) (t : TypeId) : Option AV := ((P.info? t).bind (·.zero)).bind trVal
def isSize (x : Option Nat) : Option Nat := match x with | some 0 => none | x => x
def trParts (place : Nat → Option (Nat × Nat)) : List (Nat × Operand) → Option (List (Nat × Nat × AOpd))
  | [] => some []
  | (i, x) :: l => match place i, trOpd x, trParts place l with | some (off, n), some y, some r => some ((off, n, y) :: r) | _, _, _ => none

def isU8 (P : Program) (e : TypeId) : Bool := match P.underlying e with | some (.int .u8) => true | _ => false
/-- a struct of whole numbers alone, one a cell -/
def flatTy (P : Program) (t : TypeId) (fs : Array Field) : Bool :=
  (fs.toList.zipIdx.all fun p => p.1.name != "_" && p.1.offset == p.2 && (match P.underlying p.1.type with | some (.int _) => true | _ => false)) && !P.stoodInHeld t && !P.eqGuardType P.depth t
/-- cells of whole numbers, texts and bools, in structs and arrays to whatever depth: which -/
def fsD (rec : TypeId → Option (List FK)) (P : Program) : Nat → List Field → Option (List FK)
  | _, [] => some []
  | off, f :: r => if f.name != "_" && f.offset == off then match rec f.type with | some ks => if sizeP P f.type = some ks.length ∧ ks.length ≠ 0 then (fsD rec P (off + ks.length) r).map (ks ++ ·) else none | none => none else none
def fksD (P : Program) : Nat → TypeId → Option (List FK)
  | 0, _ => none
  | d + 1, t => match P.underlying t with
    | some (.int _) => some [.i]
    | some .string => some [.s]
    | some .bool => some [.b]
    | some (.struct fs) => if P.stoodInHeld t then none else fsD (fksD P d) P 0 fs.toList
    | some (.array n e) => match fksD P d e with | some ks => if sizeP P e = some ks.length ∧ ks.length ≠ 0 then some (List.replicate n ks).flatten else none | none => none
    | _ => none
def flatKTy (P : Program) (t : TypeId) : Option (List FK) := if !P.eqGuardType P.depth t then fksD P 64 t else none
def keyTy (P : Program) (t : TypeId) : Option KTy := match P.underlying t with
  | some (.int _) => some .int
  | some .string => some .str
  | some (.struct _) => (flatKTy P t).map .flat
  | some (.array _ _) => (flatKTy P t).map .flat
  | _ => none
def trBuiltin (P : Program) (b : Builtin) (args : List Operand) (ts : List TypeId) : Option AOp :=
  match b, args, ts with
  | .len, [x], [t] => match P.underlying t, trOpd x with
    | some .string, some x => some (.lenT x)
    | some (.slice _), some x => some (.len x)
    | some (.array n _), some _ => some (.lenC n)
    | some (.map _ _), some x => some (.lenM x)
    | _, _ => none
  | .append, [x, y], [t, u] => match P.underlying t with
    | some (.slice e) => match P.info? e, P.underlying u, trOpd x, trOpd y with
      | some i, some (.slice _), some x, some y => if i.size ≠ 0 ∧ i.bytes ≤ 16384 ∧ (zeroP P e).map List.length = some i.size then some (.append i.size x y) else none
      | some i, some .string, some x, some y => if i.size = 1 ∧ i.bytes ≤ 16384 ∧ (zeroP P e).map List.length = some i.size then some (.append i.size x y) else none
      | _, _, _, _ => none
    | _ => none
  | .copy, [x, y], t :: _ => match P.underlying t with
    | some (.slice e) => match P.info? e, trOpd x, trOpd y with
      | some i, some x, some y => if i.size ≠ 0 then some (.copy i.size x y) else none
      | _, _, _ => none
    | _ => none
  | .clear, [x], [t] => match P.underlying t with
    | some (.slice e) => match isSize (sizeP P e), zeroP P e, trOpd x with
      | some n, some z, some x => some (.clear n z x)
      | _, _, _ => none
    | _ => none
  | .delete, [x, y], [t, _] => match P.underlying t, trOpd x, trOpd y with
    | some (.map kt _), some x, some y => (keyTy P kt).map fun kk => .mapDel kk x y
    | _, _, _ => none
  | .min, [x, y], _ => match trOpd x, trOpd y with | some x, some y => some (.min x y) | _, _ => none
  | .max, [x, y], _ => match trOpd x, trOpd y with | some x, some y => some (.max x y) | _, _ => none
  | _, _, _ => none
def isConst : Operand → Bool
  | .const _ => true
  | _ => false
def trOp (P : Program) (o : Op) : Option AOp :=
  match o with
  | .move x => (trOpd x).map .mov
  | .assign x => (trOpd x).map .mov
  | .pick c a b => match trOpd c, trOpd a, trOpd b with | some c, some a, some b => some (.pick c a b) | _, _, _ => none
  | .alloc e => (zeroP P e).map .alloc
  | .box _ x => (trOpd x).map .box
  | .build t ps => match zeroP P t with
    | none => none
    | some z => match P.underlying t with
      | some (.struct fs) => (trParts (fun i => (fs[i]?).bind fun f => (sizeP P f.type).map fun n => (f.offset, n)) ps.toList).bind fun q => if (fs.toList.all fun f => (P.info? f.type).isSome) then some (.build z q) else none
      | some (.array _ e) => (sizeP P e).bind fun n => (trParts (fun i => some (i * n, n)) ps.toList).map (.build z)
      | _ => none
  | .buildSlice t len ps => match P.underlying t with
    | some (.slice e) => match isSize (sizeP P e), zeroP P e with
      | some n, some z => if len * n ≤ 16777216 ∧ z.length ≠ 0 then (trParts (fun i => some (i * n, n)) ps.toList).map (.buildSlice n len z) else none
      | _, _ => none
    | _ => none
  | .load t x => match aggOf P t, sizeP P t, trOpd x with | some a, some n, some x => some (.load a n x) | _, _, _ => none
  | .store t x v => match sizeP P t, trOpd x, trOpd v with | some n, some x, some v => some (.store n x v) | _, _, _ => none
  | .nilCheck x => (trOpd x).map .nilCheck
  | .binOp op t x y _ => match trOpd x, trOpd y with
    | some x', some y' =>
      if op = .eql ∨ op = .neq then
        match P.underlying t with
        | some (.int _) => some (.bin op x' y')
        | some .string => some (.bin op x' y')
        | some .bool => some (.eq .bool (op == .neq) x' y')
        | some (.pointer _) => some (.eq .ptr (op == .neq) x' y')
        | some (.slice _) => some (.eq .slice (op == .neq) x' y')
        | some (.map _ _) => some (.eq .map (op == .neq) x' y')
        | some (.func _ _ _) => some (.eq .func (op == .neq) x' y')
        | some (.interface _) => if (isConst x || isConst y) = true then some (.eq .nilI (op == .neq) x' y') else some (.eq .iface (op == .neq) x' y')
        | some (.struct fs) => if flatTy P t fs then some (.eq (.flat fs.size) (op == .neq) x' y') else (flatKTy P t).map fun ks => .eq (.flatK ks) (op == .neq) x' y'
        | some (.array _ _) => (flatKTy P t).map fun ks => .eq (.flatK ks) (op == .neq) x' y'
        | _ => none
      else some (.bin op x' y')
    | _, _ => none
  | .unOp op _ x => match op, trOpd x with
    | .not, some x => some (.not x)
    | .neg, some x => some (.neg x)
    | _, _ => none
  | .convert s d x => match P.underlying s, P.underlying d, trOpd x with
    | some (.int _), some (.int k), some x => some (.cvInt k x)
    | some .string, some .string, some x => some (.cvSame x)
    | some (.int _), some .string, some x => some (.cvR2S x)
    | some .string, some (.slice e), some x => if isU8 P e then some (.cvS2B x) else none
    | some (.slice e), some .string, some x => if isU8 P e then some (.cvB2S x) else none
    | some (.slice _), some (.slice e), some x => if (s == d && isU8 P e) = true then some (.cvB2B x) else none
    | _, _, _ => none
  | .slice t x lo hi mx => match mx, P.underlying t, trOpd x, trOpt lo, trOpt hi with
    | some m, some (.slice e), some x, some lo, some (some hi) => match isSize (sizeP P e), trOpd m with | some n, some m => some (.slice3 n x lo hi m) | _, _ => none
    | none, some .string, some x, some lo, some hi => some (.sliceT x lo hi)
    | none, some (.slice e), some x, some lo, some hi => (isSize (sizeP P e)).map fun n => .sliceS n x lo hi
    | none, some (.array k e), some x, some lo, some hi => (isSize (sizeP P e)).map fun n => .sliceA n k x lo hi
    | none, some (.pointer r), some x, some lo, some hi => match P.underlying r with
      | some (.array k e) => (isSize (sizeP P e)).map fun n => .sliceA n k x lo hi
      | _ => none
    | _, _, _, _, _ => none
  | .fieldAddr t x i => match P.underlying t, trOpd x with
    | some (.struct fs), some x => (fs[i]?).bind fun f => (isSize (sizeP P f.type)).map fun _ => .fieldAddr f.offset x
    | _, _ => none
  | .field t x i => match P.underlying t, trOpd x with
    | some (.struct fs), some x => (fs[i]?).bind fun f => match aggOf P f.type, sizeP P f.type with | some a, some n => some (.field a f.offset n x) | _, _ => none
    | _, _ => none
  | .indexAddr t x i => match P.underlying t, trOpd x, trOpd i with
    | some (.slice e), some x, some i => (sizeP P e).map fun n => .indexAddr n x i
    | some (.array k e), some x, some i => (sizeP P e).map fun n => .indexArr n k x i
    | _, _, _ => none
  | .index t x i => match P.underlying t, trOpd x, trOpd i with
    | some .string, some x, some i => some (.indexStr x i)
    | some (.array k e), some x, some i => match aggOf P e, sizeP P e with | some a, some n => some (.indexAgg a n k x i) | _, _ => none
    | _, _, _ => none
  | .extract x i => (trOpd x).map fun x => .extract x i
  | .makeFunc (.func f) first cs => if first.size = 0 then (trOpds cs.toList).map (.makeFunc f) else match first.toList, cs.toList with
    | [x], [] => (trOpd x).map (.makeMeth f)
    | _, _ => none
  | .makeMap _ none => some .makeMap
  | .insert t m k v | .mapUpdate t m k v => match P.underlying t, trOpd m, trOpd k, trOpd v with
    | some (.map kt _), some m, some k, some v => (keyTy P kt).map fun kk => .mapPut kk m k v
    | _, _, _, _ => none
  | .lookup t m k ok => match P.underlying t, trOpd m, trOpd k with
    | some (.map kt e), some m, some k => match keyTy P kt, zeroV P e with
      | some kk, some z => some (.mapGet kk ok z m k)
      | _, _ => none
    | _, _, _ => none
  | .range t x => match P.underlying t, trOpd x with
    | some .string, some x => some (.rangeT x)
    | some (.map _ _), some x => some (.rangeM x)
    | _, _ => none
  | .next x true => (trOpd x).map .nextT
  | .next x false => (trOpd x).map .nextM
  | .entry x => (trOpd x).map .entryM
  | .typeAssert x _ t ok => match P.underlying t, zeroV P t, trOpd x with
    | some (.interface _), _, _ => none
    | some _, some z, some x => some (.assert t z ok x)
    | _, _, _ => none
  | .makeSlice t l c => match P.underlying t with
    | some (.slice e) => match P.info? e, zeroP P e, trOpd l, trOpd c with
      | some i, some z, some l, some c => if i.size ≠ 0 ∧ z.length ≠ 0 then some (.makeSlice i.size i.bytes z l c) else none
      | _, _, _, _ => none
    | _ => none
  | .makeInterface t x => match P.underlying t, trOpd x with
    | some (.interface _), _ => none
    | some _, some x => some (.makeIface t x)
    | _, _ => none
  | .call c => match c.callee with
    | .value f => match trOpd f, trOpds c.args.toList with | some f, some xs => some (.call f xs) | _, _ => none
    | .builtin b => trBuiltin P b c.args.toList c.argTypes.toList
    | _ => none
  | .panic x => (trOpd x).map .panic
  | _ => none

def trGuard (nt : Nat) (ops : List Oper) : Option (Nat × Bool) → Option (Option (Nat × Bool))
  | none => some none
  | some (j, b) => match (ops[j]?).bind (·.dst) with
    | some d => if d < nt then some (some (d, b)) else none
    | none => none
def trStep (P : Program) (nt : Nat) (ops : List Oper) (o : Oper) : Option AStep :=
  match trOp P o.op, trGuard nt ops o.guard with
  | some op, some g => match o.dst with
    | none => some ⟨none, op, g⟩
    | some d => if d < nt then some ⟨some d, op, g⟩ else none
  | _, _ => none
def trSteps (P : Program) (nt : Nat) (ops : List Oper) : List Oper → Option (List AStep)
  | [] => some []
  | o :: l => match trStep P nt ops o, trSteps P nt ops l with | some a, some b => some (a :: b) | _, _ => none
def binding (o : Oper) : List Nat := (o.after.toList.filter (Region.binds .any)).map (·.on)
/-- all that comes before, by the edges and by what comes before those; none: an edge does not lead to an earlier step -/
def befOf (acc : List DStep) : List Nat → Option Nat
  | [] => some 0
  | on :: r => match acc.find? (·.i == on), befOf acc r with | some d, some b => some (d.bef ||| 2 ^ on ||| b) | _, _ => none
def mkPlan (P : Program) (nt : Nat) (ops : Array Oper) : List Nat → List DStep → Option (List DStep)
  | [], _ => some []
  | i :: r, acc => match ops[i]? with
    | some o => match trStep P nt ops.toList o, befOf acc (binding o) with
      | some st, some b => (mkPlan P nt ops r (⟨i, b, st⟩ :: acc)).map (⟨i, b, st⟩ :: ·)
      | _, _ => none
    | none => none
/-- early what may come early: (place, is it an effect, what must be ahead) -/
def planOrder : Nat → Nat → List (Nat × Bool × Nat) → List Nat
  | 0, _, _ => []
  | k + 1, mask, rem =>
    match (match rem.find? (fun x => !x.2.1 && (x.2.2 &&& mask == x.2.2)) with | some x => some x | none => rem.find? (fun x => x.2.2 &&& mask == x.2.2)) with
    | some x => x.1 :: planOrder k (mask ||| 2 ^ x.1) (rem.filter (·.1 != x.1))
    | none => []
def pairOK (d d' : DStep) : Bool :=
  d.i != d'.i && (decide (d.st.op.kind ≠ .eff) || d'.bef.testBit d.i) && !d.bef.testBit d'.i &&
  (match d.st.dst with
    | none => true
    | some t => decide (d'.st.dst ≠ some t) && (d'.bef.testBit d.i || !d'.st.reads.contains t)) &&
  (match d'.st.dst with
    | none => true
    | some t => d'.bef.testBit d.i || !d.st.reads.contains t)
def pairsOK : List DStep → Bool
  | [] => true
  | d :: r => r.all (pairOK d) && pairsOK r
def planOf (P : Program) (nt : Nat) (ops : Array Oper) : Option (List DStep) :=
  let rows := ops.toList.zipIdx.map fun p => (p.2, (match trOp P p.1.op with | some op => decide (op.kind = .eff) | none => true), (binding p.1).foldl (fun s on => s ||| 2 ^ on) 0)
  match mkPlan P nt ops (planOrder ops.size 0 rows) [] with
  | some l => if pairsOK l && (l.foldl (fun s d => s ||| 2 ^ d.i) 0 == 2 ^ ops.size - 1) && decide (l.length ≤ ops.size) then some l else none
  | none => none
/-- no range over a function stands in it: such code may be a round's body -/
def ACode.flat : ACode → Bool
  | .seq a b | .cond _ a b => a.flat && b.flat
  | .block _ c | .loop c | .scope c => c.flat
  | .range .. => false
  | _ => true
def trCode (P : Program) (nt : Nat) : Code → Option ACode
  | .skip => some .skip
  | .region _ ops draw => if draw then (planOf P nt ops).map .draw else (trSteps P nt ops.toList ops.toList).map .ops
  | .seq a b => match trCode P nt a, trCode P nt b with | some a, some b => some (.seq a b) | _, _ => none
  | .cond c a b => match trOpd c, trCode P nt a, trCode P nt b with | some c, some a, some b => some (.cond c a b) | _, _, _ => none
  | .block id c => (trCode P nt c).map (.block id)
  | .loop c => (trCode P nt c).map .loop
  | .exit id => some (.exit id)
  | .ret => some .ret
  | .scope c => (trCode P nt c).map .scope
  | .label _ => some .skip
  | .goto _ => some .stuck
  | .rangeFunc f ps a b => match trOpd f, trCode P nt a, trCode P nt b with
    | some f, some a, some b => if (a.flat && b.flat && ps.all (· < nt)) = true then some (.range nt f ps.toList a b) else none
    | _, _, _ => none
  | _ => none
def trRes (P : Program) : ResultVar → Option ARes
  | .tmp t => some (.tmp t)
  | .cell a t => match aggOf P t, sizeP P t with | some b, some n => some (.cell a b n) | _, _ => none
def trRess (P : Program) : List ResultVar → Option (List ARes)
  | [] => some []
  | v :: l => match trRes P v, trRess P l with | some a, some b => some (a :: b) | _, _ => none
def trFunc (P : Program) (fn : Func) : Option AFunc :=
  match fn.body with
  | none => none
  | some c => match trCode P fn.ntmps c, trRess P fn.results.toList with
    | some c, some r => some ⟨fn.ntmps, r, c⟩
    | _, _ => none
/-- a body that defers one call: of a function value without arguments, as the last operation of a region -/
def trDef (P : Program) (nt : Nat) : Code → Option DCode
  | .seq (.region id ops false) b =>
    match (match ops.toList.getLast? with | some o => (match o.op with | .defer c => some (c, o.guard.isNone, o.dst.isNone) | _ => none) | none => none) with
    | some (c, true, true) => match c.callee, c.args.toList, trSteps P nt ops.toList ops.toList.dropLast with
      | .value f, [], some l => match trOpd f, trCode P nt b with
        | some f, some b => if b.flat then some (.dfr l f b) else none
        | _, _ => none
      | _, _, _ => none
    | _ => match trSteps P nt ops.toList ops.toList, trDef P nt b with
      | some l, some d => some (.seq (.ops l) d)
      | _, _ => none
  | .seq a b => match trCode P nt a, trDef P nt b with
    | some a, some d => if a.flat then some (.seq a d) else none
    | _, _ => none
  | _ => none
def trFuncD (P : Program) (fn : Func) : Option ADef :=
  match fn.body with
  | none => none
  | some c => match trDef P fn.ntmps c, trRess P fn.results.toList with
    | some c, some r => some ⟨fn.ntmps, r, c⟩
    | _, _ => none
/-- a deferred function without results that recovers first of all -/
def trFuncR (P : Program) (fn : Func) : Option ARec :=
  match fn.body with
  | some (.seq (.region _ ops false) b) => match ops.toList with
    | o :: r => match o.op, o.dst, o.guard with
      | .call c, some d, none => match c.callee, trSteps P fn.ntmps ops.toList r, trCode P fn.ntmps b with
        | .builtin .recover, some l, some b => if d < fn.ntmps ∧ fn.results.size = 0 ∧ b.flat = true ∧ l.all (fun st => st.op.plain) = true then some ⟨fn.ntmps, d, l, b⟩ else none
        | _, _, _ => none
      | _, _, _ => none
    | [] => none
  | _ => none
end Go.Proofs.YtgjcdpanabjcmaaGreatDoor.Ev

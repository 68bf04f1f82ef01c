/- Abstract values, an abstract heap whose objects are numbered, and an interpreter of the program's code over them. -/
import Derived.LoopNIn
import Derived.OrdersIn
import Derived.Laws.IdiomCopy
import Derived.Laws.Cells
import Derived.KernelRfl
import GoSem.Core.Utf8
namespace Go.Proofs.YtlbaphapjclkdaaGreatDoor.Ev
set_option linter.unusedVariables false

/-! ## Values -/
inductive AV where
  | bool (b : Bool)
  | int (k : IntKind) (n : Int)
  | str (s : List UInt8)
  | nilp
  | ptr (o i : Nat)
  | nils
  | slice (o i len es : Nat)
  | nilm
  | map (o : Nat)
  | nilf
  | func (f : Nat) (cs : List AV)
  | yield (l : Nat)
  /-- a method of a value: the value goes ahead of what it is called with -/
  | meth (f : Nat) (v : AV)
  /-- a package-level variable's place -/
  | gptr (g : Nat)
  | nili
  | iface (t : Nat) (v : AV)
  | agg (cs : List AV)
  | tup (vs : List AV)
  deriving Inhabited

mutual
def AV.beq : AV → AV → Bool
  | .bool a, .bool b => a == b
  | .int k a, .int j b => decide (k = j) && decide (a = b)
  | .str a, .str b => decide (a = b)
  | .nilp, .nilp => true
  | .ptr o i, .ptr p j => o == p && i == j
  | .nils, .nils => true
  | .slice o i l e, .slice p j k f => o == p && i == j && l == k && e == f
  | .nilm, .nilm => true
  | .map a, .map b => a == b
  | .nilf, .nilf => true
  | .func f cs, .func g ds => f == g && AV.beqs cs ds
  | .yield a, .yield b => a == b
  | .meth f v, .meth g w => f == g && v.beq w
  | .gptr a, .gptr b => a == b
  | .nili, .nili => true
  | .iface t v, .iface u w => t == u && v.beq w
  | .agg cs, .agg ds => AV.beqs cs ds
  | .tup cs, .tup ds => AV.beqs cs ds
  | _, _ => false
def AV.beqs : List AV → List AV → Bool
  | [], [] => true
  | a :: l, b :: k => a.beq b && AV.beqs l k
  | _, _ => false
end
mutual
theorem AV.beq_eq : ∀ {a b : AV}, a.beq b = true → a = b
  | .bool a, b, h => by cases b <;> simp [AV.beq] at h; rw [h]
  | .int k a, b, h => by cases b <;> simp [AV.beq] at h; rw [h.1, h.2]
  | .str a, b, h => by cases b <;> simp [AV.beq] at h; rw [h]
  | .nilp, b, h => by cases b <;> simp [AV.beq] at h; rfl
  | .ptr o i, b, h => by cases b <;> simp [AV.beq] at h; rw [h.1, h.2]
  | .nils, b, h => by cases b <;> simp [AV.beq] at h; rfl
  | .slice o i l e, b, h => by cases b <;> simp [AV.beq] at h; obtain ⟨⟨⟨rfl, rfl⟩, rfl⟩, rfl⟩ := h; rfl
  | .nilm, b, h => by cases b <;> simp [AV.beq] at h; rfl
  | .map a, b, h => by cases b <;> simp [AV.beq] at h; rw [h]
  | .nilf, b, h => by cases b <;> simp [AV.beq] at h; rfl
  | .func f cs, b, h => by cases b <;> simp [AV.beq] at h; rw [h.1, AV.beqs_eq h.2]
  | .yield a, b, h => by cases b <;> simp [AV.beq] at h; rw [h]
  | .meth f v, b, h => by cases b <;> simp [AV.beq] at h; rw [h.1, AV.beq_eq h.2]
  | .gptr a, b, h => by cases b <;> simp [AV.beq] at h; rw [h]
  | .nili, b, h => by cases b <;> simp [AV.beq] at h; rfl
  | .iface t v, b, h => by cases b <;> simp [AV.beq] at h; rw [h.1, AV.beq_eq h.2]
  | .agg cs, b, h => by cases b <;> simp [AV.beq] at h; rw [AV.beqs_eq h]
  | .tup cs, b, h => by cases b <;> simp [AV.beq] at h; rw [AV.beqs_eq h]
theorem AV.beqs_eq : ∀ {a b : List AV}, AV.beqs a b = true → a = b
  | [], b, h => by cases b <;> simp [AV.beqs] at h; rfl
  | a :: l, b, h => by cases b <;> simp [AV.beqs] at h; rw [AV.beq_eq h.1, AV.beqs_eq h.2]
end
mutual
theorem AV.beq_refl : ∀ (a : AV), a.beq a = true
  | .bool a | .int k a | .str a | .nilp | .ptr o i | .nils | .slice o i l e | .nilm | .map a | .nilf | .yield a | .gptr a | .nili => by simp [AV.beq]
  | .func f cs => by simp [AV.beq, AV.beqs_refl cs]
  | .iface t v => by simp [AV.beq, AV.beq_refl v]
  | .meth f v => by simp [AV.beq, AV.beq_refl v]
  | .agg cs => by simp [AV.beq, AV.beqs_refl cs]
  | .tup cs => by simp [AV.beq, AV.beqs_refl cs]
theorem AV.beqs_refl : ∀ (a : List AV), AV.beqs a a = true
  | [] => rfl
  | a :: l => by simp [AV.beqs, AV.beq_refl a, AV.beqs_refl l]
end

def AV.cells : AV → List AV
  | .agg cs => cs
  | v => [v]
/-- may stand in one cell -/
def AV.one : AV → Bool
  | .agg _ => false
  | .tup _ => false
  | _ => true

/-! ## A table -/
inductive Tr (α : Type) where
  | nil
  | node (v : Option α) (l r : Tr α)

def Tr.get {α : Type} : Tr α → Nat → Option α
  | .nil, _ => none
  | .node v l r, i => if i = 0 then v else if i % 2 = 1 then l.get (i / 2) else r.get (i / 2 - 1)

def Tr.setF {α : Type} : Nat → Tr α → Nat → α → Tr α
  | 0, t, _, _ => t
  | f + 1, .nil, i, x => if i = 0 then .node (some x) .nil .nil else if i % 2 = 1 then .node none (Tr.setF f .nil (i / 2) x) .nil else .node none .nil (Tr.setF f .nil (i / 2 - 1) x)
  | f + 1, .node v l r, i, x => if i = 0 then .node (some x) l r else if i % 2 = 1 then .node v (Tr.setF f l (i / 2) x) r else .node v l (Tr.setF f r (i / 2 - 1) x)
def Tr.set {α : Type} (t : Tr α) (i : Nat) (x : α) : Tr α := t.setF (i + 1) i x

theorem Tr.get_setF {α : Type} (x : α) : ∀ (f : Nat) (t : Tr α) (i j : Nat), i < f → (t.setF f i x).get j = if j = i then some x else t.get j := by
  intro f
  induction f with
  | zero => intro t i j h; omega
  | succ f ih =>
    intro t i j h
    cases t with
    | nil =>
      simp only [Tr.setF]
      by_cases h0 : i = 0
      · subst h0
        by_cases hj : j = 0
        · subst hj; simp [Tr.get]
        · simp [Tr.get, hj]
      · rw [if_neg h0]
        by_cases h1 : i % 2 = 1
        · rw [if_pos h1]
          simp only [Tr.get]
          by_cases hj : j = 0
          · subst hj; simp; omega
          · rw [if_neg hj]
            by_cases hj1 : j % 2 = 1
            · rw [if_pos hj1, ih _ _ _ (by omega)]
              simp only [Tr.get]
              by_cases e : j / 2 = i / 2
              · rw [if_pos e, if_pos (by omega)]
              · rw [if_neg e, if_neg (by omega)]
            · rw [if_neg hj1, if_neg (by omega)]
        · rw [if_neg h1]
          simp only [Tr.get]
          by_cases hj : j = 0
          · subst hj; simp; omega
          · rw [if_neg hj]
            by_cases hj1 : j % 2 = 1
            · rw [if_pos hj1, if_neg (by omega)]
            · rw [if_neg hj1, ih _ _ _ (by omega)]
              simp only [Tr.get]
              by_cases e : j / 2 - 1 = i / 2 - 1
              · rw [if_pos e, if_pos (by omega)]
              · rw [if_neg e, if_neg (by omega)]
    | node v l r =>
      simp only [Tr.setF]
      by_cases h0 : i = 0
      · subst h0
        by_cases hj : j = 0
        · subst hj; simp [Tr.get]
        · simp [Tr.get, hj]
      · rw [if_neg h0]
        by_cases h1 : i % 2 = 1
        · rw [if_pos h1]
          simp only [Tr.get]
          by_cases hj : j = 0
          · subst hj; simp; omega
          · rw [if_neg hj, if_neg hj]
            by_cases hj1 : j % 2 = 1
            · rw [if_pos hj1, if_pos hj1, ih _ _ _ (by omega)]
              by_cases e : j / 2 = i / 2
              · rw [if_pos e, if_pos (by omega)]
              · rw [if_neg e, if_neg (by omega)]
            · rw [if_neg hj1, if_neg hj1, if_neg (by omega)]
        · rw [if_neg h1]
          simp only [Tr.get]
          by_cases hj : j = 0
          · subst hj; simp; omega
          · rw [if_neg hj, if_neg hj]
            by_cases hj1 : j % 2 = 1
            · rw [if_pos hj1, if_pos hj1, if_neg (by omega)]
            · rw [if_neg hj1, if_neg hj1, ih _ _ _ (by omega)]
              by_cases e : j / 2 - 1 = i / 2 - 1
              · rw [if_pos e, if_pos (by omega)]
              · rw [if_neg e, if_neg (by omega)]
theorem Tr.get_set {α : Type} (t : Tr α) (i : Nat) (x : α) (j : Nat) : (t.set i x).get j = if j = i then some x else t.get j :=
  Tr.get_setF x (i + 1) t i j (by omega)

/-! ## Code: its types -/
inductive AOpd where
  | tmp (t : Nat)
  | con (v : AV)
/-- a cell of a struct that may be compared -/
inductive FK where
  | i | s | b
  deriving DecidableEq
inductive AEq where
  | bool | ptr | slice | map | func | iface | nilI | flat (n : Nat) | flatK (ks : List FK)
/-- a map's keys -/
inductive KTy where
  | int | str | flat (ks : List FK)
inductive AOp where
  | mov (x : AOpd)
  | pick (c a b : AOpd)
  | alloc (zero : List AV)
  | box (x : AOpd)
  | build (zero : List AV) (parts : List (Nat × Nat × AOpd))
  | buildSlice (es len : Nat) (zero : List AV) (parts : List (Nat × Nat × AOpd))
  | load (agg : Bool) (n : Nat) (x : AOpd)
  | store (n : Nat) (x v : AOpd)
  | nilCheck (x : AOpd)
  | bin (op : BinOp) (x y : AOpd)
  | eq (k : AEq) (neg : Bool) (x y : AOpd)
  | not (x : AOpd)
  | neg (x : AOpd)
  | cvInt (k : IntKind) (x : AOpd)
  | cvSame (x : AOpd)
  | cvS2B (x : AOpd)
  | cvB2S (x : AOpd)
  | cvB2B (x : AOpd)
  | sliceS (es : Nat) (x : AOpd) (lo hi : Option AOpd)
  | slice3 (es : Nat) (x : AOpd) (lo : Option AOpd) (hi mx : AOpd)
  | sliceT (x : AOpd) (lo hi : Option AOpd)
  | sliceA (es n : Nat) (x : AOpd) (lo hi : Option AOpd)
  | fieldAddr (off : Nat) (x : AOpd)
  | field (agg : Bool) (off n : Nat) (x : AOpd)
  | indexAddr (es : Nat) (x i : AOpd)
  | indexArr (es n : Nat) (x i : AOpd)
  | indexStr (x i : AOpd)
  | indexAgg (agg : Bool) (es n : Nat) (x i : AOpd)
  | extract (x : AOpd) (i : Nat)
  | len (x : AOpd)
  | lenT (x : AOpd)
  | lenC (n : Nat)
  | append (es : Nat) (x y : AOpd)
  | copy (es : Nat) (x y : AOpd)
  | min (x y : AOpd)
  | max (x y : AOpd)
  | makeFunc (f : Nat) (cs : List AOpd)
  | makeSlice (es bytes : Nat) (zero : List AV) (len cap : AOpd)
  | makeIface (t : Nat) (x : AOpd)
  | makeMeth (f : Nat) (x : AOpd)
  | makeMap
  | mapPut (kk : KTy) (m k v : AOpd)
  | mapDel (kk : KTy) (m k : AOpd)
  | mapGet (kk : KTy) (ok : Bool) (zero : AV) (m k : AOpd)
  | rangeM (x : AOpd)
  | nextM (x : AOpd)
  | entryM (x : AOpd)
  | assert (t : Nat) (zero : AV) (ok : Bool) (x : AOpd)
  | lenM (x : AOpd)
  | rangeT (x : AOpd)
  | nextT (x : AOpd)
  | cvR2S (x : AOpd)
  | clear (es : Nat) (zero : List AV) (x : AOpd)
  | call (f : AOpd) (args : List AOpd)
  | panic (x : AOpd)

def undefA : AV := .tup []
abbrev S := Nat → AV
structure AStep where
  dst : Option Nat
  op : AOp
  guard : Option (Nat × Bool)
/-- an operation of a region that draws its order; i: its place in the text; bef: the operations that come before it in every order -/
structure DStep where
  i : Nat
  bef : Nat
  st : AStep
inductive ACode where
  | skip
  | ops (l : List AStep)
  | draw (l : List DStep)
  | seq (a b : ACode)
  | cond (c : AOpd) (a b : ACode)
  | block (id : Nat) (c : ACode)
  | loop (c : ACode)
  | exit (id : Nat)
  | ret
  | scope (c : ACode)
  /-- what is not taken -/
  | stuck
  /-- a range over a function: nt: the function's temporaries; ps: those that a round's values go to -/
  | range (nt : Nat) (f : AOpd) (ps : List Nat) (assign body : ACode)
/-- the record of a range over a function; st: 0 ready, 1 busy, 2 done, 3 exhausted; pend: what a round was left by (none: ret; some id: exit id); s: the temporaries that each round begins with -/
structure LoopRec where
  st : Nat
  pend : Option (Option Nat)
  nt : Nat
  s : S
  ps : List Nat
  assign : ACode
  body : ACode
/-! ## The heap -/
/-- what is no row: a map's entries, each with its number, and the number that is next; a text that is ranged over, and how far -/
inductive MObj where
  | map (es : List (AV × AV × Nat)) (clock : Nat)
  | siter (s : List UInt8) (pos : Nat)
  | miter (o : Option Nat) (since : Nat) (seen : List Nat) (stepped : Nat)
inductive AObj where
  /-- a row of cells; g: its group (rows that came out of one another by append), none: it is read alone -/
  | cells (cs : List AV) (g : Option Nat)
  | other
  | loop (L : LoopRec)
  | mem (X : MObj)
  /-- what a package-level variable holds -/
  | glob (g : Nat) (v : AV)

structure H where
  n : Nat
  ob : Tr AObj
  gr : Tr (Nat × Nat)

def H.get (h : H) (o : Nat) : Option AObj := h.ob.get o
/-- the last row of a group: that one alone is written and appended to -/
def H.tip (h : H) (g : Nat) : Nat := match h.gr.get g with | some p => p.1 | none => g
/-- rows of a group ahead of this one are read no more -/
def H.kill (h : H) (g : Nat) : Nat := match h.gr.get g with | some p => p.2 | none => 0
/-- a row that may be read -/
def H.row (h : H) (o : Nat) : Option (List AV) :=
  match h.get o with
  | some (.cells cs none) => some cs
  | some (.cells cs (some g)) => if h.kill g ≤ o then some cs else none
  | _ => none
def H.push (h : H) (x : AObj) : H := { h with n := h.n + 1, ob := h.ob.set h.n x }
def H.new (h : H) (cs : List AV) : H := h.push (.cells cs (some h.n))
def splice (cs : List AV) (i : Nat) (vs : List AV) : List AV := cs.take i ++ vs ++ cs.drop (i + vs.length)
def H.setGr (h : H) (g : Nat) (p : Nat × Nat) : H := { h with gr := h.gr.set g p }
def H.put (h : H) (o i : Nat) (vs : List AV) : Option H :=
  match h.get o with
  | some (.cells cs (some g)) =>
    if h.tip g = o ∧ i + vs.length ≤ cs.length then
      some (if g = o then { h with ob := h.ob.set o (.cells (splice cs i vs) (some g)) }
        else { h with ob := h.ob.set o (.cells (splice cs i vs) (some g)), gr := h.gr.set g (o, o) })
    else none
  | _ => none
/-- a row behind a row: 'old' ends where the slice ends -/
def H.child (h : H) (o g e : Nat) (cs new : List AV) : H :=
  if e = cs.length then { n := h.n + 1, ob := h.ob.set h.n (.cells new (some g)), gr := h.gr.set g (h.n, h.kill g) }
  else { n := h.n + 1, ob := (h.ob.set o (.cells (cs.take e) (some g))).set h.n (.cells new (some g)), gr := h.gr.set g (h.n, o) }
def H.app (h : H) (s : AV) (es k : Nat) (new : List AV) : Option (AV × H) :=
  if k = 0 then (match s with | .nils => some (s, h) | .slice _ _ _ es' => if es' = es then some (s, h) else none | _ => none) else
  match s with
  | .nils => if k < 4294967296 then some (.slice h.n 0 k es, h.new new) else none
  | .slice o i len es' =>
    match h.get o with
    | some (.cells cs (some g)) =>
      if h.tip g = o ∧ es' = es ∧ i + len * es ≤ cs.length ∧ len + k < 4294967296 ∧ h.kill g ≤ o ∧ new.all AV.one = true then
        some (.slice h.n 0 (len + k) es, h.child o g (i + len * es) cs ((cs.drop i).take (len * es) ++ new))
      else none
    | _ => none
  | _ => none

/-! ## Operations -/
def upd (s : S) (d : Option Nat) (v : AV) : S := match d with
  | none => s
  | some d => fun j => if j = d then v else s j
def AOpd.ev (s : S) : AOpd → AV
  | .tmp t => s t
  | .con v => v

def afill (cells : List AV) : List (Nat × Nat × AV) → Option (List AV)
  | [] => some cells
  | (off, size, v) :: rest => if v.cells.length = size ∧ off + size ≤ cells.length then afill (splice cells off v.cells) rest else none
/-- so many zero cells -/
def zeros (zero : List AV) (n : Nat) : List AV := (List.range n).map fun j => zero.getD (j % zero.length) (.tup [])

def big : Nat := 4611686018427387904
def intBin (op : BinOp) (k : IntKind) (a b : Int) : Option AV :=
  match op with
  | .add => some (.int k (k.wrap (a + b)))
  | .sub => some (.int k (k.wrap (a - b)))
  | .mul => some (.int k (k.wrap (a * b)))
  | .quo => if b = 0 then none else some (.int k (k.wrap (a.tdiv b)))
  | .rem => if b = 0 then none else some (.int k (a.tmod b))
  | .and => some (.int k (k.wrap (BitVec.ofInt k.bits a &&& BitVec.ofInt k.bits b).toNat))
  | .or => some (.int k (k.wrap (BitVec.ofInt k.bits a ||| BitVec.ofInt k.bits b).toNat))
  | .xor => some (.int k (k.wrap (BitVec.ofInt k.bits a ^^^ BitVec.ofInt k.bits b).toNat))
  | .andNot => some (.int k (k.wrap (BitVec.ofInt k.bits a &&& ~~~(BitVec.ofInt k.bits b)).toNat))
  | .eql => some (.bool (a == b))
  | .neq => some (.bool (a != b))
  | .lss => some (.bool (decide (a < b)))
  | .leq => some (.bool (decide (a ≤ b)))
  | .gtr => some (.bool (decide (a > b)))
  | .geq => some (.bool (decide (a ≥ b)))
  | _ => none
def shiftBin (op : BinOp) (k : IntKind) (a b : Int) : Option AV :=
  if b < 0 then none else match op with
  | .shl => some (.int k (k.wrap (a * 2 ^ (Nat.min b.toNat k.bits))))
  | .shr => some (.int k (a.fdiv (2 ^ (Nat.min b.toNat k.bits))))
  | _ => none
def strBin (op : BinOp) (a b : List UInt8) : Option AV :=
  match op with
  | .add => if a.length + b.length ≤ big then some (.str (a ++ b)) else none
  | .eql => some (.bool (a == b))
  | .neq => some (.bool (!(a == b)))
  | .lss => some (.bool (Op.bytesLess a b))
  | .leq => some (.bool (Op.bytesLess a b || a == b))
  | .gtr => some (.bool (!(Op.bytesLess a b || a == b)))
  | .geq => some (.bool (!(Op.bytesLess a b)))
  | _ => none
def isShift : BinOp → Bool
  | .shl | .shr => true
  | _ => false
def binA (op : BinOp) : AV → AV → Option AV
  | .int k a, .int k' b => if isShift op then shiftBin op k a b else if k = k' then intBin op k a b else none
  | .str a, .str b => strBin op a b
  | _, _ => none
/-- are cells of whole numbers, bools and texts the same? -/
def flatEq : List AV → List AV → Option Bool
  | [], [] => some true
  | .int k a :: x, .int k' b :: y => if k = k' then (flatEq x y).map (fun r => (a == b) && r) else none
  | _, _ => none
def flatEqK : List FK → List AV → List AV → Option Bool
  | [], [], [] => some true
  | .i :: ks, .int k a :: x, .int k' b :: y => if k = k' then (flatEqK ks x y).map (fun r => (a == b) && r) else none
  | .s :: ks, .str a :: x, .str b :: y => (flatEqK ks x y).map (fun r => (a == b) && r)
  | .b :: ks, .bool a :: x, .bool b :: y => (flatEqK ks x y).map (fun r => (a == b) && r)
  | _, _, _ => none
def eqA : AEq → AV → AV → Option Bool
  | .bool, .bool a, .bool b => some (a == b)
  | .ptr, .nilp, .nilp => some true
  | .ptr, .nilp, .ptr _ _ => some false
  | .ptr, .ptr _ _, .nilp => some false
  | .slice, .nils, .nils => some true
  | .slice, .nils, .slice _ _ _ _ => some false
  | .slice, .slice _ _ _ _, .nils => some false
  | .map, .nilm, .nilm => some true
  | .map, .nilm, .map _ => some false
  | .map, .map _, .nilm => some false
  | .func, .nilf, .nilf => some true
  | .func, .nilf, .func _ _ => some false
  | .func, .func _ _, .nilf => some false
  | .func, .nilf, .meth _ _ => some false
  | .func, .meth _ _, .nilf => some false
  | .iface, .nili, .iface _ _ => some false
  | .iface, .iface _ _, .nili => some false
  | .nilI, .nili, .nili => some true
  | .nilI, .nili, .iface _ _ => some false
  | .nilI, .iface _ _, .nili => some false
  | .flat n, .agg x, .agg y => if x.length = n ∧ y.length = n then flatEq x y else none
  | .flatK ks, .agg x, .agg y => flatEqK ks x y
  | _, _, _ => none
def bytesOf : List AV → Option (List UInt8)
  | [] => some []
  | .int .u8 n :: r => (bytesOf r).map (UInt8.ofNat n.toNat :: ·)
  | _ => none
def byteCells (s : List UInt8) : List AV := s.map fun c => .int .u8 c.toNat
/-- the bounds of a cut of a thing of so many -/
def bounds (len : Nat) (lo hi : Option AV) : Option (Nat × Nat) :=
  match (match hi with | none => some len | some (.int _ n) => if 0 ≤ n ∧ n ≤ (len : Int) then some n.toNat else none | _ => none) with
  | none => none
  | some h => match (match lo with | none => some 0 | some (.int _ n) => if 0 ≤ n ∧ n ≤ (h : Int) then some n.toNat else none | _ => none) with
    | none => none
    | some l => some (l, h)
/-- a slice's first cells -/
def H.firstCells (h : H) (es k : Nat) : AV → Option (List AV)
  | .nils => if k = 0 then some [] else none
  | .slice o i len es' => if es' = es ∧ k ≤ len then (match h.row o with | some cs => if i + k * es ≤ cs.length then some ((cs.drop i).take (k * es)) else none | none => if k * es = 0 then some [] else none) else none
  | .str s => if es = 1 ∧ k ≤ s.length then some (byteCells (s.take k)) else none
  | _ => none
def lenA : AV → Option Nat
  | .nils => some 0
  | .slice _ _ len _ => some len
  | .str s => some s.length
  | _ => none

def loadA (h : H) (agg : Bool) (n : Nat) : AV → Option AV
  | .ptr o i => match h.row o with
    | some cs => if agg then (if i + n ≤ cs.length then some (.agg ((cs.drop i).take n)) else none) else cs[i]?
    | none => none
  | .gptr g => match h.get 0 with
    | some (.glob g' v) => if g' = g ∧ agg = false then some v else none
    | _ => none
  | _ => none
def storeA (h : H) (n : Nat) (x v : AV) : Option H :=
  match x with
  | .ptr o i => if v.cells.length = n ∧ v.cells.all AV.one then h.put o i v.cells else none
  | _ => none
def nilCheckA : AV → Option AV
  | .ptr o i => some (.ptr o i)
  | .func f cs => some (.func f cs)
  | _ => none
def notA : AV → Option AV | .bool b => some (.bool (!b)) | _ => none
def negA : AV → Option AV | .int k n => some (.int k (k.wrap (0 - n))) | _ => none
def cvIntA (k : IntKind) : AV → Option AV | .int _ n => some (.int k (k.wrap n)) | _ => none
def cvSameA : AV → Option AV | .str t => some (.str t) | _ => none
def cvS2BA (h : H) : AV → Option (AV × H) | .str t => some (.slice h.n 0 t.length 1, h.new (byteCells t)) | _ => none
def cvB2SA (h : H) : AV → Option AV
  | .nils => some (.str [])
  | .slice o i len es => if es = 1 then ((h.firstCells 1 len (.slice o i len 1)).bind bytesOf).map .str else none
  | _ => none
/-- bytes as bytes: the very slice; a row of one's own alone -/
def cvB2BA (h : H) : AV → Option AV
  | .slice o i len es => if len = 0 then none else match h.get o with | some (.cells _ (some _)) => some (.slice o i len es) | _ => none
  | _ => none
def lenSA : AV → Option Nat
  | .nils => some 0
  | .slice _ _ len _ => some len
  | _ => none
def sliceSA (es : Nat) (lo hi : Option AV) : AV → Option AV
  | .nils => (bounds 0 lo hi).map fun _ => .nils
  | .slice o i len es' => if es' = es then (bounds len lo hi).map fun p => .slice o (i + p.1 * es) (p.2 - p.1) es else none
  | _ => none
/-- a cut that tells where the room ends -/
def slice3A (es : Nat) (lo : Option AV) (hi mx x : AV) : Option AV :=
  match hi, mx, lenSA x with
  | .int _ a, .int _ b, some n => if a ≤ b ∧ b ≤ (n : Int) then sliceSA es lo (some hi) x else none
  | _, _, _ => none
def sliceTA (lo hi : Option AV) : AV → Option AV
  | .str t => (bounds t.length lo hi).map fun p => .str ((t.drop p.1).take (p.2 - p.1))
  | _ => none
def sliceAA (h : H) (es n : Nat) (lo hi : Option AV) : AV → Option AV
  | .ptr o i => match h.get o with
    | some (.cells cs _) => if i + n * es ≤ cs.length then (bounds n lo hi).map fun p => .slice o (i + p.1 * es) (p.2 - p.1) es else none
    | _ => none
  | _ => none
def fieldAddrA (off : Nat) : AV → Option AV | .ptr o i => some (.ptr o (i + off)) | _ => none
def partA (agg : Bool) (off n : Nat) (cs : List AV) : Option AV :=
  if agg then (if off + n ≤ cs.length then some (.agg ((cs.drop off).take n)) else none) else cs[off]?
def fieldA (agg : Bool) (off n : Nat) : AV → Option AV
  | .agg cs => partA agg off n cs
  | _ => none
def indexAddrA (es : Nat) : AV → AV → Option AV
  | .slice o j len es', .int _ n => if es' = es ∧ 0 ≤ n ∧ n < (len : Int) then some (.ptr o (j + n.toNat * es)) else none
  | _, _ => none
def indexArrA (es k : Nat) : AV → AV → Option AV
  | .ptr o j, .int _ n => if 0 ≤ n ∧ n < (k : Int) then some (.ptr o (j + n.toNat * es)) else none
  | _, _ => none
def indexStrA : AV → AV → Option AV
  | .str t, .int _ n => if 0 ≤ n then (t[n.toNat]?).map fun c => .int .u8 c.toNat else none
  | _, _ => none
def indexAggA (agg : Bool) (es k : Nat) : AV → AV → Option AV
  | .agg cs, .int _ n => if 0 ≤ n ∧ n < (k : Int) then partA agg (n.toNat * es) es cs else none
  | _, _ => none
def extractA (i : Nat) : AV → Option AV | .tup vs => vs[i]? | _ => none
def appendA (h : H) (es : Nat) (x y : AV) : Option (AV × H) :=
  match lenA y with
  | some k => match h.firstCells es k y with | some new => h.app x es k new | none => none
  | none => none
def copyA (h : H) (es : Nat) (x y : AV) : Option (AV × H) :=
  match x, lenA y with
  | .nils, some _ => some (.int .i64 0, h)
  | .slice o i len es', some k =>
    if es' = es then
      (if Nat.min k len = 0 then some (.int .i64 0, h) else
      match h.firstCells es (Nat.min k len) y with
      | some new => if new.all AV.one then (h.put o i new).map (.int .i64 (Nat.min k len : Nat), ·) else none
      | none => none)
    else none
  | _, _ => none
def minA : AV → AV → Option AV | .int k a, .int _ b => some (.int k (if b < a then b else a)) | _, _ => none
def maxA : AV → AV → Option AV | .int k a, .int _ b => some (.int k (if b > a then b else a)) | _, _ => none
def makeSliceA (h : H) (es bytes : Nat) (z : List AV) : AV → AV → Option (AV × H)
  | .int _ l, .int _ c => if 0 ≤ l ∧ l ≤ c ∧ c < 4294967296 ∧ c * bytes ≤ 281474976710656 then some (.slice h.n 0 l.toNat es, h.new (zeros z (c.toNat * es))) else none
  | _, _ => none
def pickA (c a b : AV) : Option AV := match c with | .bool t => some (if t then a else b) | _ => none
def parts (s : S) (ps : List (Nat × Nat × AOpd)) : List (Nat × Nat × AV) := ps.map fun p => (p.1, p.2.1, p.2.2.ev s)

/-! ### maps, texts that are ranged over -/
def H.setMem (h : H) (o : Nat) (X : MObj) : H := { h with ob := h.ob.set o (.mem X) }
/-- are two keys the same? -/
def keyEq : KTy → AV → AV → Option Bool
  | .int, .int k a, .int k' b => if k = k' then some (a == b) else none
  | .str, .str a, .str b => some (a == b)
  | .flat ks, .agg x, .agg y => flatEqK ks x y
  | _, _, _ => none
/-- where a key stands; none: it is held against what it can't be held against -/
def idxM (kk : KTy) (k : AV) : List (AV × AV × Nat) → Option (Option Nat)
  | [] => some none
  | e :: r => match keyEq kk k e.1 with
    | some true => some (some 0)
    | some false => (idxM kk k r).map (·.map (· + 1))
    | none => none
def mapPutA (h : H) (kk : KTy) (k v : AV) : AV → Option H
  | .map o => match h.get o with
    | some (.mem (.map es c)) => if (keyEq kk k k).isSome then match idxM kk k es with
      | some none => some (h.setMem o (.map (es ++ [(k, v, c)]) (c + 1)))
      | some (some i) => match es[i]? with
        | some e => some (h.setMem o (.map (es.set i (e.1, v, e.2.2)) c))
        | none => none
      | none => none
      else none
    | _ => none
  | _ => none
def mapDelA (h : H) (kk : KTy) (k : AV) : AV → Option H
  | .nilm => if (keyEq kk k k).isSome then some h else none
  | .map o => match h.get o with
    | some (.mem (.map es c)) => if (keyEq kk k k).isSome then match idxM kk k es with
      | some none => some (h.setMem o (.map es c))
      | some (some i) => some (h.setMem o (.map (es.eraseIdx i) c))
      | none => none
      else none
    | _ => none
  | _ => none
def mapGetA (h : H) (kk : KTy) (ok : Bool) (z k : AV) : AV → Option AV
  | .nilm => if (keyEq kk k k).isSome then some (if ok then .tup [z, .bool false] else z) else none
  | .map o => match h.get o with
    | some (.mem (.map es _)) => if (keyEq kk k k).isSome then match idxM kk k es with
      | some none => some (if ok then .tup [z, .bool false] else z)
      | some (some i) => match es[i]? with
        | some e => some (if ok then .tup [e.2.1, .bool true] else e.2.1)
        | none => none
      | none => none
      else none
    | _ => none
  | _ => none
def rangeMA (h : H) : AV → Option (AV × H)
  | .nilm => some (.ptr h.n 0, h.push (.mem (.miter none 0 [] 0)))
  | .map o => match h.get o with
    | some (.mem (.map _ c)) => some (.ptr h.n 0, h.push (.mem (.miter (some o) c [] c)))
    | _ => none
  | _ => none
def entryMA (h : H) : AV → Option AV
  | .ptr o 0 => match h.get o with
    | some (.mem (.miter (some mo) _ seen stepped)) => match h.get mo, seen.getLast? with
      | some (.mem (.map es c)), some stamp => if c = stepped then (es.find? (·.2.2 == stamp)).map fun e => .tup [e.1, e.2.1] else none
      | _, _ => none
    | _ => none
  | _ => none
/-- the next entry of a map that is ranged over: whichever it is -/
def nextP (h : H) (K : AV → H → Prop) : AV → Prop
  | .ptr o 0 => match h.get o with
    | some (.mem (.miter none _ _ _)) => K (.tup [.bool false]) h
    | some (.mem (.miter (some mo) since seen last)) => match h.get mo with
      | some (.mem (.map es c)) =>
        (seen = [] ∨ es = [] ∨ ∃ e ∈ es, e.2.2 < last) ∧
        ((∀ e ∈ es, seen.contains e.2.2 = false → since ≤ e.2.2) → K (.tup [.bool false]) h) ∧
        (∀ e ∈ es, seen.contains e.2.2 = false → K (.tup [.bool true, e.1, e.2.1]) (h.setMem o (.miter (some mo) since (seen ++ [e.2.2]) c)))
      | _ => False
    | _ => False
  | _ => False
/-- the next entry of a map that has none -/
def nextEA (h : H) : AV → Option (AV × H)
  | .ptr o 0 => match h.get o with
    | some (.mem (.miter none _ _ _)) => some (.tup [.bool false], h)
    | some (.mem (.miter (some mo) _ _ _)) => match h.get mo with
      | some (.mem (.map [] _)) => some (.tup [.bool false], h)
      | _ => none
    | _ => none
  | _ => none
theorem nextEA_P {h h' : H} {x v : AV} (e : nextEA h x = some (v, h')) {K : AV → H → Prop} (k : K v h') : nextP h K x := by
  unfold nextEA at e
  unfold nextP
  split at e
  case h_2 => cases e
  rename_i o
  split at e
  · rename_i hg; cases e; exact k
  · rename_i mo a b c hg
    split at e
    · rename_i c' hg'
      simp only [hg']
      cases e
      exact ⟨.inr (.inl trivial), fun _ => k, fun x hx => by cases hx⟩
    · cases e
  · cases e
def assertA (t : Nat) (z : AV) (ok : Bool) : AV → Option AV
  | .nili => if ok then some (.tup [z, .bool false]) else none
  | .iface u v => if u = t then some (if ok then .tup [v, .bool true] else v) else if ok then some (.tup [z, .bool false]) else none
  | _ => none
def lenMA (h : H) : AV → Option Nat
  | .nilm => some 0
  | .map o => match h.get o with | some (.mem (.map es _)) => some es.length | _ => none
  | _ => none
def rangeTA (h : H) : AV → Option (AV × H)
  | .str s => some (.ptr h.n 0, h.push (.mem (.siter s 0)))
  | _ => none
def nextTA (h : H) : AV → Option (AV × H)
  | .ptr o 0 => match h.get o with
    | some (.mem (.siter s p)) => if p < s.length then some (.tup [.bool true, .int .i64 (p : Int), .int .i32 ((Utf8.decode ⟨⟨s⟩⟩ p).1 : Int)], h.setMem o (.siter s (p + (Utf8.decode ⟨⟨s⟩⟩ p).2))) else some (.tup [.bool false], h)
    | _ => none
  | _ => none
def cvR2SA : AV → Option AV | .int _ n => some (.str (Utf8.encode n).data.toList) | _ => none
def clearA (h : H) (es : Nat) (z : List AV) : AV → Option H
  | .nils => some h
  | .slice o i len es' => if es' = es then (if len = 0 then some h else if z.length = es ∧ z.all AV.one = true then h.put o i (zeros z (len * es)) else none) else none
  | _ => none
def lenTA : AV → Option Nat
  | .str s => some s.length
  | _ => none

def exec (o : AOp) (s : S) (h : H) : Option (AV × H) :=
  match o with
  | .mov x => some (x.ev s, h)
  | .pick c a b => (pickA (c.ev s) (a.ev s) (b.ev s)).map (·, h)
  | .alloc z => some (.ptr h.n 0, h.new z)
  | .box x => some (.ptr h.n 0, h.new (x.ev s).cells)
  | .build z ps => (afill z (parts s ps)).map fun cs => (.agg cs, h)
  | .buildSlice es len z ps => (afill (zeros z (len * es)) (parts s ps)).map fun cs => (.slice h.n 0 len es, h.new cs)
  | .load agg n x => (loadA h agg n (x.ev s)).map (·, h)
  | .store n x v => (storeA h n (x.ev s) (v.ev s)).map (undefA, ·)
  | .nilCheck x => (nilCheckA (x.ev s)).map (·, h)
  | .bin op x y => (binA op (x.ev s) (y.ev s)).map (·, h)
  | .eq k neg x y => (eqA k (x.ev s) (y.ev s)).map fun b => (.bool (if neg then !b else b), h)
  | .not x => (notA (x.ev s)).map (·, h)
  | .neg x => (negA (x.ev s)).map (·, h)
  | .cvInt k x => (cvIntA k (x.ev s)).map (·, h)
  | .cvSame x => (cvSameA (x.ev s)).map (·, h)
  | .cvS2B x => cvS2BA h (x.ev s)
  | .cvB2S x => (cvB2SA h (x.ev s)).map (·, h)
  | .cvB2B x => (cvB2BA h (x.ev s)).map (·, h)
  | .sliceS es x lo hi => (sliceSA es (lo.map (·.ev s)) (hi.map (·.ev s)) (x.ev s)).map (·, h)
  | .slice3 es x lo hi mx => (slice3A es (lo.map (·.ev s)) (hi.ev s) (mx.ev s) (x.ev s)).map (·, h)
  | .sliceT x lo hi => (sliceTA (lo.map (·.ev s)) (hi.map (·.ev s)) (x.ev s)).map (·, h)
  | .sliceA es n x lo hi => (sliceAA h es n (lo.map (·.ev s)) (hi.map (·.ev s)) (x.ev s)).map (·, h)
  | .fieldAddr off x => (fieldAddrA off (x.ev s)).map (·, h)
  | .field agg off n x => (fieldA agg off n (x.ev s)).map (·, h)
  | .indexAddr es x i => (indexAddrA es (x.ev s) (i.ev s)).map (·, h)
  | .indexArr es k x i => (indexArrA es k (x.ev s) (i.ev s)).map (·, h)
  | .indexStr x i => (indexStrA (x.ev s) (i.ev s)).map (·, h)
  | .indexAgg agg es k x i => (indexAggA agg es k (x.ev s) (i.ev s)).map (·, h)
  | .extract x i => (extractA i (x.ev s)).map (·, h)
  | .len x => (lenSA (x.ev s)).map fun (n : Nat) => (.int .i64 (n : Int), h)
  | .lenT x => (lenTA (x.ev s)).map fun (n : Nat) => (.int .i64 (n : Int), h)
  | .lenC n => some (.int .i64 n, h)
  | .append es x y => appendA h es (x.ev s) (y.ev s)
  | .copy es x y => copyA h es (x.ev s) (y.ev s)
  | .min x y => (minA (x.ev s) (y.ev s)).map (·, h)
  | .max x y => (maxA (x.ev s) (y.ev s)).map (·, h)
  | .makeFunc f cs => some (.func f (cs.map (·.ev s)), h)
  | .makeSlice es bytes z l c => makeSliceA h es bytes z (l.ev s) (c.ev s)
  | .makeIface t x => some (.iface t (x.ev s), h)
  | .makeMeth f x => some (.meth f (x.ev s), h)
  | .makeMap => some (.map h.n, h.push (.mem (.map [] 0)))
  | .mapPut kk m k v => (mapPutA h kk (k.ev s) (v.ev s) (m.ev s)).map (undefA, ·)
  | .mapDel kk m k => (mapDelA h kk (k.ev s) (m.ev s)).map (.tup [], ·)
  | .mapGet kk ok z m k => (mapGetA h kk ok z (k.ev s) (m.ev s)).map (·, h)
  | .rangeM x => rangeMA h (x.ev s)
  | .nextM _ => none
  | .entryM x => (entryMA h (x.ev s)).map (·, h)
  | .assert t z ok x => (assertA t z ok (x.ev s)).map (·, h)
  | .lenM x => (lenMA h (x.ev s)).map fun (n : Nat) => (.int .i64 (n : Int), h)
  | .rangeT x => rangeTA h (x.ev s)
  | .nextT x => nextTA h (x.ev s)
  | .cvR2S x => (cvR2SA (x.ev s)).map (·, h)
  | .clear es z x => (clearA h es z (x.ev s)).map (.tup [], ·)
  | .call _ _ => none
  | .panic _ => none

/-! ## Code -/
/-- what an operation of a region that draws its order may do -/
inductive AKind where
  | pure | read | make | eff
  deriving DecidableEq
def AOp.plain : AOp → Bool
  | .call _ _ => false
  | .panic _ => false
  | .nextM _ => false
  | _ => true
def AOp.kind : AOp → AKind
  | .load .. | .cvB2S _ | .sliceA .. | .mapGet .. | .lenM _ | .entryM _ => .read
  | .alloc _ | .box _ | .buildSlice .. | .cvS2B _ | .makeSlice .. => .make
  | .store .. | .append .. | .copy .. | .call .. | .panic _ | .cvB2B _ | .makeMap | .mapPut .. | .mapDel .. | .rangeT _ | .nextT _ | .rangeM _ | .nextM _ | .clear .. => .eff
  | _ => .pure
def AOp.opds : AOp → List AOpd
  | .pick c a b => [c, a, b]
  | .build _ ps | .buildSlice _ _ _ ps => ps.map (·.2.2)
  | .store _ x y | .bin _ x y | .eq _ _ x y | .indexAddr _ x y | .indexArr _ _ x y | .indexStr x y | .indexAgg _ _ _ x y | .append _ x y | .copy _ x y | .min x y | .max x y | .makeSlice _ _ _ x y => [x, y]
  | .sliceS _ x lo hi | .sliceT x lo hi | .sliceA _ _ x lo hi => x :: (lo.toList ++ hi.toList)
  | .slice3 _ x lo hi mx => x :: hi :: mx :: lo.toList
  | .alloc _ | .lenC _ | .makeMap => []
  | .mapPut _ a b c => [a, b, c]
  | .mapGet _ _ _ a b | .mapDel _ a b => [a, b]
  | .makeFunc _ cs => cs
  | .call f cs => f :: cs
  | .mov x | .box x | .load _ _ x | .nilCheck x | .not x | .neg x | .cvInt _ x | .cvSame x | .cvS2B x | .cvB2S x | .cvB2B x | .fieldAddr _ x | .field _ _ _ x | .extract x _ | .len x | .lenT x | .makeIface _ x | .panic x | .makeMeth _ x | .lenM x | .rangeT x | .nextT x | .cvR2S x | .clear _ _ x | .rangeM x | .nextM x | .entryM x | .assert _ _ _ x => [x]
def AOpd.tmps : AOpd → List Nat
  | .tmp t => [t]
  | .con _ => []
def AStep.reads (d : AStep) : List Nat := (match d.guard with | some (t, _) => [t] | none => []) ++ d.op.opds.flatMap AOpd.tmps
inductive ARes where
  | tmp (t : Nat)
  | cell (t : Nat) (agg : Bool) (n : Nat)
structure AFunc where
  ntmps : Nat
  results : List ARes
  body : ACode
/-- a body that defers one call, of a function without arguments: what is ahead of it, what goes ahead of it in its region, the call, and what is behind -/
inductive DCode where
  | seq (a : ACode) (d : DCode)
  | dfr (l : List AStep) (f : AOpd) (post : ACode)
structure ADef where
  ntmps : Nat
  results : List ARes
  body : DCode
/-- a deferred function that recovers first of all -/
structure ARec where
  ntmps : Nat
  dst : Nat
  ops : List AStep
  body : ACode
inductive AEx where
  | normal | ret | exit (id : Nat) | panic (v : AV)
inductive AOut where
  | val (v : AV)
  | panic (v : AV)
/-- what is called: a function, or a loop's yield -/
inductive Fn where
  | fn (f : Nat)
  | yld (o : Nat)
/-- what is asked of the interpreter with less fuel -/
structure Rc where
  code : ACode → S → H → Option (AEx × S × H)
  call : Fn → List AV → H → Option (AOut × H)

def wanted (g : Option (Nat × Bool)) (s : S) : Bool :=
  match g with
  | none => true
  | some (t, b) => match s t with | .bool c => c == b | _ => false
def runOps (call : Fn → List AV → H → Option (AOut × H)) : List AStep → S → H → Option (AEx × S × H)
  | [], s, h => some (.normal, s, h)
  | st :: r, s, h =>
    if wanted st.guard s then
      match st.op with
      | .call f args => match f.ev s with
        | .func f cs => match call (.fn f) (args.map (·.ev s) ++ cs) h with
          | some (.val v, h) => runOps call r (upd s st.dst v) h
          | some (.panic v, h) => some (.panic v, s, h)
          | none => none
        | .yield o => match call (.yld o) (args.map (·.ev s)) h with
          | some (.val v, h) => runOps call r (upd s st.dst v) h
          | some (.panic v, h) => some (.panic v, s, h)
          | none => none
        | .meth g v => match call (.fn g) (v :: args.map (·.ev s)) h with
          | some (.val v, h) => runOps call r (upd s st.dst v) h
          | some (.panic v, h) => some (.panic v, s, h)
          | none => none
        | _ => none
      | .panic x => match x.ev s with | .iface t v => some (.panic (.iface t v), s, h) | _ => none
      | .nextM x => match nextEA h (x.ev s) with
        | some (v, h) => runOps call r (upd s st.dst v) h
        | none => none
      | op => match exec op s h with
        | some (v, h) => runOps call r (upd s st.dst v) h
        | none => none
    else runOps call r (upd s st.dst undefA) h
/-- a read whose turn may come later -/
structure Pend where
  i : Nat
  op : AOp
  s : S
  v : AV
def recheck (h : H) : List Pend → Bool
  | [] => true
  | p :: r => (match exec p.op p.s h with | some (v, _) => v.beq p.v | none => false) && recheck h r
def runEff (call : Fn → List AV → H → Option (AOut × H)) (op : AOp) (s : S) (h : H) : Option (AV × H) :=
  match op with
  | .call f args => match f.ev s with
    | .func f cs => match call (.fn f) (args.map (·.ev s) ++ cs) h with
      | some (.val v, h) => some (v, h)
      | _ => none
    | .yield o => match call (.yld o) (args.map (·.ev s)) h with
      | some (.val v, h) => some (v, h)
      | _ => none
    | .meth g v => match call (.fn g) (v :: args.map (·.ev s)) h with
      | some (.val v, h) => some (v, h)
      | _ => none
    | _ => none
  | .panic _ => none
  | .nextM x => nextEA h (x.ev s)
  | op => exec op s h
/-- a region that draws its order, in an order of ours: whatever may come early, comes early -/
def runDraw (call : Fn → List AV → H → Option (AOut × H)) : List DStep → List Pend → S → H → Option (S × H)
  | [], pd, s, h => if recheck h pd then some (s, h) else none
  | d :: r, pd, s, h =>
    if d.st.op.kind = .eff then
      if recheck h pd then
        if wanted d.st.guard s then
          match runEff call d.st.op s h with
          | some (v, h) => runDraw call r (pd.filter fun p => !d.bef.testBit p.i) (upd s d.st.dst v) h
          | none => none
        else runDraw call r (pd.filter fun p => !d.bef.testBit p.i) (upd s d.st.dst undefA) h
      else none
    else if wanted d.st.guard s then
      match exec d.st.op s h with
      | some (v, h') => runDraw call r (if d.st.op.kind = .read then ⟨d.i, d.st.op, s, v⟩ :: pd else pd) (upd s d.st.dst v) h'
      | none => none
    else runDraw call r pd (upd s d.st.dst undefA) h
def result1 (s : S) (h : H) : ARes → Option AV
  | .tmp t => some (s t)
  | .cell t agg n => loadA h agg n (s t)
def resultsL (s : S) (h : H) : List ARes → Option (List AV)
  | [] => some []
  | r :: l => match result1 s h r, resultsL s h l with | some v, some vs => some (v :: vs) | _, _ => none
def resultsA (l : List ARes) (s : S) (h : H) : Option AV := (resultsL s h l).map fun vs => match vs with | [v] => v | vs => .tup vs
def enterS (args : List AV) : S := fun j => args.getD j undefA
abbrev Ovs := Nat → Option (List AV → H → Option (AOut × H))
/-- the functions of a program, and what stands for some of them -/
structure Env where
  T : Nat → Option AFunc
  ov : Ovs
  D : Nat → Option ADef := fun _ => none
  R : Nat → Option ARec := fun _ => none

def setPs (s : S) : List Nat → List AV → S
  | p :: ps, v :: vs => setPs (upd s (some p) v) ps vs
  | _, _ => s
def H.setLoop (h : H) (o : Nat) (L : LoopRec) : H := { h with ob := h.ob.set o (.loop L) }
/-- a round's end -/
def endRoundA (h : H) (o : Nat) (jump : Option (Option Nat)) : Option (AOut × H) :=
  match h.get o with
  | some (.loop L) => some (.val (.bool jump.isNone), h.setLoop o { L with st := if jump.isNone then 0 else 2, pend := jump })
  | _ => none
/-- a call of yield: a round -/
def stepYield (r : Rc) (o : Nat) (args : List AV) (h : H) : Option (AOut × H) :=
  match h.get o with
  | some (.loop L) =>
    if args.length = L.ps.length then
      match r.code L.assign (setPs L.s L.ps args) h with
      | some (.normal, s1, h1) => match h1.get o with
        | some (.loop L1) => if L1.st = 0 then
            match r.code L.body s1 (h1.setLoop o { L1 with st := 1 }) with
            | some (.normal, _, h2) => endRoundA h2 o none
            | some (.ret, _, h2) => endRoundA h2 o (some none)
            | some (.exit id, _, h2) => endRoundA h2 o (some (some id))
            | _ => none
          else none
        | _ => none
      | _ => none
    else none
  | _ => none
/-- a range over a function, behind the function's return -/
def endLoopA (s : S) (h : H) (o : Nat) : Option (AEx × S × H) :=
  match h.get o with
  | some (.loop L) => if L.st = 1 then none else match L.pend with
    | none => some (.normal, s, h.setLoop o { L with st := 3 })
    | some none => some (.ret, s, h.setLoop o { L with st := 3 })
    | some (some id) => some (.exit id, s, h.setLoop o { L with st := 3 })
  | _ => none
def stepCode (E : Env) (r : Rc) (c : ACode) (s : S) (h : H) : Option (AEx × S × H) :=
  match c with
  | .skip => some (.normal, s, h)
  | .ops l => runOps r.call l s h
  | .draw l => (runDraw r.call l [] s h).map fun p => (.normal, p.1, p.2)
  | .seq a b => match r.code a s h with | some (.normal, s, h) => r.code b s h | x => x
  | .cond c a b => match c.ev s with | .bool t => r.code (if t then a else b) s h | _ => none
  | .block id c => match r.code c s h with | some (.exit id', s, h) => some (if id' = id then .normal else .exit id', s, h) | x => x
  | .loop c => match r.code c s h with | some (.normal, s, h) => r.code (.loop c) s h | x => x
  | .exit id => some (.exit id, s, h)
  | .ret => some (.ret, s, h)
  | .scope c => r.code c s h
  | .stuck => none
  | .range nt f ps assign body => match f.ev s with
    | .func g cs => if (E.T g).isSome then (match r.call (.fn g) ([.yield h.n] ++ cs) (h.push (.loop ⟨0, none, nt, s, ps, assign, body⟩)) with
      | some (.val _, h1) => endLoopA s h1 h.n
      | _ => none) else none
    | _ => none
/-- a deferred function that recovers, where there is no panic -/
def stepRec (E : Env) (r : Rc) (f : AV) (h : H) : Option H :=
  match f with
  | .func g cs => match E.R g with
    | some fn => if cs.length ≤ fn.ntmps then match runOps r.call fn.ops (upd (enterS cs) (some fn.dst) .nili) h with
      | some (.normal, s, h) => match r.code fn.body s h with
        | some (.normal, _, h) => some h
        | some (.ret, _, h) => some h
        | _ => none
      | _ => none
      else none
    | none => none
  | _ => none
/-- a body that defers, where there is no panic behind the deferring -/
def stepDef (E : Env) (r : Rc) (rs : List ARes) : DCode → S → H → Option (AOut × H)
  | .seq a d, s, h => match r.code a s h with
    | some (.normal, s, h) => stepDef E r rs d s h
    | some (.ret, s, h) => (resultsA rs s h).map (.val ·, h)
    | some (.panic v, _, h) => some (.panic v, h)
    | _ => none
  | .dfr l f post, s, h => match runOps r.call l s h with
    | some (.normal, s, h) => match r.code post s h with
      | some (.normal, s1, h) => (stepRec E r (f.ev s) h).bind fun h => (resultsA rs s1 h).map (.val ·, h)
      | some (.ret, s1, h) => (stepRec E r (f.ev s) h).bind fun h => (resultsA rs s1 h).map (.val ·, h)
      | _ => none
    | _ => none
def stepFn (fn : AFunc) (r : Rc) (args : List AV) (h : H) : Option (AOut × H) :=
  if args.length ≤ fn.ntmps then match r.code fn.body (enterS args) h with
    | some (.normal, s, h) => (resultsA fn.results s h).map (.val ·, h)
    | some (.ret, s, h) => (resultsA fn.results s h).map (.val ·, h)
    | some (.panic v, _, h) => some (.panic v, h)
    | _ => none
  else none
def stepCall (E : Env) (r : Rc) (f : Fn) (args : List AV) (h : H) : Option (AOut × H) :=
  match f with
  | .yld o => stepYield r o args h
  | .fn f => match E.ov f with
    | some g => g args h
    | none => match E.T f with
      | some fn => stepFn fn r args h
      | none => match E.D f with
        | some fn => if args.length ≤ fn.ntmps then stepDef E r fn.results fn.body (enterS args) h else none
        | none => none
def ev (E : Env) : Nat → Rc
  | 0 => ⟨fun _ _ _ => none, fun _ _ _ => none⟩
  | k + 1 => ⟨stepCode E (ev E k), stepCall E (ev E k)⟩

end Go.Proofs.YtlbaphapjclkdaaGreatDoor.Ev

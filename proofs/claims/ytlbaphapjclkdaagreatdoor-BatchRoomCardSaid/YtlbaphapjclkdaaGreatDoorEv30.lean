/- Arguments of any shape that holds no pointer, map, interface: opened as plain values. -/
import Derived.Test.YtlbaphapjclkdaaGreatDoorEvL2
import Derived.DataElems
import Derived.Test.YtlbaphapjclkdaaGreatDoorEv19
import Derived.SliceStrings
import Derived.Lib.LaidTab
import Derived.Below
namespace Go.Proofs.YtlbaphapjclkdaaGreatDoor.Ev
open Go.ChangeShapes Go.WideShapes Go.RowKit
set_option linter.unusedVariables false
set_option linter.unusedSimpArgs false

/-- values of the type t, of n cells, stand for α: R tells how they lie in memory -/
structure Opens (P : Program) (t : TypeId) (n : Nat) {α : Type} (R : H → List AV → α → Prop) : Prop where
  stab : ∀ h h' us a, R h us a → Keep (Old h.n) h h' → R h' us a
  op : ∀ {X : Type} (enc : TypeId × Value → X) (W : World) (fuel : Nat) (cs : List Value) (x : DataW X × List MemPlace), DataW.trod enc P W 0 (fun _ => true) true fuel t cs = some x → 0 < W.heap.size →
    ∀ (m : M) (h : H), Rel P W.heap.size m h W → ∃ m' h' us a, Rel P W.heap.size m' h' W ∧ M.le m m' ∧ Keep (Old h.n) h h' ∧ us.length = n ∧ VRels m' us cs ∧ R h' us a

theorem cell_lt {w : World} {a : Addr} {v : Value} (h : w.cell? a = some v) : a.block < w.heap.size := by
  unfold World.cell? at h
  split at h
  · rename_i hb; exact (Array.getElem?_eq_some_iff.1 hb).1
  · cases h
theorem VRels.length {m : M} : ∀ {l : List AV} {l' : List Value}, VRels m l l' → l.length = l'.length
  | _, _, .nil => rfl
  | _, _, .cons h t => by simp [VRels.length t]
theorem VRels.at {m : M} : ∀ {l : List AV} {l' : List Value}, VRels m l l' → ∀ {i : Nat} {u : AV}, l[i]? = some u → ∃ v, l'[i]? = some v ∧ VRel m u v
  | _, _, .nil, i, u, h => by simp at h
  | _, _, .cons h t, 0, u, e => by simp at e; subst e; exact ⟨_, rfl, h⟩
  | _, _, .cons h t, i + 1, u, e => by simpa using VRels.at t (by simpa using e)
theorem VRels.app {m : M} : ∀ {l1 : List AV} {l1' : List Value} {l2 : List AV} {l2' : List Value}, VRels m l1 l1' → VRels m l2 l2' → VRels m (l1 ++ l2) (l1' ++ l2')
  | _, _, _, _, .nil, h => h
  | _, _, _, _, .cons h t, k => .cons h (VRels.app t k)

section
variable {P : Program} {t : TypeId} {n : Nat} {α : Type} {R : H → List AV → α → Prop}
theorem Opens.int {k : IntKind} (ht : P.underlying t = some (.int k)) : Opens P t 1 (fun _ us (z : Int) => us = [.int k z] ∧ (Lit.int k z).wf = true) where
  stab := fun _ _ _ _ r _ => r
  op := by
    intro X enc W fuel cs x hx hp m h r
    obtain ⟨z, rfl, rfl, hw⟩ := DataW.trod_int ht hx
    exact ⟨m, h, [.int k z], z, r, M.le_refl m, Keep.refl _ _, rfl, .cons (.int k z) .nil, rfl, hw⟩
theorem Opens.bool (ht : P.underlying t = some .bool) : Opens P t 1 (fun _ us (b : Bool) => us = [.bool b]) where
  stab := fun _ _ _ _ r _ => r
  op := by
    intro X enc W fuel cs x hx hp m h r
    obtain ⟨b, rfl, rfl⟩ := DataW.trod_bool ht hx
    exact ⟨m, h, [.bool b], b, r, M.le_refl m, Keep.refl _ _, rfl, .cons (.bool b) .nil, rfl⟩
theorem Opens.str (ht : P.underlying t = some .string) : Opens P t 1 (fun _ us (s : List UInt8) => us = [.str s] ∧ s.length ≤ maxLen) where
  stab := fun _ _ _ _ r _ => r
  op := by
    intro X enc W fuel cs x hx hp m h r
    obtain ⟨s, rfl, rfl, hs⟩ := DataW.trod_string ht hx
    exact ⟨m, h, [.str s.data.toList], s.data.toList, r, M.le_refl m, Keep.refl _ _, rfl, .cons (VRel.of_string s) .nil, rfl, by simpa using hs⟩
theorem Opens.imp {β : Type} (o : Opens P t n R) (R' : H → List AV → β → Prop) (st : ∀ h h' us b, R' h us b → Keep (Old h.n) h h' → R' h' us b) (f : ∀ h us a, R h us a → ∃ b, R' h us b) : Opens P t n R' where
  stab := st
  op := by
    intro X enc W fuel cs x hx hp m h r
    obtain ⟨m', h', us, a, r', hl, k, hn, v, q⟩ := o.op enc W fuel cs x hx hp m h r
    obtain ⟨b, q'⟩ := f _ _ _ q
    exact ⟨m', h', us, b, r', hl, k, hn, v, q'⟩
theorem Opens.many (o : Opens P t n R) {X : Type} (enc : TypeId × Value → X) (W : World) (fuel : Nat) (hp : 0 < W.heap.size) : ∀ (L : List (List Value)), (∀ cs ∈ L, ∃ x, DataW.trod enc P W 0 (fun _ => true) true fuel t cs = some x) →
    ∀ (m : M) (h : H), Rel P W.heap.size m h W → ∃ m' h', ∃ q : List (List AV × List Value × α), Rel P W.heap.size m' h' W ∧ M.le m m' ∧ Keep (Old h.n) h h' ∧ q.map (·.2.1) = L ∧
      ∀ x ∈ q, x.1.length = n ∧ VRels m' x.1 x.2.1 ∧ R h' x.1 x.2.2
  | [], _, m, h, r => ⟨m, h, [], r, M.le_refl m, Keep.refl _ _, rfl, fun x hx => by cases hx⟩
  | cs :: L, hL, m, h, r => by
    obtain ⟨x, hx⟩ := hL cs (by simp)
    obtain ⟨m1, h1, us, a, r1, l1, k1, n1, v1, q1⟩ := o.op enc W fuel cs x hx hp m h r
    obtain ⟨m2, h2, q, r2, l2, k2, e2, f2⟩ := Opens.many o enc W fuel hp L (fun c hc => hL c (by simp [hc])) m1 h1 r1
    refine ⟨m2, h2, (us, cs, a) :: q, r2, M.le_trans l1 l2, k1.trans (k2.weaken fun o ho => Nat.lt_of_lt_of_le ho k1.n), by simp [e2], fun y hy => ?_⟩
    rcases List.mem_cons.1 hy with rfl | hy
    · exact ⟨n1, VRels.mono l2 v1, o.stab _ _ _ _ q1 k2⟩
    · exact f2 y hy

/-- a slice, its elements each in n cells -/
def SliceR (n : Nat) (R : H → List AV → α → Prop) (h : H) (us : List AV) (as : List α) : Prop :=
  ∃ v, us = [v] ∧ ∃ q : List (List AV × α), as = q.map (·.2) ∧ Sl h n v q.length (q.flatMap (·.1)) ∧ Slot (Old h.n) h v ∧ q.length ≤ maxLen ∧ ∀ x ∈ q, x.1.length = n ∧ R h x.1 x.2
theorem SliceR.none (n : Nat) (R : H → List AV → α → Prop) (h : H) : SliceR n R h [.nils] [] := ⟨_, rfl, [], rfl, Sl.nil h n, trivial, Nat.zero_le _, fun x hx => by cases hx⟩
theorem flat_get {β : Type} {f : β → List AV} {n : Nat} : ∀ {l : List β} {i : Nat} {u : AV}, (∀ x ∈ l, (f x).length = n) → (l.flatMap f)[i]? = some u → ∃ (j : Nat) (r : Nat) (x : β), l[j]? = some x ∧ i = j * n + r ∧ (f x)[r]? = some u
  | [], i, u, _, h => by simp at h
  | x :: l, i, u, hl, h => by
    rw [List.flatMap_cons] at h
    have hx := hl x (by simp)
    by_cases hi : i < n
    · rw [List.getElem?_append_left (by omega)] at h
      exact ⟨0, i, x, rfl, by omega, h⟩
    · rw [List.getElem?_append_right (by omega)] at h
      obtain ⟨j, r, y, e1, e2, e3⟩ := flat_get (l := l) (fun y hy => hl y (by simp [hy])) h
      exact ⟨j + 1, r, y, e1, by rw [Nat.add_mul]; omega, e3⟩
theorem flat_take {β : Type} {f : β → List AV} {n : Nat} : ∀ {l : List β} {i : Nat}, (∀ x ∈ l, (f x).length = n) → (l.flatMap f).take (i * n) = (l.take i).flatMap f
  | [], i, _ => by simp
  | x :: l, 0, _ => by simp
  | x :: l, i + 1, h => by
    have hx := h x (by simp)
    have e : (i + 1) * n = (f x).length + i * n := by rw [hx, Nat.add_mul]; omega
    rw [List.flatMap_cons, e, List.take_length_add_append, List.take_succ_cons, List.flatMap_cons, flat_take (fun y hy => h y (by simp [hy]))]
theorem Opens.slice {e : TypeId} (o : Opens P e n R) (ht : P.underlying t = some (.slice e)) (hc : P.cellsOf e = n) (hn : 0 < n) : Opens P t 1 (SliceR n R) where
  stab := by
    rintro h h' us as ⟨v, rfl, q, rfl, s, sl, hl, f⟩ k
    exact ⟨v, rfl, q, rfl, s.keep k sl, sl.keep k (fun o ho => Nat.lt_of_lt_of_le ho k.n), hl, fun x hx => ⟨(f x hx).1, o.stab _ _ _ _ (f x hx).2 k⟩⟩
  op := by
    intro X enc W fuel cs x hx hp m h r
    rcases DataW.trod_slice ht hx with ⟨rfl, rfl⟩ | ⟨a, len, cap, elems, rest, fl, _, rfl, rfl, hb, hle, hmax, hlen, hel, hsp, _⟩
    · exact ⟨m, h, [.nils], [], r, M.le_refl m, Keep.refl _ _, rfl, .cons .nils .nil, SliceR.none _ _ _⟩
    by_cases h0 : cap = 0
    · subst h0
      obtain rfl : len = 0 := by omega
      obtain ⟨r1, l1⟩ := r.pushOther (b := 0) (base := 0) (sz := 0) hp
      refine ⟨_, _, [.slice h.n 0 0 n], [], r1, l1, Keep.push (by intro _ _ e; cases e), rfl, .cons (.slice0 0 n a (0, 0, 0) (by unfold M.set; rw [if_pos rfl])) .nil, _, rfl, [], rfl, ⟨rfl, ?_⟩, ?_, Nat.zero_le _, fun x hx => by cases hx⟩
      · simp only [H.firstCells]
        have : (h.push .other).row h.n = none := by unfold H.row; rw [H.get_push, if_pos rfl]
        rw [this]
        simp
      · exact ⟨Nat.lt_succ_self _, fun cs g e => by rw [H.get_push, if_pos rfl] at e; cases e⟩
    obtain ⟨hrl, hrest⟩ := hsp rfl
    -- each element's cells
    have each : ∀ i, i < cap → ∃ csi, W.cells? 0 (a.add (i * n)) n = some csi ∧ ∃ x, DataW.trod enc P W 0 (fun _ => true) true fl e csi = some x := by
      intro i hi
      have hy : ∃ y, (W.cells? 0 (a.add (i * P.cellsOf e)) (P.cellsOf e)).bind (DataW.trod enc P W 0 (fun _ => true) true fl e) = some y := by
        by_cases hil : i < len
        · rw [hel i hil, List.getElem?_eq_getElem (by omega)]; exact ⟨_, rfl⟩
        · have := hrest (i - len) (by omega)
          rw [show len + (i - len) = i by omega] at this
          rw [this, List.getElem?_eq_getElem (by omega)]; exact ⟨_, rfl⟩
      rw [hc] at hy
      obtain ⟨y, hy⟩ := hy
      obtain ⟨csi, h1, h2⟩ := Option.bind_eq_some_iff.1 hy
      exact ⟨csi, h1, y, h2⟩
    have hL : ∃ L : List (List Value), L.length = cap ∧ ∀ i cs, L[i]? = some cs → W.cells? 0 (a.add (i * n)) n = some cs ∧ ∃ x, DataW.trod enc P W 0 (fun _ => true) true fl e cs = some x := by
      refine ⟨(List.range cap).map fun i => (W.cells? 0 (a.add (i * n)) n).getD [], by simp, fun i cs hi => ?_⟩
      rw [List.getElem?_map] at hi
      obtain ⟨j, hj, rfl⟩ := Option.map_eq_some_iff.1 hi
      have hj' := List.getElem?_eq_some_iff.1 hj
      simp only [List.getElem_range, List.length_range] at hj'
      obtain ⟨hi', rfl⟩ := hj'
      obtain ⟨csi, h1, h2⟩ := each i hi'
      rw [h1]
      exact ⟨rfl, h2⟩
    obtain ⟨L, hLn, hLf⟩ := hL
    obtain ⟨m1, h1, q, r1, l1, k1, e1, f1⟩ := o.many enc W fl hp L (fun cs hcs => by
      obtain ⟨i, hi⟩ := List.getElem?_of_mem hcs
      exact (hLf i cs hi).2) m h r
    have hql : q.length = cap := by rw [← hLn, ← e1, List.length_map]
    have hqn : ∀ x ∈ q, x.1.length = n := fun x hx => (f1 x hx).1
    have row : ArgRow W.heap.size m1 W n (some a) len cap (q.flatMap (·.1)) := by
      refine .inr ⟨a, rfl, ?_, hle, by rw [flat_len hqn, hql], fun i u hu => ?_⟩
      · obtain ⟨csi, c1, _⟩ := each 0 (by omega)
        have c2 := (World.cells?_some c1).2.2 0 hn
        have c3 := (World.cells?_some c1).2.1
        rw [List.getElem?_eq_getElem (by omega), Addr.add_add] at c2
        have hs := cell_lt c2
        rwa [block_add] at hs
      · obtain ⟨j, rr, y, y1, y2, y3⟩ := flat_get hqn hu
        obtain ⟨z1, z2, z3⟩ := f1 y (List.mem_of_getElem? y1)
        obtain ⟨v, v1, v2⟩ := z2.at y3
        have hy : L[j]? = some y.2.1 := by rw [← e1, List.getElem?_map, y1]; rfl
        have c1 := (hLf j _ hy).1
        have hr : rr < n := by have := (List.getElem?_eq_some_iff.1 y3).1; omega
        have c2 := (World.cells?_some c1).2.2 rr hr
        rw [v1, Addr.add_add, ← y2] at c2
        exact ⟨v, c2, v2⟩
    obtain ⟨m2, h2, v, r2, l2, k2, v2, s2, sl2⟩ := open_arg r1 hn row
    refine ⟨m2, h2, [v], (q.take len).map (·.2.2), r2, M.le_trans l1 l2, k1.trans (k2.weaken fun o ho => Nat.lt_of_lt_of_le ho k1.n), rfl, .cons v2 .nil, v, rfl, (q.take len).map fun y => (y.1, y.2.2), by rw [List.map_map]; rfl, ?_, sl2, by simp; omega, ?_⟩
    · rw [flat_take hqn] at s2
      have hl : ((q.take len).map fun y => (y.1, y.2.2)).length = len := by simp; omega
      rw [hl, List.flatMap_map]
      exact s2
    · intro x hx
      obtain ⟨y, hy, rfl⟩ := List.mem_map.1 hx
      obtain ⟨z1, z2, z3⟩ := f1 y (List.mem_of_mem_take hy)
      exact ⟨z1, o.stab _ _ _ _ z3 k2⟩
/-- a slice that is an argument -/
theorem Opens.top {e : TypeId} (o : Opens P e n R) (ht : P.underlying t = some (.slice e)) (hc : P.cellsOf e = n) (hn : 0 < n) {X : Type} {enc : TypeId × Value → X} {W : World} {base : Nat} {a : Option Addr} {len cap : Nat} {d : DataW X} {ps : List MemPlace}
    (okw : Value.okWide P W .any base t (.slice a len cap)) (h0 : DataW.Trod enc P W 0 (fun _ => true) true t (.slice a len cap) d ps) {m : M} {h : H} (r : Rel P W.heap.size m h W) :
    ∃ m' h' x l, Rel P W.heap.size m' h' W ∧ M.le m m' ∧ Keep (Old h.n) h h' ∧ VRel m' x (.slice a len cap) ∧ SliceR n R h' [x] l := by
  obtain ⟨fuel, hf⟩ := h0
  cases a with
  | none =>
    rcases DataW.trod_slice ht hf with ⟨hcs, _⟩ | ⟨a, len, cap, elems, rest, fl, _, hcs, _⟩
    · simp [Value.cells] at hcs
      obtain ⟨rfl, rfl⟩ := hcs
      exact ⟨m, h, .nils, [], r, M.le_refl m, Keep.refl _ _, .nils, SliceR.none _ _ _⟩
    · simp [Value.cells] at hcs
  | some x =>
    have hb := okWide_block ht okw
    obtain ⟨m', h', us, l, r', l', k', n', v', q'⟩ := (o.slice ht hc hn).op enc W fuel _ _ hf (by omega) m h r
    match us, n' with
    | [u], _ =>
      cases v' with
      | cons v' _ => exact ⟨m', h', u, l, r', l', k', v', q'⟩
theorem SliceR.keep {h h' : H} {us : List AV} {as : List α} (o : ∀ h h' us a, R h us a → Keep (Old h.n) h h' → R h' us a) (s : SliceR n R h us as) (k : Keep (Old h.n) h h') : SliceR n R h' us as := by
  obtain ⟨v, rfl, q, rfl, s, sl, hl, f⟩ := s
  exact ⟨v, rfl, q, rfl, s.keep k sl, sl.keep k (fun o ho => Nat.lt_of_lt_of_le ho k.n), hl, fun x hx => ⟨(f x hx).1, o _ _ _ _ (f x hx).2 k⟩⟩
end

/-! ### structs -/
/-- some of a struct's fields: those that lie in n cells from off on -/
structure OpensF (P : Program) (fs : List Field) (off n : Nat) {α : Type} (R : H → List AV → α → Prop) : Prop where
  stab : ∀ h h' us a, R h us a → Keep (Old h.n) h h' → R h' us a
  op : ∀ {X : Type} (enc : TypeId × Value → X) (W : World) (fuel : Nat) (cs : List Value), (∀ f ∈ fs, ∃ x, DataW.trod enc P W 0 (fun _ => true) true fuel f.type ((cs.drop f.offset).take (P.cellsOf f.type)) = some x) → off + n ≤ cs.length → 0 < W.heap.size →
    ∀ (m : M) (h : H), Rel P W.heap.size m h W → ∃ m' h' us a, Rel P W.heap.size m' h' W ∧ M.le m m' ∧ Keep (Old h.n) h h' ∧ us.length = n ∧ VRels m' us ((cs.drop off).take n) ∧ R h' us a
section
variable {P : Program}
theorem OpensF.nil (off : Nat) : OpensF P [] off 0 (fun _ us (_ : Unit) => us = []) where
  stab := fun _ _ _ _ r _ => r
  op := fun enc W fuel cs _ _ _ m h r => ⟨m, h, [], (), r, M.le_refl m, Keep.refl _ _, rfl, by rw [List.take_zero]; exact .nil, rfl⟩
theorem OpensF.cons {t : TypeId} {c n off : Nat} {α β : Type} {R : H → List AV → α → Prop} {R2 : H → List AV → β → Prop} {f : Field} {fs : List Field} (o : Opens P t c R) (hft : f.type = t) (hfo : f.offset = off) (hc : P.cellsOf t = c) (os : OpensF P fs (off + c) n R2) :
    OpensF P (f :: fs) off (c + n) (fun h us (a : α × β) => ∃ u1 u2, us = u1 ++ u2 ∧ u1.length = c ∧ R h u1 a.1 ∧ R2 h u2 a.2) where
  stab := by
    rintro h h' us a ⟨u1, u2, rfl, hl, r1, r2⟩ k
    exact ⟨u1, u2, rfl, hl, o.stab _ _ _ _ r1 k, os.stab _ _ _ _ r2 k⟩
  op := by
    intro X enc W fuel cs hf hl hp m h r
    obtain ⟨x, hx⟩ := hf f (by simp)
    rw [hft, hfo, hc] at hx
    obtain ⟨m1, h1, us1, a1, r1, l1, k1, n1, v1, q1⟩ := o.op enc W fuel _ x hx hp m h r
    obtain ⟨m2, h2, us2, a2, r2, l2, k2, n2, v2, q2⟩ := os.op enc W fuel cs (fun g hg => hf g (by simp [hg])) (by omega) hp m1 h1 r1
    refine ⟨m2, h2, us1 ++ us2, (a1, a2), r2, M.le_trans l1 l2, k1.trans (k2.weaken fun o ho => Nat.lt_of_lt_of_le ho k1.n), by simp [n1, n2], ?_, us1, us2, rfl, n1, o.stab _ _ _ _ q1 k2, q2⟩
    have e : (cs.drop off).take (c + n) = (cs.drop off).take c ++ (cs.drop (off + c)).take n := by
      rw [← List.drop_drop, List.take_add]
    rw [e]
    exact (VRels.mono l2 v1).app v2
theorem Opens.struct {t : TypeId} {n : Nat} {α : Type} {R : H → List AV → α → Prop} {fs : Array Field} (ht : P.underlying t = some (.struct fs)) (o : OpensF P fs.toList 0 n R) (hn : P.cellsOf t = n) : Opens P t n R where
  stab := o.stab
  op := by
    intro X enc W fuel cs x hx hp m h r
    obtain ⟨xs, fl, _, rfl, hl, hlen, hf⟩ := DataW.trod_struct ht hx
    obtain ⟨m1, h1, us, a, r1, l1, k1, n1, v1, q1⟩ := o.op enc W fl cs (fun f hfm => by
      obtain ⟨i, hi⟩ := List.getElem?_of_mem hfm
      have hi' : fs[i]? = some f := by rw [← hi]; simp
      have := hf i f hi'
      have hlt := (Array.getElem?_eq_some_iff.1 hi').1
      rw [List.getElem?_eq_getElem (by omega)] at this
      exact ⟨_, this⟩) (by omega) hp m h r
    refine ⟨m1, h1, us, a, r1, l1, k1, n1, ?_, q1⟩
    rw [List.drop_zero, List.take_of_length_le (by omega)] at v1
    exact v1

/-! ### shapes -/
def BytesR (h : H) (us : List AV) (bs : List UInt8) : Prop := ∃ v, us = [v] ∧ Bytes h v bs ∧ Slot (Old h.n) h v ∧ bs.length ≤ maxLen
abbrev BoolsA (h : H) (v : AV) (l : List Bool) : Prop := Sl h 1 v l.length (l.map AV.bool)
def BoolsR (h : H) (us : List AV) (bs : List Bool) : Prop := ∃ v, us = [v] ∧ BoolsA h v bs ∧ Slot (Old h.n) h v ∧ bs.length ≤ maxLen
theorem BytesR.stab (h h' : H) (us : List AV) (a : List UInt8) (r : BytesR h us a) (k : Keep (Old h.n) h h') : BytesR h' us a := by
  obtain ⟨v, rfl, s, sl, hl⟩ := r
  exact ⟨v, rfl, s.keep k sl, sl.keep k (fun o ho => Nat.lt_of_lt_of_le ho k.n), hl⟩
theorem BoolsR.stab (h h' : H) (us : List AV) (a : List Bool) (r : BoolsR h us a) (k : Keep (Old h.n) h h') : BoolsR h' us a := by
  obtain ⟨v, rfl, s, sl, hl⟩ := r
  exact ⟨v, rfl, s.keep k sl, sl.keep k (fun o ho => Nat.lt_of_lt_of_le ho k.n), hl⟩
theorem SliceR.bools {h : H} {us : List AV} {l : List Bool} (s : SliceR 1 (fun _ us (b : Bool) => us = [.bool b]) h us l) : BoolsR h us l := by
  obtain ⟨v, rfl, q, rfl, s, sl, hl, f⟩ := s
  refine ⟨v, rfl, ?_, sl, by simpa using hl⟩
  have e : ∀ q : List (List AV × Bool), (∀ x ∈ q, x.1.length = 1 ∧ x.1 = [.bool x.2]) → q.flatMap (·.1) = (q.map (·.2)).map AV.bool := by
    intro q
    induction q with
    | nil => intro _; rfl
    | cons x q ih => intro hf; rw [List.flatMap_cons, (hf x (by simp)).2, ih (fun y hy => hf y (by simp [hy]))]; rfl
  rw [e q f] at s
  show Sl h 1 v (q.map (·.2)).length _
  rw [List.length_map]
  exact s
theorem SliceR.bytes {h : H} {us : List AV} {l : List Int} (s : SliceR 1 (fun _ us (z : Int) => us = [.int .u8 z] ∧ (Lit.int .u8 z).wf = true) h us l) : ∃ bs, BytesR h us bs := by
  obtain ⟨v, rfl, q, rfl, s, sl, hl, f⟩ := s
  have e : ∀ q : List (List AV × Int), (∀ x ∈ q, x.1.length = 1 ∧ x.1 = [.int .u8 x.2] ∧ (Lit.int .u8 x.2).wf = true) → q.flatMap (·.1) = byteCells (q.map fun x => UInt8.ofNat x.2.toNat) := by
    intro q hf
    have h1 := bytes_of_ints (q.map (·.2)) (fun n hn => by
      obtain ⟨x, hx, rfl⟩ := List.mem_map.1 hn
      exact (hf x hx).2.2)
    have h2 : q.flatMap (·.1) = (q.map (·.2)).map (AV.int .u8) := by
      clear h1
      induction q with
      | nil => rfl
      | cons x q ih => rw [List.flatMap_cons, (hf x (by simp)).2.1, ih (fun y hy => hf y (by simp [hy]))]; rfl
    rw [h2, h1, List.map_map]
    rfl
  rw [e q f] at s
  refine ⟨q.map fun x => UInt8.ofNat x.2.toNat, v, rfl, ?_, sl, ?_⟩
  · show Sl h 1 v (q.map fun x => UInt8.ofNat x.2.toNat).length _
    rw [List.length_map]
    exact s
  · rw [List.length_map]; exact hl
theorem Opens.bytes {t e : TypeId} (ht : P.underlying t = some (.slice e)) (he : P.underlying e = some (.int .u8)) (hc : P.cellsOf e = 1) : Opens P t 1 BytesR :=
  ((Opens.int he).slice ht hc (by decide)).imp BytesR BytesR.stab fun h us a s => s.bytes
theorem Opens.bools {t e : TypeId} (ht : P.underlying t = some (.slice e)) (he : P.underlying e = some .bool) (hc : P.cellsOf e = 1) : Opens P t 1 BoolsR :=
  ((Opens.bool he).slice ht hc (by decide)).imp BoolsR BoolsR.stab fun h us a s => ⟨_, s.bools⟩
/-- a slice whose elements are told: its element's cells -/
theorem SliceR.at {n : Nat} {α : Type} {R : H → List AV → α → Prop} {h : H} {us : List AV} {as : List α} (s : SliceR n R h us as) :
    ∃ v, us = [v] ∧ ∃ css : List (List AV), css.length = as.length ∧ Sl h n v as.length (css.flatMap id) ∧ Slot (Old h.n) h v ∧ as.length ≤ maxLen ∧ (∀ u ∈ css, u.length = n) ∧ ∀ (i : Nat) (u : List AV) (a : α), css[i]? = some u → as[i]? = some a → R h u a := by
  obtain ⟨v, rfl, q, rfl, s, sl, hl, f⟩ := s
  refine ⟨v, rfl, q.map (·.1), by simp, ?_, sl, by simpa using hl, fun u hu => ?_, fun i u a hu ha => ?_⟩
  · rw [List.flatMap_map, List.length_map]; exact s
  · obtain ⟨x, hx, rfl⟩ := List.mem_map.1 hu
    exact (f x hx).1
  · rw [List.getElem?_map] at hu ha
    obtain ⟨x, hx, rfl⟩ := Option.map_eq_some_iff.1 hu
    rw [hx] at ha
    cases ha
    exact (f x (List.mem_of_getElem? hx)).2
theorem flat_getn {β : Type} {f : β → List AV} {n : Nat} : ∀ {l : List β} {i r : Nat} {x : β}, (∀ x ∈ l, (f x).length = n) → l[i]? = some x → r < n → (l.flatMap f)[i * n + r]? = (f x)[r]?
  | [], i, r, x, _, h, _ => by simp at h
  | y :: l, 0, r, x, hl, h, hr => by
    have hy := hl y (by simp)
    simp only [List.getElem?_cons_zero, Option.some.injEq] at h
    subst h
    rw [List.flatMap_cons, Nat.zero_mul, Nat.zero_add, List.getElem?_append_left (by omega)]
  | y :: l, i + 1, r, x, hl, h, hr => by
    have hy := hl y (by simp)
    rw [List.flatMap_cons, List.getElem?_append_right (by rw [Nat.add_mul]; omega), hy]
    have : (i + 1) * n + r - n = i * n + r := by rw [Nat.add_mul]; omega
    rw [this]
    exact flat_getn (fun z hz => hl z (by simp [hz])) (by simpa using h) hr
theorem SliceR.get {n : Nat} {α : Type} {R : H → List AV → α → Prop} {h : H} {v : AV} {as : List α} (s : SliceR n R h [v] as) (hn : 0 < n) {i : Nat} (hi : i < as.length) (k : IntKind) :
    ∃ o q us, indexAddrA n v (.int k (i : Int)) = some (.ptr o q) ∧ us.length = n ∧ R h us as[i] ∧ ∀ h', Keep (Old h.n) h h' → ∀ (f : Nat) (u : AV), us[f]? = some u → loadA h' false 1 (.ptr o (q + f)) = some u := by
  obtain ⟨v', e, css, hcl, sl0, slot, hmax, hu, hr⟩ := s.at
  cases e
  obtain ⟨o, j, row0, rfl, ea, _, _, _⟩ := sl0.addr hi hn k
  have hci : css[i]? = some (css[i]'(by omega)) := List.getElem?_eq_getElem (by omega)
  refine ⟨o, _, _, ea, hu _ (List.getElem_mem (by omega)), hr i _ _ hci (List.getElem?_eq_getElem hi), fun h' kp f u hf => ?_⟩
  obtain ⟨o', j', row, eo, ea', hrow, hle, hcs⟩ := (sl0.keep kp slot).addr hi hn k
  cases eo
  have hfn : f < n := by have := (List.getElem?_eq_some_iff.1 hf).1; rw [hu _ (List.getElem_mem (by omega))] at this; exact this
  have e1 := flat_getn (f := id) hu hci hfn
  rw [hcs] at e1
  have hm := mul_in (es := n) hi
  rw [List.getElem?_take, if_pos (by omega), List.getElem?_drop] at e1
  simp only [loadA, hrow, Bool.false_eq_true, if_false]
  rw [Nat.add_assoc, e1]
  simpa using hf
theorem SliceR.len {n : Nat} {α : Type} {R : H → List AV → α → Prop} {h : H} {v : AV} {as : List α} (s : SliceR n R h [v] as) : lenSA v = some as.length ∧ as.length ≤ maxLen := by
  obtain ⟨v', e, css, hcl, sl, slot, hmax, hu, hr⟩ := s.at
  cases e
  exact ⟨sl.len, hmax⟩
end
end Go.Proofs.YtlbaphapjclkdaaGreatDoor.Ev

/- A package variable whose row is laid: the start of a memory. A struct among the arguments. -/
namespace Go.Proofs.YtlbaphapjclkdaaGreatDoor.Ev
open Go.ChangeShapes Go.WideShapes Go.RowKit
set_option linter.unusedVariables false
set_option linter.unusedSimpArgs false

/-- a listed variable that is a slice of texts: the memory starts with it -/
theorem start_laidV {P : Program} {W : World} {name : String} {l : List (List UInt8)} {rest : List (String × DataW Unit)} {g : Nat} {t e : TypeId} {ps : List MemPlace} (hL : DataW.LaidVars P W ((name, .slice (l.map fun s => .lit (.string s)) []) :: rest) ps)
    (hg : P.globalNamed name = some g) (hty : (P.globals[g]?).map (·.type) = some t) (ht : P.underlying t = some (.slice e)) (he : P.underlying e = some .string) (hc : P.cellsOf e = 1) (hl : l ≠ []) :
    ∃ mS, Rel P W.heap.size mS (HG g l.length (strCells l)) W := by
  obtain ⟨g', t', cs, fuel, p, q, hg', ht', hvar, hd, _, _⟩ := hL
  obtain rfl := Option.some.inj (hg.symm.trans hg')
  obtain rfl := Option.some.inj (hty.symm.trans ht')
  rcases open_strings ht he hc hd with ⟨_, hx⟩ | ⟨a, len, cap, ss, hcs, _, hlen, _, hssl, hx, hcell, _⟩
  · cases hx
  simp only [Prod.mk.injEq, DataW.slice.injEq] at hx
  obtain ⟨⟨h1, h2⟩, _⟩ := hx
  have hdrop : ss.drop len = [] := by
    cases hd' : ss.drop len with
    | nil => rfl
    | cons y r => rw [hd'] at h2; simp [strs] at h2
  have htake : ss.take len = ss := by
    have := List.take_append_drop len ss
    rw [hdrop, List.append_nil] at this; exact this
  rw [htake] at h1
  have hstr : ss.map (fun s => s.data.toList) = l := by
    have : (l.map fun s => (DataW.lit (.string s) : DataW Unit)) = (ss.map fun s => s.data.toList).map fun s => DataW.lit (.string s) := by
      rw [h1]; simp [strs]
    have hinj : ∀ (x y : List (List UInt8)), (x.map fun s => (DataW.lit (.string s) : DataW Unit)) = (y.map fun s => DataW.lit (.string s)) → x = y := by
      intro x
      induction x with
      | nil => intro y hy; cases y with | nil => rfl | cons b r => simp at hy
      | cons b r ih =>
        intro y hy
        cases y with
        | nil => simp at hy
        | cons c r' =>
          simp only [List.map_cons, List.cons.injEq, DataW.lit.injEq, Lit.string.injEq] at hy
          rw [hy.1, ih r' hy.2]
    exact (hinj _ _ this).symm
  have hsl : ss.length = l.length := by rw [← hstr]; simp
  have hlenl : len = l.length := by
    have : (ss.drop len).length = 0 := by rw [hdrop]; rfl
    simp only [List.length_drop] at this
    simp only [if_true] at hssl
    omega
  have hcap : cap = l.length := by simp only [if_true] at hssl; omega
  obtain ⟨ab, ao, asp⟩ := a
  have hpos : 0 < ss.length := by rw [hsl]; exact List.length_pos_iff.2 hl
  have hc0 := hcell 0 hpos
  have hasp : asp = none := by
    simp only [Addr.add, World.cell?] at hc0
    split at hc0
    · cases asp with
      | none => rfl
      | some x => simp at hc0
    · cases hc0
  subst hasp
  have hadd : ∀ i, (⟨ab, ao, none⟩ : Addr).add i = ⟨ab, ao + i, none⟩ := by
    intro i; unfold Addr.add; split <;> simp_all
  simp only [hadd] at hcell hc0
  obtain ⟨CS, et, fr, hb⟩ : ∃ CS et fr, W.heap[ab]? = some (.cells CS et fr) := by
    simp only [World.cell?] at hc0
    split at hc0
    · rename_i c e' f' hh; exact ⟨c, e', f', hh⟩
    · cases hc0
  have hcellg : W.cell? ⟨g, 0, none⟩ = some (.slice (some ⟨ab, ao, none⟩) len cap) := by
    unfold World.var? at hvar
    rw [hg] at hvar
    simp only [Option.bind_some] at hvar
    split at hvar
    · rename_i c t' f hh
      cases hvar
      simp only [World.cell?, hh]
      have : cs[0]? = some (.slice (some ⟨ab, ao, none⟩) len cap) := by
        rw [← Array.getElem?_toList, hcs]; rfl
      simpa using this
    · cases hvar
  have hgl : g < W.heap.size := cell_lt hcellg
  have hat : ∀ i, i < ss.length → CS[ao + i]? = some (.string (ss.getD i ByteArray.empty)) := by
    intro i hi
    have := hcell i hi
    simp only [World.cell?, hb] at this
    simpa using this
  have hsz : ao + ss.length ≤ CS.size := by
    have := hat (ss.length - 1) (by omega)
    have := (Array.getElem?_eq_some_iff.1 this).1
    omega
  have hsz2 : ao + (strCells l).length ≤ CS.size := by simp only [strCells, List.length_map]; omega
  refine ⟨_, Rel.startG (cap := cap) hb rfl hsz2 ?_ hgl (by rw [← hlenl]; exact hcellg) (by omega) (by omega)⟩
  intro i a hi
  have hil : i < l.length := by
    have := (List.getElem?_eq_some_iff.1 hi).1
    simpa [strCells] using this
  have h5 : a = .str l[i] := by
    simp only [strCells, List.getElem?_map, List.getElem?_eq_getElem hil, Option.map_some, Option.some.injEq] at hi
    exact hi.symm
  subst h5
  refine ⟨_, hcell i (by omega), ?_⟩
  have h6 : ss.getD i ByteArray.empty = ⟨⟨l[i]⟩⟩ := by
    have hil2 : i < ss.length := by omega
    have h7 : l[i] = ss[i].data.toList := by
      have : l[i]? = (ss.map fun s => s.data.toList)[i]? := by rw [hstr]
      rw [List.getElem?_eq_getElem hil, List.getElem?_map, List.getElem?_eq_getElem hil2] at this
      simpa using this
    rw [List.getD_eq_getElem?_getD, List.getElem?_eq_getElem hil2, Option.getD_some, h7]
  rw [h6]
  exact .str _
theorem start_laid {P : Program} {W : World} {name : String} {l : List (List UInt8)} {rest : List (String × DataW Unit)} {g : Nat} {t e : TypeId} (hL : laidMet P ((name, .slice (l.map fun s => .lit (.string s)) []) :: rest) W)
    (hg : P.globalNamed name = some g) (hty : (P.globals[g]?).map (·.type) = some t) (ht : P.underlying t = some (.slice e)) (he : P.underlying e = some .string) (hc : P.cellsOf e = 1) (hl : l ≠ []) :
    ∃ mS, Rel P W.heap.size mS (HG g l.length (strCells l)) W := by
  obtain ⟨ps, h, _⟩ := hL
  exact start_laidV h hg hty ht he hc hl
/-- the same, where it is listed second -/
theorem start_laid2 {P : Program} {W : World} {x : String × DataW Unit} {name : String} {l : List (List UInt8)} {rest : List (String × DataW Unit)} {g : Nat} {t e : TypeId} (hL : laidMet P (x :: (name, .slice (l.map fun s => .lit (.string s)) []) :: rest) W)
    (hg : P.globalNamed name = some g) (hty : (P.globals[g]?).map (·.type) = some t) (ht : P.underlying t = some (.slice e)) (he : P.underlying e = some .string) (hc : P.cellsOf e = 1) (hl : l ≠ []) :
    ∃ mS, Rel P W.heap.size mS (HG g l.length (strCells l)) W := by
  obtain ⟨ps, ⟨_, _, _, _, _, q, _, _, _, _, h, _⟩, _⟩ := hL
  exact start_laidV h hg hty ht he hc hl
/-- a start stays a start -/
theorem StartG.keep {g len : Nat} {cs : List AV} {h h' : H} (s : StartG g len cs h) (wf : h.Wf) (k : Keep (Old h.n) h h') : StartG g len cs h' :=
  ⟨by rw [k.get 0 (wf.ob _ _ s.glob)]; exact s.glob, by rw [k.get 1 (wf.ob _ _ s.row)]; exact s.row⟩
theorem StartG.hg (g len : Nat) (cs : List AV) : StartG g len cs (HG g len cs) := ⟨HG_0 g len cs, HG_1 g len cs⟩
section
variable {P : Program} {t : TypeId} {n : Nat} {α : Type} {R : H → List AV → α → Prop}
/-- a struct among the arguments -/
theorem Opens.agg (o : Opens P t n R) {fs : Array Field} (ht : P.underlying t = some (.struct fs)) {X : Type} {enc : TypeId × Value → X} {W : World} {base : Nat} {v : Value} {d : DataW X} {ps : List MemPlace}
    (okw : Value.okWide P W .any base t v) (h0 : DataW.Trod enc P W 0 (fun _ => true) true t v d ps) (hp : 0 < W.heap.size) {m : M} {h : H} (r : Rel P W.heap.size m h W) :
    ∃ m' h' us a, Rel P W.heap.size m' h' W ∧ M.le m m' ∧ Keep (Old h.n) h h' ∧ VRel m' (.agg us) v ∧ R h' us a := by
  simp only [Value.okWide, ht] at okw
  obtain ⟨cs, rfl, _⟩ := okw
  obtain ⟨fuel, hf⟩ := h0
  obtain ⟨m', h', us, a, r', l', k', n', v', q'⟩ := o.op enc W fuel _ _ hf hp m h r
  refine ⟨m', h', us, a, r', l', k', ?_, q'⟩
  have : VRel m' (.agg us) (.agg ⟨cs.toList⟩) := .agg (by simpa [Value.cells] using v')
  simpa using this
end
theorem flatMap_congr' {β γ : Type} {f g : β → List γ} : ∀ {l : List β}, (∀ x ∈ l, f x = g x) → l.flatMap f = l.flatMap g
  | [], _ => rfl
  | a :: r, h => by rw [List.flatMap_cons, List.flatMap_cons, h a List.mem_cons_self, flatMap_congr' fun x hx => h x (List.mem_cons_of_mem _ hx)]
/-- a slice whose elements' cells are told by the elements -/
theorem SliceR.flat {n : Nat} {α : Type} {f : α → List AV} {h : H} {v : AV} {as : List α} (s : SliceR n (fun _ us a => us = f a) h [v] as) : Sl h n v as.length (as.flatMap f) ∧ Slot (Old h.n) h v ∧ as.length ≤ maxLen := by
  obtain ⟨v', e, q, rfl, sl, slot, hl, hq⟩ := s
  cases e
  refine ⟨?_, slot, by simpa using hl⟩
  have : q.flatMap (·.1) = (q.map (·.2)).flatMap f := by
    rw [List.flatMap_map]
    exact flatMap_congr' fun x hx => (hq x hx).2
  rw [this] at sl
  rw [List.length_map]
  exact sl
end Go.Proofs.YtlbaphapjclkdaaGreatDoor.Ev

/- A memory that is read alone: what a call makes there is behind it. -/
namespace Go.Proofs.YtlbaphapjclkdaaGreatDoor.Ev
open Go Go.RowKit
set_option linter.unusedVariables false

def Tr.mapI {α : Type} (f : Nat → α → α) : (Nat → Nat) → Tr α → Tr α
  | _, .nil => .nil
  | p, .node v l r => .node (v.map (f (p 0))) (Tr.mapI f (fun i => p (2 * i + 1)) l) (Tr.mapI f (fun i => p (2 * i + 2)) r)
theorem Tr.get_mapI {α : Type} (f : Nat → α → α) : ∀ (t : Tr α) (p : Nat → Nat) (i : Nat), (Tr.mapI f p t).get i = (t.get i).map (f (p i))
  | .nil, p, i => rfl
  | .node v l r, p, i => by
    simp only [Tr.mapI, Tr.get]
    by_cases h0 : i = 0
    · subst h0; simp
    · rw [if_neg h0, if_neg h0]
      by_cases h1 : i % 2 = 1
      · rw [if_pos h1, if_pos h1, Tr.get_mapI f l]
        rw [show 2 * (i / 2) + 1 = i by omega]
      · rw [if_neg h1, if_neg h1, Tr.get_mapI f r]
        rw [show 2 * (i / 2 - 1) + 2 = i by omega]
/-- all that may be read is read alone; all else is told no more -/
def H.roX (h : H) (o : Nat) : AObj → AObj
  | .cells cs none => .cells cs none
  | .cells cs (some g) => if h.kill g ≤ o then .cells cs none else .other
  | .glob g v => .glob g v
  | _ => .other
def H.ro (h : H) : H := { n := h.n, gr := .nil, ob := Tr.mapI h.roX (fun i => i) h.ob }
theorem H.ro_n (h : H) : h.ro.n = h.n := rfl
theorem H.ro_get (h : H) (o : Nat) : h.ro.get o = (h.get o).map (h.roX o) := Tr.get_mapI _ _ _ _
theorem H.ro_cells {h : H} {o : Nat} {cs : List AV} {g : Option Nat} (e : h.ro.get o = some (.cells cs g)) : g = none ∧ h.row o = some cs := by
  rw [H.ro_get] at e
  obtain ⟨x, hx, he⟩ := Option.map_eq_some_iff.1 e
  unfold H.roX at he
  split at he
  · cases he; refine ⟨rfl, ?_⟩; unfold H.row; rw [hx]
  · split at he
    · rename_i hk; cases he; refine ⟨rfl, ?_⟩; unfold H.row; rw [hx]; simp [hk]
    · cases he
  · cases he
  · cases he
theorem H.ro_row {h : H} {o : Nat} {cs : List AV} (e : h.row o = some cs) : h.ro.get o = some (.cells cs none) := by
  rw [H.ro_get]
  unfold H.row at e
  split at e
  · rename_i c hx; cases e; rw [hx]; rfl
  · rename_i c g hx
    split at e
    · rename_i hk; cases e; rw [hx]; simp [H.roX, hk]
    · cases e
  · cases e
theorem H.row_ro (h : H) (o : Nat) : h.ro.row o = h.row o := by
  cases e : h.row o with
  | some cs =>
    have := H.ro_row e
    show (match h.ro.get o with | some (.cells cs none) => some cs | some (.cells cs (some g)) => if h.ro.kill g ≤ o then some cs else none | _ => none) = _
    rw [this]
  | none =>
    cases e2 : h.ro.row o with
    | none => rfl
    | some cs =>
      unfold H.row at e2
      split at e2
      · rename_i c hx; have := (H.ro_cells hx).2; rw [e] at this; cases this
      · rename_i c g hx; have := (H.ro_cells hx).1; cases this
      · cases e2
theorem H.ro_glob {h : H} {o g : Nat} {v : AV} (e : h.ro.get o = some (.glob g v)) : h.get o = some (.glob g v) := by
  rw [H.ro_get] at e
  obtain ⟨x, hx, he⟩ := Option.map_eq_some_iff.1 e
  unfold H.roX at he
  split at he
  · cases he
  · split at he <;> cases he
  · cases he; exact hx
  · cases he
theorem H.glob_ro {h : H} {o g : Nat} {v : AV} (e : h.get o = some (.glob g v)) : h.ro.get o = some (.glob g v) := by
  rw [H.ro_get, e]; rfl
theorem H.ro_no {h : H} {o : Nat} {x : AObj} (e : h.ro.get o = some x) : (∀ L, x ≠ .loop L) ∧ (∀ X, x ≠ .mem X) := by
  rw [H.ro_get] at e
  obtain ⟨y, hy, he⟩ := Option.map_eq_some_iff.1 e
  unfold H.roX at he
  split at he
  · cases he; exact ⟨fun _ => nofun, fun _ => nofun⟩
  · split at he <;> cases he <;> exact ⟨fun _ => nofun, fun _ => nofun⟩
  · cases he; exact ⟨fun _ => nofun, fun _ => nofun⟩
  · cases he; exact ⟨fun _ => nofun, fun _ => nofun⟩
/-! a value that points nowhere -/
mutual
def plainV : AV → Bool
  | .bool _ | .int _ _ | .str _ => true
  | .agg cs => plainVs cs
  | .tup cs => plainVs cs
  | _ => false
def plainVs : List AV → Bool
  | [] => true
  | a :: r => plainV a && plainVs r
end
mutual
theorem VRel.plain_any {m m' : M} : ∀ {a : AV} {v : Value}, VRel m a v → plainV a = true → VRel m' a v
  | _, _, .bool b, _ => .bool b
  | _, _, .int k n, _ => .int k n
  | _, _, .str s, _ => .str s
  | _, _, .agg h, hp => .agg (VRels.plain_any h hp)
  | _, _, .tup h, hp => .tup (VRels.plain_any h hp)
theorem VRels.plain_any {m m' : M} : ∀ {l : List AV} {l' : List Value}, VRels m l l' → plainVs l = true → VRels m' l l'
  | _, _, .nil, _ => .nil
  | _, _, .cons h t, hp => by
    simp only [plainVs, Bool.and_eq_true] at hp
    exact .cons (VRel.plain_any h hp.1) (VRels.plain_any t hp.2)
end
section
variable {B0 : Nat} {P : Program}
theorem Rel.toRo {m : M} {h : H} {w : World} (r : Rel P B0 m h w) : Rel P w.heap.size m h.ro w where
  base := Nat.le_refl _
  lt := r.lt
  row := fun {o cs g b base sz} e hm => by
    obtain ⟨_, hr⟩ := H.ro_cells e
    unfold H.row at hr
    split at hr
    · rename_i hx; cases hr; exact r.row hx hm
    · rename_i hx
      split at hr
      · cases hr; exact r.row hx hm
      · cases hr
    · cases hr
  val := fun e hm => r.val (by rw [← H.row_ro]; exact e) hm
  own := fun e hm => by have := (H.ro_cells e).1; cases this
  ro := fun e hm => r.blk hm
  sep := fun h1 _ _ hb => absurd (r.blk h1) (by omega)
  ord := fun _ e _ _ _ _ => by have := (H.ro_cells e).1; cases this
  blk := r.blk
  any := fun {o x} hm => by
    obtain ⟨ob, e⟩ := r.any hm
    rw [H.ro_get, e]; exact ⟨_, rfl⟩
  lp := fun e _ => absurd rfl ((H.ro_no e).1 _)
  mm := fun e _ => absurd rfl ((H.ro_no e).2 _)
  gb := fun e => by
    obtain ⟨h1, v', h2, h3⟩ := r.gb (H.ro_glob e)
    exact ⟨Nat.lt_of_lt_of_le h1 r.base, v', h2, h3⟩
  wf := {
    gr := fun g p h => by cases h
    mem := fun o cs g e => by have := (H.ro_cells e).1; cases this
    ob := fun o x e => by
      rw [H.ro_get] at e
      obtain ⟨y, hy, _⟩ := Option.map_eq_some_iff.1 e
      exact r.wf.ob o y hy
    kt := fun g p h => by cases h
    tl := fun g h => h }
/-- a call on memory that is read alone: behind it all is as it was -/
theorem FnOK.apart {f : Nat} {args : List AV} {h : H} {v : AV} (hv : plainV v = true) (hB : B0 ≠ 0) (c : ∀ B, B ≠ 0 → FnOK P B f args h.ro (fun r1 _ => r1 = .val v)) {m : M} {w : World} (hr : Rel P B0 m h w) {cargs : List Value} (ha : VRels m args cargs) :
    Runs P f ⟨cargs⟩ w (fun e w' => ∃ v', e = .returned v' ∧ (∀ m', VRel m' v v') ∧ Below w.heap.size w w') := by
  refine (c w.heap.size (by have := hr.base; omega) m w cargs hr.toRo ha).mono ?_
  rintro e w' ⟨r1, h2, rfl, m1, hE, r1, f1⟩
  cases hE with
  | val hvr =>
    exact ⟨_, rfl, fun m' => hvr.plain_any hv, f1.os, f1.tape, f1.output, f1.size, fun b hb => f1.blk b hb (.inl hb)⟩
/-- .. and so it stands for itself -/
theorem FnOK.same {f : Nat} {args : List AV} {h : H} {v : AV} (hB : B0 ≠ 0) (c : ∀ (m : M) (w : World) (cargs : List Value), Rel P B0 m h w → VRels m args cargs → Runs P f ⟨cargs⟩ w (fun e w' => ∃ v', e = .returned v' ∧ (∀ m', VRel m' v v') ∧ Below w.heap.size w w')) :
    FnOK P B0 f args h (fun r1 h1 => r1 = .val v ∧ h1 = h) := by
  intro m w cargs hr ha
  refine (c m w cargs hr ha).mono ?_
  rintro e w' ⟨v', rfl, hv, bel⟩
  have hsame : ∀ b, b < w.heap.size → w'.heap[b]? = w.heap[b]? := fun b hb => bel.block b hb
  exact ⟨.val v, h, ⟨rfl, rfl⟩, m, .val (hv _), hr.same bel.size hsame, ⟨M.le_refl m, bel.os, bel.tape, bel.output, bel.size, fun b hb _ => hsame b hb, Nat.le_refl _, fun o _ hmo => ⟨rfl, hmo⟩, fun o b base sz h1 h2 => (by rw [h2] at h1; cases h1), fun h => absurd h hB⟩⟩
/-- what a walk says of a call that points nowhere, the call does, and leaves memory as it was -/
theorem FnOK.pure {E : Env} (hmix : P.follows .mixedOrders = true) (hT : TableOK P E) (hO : ∀ B, B ≠ 0 → OvOK P B E.ov) (hB : B0 ≠ 0) {f : Nat} {args : List AV} {v : AV} (hv : plainV v = true) (hw : ∀ h : H, h.Wf → WCall E f args h (fun r _ => r = .val v)) (h : H) :
    FnOK P B0 f args h (fun r1 h1 => r1 = .val v ∧ h1 = h) :=
  FnOK.same hB fun m w cargs hr ha => FnOK.apart hv hB (fun B hB' m' w' cargs' hr' ha' => holds_ok hmix hT (hO B hB') (hw h.ro hr'.wf) m' w' cargs' hr' ha') hr ha
abbrev Ovr := Nat × (List AV → H → Option (AOut × H))
/-- functions that stand for themselves, ahead of others -/
def ovP (b : Ovs) (L : List Ovr) : Ovs := fun f => match L.find? (·.1 == f) with | some p => some p.2 | none => b f
theorem ovP_ok {b : Ovs} {L : List Ovr} {B : Nat} (hb : OvOK P B b) (hL : ∀ p ∈ L, ∀ args h r h', p.2 args h = some (r, h') → FnOK P B p.1 args h (fun r1 h1 => r1 = r ∧ h1 = h')) : OvOK P B (ovP b L) := by
  intro f g hf args h r h' hg
  unfold ovP at hf
  split at hf
  · rename_i p hp
    cases hf
    have h1 := List.mem_of_find?_eq_some hp
    have h2 := List.find?_some hp
    simp only [beq_iff_eq] at h2
    have := hL p h1 args h r h' hg
    rw [h2] at this
    exact this
  · exact hb f g hf args h r h' hg
/-- a function of what points nowhere -/
def pureO (F : List AV → Option AV) : List AV → H → Option (AOut × H) := fun args h => (F args).map fun v => (.val v, h)
theorem pureO_ok {E : Env} (hmix : P.follows .mixedOrders = true) (hT : TableOK P E) (hO : ∀ B, B ≠ 0 → OvOK P B E.ov) {f : Nat} {F : List AV → Option AV} (hw : ∀ args v, F args = some v → plainV v = true ∧ ∀ h : H, h.Wf → WCall E f args h (fun r _ => r = .val v))
    {B : Nat} (hB : B ≠ 0) {args : List AV} {h h' : H} {r : AOut} (hg : pureO F args h = some (r, h')) : FnOK P B f args h (fun r1 h1 => r1 = r ∧ h1 = h') := by
  obtain ⟨v, hv, e⟩ := Option.map_eq_some_iff.1 hg
  cases e
  exact FnOK.pure hmix hT hO hB (hw args v hv).1 (hw args v hv).2 h
theorem pure_call {E : Env} {f : Nat} {F : List AV → Option AV} {args : List AV} {v : AV} {h : H} {R : AOut → H → Prop} (ho : E.ov f = some (pureO F)) (hF : F args = some v) (hR : R (.val v) h) : WCall E f args h R :=
  WCall_ov ho (by simp [pureO, hF]) hR
end
end Go.Proofs.YtlbaphapjclkdaaGreatDoor.Ev

/- A package variable whose row is laid: the start of a memory. A struct among the arguments. -/
import Derived.Test.YtgjcdpanabjcmaaGreatDoorEv30
import Derived.Test.YtgjcdpanabjcmaaGreatDoorEv22
import Derived.SliceStrings
import Derived.Lib.LaidTab
namespace Go.Proofs.YtgjcdpanabjcmaaGreatDoor.Ev
open Go.ChangeShapes Go.WideShapes Go.RowKit
set_option linter.unusedVariables false
set_option linter.unusedSimpArgs false

/-- a listed variable that is a slice of texts: the memory starts with it -/
theorem start_laidV {P : Program} {W : World} {name : String} {l : List (List UInt8)} {rest : List (String × DataW Unit)} {g : Nat} {t e : TypeId} {ps : List MemPlace} (hL : DataW.LaidVars P W ((name, .slice (l.map fun s => .lit (.string s)) []) :: rest) ps)
    (hg : P.globalNamed name = some g) (hty : (P.globals[g]?).map (·.type) = some t) (ht : P.underlying t = some (.slice e)) (he : P.underlying e = some .string) (hc : P.cellsOf e = 1) (hl : l ≠ []) :
    ∃ mS, Rel P W.heap.size mS (HG g l.length (strCells l)) W := by
  obtain ⟨g', t', cs, fuel, p, q, hg', ht', hvar, hd, _, _⟩ := hL
  obtain rfl := Option.some.inj (hg.symm.trans hg')
  obtain rfl := Option.some.inj (hty.symm.trans ht')
  rcases open_strings ht he hc hd with ⟨_, hx⟩ | ⟨a, len, cap, ss, hcs, _, hlen, _, hssl, hx, hcell, _⟩
  · cases hx
  simp only [Prod.mk.injEq, DataW.slice.injEq] at hx
  obtain ⟨⟨h1, h2⟩, _⟩ := hx
  have hdrop : ss.drop len = [] := by
    cases hd' : ss.drop len with
    | nil => rfl
    | cons y r => rw [hd'] at h2; simp [strs] at h2
  have htake : ss.take len = ss := by
    have := List.take_append_drop len ss
    rw [hdrop, List.append_nil] at this; exact this
  rw [htake] at h1
  have hstr : ss.map (fun s => s.data.toList) = l := by
    have : (l.map fun s => (DataW.lit (.string s) : DataW Unit)) = (ss.map fun s => s.data.toList).map fun s => DataW.lit (.string s) := by
      rw [h1]; simp [strs]
    have hinj : ∀ (x y : List (List UInt8)), (x.map fun s => (DataW.lit (.string s) : DataW Unit)) = (y.map fun s => DataW.lit (.string s)) → x = y := by
      intro x
      induction x with
      | nil => intro y hy; cases y with | nil => rfl | cons b r => simp at hy
      | cons b r ih =>
        intro y hy
        cases y with
        | nil => simp at hy
        | cons c r' =>
          simp only [List.map_cons, List.cons.injEq, DataW.lit.injEq, Lit.string.injEq] at hy
          rw [hy.1, ih r' hy.2]
    exact (hinj _ _ this).symm
  have hsl : ss.length = l.length := by rw [← hstr]; simp
  have hlenl : len = l.length := by
    have : (ss.drop len).length = 0 := by rw [hdrop]; rfl
    simp only [List.length_drop] at this
    simp only [if_true] at hssl
    omega
  have hcap : cap = l.length := by simp only [if_true] at hssl; omega
  obtain ⟨ab, ao, asp⟩ := a
  have hpos : 0 < ss.length := by rw [hsl]; exact List.length_pos_iff.2 hl
  have hc0 := hcell 0 hpos
  have hasp : asp = none := by
    simp only [Addr.add, World.cell?] at hc0
    split at hc0
    · cases asp with
      | none => rfl
      | some x => simp at hc0
    · cases hc0
  subst hasp
  have hadd : ∀ i, (⟨ab, ao, none⟩ : Addr).add i = ⟨ab, ao + i, none⟩ := by
    intro i; unfold Addr.add; split <;> simp_all
  simp only [hadd] at hcell hc0
  obtain ⟨CS, et, fr, hb⟩ : ∃ CS et fr, W.heap[ab]? = some (.cells CS et fr) := by
    simp only [World.cell?] at hc0
    split at hc0
    · rename_i c e' f' hh; exact ⟨c, e', f', hh⟩
    · cases hc0
  have hcellg : W.cell? ⟨g, 0, none⟩ = some (.slice (some ⟨ab, ao, none⟩) len cap) := by
    unfold World.var? at hvar
    rw [hg] at hvar
    simp only [Option.bind_some] at hvar
    split at hvar
    · rename_i c t' f hh
      cases hvar
      simp only [World.cell?, hh]
      have : cs[0]? = some (.slice (some ⟨ab, ao, none⟩) len cap) := by
        rw [← Array.getElem?_toList, hcs]; rfl
      simpa using this
    · cases hvar
  have hgl : g < W.heap.size := cell_lt hcellg
  have hat : ∀ i, i < ss.length → CS[ao + i]? = some (.string (ss.getD i ByteArray.empty)) := by
    intro i hi
    have := hcell i hi
    simp only [World.cell?, hb] at this
    simpa using this
  have hsz : ao + ss.length ≤ CS.size := by
    have := hat (ss.length - 1) (by omega)
    have := (Array.getElem?_eq_some_iff.1 this).1
    omega
  have hsz2 : ao + (strCells l).length ≤ CS.size := by simp only [strCells, List.length_map]; omega
  refine ⟨_, Rel.startG (cap := cap) hb rfl hsz2 ?_ hgl (by rw [← hlenl]; exact hcellg) (by omega) (by omega)⟩
  intro i a hi
  have hil : i < l.length := by
    have := (List.getElem?_eq_some_iff.1 hi).1
    simpa [strCells] using this
  have h5 : a = .str l[i] := by
    simp only [strCells, List.getElem?_map, List.getElem?_eq_getElem hil, Option.map_some, Option.some.injEq] at hi
    exact hi.symm
  subst h5
  refine ⟨_, hcell i (by omega), ?_⟩
  have h6 : ss.getD i ByteArray.empty = ⟨⟨l[i]⟩⟩ := by
    have hil2 : i < ss.length := by omega
    have h7 : l[i] = ss[i].data.toList := by
      have : l[i]? = (ss.map fun s => s.data.toList)[i]? := by rw [hstr]
      rw [List.getElem?_eq_getElem hil, List.getElem?_map, List.getElem?_eq_getElem hil2] at this
      simpa using this
    rw [List.getD_eq_getElem?_getD, List.getElem?_eq_getElem hil2, Option.getD_some, h7]
  rw [h6]
  exact .str _
theorem start_laid {P : Program} {W : World} {name : String} {l : List (List UInt8)} {rest : List (String × DataW Unit)} {g : Nat} {t e : TypeId} (hL : laidMet P ((name, .slice (l.map fun s => .lit (.string s)) []) :: rest) W)
    (hg : P.globalNamed name = some g) (hty : (P.globals[g]?).map (·.type) = some t) (ht : P.underlying t = some (.slice e)) (he : P.underlying e = some .string) (hc : P.cellsOf e = 1) (hl : l ≠ []) :
    ∃ mS, Rel P W.heap.size mS (HG g l.length (strCells l)) W := by
  obtain ⟨ps, h, _⟩ := hL
  exact start_laidV h hg hty ht he hc hl
/-- the same, where it is listed second -/
theorem start_laid2 {P : Program} {W : World} {x : String × DataW Unit} {name : String} {l : List (List UInt8)} {rest : List (String × DataW Unit)} {g : Nat} {t e : TypeId} (hL : laidMet P (x :: (name, .slice (l.map fun s => .lit (.string s)) []) :: rest) W)
    (hg : P.globalNamed name = some g) (hty : (P.globals[g]?).map (·.type) = some t) (ht : P.underlying t = some (.slice e)) (he : P.underlying e = some .string) (hc : P.cellsOf e = 1) (hl : l ≠ []) :
    ∃ mS, Rel P W.heap.size mS (HG g l.length (strCells l)) W := by
  obtain ⟨ps, ⟨_, _, _, _, _, q, _, _, _, _, h, _⟩, _⟩ := hL
  exact start_laidV h hg hty ht he hc hl
/-- a start stays a start -/
theorem StartG.keep {g len : Nat} {cs : List AV} {h h' : H} (s : StartG g len cs h) (wf : h.Wf) (k : Keep (Old h.n) h h') : StartG g len cs h' :=
  ⟨by rw [k.get 0 (wf.ob _ _ s.glob)]; exact s.glob, by rw [k.get 1 (wf.ob _ _ s.row)]; exact s.row⟩
theorem StartG.hg (g len : Nat) (cs : List AV) : StartG g len cs (HG g len cs) := ⟨HG_0 g len cs, HG_1 g len cs⟩
section
variable {P : Program} {t : TypeId} {n : Nat} {α : Type} {R : H → List AV → α → Prop}
/-- a struct among the arguments -/
theorem Opens.agg (o : Opens P t n R) {fs : Array Field} (ht : P.underlying t = some (.struct fs)) {X : Type} {enc : TypeId × Value → X} {W : World} {base : Nat} {v : Value} {d : DataW X} {ps : List MemPlace}
    (okw : Value.okWide P W .any base t v) (h0 : DataW.Trod enc P W 0 (fun _ => true) true t v d ps) (hp : 0 < W.heap.size) {m : M} {h : H} (r : Rel P W.heap.size m h W) :
    ∃ m' h' us a, Rel P W.heap.size m' h' W ∧ M.le m m' ∧ Keep (Old h.n) h h' ∧ VRel m' (.agg us) v ∧ R h' us a := by
  simp only [Value.okWide, ht] at okw
  obtain ⟨cs, rfl, _⟩ := okw
  obtain ⟨fuel, hf⟩ := h0
  obtain ⟨m', h', us, a, r', l', k', n', v', q'⟩ := o.op enc W fuel _ _ hf hp m h r
  refine ⟨m', h', us, a, r', l', k', ?_, q'⟩
  have : VRel m' (.agg us) (.agg ⟨cs.toList⟩) := .agg (by simpa [Value.cells] using v')
  simpa using this
end
theorem flatMap_congr' {β γ : Type} {f g : β → List γ} : ∀ {l : List β}, (∀ x ∈ l, f x = g x) → l.flatMap f = l.flatMap g
  | [], _ => rfl
  | a :: r, h => by rw [List.flatMap_cons, List.flatMap_cons, h a List.mem_cons_self, flatMap_congr' fun x hx => h x (List.mem_cons_of_mem _ hx)]
/-- a slice whose elements' cells are told by the elements -/
theorem SliceR.flat {n : Nat} {α : Type} {f : α → List AV} {h : H} {v : AV} {as : List α} (s : SliceR n (fun _ us a => us = f a) h [v] as) : Sl h n v as.length (as.flatMap f) ∧ Slot (Old h.n) h v ∧ as.length ≤ maxLen := by
  obtain ⟨v', e, q, rfl, sl, slot, hl, hq⟩ := s
  cases e
  refine ⟨?_, slot, by simpa using hl⟩
  have : q.flatMap (·.1) = (q.map (·.2)).flatMap f := by
    rw [List.flatMap_map]
    exact flatMap_congr' fun x hx => (hq x hx).2
  rw [this] at sl
  rw [List.length_map]
  exact sl
end Go.Proofs.YtgjcdpanabjcmaaGreatDoor.Ev

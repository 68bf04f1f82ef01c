/- Rows that a function may change, and all others: groups of rows, boxes, slices of one's own. -/
import Derived.Test.YtgjcdpanabjcmaaGreatDoorEv24
namespace Go.Proofs.YtgjcdpanabjcmaaGreatDoor.Ev
set_option linter.unusedVariables false
set_option linter.unusedSimpArgs false

/-- the rows that were there, but for those of these groups -/
def Apart (gs : List Nat) (h : H) : Nat → Prop := fun j => j < h.n ∧ j ∉ gs ∧ ∀ cs g, h.get j = some (.cells cs (some g)) → g ∉ gs
theorem apart_none {h : H} {j : Nat} : Apart [] h j ↔ j < h.n := by simp [Apart]
theorem Apart.of_old {gs : List Nat} {h : H} (wf : h.Wf) {N : Nat} (hN : N ≤ h.n) (hg : ∀ g ∈ gs, N ≤ g) {j : Nat} (hj : j < N) : Apart gs h j :=
  ⟨by omega, fun hm => by have := hg _ hm; omega, fun cs g e hm => by have := hg _ hm; have := (wf.mem _ _ _ e).1; omega⟩
/-- as a frame over all that was there -/
abbrev KeepA (gs : List Nat) (h h' : H) : Prop := Keep (Apart gs h) h h'
theorem KeepA.refl (gs : List Nat) (h : H) : KeepA gs h h := Keep.refl _ h
theorem KeepA.of {gs : List Nat} {h h' : H} (k : Keep (Old h.n) h h') : KeepA gs h h' := k.weaken fun o ho => ho.1
theorem KeepA.old {gs : List Nat} {h h' : H} (k : KeepA gs h h') (wf : h.Wf) {N : Nat} (hN : N ≤ h.n) (hg : ∀ g ∈ gs, N ≤ g) : Keep (Old N) h h' := k.weaken fun o ho => Apart.of_old wf hN hg ho
theorem KeepA.none {h h' : H} (k : KeepA [] h h') : Keep (Old h.n) h h' := k.weaken fun o ho => apart_none.2 ho
theorem KeepA.mono {gs gs' : List Nat} {h h' : H} (k : KeepA gs h h') (hs : ∀ g ∈ gs, g ∈ gs') : KeepA gs' h h' := k.weaken fun o ho => ⟨ho.1, fun hm => ho.2.1 (hs _ hm), fun cs g e hm => ho.2.2 cs g e (hs _ hm)⟩
theorem KeepA.then {gs gs' : List Nat} {h h1 h2 : H} (wf : h.Wf) (a : KeepA gs h h1) (b : KeepA gs' h1 h2) (hs : ∀ g ∈ gs', g ∈ gs ∨ h.n ≤ g) : KeepA gs h h2 := by
  refine a.trans (b.weaken fun o ho => ?_)
  refine ⟨Nat.lt_of_lt_of_le ho.1 a.n, fun hm => ?_, fun cs g e hm => ?_⟩
  · rcases hs _ hm with x | x
    · exact ho.2.1 x
    · have := ho.1; omega
  · rw [a.get _ ho] at e
    rcases hs _ hm with x | x
    · exact ho.2.2 _ _ e x
    · have := ho.1; have := (wf.mem _ _ _ e).1; omega
theorem KeepA.new {gs : List Nat} (h : H) (vs : List AV) : KeepA gs h (h.new vs) := KeepA.of (Keep.new (Nat.le_refl _) vs)
theorem Slot.apart {gs : List Nat} {h : H} (wf : h.Wf) {N : Nat} (hN : N ≤ h.n) (hg : ∀ g ∈ gs, N ≤ g) {v : AV} (s : Slot (Old N) h v) : Slot (Apart gs h) h v := s.mono fun o ho => Apart.of_old wf hN hg ho
theorem Slot.old {gs : List Nat} {h : H} {v : AV} (s : Slot (Apart gs h) h v) : Slot (Old h.n) h v := s.mono fun o ho => ho.1
theorem Slot.keepA {gs : List Nat} {h h' : H} {v : AV} (s : Slot (Apart gs h) h v) (k : KeepA gs h h') : Slot (Apart gs h') h' v :=
  s.keep k fun o ho => ⟨Nat.lt_of_lt_of_le ho.1 k.n, ho.2.1, fun cs g e => ho.2.2 cs g (by rw [← k.get _ ho]; exact e)⟩
/-- as another frame's slot, that keeps away from it -/
theorem Slot.keepN {gs gs' : List Nat} {h h' : H} (wf : h.Wf) {v : AV} (s : Slot (Apart gs h) h v) (k : KeepA gs' h h') (s' : Slot (Apart gs' h) h v) : Slot (Apart gs h') h' v := by
  cases v <;> first | trivial | skip
  all_goals
    obtain ⟨a1, a2⟩ := s
    obtain ⟨b1, b2⟩ := s'
    have up : ∀ o, Apart gs h o → Apart gs' h o → Apart gs h' o := fun o x y => ⟨Nat.lt_of_lt_of_le x.1 k.n, x.2.1, fun cs g e => x.2.2 cs g (by rw [← k.get _ y]; exact e)⟩
    exact ⟨up _ a1 b1, fun cs g e => by rw [k.get _ b1] at e; exact up _ (a2 cs g e) (b2 cs g e)⟩

/-- a slice of one's own, with its group -/
def Grp (g : Nat) (h : H) : AV → Prop
  | .slice o i len es => ∃ cs, h.get o = some (.cells cs (some g)) ∧ h.tip g = o ∧ h.kill g ≤ o ∧ i + len * es ≤ cs.length ∧ ∃ cs', h.get g = some (.cells cs' (some g))
  | _ => False
theorem Own.grp {N : Nat} {h : H} {v : AV} (o : Own N h v) : v = .nils ∨ ∃ g, N ≤ g ∧ Grp g h v := by
  cases v <;> first | exact .inl rfl | exact o.elim | skip
  obtain ⟨cs, g, h1, h2, h3, h4, h5, h6, h7⟩ := o
  exact .inr ⟨g, h4, cs, h1, h2, h3, h6, h7⟩
theorem Grp.own {g : Nat} {h : H} (wf : h.Wf) {v : AV} (a : Grp g h v) {N : Nat} (hN : N ≤ g) : Own N h v := by
  cases v <;> first | exact a.elim | skip
  obtain ⟨cs, h1, h2, h3, h4, h5⟩ := a
  exact ⟨cs, g, h1, h2, h3, hN, Nat.le_trans hN (wf.mem _ _ _ h1).1, h4, h5⟩
theorem Grp.lt {g : Nat} {h : H} (wf : h.Wf) {v : AV} (a : Grp g h v) : g < h.n := by
  cases v <;> first | exact a.elim | skip
  obtain ⟨cs, h1, h2, h3, h4, cs', h5⟩ := a
  exact wf.ob _ _ h5
theorem Grp.slot {gs : List Nat} {g : Nat} {h : H} (wf : h.Wf) {v : AV} (a : Grp g h v) (hg : g ∉ gs) (hgs : ∀ x ∈ gs, ∀ cs, h.get x ≠ some (.cells cs (some g))) : Slot (Apart gs h) h v := by
  cases v <;> first | exact a.elim | skip
  obtain ⟨cs, h1, h2, h3, h4, cs', h5⟩ := a
  refine ⟨⟨wf.ob _ _ h1, fun hm => hgs _ hm _ h1, fun cs1 g1 e => ?_⟩, fun cs1 g1 e => ?_⟩
  · rw [h1] at e; cases e; exact hg
  · rw [h1] at e; cases e
    refine ⟨wf.ob _ _ h5, hg, fun cs2 g2 e2 => ?_⟩
    rw [h5] at e2; cases e2; exact hg
theorem Grp.keep {g : Nat} {K : Nat → Prop} {h h' : H} {v : AV} (a : Grp g h v) (s : Slot K h v) (k : Keep K h h') : Grp g h' v := by
  cases v <;> first | exact a | skip
  obtain ⟨cs, h1, h2, h3, h4, cs', h5⟩ := a
  have kg := s.2 cs g h1
  exact ⟨cs, by rw [k.get _ s.1]; exact h1, by rw [k.tip _ kg]; exact h2, by rw [k.kill _ kg]; exact h3, h4, cs', by rw [k.get _ kg]; exact h5⟩

/-- a row that is its own group, and its cells -/
structure Box (r : Nat) (cs : List AV) (h : H) : Prop where
  get : h.get r = some (.cells cs (some r))
  tip : h.tip r = r
  live : h.kill r ≤ r
theorem Box.new {h : H} (wf : h.Wf) (vs : List AV) : Box h.n vs (h.new vs) :=
  ⟨get_new h vs, by rw [show (h.new vs).tip h.n = h.tip h.n from rfl, wf.tip_new], by rw [show (h.new vs).kill h.n = h.kill h.n from rfl, wf.kill_new]; exact Nat.zero_le _⟩
theorem Box.lt {r : Nat} {cs : List AV} {h : H} (wf : h.Wf) (b : Box r cs h) : r < h.n := wf.ob _ _ b.get
theorem Box.apart {r : Nat} {cs : List AV} {h : H} (wf : h.Wf) (b : Box r cs h) {gs : List Nat} (hr : r ∉ gs) : Apart gs h r :=
  ⟨b.lt wf, hr, fun cs' g e => by rw [b.get] at e; cases e; exact hr⟩
theorem Box.keep {r : Nat} {cs : List AV} {h h' : H} (b : Box r cs h) {K : Nat → Prop} (k : Keep K h h') (hr : K r) : Box r cs h' :=
  ⟨by rw [k.get _ hr]; exact b.get, by rw [k.tip _ hr]; exact b.tip, by rw [k.kill _ hr]; exact b.live⟩
theorem Box.keepA {r : Nat} {cs : List AV} {h h' : H} (b : Box r cs h) (wf : h.Wf) {gs : List Nat} (k : KeepA gs h h') (hr : r ∉ gs) : Box r cs h' := b.keep k (b.apart wf hr)
theorem Box.row {r : Nat} {cs : List AV} {h : H} (b : Box r cs h) : h.row r = some cs := by
  unfold H.row; rw [b.get]; simp only; rw [if_pos b.live]
theorem Box.load {r : Nat} {cs : List AV} {h : H} (b : Box r cs h) (n i : Nat) : loadA h false n (.ptr r i) = cs[i]? := by
  simp only [loadA, b.row, Bool.false_eq_true, if_false]
theorem Box.loadAgg {r : Nat} {cs : List AV} {h : H} (b : Box r cs h) {n : Nat} (hn : cs.length = n) : loadA h true n (.ptr r 0) = some (.agg cs) := by
  simp only [loadA, b.row, if_true]
  rw [if_pos (by omega)]
  simp [← hn]
theorem splice_all {cs vs : List AV} (hl : vs.length = cs.length) : splice cs 0 vs = vs := by simp [splice, hl]
theorem Box.put {r : Nat} {cs : List AV} {h : H} (wf : h.Wf) (b : Box r cs h) {i n : Nat} {v : AV} (hn : v.cells.length = n) (h1 : v.cells.all AV.one = true) (hi : i + n ≤ cs.length) :
    ∃ h', storeA h n (.ptr r i) v = some h' ∧ Box r (splice cs i v.cells) h' ∧ KeepA [r] h h' := by
  have hrn := b.lt wf
  refine ⟨{ h with ob := h.ob.set r (.cells (splice cs i v.cells) (some r)) }, ?_, ⟨?_, b.tip, b.live⟩, ?_⟩
  · simp only [storeA]
    rw [if_pos ⟨hn, h1⟩]
    simp only [H.put, b.get]
    rw [if_pos ⟨b.tip, by omega⟩, if_pos trivial]
  · show (h.ob.set r _).get r = _
    rw [Tr.get_set, if_pos rfl]
  · have hg : ∀ j, (h.ob.set r (.cells (splice cs i v.cells) (some r))).get j = if j = r then some (.cells (splice cs i v.cells) (some r)) else h.get j := fun j => Tr.get_set _ _ _ _
    refine ⟨fun w => ⟨w.gr, fun o cs' g e => ?_, fun o x e => ?_, w.kt, w.tl⟩, Nat.le_refl _, fun o ho => ?_, fun _ _ => rfl, fun _ _ => rfl⟩
    · rw [show ({ h with ob := h.ob.set r (.cells (splice cs i v.cells) (some r)) } : H).get o = _ from hg o] at e
      split at e
      · rename_i e'; subst e'; cases e; exact ⟨Nat.le_refl _, Nat.le_of_eq b.tip.symm⟩
      · exact w.mem o cs' g e
    · rw [show ({ h with ob := h.ob.set r (.cells (splice cs i v.cells) (some r)) } : H).get o = _ from hg o] at e
      split at e
      · rename_i e'; subst e'; exact hrn
      · exact w.ob o x e
    · rw [show ({ h with ob := h.ob.set r (.cells (splice cs i v.cells) (some r)) } : H).get o = _ from hg o, if_neg]
      rintro rfl
      exact ho.2.1 (by simp)

/-- a group's first row -/
def Root (g : Nat) (h : H) : Prop := ∃ cs, h.get g = some (.cells cs (some g))
theorem Box.root {r : Nat} {cs : List AV} {h : H} (b : Box r cs h) : Root r h := ⟨cs, b.get⟩
theorem Grp.root {g : Nat} {h : H} {v : AV} (a : Grp g h v) : Root g h := by
  cases v <;> first | exact a.elim | skip
  obtain ⟨cs, h1, h2, h3, h4, h5⟩ := a
  exact h5
theorem Grp.away {gs : List Nat} {g : Nat} {h : H} (wf : h.Wf) {v : AV} (a : Grp g h v) (hg : g ∉ gs) (hr : ∀ x ∈ gs, Root x h) : Slot (Apart gs h) h v := by
  refine a.slot wf hg fun x hx cs e => ?_
  obtain ⟨cs', e'⟩ := hr x hx
  rw [e] at e'; cases e'
  exact hg hx
theorem Root.keep {g : Nat} {h h' : H} (a : Root g h) {K : Nat → Prop} (k : Keep K h h') (hg : K g) : Root g h' := by
  obtain ⟨cs, e⟩ := a
  exact ⟨cs, by rw [k.get _ hg]; exact e⟩
theorem Root.apart {g : Nat} {h : H} (wf : h.Wf) (a : Root g h) {gs : List Nat} (hg : g ∉ gs) : Apart gs h g := by
  obtain ⟨cs, e⟩ := a
  exact ⟨wf.ob _ _ e, hg, fun cs' g' e' => by rw [e] at e'; cases e'; exact hg⟩

/-- an append behind a slice of one's own: its group alone -/
theorem app_grp {g : Nat} {h : H} (wf : h.Wf) {v : AV} {es n k : Nat} {cs new : List AV} (a : Sl h es v n cs) (o : Grp g h v) (hl : new.length = k * es) (hone : new.all AV.one = true) (hbig : n + k < 4294967296) :
    ∃ v' h', h.app v es k new = some (v', h') ∧ Sl h' es v' (n + k) (cs ++ new) ∧ Grp g h' v' ∧ KeepA [g] h h' := by
  by_cases hk : k = 0
  · subst hk
    have : new = [] := by cases new <;> simp at hl ⊢
    subst this
    refine ⟨v, h, ?_, by simpa using a, o, Keep.refl _ _⟩
    obtain ⟨h1, h2⟩ := a
    cases v <;> simp only [lenSA] at h1 <;> (try (cases h1; done))
    case nils => exact o.elim
    case slice o i len es' =>
      cases h1
      simp only [H.firstCells] at h2
      split at h2
      · rename_i hc; simp [H.app, hc.1]
      · cases h2
  · cases v <;> simp only [Grp] at o <;> (try exact o.elim)
    case slice o' i len es' =>
      obtain ⟨row, h1, h2, h3, h6, rt, hrt⟩ := o
      obtain ⟨a1, a2⟩ := a
      cases a1
      have hrow : h.row o' = some row := by unfold H.row; rw [h1]; simp only; rw [if_pos h3]
      simp only [H.firstCells] at a2
      split at a2
      case isFalse => cases a2
      rename_i hc
      obtain ⟨rfl, _⟩ := hc
      rw [hrow] at a2
      simp only at a2
      rw [if_pos h6] at a2
      cases a2
      have hon := wf.ob _ _ h1
      have C := H.child_to ((row.drop i).take (n * es') ++ new) h1 h2 h3 h6 hon
      have hlive : (h.child o' g (i + n * es') row ((row.drop i).take (n * es') ++ new)).kill g ≤ h.n := by
        rcases C.killg with ⟨_, e⟩ | e
        · rw [e]; omega
        · rw [e]; omega
      have hget : (h.child o' g (i + n * es') row ((row.drop i).take (n * es') ++ new)).get h.n = some (.cells ((row.drop i).take (n * es') ++ new) (some g)) := by rw [C.get, if_pos rfl]
      have hroot : ∃ cs', (h.child o' g (i + n * es') row ((row.drop i).take (n * es') ++ new)).get g = some (.cells cs' (some g)) := by
        rw [C.get, if_neg (Nat.ne_of_lt (wf.ob _ _ hrt))]
        split
        · exact ⟨_, rfl⟩
        · exact ⟨_, hrt⟩
      have hlen : ((row.drop i).take (n * es') ++ new).length = (n + k) * es' := by
        rw [List.length_append, hl, Nat.add_mul]; simp; omega
      refine ⟨.slice h.n 0 (n + k) es', _, ?_, ⟨rfl, ?_⟩, ⟨_, hget, C.tipg, hlive, by omega, hroot⟩, ⟨C.wf, by rw [C.n]; omega, ?_, ?_, ?_⟩⟩
      · simp only [H.app, if_neg hk, h1]
        rw [if_pos ⟨h2, trivial, h6, hbig, h3, hone⟩]
      · simp only [H.firstCells]
        rw [if_pos ⟨trivial, Nat.le_refl _⟩]
        have : (h.child o' g (i + n * es') row ((row.drop i).take (n * es') ++ new)).row h.n = some ((row.drop i).take (n * es') ++ new) := by
          unfold H.row; rw [hget]; simp only; rw [if_pos hlive]
        rw [this]
        simp only [Nat.zero_add, List.drop_zero]
        rw [if_pos (by omega), ← hlen, List.take_length]
      · intro j hj
        rw [C.get, if_neg (Nat.ne_of_lt hj.1), if_neg]
        rintro rfl
        exact hj.2.2 _ _ h1 (by simp)
      · intro j hj; exact C.tipo j (fun e => hj.2.1 (by simp [e]))
      · intro j hj; exact C.kill j (fun e => hj.2.1 (by simp [e]))
theorem append_grp {g : Nat} {h : H} (wf : h.Wf) {v y : AV} {es n k : Nat} {cs new : List AV} (a : Sl h es v n cs) (o : Grp g h v) (b : Sl h es y k new) (hone : new.all AV.one = true) (hbig : n + k < 4294967296) :
    ∃ v' h', appendA h es v y = some (v', h') ∧ Sl h' es v' (n + k) (cs ++ new) ∧ Grp g h' v' ∧ KeepA [g] h h' := by
  unfold appendA
  rw [b.lenA]
  simp only [b.cells]
  exact app_grp wf a o b.size hone hbig

theorem Own.away {N : Nat} {gs : List Nat} {h : H} (wf : h.Wf) {v : AV} (o : Own N h v) (hg : ∀ x ∈ gs, x < N ∧ Root x h) : Slot (Apart gs h) h v := by
  rcases o.grp with rfl | ⟨g, hn, a⟩
  · trivial
  · exact a.away wf (fun hm => by have := (hg _ hm).1; omega) (fun x hx => (hg x hx).2)
/-! ### texts, one a cell -/
abbrev strCells (l : List (List UInt8)) : List AV := l.map AV.str
abbrev Strs (h : H) (v : AV) (l : List (List UInt8)) : Prop := Sl h 1 v l.length (strCells l)
theorem Strs.keep {K : Nat → Prop} {h h' : H} {v : AV} {s : List (List UInt8)} (a : Strs h v s) (k : Keep K h h') (sl : Slot K h v) : Strs h' v s := Sl.keep a k sl
theorem Strs.at {h : H} {v : AV} {l : List (List UInt8)} (b : Strs h v l) {i : Nat} (hi : i < l.length) (k : IntKind) : ∃ p, indexAddrA 1 v (.int k (i : Int)) = some p ∧ loadA h false 1 p = some (.str l[i]) := by
  obtain ⟨p, e1, e2⟩ := Sl.at b hi k
  refine ⟨p, e1, ?_⟩
  rw [e2]; simp [strCells, hi]
theorem strCells_one (l : List (List UInt8)) : (strCells l).all AV.one = true := by simp [strCells, AV.one]
theorem Strs.one {h : H} (wf : h.Wf) (s : List UInt8) : Strs (h.new [.str s]) (.slice h.n 0 1 1) [s] := Sl.new (n := 1) (es := 1) wf (vs := [.str s]) (by simp)
theorem Strs.nil (h : H) : Strs h .nils [] := Sl.nil h 1
theorem Strs.app {N : Nat} {h : H} (wf : h.Wf) (hN : N ≤ h.n) {v y : AV} {s t : List (List UInt8)} (a : Strs h v s) (o : Own N h v) (b : Strs h y t) (hbig : s.length + t.length < 4294967296) :
    ∃ v' h', appendA h 1 v y = some (v', h') ∧ Strs h' v' (s ++ t) ∧ Own N h' v' ∧ Keep (Old N) h h' := by
  obtain ⟨v', h', e, sl, o', k⟩ := append_own wf hN a o b (strCells_one _) hbig
  refine ⟨v', h', e, ?_, o', k⟩
  unfold Strs
  rw [List.length_append, strCells, List.map_append]
  exact sl
/-- numbers, one a cell -/
abbrev U64s (h : H) (v : AV) (l : List Nat) : Prop := Sl h 1 v l.length (l.map fun x => AV.int .u64 (x : Nat))
theorem U64s.at {h : H} {v : AV} {l : List Nat} (b : U64s h v l) {i : Nat} (hi : i < l.length) (k : IntKind) : ∃ p, indexAddrA 1 v (.int k (i : Int)) = some p ∧ loadA h false 1 p = some (.int .u64 (l[i] : Nat)) := by
  obtain ⟨p, e1, e2⟩ := Sl.at b hi k
  refine ⟨p, e1, ?_⟩
  rw [e2]; simp [hi]
end Go.Proofs.YtgjcdpanabjcmaaGreatDoor.Ev

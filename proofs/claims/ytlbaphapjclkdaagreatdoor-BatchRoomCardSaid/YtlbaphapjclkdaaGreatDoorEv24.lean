/- More single operations, for symbolic runs. -/
import Derived.Test.YtlbaphapjclkdaaGreatDoorEv19
import Derived.SliceStrings
import Derived.Lib.SmallJoins
namespace Go.Proofs.YtlbaphapjclkdaaGreatDoor.Ev
set_option linter.unusedVariables false
set_option linter.unusedSimpArgs false
@[go_sem] theorem eq_bool (a b : Bool) : eqA .bool (.bool a) (.bool b) = some (a == b) := id rfl
@[go_sem] theorem eq_slice_nils : eqA .slice .nils .nils = some true := id rfl
@[go_sem] theorem eq_slice_nils' (o i l e : Nat) : eqA .slice .nils (.slice o i l e) = some false := id rfl
@[go_sem] theorem eq_slice_nils'' (o i l e : Nat) : eqA .slice (.slice o i l e) .nils = some false := id rfl
@[go_sem] theorem eq_iface_nili (t : Nat) (v : AV) : eqA .iface .nili (.iface t v) = some false := id rfl
@[go_sem] theorem eq_iface_nili' (t : Nat) (v : AV) : eqA .iface (.iface t v) .nili = some false := id rfl
@[go_sem] theorem eq_ptr_nilp : eqA .ptr .nilp .nilp = some true := id rfl
@[go_sem] theorem eq_ptr_nilp' (o i : Nat) : eqA .ptr .nilp (.ptr o i) = some false := id rfl
@[go_sem] theorem eq_ptr_nilp'' (o i : Nat) : eqA .ptr (.ptr o i) .nilp = some false := id rfl
@[go_sem] theorem omap_some {α β : Type} (f : α → β) (x : α) : Option.map f (some x) = some (f x) := id rfl
@[go_sem] theorem omap_none {α β : Type} (f : α → β) : Option.map f none = none := id rfl
@[go_sem] theorem lmap_cons {α β : Type} (f : α → β) (x : α) (l : List α) : List.map f (x :: l) = f x :: List.map f l := id rfl
@[go_sem] theorem lmap_nil {α β : Type} (f : α → β) : List.map f [] = [] := id rfl
@[go_sem] theorem lapp_nil {α : Type} (l : List α) : l ++ [] = l := List.append_nil l
@[go_sem] theorem nil_lapp {α : Type} (l : List α) : [] ++ l = l := id rfl
@[go_sem] theorem lget_zero {α : Type} (x : α) (l : List α) : (x :: l)[0]? = some x := id rfl
@[go_sem] theorem lget_one {α : Type} (x y : α) (l : List α) : (x :: y :: l)[1]? = some y := id rfl
@[go_sem] theorem lget_two {α : Type} (x y z : α) (l : List α) : (x :: y :: z :: l)[2]? = some z := id rfl
@[go_sem] theorem lget_three {α : Type} (x y z w : α) (l : List α) : (x :: y :: z :: w :: l)[3]? = some w := id rfl
@[go_sem] theorem avbool_inj (a b : Bool) : (AV.bool a = AV.bool b) = (a = b) := by simp
/-! ### bytes: cut, and put together -/
theorem bounds_to {n k : Nat} (hk : k ≤ n) (kd : IntKind) : bounds n none (some (.int kd (k : Int))) = some (0, k) := by
  simp only [bounds]
  rw [if_pos ⟨by omega, by omega⟩]
  simp
theorem bounds_from {n k : Nat} (hk : k ≤ n) (kd : IntKind) : bounds n (some (.int kd (k : Int))) none = some (k, n) := by
  simp only [bounds]
  rw [if_pos ⟨by omega, by omega⟩]
  simp
theorem bounds_fromto {n a k : Nat} (ha : a ≤ k) (hk : k ≤ n) (kd kd' : IntKind) : bounds n (some (.int kd (a : Int))) (some (.int kd' (k : Int))) = some (a, k) := by
  simp only [bounds]
  rw [if_pos ⟨by omega, by omega⟩]
  simp only [Int.toNat_natCast]
  rw [if_pos ⟨by omega, by omega⟩]
theorem Bytes.keep {K : Nat → Prop} {h h' : H} {v : AV} {s : List UInt8} (a : Bytes h v s) (k : Keep K h h') (sl : Slot K h v) : Bytes h' v s := Sl.keep a k sl
theorem Bytes.part {h : H} {v : AV} {s : List UInt8} (b : Bytes h v s) {lo hi : Nat} (h1 : lo ≤ hi) (h2 : hi ≤ s.length) (hlo hhi : Option AV) (hb : bounds s.length hlo hhi = some (lo, hi)) :
    ∃ v', sliceSA 1 hlo hhi v = some v' ∧ Bytes h v' ((s.drop lo).take (hi - lo)) ∧ (∀ K, Slot K h v → Slot K h v') := by
  obtain ⟨v', e, c, k⟩ := Sl.cut b h1 h2 hlo hhi hb
  refine ⟨v', e, ?_, k⟩
  have hl : ((s.drop lo).take (hi - lo)).length = hi - lo := by simp; omega
  unfold Bytes
  rw [hl]
  have : byteCells ((s.drop lo).take (hi - lo)) = ((byteCells s).drop (lo * 1)).take ((hi - lo) * 1) := by simp [byteCells, List.map_take, List.map_drop]
  rw [this]; exact c
theorem Bytes.take {h : H} {v : AV} {s : List UInt8} (b : Bytes h v s) {k : Nat} (hk : k ≤ s.length) (kd : IntKind) :
    ∃ v', sliceSA 1 none (some (.int kd (k : Int))) v = some v' ∧ Bytes h v' (s.take k) ∧ (∀ K, Slot K h v → Slot K h v') := by
  have := b.part (Nat.zero_le _) hk _ _ (bounds_to hk kd)
  simpa using this
theorem Bytes.drop {h : H} {v : AV} {s : List UInt8} (b : Bytes h v s) {k : Nat} (hk : k ≤ s.length) (kd : IntKind) :
    ∃ v', sliceSA 1 (some (.int kd (k : Int))) none v = some v' ∧ Bytes h v' (s.drop k) ∧ (∀ K, Slot K h v → Slot K h v') := by
  have := b.part hk (Nat.le_refl _) _ _ (bounds_from hk kd)
  rw [List.take_of_length_le (by simp)] at this
  exact this
theorem Bytes.nil (h : H) : Bytes h .nils [] := Sl.nil h 1
theorem Own.nils (N : Nat) (h : H) : Own N h .nils := trivial
theorem Bytes.app {N : Nat} {h : H} (wf : h.Wf) (hN : N ≤ h.n) {v y : AV} {s t : List UInt8} (a : Bytes h v s) (o : Own N h v) (b : Bytes h y t) (hbig : s.length + t.length < 4294967296) :
    ∃ v' h', appendA h 1 v y = some (v', h') ∧ Bytes h' v' (s ++ t) ∧ Own N h' v' ∧ Keep (Old N) h h' := by
  obtain ⟨v', h', e, sl, o', k⟩ := append_own wf hN a o b (byteCells_one _) hbig
  refine ⟨v', h', e, ?_, o', k⟩
  unfold Bytes
  rw [List.length_append, byteCells_append]
  exact sl
theorem Bytes.app_str {N : Nat} {h : H} (wf : h.Wf) (hN : N ≤ h.n) {v : AV} {s t : List UInt8} (a : Bytes h v s) (o : Own N h v) (hbig : s.length + t.length < 4294967296) :
    ∃ v' h', appendA h 1 v (.str t) = some (v', h') ∧ Bytes h' v' (s ++ t) ∧ Own N h' v' ∧ Keep (Old N) h h' := by
  obtain ⟨v', h', e, sl, o', k⟩ := append_str wf hN a o hbig
  refine ⟨v', h', e, ?_, o', k⟩
  unfold Bytes
  rw [List.length_append, byteCells_append]
  exact sl
/-- a row's bytes -/
theorem bytes_arg {h : H} {x : AV} {len : Nat} {z : List Int} (w : ∀ n ∈ z, (Lit.int .u8 n).wf = true) (s : Sl h 1 x len ((z.take len).map (AV.int .u8))) : ∃ bs : List UInt8, Bytes h x bs ∧ bs.length = len := by
  have hs := s.size
  rw [List.length_map] at hs
  have e := bytes_of_ints (z.take len) (fun n hn => w n (List.mem_of_mem_take hn))
  have hl : ((z.take len).map fun n => UInt8.ofNat n.toNat).length = len := by rw [List.length_map]; omega
  refine ⟨_, ?_, hl⟩
  unfold Bytes
  rw [hl, ← e]; exact s
theorem u64_arg {a : Int} (w : (Lit.int .u64 a).wf = true) : ∃ x : Nat, a = x ∧ x < 18446744073709551616 := by
  refine ⟨a.toNat, ?_, ?_⟩ <;>
  · simp only [Lit.wf, IntKind.min, IntKind.max] at w
    revert w
    simp [IntKind.signed, IntKind.bits]
    omega
end Go.Proofs.YtlbaphapjclkdaaGreatDoor.Ev

/- Rows that a function may change, and all others: groups of rows, boxes, slices of one's own. -/
namespace Go.Proofs.YtlbaphapjclkdaaGreatDoor.Ev
set_option linter.unusedVariables false
set_option linter.unusedSimpArgs false

/-- the rows that were there, but for those of these groups -/
def Apart (gs : List Nat) (h : H) : Nat → Prop := fun j => j < h.n ∧ j ∉ gs ∧ ∀ cs g, h.get j = some (.cells cs (some g)) → g ∉ gs
theorem apart_none {h : H} {j : Nat} : Apart [] h j ↔ j < h.n := by simp [Apart]
theorem Apart.of_old {gs : List Nat} {h : H} (wf : h.Wf) {N : Nat} (hN : N ≤ h.n) (hg : ∀ g ∈ gs, N ≤ g) {j : Nat} (hj : j < N) : Apart gs h j :=
  ⟨by omega, fun hm => by have := hg _ hm; omega, fun cs g e hm => by have := hg _ hm; have := (wf.mem _ _ _ e).1; omega⟩
/-- as a frame over all that was there -/
abbrev KeepA (gs : List Nat) (h h' : H) : Prop := Keep (Apart gs h) h h'
theorem KeepA.refl (gs : List Nat) (h : H) : KeepA gs h h := Keep.refl _ h
theorem KeepA.of {gs : List Nat} {h h' : H} (k : Keep (Old h.n) h h') : KeepA gs h h' := k.weaken fun o ho => ho.1
theorem KeepA.old {gs : List Nat} {h h' : H} (k : KeepA gs h h') (wf : h.Wf) {N : Nat} (hN : N ≤ h.n) (hg : ∀ g ∈ gs, N ≤ g) : Keep (Old N) h h' := k.weaken fun o ho => Apart.of_old wf hN hg ho
theorem KeepA.none {h h' : H} (k : KeepA [] h h') : Keep (Old h.n) h h' := k.weaken fun o ho => apart_none.2 ho
theorem KeepA.mono {gs gs' : List Nat} {h h' : H} (k : KeepA gs h h') (hs : ∀ g ∈ gs, g ∈ gs') : KeepA gs' h h' := k.weaken fun o ho => ⟨ho.1, fun hm => ho.2.1 (hs _ hm), fun cs g e hm => ho.2.2 cs g e (hs _ hm)⟩
theorem KeepA.then {gs gs' : List Nat} {h h1 h2 : H} (wf : h.Wf) (a : KeepA gs h h1) (b : KeepA gs' h1 h2) (hs : ∀ g ∈ gs', g ∈ gs ∨ h.n ≤ g) : KeepA gs h h2 := by
  refine a.trans (b.weaken fun o ho => ?_)
  refine ⟨Nat.lt_of_lt_of_le ho.1 a.n, fun hm => ?_, fun cs g e hm => ?_⟩
  · rcases hs _ hm with x | x
    · exact ho.2.1 x
    · have := ho.1; omega
  · rw [a.get _ ho] at e
    rcases hs _ hm with x | x
    · exact ho.2.2 _ _ e x
    · have := ho.1; have := (wf.mem _ _ _ e).1; omega
theorem KeepA.new {gs : List Nat} (h : H) (vs : List AV) : KeepA gs h (h.new vs) := KeepA.of (Keep.new (Nat.le_refl _) vs)
theorem Slot.apart {gs : List Nat} {h : H} (wf : h.Wf) {N : Nat} (hN : N ≤ h.n) (hg : ∀ g ∈ gs, N ≤ g) {v : AV} (s : Slot (Old N) h v) : Slot (Apart gs h) h v := s.mono fun o ho => Apart.of_old wf hN hg ho
theorem Slot.old {gs : List Nat} {h : H} {v : AV} (s : Slot (Apart gs h) h v) : Slot (Old h.n) h v := s.mono fun o ho => ho.1
theorem Slot.keepA {gs : List Nat} {h h' : H} {v : AV} (s : Slot (Apart gs h) h v) (k : KeepA gs h h') : Slot (Apart gs h') h' v :=
  s.keep k fun o ho => ⟨Nat.lt_of_lt_of_le ho.1 k.n, ho.2.1, fun cs g e => ho.2.2 cs g (by rw [← k.get _ ho]; exact e)⟩
/-- as another frame's slot, that keeps away from it -/
theorem Slot.keepN {gs gs' : List Nat} {h h' : H} (wf : h.Wf) {v : AV} (s : Slot (Apart gs h) h v) (k : KeepA gs' h h') (s' : Slot (Apart gs' h) h v) : Slot (Apart gs h') h' v := by
  cases v <;> first | trivial | skip
  all_goals
    obtain ⟨a1, a2⟩ := s
    obtain ⟨b1, b2⟩ := s'
    have up : ∀ o, Apart gs h o → Apart gs' h o → Apart gs h' o := fun o x y => ⟨Nat.lt_of_lt_of_le x.1 k.n, x.2.1, fun cs g e => x.2.2 cs g (by rw [← k.get _ y]; exact e)⟩
    exact ⟨up _ a1 b1, fun cs g e => by rw [k.get _ b1] at e; exact up _ (a2 cs g e) (b2 cs g e)⟩

/-- a slice of one's own, with its group -/
def Grp (g : Nat) (h : H) : AV → Prop
  | .slice o i len es => ∃ cs, h.get o = some (.cells cs (some g)) ∧ h.tip g = o ∧ h.kill g ≤ o ∧ i + len * es ≤ cs.length ∧ ∃ cs', h.get g = some (.cells cs' (some g))
  | _ => False
theorem Own.grp {N : Nat} {h : H} {v : AV} (o : Own N h v) : v = .nils ∨ ∃ g, N ≤ g ∧ Grp g h v := by
  cases v <;> first | exact .inl rfl | exact o.elim | skip
  obtain ⟨cs, g, h1, h2, h3, h4, h5, h6, h7⟩ := o
  exact .inr ⟨g, h4, cs, h1, h2, h3, h6, h7⟩
theorem Grp.own {g : Nat} {h : H} (wf : h.Wf) {v : AV} (a : Grp g h v) {N : Nat} (hN : N ≤ g) : Own N h v := by
  cases v <;> first | exact a.elim | skip
  obtain ⟨cs, h1, h2, h3, h4, h5⟩ := a
  exact ⟨cs, g, h1, h2, h3, hN, Nat.le_trans hN (wf.mem _ _ _ h1).1, h4, h5⟩
theorem Grp.lt {g : Nat} {h : H} (wf : h.Wf) {v : AV} (a : Grp g h v) : g < h.n := by
  cases v <;> first | exact a.elim | skip
  obtain ⟨cs, h1, h2, h3, h4, cs', h5⟩ := a
  exact wf.ob _ _ h5
theorem Grp.slot {gs : List Nat} {g : Nat} {h : H} (wf : h.Wf) {v : AV} (a : Grp g h v) (hg : g ∉ gs) (hgs : ∀ x ∈ gs, ∀ cs, h.get x ≠ some (.cells cs (some g))) : Slot (Apart gs h) h v := by
  cases v <;> first | exact a.elim | skip
  obtain ⟨cs, h1, h2, h3, h4, cs', h5⟩ := a
  refine ⟨⟨wf.ob _ _ h1, fun hm => hgs _ hm _ h1, fun cs1 g1 e => ?_⟩, fun cs1 g1 e => ?_⟩
  · rw [h1] at e; cases e; exact hg
  · rw [h1] at e; cases e
    refine ⟨wf.ob _ _ h5, hg, fun cs2 g2 e2 => ?_⟩
    rw [h5] at e2; cases e2; exact hg
theorem Grp.keep {g : Nat} {K : Nat → Prop} {h h' : H} {v : AV} (a : Grp g h v) (s : Slot K h v) (k : Keep K h h') : Grp g h' v := by
  cases v <;> first | exact a | skip
  obtain ⟨cs, h1, h2, h3, h4, cs', h5⟩ := a
  have kg := s.2 cs g h1
  exact ⟨cs, by rw [k.get _ s.1]; exact h1, by rw [k.tip _ kg]; exact h2, by rw [k.kill _ kg]; exact h3, h4, cs', by rw [k.get _ kg]; exact h5⟩

/-- a row that is its own group, and its cells -/
structure Box (r : Nat) (cs : List AV) (h : H) : Prop where
  get : h.get r = some (.cells cs (some r))
  tip : h.tip r = r
  live : h.kill r ≤ r
theorem Box.new {h : H} (wf : h.Wf) (vs : List AV) : Box h.n vs (h.new vs) :=
  ⟨get_new h vs, by rw [show (h.new vs).tip h.n = h.tip h.n from rfl, wf.tip_new], by rw [show (h.new vs).kill h.n = h.kill h.n from rfl, wf.kill_new]; exact Nat.zero_le _⟩
theorem Box.lt {r : Nat} {cs : List AV} {h : H} (wf : h.Wf) (b : Box r cs h) : r < h.n := wf.ob _ _ b.get
theorem Box.apart {r : Nat} {cs : List AV} {h : H} (wf : h.Wf) (b : Box r cs h) {gs : List Nat} (hr : r ∉ gs) : Apart gs h r :=
  ⟨b.lt wf, hr, fun cs' g e => by rw [b.get] at e; cases e; exact hr⟩
theorem Box.keep {r : Nat} {cs : List AV} {h h' : H} (b : Box r cs h) {K : Nat → Prop} (k : Keep K h h') (hr : K r) : Box r cs h' :=
  ⟨by rw [k.get _ hr]; exact b.get, by rw [k.tip _ hr]; exact b.tip, by rw [k.kill _ hr]; exact b.live⟩
theorem Box.keepA {r : Nat} {cs : List AV} {h h' : H} (b : Box r cs h) (wf : h.Wf) {gs : List Nat} (k : KeepA gs h h') (hr : r ∉ gs) : Box r cs h' := b.keep k (b.apart wf hr)
theorem Box.row {r : Nat} {cs : List AV} {h : H} (b : Box r cs h) : h.row r = some cs := by
  unfold H.row; rw [b.get]; simp only; rw [if_pos b.live]
theorem Box.load {r : Nat} {cs : List AV} {h : H} (b : Box r cs h) (n i : Nat) : loadA h false n (.ptr r i) = cs[i]? := by
  simp only [loadA, b.row, Bool.false_eq_true, if_false]
theorem Box.loadAgg {r : Nat} {cs : List AV} {h : H} (b : Box r cs h) {n : Nat} (hn : cs.length = n) : loadA h true n (.ptr r 0) = some (.agg cs) := by
  simp only [loadA, b.row, if_true]
  rw [if_pos (by omega)]
  simp [← hn]
theorem splice_all {cs vs : List AV} (hl : vs.length = cs.length) : splice cs 0 vs = vs := by simp [splice, hl]
theorem Box.put {r : Nat} {cs : List AV} {h : H} (wf : h.Wf) (b : Box r cs h) {i n : Nat} {v : AV} (hn : v.cells.length = n) (h1 : v.cells.all AV.one = true) (hi : i + n ≤ cs.length) :
    ∃ h', storeA h n (.ptr r i) v = some h' ∧ Box r (splice cs i v.cells) h' ∧ KeepA [r] h h' := by
  have hrn := b.lt wf
  refine ⟨{ h with ob := h.ob.set r (.cells (splice cs i v.cells) (some r)) }, ?_, ⟨?_, b.tip, b.live⟩, ?_⟩
  · simp only [storeA]
    rw [if_pos ⟨hn, h1⟩]
    simp only [H.put, b.get]
    rw [if_pos ⟨b.tip, by omega⟩, if_pos trivial]
  · show (h.ob.set r _).get r = _
    rw [Tr.get_set, if_pos rfl]
  · have hg : ∀ j, (h.ob.set r (.cells (splice cs i v.cells) (some r))).get j = if j = r then some (.cells (splice cs i v.cells) (some r)) else h.get j := fun j => Tr.get_set _ _ _ _
    refine ⟨fun w => ⟨w.gr, fun o cs' g e => ?_, fun o x e => ?_, w.kt, w.tl⟩, Nat.le_refl _, fun o ho => ?_, fun _ _ => rfl, fun _ _ => rfl⟩
    · rw [show ({ h with ob := h.ob.set r (.cells (splice cs i v.cells) (some r)) } : H).get o = _ from hg o] at e
      split at e
      · rename_i e'; subst e'; cases e; exact ⟨Nat.le_refl _, Nat.le_of_eq b.tip.symm⟩
      · exact w.mem o cs' g e
    · rw [show ({ h with ob := h.ob.set r (.cells (splice cs i v.cells) (some r)) } : H).get o = _ from hg o] at e
      split at e
      · rename_i e'; subst e'; exact hrn
      · exact w.ob o x e
    · rw [show ({ h with ob := h.ob.set r (.cells (splice cs i v.cells) (some r)) } : H).get o = _ from hg o, if_neg]
      rintro rfl
      exact ho.2.1 (by simp)

/-- a group's first row -/
def Root (g : Nat) (h : H) : Prop := ∃ cs, h.get g = some (.cells cs (some g))
theorem Box.root {r : Nat} {cs : List AV} {h : H} (b : Box r cs h) : Root r h := ⟨cs, b.get⟩
theorem Grp.root {g : Nat} {h : H} {v : AV} (a : Grp g h v) : Root g h := by
  cases v <;> first | exact a.elim | skip
  obtain ⟨cs, h1, h2, h3, h4, h5⟩ := a
  exact h5
theorem Grp.away {gs : List Nat} {g : Nat} {h : H} (wf : h.Wf) {v : AV} (a : Grp g h v) (hg : g ∉ gs) (hr : ∀ x ∈ gs, Root x h) : Slot (Apart gs h) h v := by
  refine a.slot wf hg fun x hx cs e => ?_
  obtain ⟨cs', e'⟩ := hr x hx
  rw [e] at e'; cases e'
  exact hg hx
theorem Root.keep {g : Nat} {h h' : H} (a : Root g h) {K : Nat → Prop} (k : Keep K h h') (hg : K g) : Root g h' := by
  obtain ⟨cs, e⟩ := a
  exact ⟨cs, by rw [k.get _ hg]; exact e⟩
theorem Root.apart {g : Nat} {h : H} (wf : h.Wf) (a : Root g h) {gs : List Nat} (hg : g ∉ gs) : Apart gs h g := by
  obtain ⟨cs, e⟩ := a
  exact ⟨wf.ob _ _ e, hg, fun cs' g' e' => by rw [e] at e'; cases e'; exact hg⟩

/-- an append behind a slice of one's own: its group alone -/
theorem app_grp {g : Nat} {h : H} (wf : h.Wf) {v : AV} {es n k : Nat} {cs new : List AV} (a : Sl h es v n cs) (o : Grp g h v) (hl : new.length = k * es) (hone : new.all AV.one = true) (hbig : n + k < 4294967296) :
    ∃ v' h', h.app v es k new = some (v', h') ∧ Sl h' es v' (n + k) (cs ++ new) ∧ Grp g h' v' ∧ KeepA [g] h h' := by
  by_cases hk : k = 0
  · subst hk
    have : new = [] := by cases new <;> simp at hl ⊢
    subst this
    refine ⟨v, h, ?_, by simpa using a, o, Keep.refl _ _⟩
    obtain ⟨h1, h2⟩ := a
    cases v <;> simp only [lenSA] at h1 <;> (try (cases h1; done))
    case nils => exact o.elim
    case slice o i len es' =>
      cases h1
      simp only [H.firstCells] at h2
      split at h2
      · rename_i hc; simp [H.app, hc.1]
      · cases h2
  · cases v <;> simp only [Grp] at o <;> (try exact o.elim)
    case slice o' i len es' =>
      obtain ⟨row, h1, h2, h3, h6, rt, hrt⟩ := o
      obtain ⟨a1, a2⟩ := a
      cases a1
      have hrow : h.row o' = some row := by unfold H.row; rw [h1]; simp only; rw [if_pos h3]
      simp only [H.firstCells] at a2
      split at a2
      case isFalse => cases a2
      rename_i hc
      obtain ⟨rfl, _⟩ := hc
      rw [hrow] at a2
      simp only at a2
      rw [if_pos h6] at a2
      cases a2
      have hon := wf.ob _ _ h1
      have C := H.child_to ((row.drop i).take (n * es') ++ new) h1 h2 h3 h6 hon
      have hlive : (h.child o' g (i + n * es') row ((row.drop i).take (n * es') ++ new)).kill g ≤ h.n := by
        rcases C.killg with ⟨_, e⟩ | e
        · rw [e]; omega
        · rw [e]; omega
      have hget : (h.child o' g (i + n * es') row ((row.drop i).take (n * es') ++ new)).get h.n = some (.cells ((row.drop i).take (n * es') ++ new) (some g)) := by rw [C.get, if_pos rfl]
      have hroot : ∃ cs', (h.child o' g (i + n * es') row ((row.drop i).take (n * es') ++ new)).get g = some (.cells cs' (some g)) := by
        rw [C.get, if_neg (Nat.ne_of_lt (wf.ob _ _ hrt))]
        split
        · exact ⟨_, rfl⟩
        · exact ⟨_, hrt⟩
      have hlen : ((row.drop i).take (n * es') ++ new).length = (n + k) * es' := by
        rw [List.length_append, hl, Nat.add_mul]; simp; omega
      refine ⟨.slice h.n 0 (n + k) es', _, ?_, ⟨rfl, ?_⟩, ⟨_, hget, C.tipg, hlive, by omega, hroot⟩, ⟨C.wf, by rw [C.n]; omega, ?_, ?_, ?_⟩⟩
      · simp only [H.app, if_neg hk, h1]
        rw [if_pos ⟨h2, trivial, h6, hbig, h3, hone⟩]
      · simp only [H.firstCells]
        rw [if_pos ⟨trivial, Nat.le_refl _⟩]
        have : (h.child o' g (i + n * es') row ((row.drop i).take (n * es') ++ new)).row h.n = some ((row.drop i).take (n * es') ++ new) := by
          unfold H.row; rw [hget]; simp only; rw [if_pos hlive]
        rw [this]
        simp only [Nat.zero_add, List.drop_zero]
        rw [if_pos (by omega), ← hlen, List.take_length]
      · intro j hj
        rw [C.get, if_neg (Nat.ne_of_lt hj.1), if_neg]
        rintro rfl
        exact hj.2.2 _ _ h1 (by simp)
      · intro j hj; exact C.tipo j (fun e => hj.2.1 (by simp [e]))
      · intro j hj; exact C.kill j (fun e => hj.2.1 (by simp [e]))
theorem append_grp {g : Nat} {h : H} (wf : h.Wf) {v y : AV} {es n k : Nat} {cs new : List AV} (a : Sl h es v n cs) (o : Grp g h v) (b : Sl h es y k new) (hone : new.all AV.one = true) (hbig : n + k < 4294967296) :
    ∃ v' h', appendA h es v y = some (v', h') ∧ Sl h' es v' (n + k) (cs ++ new) ∧ Grp g h' v' ∧ KeepA [g] h h' := by
  unfold appendA
  rw [b.lenA]
  simp only [b.cells]
  exact app_grp wf a o b.size hone hbig

theorem Own.away {N : Nat} {gs : List Nat} {h : H} (wf : h.Wf) {v : AV} (o : Own N h v) (hg : ∀ x ∈ gs, x < N ∧ Root x h) : Slot (Apart gs h) h v := by
  rcases o.grp with rfl | ⟨g, hn, a⟩
  · trivial
  · exact a.away wf (fun hm => by have := (hg _ hm).1; omega) (fun x hx => (hg x hx).2)
/-! ### texts, one a cell -/
abbrev strCells (l : List (List UInt8)) : List AV := l.map AV.str
abbrev Strs (h : H) (v : AV) (l : List (List UInt8)) : Prop := Sl h 1 v l.length (strCells l)
theorem Strs.keep {K : Nat → Prop} {h h' : H} {v : AV} {s : List (List UInt8)} (a : Strs h v s) (k : Keep K h h') (sl : Slot K h v) : Strs h' v s := Sl.keep a k sl
theorem Strs.at {h : H} {v : AV} {l : List (List UInt8)} (b : Strs h v l) {i : Nat} (hi : i < l.length) (k : IntKind) : ∃ p, indexAddrA 1 v (.int k (i : Int)) = some p ∧ loadA h false 1 p = some (.str l[i]) := by
  obtain ⟨p, e1, e2⟩ := Sl.at b hi k
  refine ⟨p, e1, ?_⟩
  rw [e2]; simp [strCells, hi]
theorem strCells_one (l : List (List UInt8)) : (strCells l).all AV.one = true := by simp [strCells, AV.one]
theorem Strs.one {h : H} (wf : h.Wf) (s : List UInt8) : Strs (h.new [.str s]) (.slice h.n 0 1 1) [s] := Sl.new (n := 1) (es := 1) wf (vs := [.str s]) (by simp)
theorem Strs.nil (h : H) : Strs h .nils [] := Sl.nil h 1
theorem Strs.app {N : Nat} {h : H} (wf : h.Wf) (hN : N ≤ h.n) {v y : AV} {s t : List (List UInt8)} (a : Strs h v s) (o : Own N h v) (b : Strs h y t) (hbig : s.length + t.length < 4294967296) :
    ∃ v' h', appendA h 1 v y = some (v', h') ∧ Strs h' v' (s ++ t) ∧ Own N h' v' ∧ Keep (Old N) h h' := by
  obtain ⟨v', h', e, sl, o', k⟩ := append_own wf hN a o b (strCells_one _) hbig
  refine ⟨v', h', e, ?_, o', k⟩
  unfold Strs
  rw [List.length_append, strCells, List.map_append]
  exact sl
/-- numbers, one a cell -/
abbrev U64s (h : H) (v : AV) (l : List Nat) : Prop := Sl h 1 v l.length (l.map fun x => AV.int .u64 (x : Nat))
theorem U64s.at {h : H} {v : AV} {l : List Nat} (b : U64s h v l) {i : Nat} (hi : i < l.length) (k : IntKind) : ∃ p, indexAddrA 1 v (.int k (i : Int)) = some p ∧ loadA h false 1 p = some (.int .u64 (l[i] : Nat)) := by
  obtain ⟨p, e1, e2⟩ := Sl.at b hi k
  refine ⟨p, e1, ?_⟩
  rw [e2]; simp [hi]
end Go.Proofs.YtlbaphapjclkdaaGreatDoor.Ev

/- Arguments of a row: slices of texts. -/
namespace Go.Proofs.YtlbaphapjclkdaaGreatDoor.Ev
open Go.ChangeShapes Go.WideShapes Go.RowKit
set_option linter.unusedVariables false
set_option linter.unusedSimpArgs false

def StrRow (W : World) (a : Option Addr) (len cap : Nat) (zs : List ByteArray) : Prop :=
  (a = none ∧ len = 0 ∧ cap = 0 ∧ zs = []) ∨
  ∃ x, a = some x ∧ x.block < W.heap.size ∧ len ≤ cap ∧ cap ≤ maxLen ∧ zs.length = cap ∧ (∀ i, i < zs.length → W.cell? (x.add i) = some (.string (zs.getD i ByteArray.empty))) ∧ ∀ s ∈ zs, s.size ≤ maxLen
abbrev bytesL (s : ByteArray) : List UInt8 := s.data.toList
theorem StrRow.size {W : World} {a : Option Addr} {len cap : Nat} {zs : List ByteArray} (w : StrRow W a len cap zs) : ∀ s ∈ zs, (bytesL s).length ≤ maxLen := by
  rcases w with ⟨_, _, _, rfl⟩ | ⟨x, _, _, _, _, _, _, h⟩
  · intro n hn; cases hn
  · intro s hs
    have := h s hs
    rw [Array.length_toList]
    exact this
theorem StrRow.len {W : World} {a : Option Addr} {len cap : Nat} {zs : List ByteArray} (w : StrRow W a len cap zs) : len ≤ zs.length := by
  rcases w with ⟨_, h, _, rfl⟩ | ⟨x, _, _, h, _, h2, _, _⟩
  · rw [h]; exact Nat.zero_le _
  · omega

theorem open_strs_arg {P : Program} {m : M} {h : H} {W : World} {a : Option Addr} {len cap : Nat} {zs : List ByteArray} (r : Rel P W.heap.size m h W) (w : StrRow W a len cap zs) :
    ∃ m' h' v, Rel P W.heap.size m' h' W ∧ M.le m m' ∧ Keep (Old h.n) h h' ∧ VRel m' v (.slice a len cap) ∧ Sl h' 1 v len ((zs.take len).map (fun s => AV.str (bytesL s))) ∧ Slot (Old h'.n) h' v := by
  have q : ArgRow W.heap.size m W 1 a len cap (zs.map (fun s => AV.str (bytesL s))) := by
    rcases w with ⟨h1, h2, h3, rfl⟩ | ⟨x, h1, h2, h3, h4, h5, h6, h7⟩
    · exact .inl ⟨h1, h2, h3, rfl⟩
    · refine .inr ⟨x, h1, h2, h3, by simpa using h5, fun i u hu => ?_⟩
      rw [List.getElem?_map] at hu
      obtain ⟨z, hz, rfl⟩ := Option.map_eq_some_iff.1 hu
      have hi := (List.getElem?_eq_some_iff.1 hz).1
      refine ⟨_, h6 i hi, ?_⟩
      rw [List.getD_eq_getElem?_getD, hz]
      exact VRel.of_string z
  obtain ⟨m', h', v, r1, l1, k1, v1, s1, t1⟩ := open_arg r (by decide) q
  refine ⟨m', h', v, r1, l1, k1, v1, ?_, t1⟩
  rw [Nat.mul_one, ← List.map_take] at s1
  exact s1

theorem sized_strs {H : Type} {enc : TypeId × Value → H} {P : Program} {W : World} {base : Nat} {spare : Nat → Bool} {held : Bool} {t e : TypeId} {a : Option Addr} {len cap : Nat} {d : DataW H} {ps : List MemPlace} {ts : List TypeId} {ds : List (DataW H)} {j : Nat}
    (hsz : (DataW.weightsEach P ts ds).all (· ≤ reachBytes) = true) (ht : ts[j]? = some t) (hd : ds[j]? = some d) (hu : P.underlying t = some (.slice e)) (he : P.underlying e = some .string) (hc : P.cellsOf e = 1) {B : Nat} (hB : P.bytesOf e = B)
    (h : DataW.Trod enc P W base spare held t (.slice a len cap) d ps) : len * B ≤ 140737488351232 := by
  obtain ⟨fuel, hf⟩ := h
  rcases open_strings hu he hc hf with ⟨hcs, _⟩ | ⟨x, l, c, zs, hcs, _, hl, _, hz, hx, _, _⟩
  · simp only [Value.cells, List.cons.injEq, Value.slice.injEq, and_true] at hcs
    rw [hcs.2.1, Nat.zero_mul]
    exact Nat.zero_le _
  · simp only [Value.cells, List.cons.injEq, Value.slice.injEq, and_true] at hcs
    obtain ⟨_, rfl, rfl⟩ := hcs
    obtain ⟨rfl, _⟩ := Prod.mk.inj hx
    have z := sized_slice hsz ht hd hu
    have hle : len ≤ zs.length := by rw [hz]; split <;> omega
    have hcount : (strs (H := H) (zs.take len)).length + (strs (H := H) (zs.drop len)).length = zs.length := by simp [strs]; omega
    rw [hB, hcount] at z
    exact Nat.le_trans (Nat.mul_le_mul_right _ hle) z
/-- a row's texts -/
theorem strs_arg {h : H} {x : AV} {len : Nat} {z : List ByteArray} (w : ∀ s ∈ z, (bytesL s).length ≤ maxLen) (s : Sl h 1 x len ((z.take len).map (fun s => AV.str (bytesL s)))) :
    ∃ l : List (List UInt8), Strs h x l ∧ l.length = len ∧ ∀ t ∈ l, t.length ≤ maxLen := by
  have hs := s.size
  rw [List.length_map] at hs
  have hl : ((z.take len).map bytesL).length = len := by rw [List.length_map]; omega
  refine ⟨(z.take len).map bytesL, ?_, hl, fun t ht => ?_⟩
  · unfold Strs
    rw [hl]
    have : strCells ((z.take len).map bytesL) = (z.take len).map (fun s => AV.str (bytesL s)) := by rw [strCells, List.map_map]; rfl
    rw [this]; exact s
  · obtain ⟨u, hu, rfl⟩ := List.mem_map.1 ht
    exact w u (List.mem_of_mem_take hu)
theorem u64s_arg {h : H} {x : AV} {len : Nat} {z : List Int} (w : ∀ n ∈ z, (Lit.int .u64 n).wf = true) (s : Sl h 1 x len ((z.take len).map (AV.int .u64))) :
    ∃ l : List Nat, U64s h x l ∧ l.length = len ∧ ∀ t ∈ l, t < 18446744073709551616 := by
  have hs := s.size
  rw [List.length_map] at hs
  have hl : ((z.take len).map Int.toNat).length = len := by rw [List.length_map]; omega
  refine ⟨(z.take len).map Int.toNat, ?_, hl, fun t ht => ?_⟩
  · unfold U64s
    rw [hl]
    have : ((z.take len).map Int.toNat).map (fun x => AV.int .u64 (x : Nat)) = (z.take len).map (AV.int .u64) := by
      rw [List.map_map]
      refine List.map_congr_left fun n hn => ?_
      obtain ⟨y, e, _⟩ := u64_arg (w n (List.mem_of_mem_take hn))
      subst e
      simp
    rw [this]; exact s
  · obtain ⟨u, hu, rfl⟩ := List.mem_map.1 ht
    obtain ⟨y, e, hy⟩ := u64_arg (w u (List.mem_of_mem_take hu))
    subst e
    simpa using hy
theorem i8_arg {a : Int} (w : (Lit.int .i8 a).wf = true) : -128 ≤ a ∧ a ≤ 127 := by
  simp only [Lit.wf, IntKind.min, IntKind.max] at w
  revert w
  simp [IntKind.signed, IntKind.bits]
theorem u16_arg {a : Int} (w : (Lit.int .u16 a).wf = true) : 0 ≤ a ∧ a < 65536 := by
  simp only [Lit.wf, IntKind.min, IntKind.max] at w
  revert w
  simp [IntKind.signed, IntKind.bits]
  omega
end Go.Proofs.YtlbaphapjclkdaaGreatDoor.Ev

/- Texts cut and looked at, one byte as a text, results that stand in cells. -/
namespace Go.Proofs.YtlbaphapjclkdaaGreatDoor.Ev
set_option linter.unusedVariables false
set_option linter.unusedSimpArgs false
@[go_sem] theorem res_tc (s : S) (h : H) (t u n : Nat) (agg : Bool) : resultsA [.tmp t, .cell u agg n] s h = (loadA h agg n (s u)).map fun v => .tup [s t, v] := by
  simp only [resultsA, resultsL, result1]
  cases loadA h agg n (s u) <;> rfl
@[go_sem] theorem res_c (s : S) (h : H) (u n : Nat) (agg : Bool) : resultsA [.cell u agg n] s h = loadA h agg n (s u) := by
  simp only [resultsA, resultsL, result1]
  cases loadA h agg n (s u) <;> rfl
theorem indexStr_at {t : List UInt8} {i : Nat} (hi : i < t.length) (k : IntKind) : indexStrA (.str t) (.int k (i : Int)) = some (.int .u8 (t[i].toNat : Int)) := by
  simp only [indexStrA]
  rw [if_pos (by omega), Int.toNat_natCast, List.getElem?_eq_getElem hi]
  rfl
theorem sliceT_to {t : List UInt8} {k : Nat} (hk : k ≤ t.length) (kd : IntKind) : sliceTA none (some (.int kd (k : Int))) (.str t) = some (.str (t.take k)) := by
  simp only [sliceTA, bounds_to hk, Option.map_some, List.drop_zero, Nat.sub_zero]
theorem sliceT_from {t : List UInt8} {k : Nat} (hk : k ≤ t.length) (kd : IntKind) : sliceTA (some (.int kd (k : Int))) none (.str t) = some (.str (t.drop k)) := by
  simp only [sliceTA, bounds_from hk, Option.map_some]
  rw [List.take_of_length_le (by simp)]
theorem byte_new {h : H} (wf : h.Wf) (c : UInt8) : Bytes (h.new [.int .u8 (c.toNat : Int)]) (.slice h.n 0 1 1) [c] := Sl.new (n := 1) (es := 1) wf (vs := byteCells [c]) (by simp [byteCells])
theorem Box.putAll {r : Nat} {cs vs : List AV} {h : H} (wf : h.Wf) (b : Box r cs h) {n : Nat} (hn : vs.length = n) (h1 : vs.all AV.one = true) (hi : n = cs.length) :
    ∃ h', storeA h n (.ptr r 0) (.agg vs) = some h' ∧ Box r vs h' ∧ KeepA [r] h h' := by
  obtain ⟨h', e, b', k⟩ := b.put wf (i := 0) (n := n) (v := .agg vs) hn h1 (by omega)
  refine ⟨h', e, ?_, k⟩
  rw [splice_all (by show vs.length = _; omega)] at b'
  exact b'
theorem KeepA.newbox {h h' : H} {r N : Nat} (k : KeepA [r] h h') (wf : h.Wf) (hN : N ≤ h.n) (hr : N ≤ r) : Keep (Old N) h h' := k.old wf hN (by simpa using hr)
theorem wrapN {n : Nat} (h : n < 18446744073709551616) : IntKind.u64.wrap (n : Int) = (n : Int) := wrap_u64 (Int.natCast_nonneg _) (by omega)
theorem wrapI {n : Nat} (h : n < 9223372036854775808) : IntKind.i64.wrap (n : Int) = (n : Int) := wrap_i64 (by have := Int.natCast_nonneg n; omega) (by omega)
end Go.Proofs.YtlbaphapjclkdaaGreatDoor.Ev

/- Slices of one's own out of one stretch of time, appended to later: all that was made ahead of it or behind it stays. -/
namespace Go.Proofs.YtlbaphapjclkdaaGreatDoor.Ev
set_option linter.unusedVariables false
set_option linter.unusedSimpArgs false
/-- rows whose group was not made between these -/
def Mid (N M : Nat) (h : H) : Nat → Prop := fun j => j < h.n ∧ ¬ (N ≤ j ∧ j < M) ∧ ∀ cs g, h.get j = some (.cells cs (some g)) → ¬ (N ≤ g ∧ g < M)
structure OwnS (N M : Nat) (h : H) (v : AV) : Prop where
  own : v = .nils ∨ ∃ g, N ≤ g ∧ g < M ∧ Grp g h v
  slot : Slot (Old M) h v
theorem Own.phase {N : Nat} {h : H} (wf : h.Wf) {v : AV} (o : Own N h v) : OwnS N h.n h v := by
  refine ⟨?_, o.slot wf⟩
  rcases o.grp with rfl | ⟨g, hn, a⟩
  · exact .inl rfl
  · exact .inr ⟨g, hn, a.lt wf, a⟩
theorem OwnS.keep {N M : Nat} {h h' : H} {v : AV} (o : OwnS N M h v) (k : Keep (Old M) h h') : OwnS N M h' v := by
  refine ⟨?_, o.slot.keep k fun o ho => ho⟩
  rcases o.own with rfl | ⟨g, h1, h2, a⟩
  · exact .inl rfl
  · exact .inr ⟨g, h1, h2, a.keep o.slot k⟩
theorem Mid.old {N M : Nat} {h : H} (wf : h.Wf) {j : Nat} (hj : j < N) (hN : N ≤ h.n) : Mid N M h j :=
  ⟨by omega, by omega, fun cs g e => by have := (wf.mem _ _ _ e).1; omega⟩
theorem Box.mid {N M r : Nat} {cs : List AV} {h : H} (wf : h.Wf) (b : Box r cs h) (hr : ¬ (N ≤ r ∧ r < M)) : Mid N M h r :=
  ⟨b.lt wf, hr, fun cs' g e => by rw [b.get] at e; cases e; exact hr⟩
theorem Own.mid {N M : Nat} {h : H} (wf : h.Wf) {v : AV} (o : Own M h v) : Slot (Mid N M h) h v := by
  cases v <;> first | trivial | exact o.elim | skip
  obtain ⟨cs, g, h1, h2, h3, h4, h5, h6, cs', h7⟩ := o
  refine ⟨⟨wf.ob _ _ h1, by omega, fun cs1 g1 e => ?_⟩, fun cs1 g1 e => ?_⟩
  · rw [h1] at e; cases e; omega
  · rw [h1] at e; cases e
    refine ⟨wf.ob _ _ h7, by omega, fun cs2 g2 e2 => ?_⟩
    rw [h7] at e2; cases e2; omega
theorem append_mid {N M : Nat} {h : H} (wf : h.Wf) (hN : N ≤ h.n) {v y : AV} {es n k : Nat} {cs new : List AV} (a : Sl h es v n cs) (o : OwnS N M h v) (b : Sl h es y k new) (hone : new.all AV.one = true) (hbig : n + k < 4294967296) :
    ∃ v' h', appendA h es v y = some (v', h') ∧ Sl h' es v' (n + k) (cs ++ new) ∧ Own N h' v' ∧ Keep (Mid N M h) h h' := by
  rcases o.own with rfl | ⟨g, h1, h2, gg⟩
  · obtain ⟨v', h', e, s, o', k'⟩ := append_own wf (Nat.le_refl _) a (by trivial) b hone hbig
    exact ⟨v', h', e, s, o'.less hN, k'.weaken fun j hj => hj.1⟩
  · obtain ⟨v', h', e, s, o', k'⟩ := append_grp wf a gg b hone hbig
    refine ⟨v', h', e, s, o'.own (k'.wf wf) h1, k'.weaken fun j hj => ⟨hj.1, fun hm => ?_, fun cs' g' e' hm => ?_⟩⟩
    · simp at hm; subst hm; exact hj.2.1 ⟨h1, h2⟩
    · simp at hm; subst hm; exact hj.2.2 _ _ e' ⟨h1, h2⟩
theorem Bytes.appMid {N M : Nat} {h : H} (wf : h.Wf) (hN : N ≤ h.n) {v y : AV} {s t : List UInt8} (a : Bytes h v s) (o : OwnS N M h v) (b : Bytes h y t) (hbig : s.length + t.length < 4294967296) :
    ∃ v' h', appendA h 1 v y = some (v', h') ∧ Bytes h' v' (s ++ t) ∧ Own N h' v' ∧ Keep (Mid N M h) h h' := by
  obtain ⟨v', h', e, sl, o', k⟩ := append_mid wf hN a o b (byteCells_one _) hbig
  refine ⟨v', h', e, ?_, o', k⟩
  unfold Bytes
  rw [List.length_append, byteCells_append]
  exact sl
theorem Keep.midOld {N M : Nat} {h h' : H} (wf : h.Wf) (hN : N ≤ h.n) (k : Keep (Mid N M h) h h') : Keep (Old N) h h' := k.weaken fun j hj => Mid.old wf hj hN
theorem Box.strs {r : Nat} {s : List UInt8} {h : H} (b : Box r [.str s] h) : Strs h (.slice r 0 1 1) [s] := by
  refine ⟨rfl, ?_⟩
  simp only [H.firstCells, b.row]
  rfl
theorem Box.slot {r : Nat} {cs : List AV} {h : H} (wf : h.Wf) (b : Box r cs h) (i len es : Nat) : Slot (Old h.n) h (.slice r i len es) :=
  ⟨b.lt wf, fun cs' g e => by rw [b.get] at e; cases e; exact b.lt wf⟩
@[go_sem] theorem res_ct (s : S) (h : H) (t u n : Nat) (agg : Bool) : resultsA [.cell u agg n, .tmp t] s h = (loadA h agg n (s u)).map fun v => .tup [v, s t] := by
  simp only [resultsA, resultsL, result1]
  cases loadA h agg n (s u) <;> rfl
theorem Box.bytes {r : Nat} {t : List UInt8} {h : H} (b : Box r (byteCells t) h) : Bytes h (.slice r 0 t.length 1) t := by
  refine ⟨rfl, ?_⟩
  simp only [H.firstCells, b.row]
  rw [if_pos ⟨trivial, Nat.le_refl _⟩, if_pos (by simp [byteCells])]
  simp only [List.drop_zero, Nat.mul_one]
  rw [List.take_of_length_le (by simp [byteCells])]
end Go.Proofs.YtlbaphapjclkdaaGreatDoor.Ev

/- A struct of six cells among the arguments of a row. -/
namespace Go.Proofs.YtlbaphapjclkdaaGreatDoor.Ev
open Go.ChangeShapes Go.WideShapes Go.RowKit Go.Deep Go.Joins
set_option linter.unusedVariables false
set_option linter.unusedSimpArgs false
theorem arr6 {α : Type} {cs : Array α} (h : cs.size = 6) : ∃ c0 c1 c2 c3 c4 c5, cs = #[c0, c1, c2, c3, c4, c5] := by
  obtain ⟨l⟩ := cs
  match l, h with
  | [c0, c1, c2, c3, c4, c5], _ => exact ⟨c0, c1, c2, c3, c4, c5, rfl⟩
section
variable {H : Type} {enc : TypeId × Value → H} {P : Program} {w : World} {base : Nat} {spare : Nat → Bool} {held : Bool}
theorem trod_str6 {t : TypeId} {f0 f1 f2 f3 f4 f5 : Field} {fuel : Nat} {cs : List Value} {x : DataW H × List MemPlace} (ht : P.underlying t = some (.struct #[f0, f1, f2, f3, f4, f5])) (h : DataW.trod enc P w base spare held fuel t cs = some x) :
    ∃ y0 y1 y2 y3 y4 y5 n, x = (.agg [y0.1, y1.1, y2.1, y3.1, y4.1, y5.1], y0.2 ++ (y1.2 ++ (y2.2 ++ (y3.2 ++ (y4.2 ++ y5.2))))) ∧ DataW.trod enc P w base spare held n f0.type ((cs.drop f0.offset).take (P.cellsOf f0.type)) = some y0 ∧
      DataW.trod enc P w base spare held n f1.type ((cs.drop f1.offset).take (P.cellsOf f1.type)) = some y1 ∧ DataW.trod enc P w base spare held n f2.type ((cs.drop f2.offset).take (P.cellsOf f2.type)) = some y2 ∧
      DataW.trod enc P w base spare held n f3.type ((cs.drop f3.offset).take (P.cellsOf f3.type)) = some y3 ∧ DataW.trod enc P w base spare held n f4.type ((cs.drop f4.offset).take (P.cellsOf f4.type)) = some y4 ∧
      DataW.trod enc P w base spare held n f5.type ((cs.drop f5.offset).take (P.cellsOf f5.type)) = some y5 := by
  obtain ⟨xs, n, _, rfl, hl, hlen, hf⟩ := DataW.trod_struct ht h
  match xs, hlen with
  | [y0, y1, y2, y3, y4, y5], _ => exact ⟨y0, y1, y2, y3, y4, y5, n, by simp, by simpa using hf 0 f0 rfl, by simpa using hf 1 f1 rfl, by simpa using hf 2 f2 rfl, by simpa using hf 3 f3 rfl, by simpa using hf 4 f4 rfl, by simpa using hf 5 f5 rfl⟩
theorem open_agg6 {r : Reach} {b0 : Nat} {t t0 t1 t2 t3 t4 t5 : TypeId} {f0 f1 f2 f3 f4 f5 : Field} {v : Value} {d : DataW H} {p : List MemPlace} (hs : P.underlying t = some (.struct #[f0, f1, f2, f3, f4, f5]))
    (hone : oneCellFields P #[f0, f1, f2, f3, f4, f5] = true) (hC : P.cellsOf t = 6) (hts : P.cellTypes P.depth t = some [t0, t1, t2, t3, t4, t5])
    (hv : Value.okWide P w r b0 t v) (h : DataW.Trod enc P w base spare held t v d p) :
    ∃ (v0 v1 v2 v3 v4 v5 : Value) (y0 y1 y2 y3 y4 y5 : DataW H × List MemPlace) (n : Nat), v = .agg #[v0, v1, v2, v3, v4, v5] ∧
      DataW.trod enc P w base spare held n f0.type [v0] = some y0 ∧ DataW.trod enc P w base spare held n f1.type [v1] = some y1 ∧ DataW.trod enc P w base spare held n f2.type [v2] = some y2 ∧ DataW.trod enc P w base spare held n f3.type [v3] = some y3 ∧
      DataW.trod enc P w base spare held n f4.type [v4] = some y4 ∧ DataW.trod enc P w base spare held n f5.type [v5] = some y5 ∧ Cell.okWide P w r b0 t4 v4 ∧ Cell.okWide P w r b0 t5 v5 := by
  have hv0 := hv
  simp only [Value.okWide, hs] at hv
  obtain ⟨cs, rfl, hsz, ts, hts', _, hcells⟩ := hv
  rw [hts] at hts'
  cases hts'
  obtain ⟨c0, c1, c2, c3, c4, c5, rfl⟩ := arr6 (hsz.trans hC)
  obtain ⟨fuel, hf⟩ := h
  obtain ⟨y0, y1, y2, y3, y4, y5, n, hx, h0, h1, h2, h3, h4, h5⟩ := trod_str6 hs hf
  obtain ⟨o0, k0⟩ := hone_of hone 0 f0 rfl
  obtain ⟨o1, k1⟩ := hone_of hone 1 f1 rfl
  obtain ⟨o2, k2⟩ := hone_of hone 2 f2 rfl
  obtain ⟨o3, k3⟩ := hone_of hone 3 f3 rfl
  obtain ⟨o4, k4⟩ := hone_of hone 4 f4 rfl
  obtain ⟨o5, k5⟩ := hone_of hone 5 f5 rfl
  obtain ⟨u4, e4, q4⟩ := hcells 4 c4 rfl
  obtain ⟨u5, e5, q5⟩ := hcells 5 c5 rfl
  cases e4
  cases e5
  exact ⟨c0, c1, c2, c3, c4, c5, y0, y1, y2, y3, y4, y5, n, rfl, by simpa [Value.cells, o0, k0] using h0, by simpa [Value.cells, o1, k1] using h1, by simpa [Value.cells, o2, k2] using h2, by simpa [Value.cells, o3, k3] using h3,
    by simpa [Value.cells, o4, k4] using h4, by simpa [Value.cells, o5, k5] using h5, q4, q5⟩
theorem cell_block {r : Reach} {b0 : Nat} {t e : TypeId} {x : Addr} {l c : Nat} (ht : P.underlying t = some (.slice e)) (h : Cell.okWide P w r b0 t (.slice (some x) l c)) : x.block < w.heap.size := by
  refine okWide_block (base := b0) (r := r) (l := l) (c := c) ht ?_
  simp only [Value.okWide, ht]
  exact h
end
theorem StrRow.lenLe {W : World} {a : Option Addr} {len cap : Nat} {zs : List ByteArray} (w : StrRow W a len cap zs) : len ≤ maxLen := by
  rcases w with ⟨_, h, _, _⟩ | ⟨x, _, _, h, h2, _⟩
  · omega
  · omega
theorem IntRow.lenLe {W : World} {k : IntKind} {a : Option Addr} {len cap : Nat} {zs : List Int} (w : IntRow W k a len cap zs) : len ≤ maxLen := by
  rcases w with ⟨_, h, _, _⟩ | ⟨x, _, _, h, h2, _⟩
  · omega
  · omega
theorem i64_arg {a : Int} (w : (Lit.int .i64 a).wf = true) : -9223372036854775808 ≤ a ∧ a < 9223372036854775808 := by
  simp only [Lit.wf, IntKind.min, IntKind.max] at w
  revert w
  simp [IntKind.signed, IntKind.bits]
  omega
theorem u8_arg {a : Int} (w : (Lit.int .u8 a).wf = true) : 0 ≤ a ∧ a < 256 := by
  simp only [Lit.wf, IntKind.min, IntKind.max] at w
  revert w
  simp [IntKind.signed, IntKind.bits]
  omega
end Go.Proofs.YtlbaphapjclkdaaGreatDoor.Ev

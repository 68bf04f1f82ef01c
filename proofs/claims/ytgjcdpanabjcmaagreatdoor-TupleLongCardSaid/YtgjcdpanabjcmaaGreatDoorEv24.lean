/- More single operations, for symbolic runs. -/
import Derived.Test.YtgjcdpanabjcmaaGreatDoorEv23
namespace Go.Proofs.YtgjcdpanabjcmaaGreatDoor.Ev
set_option linter.unusedVariables false
set_option linter.unusedSimpArgs false
@[go_sem] theorem eq_bool (a b : Bool) : eqA .bool (.bool a) (.bool b) = some (a == b) := id rfl
@[go_sem] theorem eq_slice_nils : eqA .slice .nils .nils = some true := id rfl
@[go_sem] theorem eq_slice_nils' (o i l e : Nat) : eqA .slice .nils (.slice o i l e) = some false := id rfl
@[go_sem] theorem eq_slice_nils'' (o i l e : Nat) : eqA .slice (.slice o i l e) .nils = some false := id rfl
@[go_sem] theorem eq_iface_nili (t : Nat) (v : AV) : eqA .iface .nili (.iface t v) = some false := id rfl
@[go_sem] theorem eq_iface_nili' (t : Nat) (v : AV) : eqA .iface (.iface t v) .nili = some false := id rfl
@[go_sem] theorem eq_ptr_nilp : eqA .ptr .nilp .nilp = some true := id rfl
@[go_sem] theorem eq_ptr_nilp' (o i : Nat) : eqA .ptr .nilp (.ptr o i) = some false := id rfl
@[go_sem] theorem eq_ptr_nilp'' (o i : Nat) : eqA .ptr (.ptr o i) .nilp = some false := id rfl
@[go_sem] theorem omap_some {α β : Type} (f : α → β) (x : α) : Option.map f (some x) = some (f x) := id rfl
@[go_sem] theorem omap_none {α β : Type} (f : α → β) : Option.map f none = none := id rfl
@[go_sem] theorem lmap_cons {α β : Type} (f : α → β) (x : α) (l : List α) : List.map f (x :: l) = f x :: List.map f l := id rfl
@[go_sem] theorem lmap_nil {α β : Type} (f : α → β) : List.map f [] = [] := id rfl
@[go_sem] theorem lapp_nil {α : Type} (l : List α) : l ++ [] = l := List.append_nil l
@[go_sem] theorem nil_lapp {α : Type} (l : List α) : [] ++ l = l := id rfl
@[go_sem] theorem lget_zero {α : Type} (x : α) (l : List α) : (x :: l)[0]? = some x := id rfl
@[go_sem] theorem lget_one {α : Type} (x y : α) (l : List α) : (x :: y :: l)[1]? = some y := id rfl
@[go_sem] theorem lget_two {α : Type} (x y z : α) (l : List α) : (x :: y :: z :: l)[2]? = some z := id rfl
@[go_sem] theorem lget_three {α : Type} (x y z w : α) (l : List α) : (x :: y :: z :: w :: l)[3]? = some w := id rfl
@[go_sem] theorem avbool_inj (a b : Bool) : (AV.bool a = AV.bool b) = (a = b) := by simp
/-! ### bytes: cut, and put together -/
theorem bounds_to {n k : Nat} (hk : k ≤ n) (kd : IntKind) : bounds n none (some (.int kd (k : Int))) = some (0, k) := by
  simp only [bounds]
  rw [if_pos ⟨by omega, by omega⟩]
  simp
theorem bounds_from {n k : Nat} (hk : k ≤ n) (kd : IntKind) : bounds n (some (.int kd (k : Int))) none = some (k, n) := by
  simp only [bounds]
  rw [if_pos ⟨by omega, by omega⟩]
  simp
theorem bounds_fromto {n a k : Nat} (ha : a ≤ k) (hk : k ≤ n) (kd kd' : IntKind) : bounds n (some (.int kd (a : Int))) (some (.int kd' (k : Int))) = some (a, k) := by
  simp only [bounds]
  rw [if_pos ⟨by omega, by omega⟩]
  simp only [Int.toNat_natCast]
  rw [if_pos ⟨by omega, by omega⟩]
theorem Bytes.keep {K : Nat → Prop} {h h' : H} {v : AV} {s : List UInt8} (a : Bytes h v s) (k : Keep K h h') (sl : Slot K h v) : Bytes h' v s := Sl.keep a k sl
theorem Bytes.part {h : H} {v : AV} {s : List UInt8} (b : Bytes h v s) {lo hi : Nat} (h1 : lo ≤ hi) (h2 : hi ≤ s.length) (hlo hhi : Option AV) (hb : bounds s.length hlo hhi = some (lo, hi)) :
    ∃ v', sliceSA 1 hlo hhi v = some v' ∧ Bytes h v' ((s.drop lo).take (hi - lo)) ∧ (∀ K, Slot K h v → Slot K h v') := by
  obtain ⟨v', e, c, k⟩ := Sl.cut b h1 h2 hlo hhi hb
  refine ⟨v', e, ?_, k⟩
  have hl : ((s.drop lo).take (hi - lo)).length = hi - lo := by simp; omega
  unfold Bytes
  rw [hl]
  have : byteCells ((s.drop lo).take (hi - lo)) = ((byteCells s).drop (lo * 1)).take ((hi - lo) * 1) := by simp [byteCells, List.map_take, List.map_drop]
  rw [this]; exact c
theorem Bytes.take {h : H} {v : AV} {s : List UInt8} (b : Bytes h v s) {k : Nat} (hk : k ≤ s.length) (kd : IntKind) :
    ∃ v', sliceSA 1 none (some (.int kd (k : Int))) v = some v' ∧ Bytes h v' (s.take k) ∧ (∀ K, Slot K h v → Slot K h v') := by
  have := b.part (Nat.zero_le _) hk _ _ (bounds_to hk kd)
  simpa using this
theorem Bytes.drop {h : H} {v : AV} {s : List UInt8} (b : Bytes h v s) {k : Nat} (hk : k ≤ s.length) (kd : IntKind) :
    ∃ v', sliceSA 1 (some (.int kd (k : Int))) none v = some v' ∧ Bytes h v' (s.drop k) ∧ (∀ K, Slot K h v → Slot K h v') := by
  have := b.part hk (Nat.le_refl _) _ _ (bounds_from hk kd)
  rw [List.take_of_length_le (by simp)] at this
  exact this
theorem Bytes.nil (h : H) : Bytes h .nils [] := Sl.nil h 1
theorem Own.nils (N : Nat) (h : H) : Own N h .nils := trivial
theorem Bytes.app {N : Nat} {h : H} (wf : h.Wf) (hN : N ≤ h.n) {v y : AV} {s t : List UInt8} (a : Bytes h v s) (o : Own N h v) (b : Bytes h y t) (hbig : s.length + t.length < 4294967296) :
    ∃ v' h', appendA h 1 v y = some (v', h') ∧ Bytes h' v' (s ++ t) ∧ Own N h' v' ∧ Keep (Old N) h h' := by
  obtain ⟨v', h', e, sl, o', k⟩ := append_own wf hN a o b (byteCells_one _) hbig
  refine ⟨v', h', e, ?_, o', k⟩
  unfold Bytes
  rw [List.length_append, byteCells_append]
  exact sl
theorem Bytes.app_str {N : Nat} {h : H} (wf : h.Wf) (hN : N ≤ h.n) {v : AV} {s t : List UInt8} (a : Bytes h v s) (o : Own N h v) (hbig : s.length + t.length < 4294967296) :
    ∃ v' h', appendA h 1 v (.str t) = some (v', h') ∧ Bytes h' v' (s ++ t) ∧ Own N h' v' ∧ Keep (Old N) h h' := by
  obtain ⟨v', h', e, sl, o', k⟩ := append_str wf hN a o hbig
  refine ⟨v', h', e, ?_, o', k⟩
  unfold Bytes
  rw [List.length_append, byteCells_append]
  exact sl
/-- a row's bytes -/
theorem bytes_arg {h : H} {x : AV} {len : Nat} {z : List Int} (w : ∀ n ∈ z, (Lit.int .u8 n).wf = true) (s : Sl h 1 x len ((z.take len).map (AV.int .u8))) : ∃ bs : List UInt8, Bytes h x bs ∧ bs.length = len := by
  have hs := s.size
  rw [List.length_map] at hs
  have e := bytes_of_ints (z.take len) (fun n hn => w n (List.mem_of_mem_take hn))
  have hl : ((z.take len).map fun n => UInt8.ofNat n.toNat).length = len := by rw [List.length_map]; omega
  refine ⟨_, ?_, hl⟩
  unfold Bytes
  rw [hl, ← e]; exact s
theorem u64_arg {a : Int} (w : (Lit.int .u64 a).wf = true) : ∃ x : Nat, a = x ∧ x < 18446744073709551616 := by
  refine ⟨a.toNat, ?_, ?_⟩ <;>
  · simp only [Lit.wf, IntKind.min, IntKind.max] at w
    revert w
    simp [IntKind.signed, IntKind.bits]
    omega
end Go.Proofs.YtgjcdpanabjcmaaGreatDoor.Ev

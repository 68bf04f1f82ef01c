/- Arguments: slices that are read alone. -/
import Derived.Test.YtgjcdpanabjcmaaGreatDoorEv20
import Derived.Test.YtgjcdpanabjcmaaGreatDoorEv19
namespace Go.Proofs.YtgjcdpanabjcmaaGreatDoor.Ev
set_option linter.unusedVariables false
set_option linter.unusedSimpArgs false

theorem H.Wf.push_ro {h : H} (wf : h.Wf) {x : AObj} (hx : ∀ cs g, x ≠ .cells cs (some g)) : (h.push x).Wf := by
  refine ⟨fun g p hg => Nat.lt_succ_of_lt (wf.gr g p hg), fun o cs' g hg => ?_, fun o y hg => ?_, wf.kt, wf.tl_push _⟩
  · rw [H.get_push] at hg
    split at hg
    · cases hg; exact absurd rfl (hx _ _)
    · exact wf.mem o cs' g hg
  · rw [H.get_push] at hg
    split at hg
    · rename_i e; subst e; exact Nat.lt_succ_self _
    · exact Nat.lt_succ_of_lt (wf.ob o y hg)
theorem Keep.push {h : H} {x : AObj} (hx : ∀ cs g, x ≠ .cells cs (some g)) : Keep (Old h.n) h (h.push x) where
  wf := fun w => w.push_ro hx
  n := Nat.le_succ _
  get := fun o ho => by rw [H.get_push, if_neg (Nat.ne_of_lt ho)]
  tip := fun _ _ => rfl
  kill := fun _ _ => rfl

section
variable {B0 : Nat} {P : Program}
/-- what is known of a slice that is an argument -/
def ArgRow (B0 : Nat) (m : M) (W : World) (es : Nat) (a : Option Addr) (len cap : Nat) (cs : List AV) : Prop :=
  (a = none ∧ len = 0 ∧ cap = 0 ∧ cs = []) ∨
  ∃ x, a = some x ∧ x.block < B0 ∧ len ≤ cap ∧ cs.length = cap * es ∧ ∀ (i : Nat) (u : AV), cs[i]? = some u → ∃ v, W.cell? (x.add i) = some v ∧ VRel m u v

theorem open_arg {m : M} {h : H} {W : World} (r : Rel P B0 m h W) {es : Nat} (hes : 0 < es) {a : Option Addr} {len cap : Nat} {cs : List AV} (q : ArgRow B0 m W es a len cap cs) :
    ∃ m' h' v, Rel P B0 m' h' W ∧ M.le m m' ∧ Keep (Old h.n) h h' ∧ VRel m' v (.slice a len cap) ∧ Sl h' es v len (cs.take (len * es)) ∧ Slot (Old h'.n) h' v := by
  rcases q with ⟨rfl, rfl, rfl, rfl⟩ | ⟨x, rfl, hx, hle, hlen, hcell⟩
  · exact ⟨m, h, .nils, r, M.le_refl m, Keep.refl _ _, .nils, by simpa using Sl.nil h es, trivial⟩
  · by_cases h0 : cap = 0
    · subst h0
      have hl0 : len = 0 := by omega
      subst hl0
      obtain ⟨r1, l1⟩ := r.pushOther (b := x.block) (base := 0) (sz := 0) hx
      refine ⟨_, _, .slice h.n 0 0 es, r1, l1, Keep.push (by intro _ _ e; cases e), .slice0 0 es x (x.block, 0, 0) (by unfold M.set; rw [if_pos rfl]), ⟨rfl, ?_⟩, ?_⟩
      · simp only [H.firstCells]
        have : (h.push .other).row h.n = none := by unfold H.row; rw [H.get_push, if_pos rfl]
        rw [this]
        simp
      · exact ⟨Nat.lt_succ_self _, fun cs g e => by rw [H.get_push, if_pos rfl] at e; cases e⟩
    · have hpos : 0 < cs.length := by rw [hlen]; exact Nat.mul_pos (by omega) hes
      obtain ⟨v0, hv0, _⟩ := hcell 0 cs[0] (by simp [hpos])
      have hspot : x.spot = none ∧ ∃ CS e fr, W.heap[x.block]? = some (.cells CS e fr) := by
        unfold World.cell? at hv0
        split at hv0
        · rename_i CS e fr hb
          split at hv0
          · cases hv0
          · rename_i hs
            refine ⟨by simpa [Addr.add] using hs, CS, e, fr, by simpa [Addr.add] using hb⟩
        · cases hv0
      obtain ⟨hs, CS, e, fr, hb⟩ := hspot
      have hxe : ∀ i, x.add i = ⟨x.block, x.off + i, none⟩ := fun i => by
        cases x; simp only at hs; subst hs; simp [Addr.add]
      have hcell' : ∀ (i : Nat) (u : AV), cs[i]? = some u → ∃ v, W.cell? ⟨x.block, x.off + i, none⟩ = some v ∧ VRel m u v := fun i u hu => by
        obtain ⟨v, h1, h2⟩ := hcell i u hu
        exact ⟨v, by rw [← hxe]; exact h1, h2⟩
      have hfit : x.off + cs.length ≤ CS.size := by
        obtain ⟨v, h1, _⟩ := hcell' (cs.length - 1) cs[cs.length - 1] (by simp)
        unfold World.cell? at h1
        simp only [hb] at h1
        have := (Array.getElem?_eq_some_iff.1 (by simpa using h1)).1
        omega
      obtain ⟨r1, l1⟩ := r.pushRo hx hb rfl hfit hcell'
      have hrow : (h.push (.cells cs none)).row h.n = some cs := by unfold H.row; rw [H.get_push, if_pos rfl]
      have hv : VRel (m.set h.n (x.block, x.off, CS.size)) (.slice h.n 0 len es) (.slice (some x) len cap) := by
        have := VRel.slice (m := m.set h.n (x.block, x.off, CS.size)) (o := h.n) (b := x.block) (base := x.off) (sz := CS.size) 0 len es cap (by unfold M.set; rw [if_pos rfl]) hle (by rw [← hlen]; omega)
        rw [← hxe 0] at this
        have e0 : x.add 0 = x := by cases x; simp [Addr.add]
        rw [e0] at this
        exact this
      refine ⟨_, _, _, r1, l1, Keep.push (by intro _ _ e; cases e), hv, ⟨rfl, ?_⟩, ?_⟩
      · simp only [H.firstCells, hrow]
        have : len * es ≤ cap * es := Nat.mul_le_mul_right _ hle
        rw [if_pos ⟨trivial, Nat.le_refl _⟩, if_pos (by omega)]
        simp
      · exact ⟨Nat.lt_succ_self _, fun cs g e => by rw [H.get_push, if_pos rfl] at e; cases e⟩
end
end Go.Proofs.YtgjcdpanabjcmaaGreatDoor.Ev

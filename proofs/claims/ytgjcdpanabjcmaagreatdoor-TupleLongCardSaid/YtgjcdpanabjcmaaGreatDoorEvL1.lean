/- Loops' records in memory: written, laid, and blocks that no object lies in. -/
import Derived.Test.YtgjcdpanabjcmaaGreatDoorEvD5
import Derived.RangeFuncIn
import Derived.RangeFuncLeaves
import Derived.RangeFuncRecord
import Derived.RecoverIn
namespace Go.Proofs.YtgjcdpanabjcmaaGreatDoor.Ev
set_option linter.unusedVariables false
set_option linter.unusedSimpArgs false

section
variable {B0 : Nat} {P : Program}
/-- a block that no object lies in is turned -/
theorem Rel.putFar {m : M} {h : H} {w : World} (r : Rel P B0 m h w) {D : Nat} {ob : Obj} (hB : B0 ≤ D) (hD : ∀ o base sz, m o ≠ some (D, base, sz)) : Rel P B0 m h (w.putObj D ob) where
  base := by rw [World.putObj_size]; exact r.base
  lt := r.lt
  row := fun hg hm => by
    obtain ⟨h1, CS, e, fr, h2, h3⟩ := r.row hg hm
    exact ⟨h1, CS, e, fr, by rw [World.putObj_heap_other (fun e => hD _ _ _ (e ▸ hm))]; exact h2, h3⟩
  val := fun hg hm i a hi => by
    rw [cell?_putObj (fun e => hD _ _ _ (e ▸ hm))]; exact r.val hg hm i a hi
  own := fun hg hm => by
    obtain ⟨h1, h2⟩ := r.own hg hm
    exact ⟨h1, fun i hi => unf_same (World.putObj_heap_other (fun e => hD _ _ _ (e ▸ hm))) (h2 i hi)⟩
  ro := r.ro
  sep := r.sep
  ord := r.ord
  blk := fun hm => by rw [World.putObj_size]; exact r.blk hm
  any := r.any
  lp := fun hg hm => by
    obtain ⟨q1, rec, q2, q3⟩ := r.lp hg hm
    exact ⟨q1, rec, by rw [World.putObj_heap_other (fun e => hD _ _ _ (e ▸ hm))]; exact q2, q3⟩
  mm := fun hg hm => by
    obtain ⟨q1, q0, rec, q2, q3⟩ := r.mm hg hm
    exact ⟨q1, q0, rec, by rw [World.putObj_heap_other (fun e => hD _ _ _ (e ▸ hm))]; exact q2, q3⟩
  gb := fun hg => by
    obtain ⟨q1, v', q2, q3⟩ := r.gb hg
    exact ⟨q1, v', by rw [cell?_putObj (by omega)]; exact q2, q3⟩
  wf := r.wf
/-- a loop's record is written -/
theorem Rel.setLoop {m : M} {h : H} {w : World} (r : Rel P B0 m h w) {o b base sz : Nat} {L L' : LoopRec} {r' : Loop} (hg : h.get o = some (.loop L)) (hm : m o = some (b, base, sz)) (q : LRel P m L' r') :
    Rel P B0 m (h.setLoop o L') (w.putObj b (.loop r')) ∧ Fr B0 m m h (h.setLoop o L') w (w.putObj b (.loop r')) := by
  have hget : ∀ j, (h.setLoop o L').get j = if j = o then some (.loop L') else h.get j := fun j => Tr.get_set _ _ _ _
  obtain ⟨hB, rec, hb, _⟩ := r.lp hg hm
  have hbs : b < w.heap.size := r.blk hm
  have hne : ∀ {j x base' sz'}, j ≠ o → m j = some (x, base', sz') → x ≠ b := by
    intro j x base' sz' hj hmj e
    subst e
    obtain ⟨g, cs, cs', e1, e2⟩ := r.sep hm hmj (fun e => hj e.symm) hB
    rw [hg] at e1; cases e1
  have hrow : ∀ {j cs}, (h.setLoop o L').row j = some cs → j ≠ o ∧ h.row j = some cs := by
    intro j cs hr
    unfold H.row at hr
    rw [hget] at hr
    by_cases hj : j = o
    · rw [if_pos hj] at hr; cases hr
    · rw [if_neg hj] at hr; exact ⟨hj, hr⟩
  refine ⟨⟨?_, r.lt, ?_, ?_, ?_, ?_, ?_, ?_, ?_, ?_, ?_, ?_, ?_, ?_⟩, ⟨M.le_refl m, rfl, rfl, rfl, by rw [World.putObj_size]; exact Nat.le_refl _, ?_, Nat.le_refl _, ?_, fun o b base sz hs hn => by rw [hn] at hs; cases hs⟩⟩
  · rw [World.putObj_size]; exact r.base
  · intro j cs g x base' sz' hj hmj
    rw [hget] at hj
    by_cases e : j = o
    · rw [if_pos e] at hj; cases hj
    · rw [if_neg e] at hj
      obtain ⟨h1, CS, e', fr, h2, h3⟩ := r.row hj hmj
      exact ⟨h1, CS, e', fr, by rw [World.putObj_heap_other (hne e hmj)]; exact h2, h3⟩
  · intro j cs x base' sz' hj hmj i a hi
    obtain ⟨e, hj⟩ := hrow hj
    rw [cell?_putObj (hne e hmj)]; exact r.val hj hmj i a hi
  · intro j cs g x base' sz' hj hmj
    rw [hget] at hj
    by_cases e : j = o
    · rw [if_pos e] at hj; cases hj
    · rw [if_neg e] at hj
      obtain ⟨h1, h2⟩ := r.own hj hmj
      exact ⟨h1, fun i hi => unf_same (World.putObj_heap_other (hne e hmj)) (h2 i hi)⟩
  · intro j cs x base' sz' hj hmj
    rw [hget] at hj
    by_cases e : j = o
    · rw [if_pos e] at hj; cases hj
    · rw [if_neg e] at hj; exact r.ro hj hmj
  · intro j j' x base' sz' base2 sz2 h1 h2 hjj hx
    obtain ⟨g, cs, cs', e1, e2⟩ := r.sep h1 h2 hjj hx
    refine ⟨g, cs, cs', ?_, ?_⟩
    · rw [hget, if_neg (fun e => by subst e; rw [hg] at e1; cases e1)]; exact e1
    · rw [hget, if_neg (fun e => by subst e; rw [hg] at e2; cases e2)]; exact e2
  · intro j j' g cs cs' x base' sz' base2 sz2 hlt h1 h2 hk h3 h4
    rw [hget] at h1 h2
    by_cases e : j = o
    · rw [if_pos e] at h1; cases h1
    · by_cases e' : j' = o
      · rw [if_pos e'] at h2; cases h2
      · rw [if_neg e] at h1; rw [if_neg e'] at h2
        exact r.ord hlt h1 h2 hk h3 h4
  · intro j x base' sz' hmj
    rw [World.putObj_size]; exact r.blk hmj
  · intro j x hmj
    obtain ⟨ob, hob⟩ := r.any hmj
    rw [hget]
    by_cases e : j = o
    · exact ⟨_, by rw [if_pos e]⟩
    · exact ⟨ob, by rw [if_neg e]; exact hob⟩
  · intro j L2 x base' sz' hj hmj
    rw [hget] at hj
    by_cases e : j = o
    · rw [if_pos e] at hj
      cases hj
      subst e
      rw [hm] at hmj; cases hmj
      exact ⟨hB, r', World.putObj_heap_same hbs, q⟩
    · rw [if_neg e] at hj
      obtain ⟨q1, rec2, q2, q3⟩ := r.lp hj hmj
      exact ⟨q1, rec2, by rw [World.putObj_heap_other (hne e hmj)]; exact q2, q3⟩
  · intro j X2 x base' sz' hj hmj
    rw [hget] at hj
    by_cases e : j = o
    · rw [if_pos e] at hj; cases hj
    · rw [if_neg e] at hj
      obtain ⟨q1, q0, rec2, q2, q3⟩ := r.mm hj hmj
      exact ⟨q1, q0, rec2, by rw [World.putObj_heap_other (hne e hmj)]; exact q2, q3⟩
  · intro j g v hj
    rw [hget] at hj
    by_cases e : j = o
    · rw [if_pos e] at hj; cases hj
    · rw [if_neg e] at hj
      obtain ⟨q1, v', q2, q3⟩ := r.gb hj
      exact ⟨q1, v', by rw [cell?_putObj (by omega)]; exact q2, q3⟩
  · refine ⟨r.wf.gr, fun j cs g hj => ?_, fun j x hj => ?_, r.wf.kt, r.wf.tl⟩
    · rw [hget] at hj
      by_cases e : j = o
      · rw [if_pos e] at hj; cases hj
      · rw [if_neg e] at hj; exact r.wf.mem j cs g hj
    · rw [hget] at hj
      by_cases e : j = o
      · subst e; exact r.wf.ob _ _ hg
      · rw [if_neg e] at hj; exact r.wf.ob j x hj
  · intro x hx hc
    rw [World.putObj_heap_other]
    rintro rfl
    rcases hc with hc | hc
    · omega
    · exact hc _ _ _ hm
  · intro j hj hmj
    refine ⟨?_, hmj⟩
    rw [hget, if_neg]
    rintro rfl
    rw [hm] at hmj; cases hmj
/-- a loop's record is laid, behind a block for deferred calls -/
theorem Rel.pushLoop {m : M} {h : H} {w : World} (r : Rel P B0 m h w) {L : LoopRec} {r' : Loop} {ob : Obj} (q : LRel P m L r') :
    Rel P B0 (m.set h.n (w.heap.size + 1, 0, 0)) (h.push (.loop L)) ((w.alloc ob).alloc (.loop r')) ∧
    Fr B0 m (m.set h.n (w.heap.size + 1, 0, 0)) h (h.push (.loop L)) w ((w.alloc ob).alloc (.loop r')) := by
  have hle : M.le m (m.set h.n (w.heap.size + 1, 0, 0)) := M.set_le _ r.fresh
  have hheap : ∀ b, b < w.heap.size → ((w.alloc ob).alloc (.loop r')).heap[b]? = w.heap[b]? := by
    intro b hb
    rw [heap_alloc_eq, heap_alloc_eq, if_neg (by simp; omega), if_neg (by omega)]
  have hnew : ∀ o b base sz, (m.set h.n (w.heap.size + 1, 0, 0)) o = some (b, base, sz) → (o = h.n ∧ b = w.heap.size + 1 ∧ base = 0 ∧ sz = 0) ∨ (o ≠ h.n ∧ m o = some (b, base, sz) ∧ b < w.heap.size) := by
    intro o b base sz ho
    unfold M.set at ho
    split at ho
    · rename_i e; cases ho; exact .inl ⟨e, rfl, rfl, rfl⟩
    · rename_i e; exact .inr ⟨e, ho, r.blk ho⟩
  have hget : ∀ o, (h.push (.loop L)).get o = if o = h.n then some (.loop L) else h.get o := fun o => H.get_push _ _ _
  have hcell : ∀ b i, b < w.heap.size → ((w.alloc ob).alloc (.loop r')).cell? ⟨b, i, none⟩ = w.cell? ⟨b, i, none⟩ := by
    intro b i hb
    rw [cell?_alloc_of_lt _ _ _ (by simp; omega), cell?_alloc_of_lt _ _ _ hb]
  refine ⟨⟨?_, ?_, ?_, ?_, ?_, ?_, ?_, ?_, ?_, ?_, ?_, ?_, ?_, ?_⟩, ⟨hle, rfl, rfl, rfl, by simp; omega, fun b hb _ => hheap b hb, Nat.le_succ _, ?_, ?_⟩⟩
  · have := r.base; simp; omega
  · intro o x hx
    obtain ⟨b, base, sz⟩ := x
    rcases hnew o b base sz hx with ⟨rfl, _⟩ | ⟨_, hm, _⟩
    · exact Nat.lt_succ_self _
    · exact Nat.lt_succ_of_lt (r.lt _ _ hm)
  · intro o cs g b base sz hg hx
    rw [hget] at hg
    rcases hnew o b base sz hx with ⟨rfl, _⟩ | ⟨hne, hm, hb⟩
    · simp at hg
    · rw [if_neg hne] at hg
      obtain ⟨h1, CS', e', fr', h2, h3⟩ := r.row hg hm
      exact ⟨h1, CS', e', fr', by rw [hheap _ hb]; exact h2, h3⟩
  · intro o cs b base sz hg hx i a hi
    rcases hnew o b base sz hx with ⟨rfl, _⟩ | ⟨hne, hm, hb⟩
    · unfold H.row at hg
      rw [hget, if_pos rfl] at hg; cases hg
    · have hr : h.row o = some cs := by
        have : (h.push (.loop L)).row o = h.row o := by unfold H.row; rw [hget, if_neg hne]; rfl
        rw [← this]; exact hg
      obtain ⟨v, h1, h2⟩ := r.val hr hm i a hi
      exact ⟨v, by rw [hcell _ _ hb]; exact h1, h2.mono hle⟩
  · intro o cs g b base sz hg hx
    rw [hget] at hg
    rcases hnew o b base sz hx with ⟨rfl, _⟩ | ⟨hne, hm, hb⟩
    · simp at hg
    · rw [if_neg hne] at hg
      obtain ⟨h1, h2⟩ := r.own hg hm
      exact ⟨h1, fun i hi => unf_same (hheap _ hb) (h2 i hi)⟩
  · intro o cs b base sz hg hx
    rw [hget] at hg
    rcases hnew o b base sz hx with ⟨rfl, _⟩ | ⟨hne, hm, hb⟩
    · simp at hg
    · rw [if_neg hne] at hg; exact r.ro hg hm
  · intro o o' b base sz base' sz' hx hx' hne hb
    rcases hnew o b base sz hx with ⟨rfl, rfl, _⟩ | ⟨h1, hm, hb1⟩
    · rcases hnew o' _ base' sz' hx' with ⟨rfl, _⟩ | ⟨_, _, hb2⟩
      · exact absurd rfl hne
      · omega
    · rcases hnew o' _ base' sz' hx' with ⟨_, rfl, _⟩ | ⟨h2, hm', _⟩
      · omega
      · obtain ⟨g, cs, cs', e1, e2⟩ := r.sep hm hm' hne hb
        exact ⟨g, cs, cs', by rw [hget, if_neg h1]; exact e1, by rw [hget, if_neg h2]; exact e2⟩
  · intro o o' g cs cs' b base sz base' sz' hlt hg hg' hk hx hx'
    rw [hget] at hg hg'
    rcases hnew o b base sz hx with ⟨rfl, _⟩ | ⟨h1, hm, hb1⟩
    · simp at hg
    · rcases hnew o' _ base' sz' hx' with ⟨rfl, _⟩ | ⟨h2, hm', _⟩
      · simp at hg'
      · rw [if_neg h1] at hg; rw [if_neg h2] at hg'
        exact r.ord hlt hg hg' hk hm hm'
  · intro o b base sz hx
    rcases hnew o b base sz hx with ⟨rfl, rfl, _⟩ | ⟨h1, hm, hb1⟩
    · simp
    · simp; omega
  · intro o x hx
    obtain ⟨b, base, sz⟩ := x
    rcases hnew o b base sz hx with ⟨rfl, _⟩ | ⟨h1, hm, _⟩
    · exact ⟨_, by rw [hget, if_pos rfl]⟩
    · obtain ⟨ob, hob⟩ := r.any hm
      exact ⟨ob, by rw [hget, if_neg h1]; exact hob⟩
  · intro o L2 b base sz hg hx
    rw [hget] at hg
    rcases hnew o b base sz hx with ⟨rfl, rfl, _⟩ | ⟨h1, hm, hb1⟩
    · simp only [if_true] at hg
      cases hg
      refine ⟨by have := r.base; omega, r', ?_, q.mono hle⟩
      rw [heap_alloc_eq, if_pos (by simp)]
    · rw [if_neg h1] at hg
      obtain ⟨q1, rec, q2, q3⟩ := r.lp hg hm
      exact ⟨q1, rec, by rw [hheap _ hb1]; exact q2, q3.mono hle⟩
  · intro o X2 b base sz hg hx
    rw [hget] at hg
    rcases hnew o b base sz hx with ⟨rfl, rfl, rfl, rfl⟩ | ⟨h1, hm, hb1⟩
    · simp at hg
    · rw [if_neg h1] at hg
      obtain ⟨q1, q0, rec, q2, q3⟩ := r.mm hg hm
      exact ⟨q1, q0, rec, by rw [hheap _ hb1]; exact q2, q3.mono hle⟩
  · intro o g v hg
    rw [hget] at hg
    split at hg
    · cases hg
    · obtain ⟨q1, v', q2, q3⟩ := r.gb hg
      exact ⟨q1, v', by rw [hcell _ _ (by have := r.base; omega)]; exact q2, q3.mono hle⟩
  · refine ⟨fun g p hg => Nat.lt_succ_of_lt (r.wf.gr g p hg), fun o cs g hg => ?_, fun o x hg => ?_, r.wf.kt, r.wf.tl_push _⟩
    · rw [hget] at hg
      split at hg
      · cases hg
      · exact r.wf.mem o cs g hg
    · rw [hget] at hg
      split at hg
      · rename_i e; subst e; exact Nat.lt_succ_self _
      · exact Nat.lt_succ_of_lt (r.wf.ob o x hg)
  · intro o ho hm
    refine ⟨by rw [hget, if_neg (Nat.ne_of_lt ho)], ?_⟩
    unfold M.set; rw [if_neg (Nat.ne_of_lt ho)]; exact hm
  · intro o b base sz hx hn
    rcases hnew o b base sz hx with ⟨rfl, rfl, rfl, rfl⟩ | ⟨h1, hm, _⟩
    · exact .inl (by omega)
    · rw [hn] at hm; cases hm
end
end Go.Proofs.YtgjcdpanabjcmaaGreatDoor.Ev

/- Memory at the start of a call; calls that are run apart. -/
import Derived.Test.YtgjcdpanabjcmaaGreatDoorEv15
namespace Go.Proofs.YtgjcdpanabjcmaaGreatDoor.Ev
set_option linter.unusedVariables false
set_option linter.unusedSimpArgs false

def H0 : H := ⟨0, .nil, .nil⟩
def M0 : M := fun _ => none

section
variable {B0 : Nat} {P : Program}

theorem Rel.start {w : World} (hb : B0 ≤ w.heap.size) : Rel P B0 M0 H0 w where
  base := hb
  lt := fun o x h => by cases h
  row := fun _ h => by cases h
  val := fun _ h => by cases h
  own := fun _ h => by cases h
  ro := fun _ h => by cases h
  sep := fun h => by cases h
  ord := fun _ _ _ _ h => by cases h
  blk := fun h => by cases h
  any := fun h => by cases h
  lp := fun h => by cases h
  mm := fun h => by cases h
  gb := fun h => by cases h
  wf := by
    constructor
    · intro g p h; cases h
    · intro o cs g h; cases h
    · intro o x h; cases h
    · intro g p h; cases h
    · intro g h; exact absurd h (Nat.not_lt_zero _)

theorem cell?_same {w w' : World} {b : Nat} (e : w'.heap[b]? = w.heap[b]?) (i : Nat) : w'.cell? ⟨b, i, none⟩ = w.cell? ⟨b, i, none⟩ := by
  unfold World.cell?; simp only [e]
theorem frozen?_same {w w' : World} {b : Nat} (e : w'.heap[b]? = w.heap[b]?) (i : Nat) : w'.frozen? ⟨b, i, none⟩ = w.frozen? ⟨b, i, none⟩ := by
  unfold World.frozen?; simp only [e]
theorem Rel.same {m : M} {h : H} {w w' : World} (r : Rel P B0 m h w) (hs : w.heap.size ≤ w'.heap.size) (he : ∀ b, b < w.heap.size → w'.heap[b]? = w.heap[b]?) : Rel P B0 m h w' where
  base := Nat.le_trans r.base hs
  lt := r.lt
  row := fun hg hm => by
    obtain ⟨h1, CS, e, fr, h2, h3⟩ := r.row hg hm
    exact ⟨h1, CS, e, fr, by rw [he _ (r.blk hm)]; exact h2, h3⟩
  val := fun hg hm i a hi => by
    obtain ⟨v, h1, h2⟩ := r.val hg hm i a hi
    exact ⟨v, by rw [cell?_same (he _ (r.blk hm))]; exact h1, h2⟩
  own := fun hg hm => by
    obtain ⟨h1, h2⟩ := r.own hg hm
    exact ⟨h1, fun i hi => by exact unf_same (he _ (r.blk hm)) (h2 i hi)⟩
  ro := r.ro
  sep := r.sep
  ord := r.ord
  blk := fun hm => Nat.lt_of_lt_of_le (r.blk hm) hs
  any := r.any
  lp := fun hg hm => by
    obtain ⟨q1, rec, q2, q3⟩ := r.lp hg hm
    exact ⟨q1, rec, by rw [he _ (r.blk hm)]; exact q2, q3⟩
  mm := fun hg hm => by
    obtain ⟨q1, q0, rec, q2, q3⟩ := r.mm hg hm
    exact ⟨q1, q0, rec, by rw [he _ (r.blk hm)]; exact q2, q3⟩
  gb := fun hg => by
    obtain ⟨q1, v', q2, q3⟩ := r.gb hg
    exact ⟨q1, v', by rw [cell?_same (he _ (Nat.lt_of_lt_of_le q1 r.base))]; exact q2, q3⟩
  wf := r.wf

/-- a row that is read alone -/
theorem Rel.pushRo {m : M} {h : H} {w : World} (r : Rel P B0 m h w) {cs : List AV} {b base sz : Nat} (hb : b < B0) {CS : Array Value} {e : Nat} {fr : Nat × Nat} (hc : w.heap[b]? = some (.cells CS e fr)) (hsz : CS.size = sz) (hl : base + cs.length ≤ sz)
    (hv : ∀ (i : Nat) (a : AV), cs[i]? = some a → ∃ v, w.cell? ⟨b, base + i, none⟩ = some v ∧ VRel m a v) :
    Rel P B0 (m.set h.n (b, base, sz)) (h.push (.cells cs none)) w ∧ M.le m (m.set h.n (b, base, sz)) := by
  have hle : M.le m (m.set h.n (b, base, sz)) := M.set_le _ r.fresh
  have hnew : ∀ o c base' sz', (m.set h.n (b, base, sz)) o = some (c, base', sz') → (o = h.n ∧ c = b ∧ base' = base ∧ sz' = sz) ∨ (o ≠ h.n ∧ m o = some (c, base', sz')) := by
    intro o c base' sz' ho
    unfold M.set at ho
    split at ho
    · rename_i e; cases ho; exact .inl ⟨e, rfl, rfl, rfl⟩
    · rename_i e; exact .inr ⟨e, ho⟩
  refine ⟨⟨r.base, ?_, ?_, ?_, ?_, ?_, ?_, ?_, ?_, ?_, ?_, ?_, ?_, ?_⟩, hle⟩
  · intro o x hx
    obtain ⟨c, base', sz'⟩ := x
    rcases hnew o c base' sz' hx with ⟨rfl, _⟩ | ⟨_, hm⟩
    · exact Nat.lt_succ_self _
    · exact Nat.lt_succ_of_lt (r.lt _ _ hm)
  · intro o cs' g c base' sz' hg hx
    rw [H.get_push] at hg
    rcases hnew o c base' sz' hx with ⟨rfl, rfl, rfl, rfl⟩ | ⟨hne, hm⟩
    · simp only [if_true] at hg; cases hg
      exact ⟨hl, CS, e, fr, hc, hsz⟩
    · rw [if_neg hne] at hg; exact r.row hg hm
  · intro o cs' c base' sz' hg hx i a hi
    rcases hnew o c base' sz' hx with ⟨rfl, rfl, rfl, rfl⟩ | ⟨hne, hm⟩
    · have hrow : (h.push (.cells cs none)).row h.n = some cs := by
        unfold H.row; rw [H.get_push, if_pos rfl]
      rw [hrow] at hg; cases hg
      obtain ⟨v, h1, h2⟩ := hv i a hi
      exact ⟨v, h1, h2.mono hle⟩
    · have hr : h.row o = some cs' := by rw [← hg]; exact (H.row_push hne).symm
      obtain ⟨v, h1, h2⟩ := r.val hr hm i a hi
      exact ⟨v, h1, h2.mono hle⟩
  · intro o cs' g c base' sz' hg hx
    rw [H.get_push] at hg
    rcases hnew o c base' sz' hx with ⟨rfl, rfl, rfl, rfl⟩ | ⟨hne, hm⟩
    · simp only [if_true] at hg; cases hg
    · rw [if_neg hne] at hg; exact r.own hg hm
  · intro o cs' c base' sz' hg hx
    rw [H.get_push] at hg
    rcases hnew o c base' sz' hx with ⟨rfl, rfl, rfl, rfl⟩ | ⟨hne, hm⟩
    · exact hb
    · rw [if_neg hne] at hg; exact r.ro hg hm
  · intro o o' c base' sz' base'' sz'' hx hx' hne hB
    rcases hnew o c base' sz' hx with ⟨rfl, rfl, rfl, rfl⟩ | ⟨h1, hm⟩
    · omega
    · rcases hnew o' c base'' sz'' hx' with ⟨rfl, rfl, rfl, rfl⟩ | ⟨h2, hm'⟩
      · omega
      · obtain ⟨g, c1, c2, e1, e2⟩ := r.sep hm hm' hne hB
        exact ⟨g, c1, c2, by rw [H.get_push, if_neg h1]; exact e1, by rw [H.get_push, if_neg h2]; exact e2⟩
  · intro o o' g c1 c2 c base' sz' base'' sz'' hlt hg hg' hk hx hx'
    rw [H.get_push] at hg hg'
    rcases hnew o c base' sz' hx with ⟨rfl, rfl, rfl, rfl⟩ | ⟨h1, hm⟩
    · simp only [if_true] at hg; cases hg
    · rcases hnew o' c base'' sz'' hx' with ⟨rfl, rfl, rfl, rfl⟩ | ⟨h2, hm'⟩
      · simp only [if_true] at hg'; cases hg'
      · rw [if_neg h1] at hg; rw [if_neg h2] at hg'
        exact r.ord hlt hg hg' hk hm hm'
  · intro o c base' sz' hx
    rcases hnew o c base' sz' hx with ⟨rfl, rfl, rfl, rfl⟩ | ⟨h1, hm⟩
    · exact Nat.lt_of_lt_of_le hb r.base
    · exact r.blk hm
  · intro o x hx
    obtain ⟨c, base', sz'⟩ := x
    rcases hnew o c base' sz' hx with ⟨rfl, _⟩ | ⟨h1, hm⟩
    · exact ⟨_, by rw [H.get_push, if_pos rfl]⟩
    · obtain ⟨ob, hob⟩ := r.any hm
      exact ⟨ob, by rw [H.get_push, if_neg h1]; exact hob⟩
  · intro o L c base' sz' hg hx
    rw [H.get_push] at hg
    rcases hnew o c base' sz' hx with ⟨rfl, _⟩ | ⟨h1, hm⟩
    · simp at hg
    · rw [if_neg h1] at hg
      obtain ⟨q1, rec, q2, q3⟩ := r.lp hg hm
      exact ⟨q1, rec, q2, q3.mono hle⟩
  · intro o L c base' sz' hg hx
    rw [H.get_push] at hg
    rcases hnew o c base' sz' hx with ⟨rfl, _⟩ | ⟨h1, hm⟩
    · simp at hg
    · rw [if_neg h1] at hg
      obtain ⟨q1, q0, rec, q2, q3⟩ := r.mm hg hm
      exact ⟨q1, q0, rec, q2, q3.mono hle⟩
  · intro o g v hg
    rw [H.get_push] at hg
    split at hg
    · cases hg
    · obtain ⟨q1, v', q2, q3⟩ := r.gb hg
      exact ⟨q1, v', q2, q3.mono hle⟩
  · refine ⟨fun g p hg => Nat.lt_succ_of_lt (r.wf.gr g p hg), fun o cs' g hg => ?_, fun o x hg => ?_, r.wf.kt, r.wf.tl_push _⟩
    · rw [H.get_push] at hg
      split at hg
      · cases hg
      · exact r.wf.mem o cs' g hg
    · rw [H.get_push] at hg
      split at hg
      · rename_i e; subst e; exact Nat.lt_succ_self _
      · exact Nat.lt_succ_of_lt (r.wf.ob o x hg)

/-- a place of which nothing is known -/
theorem Rel.pushOther {m : M} {h : H} {w : World} (r : Rel P B0 m h w) {b base sz : Nat} (hb : b < B0) :
    Rel P B0 (m.set h.n (b, base, sz)) (h.push .other) w ∧ M.le m (m.set h.n (b, base, sz)) := by
  have hle : M.le m (m.set h.n (b, base, sz)) := M.set_le _ r.fresh
  have hnew : ∀ o c base' sz', (m.set h.n (b, base, sz)) o = some (c, base', sz') → (o = h.n ∧ c = b ∧ base' = base ∧ sz' = sz) ∨ (o ≠ h.n ∧ m o = some (c, base', sz')) := by
    intro o c base' sz' ho
    unfold M.set at ho
    split at ho
    · rename_i e; cases ho; exact .inl ⟨e, rfl, rfl, rfl⟩
    · rename_i e; exact .inr ⟨e, ho⟩
  refine ⟨⟨r.base, ?_, ?_, ?_, ?_, ?_, ?_, ?_, ?_, ?_, ?_, ?_, ?_, ?_⟩, hle⟩
  · intro o x hx
    obtain ⟨c, base', sz'⟩ := x
    rcases hnew o c base' sz' hx with ⟨rfl, _⟩ | ⟨_, hm⟩
    · exact Nat.lt_succ_self _
    · exact Nat.lt_succ_of_lt (r.lt _ _ hm)
  · intro o cs' g c base' sz' hg hx
    rw [H.get_push] at hg
    rcases hnew o c base' sz' hx with ⟨rfl, rfl, rfl, rfl⟩ | ⟨hne, hm⟩
    · simp only [if_true] at hg; cases hg
    · rw [if_neg hne] at hg; exact r.row hg hm
  · intro o cs' c base' sz' hg hx i a hi
    rcases hnew o c base' sz' hx with ⟨rfl, rfl, rfl, rfl⟩ | ⟨hne, hm⟩
    · have hrow : (h.push .other).row h.n = none := by
        unfold H.row; rw [H.get_push, if_pos rfl]
      rw [hrow] at hg; cases hg
    · have hr : h.row o = some cs' := by rw [← hg]; exact (H.row_push hne).symm
      obtain ⟨v, h1, h2⟩ := r.val hr hm i a hi
      exact ⟨v, h1, h2.mono hle⟩
  · intro o cs' g c base' sz' hg hx
    rw [H.get_push] at hg
    rcases hnew o c base' sz' hx with ⟨rfl, rfl, rfl, rfl⟩ | ⟨hne, hm⟩
    · simp only [if_true] at hg; cases hg
    · rw [if_neg hne] at hg; exact r.own hg hm
  · intro o cs' c base' sz' hg hx
    rw [H.get_push] at hg
    rcases hnew o c base' sz' hx with ⟨rfl, rfl, rfl, rfl⟩ | ⟨hne, hm⟩
    · exact hb
    · rw [if_neg hne] at hg; exact r.ro hg hm
  · intro o o' c base' sz' base'' sz'' hx hx' hne hB
    rcases hnew o c base' sz' hx with ⟨rfl, rfl, rfl, rfl⟩ | ⟨h1, hm⟩
    · omega
    · rcases hnew o' c base'' sz'' hx' with ⟨rfl, rfl, rfl, rfl⟩ | ⟨h2, hm'⟩
      · omega
      · obtain ⟨g, c1, c2, e1, e2⟩ := r.sep hm hm' hne hB
        exact ⟨g, c1, c2, by rw [H.get_push, if_neg h1]; exact e1, by rw [H.get_push, if_neg h2]; exact e2⟩
  · intro o o' g c1 c2 c base' sz' base'' sz'' hlt hg hg' hk hx hx'
    rw [H.get_push] at hg hg'
    rcases hnew o c base' sz' hx with ⟨rfl, rfl, rfl, rfl⟩ | ⟨h1, hm⟩
    · simp only [if_true] at hg; cases hg
    · rcases hnew o' c base'' sz'' hx' with ⟨rfl, rfl, rfl, rfl⟩ | ⟨h2, hm'⟩
      · simp only [if_true] at hg'; cases hg'
      · rw [if_neg h1] at hg; rw [if_neg h2] at hg'
        exact r.ord hlt hg hg' hk hm hm'
  · intro o c base' sz' hx
    rcases hnew o c base' sz' hx with ⟨rfl, rfl, rfl, rfl⟩ | ⟨h1, hm⟩
    · exact Nat.lt_of_lt_of_le hb r.base
    · exact r.blk hm
  · intro o x hx
    obtain ⟨c, base', sz'⟩ := x
    rcases hnew o c base' sz' hx with ⟨rfl, _⟩ | ⟨h1, hm⟩
    · exact ⟨_, by rw [H.get_push, if_pos rfl]⟩
    · obtain ⟨ob, hob⟩ := r.any hm
      exact ⟨ob, by rw [H.get_push, if_neg h1]; exact hob⟩
  · intro o L c base' sz' hg hx
    rw [H.get_push] at hg
    rcases hnew o c base' sz' hx with ⟨rfl, _⟩ | ⟨h1, hm⟩
    · simp at hg
    · rw [if_neg h1] at hg
      obtain ⟨q1, rec, q2, q3⟩ := r.lp hg hm
      exact ⟨q1, rec, q2, q3.mono hle⟩
  · intro o L c base' sz' hg hx
    rw [H.get_push] at hg
    rcases hnew o c base' sz' hx with ⟨rfl, _⟩ | ⟨h1, hm⟩
    · simp at hg
    · rw [if_neg h1] at hg
      obtain ⟨q1, q0, rec, q2, q3⟩ := r.mm hg hm
      exact ⟨q1, q0, rec, q2, q3.mono hle⟩
  · intro o g v hg
    rw [H.get_push] at hg
    split at hg
    · cases hg
    · obtain ⟨q1, v', q2, q3⟩ := r.gb hg
      exact ⟨q1, v', q2, q3.mono hle⟩
  · refine ⟨fun g p hg => Nat.lt_succ_of_lt (r.wf.gr g p hg), fun o cs' g hg => ?_, fun o x hg => ?_, r.wf.kt, r.wf.tl_push _⟩
    · rw [H.get_push] at hg
      split at hg
      · cases hg
      · exact r.wf.mem o cs' g hg
    · rw [H.get_push] at hg
      split at hg
      · rename_i e; subst e; exact Nat.lt_succ_self _
      · exact Nat.lt_succ_of_lt (r.wf.ob o x hg)

/-! ### calls that are run apart -/
/-- values that point nowhere -/
def flat : AV → Bool
  | .bool _ | .int _ _ | .str _ => true
  | _ => false
theorem VRel.flat_any {m m' : M} {a : AV} {v : Value} (h : VRel m a v) (hf : flat a = true) : VRel m' a v := by
  cases h <;> first | (cases hf; done) | constructor
theorem VRels.flat_any {m m' : M} : ∀ {l : List AV} {l' : List Value}, VRels m l l' → l.all flat = true → VRels m' l l'
  | _, _, .nil, _ => .nil
  | _, _, .cons h t, hf => by
    simp only [List.all_cons, Bool.and_eq_true] at hf
    exact .cons (h.flat_any hf.1) (t.flat_any hf.2)
/-- an answer that points nowhere -/
def flatOut : AV → Bool
  | .tup vs => vs.all flat
  | v => flat v
theorem VRel.flat_out {m m' : M} {a : AV} {v : Value} (h : VRel m a v) (hf : flatOut a = true) : VRel m' a v := by
  cases h
  case tup cs cs' h => exact .tup (h.flat_any hf)
  all_goals first | (cases hf; done) | constructor

/-- a start at which a package-level variable holds a slice -/
def HG (g len : Nat) (cs : List AV) : H := (H0.push (.glob g (.slice 1 0 len 1))).push (.cells cs none)
def MG (x : Nat × Nat × Nat) : M := fun o => if o = 1 then some x else none
theorem HG_0 (g len : Nat) (cs : List AV) : (HG g len cs).get 0 = some (.glob g (.slice 1 0 len 1)) := by
  show H.get _ _ = _
  unfold HG; rw [H.get_push, H.get_push]; simp [H.push, H0]
theorem HG_1 (g len : Nat) (cs : List AV) : (HG g len cs).get 1 = some (.cells cs none) := by
  unfold HG; rw [H.get_push]; simp [H.push, H0]
theorem HG_none (g len : Nat) (cs : List AV) (o : Nat) : (HG g len cs).get (o + 2) = none := by
  unfold HG; rw [H.get_push, if_neg (by simp [H.push, H0]), H.get_push, if_neg (by simp [H0])]; rfl
theorem Rel.startG {w : World} {g len cap b base sz : Nat} {cs : List AV} {CS : Array Value} {e : TypeId} {fr : Nat × Nat} (hb : w.heap[b]? = some (.cells CS e fr)) (hsz : CS.size = sz) (hl : base + cs.length ≤ sz)
    (hv : ∀ (i : Nat) (a : AV), cs[i]? = some a → ∃ v, w.cell? ⟨b, base + i, none⟩ = some v ∧ VRel (MG (b, base, sz)) a v) (hg : g < w.heap.size) (hcell : w.cell? ⟨g, 0, none⟩ = some (.slice (some ⟨b, base, none⟩) len cap)) (hlen : len ≤ cap) (hs : base + cap ≤ sz) :
    Rel P w.heap.size (MG (b, base, sz)) (HG g len cs) w := by
  have hm : ∀ {o x}, MG (b, base, sz) o = some x → o = 1 ∧ x = (b, base, sz) := by
    intro o x h
    unfold MG at h
    split at h
    · cases h; exact ⟨by assumption, rfl⟩
    · cases h
  have hbs : b < w.heap.size := (Array.getElem?_eq_some_iff.1 hb).1
  refine ⟨Nat.le_refl _, ?_, ?_, ?_, ?_, ?_, ?_, ?_, ?_, ?_, ?_, ?_, ?_, ?_⟩
  · intro o x h; obtain ⟨rfl, _⟩ := hm h; exact Nat.lt_succ_self 1
  · intro o c gr b' base' sz' h1 h2
    obtain ⟨rfl, e2⟩ := hm h2
    cases e2
    rw [HG_1] at h1; cases h1
    exact ⟨hl, CS, e, fr, hb, hsz⟩
  · intro o c b' base' sz' h1 h2 i a hi
    obtain ⟨rfl, e2⟩ := hm h2
    cases e2
    unfold H.row at h1; rw [HG_1] at h1; cases h1
    exact hv i a hi
  · intro o c gr b' base' sz' h1 h2
    obtain ⟨rfl, e2⟩ := hm h2
    rw [HG_1] at h1; cases h1
  · intro o c b' base' sz' h1 h2
    obtain ⟨rfl, e2⟩ := hm h2
    cases e2; exact hbs
  · intro o o' b' base' sz' base2 sz2 h1 h2 h3 h4
    obtain ⟨rfl, e1⟩ := hm h1
    obtain ⟨rfl, e2⟩ := hm h2
    exact absurd rfl h3
  · intro o o' gr c c' b' base' sz' base2 sz2 hlt h1 h2 h3 h4 h5
    obtain ⟨rfl, _⟩ := hm h4
    obtain ⟨rfl, _⟩ := hm h5
    omega
  · intro o b' base' sz' h1
    obtain ⟨rfl, e1⟩ := hm h1
    cases e1; exact hbs
  · intro o x h1
    obtain ⟨rfl, _⟩ := hm h1
    exact ⟨_, HG_1 g len cs⟩
  · intro o L b' base' sz' h1 h2
    obtain ⟨rfl, _⟩ := hm h2
    rw [HG_1] at h1; cases h1
  · intro o X b' base' sz' h1 h2
    obtain ⟨rfl, _⟩ := hm h2
    rw [HG_1] at h1; cases h1
  · intro o g' v h1
    match o with
    | 0 =>
      rw [HG_0] at h1; cases h1
      refine ⟨hg, _, hcell, ?_⟩
      have := VRel.slice (m := MG (b, base, sz)) (o := 1) 0 len 1 cap (b := b) (base := base) (sz := sz) (by unfold MG; rw [if_pos rfl]) hlen (by omega)
      simpa using this
    | 1 => rw [HG_1] at h1; cases h1
    | o + 2 => rw [HG_none] at h1; cases h1
  · have hgr : ∀ g', (HG g len cs).gr.get g' = none := fun g' => rfl
    refine ⟨fun g' p h => (by rw [hgr] at h; cases h), ?_, ?_, fun g' p h => (by rw [hgr] at h; cases h), ?_⟩
    · intro o c gr h1
      match o with
      | 0 => rw [HG_0] at h1; cases h1
      | 1 => rw [HG_1] at h1; cases h1
      | o + 2 => rw [HG_none] at h1; cases h1
    · intro o x h1
      match o with
      | 0 => exact Nat.zero_lt_succ 1
      | 1 => exact Nat.lt_succ_self 1
      | o + 2 => rw [HG_none] at h1; cases h1
    · intro gr h1; exact h1

/-- a call with arguments that point nowhere, run at a start of its own, stands for the call on any memory that has that start -/
theorem apart_core {E : Env} (hm : P.follows .mixedOrders = true) (hT : TableOK P E) (hO : ∀ B, OvOK P B E.ov) (hplain : ∀ g fn, E.R g = some fn → fn.ops.all (fun st => st.op.plain) = true) {k f : Nat} {args : List AV} {v : AV} {hS h1 : H} (ha : args.all flat = true) (hv : flatOut v = true)
    (he : (ev E k).call (.fn f) args hS = some (.val v, h1)) {h : H} (hst : ∀ (m : M) (w : World), Rel P B0 m h w → ∃ mS, Rel P w.heap.size mS hS w) : FnOK P B0 f args h (fun r1 h1 => r1 = .val v ∧ h1 = h) := by
  intro m w cargs hr hargs
  obtain ⟨mS, hrS⟩ := hst m w hr
  have key := sound_call hm hT (hO w.heap.size) hplain he mS w cargs hrS (hargs.flat_any ha)
  refine key.mono ?_
  rintro e w' ⟨r1, h2, ⟨rfl, rfl⟩, m1, hE, r1, f1⟩
  cases hE with
  | val hvr =>
    have hsame : ∀ b, b < w.heap.size → w'.heap[b]? = w.heap[b]? := fun b hb => f1.blk b hb (.inl hb)
    exact ⟨.val v, h, ⟨rfl, rfl⟩, m, .val (hvr.flat_out hv), hr.same f1.size hsame, ⟨M.le_refl m, f1.os, f1.tape, f1.output, f1.size, fun b hb _ => hsame b hb, Nat.le_refl _, fun o _ hmo => ⟨rfl, hmo⟩, fun o b base sz h1 h2 => by rw [h2] at h1; cases h1⟩⟩
theorem apart_ok {E : Env} (hm : P.follows .mixedOrders = true) (hT : TableOK P E) (hO : ∀ B, OvOK P B E.ov) (hplain : ∀ g fn, E.R g = some fn → fn.ops.all (fun st => st.op.plain) = true) {k f : Nat} {args : List AV} {v : AV} {h1 : H} (ha : args.all flat = true) (hv : flatOut v = true)
    (he : (ev E k).call (.fn f) args H0 = some (.val v, h1)) (h : H) : FnOK P B0 f args h (fun r1 h1 => r1 = .val v ∧ h1 = h) :=
  apart_core hm hT hO hplain ha hv he fun m w hr => ⟨M0, Rel.start (Nat.le_refl _)⟩
/-- the start of a memory -/
structure StartG (g len : Nat) (cs : List AV) (h : H) : Prop where
  glob : h.get 0 = some (.glob g (.slice 1 0 len 1))
  row : h.get 1 = some (.cells cs none)
theorem Rel.restart {m : M} {h : H} {w : World} (r : Rel P B0 m h w) {g len : Nat} {cs : List AV} (hs : StartG g len cs h) (hlen : 0 < len) (hcs : cs.all flat = true) : ∃ mS, Rel P w.heap.size mS (HG g len cs) w := by
  obtain ⟨hg, v', hcell, hv⟩ := r.gb hs.glob
  cases hv with
  | @slice _ b base sz _ _ _ cap hm hl hsz =>
    have hrow : h.row 1 = some cs := by unfold H.row; rw [hs.row]
    obtain ⟨hle, CS, e, fr, hb, hc⟩ := r.row hs.row hm
    refine ⟨MG (b, base, sz), Rel.startG (cap := cap) hb hc hle ?_ (Nat.lt_of_lt_of_le hg r.base) (by simpa using hcell) hl (by simpa using hsz)⟩
    intro i a hi
    obtain ⟨v, h1, h2⟩ := r.val hrow hm i a hi
    exact ⟨v, h1, h2.flat_any (List.all_eq_true.1 hcs a (List.mem_of_getElem? hi))⟩
  | slice0 => omega
theorem apart_okG {E : Env} (hm : P.follows .mixedOrders = true) (hT : TableOK P E) (hO : ∀ B, OvOK P B E.ov) (hplain : ∀ g fn, E.R g = some fn → fn.ops.all (fun st => st.op.plain) = true) {k f : Nat} {args : List AV} {v : AV} {g len : Nat} {cs : List AV} {h1 : H} (ha : args.all flat = true) (hv : flatOut v = true)
    (hlen : 0 < len) (hcs : cs.all flat = true) (he : (ev E k).call (.fn f) args (HG g len cs) = some (.val v, h1)) {h : H} (hs : StartG g len cs h) : FnOK P B0 f args h (fun r1 h1 => r1 = .val v ∧ h1 = h) :=
  apart_core hm hT hO hplain ha hv he fun m w hr => hr.restart hs hlen hcs
/-- has a memory such a start? -/
def startB (g len : Nat) (cs : List AV) (h : H) : Bool :=
  (match h.get 0 with | some (.glob g' v) => g' == g && v.beq (.slice 1 0 len 1) | _ => false) && (match h.get 1 with | some (.cells c none) => AV.beqs c cs | _ => false)
theorem startB_ok {g len : Nat} {cs : List AV} {h : H} (hb : startB g len cs h = true) : StartG g len cs h := by
  unfold startB at hb
  simp only [Bool.and_eq_true] at hb
  obtain ⟨h1, h2⟩ := hb
  constructor
  · split at h1
    · rename_i g' v hg
      simp only [Bool.and_eq_true, beq_iff_eq] at h1
      rw [hg, h1.1, AV.beq_eq h1.2]
    · cases h1
  · split at h2
    · rename_i c hg
      rw [hg, AV.beqs_eq h2]
    · cases h2
theorem startB_of {g len : Nat} {cs : List AV} {h : H} (hs : StartG g len cs h) : startB g len cs h = true := by
  unfold startB
  rw [hs.glob, hs.row]
  simp [AV.beq_refl, AV.beqs_refl]
end
end Go.Proofs.YtgjcdpanabjcmaaGreatDoor.Ev

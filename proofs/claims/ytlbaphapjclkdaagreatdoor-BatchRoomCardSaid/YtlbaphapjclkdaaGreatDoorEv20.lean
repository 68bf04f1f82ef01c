/- Memory at the start of a call; calls that are run apart. -/
import Derived.Test.YtlbaphapjclkdaaGreatDoorEvH
namespace Go.Proofs.YtlbaphapjclkdaaGreatDoor.Ev
set_option linter.unusedVariables false
set_option linter.unusedSimpArgs false

def H0 : H := ⟨0, .nil, .nil⟩
def M0 : M := fun _ => none

section
variable {B0 : Nat} {P : Program}

theorem Rel.start {w : World} (hb : B0 ≤ w.heap.size) : Rel P B0 M0 H0 w where
  base := hb
  lt := fun o x h => by cases h
  row := fun _ h => by cases h
  val := fun _ h => by cases h
  own := fun _ h => by cases h
  ro := fun _ h => by cases h
  sep := fun h => by cases h
  ord := fun _ _ _ _ h => by cases h
  blk := fun h => by cases h
  any := fun h => by cases h
  lp := fun h => by cases h
  mm := fun h => by cases h
  gb := fun h => by cases h
  wf := by
    constructor
    · intro g p h; cases h
    · intro o cs g h; cases h
    · intro o x h; cases h
    · intro g p h; cases h
    · intro g h; exact absurd h (Nat.not_lt_zero _)

theorem cell?_same {w w' : World} {b : Nat} (e : w'.heap[b]? = w.heap[b]?) (i : Nat) : w'.cell? ⟨b, i, none⟩ = w.cell? ⟨b, i, none⟩ := by
  unfold World.cell?; simp only [e]
theorem frozen?_same {w w' : World} {b : Nat} (e : w'.heap[b]? = w.heap[b]?) (i : Nat) : w'.frozen? ⟨b, i, none⟩ = w.frozen? ⟨b, i, none⟩ := by
  unfold World.frozen?; simp only [e]
theorem Rel.same {m : M} {h : H} {w w' : World} (r : Rel P B0 m h w) (hs : w.heap.size ≤ w'.heap.size) (he : ∀ b, b < w.heap.size → w'.heap[b]? = w.heap[b]?) : Rel P B0 m h w' where
  base := Nat.le_trans r.base hs
  lt := r.lt
  row := fun hg hm => by
    obtain ⟨h1, CS, e, fr, h2, h3⟩ := r.row hg hm
    exact ⟨h1, CS, e, fr, by rw [he _ (r.blk hm)]; exact h2, h3⟩
  val := fun hg hm i a hi => by
    obtain ⟨v, h1, h2⟩ := r.val hg hm i a hi
    exact ⟨v, by rw [cell?_same (he _ (r.blk hm))]; exact h1, h2⟩
  own := fun hg hm => by
    obtain ⟨h1, h2⟩ := r.own hg hm
    exact ⟨h1, fun i hi => by exact unf_same (he _ (r.blk hm)) (h2 i hi)⟩
  ro := r.ro
  sep := r.sep
  ord := r.ord
  blk := fun hm => Nat.lt_of_lt_of_le (r.blk hm) hs
  any := r.any
  lp := fun hg hm => by
    obtain ⟨q1, rec, q2, q3⟩ := r.lp hg hm
    exact ⟨q1, rec, by rw [he _ (r.blk hm)]; exact q2, q3⟩
  mm := fun hg hm => by
    obtain ⟨q1, q0, rec, q2, q3⟩ := r.mm hg hm
    exact ⟨q1, q0, rec, by rw [he _ (r.blk hm)]; exact q2, q3⟩
  gb := fun hg => by
    obtain ⟨q1, v', q2, q3⟩ := r.gb hg
    exact ⟨q1, v', by rw [cell?_same (he _ (Nat.lt_of_lt_of_le q1 r.base))]; exact q2, q3⟩
  wf := r.wf

/-- a row that is read alone -/
theorem Rel.pushRo {m : M} {h : H} {w : World} (r : Rel P B0 m h w) {cs : List AV} {b base sz : Nat} (hb : b < B0) {CS : Array Value} {e : Nat} {fr : Nat × Nat} (hc : w.heap[b]? = some (.cells CS e fr)) (hsz : CS.size = sz) (hl : base + cs.length ≤ sz)
    (hv : ∀ (i : Nat) (a : AV), cs[i]? = some a → ∃ v, w.cell? ⟨b, base + i, none⟩ = some v ∧ VRel m a v) :
    Rel P B0 (m.set h.n (b, base, sz)) (h.push (.cells cs none)) w ∧ M.le m (m.set h.n (b, base, sz)) := by
  have hle : M.le m (m.set h.n (b, base, sz)) := M.set_le _ r.fresh
  have hnew : ∀ o c base' sz', (m.set h.n (b, base, sz)) o = some (c, base', sz') → (o = h.n ∧ c = b ∧ base' = base ∧ sz' = sz) ∨ (o ≠ h.n ∧ m o = some (c, base', sz')) := by
    intro o c base' sz' ho
    unfold M.set at ho
    split at ho
    · rename_i e; cases ho; exact .inl ⟨e, rfl, rfl, rfl⟩
    · rename_i e; exact .inr ⟨e, ho⟩
  refine ⟨⟨r.base, ?_, ?_, ?_, ?_, ?_, ?_, ?_, ?_, ?_, ?_, ?_, ?_, ?_⟩, hle⟩
  · intro o x hx
    obtain ⟨c, base', sz'⟩ := x
    rcases hnew o c base' sz' hx with ⟨rfl, _⟩ | ⟨_, hm⟩
    · exact Nat.lt_succ_self _
    · exact Nat.lt_succ_of_lt (r.lt _ _ hm)
  · intro o cs' g c base' sz' hg hx
    rw [H.get_push] at hg
    rcases hnew o c base' sz' hx with ⟨rfl, rfl, rfl, rfl⟩ | ⟨hne, hm⟩
    · simp only [if_true] at hg; cases hg
      exact ⟨hl, CS, e, fr, hc, hsz⟩
    · rw [if_neg hne] at hg; exact r.row hg hm
  · intro o cs' c base' sz' hg hx i a hi
    rcases hnew o c base' sz' hx with ⟨rfl, rfl, rfl, rfl⟩ | ⟨hne, hm⟩
    · have hrow : (h.push (.cells cs none)).row h.n = some cs := by
        unfold H.row; rw [H.get_push, if_pos rfl]
      rw [hrow] at hg; cases hg
      obtain ⟨v, h1, h2⟩ := hv i a hi
      exact ⟨v, h1, h2.mono hle⟩
    · have hr : h.row o = some cs' := by rw [← hg]; exact (H.row_push hne).symm
      obtain ⟨v, h1, h2⟩ := r.val hr hm i a hi
      exact ⟨v, h1, h2.mono hle⟩
  · intro o cs' g c base' sz' hg hx
    rw [H.get_push] at hg
    rcases hnew o c base' sz' hx with ⟨rfl, rfl, rfl, rfl⟩ | ⟨hne, hm⟩
    · simp only [if_true] at hg; cases hg
    · rw [if_neg hne] at hg; exact r.own hg hm
  · intro o cs' c base' sz' hg hx
    rw [H.get_push] at hg
    rcases hnew o c base' sz' hx with ⟨rfl, rfl, rfl, rfl⟩ | ⟨hne, hm⟩
    · exact hb
    · rw [if_neg hne] at hg; exact r.ro hg hm
  · intro o o' c base' sz' base'' sz'' hx hx' hne hB
    rcases hnew o c base' sz' hx with ⟨rfl, rfl, rfl, rfl⟩ | ⟨h1, hm⟩
    · omega
    · rcases hnew o' c base'' sz'' hx' with ⟨rfl, rfl, rfl, rfl⟩ | ⟨h2, hm'⟩
      · omega
      · obtain ⟨g, c1, c2, e1, e2⟩ := r.sep hm hm' hne hB
        exact ⟨g, c1, c2, by rw [H.get_push, if_neg h1]; exact e1, by rw [H.get_push, if_neg h2]; exact e2⟩
  · intro o o' g c1 c2 c base' sz' base'' sz'' hlt hg hg' hk hx hx'
    rw [H.get_push] at hg hg'
    rcases hnew o c base' sz' hx with ⟨rfl, rfl, rfl, rfl⟩ | ⟨h1, hm⟩
    · simp only [if_true] at hg; cases hg
    · rcases hnew o' c base'' sz'' hx' with ⟨rfl, rfl, rfl, rfl⟩ | ⟨h2, hm'⟩
      · simp only [if_true] at hg'; cases hg'
      · rw [if_neg h1] at hg; rw [if_neg h2] at hg'
        exact r.ord hlt hg hg' hk hm hm'
  · intro o c base' sz' hx
    rcases hnew o c base' sz' hx with ⟨rfl, rfl, rfl, rfl⟩ | ⟨h1, hm⟩
    · exact Nat.lt_of_lt_of_le hb r.base
    · exact r.blk hm
  · intro o x hx
    obtain ⟨c, base', sz'⟩ := x
    rcases hnew o c base' sz' hx with ⟨rfl, _⟩ | ⟨h1, hm⟩
    · exact ⟨_, by rw [H.get_push, if_pos rfl]⟩
    · obtain ⟨ob, hob⟩ := r.any hm
      exact ⟨ob, by rw [H.get_push, if_neg h1]; exact hob⟩
  · intro o L c base' sz' hg hx
    rw [H.get_push] at hg
    rcases hnew o c base' sz' hx with ⟨rfl, _⟩ | ⟨h1, hm⟩
    · simp at hg
    · rw [if_neg h1] at hg
      obtain ⟨q1, rec, q2, q3⟩ := r.lp hg hm
      exact ⟨q1, rec, q2, q3.mono hle⟩
  · intro o L c base' sz' hg hx
    rw [H.get_push] at hg
    rcases hnew o c base' sz' hx with ⟨rfl, _⟩ | ⟨h1, hm⟩
    · simp at hg
    · rw [if_neg h1] at hg
      obtain ⟨q1, q0, rec, q2, q3⟩ := r.mm hg hm
      exact ⟨q1, q0, rec, q2, q3.mono hle⟩
  · intro o g v hg
    rw [H.get_push] at hg
    split at hg
    · cases hg
    · obtain ⟨q1, v', q2, q3⟩ := r.gb hg
      exact ⟨q1, v', q2, q3.mono hle⟩
  · refine ⟨fun g p hg => Nat.lt_succ_of_lt (r.wf.gr g p hg), fun o cs' g hg => ?_, fun o x hg => ?_, r.wf.kt, r.wf.tl_push _⟩
    · rw [H.get_push] at hg
      split at hg
      · cases hg
      · exact r.wf.mem o cs' g hg
    · rw [H.get_push] at hg
      split at hg
      · rename_i e; subst e; exact Nat.lt_succ_self _
      · exact Nat.lt_succ_of_lt (r.wf.ob o x hg)

/-- a place of which nothing is known -/
theorem Rel.pushOther {m : M} {h : H} {w : World} (r : Rel P B0 m h w) {b base sz : Nat} (hb : b < B0) :
    Rel P B0 (m.set h.n (b, base, sz)) (h.push .other) w ∧ M.le m (m.set h.n (b, base, sz)) := by
  have hle : M.le m (m.set h.n (b, base, sz)) := M.set_le _ r.fresh
  have hnew : ∀ o c base' sz', (m.set h.n (b, base, sz)) o = some (c, base', sz') → (o = h.n ∧ c = b ∧ base' = base ∧ sz' = sz) ∨ (o ≠ h.n ∧ m o = some (c, base', sz')) := by
    intro o c base' sz' ho
    unfold M.set at ho
    split at ho
    · rename_i e; cases ho; exact .inl ⟨e, rfl, rfl, rfl⟩
    · rename_i e; exact .inr ⟨e, ho⟩
  refine ⟨⟨r.base, ?_, ?_, ?_, ?_, ?_, ?_, ?_, ?_, ?_, ?_, ?_, ?_, ?_⟩, hle⟩
  · intro o x hx
    obtain ⟨c, base', sz'⟩ := x
    rcases hnew o c base' sz' hx with ⟨rfl, _⟩ | ⟨_, hm⟩
    · exact Nat.lt_succ_self _
    · exact Nat.lt_succ_of_lt (r.lt _ _ hm)
  · intro o cs' g c base' sz' hg hx
    rw [H.get_push] at hg
    rcases hnew o c base' sz' hx with ⟨rfl, rfl, rfl, rfl⟩ | ⟨hne, hm⟩
    · simp only [if_true] at hg; cases hg
    · rw [if_neg hne] at hg; exact r.row hg hm
  · intro o cs' c base' sz' hg hx i a hi
    rcases hnew o c base' sz' hx with ⟨rfl, rfl, rfl, rfl⟩ | ⟨hne, hm⟩
    · have hrow : (h.push .other).row h.n = none := by
        unfold H.row; rw [H.get_push, if_pos rfl]
      rw [hrow] at hg; cases hg
    · have hr : h.row o = some cs' := by rw [← hg]; exact (H.row_push hne).symm
      obtain ⟨v, h1, h2⟩ := r.val hr hm i a hi
      exact ⟨v, h1, h2.mono hle⟩
  · intro o cs' g c base' sz' hg hx
    rw [H.get_push] at hg
    rcases hnew o c base' sz' hx with ⟨rfl, rfl, rfl, rfl⟩ | ⟨hne, hm⟩
    · simp only [if_true] at hg; cases hg
    · rw [if_neg hne] at hg; exact r.own hg hm
  · intro o cs' c base' sz' hg hx
    rw [H.get_push] at hg
    rcases hnew o c base' sz' hx with ⟨rfl, rfl, rfl, rfl⟩ | ⟨hne, hm⟩
    · exact hb
    · rw [if_neg hne] at hg; exact r.ro hg hm
  · intro o o' c base' sz' base'' sz'' hx hx' hne hB
    rcases hnew o c base' sz' hx with ⟨rfl, rfl, rfl, rfl⟩ | ⟨h1, hm⟩
    · omega
    · rcases hnew o' c base'' sz'' hx' with ⟨rfl, rfl, rfl, rfl⟩ | ⟨h2, hm'⟩
      · omega
      · obtain ⟨g, c1, c2, e1, e2⟩ := r.sep hm hm' hne hB
        exact ⟨g, c1, c2, by rw [H.get_push, if_neg h1]; exact e1, by rw [H.get_push, if_neg h2]; exact e2⟩
  · intro o o' g c1 c2 c base' sz' base'' sz'' hlt hg hg' hk hx hx'
    rw [H.get_push] at hg hg'
    rcases hnew o c base' sz' hx with ⟨rfl, rfl, rfl, rfl⟩ | ⟨h1, hm⟩
    · simp only [if_true] at hg; cases hg
    · rcases hnew o' c base'' sz'' hx' with ⟨rfl, rfl, rfl, rfl⟩ | ⟨h2, hm'⟩
      · simp only [if_true] at hg'; cases hg'
      · rw [if_neg h1] at hg; rw [if_neg h2] at hg'
        exact r.ord hlt hg hg' hk hm hm'
  · intro o c base' sz' hx
    rcases hnew o c base' sz' hx with ⟨rfl, rfl, rfl, rfl⟩ | ⟨h1, hm⟩
    · exact Nat.lt_of_lt_of_le hb r.base
    · exact r.blk hm
  · intro o x hx
    obtain ⟨c, base', sz'⟩ := x
    rcases hnew o c base' sz' hx with ⟨rfl, _⟩ | ⟨h1, hm⟩
    · exact ⟨_, by rw [H.get_push, if_pos rfl]⟩
    · obtain ⟨ob, hob⟩ := r.any hm
      exact ⟨ob, by rw [H.get_push, if_neg h1]; exact hob⟩
  · intro o L c base' sz' hg hx
    rw [H.get_push] at hg
    rcases hnew o c base' sz' hx with ⟨rfl, _⟩ | ⟨h1, hm⟩
    · simp at hg
    · rw [if_neg h1] at hg
      obtain ⟨q1, rec, q2, q3⟩ := r.lp hg hm
      exact ⟨q1, rec, q2, q3.mono hle⟩
  · intro o L c base' sz' hg hx
    rw [H.get_push] at hg
    rcases hnew o c base' sz' hx with ⟨rfl, _⟩ | ⟨h1, hm⟩
    · simp at hg
    · rw [if_neg h1] at hg
      obtain ⟨q1, q0, rec, q2, q3⟩ := r.mm hg hm
      exact ⟨q1, q0, rec, q2, q3.mono hle⟩
  · intro o g v hg
    rw [H.get_push] at hg
    split at hg
    · cases hg
    · obtain ⟨q1, v', q2, q3⟩ := r.gb hg
      exact ⟨q1, v', q2, q3.mono hle⟩
  · refine ⟨fun g p hg => Nat.lt_succ_of_lt (r.wf.gr g p hg), fun o cs' g hg => ?_, fun o x hg => ?_, r.wf.kt, r.wf.tl_push _⟩
    · rw [H.get_push] at hg
      split at hg
      · cases hg
      · exact r.wf.mem o cs' g hg
    · rw [H.get_push] at hg
      split at hg
      · rename_i e; subst e; exact Nat.lt_succ_self _
      · exact Nat.lt_succ_of_lt (r.wf.ob o x hg)

/-! ### calls that are run apart -/
/-- values that point nowhere -/
def flat : AV → Bool
  | .bool _ | .int _ _ | .str _ => true
  | _ => false
theorem VRel.flat_any {m m' : M} {a : AV} {v : Value} (h : VRel m a v) (hf : flat a = true) : VRel m' a v := by
  cases h <;> first | (cases hf; done) | constructor
theorem VRels.flat_any {m m' : M} : ∀ {l : List AV} {l' : List Value}, VRels m l l' → l.all flat = true → VRels m' l l'
  | _, _, .nil, _ => .nil
  | _, _, .cons h t, hf => by
    simp only [List.all_cons, Bool.and_eq_true] at hf
    exact .cons (h.flat_any hf.1) (t.flat_any hf.2)
/-- an answer that points nowhere -/
def flatOut : AV → Bool
  | .tup vs => vs.all flat
  | v => flat v
theorem VRel.flat_out {m m' : M} {a : AV} {v : Value} (h : VRel m a v) (hf : flatOut a = true) : VRel m' a v := by
  cases h
  case tup cs cs' h => exact .tup (h.flat_any hf)
  all_goals first | (cases hf; done) | constructor

/-- a start at which a package-level variable holds a slice -/
def HG (g len : Nat) (cs : List AV) : H := (H0.push (.glob g (.slice 1 0 len 1))).push (.cells cs none)
def MG (x : Nat × Nat × Nat) : M := fun o => if o = 1 then some x else none
theorem HG_0 (g len : Nat) (cs : List AV) : (HG g len cs).get 0 = some (.glob g (.slice 1 0 len 1)) := by
  show H.get _ _ = _
  unfold HG; rw [H.get_push, H.get_push]; simp [H.push, H0]
theorem HG_1 (g len : Nat) (cs : List AV) : (HG g len cs).get 1 = some (.cells cs none) := by
  unfold HG; rw [H.get_push]; simp [H.push, H0]
theorem HG_none (g len : Nat) (cs : List AV) (o : Nat) : (HG g len cs).get (o + 2) = none := by
  unfold HG; rw [H.get_push, if_neg (by simp [H.push, H0]), H.get_push, if_neg (by simp [H0])]; rfl
theorem Rel.startG {w : World} {g len cap b base sz : Nat} {cs : List AV} {CS : Array Value} {e : TypeId} {fr : Nat × Nat} (hb : w.heap[b]? = some (.cells CS e fr)) (hsz : CS.size = sz) (hl : base + cs.length ≤ sz)
    (hv : ∀ (i : Nat) (a : AV), cs[i]? = some a → ∃ v, w.cell? ⟨b, base + i, none⟩ = some v ∧ VRel (MG (b, base, sz)) a v) (hg : g < w.heap.size) (hcell : w.cell? ⟨g, 0, none⟩ = some (.slice (some ⟨b, base, none⟩) len cap)) (hlen : len ≤ cap) (hs : base + cap ≤ sz) :
    Rel P w.heap.size (MG (b, base, sz)) (HG g len cs) w := by
  have hm : ∀ {o x}, MG (b, base, sz) o = some x → o = 1 ∧ x = (b, base, sz) := by
    intro o x h
    unfold MG at h
    split at h
    · cases h; exact ⟨by assumption, rfl⟩
    · cases h
  have hbs : b < w.heap.size := (Array.getElem?_eq_some_iff.1 hb).1
  refine ⟨Nat.le_refl _, ?_, ?_, ?_, ?_, ?_, ?_, ?_, ?_, ?_, ?_, ?_, ?_, ?_⟩
  · intro o x h; obtain ⟨rfl, _⟩ := hm h; exact Nat.lt_succ_self 1
  · intro o c gr b' base' sz' h1 h2
    obtain ⟨rfl, e2⟩ := hm h2
    cases e2
    rw [HG_1] at h1; cases h1
    exact ⟨hl, CS, e, fr, hb, hsz⟩
  · intro o c b' base' sz' h1 h2 i a hi
    obtain ⟨rfl, e2⟩ := hm h2
    cases e2
    unfold H.row at h1; rw [HG_1] at h1; cases h1
    exact hv i a hi
  · intro o c gr b' base' sz' h1 h2
    obtain ⟨rfl, e2⟩ := hm h2
    rw [HG_1] at h1; cases h1
  · intro o c b' base' sz' h1 h2
    obtain ⟨rfl, e2⟩ := hm h2
    cases e2; exact hbs
  · intro o o' b' base' sz' base2 sz2 h1 h2 h3 h4
    obtain ⟨rfl, e1⟩ := hm h1
    obtain ⟨rfl, e2⟩ := hm h2
    exact absurd rfl h3
  · intro o o' gr c c' b' base' sz' base2 sz2 hlt h1 h2 h3 h4 h5
    obtain ⟨rfl, _⟩ := hm h4
    obtain ⟨rfl, _⟩ := hm h5
    omega
  · intro o b' base' sz' h1
    obtain ⟨rfl, e1⟩ := hm h1
    cases e1; exact hbs
  · intro o x h1
    obtain ⟨rfl, _⟩ := hm h1
    exact ⟨_, HG_1 g len cs⟩
  · intro o L b' base' sz' h1 h2
    obtain ⟨rfl, _⟩ := hm h2
    rw [HG_1] at h1; cases h1
  · intro o X b' base' sz' h1 h2
    obtain ⟨rfl, _⟩ := hm h2
    rw [HG_1] at h1; cases h1
  · intro o g' v h1
    match o with
    | 0 =>
      rw [HG_0] at h1; cases h1
      refine ⟨hg, _, hcell, ?_⟩
      have := VRel.slice (m := MG (b, base, sz)) (o := 1) 0 len 1 cap (b := b) (base := base) (sz := sz) (by unfold MG; rw [if_pos rfl]) hlen (by omega)
      simpa using this
    | 1 => rw [HG_1] at h1; cases h1
    | o + 2 => rw [HG_none] at h1; cases h1
  · have hgr : ∀ g', (HG g len cs).gr.get g' = none := fun g' => rfl
    refine ⟨fun g' p h => (by rw [hgr] at h; cases h), ?_, ?_, fun g' p h => (by rw [hgr] at h; cases h), ?_⟩
    · intro o c gr h1
      match o with
      | 0 => rw [HG_0] at h1; cases h1
      | 1 => rw [HG_1] at h1; cases h1
      | o + 2 => rw [HG_none] at h1; cases h1
    · intro o x h1
      match o with
      | 0 => exact Nat.zero_lt_succ 1
      | 1 => exact Nat.lt_succ_self 1
      | o + 2 => rw [HG_none] at h1; cases h1
    · intro gr h1; exact h1

/-- a call with arguments that point nowhere, run at a start of its own, stands for the call on any memory that has that start -/
theorem apart_core {E : Env} (hm : P.follows .mixedOrders = true) (hT : TableOK P E) (hO : ∀ B, B ≠ 0 → OvOK P B E.ov) (hB : B0 ≠ 0) (hplain : ∀ g fn, E.R g = some fn → fn.ops.all (fun st => st.op.plain) = true) {k f : Nat} {args : List AV} {v : AV} {hS h1 : H} (ha : args.all flat = true) (hv : flatOut v = true)
    (he : (ev E k).call (.fn f) args hS = some (.val v, h1)) {h : H} (hst : ∀ (m : M) (w : World), Rel P B0 m h w → ∃ mS, Rel P w.heap.size mS hS w) : FnOK P B0 f args h (fun r1 h1 => r1 = .val v ∧ h1 = h) := by
  intro m w cargs hr hargs
  obtain ⟨mS, hrS⟩ := hst m w hr
  have key := sound_call hm hT (hO w.heap.size (by have := hr.base; omega)) hplain he mS w cargs hrS (hargs.flat_any ha)
  refine key.mono ?_
  rintro e w' ⟨r1, h2, ⟨rfl, rfl⟩, m1, hE, r1, f1⟩
  cases hE with
  | val hvr =>
    have hsame : ∀ b, b < w.heap.size → w'.heap[b]? = w.heap[b]? := fun b hb => f1.blk b hb (.inl hb)
    exact ⟨.val v, h, ⟨rfl, rfl⟩, m, .val (hvr.flat_out hv), hr.same f1.size hsame, ⟨M.le_refl m, f1.os, f1.tape, f1.output, f1.size, fun b hb _ => hsame b hb, Nat.le_refl _, fun o _ hmo => ⟨rfl, hmo⟩, fun o b base sz h1 h2 => (by rw [h2] at h1; cases h1), fun h => absurd h hB⟩⟩
theorem apart_ok {E : Env} (hm : P.follows .mixedOrders = true) (hT : TableOK P E) (hO : ∀ B, B ≠ 0 → OvOK P B E.ov) (hB : B0 ≠ 0) (hplain : ∀ g fn, E.R g = some fn → fn.ops.all (fun st => st.op.plain) = true) {k f : Nat} {args : List AV} {v : AV} {h1 : H} (ha : args.all flat = true) (hv : flatOut v = true)
    (he : (ev E k).call (.fn f) args H0 = some (.val v, h1)) (h : H) : FnOK P B0 f args h (fun r1 h1 => r1 = .val v ∧ h1 = h) :=
  apart_core hm hT hO hB hplain ha hv he fun m w hr => ⟨M0, Rel.start (Nat.le_refl _)⟩
/-- the start of a memory -/
structure StartG (g len : Nat) (cs : List AV) (h : H) : Prop where
  glob : h.get 0 = some (.glob g (.slice 1 0 len 1))
  row : h.get 1 = some (.cells cs none)
theorem Rel.restart {m : M} {h : H} {w : World} (r : Rel P B0 m h w) {g len : Nat} {cs : List AV} (hs : StartG g len cs h) (hlen : 0 < len) (hcs : cs.all flat = true) : ∃ mS, Rel P w.heap.size mS (HG g len cs) w := by
  obtain ⟨hg, v', hcell, hv⟩ := r.gb hs.glob
  cases hv with
  | @slice _ b base sz _ _ _ cap hm hl hsz =>
    have hrow : h.row 1 = some cs := by unfold H.row; rw [hs.row]
    obtain ⟨hle, CS, e, fr, hb, hc⟩ := r.row hs.row hm
    refine ⟨MG (b, base, sz), Rel.startG (cap := cap) hb hc hle ?_ (Nat.lt_of_lt_of_le hg r.base) (by simpa using hcell) hl (by simpa using hsz)⟩
    intro i a hi
    obtain ⟨v, h1, h2⟩ := r.val hrow hm i a hi
    exact ⟨v, h1, h2.flat_any (List.all_eq_true.1 hcs a (List.mem_of_getElem? hi))⟩
  | slice0 => omega
theorem apart_okG {E : Env} (hm : P.follows .mixedOrders = true) (hT : TableOK P E) (hO : ∀ B, B ≠ 0 → OvOK P B E.ov) (hB : B0 ≠ 0) (hplain : ∀ g fn, E.R g = some fn → fn.ops.all (fun st => st.op.plain) = true) {k f : Nat} {args : List AV} {v : AV} {g len : Nat} {cs : List AV} {h1 : H} (ha : args.all flat = true) (hv : flatOut v = true)
    (hlen : 0 < len) (hcs : cs.all flat = true) (he : (ev E k).call (.fn f) args (HG g len cs) = some (.val v, h1)) {h : H} (hs : StartG g len cs h) : FnOK P B0 f args h (fun r1 h1 => r1 = .val v ∧ h1 = h) :=
  apart_core hm hT hO hB hplain ha hv he fun m w hr => hr.restart hs hlen hcs
/-- has a memory such a start? -/
def startB (g len : Nat) (cs : List AV) (h : H) : Bool :=
  (match h.get 0 with | some (.glob g' v) => g' == g && v.beq (.slice 1 0 len 1) | _ => false) && (match h.get 1 with | some (.cells c none) => AV.beqs c cs | _ => false)
theorem startB_ok {g len : Nat} {cs : List AV} {h : H} (hb : startB g len cs h = true) : StartG g len cs h := by
  unfold startB at hb
  simp only [Bool.and_eq_true] at hb
  obtain ⟨h1, h2⟩ := hb
  constructor
  · split at h1
    · rename_i g' v hg
      simp only [Bool.and_eq_true, beq_iff_eq] at h1
      rw [hg, h1.1, AV.beq_eq h1.2]
    · cases h1
  · split at h2
    · rename_i c hg
      rw [hg, AV.beqs_eq h2]
    · cases h2
theorem startB_of {g len : Nat} {cs : List AV} {h : H} (hs : StartG g len cs h) : startB g len cs h = true := by
  unfold startB
  rw [hs.glob, hs.row]
  simp [AV.beq_refl, AV.beqs_refl]
end
end Go.Proofs.YtlbaphapjclkdaaGreatDoor.Ev

/- Rules for what code and calls come to. -/
namespace Go.Proofs.YtlbaphapjclkdaaGreatDoor.Ev
set_option linter.unusedVariables false
set_option linter.unusedSimpArgs false

def WC (E : Env) (c : ACode) (Q : Post) (s : S) (h : H) : Prop := Holds E (.code c s h Q)
def WCall (E : Env) (f : Nat) (args : List AV) (h : H) (R : AOut → H → Prop) : Prop := Holds E (.call (.fn f) args h R)
/-- a call of a loop's yield -/
def WYield (E : Env) (o : Nat) (args : List AV) (h : H) (R : AOut → H → Prop) : Prop := Holds E (.call (.yld o) args h R)
/-- what calls come to in an environment -/
def CallE (E : Env) : CallP := fun f a h R => Holds E (.call f a h R)
/-- a body that defers -/
def WD (E : Env) (d : DCode) (rs : List ARes) (R : AOut → H → Prop) (s : S) (h : H) : Prop := Holds E (.dcode d rs s h R)
/-- a deferred call; u: the panic behind which it is made -/
def WRec (E : Env) (f : AV) (u : Option AV) (h : H) (R : H → Prop) : Prop := Holds E (.rcv f u h R)

section
variable {E : Env}

theorem WC.mono {c : ACode} {Q Q' : Post} {s : S} {h : H} (w : WC E c Q s h) (hq : ∀ ex s h, Q ex s h → Q' ex s h) : WC E c Q' s h := Holds.mono w hq
theorem WCall.mono {f : Nat} {args : List AV} {h : H} {R R' : AOut → H → Prop} (w : WCall E f args h R) (hr : ∀ r h, R r h → R' r h) : WCall E f args h R' := Holds.monoC w hr
theorem WYield.mono {o : Nat} {args : List AV} {h : H} {R R' : AOut → H → Prop} (w : WYield E o args h R) (hr : ∀ r h, R r h → R' r h) : WYield E o args h R' := Holds.monoC w hr

/-- a call, or another operation -/
def WOp (E : Env) (op : AOp) (s : S) (h : H) (K : AV → H → Prop) (Pn : AV → H → Prop) : Prop := WOpG (CallE E) op s h K Pn
def WOps (E : Env) (l : List AStep) (Q : Post) (s : S) (h : H) : Prop := WOpsG (CallE E) l Q s h
def WDraw (E : Env) (Pn : AV → H → Prop) (l : List DStep) (pd : List Pend) (Q : S → H → Prop) (s : S) (h : H) : Prop := WDrawG (CallE E) Pn l pd Q s h
theorem WOp_plain {op : AOp} (hp : op.plain = true) (s : S) (h : H) (K Pn : AV → H → Prop) : WOp E op s h K Pn = WX (exec op s h) K := WOpG_plain hp s h K Pn

theorem WC_skip {Q : Post} {s : S} {h : H} (w : Q .normal s h) : WC E .skip Q s h := .skip w
theorem WC_exit {id : Nat} {Q : Post} {s : S} {h : H} (w : Q (.exit id) s h) : WC E (.exit id) Q s h := .exit w
theorem WC_ret {Q : Post} {s : S} {h : H} (w : Q .ret s h) : WC E .ret Q s h := .ret w
theorem WC_ops {l : List AStep} {Q : Post} {s : S} {h : H} (w : WOps E l Q s h) : WC E (.ops l) Q s h := .ops _ (fun _ _ _ _ c => c) w
theorem WC_draw {l : List DStep} {Q : Post} {s : S} {h : H} (w : WDraw E (panD l s Q) l [] (Q .normal) s h) : WC E (.draw l) Q s h := .draw _ (fun _ _ _ _ c => c) w
theorem WC_seq {a b : ACode} {Q : Post} {s : S} {h : H} (w : WC E a (andThen (WC E b Q) Q) s h) : WC E (.seq a b) Q s h := .seq _ w (fun _ _ k => k)
theorem WC_cond {c : AOpd} {t : Bool} {a b : ACode} {Q : Post} {s : S} {h : H} (hc : c.ev s = .bool t) (w : WC E (if t then a else b) Q s h) : WC E (.cond c a b) Q s h := .cond hc w
theorem WC_block {id : Nat} {c : ACode} {Q : Post} {s : S} {h : H} (w : WC E c (atExit id Q) s h) : WC E (.block id c) Q s h := .block w
theorem WC_scope {c : ACode} {Q : Post} {s : S} {h : H} (w : WC E c Q s h) : WC E (.scope c) Q s h := .scope w
theorem WC_loop1 {c : ACode} {Q : Post} {s : S} {h : H} (w : WC E c (andThen (WC E (.loop c) Q) Q) s h) : WC E (.loop c) Q s h := .loop _ w (fun _ _ k => k)
theorem WC_loop {c : ACode} {Q : Post} (I : Nat → S → H → Prop) (step : ∀ n s h, I n s h → WC E c (andThen (fun s h => ∃ m, m < n ∧ I m s h) Q) s h) : ∀ (n : Nat) {s : S} {h : H}, I n s h → WC E (.loop c) Q s h := by
  intro n
  induction n using Nat.strongRecOn with
  | _ n ih =>
    intro s h hI
    exact .loop _ (step n s h hI) (fun s h ⟨m, hm, hI⟩ => ih m hm hI)
/-- a loop whose measure is of any kind -/
theorem WC_loopW {α : Type} {r : α → α → Prop} (wf : WellFounded r) {c : ACode} {Q : Post} (I : α → S → H → Prop) (step : ∀ n s h, I n s h → WC E c (andThen (fun s h => ∃ m, r m n ∧ I m s h) Q) s h) : ∀ (n : α) {s : S} {h : H}, I n s h → WC E (.loop c) Q s h := by
  intro n
  induction n using wf.induction with
  | _ n ih =>
    intro s h hI
    exact .loop _ (step n s h hI) (fun s h ⟨m, hm, hI⟩ => ih m hm hI)
theorem WC_range {nt : Nat} {f : AOpd} {ps : List Nat} {assign body : ACode} {Q : Post} {s : S} {h : H} {g : Nat} {cs : List AV} (hf : f.ev s = .func g cs) (hg : (E.T g).isSome = true)
    (w : WCall E g (.yield h.n :: cs) (h.push (.loop ⟨0, none, nt, s, ps, assign, body⟩)) (loopEnd Q s h.n)) : WC E (.range nt f ps assign body) Q s h := .range hf hg w
theorem WYield_round {o : Nat} {args : List AV} {h : H} {R : AOut → H → Prop} {L : LoopRec} (hL : h.get o = some (.loop L)) (hl : args.length = L.ps.length)
    (w : WC E L.assign (fun ex s1 h1 => ex = .normal ∧ ∃ L1, h1.get o = some (.loop L1) ∧ L1.st = 0 ∧ WC E L.body (roundEnd R o) s1 (h1.setLoop o { L1 with st := 1 })) (setPs L.s L.ps args) h) : WYield E o args h R := by
  classical
  refine .yld hL hl (fun s1 h1 => ∃ L1, h1.get o = some (.loop L1) ∧ L1.st = 0 ∧ WC E L.body (roundEnd R o) s1 (h1.setLoop o { L1 with st := 1 }))
    (fun s1 h1 => if hx : ∃ L1, h1.get o = some (.loop L1) ∧ L1.st = 0 ∧ WC E L.body (roundEnd R o) s1 (h1.setLoop o { L1 with st := 1 }) then Classical.choose hx else L) w ?_ ?_ ?_
  · intro s1 h1 hx
    rw [dif_pos hx]; exact (Classical.choose_spec hx).1
  · intro s1 h1 hx
    simp only [dif_pos hx]; exact (Classical.choose_spec hx).2.1
  · intro s1 h1 hx
    simp only [dif_pos hx]; exact (Classical.choose_spec hx).2.2
theorem WCall_fn {f : Nat} {fn : AFunc} {args : List AV} {h : H} {R : AOut → H → Prop} (ho : E.ov f = none) (hT : E.T f = some fn) (hl : args.length ≤ fn.ntmps) (w : WC E fn.body (atEnd fn.results R) (enterS args) h) : WCall E f args h R := .fn ho hT hl w
theorem WCall_fnD {f : Nat} {fn : ADef} {args : List AV} {h : H} {R : AOut → H → Prop} (ho : E.ov f = none) (hT : E.D f = some fn) (hl : args.length ≤ fn.ntmps) (w : WD E fn.body fn.results R (enterS args) h) : WCall E f args h R := .fnD ho hT hl w
theorem WCall_ov {f : Nat} {g : List AV → H → Option (AOut × H)} {args : List AV} {h h' : H} {r : AOut} {R : AOut → H → Prop} (ho : E.ov f = some g) (hg : g args h = some (r, h')) (hr : R r h') : WCall E f args h R := .ov ho hg hr
theorem WD_seq {a : ACode} {d : DCode} {rs : List ARes} {R : AOut → H → Prop} {s : S} {h : H} (w : WC E a (andThen (WD E d rs R) (atEnd rs R)) s h) : WD E (.seq a d) rs R s h := .dseq _ w (fun _ _ k => k)
/-- behind a deferring: the rest, and then the deferred call -/
theorem WD_dfr {l : List AStep} {f : AOpd} {post : ACode} {rs : List ARes} {R : AOut → H → Prop} {s : S} {h : H}
    (w : WOps E l (fun ex s1 h1 => ex = .normal ∧ (∃ g cs, f.ev s1 = .func g cs) ∧ WC E post (fun ex s2 h2 => ∃ u, panOf ex = some u ∧ WRec E (f.ev s1) u h2 (atLast rs s2 R)) s1 h1) s h) : WD E (.dfr l f post) rs R s h := by
  refine .dfr _ (fun _ _ _ _ c => c) (fun s1 h1 => (∃ g cs, f.ev s1 = .func g cs) ∧ WC E post (fun ex s2 h2 => ∃ u, panOf ex = some u ∧ WRec E (f.ev s1) u h2 (atLast rs s2 R)) s1 h1) w (fun _ _ k => k.1)
    (fun s1 _ ex s2 h2 => ∃ u, panOf ex = some u ∧ WRec E (f.ev s1) u h2 (atLast rs s2 R)) (fun _ _ k => k.2) ?_ ?_
  · rintro s1 h1 _ ex s2 h2 ⟨u, hu, _⟩; rw [hu]; rfl
  · rintro s1 h1 _ ex s2 h2 u ⟨u', hu', k⟩ hu
    rw [hu] at hu'; cases hu'; exact k
theorem WRec_run {g : Nat} {cs : List AV} {fn : ARec} {u : Option AV} {h : H} {R : H → Prop} (hR : E.R g = some fn) (hl : cs.length ≤ fn.ntmps)
    (w : WOpsG (fun _ _ _ _ => False) fn.ops (fun ex s h => ex = .normal ∧ WC E fn.body (fun ex _ h => (ex = .normal ∨ ex = .ret) ∧ R h) s h) (upd (enterS cs) (some fn.dst) (u.getD .nili)) h) : WRec E (.func g cs) u h R :=
  .recv hR hl _ w (fun _ _ k => k)
end
end Go.Proofs.YtlbaphapjclkdaaGreatDoor.Ev

/- Slices over the abstract heap: what they hold, what a step leaves as it was. -/
namespace Go.Proofs.YtlbaphapjclkdaaGreatDoor.Ev
set_option linter.unusedVariables false
set_option linter.unusedSimpArgs false

/-- rows that are as they were -/
structure Keep (K : Nat → Prop) (h h' : H) : Prop where
  wf : h.Wf → h'.Wf
  n : h.n ≤ h'.n
  get : ∀ o, K o → h'.get o = h.get o
  tip : ∀ g, K g → h'.tip g = h.tip g
  kill : ∀ g, K g → h'.kill g = h.kill g
theorem Keep.refl (K : Nat → Prop) (h : H) : Keep K h h := ⟨id, Nat.le_refl _, fun _ _ => rfl, fun _ _ => rfl, fun _ _ => rfl⟩
theorem Keep.trans {K : Nat → Prop} {h h1 h2 : H} (a : Keep K h h1) (b : Keep K h1 h2) : Keep K h h2 :=
  ⟨fun w => b.wf (a.wf w), Nat.le_trans a.n b.n, fun o k => (b.get o k).trans (a.get o k), fun o k => (b.tip o k).trans (a.tip o k), fun o k => (b.kill o k).trans (a.kill o k)⟩
theorem Keep.weaken {K K' : Nat → Prop} {h h' : H} (a : Keep K h h') (hk : ∀ o, K' o → K o) : Keep K' h h' :=
  ⟨a.wf, a.n, fun o k => a.get o (hk o k), fun o k => a.tip o (hk o k), fun o k => a.kill o (hk o k)⟩
/-- all that was there -/
abbrev Old (N : Nat) : Nat → Prop := fun o => o < N
theorem Keep.less {N N' : Nat} {h h' : H} (a : Keep (Old N) h h') (hn : N' ≤ N) : Keep (Old N') h h' := a.weaken fun o ho => Nat.lt_of_lt_of_le ho hn
/-- two steps, the second with all that was there ahead of it -/
theorem Keep.then {h h1 h2 : H} {N : Nat} (a : Keep (Old N) h h1) (hN : N ≤ h.n) (b : Keep (Old h1.n) h1 h2) : Keep (Old N) h h2 := a.trans (b.less (Nat.le_trans hN a.n))

/-- the row of a value stands among these -/
def Slot (K : Nat → Prop) (h : H) : AV → Prop
  | .slice o _ _ _ | .ptr o _ => K o ∧ ∀ cs g, h.get o = some (.cells cs (some g)) → K g
  | _ => True
theorem Slot.mono {K K' : Nat → Prop} {h : H} {v : AV} (s : Slot K h v) (hk : ∀ o, K o → K' o) : Slot K' h v := by
  cases v <;> first | trivial | exact ⟨hk _ s.1, fun cs g e => hk _ (s.2 cs g e)⟩
theorem Slot.keep {K K' : Nat → Prop} {h h' : H} {v : AV} (s : Slot K h v) (k : Keep K h h') (hk : ∀ o, K o → K' o) : Slot K' h' v := by
  cases v <;> first | trivial | exact ⟨hk _ s.1, fun cs g e => hk _ (s.2 cs g (by rw [← k.get _ s.1]; exact e))⟩
theorem row_keep {K : Nat → Prop} {h h' : H} (k : Keep K h h') {o : Nat} (ho : K o) (hg : ∀ cs g, h.get o = some (.cells cs (some g)) → K g) : h'.row o = h.row o := by
  unfold H.row
  rw [k.get o ho]
  cases hx : h.get o with
  | none => rfl
  | some x =>
    cases x with
    | other => rfl
    | loop L => rfl
    | mem X => rfl
    | glob g v => rfl
    | cells cs g =>
      cases g with
      | none => rfl
      | some g => simp only; rw [k.kill g (hg cs g hx)]
theorem firstCells_keep {K : Nat → Prop} {h h' : H} (k : Keep K h h') {v : AV} (s : Slot K h v) (es n : Nat) : h'.firstCells es n v = h.firstCells es n v := by
  cases v <;> first | rfl | skip
  simp only [H.firstCells]
  rw [row_keep k s.1 s.2]

/-- a slice of n elements, its cells -/
structure Sl (h : H) (es : Nat) (v : AV) (n : Nat) (cs : List AV) : Prop where
  len : lenSA v = some n
  cells : h.firstCells es n v = some cs
theorem Sl.keep {K : Nat → Prop} {h h' : H} {es n : Nat} {v : AV} {cs : List AV} (a : Sl h es v n cs) (k : Keep K h h') (s : Slot K h v) : Sl h' es v n cs :=
  ⟨a.len, by rw [firstCells_keep k s]; exact a.cells⟩
theorem Sl.lenA {h : H} {es n : Nat} {v : AV} {cs : List AV} (a : Sl h es v n cs) : lenA v = some n := by
  have := a.len
  cases v <;> simp only [lenSA] at this <;> first | (cases this; done) | exact this
theorem Sl.size {h : H} {es n : Nat} {v : AV} {cs : List AV} (a : Sl h es v n cs) : cs.length = n * es := by
  obtain ⟨h1, h2⟩ := a
  cases v <;> simp only [lenSA] at h1 <;> (try (cases h1; done))
  case nils => cases h1; simp [H.firstCells] at h2; subst h2; simp
  case slice o i len es' =>
    cases h1
    simp only [H.firstCells] at h2
    split at h2
    · split at h2
      · split at h2
        · cases h2; simp; omega
        · cases h2
      · split at h2
        · rename_i h3; cases h2; simp only [List.length_nil]; omega
        · cases h2
    · cases h2
theorem Sl.nil (h : H) (es : Nat) : Sl h es .nils 0 [] := ⟨rfl, rfl⟩

/-- may be appended to, with no other slice seeing it: made behind the first N rows -/
def Own (N : Nat) (h : H) : AV → Prop
  | .nils => True
  | .slice o i len es => ∃ cs g, h.get o = some (.cells cs (some g)) ∧ h.tip g = o ∧ h.kill g ≤ o ∧ N ≤ g ∧ N ≤ o ∧ i + len * es ≤ cs.length ∧ ∃ cs', h.get g = some (.cells cs' (some g))
  | _ => False
theorem Own.less {N N' : Nat} {h : H} {v : AV} (a : Own N h v) (hn : N' ≤ N) : Own N' h v := by
  cases v <;> first | exact a | skip
  obtain ⟨cs, g, h1, h2, h3, h4, h5, h6⟩ := a
  exact ⟨cs, g, h1, h2, h3, Nat.le_trans hn h4, Nat.le_trans hn h5, h6⟩
theorem Own.keep {N : Nat} {K : Nat → Prop} {h h' : H} {v : AV} (a : Own N h v) (s : Slot K h v) (k : Keep K h h') : Own N h' v := by
  cases v <;> first | exact a | skip
  obtain ⟨cs, g, h1, h2, h3, h4, h5, h6⟩ := a
  have kg := s.2 cs g h1
  exact ⟨cs, g, by rw [k.get _ s.1]; exact h1, by rw [k.tip _ kg]; exact h2, by rw [k.kill _ kg]; exact h3, h4, h5, h6.1, by rw [k.get _ kg]; exact h6.2⟩
theorem Own.slot {N : Nat} {h : H} (wf : h.Wf) {v : AV} (a : Own N h v) : Slot (Old h.n) h v := by
  cases v <;> first | trivial | skip
  obtain ⟨cs, g, h1, h2, h3, h4, h5, h6⟩ := a
  exact ⟨wf.ob _ _ h1, fun cs' g' e => Nat.lt_of_le_of_lt (wf.mem _ _ _ e).1 (wf.ob _ _ h1)⟩

theorem Keep.new {N : Nat} {h : H} (hN : N ≤ h.n) (vs : List AV) : Keep (Old N) h (h.new vs) where
  wf := fun w => w.new vs
  n := Nat.le_succ _
  get := fun o ho => by rw [show (h.new vs).get o = _ from H.get_push _ _ _, if_neg]; exact Nat.ne_of_lt (Nat.lt_of_lt_of_le ho hN)
  tip := fun _ _ => rfl
  kill := fun _ _ => rfl
theorem get_new (h : H) (vs : List AV) : (h.new vs).get h.n = some (.cells vs (some h.n)) := by
  rw [show (h.new vs).get h.n = _ from H.get_push _ _ _, if_pos rfl]
theorem row_new {h : H} (wf : h.Wf) (vs : List AV) : (h.new vs).row h.n = some vs := by
  unfold H.row
  rw [get_new]
  simp only
  rw [show (h.new vs).kill h.n = h.kill h.n from rfl, wf.kill_new, if_pos (Nat.zero_le _)]
theorem Sl.new {h : H} (wf : h.Wf) {vs : List AV} {n es : Nat} (hl : n * es ≤ vs.length) : Sl (h.new vs) es (.slice h.n 0 n es) n (vs.take (n * es)) := by
  refine ⟨rfl, ?_⟩
  simp only [H.firstCells, row_new wf]
  rw [if_pos ⟨trivial, Nat.le_refl _⟩, if_pos (by omega)]
  simp
theorem Own.new {N : Nat} {h : H} (wf : h.Wf) (hN : N ≤ h.n) {vs : List AV} {n es : Nat} (hl : n * es ≤ vs.length) : Own N (h.new vs) (.slice h.n 0 n es) :=
  ⟨vs, h.n, get_new h vs, by rw [show (h.new vs).tip h.n = h.tip h.n from rfl, wf.tip_new], by rw [show (h.new vs).kill h.n = h.kill h.n from rfl, wf.kill_new]; exact Nat.zero_le _, hN, hN, by omega, _, get_new h vs⟩

/-- an append behind a slice of one's own -/
theorem app_own {N : Nat} {h : H} (wf : h.Wf) (hN : N ≤ h.n) {v : AV} {es n k : Nat} {cs new : List AV} (a : Sl h es v n cs) (o : Own N h v) (hl : new.length = k * es) (hone : new.all AV.one = true) (hbig : n + k < 4294967296) :
    ∃ v' h', h.app v es k new = some (v', h') ∧ Sl h' es v' (n + k) (cs ++ new) ∧ Own N h' v' ∧ Keep (Old N) h h' := by
  by_cases hk : k = 0
  · subst hk
    have : new = [] := by cases new <;> simp at hl ⊢
    subst this
    refine ⟨v, h, ?_, by simpa using a, o, Keep.refl _ _⟩
    obtain ⟨h1, h2⟩ := a
    cases v <;> simp only [lenSA] at h1 <;> (try (cases h1; done))
    case nils => simp [H.app]
    case slice o i len es' =>
      cases h1
      simp only [H.firstCells] at h2
      split at h2
      · rename_i hc; simp [H.app, hc.1]
      · cases h2
  · cases v <;> simp only [Own] at o <;> (try exact o.elim)
    case nils =>
      obtain ⟨h1, h2⟩ := a
      cases h1
      simp [H.firstCells] at h2; subst h2
      refine ⟨.slice h.n 0 k es, h.new new, by simp [H.app, hk]; omega, ?_, Own.new wf hN (by omega), Keep.new hN _⟩
      have := Sl.new (es := es) (n := k) wf (vs := new) (by omega)
      rw [← hl, List.take_length] at this
      simpa using this
    case slice o' i len es' =>
      obtain ⟨row, g, h1, h2, h3, h4, h5, h6, rt, hrt⟩ := o
      obtain ⟨a1, a2⟩ := a
      cases a1
      have hrow : h.row o' = some row := by unfold H.row; rw [h1]; simp only; rw [if_pos h3]
      simp only [H.firstCells] at a2
      split at a2
      case isFalse => cases a2
      rename_i hc
      obtain ⟨rfl, _⟩ := hc
      rw [hrow] at a2
      simp only at a2
      rw [if_pos h6] at a2
      cases a2
      have hon := wf.ob _ _ h1
      have C := H.child_to ((row.drop i).take (n * es') ++ new) h1 h2 h3 h6 hon
      have hlive : (h.child o' g (i + n * es') row ((row.drop i).take (n * es') ++ new)).kill g ≤ h.n := by
        rcases C.killg with ⟨_, e⟩ | e
        · rw [e]; omega
        · rw [e]; omega
      have hget : (h.child o' g (i + n * es') row ((row.drop i).take (n * es') ++ new)).get h.n = some (.cells ((row.drop i).take (n * es') ++ new) (some g)) := by rw [C.get, if_pos rfl]
      have hroot : ∃ cs', (h.child o' g (i + n * es') row ((row.drop i).take (n * es') ++ new)).get g = some (.cells cs' (some g)) := by
        rw [C.get, if_neg (Nat.ne_of_lt (wf.ob _ _ hrt))]
        split
        · exact ⟨_, rfl⟩
        · exact ⟨_, hrt⟩
      have hlen : ((row.drop i).take (n * es') ++ new).length = (n + k) * es' := by
        rw [List.length_append, hl, Nat.add_mul]; simp; omega
      refine ⟨.slice h.n 0 (n + k) es', _, ?_, ⟨rfl, ?_⟩, ⟨_, g, hget, C.tipg, hlive, h4, hN, by omega, hroot⟩, ⟨C.wf, by rw [C.n]; omega, ?_, ?_, ?_⟩⟩
      · simp only [H.app, if_neg hk, h1]
        rw [if_pos ⟨h2, trivial, h6, hbig, h3, hone⟩]
      · simp only [H.firstCells]
        rw [if_pos ⟨trivial, Nat.le_refl _⟩]
        have : (h.child o' g (i + n * es') row ((row.drop i).take (n * es') ++ new)).row h.n = some ((row.drop i).take (n * es') ++ new) := by
          unfold H.row; rw [hget]; simp only; rw [if_pos hlive]
        rw [this]
        simp only [Nat.zero_add, List.drop_zero]
        rw [if_pos (by omega), ← hlen, List.take_length]
      · intro j hj
        rw [C.get, if_neg (by omega), if_neg (by omega)]
      · intro j hj; exact C.tipo j (by omega)
      · intro j hj; exact C.kill j (by omega)

theorem append_own {N : Nat} {h : H} (wf : h.Wf) (hN : N ≤ h.n) {v y : AV} {es n k : Nat} {cs new : List AV} (a : Sl h es v n cs) (o : Own N h v) (b : Sl h es y k new) (hone : new.all AV.one = true) (hbig : n + k < 4294967296) :
    ∃ v' h', appendA h es v y = some (v', h') ∧ Sl h' es v' (n + k) (cs ++ new) ∧ Own N h' v' ∧ Keep (Old N) h h' := by
  unfold appendA
  rw [b.lenA]
  simp only [b.cells]
  exact app_own wf hN a o b.size hone hbig
theorem append_str {N : Nat} {h : H} (wf : h.Wf) (hN : N ≤ h.n) {v : AV} {n : Nat} {cs : List AV} {t : List UInt8} (a : Sl h 1 v n cs) (o : Own N h v) (hbig : n + t.length < 4294967296) :
    ∃ v' h', appendA h 1 v (.str t) = some (v', h') ∧ Sl h' 1 v' (n + t.length) (cs ++ byteCells t) ∧ Own N h' v' ∧ Keep (Old N) h h' := by
  unfold appendA
  simp only [lenA, H.firstCells, Nat.le_refl, and_self, if_true, List.take_length]
  exact app_own wf hN a o (by simp [byteCells]) (by rw [List.all_eq_true]; intro x hx; obtain ⟨c, _, rfl⟩ := List.mem_map.1 hx; rfl) hbig
/-! ### bytes -/
theorem bytesOf_cells : ∀ (s : List UInt8), bytesOf (byteCells s) = some s
  | [] => rfl
  | c :: s => by
    have := bytesOf_cells s
    simp only [byteCells, List.map_cons, bytesOf] at this ⊢
    rw [this]
    simp
theorem byteCells_length (s : List UInt8) : (byteCells s).length = s.length := by simp [byteCells]
theorem byteCells_append (s t : List UInt8) : byteCells (s ++ t) = byteCells s ++ byteCells t := by simp [byteCells]
theorem byteCells_one (s : List UInt8) : (byteCells s).all AV.one = true := by
  rw [List.all_eq_true]; intro x hx; obtain ⟨c, _, rfl⟩ := List.mem_map.1 hx; rfl
/-- a slice of bytes -/
abbrev Bytes (h : H) (v : AV) (s : List UInt8) : Prop := Sl h 1 v s.length (byteCells s)
theorem Bytes.str {h : H} {v : AV} {s : List UInt8} (b : Bytes h v s) : cvB2SA h v = some (.str s) := by
  obtain ⟨h1, h2⟩ := b
  cases v <;> simp only [lenSA] at h1 <;> (try (cases h1; done))
  case nils => cases s <;> simp at h1; rfl
  case slice o i len es =>
    have hlen : len = s.length := by simpa using h1
    subst hlen
    have hes : es = 1 := by
      simp only [H.firstCells] at h2
      split at h2
      · rename_i hc; exact hc.1
      · cases h2
    subst hes
    simp only [cvB2SA, if_true, h2, Option.bind_some, bytesOf_cells, Option.map_some]
/-- an element's address, and what stands there -/
theorem Sl.at {h : H} {v : AV} {n : Nat} {cs : List AV} (a : Sl h 1 v n cs) {i : Nat} (hi : i < n) (k : IntKind) : ∃ p, indexAddrA 1 v (.int k (i : Int)) = some p ∧ loadA h false 1 p = cs[i]? := by
  obtain ⟨h1, h2⟩ := a
  cases v <;> simp only [lenSA] at h1 <;> (try (cases h1; done))
  case nils => cases h1; omega
  case slice o j len es =>
    cases h1
    simp only [H.firstCells] at h2
    split at h2
    case isFalse => cases h2
    rename_i hc
    obtain ⟨rfl, _⟩ := hc
    refine ⟨.ptr o (j + i), ?_, ?_⟩
    · simp only [indexAddrA]
      rw [if_pos ⟨trivial, by omega, by omega⟩]
      simp
    · split at h2
      · rename_i row hrow
        split at h2
        · cases h2
          simp only [loadA, hrow, Bool.false_eq_true, if_false]
          rw [List.getElem?_take, if_pos (by omega), List.getElem?_drop]
        · cases h2
      · split at h2
        · omega
        · cases h2
theorem Sl.cut {h : H} {v : AV} {es n : Nat} {cs : List AV} (a : Sl h es v n cs) {lo hi : Nat} (h1 : lo ≤ hi) (h2 : hi ≤ n) (hlo hhi : Option AV) (hb : bounds n hlo hhi = some (lo, hi)) :
    ∃ v', sliceSA es hlo hhi v = some v' ∧ Sl h es v' (hi - lo) ((cs.drop (lo * es)).take ((hi - lo) * es)) ∧ (∀ K, Slot K h v → Slot K h v') := by
  obtain ⟨a1, a2⟩ := a
  cases v <;> simp only [lenSA] at a1 <;> (try (cases a1; done))
  case nils =>
    cases a1
    have e1 : hi = 0 := by omega
    have e2 : lo = 0 := by omega
    subst e1; subst e2
    refine ⟨.nils, by simp [sliceSA, hb], ⟨rfl, by simp [H.firstCells]⟩, fun K s => s⟩
  case slice o i len es' =>
    cases a1
    simp only [H.firstCells] at a2
    split at a2
    case isFalse => cases a2
    rename_i hc
    obtain ⟨rfl, _⟩ := hc
    refine ⟨.slice o (i + lo * es') (hi - lo) es', by simp [sliceSA, hb], ⟨rfl, ?_⟩, fun K s => s⟩
    simp only [H.firstCells]
    rw [if_pos ⟨trivial, Nat.le_refl _⟩]
    have hm : (hi - lo) * es' + lo * es' = hi * es' := by rw [← Nat.add_mul]; congr 1; omega
    have hm2 : hi * es' ≤ n * es' := Nat.mul_le_mul_right _ h2
    split at a2
    · rename_i row hrow
      split at a2
      case isFalse => cases a2
      rename_i hle
      cases a2
      rw [if_pos (by omega)]
      congr 1
      rw [List.drop_take, List.take_take, List.drop_drop]
      congr 1
      omega
    · rename_i hrow
      split at a2
      case isFalse => cases a2
      rename_i h0
      cases a2
      have : (hi - lo) * es' = 0 := by omega
      rw [if_pos this, this]
      simp
end Go.Proofs.YtlbaphapjclkdaaGreatDoor.Ev

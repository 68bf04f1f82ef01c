/- Slices whose elements have several cells: an element read, cut out, and written. -/
import Derived.Test.YtgjcdpanabjcmaaGreatDoorEvL2
namespace Go.Proofs.YtgjcdpanabjcmaaGreatDoor.Ev
set_option linter.unusedVariables false
set_option linter.unusedSimpArgs false

theorem flat_len {α : Type} {f : α → List AV} {es : Nat} : ∀ {l : List α}, (∀ x ∈ l, (f x).length = es) → (l.flatMap f).length = l.length * es
  | [], _ => by simp
  | x :: l, h => by
    rw [List.flatMap_cons, List.length_append, flat_len (fun y hy => h y (by simp [hy])), h x (by simp), List.length_cons, Nat.add_mul]
    omega
theorem flat_at {α : Type} {f : α → List AV} {es : Nat} : ∀ {l : List α} {i : Nat} (hi : i < l.length), (∀ x ∈ l, (f x).length = es) → ((l.flatMap f).drop (i * es)).take es = f l[i]
  | [], i, hi, _ => by simp at hi
  | x :: l, 0, hi, h => by
    rw [List.flatMap_cons, Nat.zero_mul, List.drop_zero, List.take_append_of_le_length (by rw [h x (by simp)]; exact Nat.le_refl _), List.take_of_length_le (by rw [h x (by simp)]; exact Nat.le_refl _)]
    rfl
  | x :: l, i + 1, hi, h => by
    have hx := h x (by simp)
    have e : (i + 1) * es = (f x).length + i * es := by rw [hx, Nat.add_mul]; omega
    rw [List.flatMap_cons, e, ← List.drop_drop, List.drop_append_of_le_length (Nat.le_refl _), List.drop_length, List.nil_append]
    have := flat_at (l := l) (i := i) (by simpa using hi) (fun y hy => h y (by simp [hy]))
    simpa using this
theorem flat_set {α : Type} {f : α → List AV} {es : Nat} : ∀ {l : List α} {i : Nat} (y : α), i < l.length → (∀ x ∈ l, (f x).length = es) → (f y).length = es → splice (l.flatMap f) (i * es) (f y) = (l.set i y).flatMap f
  | [], i, y, hi, _, _ => by simp at hi
  | x :: l, 0, y, hi, h, hy => by
    have hx := h x (by simp)
    simp only [splice, Nat.zero_mul, List.take_zero, List.nil_append, Nat.zero_add, List.flatMap_cons, List.set_cons_zero]
    rw [hy, ← hx, List.drop_append_of_le_length (Nat.le_refl _), List.drop_length, List.nil_append]
  | x :: l, i + 1, y, hi, h, hy => by
    have hx := h x (by simp)
    have ih := flat_set (l := l) (i := i) y (by simpa using hi) (fun z hz => h z (by simp [hz])) hy
    simp only [splice, List.flatMap_cons, List.set_cons_succ] at ih ⊢
    rw [← ih]
    have e : (i + 1) * es = (f x).length + i * es := by rw [hx, Nat.add_mul]; omega
    rw [e, List.take_length_add_append, Nat.add_assoc, ← List.drop_drop, List.drop_append_of_le_length (Nat.le_refl _), List.drop_length, List.nil_append]
    simp only [List.append_assoc]

/-- an element of a slice: its address, the row behind it -/
theorem Sl.addr {h : H} {v : AV} {es n : Nat} {cs : List AV} (a : Sl h es v n cs) {i : Nat} (hi : i < n) (hes : 0 < es) (k : IntKind) :
    ∃ o j row, v = .slice o j n es ∧ indexAddrA es v (.int k (i : Int)) = some (.ptr o (j + i * es)) ∧ h.row o = some row ∧ j + n * es ≤ row.length ∧ cs = (row.drop j).take (n * es) := by
  obtain ⟨h1, h2⟩ := a
  cases v <;> simp only [lenSA] at h1 <;> (try (cases h1; done))
  case nils => cases h1; omega
  case slice o j len es' =>
    cases h1
    simp only [H.firstCells] at h2
    split at h2
    case isFalse => cases h2
    rename_i hc
    obtain ⟨rfl, _⟩ := hc
    split at h2
    · rename_i row hrow
      split at h2
      case isFalse => cases h2
      rename_i hle
      cases h2
      refine ⟨o, j, row, rfl, ?_, hrow, hle, rfl⟩
      simp only [indexAddrA]
      rw [if_pos ⟨trivial, by omega, by omega⟩]
      simp
    · split at h2
      · rename_i h0
        have : 0 < n * es' := Nat.mul_pos (by omega) hes
        omega
      · cases h2
theorem mul_in {i n es : Nat} (hi : i < n) : i * es + es ≤ n * es := by
  have : (i + 1) * es ≤ n * es := Nat.mul_le_mul_right _ hi
  rw [Nat.add_mul] at this
  omega
theorem cut_in {row : List AV} {j i n es : Nat} (hi : i < n) : ((((row.drop j).take (n * es)).drop (i * es)).take es) = ((row.drop (j + i * es)).take es) := by
  have := mul_in (es := es) hi
  rw [List.drop_take, List.take_take, List.drop_drop]
  congr 1
  omega
theorem Sl.atAgg {h : H} {v : AV} {es n : Nat} {cs : List AV} (a : Sl h es v n cs) {i : Nat} (hi : i < n) (hes : 0 < es) (k : IntKind) :
    ∃ p, indexAddrA es v (.int k (i : Int)) = some p ∧ loadA h true es p = some (.agg ((cs.drop (i * es)).take es)) := by
  obtain ⟨o, j, row, rfl, e, hrow, hle, rfl⟩ := a.addr hi hes k
  refine ⟨_, e, ?_⟩
  have := mul_in (es := es) hi
  simp only [loadA, hrow, if_true]
  rw [if_pos (by omega), cut_in hi]
/-- an array that is an element, as a slice -/
theorem Sl.atCut {h : H} {v : AV} {es n : Nat} {cs : List AV} (a : Sl h es v n cs) {i : Nat} (hi : i < n) (hes : 0 < es) (k : IntKind) :
    ∃ p v', indexAddrA es v (.int k (i : Int)) = some p ∧ sliceAA h 1 es none none p = some v' ∧ Sl h 1 v' es ((cs.drop (i * es)).take es) ∧ (∀ K, Slot K h v → Slot K h v') := by
  obtain ⟨o, j, row, rfl, e, hrow, hle, rfl⟩ := a.addr hi hes k
  have hm := mul_in (es := es) hi
  have hget : ∃ g, h.get o = some (.cells row g) := by
    unfold H.row at hrow
    cases hx : h.get o with
    | none => rw [hx] at hrow; cases hrow
    | some x =>
      rw [hx] at hrow
      cases x with
      | other => cases hrow
      | loop L => cases hrow
      | mem X => cases hrow
      | glob g v => cases hrow
      | cells cs g =>
        cases g with
        | none => cases hrow; exact ⟨_, rfl⟩
        | some g =>
          simp only at hrow
          split at hrow
          · cases hrow; exact ⟨_, rfl⟩
          · cases hrow
  obtain ⟨g, hg⟩ := hget
  refine ⟨_, .slice o (j + i * es) es 1, e, ?_, ⟨rfl, ?_⟩, fun K s => s⟩
  · simp only [sliceAA, hg]
    rw [if_pos (by omega)]
    simp [bounds]
  · simp only [H.firstCells, hrow]
    rw [if_pos ⟨trivial, Nat.le_refl _⟩, if_pos (by omega), Nat.mul_one, cut_in hi]

/-- a row of one's own group is written -/
theorem Grp.put {g : Nat} {h : H} (wf : h.Wf) {v : AV} {es n : Nat} {cs : List AV} (a : Sl h es v n cs) (o : Grp g h v) {i : Nat} (hi : i < n) (hes : 0 < es) (k : IntKind) {new : List AV} (hn : new.length = es) (h1 : new.all AV.one = true) :
    ∃ p, indexAddrA es v (.int k (i : Int)) = some p ∧ ∀ x : AV, x.cells = new → ∃ h', storeA h es p x = some h' ∧ Sl h' es v n (splice cs (i * es) new) ∧ Grp g h' v ∧ KeepA [g] h h' := by
  obtain ⟨ob, j, row, rfl, e, hrow, hle, rfl⟩ := a.addr hi hes k
  have hm := mul_in (es := es) hi
  obtain ⟨cs', hg, htip, hkill, hlen, root, hroot⟩ := o
  have hcs : cs' = row := by
    unfold H.row at hrow; rw [hg] at hrow; simp only at hrow
    rw [if_pos hkill] at hrow; cases hrow; rfl
  subst hcs
  have hon := wf.ob _ _ hg
  have hgo := (wf.mem _ _ _ hg).1
  have hsl : (splice cs' (j + i * es) new).length = cs'.length := by simp [splice]; omega
  refine ⟨_, e, fun x hx => ?_⟩
  -- the heap behind it
  let h' : H := if g = ob then { h with ob := h.ob.set ob (.cells (splice cs' (j + i * es) new) (some g)) } else { h with ob := h.ob.set ob (.cells (splice cs' (j + i * es) new) (some g)), gr := h.gr.set g (ob, ob) }
  have hget : ∀ q, h'.get q = if q = ob then some (.cells (splice cs' (j + i * es) new) (some g)) else h.get q := by
    intro q
    show (if g = ob then _ else _ : H).get q = _
    split <;> exact Tr.get_set _ _ _ _
  have htip' : ∀ q, h'.tip q = h.tip q := by
    intro q
    show (if g = ob then _ else _ : H).tip q = _
    split
    · rfl
    · unfold H.tip
      show (match (h.gr.set g (ob, ob)).get q with | some p => p.1 | none => q) = _
      rw [Tr.get_set]
      by_cases eq : q = g
      · rw [if_pos eq, eq]
        exact htip.symm
      · rw [if_neg eq]; rfl
  have hkill' : ∀ q, q ≠ g → h'.kill q = h.kill q := by
    intro q hq
    show (if g = ob then _ else _ : H).kill q = _
    split
    · rfl
    · unfold H.kill
      rw [Tr.get_set, if_neg hq]
  have hkillg : h'.kill g ≤ ob := by
    show (if g = ob then _ else _ : H).kill g ≤ _
    split
    · exact hkill
    · unfold H.kill
      rw [Tr.get_set, if_pos rfl]
      exact Nat.le_refl _
  have hnn : h'.n = h.n := by
    show (if g = ob then _ else _ : H).n = _
    split <;> rfl
  have hwf : h'.Wf := by
    refine ⟨fun q p hp => ?_, fun q c g' hq => ?_, fun q y hq => ?_, fun q p hp => ?_, fun q hq => by rw [hnn] at hq ⊢; rw [htip']; exact wf.tl q hq⟩
    · rw [hnn]
      by_cases hgb : g = ob
      · have : h'.gr = h.gr := by show (if g = ob then _ else _ : H).gr = _; rw [if_pos hgb]
        rw [this] at hp; exact wf.gr _ _ hp
      · have : h'.gr = h.gr.set g (ob, ob) := by show (if g = ob then _ else _ : H).gr = _; rw [if_neg hgb]
        rw [this, Tr.get_set] at hp
        split at hp
        · rename_i eq; subst eq; omega
        · exact wf.gr _ _ hp
    · rw [htip']
      rw [hget] at hq
      split at hq
      · rename_i eq; subst eq; cases hq; exact ⟨hgo, Nat.le_of_eq htip.symm⟩
      · exact wf.mem _ _ _ hq
    · rw [hnn]
      rw [hget] at hq
      split at hq
      · rename_i eq; subst eq; exact hon
      · exact wf.ob _ _ hq
    · by_cases hgb : g = ob
      · have : h'.gr = h.gr := by show (if g = ob then _ else _ : H).gr = _; rw [if_pos hgb]
        rw [this] at hp; exact wf.kt _ _ hp
      · have : h'.gr = h.gr.set g (ob, ob) := by show (if g = ob then _ else _ : H).gr = _; rw [if_neg hgb]
        rw [this, Tr.get_set] at hp
        split at hp
        · cases hp; exact Nat.le_refl _
        · exact wf.kt _ _ hp
  refine ⟨h', ?_, ⟨rfl, ?_⟩, ⟨splice cs' (j + i * es) new, ?_, ?_, hkillg, ?_, ?_⟩, ⟨fun _ => hwf, Nat.le_of_eq hnn.symm, ?_, ?_, ?_⟩⟩
  · simp only [storeA, hx]
    rw [if_pos ⟨hn, h1⟩]
    simp only [H.put, hg]
    rw [if_pos ⟨htip, by omega⟩]
  · simp only [H.firstCells]
    rw [if_pos ⟨trivial, Nat.le_refl _⟩]
    have : h'.row ob = some (splice cs' (j + i * es) new) := by
      unfold H.row; rw [hget, if_pos rfl]; simp only; rw [if_pos hkillg]
    rw [this]
    simp only
    rw [if_pos (by omega)]
    congr 1
    simp only [splice]
    have e0 : (cs'.drop j).length = cs'.length - j := by simp
    apply List.ext_getElem?
    intro q
    simp only [List.getElem?_take, List.getElem?_drop, List.getElem?_append, List.length_take, List.length_append, List.length_drop]
    by_cases hq : q < n * es
    · rw [if_pos hq]
      by_cases c1 : q < i * es
      · repeat rw [if_pos (by omega)]
      · by_cases c2 : q < i * es + es
        · rw [if_pos (by omega), if_neg (by omega), if_pos (by omega), if_neg (by omega)]
          congr 1
          omega
        · rw [if_neg (by omega), if_neg (by omega), if_pos (by omega)]
          congr 1
          omega
    · rw [if_neg hq, if_neg (by omega), if_neg (by omega)]
  · rw [hget, if_pos rfl]
  · rw [htip']; exact htip
  · rw [hsl]; exact hlen
  · rw [hget]
    split
    · exact ⟨_, rfl⟩
    · exact ⟨_, hroot⟩
  · intro q hq
    rw [hget, if_neg]
    rintro rfl
    exact hq.2.2 _ _ hg (by simp)
  · intro q hq; exact htip' q
  · intro q hq; exact hkill' q (fun e => hq.2.1 (by simp [e]))
end Go.Proofs.YtgjcdpanabjcmaaGreatDoor.Ev

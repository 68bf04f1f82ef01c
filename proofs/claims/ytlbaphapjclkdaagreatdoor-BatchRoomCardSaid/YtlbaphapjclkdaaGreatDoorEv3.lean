/- A store into a row, and a row behind a row. -/
import Derived.Test.YtlbaphapjclkdaaGreatDoorEv5
namespace Go.Proofs.YtlbaphapjclkdaaGreatDoor.Ev
set_option linter.unusedVariables false

theorem heap_setCells_ne (b : Nat) : ∀ (vs : List Value) (o : Nat) (w : World) (k : Nat), k ≠ b → (w.setCells b o vs).heap[k]? = w.heap[k]?
  | [], _, _, _, _ => rfl
  | v :: r, o, w, k, h => by
    rw [World.setCells, heap_setCells_ne b r _ _ k h]
    simp only [World.setCell, Array.getElem?_modify]
    rw [if_neg (fun e => h e.symm)]
theorem size_setCells (b : Nat) : ∀ (vs : List Value) (o : Nat) (w : World), (w.setCells b o vs).heap.size = w.heap.size
  | [], _, _ => rfl
  | v :: r, o, w => by rw [World.setCells, size_setCells b r, World.size_setCell]
theorem drawn_setCells (b : Nat) : ∀ (vs : List Value) (o : Nat) (w : World), (w.setCells b o vs).drawn = w.drawn
  | [], _, _ => rfl
  | v :: r, o, w => by rw [World.setCells, drawn_setCells b r (o + 1)]; exact World.drawn_setCell _ _ _
theorem os_setCells (b : Nat) : ∀ (vs : List Value) (o : Nat) (w : World), (w.setCells b o vs).os = w.os ∧ (w.setCells b o vs).tape = w.tape ∧ (w.setCells b o vs).output = w.output
  | [], _, _ => ⟨rfl, rfl, rfl⟩
  | v :: r, o, w => by rw [World.setCells]; exact os_setCells b r (o + 1) _
theorem heap_setCells_same (b : Nat) : ∀ (vs : List Value) (o : Nat) (w : World) (CS : Array Value) (e : Nat) (fr : Nat × Nat), w.heap[b]? = some (.cells CS e fr) →
    ∃ CS', (w.setCells b o vs).heap[b]? = some (.cells CS' e fr) ∧ CS'.size = CS.size
  | [], _, w, CS, e, fr, h => ⟨CS, h, rfl⟩
  | v :: r, o, w, CS, e, fr, h => by
    have h1 : (w.setCell ⟨b, o, none⟩ v).heap[b]? = some (.cells (CS.setIfInBounds o v) e fr) := by
      simp only [World.setCell, Array.getElem?_modify, if_true]
      rw [h]; rfl
    obtain ⟨CS', h2, h3⟩ := heap_setCells_same b r (o + 1) _ _ e fr h1
    exact ⟨CS', by rw [World.setCells]; exact h2, by rw [h3]; simp⟩
theorem unf_setCell {w : World} {b o : Nat} {v : Value} {a : Addr} (u : unf w a) : unf (w.setCell ⟨b, o, none⟩ v) a := by
  intro CS e fr h
  simp only [World.setCell, Array.getElem?_modify] at h
  by_cases hb : b = a.block
  · simp only [hb, if_true] at h
    cases hh : w.heap[a.block]? with
    | none => rw [hh] at h; cases h
    | some x =>
      rw [hh] at h
      cases x with
      | cells c t f =>
        simp only [Option.map_some, Option.some.injEq, Obj.cells.injEq] at h
        obtain ⟨_, _, rfl⟩ := h
        exact u _ _ _ hh
      | _ => simp at h
  · rw [if_neg hb] at h
    exact u _ _ _ h
theorem unf_setCells {b : Nat} : ∀ {vs : List Value} {o : Nat} {w : World} {a : Addr}, unf w a → unf (w.setCells b o vs) a
  | [], _, _, _, u => u
  | v :: r, o, w, a, u => by rw [World.setCells]; exact unf_setCells (unf_setCell u)
theorem cell?_setCells_out' (b : Nat) (vs : List Value) (o : Nat) (w : World) (c j : Nat) (h : c = b → j < o ∨ o + vs.length ≤ j) : (w.setCells b o vs).cell? ⟨c, j, none⟩ = w.cell? ⟨c, j, none⟩ :=
  World.cell?_setCells_out b vs o w ⟨c, j, none⟩ (fun e _ => h e)
theorem cell?_some_of_lt {w : World} {b : Nat} {CS : Array Value} {e : Nat} {fr : Nat × Nat} (h : w.heap[b]? = some (.cells CS e fr)) {i : Nat} (hi : i < CS.size) : w.cell? ⟨b, i, none⟩ = some CS[i] := by
  unfold World.cell?; rw [h]; simp [hi]
theorem cell?_setCells_in' (b : Nat) (vs : List Value) (o : Nat) (w : World) (CS : Array Value) (e : Nat) (fr : Nat × Nat) (h : w.heap[b]? = some (.cells CS e fr)) (hl : o + vs.length ≤ CS.size) (j : Nat) (hj : j < vs.length) :
    (w.setCells b o vs).cell? ⟨b, o + j, none⟩ = vs[j]? := by
  have := World.cell?_setCells_in b vs o w (fun i hi => by rw [cell?_some_of_lt h (by omega)]; rfl) j hj
  rw [this, List.getElem?_eq_getElem hj]

theorem splice_length {cs vs : List AV} {i : Nat} (h : i + vs.length ≤ cs.length) : (splice cs i vs).length = cs.length := by
  unfold splice; simp; omega
theorem splice_get {cs vs : List AV} {i : Nat} (h : i + vs.length ≤ cs.length) (j : Nat) : (splice cs i vs)[j]? = if j < i then cs[j]? else if j < i + vs.length then vs[j - i]? else cs[j]? := by
  unfold splice
  by_cases h1 : j < i
  · rw [if_pos h1, List.append_assoc, List.getElem?_append_left (by simp; omega), List.getElem?_take, if_pos h1]
  · rw [if_neg h1]
    by_cases h2 : j < i + vs.length
    · rw [if_pos h2, List.getElem?_append_left (by simp; omega), List.getElem?_append_right (by simp; omega)]
      simp; congr 1; omega
    · rw [if_neg h2, List.getElem?_append_right (by simp; omega), List.getElem?_drop]
      simp; congr 1; omega

/-- what 'put' makes of the heap -/
structure PutTo (h h' : H) (o i : Nat) (vs : List AV) (cs : List AV) (g : Nat) : Prop where
  was : h.get o = some (.cells cs (some g))
  tip : h.tip g = o
  fit : i + vs.length ≤ cs.length
  get : ∀ j, h'.get j = if j = o then some (.cells (splice cs i vs) (some g)) else h.get j
  n : h'.n = h.n
  gr : ∀ k p, h'.gr.get k = some p → k = g ∨ h.gr.get k = some p
  tipo : ∀ k, h'.tip k = h.tip k
  kill : ∀ k, k ≠ g → h'.kill k = h.kill k
  killg : (g = o ∧ h'.kill g = h.kill g) ∨ (g ≠ o ∧ h'.kill g = o)
theorem H.put_to {h h' : H} {o i : Nat} {vs : List AV} (hp : h.put o i vs = some h') : ∃ cs g, PutTo h h' o i vs cs g := by
  unfold H.put at hp
  split at hp
  case h_2 => cases hp
  rename_i cs g hg
  split at hp
  case isFalse => cases hp
  rename_i hc
  cases hp
  refine ⟨cs, g, hg, hc.1, hc.2, ?_, ?_, ?_, ?_, ?_, ?_⟩
  · intro j; split <;> exact Tr.get_set _ _ _ _
  · split <;> rfl
  · intro k p hk
    split at hk
    · exact .inr hk
    · have hk' : (h.gr.set g (o, o)).get k = some p := hk
      rw [Tr.get_set] at hk'
      split at hk'
      · exact .inl (by assumption)
      · exact .inr hk'
  · intro k
    split
    · rfl
    · show (match (h.gr.set g (o, o)).get k with | some p => p.1 | none => k) = h.tip k
      rw [Tr.get_set]
      by_cases e : k = g
      · subst e; simp [hc.1]
      · rw [if_neg e]; rfl
  · intro k hk
    split
    · rfl
    · show (match (h.gr.set g (o, o)).get k with | some p => p.2 | none => 0) = h.kill k
      rw [Tr.get_set, if_neg hk]; rfl
  · by_cases e : g = o
    · rw [if_pos e]; exact .inl ⟨e, rfl⟩
    · rw [if_neg e]
      refine .inr ⟨e, ?_⟩
      show (match (h.gr.set g (o, o)).get g with | some p => p.2 | none => 0) = o
      rw [Tr.get_set, if_pos rfl]

theorem Rel.put {P : Program} {B0 : Nat} {m : M} {h h' : H} {w : World} (r : Rel P B0 m h w) {o i : Nat} {vs : List AV} (hp : h.put o i vs = some h') {b base sz : Nat} (hm : m o = some (b, base, sz))
    {vs' : List Value} (hv : VRels m vs vs') :
    Rel P B0 m h' (w.setCells b (base + i) vs') ∧ Fr B0 m m h h' w (w.setCells b (base + i) vs') ∧ (∀ j, j < vs'.length → (w.cell? ⟨b, base + i + j, none⟩).isSome = true) ∧ (∀ j, j < vs'.length → w.frozen? ⟨b, base + i + j, none⟩ = false) := by
  obtain ⟨cs, g, P⟩ := H.put_to hp
  obtain ⟨hrow, CS, e, fr, hb, hsz⟩ := r.row P.was hm
  obtain ⟨hB, hfz⟩ := r.own P.was hm
  have hlen := hv.len
  have hfit := P.fit
  have hbl := r.blk hm
  have hgo := r.wf.mem _ _ _ P.was
  have hget : ∀ j cs' g', h'.get j = some (.cells cs' g') → ∃ cs0, h.get j = some (.cells cs0 g') ∧ cs0.length = cs'.length := by
    intro j cs' g' hj
    rw [P.get] at hj
    split at hj
    · rename_i ej; subst ej; cases hj; exact ⟨cs, P.was, (splice_length P.fit).symm⟩
    · exact ⟨cs', hj, rfl⟩
  obtain ⟨o1, o2, o3⟩ := os_setCells b vs' (base + i) w
  refine ⟨⟨?_, ?_, ?_, ?_, ?_, ?_, ?_, ?_, ?_, ?_, ?_, ?_, ?_, ?_⟩, ⟨M.le_refl m, o1, o2, o3, Nat.le_of_eq (size_setCells _ _ _ _).symm, ?_, Nat.le_of_eq P.n.symm, ?_, fun q b' base' sz' hs hn => (by rw [hn] at hs; cases hs), fun _ => Nat.le_of_eq (drawn_setCells b vs' (base + i) w).symm⟩, ?_, ?_⟩
  · rw [size_setCells]; exact r.base
  · intro q x hq; rw [P.n]; exact r.lt q x hq
  · intro q cs' g' b' base' sz' hq hmq
    obtain ⟨cs0, h0, h1⟩ := hget q cs' g' hq
    obtain ⟨h2, CS', e', fr', h3, h4⟩ := r.row h0 hmq
    by_cases eb : b' = b
    · subst eb
      obtain ⟨CS2, h5, h6⟩ := heap_setCells_same b' vs' (base + i) w CS' e' fr' h3
      exact ⟨by omega, CS2, e', fr', h5, h6.trans h4⟩
    · exact ⟨by omega, CS', e', fr', by rw [heap_setCells_ne b _ _ _ b' eb]; exact h3, h4⟩
  · intro q cs' b' base' sz' hq hmq j a ha
    by_cases eq : q = o
    · subst eq
      rw [hm] at hmq; cases hmq
      have hcs : cs' = splice cs i vs := by
        unfold H.row at hq; rw [P.get, if_pos rfl] at hq
        simp only at hq; split at hq
        · cases hq; rfl
        · cases hq
      have hlive : h.row q = some cs := by
        unfold H.row at hq ⊢
        rw [P.get, if_pos rfl] at hq
        rw [P.was]
        simp only at hq ⊢
        rcases P.killg with ⟨_, ek⟩ | ⟨_, ek⟩
        · rw [ek] at hq
          split at hq
          · rw [if_pos (by assumption)]
          · cases hq
        · rw [if_pos]
          by_cases hk : h.kill g ≤ q
          · exact hk
          · have hkt : h.kill g ≤ q := by
              unfold H.kill
              cases hgr : h.gr.get g with
              | none => exact Nat.zero_le _
              | some p =>
                have := r.wf.kt g p hgr
                have ht := P.tip
                unfold H.tip at ht; rw [hgr] at ht
                simp only at ht ⊢
                omega
            exact hkt
      subst hcs
      rw [splice_get P.fit] at ha
      split at ha
      · rename_i h1
        obtain ⟨v, h2, h3⟩ := r.val hlive hm j a ha
        exact ⟨v, by rw [cell?_setCells_out' _ _ _ _ _ _ (fun _ => .inl (by omega))]; exact h2, h3⟩
      · rename_i h1
        split at ha
        · rename_i h2
          obtain ⟨v, h3, h4⟩ := hv.get _ a ha
          refine ⟨v, ?_, h4⟩
          have := cell?_setCells_in' b vs' (base + i) w CS e fr hb (by omega) (j - i) (by omega)
          rw [show base + j = base + i + (j - i) from by omega, this]; exact h3
        · rename_i h2
          obtain ⟨v, h3, h4⟩ := r.val hlive hm j a ha
          exact ⟨v, by rw [cell?_setCells_out' _ _ _ _ _ _ (fun _ => .inr (by omega))]; exact h3, h4⟩
    · have hq' : h.row q = some cs' := by
        unfold H.row at hq ⊢
        rw [P.get, if_neg eq] at hq
        revert hq
        split
        · exact id
        · rename_i cs2 g2 hg2
          intro hq
          by_cases eg : g2 = g
          · subst eg
            rcases P.killg with ⟨_, ek⟩ | ⟨_, ek⟩
            · rw [ek] at hq; exact hq
            · rw [ek] at hq
              have := (r.wf.mem _ _ _ hg2).2
              rw [P.tip] at this
              rw [if_neg (by omega)] at hq; cases hq
          · rw [P.kill g2 eg] at hq; exact hq
        · exact id
      obtain ⟨v, h3, h4⟩ := r.val hq' hmq j a ha
      refine ⟨v, ?_, h4⟩
      rw [cell?_setCells_out']
      · exact h3
      · intro eb; subst eb
        -- another row of this block: of the same group, and dead
        exfalso
        obtain ⟨g1, c1, c2, e1, e2⟩ := r.sep hm hmq (fun x => eq x.symm) hB
        rw [P.was] at e1; cases e1
        have hq2 := hq
        unfold H.row at hq2
        rw [P.get, if_neg eq, e2] at hq2
        simp only at hq2
        have h9 := (r.wf.mem _ _ _ e2)
        rw [P.tip] at h9
        rcases P.killg with ⟨eo, ek⟩ | ⟨eo, ek⟩
        · omega
        · rw [ek] at hq2
          rw [if_neg (by omega)] at hq2; cases hq2
  · intro q cs' g' b' base' sz' hq hmq
    obtain ⟨cs0, h0, _⟩ := hget q cs' (some g') hq
    obtain ⟨h1, h2⟩ := r.own h0 hmq
    exact ⟨h1, fun j hj => by exact unf_setCells (h2 j hj)⟩
  · intro q cs' b' base' sz' hq hmq
    obtain ⟨cs0, h0, _⟩ := hget q cs' none hq
    exact r.ro h0 hmq
  · intro q q' b' base' sz' base2 sz2 h1 h2 hne hb2
    obtain ⟨g1, c1, c2, e1, e2⟩ := r.sep h1 h2 hne hb2
    have hx : ∀ z c k, h.get z = some (.cells c (some k)) → ∃ c', h'.get z = some (.cells c' (some k)) := by
      intro z c k hz
      rw [P.get]
      split
      · rename_i ez; subst ez; rw [P.was] at hz; cases hz; exact ⟨_, rfl⟩
      · exact ⟨c, hz⟩
    obtain ⟨d1, f1⟩ := hx _ _ _ e1
    obtain ⟨d2, f2⟩ := hx _ _ _ e2
    exact ⟨g1, d1, d2, f1, f2⟩
  · intro q q' g1 c1 c2 b' base' sz' base2 sz2 hlt h1 h2 hk hm1 hm2
    obtain ⟨d1, f1, l1⟩ := hget q c1 _ h1
    obtain ⟨d2, f2, l2⟩ := hget q' c2 _ h2
    have : h.kill g1 ≤ q := by
      by_cases eg : g1 = g
      · subst eg
        rcases P.killg with ⟨_, ek⟩ | ⟨_, ek⟩
        · rw [ek] at hk; exact hk
        · rw [ek] at hk
          have h9 := (r.wf.mem _ _ _ f2).2
          rw [P.tip] at h9
          omega
      · rw [P.kill g1 eg] at hk; exact hk
    have := r.ord hlt f1 f2 this hm1 hm2
    omega
  · intro q b' base' sz' hq; rw [size_setCells]; exact r.blk hq
  · intro q x hq
    obtain ⟨ob, hob⟩ := r.any hq
    rw [P.get]; split
    · exact ⟨_, rfl⟩
    · exact ⟨ob, hob⟩
  · intro q L b' base' sz' hq hmq
    rw [P.get] at hq
    split at hq
    · cases hq
    · obtain ⟨q1, rec, q2, q3⟩ := r.lp hq hmq
      refine ⟨q1, rec, ?_, q3⟩
      rw [heap_setCells_ne]
      · exact q2
      · intro eb; subst eb; rw [hb] at q2; cases q2
  · intro q X b' base' sz' hq hmq
    rw [P.get] at hq
    split at hq
    · cases hq
    · obtain ⟨q1, q0, rec, q2, q3⟩ := r.mm hq hmq
      refine ⟨q1, q0, rec, ?_, q3⟩
      rw [heap_setCells_ne]
      · exact q2
      · intro eb; subst eb; rw [hb] at q2; cases q2; cases q3
  · intro q g' v hq
    rw [P.get] at hq
    split at hq
    · cases hq
    · obtain ⟨q1, v', q2, q3⟩ := r.gb hq
      refine ⟨q1, v', ?_, q3⟩
      rw [cell?_setCells_out' _ _ _ _ _ _ (fun e => by omega)]
      exact q2
  · exact {
      gr := fun k p hk => by
        rw [P.n]
        rcases P.gr k p hk with rfl | hk
        · have := r.wf.ob _ _ P.was; omega
        · exact r.wf.gr k p hk
      mem := fun q c k hq => by
        obtain ⟨c0, h0, _⟩ := hget q c _ hq
        rw [P.tipo]; exact r.wf.mem q c0 k h0
      ob := fun q x hq => by
        rw [P.n]; rw [P.get] at hq
        split at hq
        · rename_i e; subst e; exact r.wf.ob _ _ P.was
        · exact r.wf.ob q x hq
      kt := fun k p hk => by
        have h1 : h'.tip k = p.1 := by unfold H.tip; rw [hk]
        have h2 : h'.kill k = p.2 := by unfold H.kill; rw [hk]
        by_cases ek : k = g
        · subst ek
          rcases P.killg with ⟨_, ek⟩ | ⟨_, ek⟩
          · rw [P.tipo] at h1; rw [ek] at h2
            unfold H.tip at h1; unfold H.kill at h2
            cases hgr : h.gr.get k with
            | none => rw [hgr] at h1 h2; simp only at h1 h2; omega
            | some p0 => rw [hgr] at h1 h2; simp only at h1 h2; have := r.wf.kt k p0 hgr; omega
          · rw [P.tipo, P.tip] at h1; omega
        · rcases P.gr k p hk with e | hk2
          · exact absurd e ek
          · exact r.wf.kt k p hk2
      tl := fun k hk => by
        rw [P.n] at hk ⊢; rw [P.tipo]; exact r.wf.tl k hk }
  · intro b' hb' hc
    rw [heap_setCells_ne]
    intro eb; subst eb
    rcases hc with hc | hc
    · omega
    · exact hc _ _ _ hm
  · intro q hq hmq
    refine ⟨?_, hmq⟩
    rw [P.get, if_neg (fun e => by subst e; rw [hm] at hmq; cases hmq)]
  · intro j hj
    rw [cell?_some_of_lt hb (by omega)]; rfl
  · intro j hj
    exact (hfz _ (by omega)).frozen
end Go.Proofs.YtlbaphapjclkdaaGreatDoor.Ev

/- A row behind a row: in place, or in a new block. -/
namespace Go.Proofs.YtlbaphapjclkdaaGreatDoor.Ev
set_option linter.unusedVariables false

/-- what 'child' makes of the heap: a new row 'nw' behind the first e cells of row o -/
structure ChildTo (h h' : H) (o g e : Nat) (cs nw : List AV) : Prop where
  was : h.get o = some (.cells cs (some g))
  tip : h.tip g = o
  live : h.kill g ≤ o
  le : e ≤ cs.length
  get : ∀ j, h'.get j = if j = h.n then some (.cells nw (some g)) else if j = o then some (.cells (cs.take e) (some g)) else h.get j
  n : h'.n = h.n + 1
  gr : ∀ k p, h'.gr.get k = some p → k = g ∨ h.gr.get k = some p
  tipo : ∀ k, k ≠ g → h'.tip k = h.tip k
  tipg : h'.tip g = h.n
  kill : ∀ k, k ≠ g → h'.kill k = h.kill k
  killg : (e = cs.length ∧ h'.kill g = h.kill g) ∨ h'.kill g = o
theorem H.child_to {h : H} {o g e : Nat} {cs : List AV} (nw : List AV) (was : h.get o = some (.cells cs (some g))) (tip : h.tip g = o) (live : h.kill g ≤ o) (le : e ≤ cs.length) (hn : o < h.n) :
    ChildTo h (h.child o g e cs nw) o g e cs nw := by
  refine ⟨was, tip, live, le, ?_, ?_, ?_, ?_, ?_, ?_, ?_⟩
  · intro j
    unfold H.child
    split
    · rename_i he
      show (h.ob.set h.n _).get j = _
      rw [Tr.get_set]
      split
      · rfl
      · split
        · rename_i ej; subst ej; rw [he, List.take_length]; exact was
        · rfl
    · show ((h.ob.set o _).set h.n _).get j = _
      rw [Tr.get_set, Tr.get_set]; rfl
  · unfold H.child; split <;> rfl
  · intro k p hk
    unfold H.child at hk
    split at hk
    · have hk' : (h.gr.set g (h.n, h.kill g)).get k = some p := hk
      rw [Tr.get_set] at hk'; split at hk'
      · exact .inl (by assumption)
      · exact .inr hk'
    · have hk' : (h.gr.set g (h.n, o)).get k = some p := hk
      rw [Tr.get_set] at hk'; split at hk'
      · exact .inl (by assumption)
      · exact .inr hk'
  · intro k hk
    unfold H.child; split
    · show (match (h.gr.set g (h.n, h.kill g)).get k with | some p => p.1 | none => k) = _
      rw [Tr.get_set, if_neg hk]; rfl
    · show (match (h.gr.set g (h.n, o)).get k with | some p => p.1 | none => k) = _
      rw [Tr.get_set, if_neg hk]; rfl
  · unfold H.child; split
    · show (match (h.gr.set g (h.n, h.kill g)).get g with | some p => p.1 | none => g) = _
      rw [Tr.get_set, if_pos rfl]
    · show (match (h.gr.set g (h.n, o)).get g with | some p => p.1 | none => g) = _
      rw [Tr.get_set, if_pos rfl]
  · intro k hk
    unfold H.child; split
    · show (match (h.gr.set g (h.n, h.kill g)).get k with | some p => p.2 | none => 0) = _
      rw [Tr.get_set, if_neg hk]; rfl
    · show (match (h.gr.set g (h.n, o)).get k with | some p => p.2 | none => 0) = _
      rw [Tr.get_set, if_neg hk]; rfl
  · unfold H.child; split
    · refine .inl ⟨by assumption, ?_⟩
      show (match (h.gr.set g (h.n, h.kill g)).get g with | some p => p.2 | none => 0) = _
      rw [Tr.get_set, if_pos rfl]
    · refine .inr ?_
      show (match (h.gr.set g (h.n, o)).get g with | some p => p.2 | none => 0) = _
      rw [Tr.get_set, if_pos rfl]

theorem ChildTo.wf {h h' : H} {o g e : Nat} {cs nw : List AV} (C : ChildTo h h' o g e cs nw) (wf : h.Wf) : h'.Wf where
  gr := fun k p hk => by
    rw [C.n]
    rcases C.gr k p hk with rfl | hk
    · have := (wf.mem _ _ _ C.was).1; have := wf.ob _ _ C.was; omega
    · exact Nat.lt_succ_of_lt (wf.gr k p hk)
  mem := fun q c k hq => by
    have hon := wf.ob _ _ C.was
    have hgo := (wf.mem _ _ _ C.was).1
    rw [C.get] at hq
    split at hq
    · rename_i e; cases hq; rw [C.tipg]; omega
    · split at hq
      · rename_i e; subst e; cases hq; rw [C.tipg]; omega
      · obtain ⟨h1, h2⟩ := wf.mem q c k hq
        by_cases ek : k = g
        · subst ek; rw [C.tipg]; have := wf.ob _ _ hq; omega
        · rw [C.tipo k ek]; exact ⟨h1, h2⟩
  ob := fun q x hq => by
    rw [C.n]; rw [C.get] at hq
    split at hq
    · omega
    · split at hq
      · rename_i e; subst e; have := wf.ob _ _ C.was; omega
      · have := wf.ob _ _ hq; omega
  kt := fun k p hk => by
    have h1 : h'.tip k = p.1 := by unfold H.tip; rw [hk]
    have h2 : h'.kill k = p.2 := by unfold H.kill; rw [hk]
    have hon := wf.ob _ _ C.was
    by_cases ek : k = g
    · subst ek
      rw [C.tipg] at h1
      rcases C.killg with ⟨_, e⟩ | e
      · rw [e] at h2; have := C.live; omega
      · rw [e] at h2; omega
    · rcases C.gr k p hk with e | hk2
      · exact absurd e ek
      · exact wf.kt k p hk2
  tl := fun k hk => by
    rw [C.n] at hk ⊢
    by_cases ek : k = g
    · subst ek; rw [C.tipg]; exact Nat.lt_succ_self _
    · rw [C.tipo k ek]
      by_cases e2 : k = h.n
      · rw [e2, wf.tip_new]; exact Nat.lt_succ_self _
      · exact Nat.lt_succ_of_lt (wf.tl k (by omega))

/-- rows that are still read were read before, and are as long -/
theorem ChildTo.row_old {h h' : H} {o g e : Nat} {cs nw : List AV} (C : ChildTo h h' o g e cs nw) (wf : h.Wf) {q : Nat} {c : List AV} (hq : h'.row q = some c) (hn : q ≠ h.n) :
    (q = o ∧ c = cs.take e) ∨ (q ≠ o ∧ h.row q = some c ∧ ∀ c2, h.get q = some (.cells c2 (some g)) → e = cs.length) := by
  unfold H.row at hq
  rw [C.get, if_neg hn] at hq
  by_cases eo : q = o
  · subst eo
    rw [if_pos rfl] at hq
    simp only at hq; split at hq
    · cases hq; exact .inl ⟨rfl, rfl⟩
    · cases hq
  · rw [if_neg eo] at hq
    refine .inr ⟨eo, ?_⟩
    unfold H.row
    revert hq
    split
    · rename_i c0 h0; intro hq; exact ⟨hq, fun c2 h2 => by rw [h0] at h2; cases h2⟩
    · rename_i c0 k h0
      intro hq
      split at hq
      · rename_i hk
        cases hq
        by_cases ek : k = g
        · subst ek
          have h9 := (wf.mem _ _ _ h0).2
          rw [C.tip] at h9
          rcases C.killg with ⟨ee, e1⟩ | e1
          · rw [e1] at hk; exact ⟨by rw [if_pos hk], fun _ _ => ee⟩
          · rw [e1] at hk; omega
        · rw [C.kill k ek] at hk
          exact ⟨by rw [if_pos hk], fun c2 h2 => by rw [h0] at h2; cases h2; exact absurd rfl ek⟩
      · cases hq
    · intro hq; cases hq

theorem ChildTo.get_len {h h' : H} {o g e : Nat} {cs nw : List AV} (C : ChildTo h h' o g e cs nw) {q : Nat} {c : List AV} {k : Option Nat} (hq : h'.get q = some (.cells c k)) (hn : q ≠ h.n) :
    ∃ c0, h.get q = some (.cells c0 k) ∧ c.length ≤ c0.length := by
  rw [C.get, if_neg hn] at hq
  split at hq
  · rename_i eo; subst eo; cases hq; exact ⟨cs, C.was, by simp; omega⟩
  · exact ⟨c, hq, Nat.le_refl _⟩
theorem ChildTo.get_grp {h h' : H} {o g e : Nat} {cs nw : List AV} (C : ChildTo h h' o g e cs nw) (wf : h.Wf) {q : Nat} {c : List AV} {k : Option Nat} (hq : h.get q = some (.cells c k)) :
    ∃ c', h'.get q = some (.cells c' k) := by
  rw [C.get, if_neg (Nat.ne_of_lt (wf.ob _ _ hq))]
  split
  · rename_i eo; subst eo; rw [C.was] at hq; cases hq; exact ⟨_, rfl⟩
  · exact ⟨c, hq⟩

/-- in place -/
theorem Rel.childIn {P : Program} {B0 : Nat} {m : M} {h h' : H} {w : World} (r : Rel P B0 m h w) {o g i l : Nat} {cs ad : List AV}
    (C : ChildTo h h' o g (i + l) cs ((cs.drop i).take l ++ ad)) {b base sz : Nat} (hm : m o = some (b, base, sz)) {ad' : List Value} (hv : VRels m ad ad') (hfit : base + i + l + ad.length ≤ sz) :
    Rel P B0 (m.set h.n (b, base + i, sz)) h' (w.setCells b (base + i + l) ad') ∧ Fr B0 m (m.set h.n (b, base + i, sz)) h h' w (w.setCells b (base + i + l) ad') ∧
      (∀ j, j < ad'.length → (w.cell? ⟨b, base + i + l + j, none⟩).isSome = true) ∧ (∀ j, j < ad'.length → w.frozen? ⟨b, base + i + l + j, none⟩ = false) := by
  obtain ⟨hrow, CS, e, fr, hb, hsz⟩ := r.row C.was hm
  obtain ⟨hB, hfz⟩ := r.own C.was hm
  have hlen := hv.len
  have hle := C.le
  have hbl := r.blk hm
  have hon := r.wf.ob _ _ C.was
  have hgo := r.wf.mem _ _ _ C.was
  have hmle : M.le m (m.set h.n (b, base + i, sz)) := M.set_le _ r.fresh
  have hnl : ((cs.drop i).take l ++ ad).length = l + ad.length := by simp; omega
  have hlive : h.row o = some cs := by unfold H.row; rw [C.was]; simp only; rw [if_pos C.live]
  have hnew : ∀ q b' base' sz', (m.set h.n (b, base + i, sz)) q = some (b', base', sz') → (q = h.n ∧ b' = b ∧ base' = base + i ∧ sz' = sz) ∨ (q ≠ h.n ∧ m q = some (b', base', sz')) := by
    intro q b' base' sz' hq
    unfold M.set at hq; split at hq
    · cases hq; exact .inl ⟨by assumption, rfl, rfl, rfl⟩
    · exact .inr ⟨by assumption, hq⟩
  -- whatever lies in this block is of this group
  have hgrp : ∀ q base' sz', m q = some (b, base', sz') → ∃ c, h.get q = some (.cells c (some g)) := by
    intro q base' sz' hq
    by_cases eq : q = o
    · subst eq; exact ⟨cs, C.was⟩
    · obtain ⟨g1, c1, c2, e1, e2⟩ := r.sep hq hm eq hB
      rw [C.was] at e2; cases e2; exact ⟨c1, e1⟩
  obtain ⟨o1, o2, o3⟩ := os_setCells b ad' (base + i + l) w
  have hnn : h'.get h.n = some (.cells ((cs.drop i).take l ++ ad) (some g)) := by rw [C.get, if_pos rfl]
  refine ⟨⟨?_, ?_, ?_, ?_, ?_, ?_, ?_, ?_, ?_, ?_, ?_, ?_, ?_, C.wf r.wf⟩, ⟨hmle, o1, o2, o3, Nat.le_of_eq (size_setCells _ _ _ _).symm, ?_, by rw [C.n]; omega, ?_, ?_, fun _ => Nat.le_of_eq (drawn_setCells b ad' (base + i + l) w).symm⟩, ?_, ?_⟩
  · rw [size_setCells]; exact r.base
  · rintro q ⟨b', base', sz'⟩ hq
    rw [C.n]
    rcases hnew q b' base' sz' hq with ⟨rfl, _⟩ | ⟨_, hq⟩
    · omega
    · have := r.lt _ _ hq; omega
  · intro q c k b' base' sz' hq hmq
    rcases hnew q b' base' sz' hmq with ⟨rfl, rfl, rfl, rfl⟩ | ⟨hne, hmz⟩
    · rw [hnn] at hq; cases hq
      obtain ⟨CS2, h5, h6⟩ := heap_setCells_same b' ad' (base + i + l) w CS e fr hb
      exact ⟨by rw [hnl]; omega, CS2, e, fr, h5, h6.trans hsz⟩
    · obtain ⟨c0, h0, h1⟩ := C.get_len hq hne
      obtain ⟨h2, CS', e', fr', h3, h4⟩ := r.row h0 hmz
      by_cases eb : b' = b
      · subst eb
        obtain ⟨CS2, h5, h6⟩ := heap_setCells_same b' ad' (base + i + l) w CS' e' fr' h3
        exact ⟨by omega, CS2, e', fr', h5, h6.trans h4⟩
      · exact ⟨by omega, CS', e', fr', by rw [heap_setCells_ne b _ _ _ b' eb]; exact h3, h4⟩
  · intro q c b' base' sz' hq hmq j a ha
    rcases hnew q b' base' sz' hmq with ⟨rfl, rfl, rfl, rfl⟩ | ⟨hne, hmz⟩
    · have hc : c = (cs.drop i).take l ++ ad := by
        unfold H.row at hq; rw [hnn] at hq; simp only at hq
        split at hq
        · cases hq; rfl
        · cases hq
      subst hc
      by_cases hj : j < l
      · rw [List.getElem?_append_left (by simp; omega), List.getElem?_take, if_pos hj, List.getElem?_drop] at ha
        obtain ⟨v, h1, h2⟩ := r.val hlive hm _ a ha
        refine ⟨v, ?_, h2.mono hmle⟩
        rw [cell?_setCells_out' _ _ _ _ _ _ (fun _ => .inl (by omega)), show base + i + j = base + (i + j) from by omega]
        exact h1
      · rw [List.getElem?_append_right (by simp; omega)] at ha
        obtain ⟨v, h1, h2⟩ := hv.get _ a ha
        refine ⟨v, ?_, h2.mono hmle⟩
        have hj2 : j - ((cs.drop i).take l).length < ad'.length := by
          rcases Nat.lt_or_ge (j - ((cs.drop i).take l).length) ad'.length with hx | hx
          · exact hx
          · rw [List.getElem?_eq_none hx] at h1; cases h1
        have hl2 : ((cs.drop i).take l).length = l := by simp; omega
        rw [hl2] at h1 hj2
        have := cell?_setCells_in' b' ad' (base + i + l) w CS e fr hb (by omega) (j - l) hj2
        rw [show base + i + j = base + i + l + (j - l) from by omega, this]; exact h1
    · rcases C.row_old r.wf hq hne with ⟨rfl, rfl⟩ | ⟨hno, hro, hg⟩
      · rw [hm] at hmz; cases hmz
        rw [List.getElem?_take] at ha
        split at ha
        · obtain ⟨v, h1, h2⟩ := r.val hlive hm j a ha
          exact ⟨v, by rw [cell?_setCells_out' _ _ _ _ _ _ (fun _ => .inl (by omega))]; exact h1, h2.mono hmle⟩
        · cases ha
      · obtain ⟨v, h1, h2⟩ := r.val hro hmz j a ha
        refine ⟨v, ?_, h2.mono hmle⟩
        rw [cell?_setCells_out']
        · exact h1
        · intro eb; subst eb
          obtain ⟨c2, hc2⟩ := hgrp q base' sz' hmz
          have he := hg c2 hc2
          have hlt := (r.wf.mem _ _ _ hc2).2
          rw [C.tip] at hlt
          have hk : h.kill g ≤ q ∧ c2 = c := by
            unfold H.row at hro; rw [hc2] at hro; simp only at hro
            split at hro
            · cases hro; exact ⟨by assumption, rfl⟩
            · cases hro
          have hjc : j < c.length := by
            rcases Nat.lt_or_ge j c.length with hx | hx
            · exact hx
            · rw [List.getElem?_eq_none hx] at ha; cases ha
          have := r.ord (by omega) hc2 C.was hk.1 hmz hm
          rw [hk.2] at this
          exact .inl (by omega)
  · intro q c k b' base' sz' hq hmq
    rcases hnew q b' base' sz' hmq with ⟨rfl, rfl, rfl, rfl⟩ | ⟨hne, hmz⟩
    · exact ⟨hB, fun j hj => by exact unf_setCells (hfz j hj)⟩
    · obtain ⟨c0, h0, _⟩ := C.get_len hq hne
      obtain ⟨h1, h2⟩ := r.own h0 hmz
      exact ⟨h1, fun j hj => by exact unf_setCells (h2 j hj)⟩
  · intro q c b' base' sz' hq hmq
    rcases hnew q b' base' sz' hmq with ⟨rfl, _⟩ | ⟨hne, hmz⟩
    · rw [hnn] at hq; cases hq
    · obtain ⟨c0, h0, _⟩ := C.get_len hq hne
      exact r.ro h0 hmz
  · intro q q' b' base' sz' base2 sz2 h1 h2 hne hb2
    rcases hnew q b' base' sz' h1 with ⟨rfl, rfl, rfl, rfl⟩ | ⟨n1, z1⟩
    · rcases hnew q' b' base2 sz2 h2 with ⟨rfl, _⟩ | ⟨n2, z2⟩
      · exact absurd rfl hne
      · obtain ⟨c, hc⟩ := hgrp _ _ _ z2
        obtain ⟨c', hc'⟩ := C.get_grp r.wf hc
        exact ⟨g, _, c', hnn, hc'⟩
    · rcases hnew q' b' base2 sz2 h2 with ⟨rfl, rfl, rfl, rfl⟩ | ⟨n2, z2⟩
      · obtain ⟨c, hc⟩ := hgrp _ _ _ z1
        obtain ⟨c', hc'⟩ := C.get_grp r.wf hc
        exact ⟨g, c', _, hc', hnn⟩
      · obtain ⟨g1, c1, c2, e1, e2⟩ := r.sep z1 z2 hne hb2
        obtain ⟨d1, f1⟩ := C.get_grp r.wf e1
        obtain ⟨d2, f2⟩ := C.get_grp r.wf e2
        exact ⟨g1, d1, d2, f1, f2⟩
  · intro q q' g1 c1 c2 b' base' sz' base2 sz2 hlt h1 h2 hk hm1 hm2
    rcases hnew q b' base' sz' hm1 with ⟨rfl, rfl, rfl, rfl⟩ | ⟨n1, z1⟩
    · rcases hnew q' b' base2 sz2 hm2 with ⟨rfl, _⟩ | ⟨n2, z2⟩
      · omega
      · have := r.lt _ _ z2; omega
    · -- q was there
      have hk2 : ∀ c0, h.get q = some (.cells c0 (some g1)) → h.kill g1 ≤ q ∧ (g1 = g → q < o → i + l = cs.length) := by
        intro c0 h0
        by_cases eg : g1 = g
        · subst eg
          have h9 := (r.wf.mem _ _ _ h0).2
          rw [C.tip] at h9
          rcases C.killg with ⟨ee, ek⟩ | ek
          · rw [ek] at hk; exact ⟨hk, fun _ _ => ee⟩
          · rw [ek] at hk
            have := C.live
            exact ⟨by omega, fun _ _ => by omega⟩
        · rw [C.kill g1 eg] at hk; exact ⟨hk, fun e => absurd e eg⟩
      rcases hnew q' b' base2 sz2 hm2 with ⟨rfl, rfl, rfl, rfl⟩ | ⟨n2, z2⟩
      · rw [hnn] at h2; cases h2
        rw [hnl]
        rw [C.get, if_neg n1] at h1
        split at h1
        · rename_i eo; subst eo; cases h1
          rw [hm] at z1; cases z1
          simp; omega
        · rename_i eo
          have h9 := (r.wf.mem _ _ _ h1).2
          rw [C.tip] at h9
          obtain ⟨hk3, hk4⟩ := hk2 c1 h1
          have := r.ord (show q < o by omega) h1 C.was hk3 z1 hm
          have := hk4 rfl (by omega)
          omega
      · obtain ⟨d1, f1, l1⟩ := C.get_len h1 n1
        obtain ⟨hk3, hk4⟩ := hk2 d1 f1
        rw [C.get, if_neg n2] at h2
        split at h2
        · rename_i eo; subst eo; cases h2
          have := r.ord hlt f1 C.was hk3 z1 z2
          have := hk4 rfl hlt
          simp; omega
        · have := r.ord hlt f1 h2 hk3 z1 z2
          omega
  · intro q b' base' sz' hq
    rw [size_setCells]
    rcases hnew q b' base' sz' hq with ⟨rfl, rfl, rfl, rfl⟩ | ⟨_, hq⟩
    · exact hbl
    · exact r.blk hq
  · rintro q ⟨b', base', sz'⟩ hq
    rcases hnew q b' base' sz' hq with ⟨rfl, _⟩ | ⟨hne, hq⟩
    · exact ⟨_, hnn⟩
    · obtain ⟨ob, hob⟩ := r.any hq
      rw [C.get, if_neg hne]; split
      · exact ⟨_, rfl⟩
      · exact ⟨ob, hob⟩
  · intro q L b' base' sz' hq hmq
    rcases hnew q b' base' sz' hmq with ⟨rfl, _⟩ | ⟨hne, hmz⟩
    · rw [hnn] at hq; cases hq
    · rw [C.get, if_neg hne] at hq
      split at hq
      · cases hq
      · obtain ⟨q1, rec, q2, q3⟩ := r.lp hq hmz
        refine ⟨q1, rec, ?_, q3.mono hmle⟩
        rw [heap_setCells_ne]
        · exact q2
        · intro eb; subst eb; rw [hb] at q2; cases q2
  · intro q X b' base' sz' hq hmq
    rcases hnew q b' base' sz' hmq with ⟨rfl, _⟩ | ⟨hne, hmz⟩
    · rw [hnn] at hq; cases hq
    · rw [C.get, if_neg hne] at hq
      split at hq
      · cases hq
      · obtain ⟨q1, q0, rec, q2, q3⟩ := r.mm hq hmz
        refine ⟨q1, q0, rec, ?_, q3.mono hmle⟩
        rw [heap_setCells_ne]
        · exact q2
        · intro eb; subst eb; rw [hb] at q2; cases q2; cases q3
  · intro q g' v hq
    rw [C.get] at hq
    split at hq
    · cases hq
    · split at hq
      · cases hq
      · obtain ⟨q1, v', q2, q3⟩ := r.gb hq
        refine ⟨q1, v', ?_, q3.mono hmle⟩
        rw [cell?_setCells_out' _ _ _ _ _ _ (fun e => by omega)]
        exact q2
  · intro b' hb' hc
    rw [heap_setCells_ne]
    intro eb; subst eb
    rcases hc with hc | hc
    · omega
    · exact hc _ _ _ hm
  · intro q hq hmq
    refine ⟨?_, ?_⟩
    · rw [C.get, if_neg (Nat.ne_of_lt hq), if_neg (fun e => by subst e; rw [hm] at hmq; cases hmq)]
    · unfold M.set; rw [if_neg (Nat.ne_of_lt hq)]; exact hmq
  · intro q b' base' sz' hq hn
    rcases hnew q b' base' sz' hq with ⟨rfl, rfl, rfl, rfl⟩ | ⟨_, hq⟩
    · exact .inr ⟨o, base, sz', hm⟩
    · rw [hn] at hq; cases hq
  · intro j hj
    rw [cell?_some_of_lt hb (by omega)]; rfl
  · intro j hj
    exact (hfz _ (by omega)).frozen

/-- in a new block -/
theorem Rel.childNew {P : Program} {B0 : Nat} {m : M} {h h' : H} {w : World} (r : Rel P B0 m h w) {o g e : Nat} {cs nw : List AV} (C : ChildTo h h' o g e cs nw) (hmo : m o ≠ none)
    (CS : Array Value) (et : Nat) (fr : Nat × Nat) (hv : ∀ (i : Nat) (a : AV), nw[i]? = some a → ∃ v, CS[i]? = some v ∧ VRel m a v) (hl : nw.length ≤ CS.size) (hf : ∀ i, i < CS.size → fr.1 = fr.2 ∨ i < fr.1) :
    Rel P B0 (m.set h.n (w.heap.size, 0, CS.size)) h' (w.alloc (.cells CS et fr)) ∧ Fr B0 m (m.set h.n (w.heap.size, 0, CS.size)) h h' w (w.alloc (.cells CS et fr)) := by
  have hle : M.le m (m.set h.n (w.heap.size, 0, CS.size)) := M.set_le _ r.fresh
  have hnew : ∀ q b base sz, (m.set h.n (w.heap.size, 0, CS.size)) q = some (b, base, sz) → (q = h.n ∧ b = w.heap.size ∧ base = 0 ∧ sz = CS.size) ∨ (q ≠ h.n ∧ m q = some (b, base, sz) ∧ b < w.heap.size) := by
    intro q b base sz ho
    unfold M.set at ho
    split at ho
    · rename_i e; cases ho; exact .inl ⟨e, rfl, rfl, rfl⟩
    · rename_i e; exact .inr ⟨e, ho, r.blk ho⟩
  have hnn : h'.get h.n = some (.cells nw (some g)) := by rw [C.get, if_pos rfl]
  refine ⟨⟨?_, ?_, ?_, ?_, ?_, ?_, ?_, ?_, ?_, ?_, ?_, ?_, ?_, C.wf r.wf⟩, ⟨hle, rfl, rfl, rfl, by simp, ?_, by rw [C.n]; omega, ?_, ?_, fun _ => Nat.le_refl _⟩⟩
  · have := r.base; simp; omega
  · rintro q ⟨b, base, sz⟩ hx
    rw [C.n]
    rcases hnew q b base sz hx with ⟨rfl, _⟩ | ⟨_, hm, _⟩
    · omega
    · have := r.lt _ _ hm; omega
  · intro q c k b base sz hg hx
    rcases hnew q b base sz hx with ⟨rfl, rfl, rfl, rfl⟩ | ⟨hne, hm, hb⟩
    · rw [hnn] at hg; cases hg
      exact ⟨by simpa using hl, CS, et, fr, by rw [heap_alloc_eq, if_pos rfl], rfl⟩
    · obtain ⟨c0, h0, h9⟩ := C.get_len hg hne
      obtain ⟨h1, CS', e', fr', h2, h3⟩ := r.row h0 hm
      exact ⟨by omega, CS', e', fr', by rw [heap_alloc_eq, if_neg (Nat.ne_of_lt hb)]; exact h2, h3⟩
  · intro q c b base sz hg hx i a hi
    rcases hnew q b base sz hx with ⟨rfl, rfl, rfl, rfl⟩ | ⟨hne, hm, hb⟩
    · have hrow : c = nw := by
        unfold H.row at hg; rw [hnn] at hg; simp only at hg
        split at hg
        · cases hg; rfl
        · cases hg
      subst hrow
      obtain ⟨v, h1, h2⟩ := hv i a hi
      exact ⟨v, by rw [Nat.zero_add, cell?_alloc_cells]; exact h1, h2.mono hle⟩
    · rcases C.row_old r.wf hg hne with ⟨rfl, rfl⟩ | ⟨hno, hro, _⟩
      · rw [List.getElem?_take] at hi
        split at hi
        · have hlive : h.row q = some cs := by unfold H.row; rw [C.was]; simp only; rw [if_pos C.live]
          obtain ⟨v, h1, h2⟩ := r.val hlive hm i a hi
          exact ⟨v, by rw [cell?_alloc_of_lt _ _ _ hb]; exact h1, h2.mono hle⟩
        · cases hi
      · obtain ⟨v, h1, h2⟩ := r.val hro hm i a hi
        exact ⟨v, by rw [cell?_alloc_of_lt _ _ _ hb]; exact h1, h2.mono hle⟩
  · intro q c k b base sz hg hx
    rcases hnew q b base sz hx with ⟨rfl, rfl, rfl, rfl⟩ | ⟨hne, hm, hb⟩
    · refine ⟨r.base, fun i hi => ?_⟩
      intro CS' e' fr' hb'
      rw [heap_alloc_eq, if_pos rfl] at hb'
      cases hb'; exact hf i hi
    · obtain ⟨c0, h0, _⟩ := C.get_len hg hne
      obtain ⟨h1, h2⟩ := r.own h0 hm
      exact ⟨h1, fun i hi => by exact unf_alloc hb (h2 i hi)⟩
  · intro q c b base sz hg hx
    rcases hnew q b base sz hx with ⟨rfl, rfl, rfl, rfl⟩ | ⟨hne, hm, hb⟩
    · rw [hnn] at hg; cases hg
    · obtain ⟨c0, h0, _⟩ := C.get_len hg hne
      exact r.ro h0 hm
  · intro q q' b base sz base' sz' hx hx' hne hb
    rcases hnew q b base sz hx with ⟨rfl, rfl, rfl, rfl⟩ | ⟨h1, hm, hb1⟩
    · rcases hnew q' _ base' sz' hx' with ⟨rfl, _⟩ | ⟨_, _, hb2⟩
      · exact absurd rfl hne
      · omega
    · rcases hnew q' _ base' sz' hx' with ⟨_, rfl, _⟩ | ⟨h2, hm', _⟩
      · omega
      · obtain ⟨g1, c1, c2, e1, e2⟩ := r.sep hm hm' hne hb
        obtain ⟨d1, f1⟩ := C.get_grp r.wf e1
        obtain ⟨d2, f2⟩ := C.get_grp r.wf e2
        exact ⟨g1, d1, d2, f1, f2⟩
  · intro q q' g1 c1 c2 b base sz base' sz' hlt hg hg' hk hx hx'
    rcases hnew q b base sz hx with ⟨rfl, rfl, rfl, rfl⟩ | ⟨h1, hm, hb1⟩
    · rcases hnew q' _ base' sz' hx' with ⟨rfl, _⟩ | ⟨_, _, hb2⟩
      · omega
      · omega
    · rcases hnew q' _ base' sz' hx' with ⟨_, rfl, _⟩ | ⟨h2, hm', _⟩
      · omega
      · obtain ⟨d1, f1, l1⟩ := C.get_len hg h1
        have hk2 : h.kill g1 ≤ q ∧ (g1 = g → q < o → e = cs.length) := by
          by_cases eg : g1 = g
          · subst eg
            have h9 := (r.wf.mem _ _ _ f1).2
            rw [C.tip] at h9
            rcases C.killg with ⟨ee, ek⟩ | ek
            · rw [ek] at hk; exact ⟨hk, fun _ _ => ee⟩
            · rw [ek] at hk
              have := C.live
              exact ⟨by omega, fun _ _ => by omega⟩
          · rw [C.kill g1 eg] at hk; exact ⟨hk, fun e => absurd e eg⟩
        rw [C.get, if_neg h2] at hg'
        split at hg'
        · rename_i eo; subst eo; cases hg'
          have := r.ord hlt f1 C.was hk2.1 hm hm'
          have := hk2.2 rfl hlt
          simp; omega
        · have := r.ord hlt f1 hg' hk2.1 hm hm'
          omega
  · intro q b base sz hx
    rcases hnew q b base sz hx with ⟨rfl, rfl, rfl, rfl⟩ | ⟨h1, hm, hb1⟩
    · simp
    · simp; omega
  · rintro q ⟨b, base, sz⟩ hx
    rcases hnew q b base sz hx with ⟨rfl, _⟩ | ⟨h1, hm, _⟩
    · exact ⟨_, hnn⟩
    · obtain ⟨ob, hob⟩ := r.any hm
      rw [C.get, if_neg h1]; split
      · exact ⟨_, rfl⟩
      · exact ⟨ob, hob⟩
  · intro q L b base sz hg hx
    rcases hnew q b base sz hx with ⟨rfl, _⟩ | ⟨h1, hm, hb1⟩
    · rw [hnn] at hg; cases hg
    · rw [C.get, if_neg h1] at hg
      split at hg
      · cases hg
      · obtain ⟨q1, rec, q2, q3⟩ := r.lp hg hm
        exact ⟨q1, rec, by rw [heap_alloc_eq, if_neg (Nat.ne_of_lt hb1)]; exact q2, q3.mono hle⟩
  · intro q X b base sz hg hx
    rcases hnew q b base sz hx with ⟨rfl, _⟩ | ⟨h1, hm, hb1⟩
    · rw [hnn] at hg; cases hg
    · rw [C.get, if_neg h1] at hg
      split at hg
      · cases hg
      · obtain ⟨q1, q0, rec, q2, q3⟩ := r.mm hg hm
        exact ⟨q1, q0, rec, by rw [heap_alloc_eq, if_neg (Nat.ne_of_lt hb1)]; exact q2, q3.mono hle⟩
  · intro q g' v hq
    rw [C.get] at hq
    split at hq
    · cases hq
    · split at hq
      · cases hq
      · obtain ⟨q1, v', q2, q3⟩ := r.gb hq
        exact ⟨q1, v', by rw [cell?_alloc_of_lt _ _ _ (by have := r.base; omega)]; exact q2, q3.mono hle⟩
  · intro b hb _
    rw [heap_alloc_eq, if_neg (Nat.ne_of_lt hb)]
  · intro q ho hm
    refine ⟨?_, ?_⟩
    · rw [C.get, if_neg (Nat.ne_of_lt ho), if_neg (fun e => by subst e; exact hmo hm)]
    · unfold M.set; rw [if_neg (Nat.ne_of_lt ho)]; exact hm
  · intro q b base sz hx hn
    rcases hnew q b base sz hx with ⟨rfl, rfl, rfl, rfl⟩ | ⟨h1, hm, _⟩
    · exact .inl (Nat.le_refl _)
    · rw [hn] at hm; cases hm
end Go.Proofs.YtlbaphapjclkdaaGreatDoor.Ev

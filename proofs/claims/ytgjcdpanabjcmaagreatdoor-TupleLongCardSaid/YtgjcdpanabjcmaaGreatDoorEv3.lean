/- A store into a row, and a row behind a row. -/
import Derived.Test.YtgjcdpanabjcmaaGreatDoorEv2
namespace Go.Proofs.YtgjcdpanabjcmaaGreatDoor.Ev
set_option linter.unusedVariables false

theorem heap_setCells_ne (b : Nat) : ∀ (vs : List Value) (o : Nat) (w : World) (k : Nat), k ≠ b → (w.setCells b o vs).heap[k]? = w.heap[k]?
  | [], _, _, _, _ => rfl
  | v :: r, o, w, k, h => by
    rw [World.setCells, heap_setCells_ne b r _ _ k h]
    simp only [World.setCell, Array.getElem?_modify]
    rw [if_neg (fun e => h e.symm)]
theorem size_setCells (b : Nat) : ∀ (vs : List Value) (o : Nat) (w : World), (w.setCells b o vs).heap.size = w.heap.size
  | [], _, _ => rfl
  | v :: r, o, w => by rw [World.setCells, size_setCells b r, World.size_setCell]
theorem os_setCells (b : Nat) : ∀ (vs : List Value) (o : Nat) (w : World), (w.setCells b o vs).os = w.os ∧ (w.setCells b o vs).tape = w.tape ∧ (w.setCells b o vs).output = w.output
  | [], _, _ => ⟨rfl, rfl, rfl⟩
  | v :: r, o, w => by rw [World.setCells]; exact os_setCells b r (o + 1) _
theorem heap_setCells_same (b : Nat) : ∀ (vs : List Value) (o : Nat) (w : World) (CS : Array Value) (e : Nat) (fr : Nat × Nat), w.heap[b]? = some (.cells CS e fr) →
    ∃ CS', (w.setCells b o vs).heap[b]? = some (.cells CS' e fr) ∧ CS'.size = CS.size
  | [], _, w, CS, e, fr, h => ⟨CS, h, rfl⟩
  | v :: r, o, w, CS, e, fr, h => by
    have h1 : (w.setCell ⟨b, o, none⟩ v).heap[b]? = some (.cells (CS.setIfInBounds o v) e fr) := by
      simp only [World.setCell, Array.getElem?_modify, if_true]
      rw [h]; rfl
    obtain ⟨CS', h2, h3⟩ := heap_setCells_same b r (o + 1) _ _ e fr h1
    exact ⟨CS', by rw [World.setCells]; exact h2, by rw [h3]; simp⟩
theorem unf_setCell {w : World} {b o : Nat} {v : Value} {a : Addr} (u : unf w a) : unf (w.setCell ⟨b, o, none⟩ v) a := by
  intro CS e fr h
  simp only [World.setCell, Array.getElem?_modify] at h
  by_cases hb : b = a.block
  · simp only [hb, if_true] at h
    cases hh : w.heap[a.block]? with
    | none => rw [hh] at h; cases h
    | some x =>
      rw [hh] at h
      cases x with
      | cells c t f =>
        simp only [Option.map_some, Option.some.injEq, Obj.cells.injEq] at h
        obtain ⟨_, _, rfl⟩ := h
        exact u _ _ _ hh
      | _ => simp at h
  · rw [if_neg hb] at h
    exact u _ _ _ h
theorem unf_setCells {b : Nat} : ∀ {vs : List Value} {o : Nat} {w : World} {a : Addr}, unf w a → unf (w.setCells b o vs) a
  | [], _, _, _, u => u
  | v :: r, o, w, a, u => by rw [World.setCells]; exact unf_setCells (unf_setCell u)
theorem cell?_setCells_out' (b : Nat) (vs : List Value) (o : Nat) (w : World) (c j : Nat) (h : c = b → j < o ∨ o + vs.length ≤ j) : (w.setCells b o vs).cell? ⟨c, j, none⟩ = w.cell? ⟨c, j, none⟩ :=
  World.cell?_setCells_out b vs o w ⟨c, j, none⟩ (fun e _ => h e)
theorem cell?_some_of_lt {w : World} {b : Nat} {CS : Array Value} {e : Nat} {fr : Nat × Nat} (h : w.heap[b]? = some (.cells CS e fr)) {i : Nat} (hi : i < CS.size) : w.cell? ⟨b, i, none⟩ = some CS[i] := by
  unfold World.cell?; rw [h]; simp [hi]
theorem cell?_setCells_in' (b : Nat) (vs : List Value) (o : Nat) (w : World) (CS : Array Value) (e : Nat) (fr : Nat × Nat) (h : w.heap[b]? = some (.cells CS e fr)) (hl : o + vs.length ≤ CS.size) (j : Nat) (hj : j < vs.length) :
    (w.setCells b o vs).cell? ⟨b, o + j, none⟩ = vs[j]? := by
  have := World.cell?_setCells_in b vs o w (fun i hi => by rw [cell?_some_of_lt h (by omega)]; rfl) j hj
  rw [this, List.getElem?_eq_getElem hj]

theorem splice_length {cs vs : List AV} {i : Nat} (h : i + vs.length ≤ cs.length) : (splice cs i vs).length = cs.length := by
  unfold splice; simp; omega
theorem splice_get {cs vs : List AV} {i : Nat} (h : i + vs.length ≤ cs.length) (j : Nat) : (splice cs i vs)[j]? = if j < i then cs[j]? else if j < i + vs.length then vs[j - i]? else cs[j]? := by
  unfold splice
  by_cases h1 : j < i
  · rw [if_pos h1, List.append_assoc, List.getElem?_append_left (by simp; omega), List.getElem?_take, if_pos h1]
  · rw [if_neg h1]
    by_cases h2 : j < i + vs.length
    · rw [if_pos h2, List.getElem?_append_left (by simp; omega), List.getElem?_append_right (by simp; omega)]
      simp; congr 1; omega
    · rw [if_neg h2, List.getElem?_append_right (by simp; omega), List.getElem?_drop]
      simp; congr 1; omega

/-- what 'put' makes of the heap -/
structure PutTo (h h' : H) (o i : Nat) (vs : List AV) (cs : List AV) (g : Nat) : Prop where
  was : h.get o = some (.cells cs (some g))
  tip : h.tip g = o
  fit : i + vs.length ≤ cs.length
  get : ∀ j, h'.get j = if j = o then some (.cells (splice cs i vs) (some g)) else h.get j
  n : h'.n = h.n
  gr : ∀ k p, h'.gr.get k = some p → k = g ∨ h.gr.get k = some p
  tipo : ∀ k, h'.tip k = h.tip k
  kill : ∀ k, k ≠ g → h'.kill k = h.kill k
  killg : (g = o ∧ h'.kill g = h.kill g) ∨ (g ≠ o ∧ h'.kill g = o)
theorem H.put_to {h h' : H} {o i : Nat} {vs : List AV} (hp : h.put o i vs = some h') : ∃ cs g, PutTo h h' o i vs cs g := by
  unfold H.put at hp
  split at hp
  case h_2 => cases hp
  rename_i cs g hg
  split at hp
  case isFalse => cases hp
  rename_i hc
  cases hp
  refine ⟨cs, g, hg, hc.1, hc.2, ?_, ?_, ?_, ?_, ?_, ?_⟩
  · intro j; split <;> exact Tr.get_set _ _ _ _
  · split <;> rfl
  · intro k p hk
    split at hk
    · exact .inr hk
    · have hk' : (h.gr.set g (o, o)).get k = some p := hk
      rw [Tr.get_set] at hk'
      split at hk'
      · exact .inl (by assumption)
      · exact .inr hk'
  · intro k
    split
    · rfl
    · show (match (h.gr.set g (o, o)).get k with | some p => p.1 | none => k) = h.tip k
      rw [Tr.get_set]
      by_cases e : k = g
      · subst e; simp [hc.1]
      · rw [if_neg e]; rfl
  · intro k hk
    split
    · rfl
    · show (match (h.gr.set g (o, o)).get k with | some p => p.2 | none => 0) = h.kill k
      rw [Tr.get_set, if_neg hk]; rfl
  · by_cases e : g = o
    · rw [if_pos e]; exact .inl ⟨e, rfl⟩
    · rw [if_neg e]
      refine .inr ⟨e, ?_⟩
      show (match (h.gr.set g (o, o)).get g with | some p => p.2 | none => 0) = o
      rw [Tr.get_set, if_pos rfl]

theorem Rel.put {P : Program} {B0 : Nat} {m : M} {h h' : H} {w : World} (r : Rel P B0 m h w) {o i : Nat} {vs : List AV} (hp : h.put o i vs = some h') {b base sz : Nat} (hm : m o = some (b, base, sz))
    {vs' : List Value} (hv : VRels m vs vs') :
    Rel P B0 m h' (w.setCells b (base + i) vs') ∧ Fr B0 m m h h' w (w.setCells b (base + i) vs') ∧ (∀ j, j < vs'.length → (w.cell? ⟨b, base + i + j, none⟩).isSome = true) ∧ (∀ j, j < vs'.length → w.frozen? ⟨b, base + i + j, none⟩ = false) := by
  obtain ⟨cs, g, P⟩ := H.put_to hp
  obtain ⟨hrow, CS, e, fr, hb, hsz⟩ := r.row P.was hm
  obtain ⟨hB, hfz⟩ := r.own P.was hm
  have hlen := hv.len
  have hfit := P.fit
  have hbl := r.blk hm
  have hgo := r.wf.mem _ _ _ P.was
  have hget : ∀ j cs' g', h'.get j = some (.cells cs' g') → ∃ cs0, h.get j = some (.cells cs0 g') ∧ cs0.length = cs'.length := by
    intro j cs' g' hj
    rw [P.get] at hj
    split at hj
    · rename_i ej; subst ej; cases hj; exact ⟨cs, P.was, (splice_length P.fit).symm⟩
    · exact ⟨cs', hj, rfl⟩
  obtain ⟨o1, o2, o3⟩ := os_setCells b vs' (base + i) w
  refine ⟨⟨?_, ?_, ?_, ?_, ?_, ?_, ?_, ?_, ?_, ?_, ?_, ?_, ?_, ?_⟩, ⟨M.le_refl m, o1, o2, o3, Nat.le_of_eq (size_setCells _ _ _ _).symm, ?_, Nat.le_of_eq P.n.symm, ?_, fun q b' base' sz' hs hn => by rw [hn] at hs; cases hs⟩, ?_, ?_⟩
  · rw [size_setCells]; exact r.base
  · intro q x hq; rw [P.n]; exact r.lt q x hq
  · intro q cs' g' b' base' sz' hq hmq
    obtain ⟨cs0, h0, h1⟩ := hget q cs' g' hq
    obtain ⟨h2, CS', e', fr', h3, h4⟩ := r.row h0 hmq
    by_cases eb : b' = b
    · subst eb
      obtain ⟨CS2, h5, h6⟩ := heap_setCells_same b' vs' (base + i) w CS' e' fr' h3
      exact ⟨by omega, CS2, e', fr', h5, h6.trans h4⟩
    · exact ⟨by omega, CS', e', fr', by rw [heap_setCells_ne b _ _ _ b' eb]; exact h3, h4⟩
  · intro q cs' b' base' sz' hq hmq j a ha
    by_cases eq : q = o
    · subst eq
      rw [hm] at hmq; cases hmq
      have hcs : cs' = splice cs i vs := by
        unfold H.row at hq; rw [P.get, if_pos rfl] at hq
        simp only at hq; split at hq
        · cases hq; rfl
        · cases hq
      have hlive : h.row q = some cs := by
        unfold H.row at hq ⊢
        rw [P.get, if_pos rfl] at hq
        rw [P.was]
        simp only at hq ⊢
        rcases P.killg with ⟨_, ek⟩ | ⟨_, ek⟩
        · rw [ek] at hq
          split at hq
          · rw [if_pos (by assumption)]
          · cases hq
        · rw [if_pos]
          by_cases hk : h.kill g ≤ q
          · exact hk
          · have hkt : h.kill g ≤ q := by
              unfold H.kill
              cases hgr : h.gr.get g with
              | none => exact Nat.zero_le _
              | some p =>
                have := r.wf.kt g p hgr
                have ht := P.tip
                unfold H.tip at ht; rw [hgr] at ht
                simp only at ht ⊢
                omega
            exact hkt
      subst hcs
      rw [splice_get P.fit] at ha
      split at ha
      · rename_i h1
        obtain ⟨v, h2, h3⟩ := r.val hlive hm j a ha
        exact ⟨v, by rw [cell?_setCells_out' _ _ _ _ _ _ (fun _ => .inl (by omega))]; exact h2, h3⟩
      · rename_i h1
        split at ha
        · rename_i h2
          obtain ⟨v, h3, h4⟩ := hv.get _ a ha
          refine ⟨v, ?_, h4⟩
          have := cell?_setCells_in' b vs' (base + i) w CS e fr hb (by omega) (j - i) (by omega)
          rw [show base + j = base + i + (j - i) from by omega, this]; exact h3
        · rename_i h2
          obtain ⟨v, h3, h4⟩ := r.val hlive hm j a ha
          exact ⟨v, by rw [cell?_setCells_out' _ _ _ _ _ _ (fun _ => .inr (by omega))]; exact h3, h4⟩
    · have hq' : h.row q = some cs' := by
        unfold H.row at hq ⊢
        rw [P.get, if_neg eq] at hq
        revert hq
        split
        · exact id
        · rename_i cs2 g2 hg2
          intro hq
          by_cases eg : g2 = g
          · subst eg
            rcases P.killg with ⟨_, ek⟩ | ⟨_, ek⟩
            · rw [ek] at hq; exact hq
            · rw [ek] at hq
              have := (r.wf.mem _ _ _ hg2).2
              rw [P.tip] at this
              rw [if_neg (by omega)] at hq; cases hq
          · rw [P.kill g2 eg] at hq; exact hq
        · exact id
      obtain ⟨v, h3, h4⟩ := r.val hq' hmq j a ha
      refine ⟨v, ?_, h4⟩
      rw [cell?_setCells_out']
      · exact h3
      · intro eb; subst eb
        -- another row of this block: of the same group, and dead
        exfalso
        obtain ⟨g1, c1, c2, e1, e2⟩ := r.sep hm hmq (fun x => eq x.symm) hB
        rw [P.was] at e1; cases e1
        have hq2 := hq
        unfold H.row at hq2
        rw [P.get, if_neg eq, e2] at hq2
        simp only at hq2
        have h9 := (r.wf.mem _ _ _ e2)
        rw [P.tip] at h9
        rcases P.killg with ⟨eo, ek⟩ | ⟨eo, ek⟩
        · omega
        · rw [ek] at hq2
          rw [if_neg (by omega)] at hq2; cases hq2
  · intro q cs' g' b' base' sz' hq hmq
    obtain ⟨cs0, h0, _⟩ := hget q cs' (some g') hq
    obtain ⟨h1, h2⟩ := r.own h0 hmq
    exact ⟨h1, fun j hj => by exact unf_setCells (h2 j hj)⟩
  · intro q cs' b' base' sz' hq hmq
    obtain ⟨cs0, h0, _⟩ := hget q cs' none hq
    exact r.ro h0 hmq
  · intro q q' b' base' sz' base2 sz2 h1 h2 hne hb2
    obtain ⟨g1, c1, c2, e1, e2⟩ := r.sep h1 h2 hne hb2
    have hx : ∀ z c k, h.get z = some (.cells c (some k)) → ∃ c', h'.get z = some (.cells c' (some k)) := by
      intro z c k hz
      rw [P.get]
      split
      · rename_i ez; subst ez; rw [P.was] at hz; cases hz; exact ⟨_, rfl⟩
      · exact ⟨c, hz⟩
    obtain ⟨d1, f1⟩ := hx _ _ _ e1
    obtain ⟨d2, f2⟩ := hx _ _ _ e2
    exact ⟨g1, d1, d2, f1, f2⟩
  · intro q q' g1 c1 c2 b' base' sz' base2 sz2 hlt h1 h2 hk hm1 hm2
    obtain ⟨d1, f1, l1⟩ := hget q c1 _ h1
    obtain ⟨d2, f2, l2⟩ := hget q' c2 _ h2
    have : h.kill g1 ≤ q := by
      by_cases eg : g1 = g
      · subst eg
        rcases P.killg with ⟨_, ek⟩ | ⟨_, ek⟩
        · rw [ek] at hk; exact hk
        · rw [ek] at hk
          have h9 := (r.wf.mem _ _ _ f2).2
          rw [P.tip] at h9
          omega
      · rw [P.kill g1 eg] at hk; exact hk
    have := r.ord hlt f1 f2 this hm1 hm2
    omega
  · intro q b' base' sz' hq; rw [size_setCells]; exact r.blk hq
  · intro q x hq
    obtain ⟨ob, hob⟩ := r.any hq
    rw [P.get]; split
    · exact ⟨_, rfl⟩
    · exact ⟨ob, hob⟩
  · intro q L b' base' sz' hq hmq
    rw [P.get] at hq
    split at hq
    · cases hq
    · obtain ⟨q1, rec, q2, q3⟩ := r.lp hq hmq
      refine ⟨q1, rec, ?_, q3⟩
      rw [heap_setCells_ne]
      · exact q2
      · intro eb; subst eb; rw [hb] at q2; cases q2
  · intro q X b' base' sz' hq hmq
    rw [P.get] at hq
    split at hq
    · cases hq
    · obtain ⟨q1, q0, rec, q2, q3⟩ := r.mm hq hmq
      refine ⟨q1, q0, rec, ?_, q3⟩
      rw [heap_setCells_ne]
      · exact q2
      · intro eb; subst eb; rw [hb] at q2; cases q2; cases q3
  · intro q g' v hq
    rw [P.get] at hq
    split at hq
    · cases hq
    · obtain ⟨q1, v', q2, q3⟩ := r.gb hq
      refine ⟨q1, v', ?_, q3⟩
      rw [cell?_setCells_out' _ _ _ _ _ _ (fun e => by omega)]
      exact q2
  · exact {
      gr := fun k p hk => by
        rw [P.n]
        rcases P.gr k p hk with rfl | hk
        · have := r.wf.ob _ _ P.was; omega
        · exact r.wf.gr k p hk
      mem := fun q c k hq => by
        obtain ⟨c0, h0, _⟩ := hget q c _ hq
        rw [P.tipo]; exact r.wf.mem q c0 k h0
      ob := fun q x hq => by
        rw [P.n]; rw [P.get] at hq
        split at hq
        · rename_i e; subst e; exact r.wf.ob _ _ P.was
        · exact r.wf.ob q x hq
      kt := fun k p hk => by
        have h1 : h'.tip k = p.1 := by unfold H.tip; rw [hk]
        have h2 : h'.kill k = p.2 := by unfold H.kill; rw [hk]
        by_cases ek : k = g
        · subst ek
          rcases P.killg with ⟨_, ek⟩ | ⟨_, ek⟩
          · rw [P.tipo] at h1; rw [ek] at h2
            unfold H.tip at h1; unfold H.kill at h2
            cases hgr : h.gr.get k with
            | none => rw [hgr] at h1 h2; simp only at h1 h2; omega
            | some p0 => rw [hgr] at h1 h2; simp only at h1 h2; have := r.wf.kt k p0 hgr; omega
          · rw [P.tipo, P.tip] at h1; omega
        · rcases P.gr k p hk with e | hk2
          · exact absurd e ek
          · exact r.wf.kt k p hk2
      tl := fun k hk => by
        rw [P.n] at hk ⊢; rw [P.tipo]; exact r.wf.tl k hk }
  · intro b' hb' hc
    rw [heap_setCells_ne]
    intro eb; subst eb
    rcases hc with hc | hc
    · omega
    · exact hc _ _ _ hm
  · intro q hq hmq
    refine ⟨?_, hmq⟩
    rw [P.get, if_neg (fun e => by subst e; rw [hm] at hmq; cases hmq)]
  · intro j hj
    rw [cell?_some_of_lt hb (by omega)]; rfl
  · intro j hj
    exact (hfz _ (by omega)).frozen
end Go.Proofs.YtgjcdpanabjcmaaGreatDoor.Ev

/- One operation, run on two memories side by side: all operations. -/
import Derived.Test.YtlbaphapjclkdaaGreatDoorEvT1
namespace Go.Proofs.YtlbaphapjclkdaaGreatDoor.Ev
set_option linter.unusedVariables false
set_option linter.unusedSimpArgs false
section
variable {t : Tau} {G : Tags} {h0 h h1 : H} {s0 s : S}
theorem sliceTA_tau {lo hi : Option AV} {x u : AV} (e : sliceTA lo hi x = some u) : sliceTA lo hi (x.tau t) = some (u.tau t) := by
  unfold sliceTA at e
  split at e
  case h_2 => cases e
  obtain ⟨p, e1, e2⟩ := Option.map_eq_some_iff.1 e
  cases e2
  simp only [AV.tau, sliceTA]; rw [e1]; rfl
theorem sliceAA_tau (hs : HS t h0 h) {es n : Nat} {lo hi : Option AV} {x u : AV} (e : sliceAA h0 es n lo hi x = some u) : sliceAA h es n lo hi (x.tau t) = some (u.tau t) := by
  unfold sliceAA at e
  split at e
  case h_2 => cases e
  split at e
  case h_2 => cases e
  rename_i o i cs g hg
  split at e
  case isFalse => cases e
  rename_i hl
  obtain ⟨p, e1, e2⟩ := Option.map_eq_some_iff.1 e
  cases e2
  obtain ⟨P, hP, hr⟩ := hs.cells hg
  simp only [AV.tau, sliceAA, hr]
  rw [if_pos (by simp only [List.length_append, List.length_map]; omega), e1]
  simp only [Option.map_some, Nat.add_assoc]
theorem copy_tau (tk : TauOK t) (hs : HS t h0 h) {es : Nat} {x y v : AV} (hro : rowOK h0 y = true) (hv : fixV v = true) (e : copyA h0 es x y = some (v, h1)) : ∃ h2, copyA h es (x.tau t) (y.tau t) = some (v, h2) ∧ HS t h1 h2 := by
  unfold copyA at e
  split at e
  · rename_i n hn
    cases e
    exact ⟨h, by simp only [AV.tau, copyA, lenA_tau, hn], hs⟩
  · rename_i o i len es' k hk
    simp only [AV.tau, copyA, lenA_tau, hk]
    split at e
    case isFalse => cases e
    rename_i he
    rw [if_pos he]
    split at e
    · rename_i hz
      cases e
      rw [if_pos hz]
      exact ⟨h, rfl, hs⟩
    · rename_i hz
      rw [if_neg hz]
      split at e
      case h_2 => cases e
      rename_i new hf
      rw [hs.firstCells tk hro hf]
      simp only
      split at e
      case isFalse => cases e
      rename_i ho
      rw [if_pos (by rw [taus_one]; exact ho)]
      obtain ⟨u, e1, e2⟩ := Option.map_eq_some_iff.1 e
      cases e2
      obtain ⟨h2, e3, hs2⟩ := hs.put tk e1
      exact ⟨h2, by rw [e3]; rfl, hs2⟩
  · cases e
theorem append_tau (tk : TauOK t) (hs : HS t h0 h) {es : Nat} {x y v : AV} (hro : rowOK h0 y = true) (e : appendA h0 es x y = some (v, h1)) : ∃ h2, appendA h es (x.tau t) (y.tau t) = some (v.tau t, h2) ∧ HS t h1 h2 := by
  unfold appendA at e ⊢
  rw [lenA_tau]
  split at e
  case h_2 => cases e
  rename_i k hk
  split at e
  case h_2 => cases e
  rename_i new hf
  simp only [hk, hs.firstCells tk hro hf]
  exact hs.app tk e
theorem bin_tau (tk : TauOK t) (gk : TagsOK G t) {op : BinOp} {x y v : AV} (hf : binOK G op v x y = true) (e : binA op x y = some v) : binA op (x.tau t) (y.tau t) = some (v.tau t) := by
  unfold binA at e
  split at e
  · rename_i k a k' b
    simp only [binOK, Bool.or_eq_true, Bool.and_eq_true] at hf
    simp only [AV.tau]
    rcases hf with q | q
    · rw [tk.fix _ _ q.1.1, tk.fix _ _ q.1.2, tk.fixV q.2]; exact e
    · exact gk.bin q e
  · rename_i a b
    simp only [AV.tau]
    show strBin op a b = _
    rw [e]
    unfold strBin at e
    split at e
    all_goals first | (cases e; done) | (cases e; rfl) | (split at e <;> first | (cases e; done) | (cases e; rfl))
  · cases e
theorem cv_tau (tk : TauOK t) (gk : TagsOK G t) {k : IntKind} {x v : AV} (hf : cvOK G k v x = true) (e : cvIntA k x = some v) : cvIntA k (x.tau t) = some (v.tau t) := by
  cases x <;> (try (cases e; done))
  rename_i k' a
  simp only [cvOK, Bool.or_eq_true, Bool.and_eq_true] at hf
  simp only [AV.tau]
  rcases hf with q | q
  · rw [tk.fix _ _ q.1, tk.fixV q.2]; exact e
  · exact gk.cv q e
theorem mx_tau (tk : TauOK t) (gk : TagsOK G t) {m : Bool} {x y v : AV} (hf : mxOK G m v x y = true) (e : (if m then maxA else minA) x y = some v) : (if m then maxA else minA) (x.tau t) (y.tau t) = some (v.tau t) := by
  have hi : ∃ k a k' b, x = .int k a ∧ y = .int k' b := by
    cases m
    · cases x <;> (try (cases e; done))
      cases y <;> (try (cases e; done))
      exact ⟨_, _, _, _, rfl, rfl⟩
    · cases x <;> (try (cases e; done))
      cases y <;> (try (cases e; done))
      exact ⟨_, _, _, _, rfl, rfl⟩
  obtain ⟨k, a, k', b, rfl, rfl⟩ := hi
  simp only [mxOK, Bool.or_eq_true, Bool.and_eq_true] at hf
  simp only [AV.tau]
  rcases hf with q | q
  · rw [tk.fix _ _ q.1.1, tk.fix _ _ q.1.2, tk.fixV q.2]; exact e
  · exact gk.mx q e
theorem exec_tau (tk : TauOK t) (gk : TagsOK G t) (hs : HS t h0 h) (sr : SR t s0 s) {op : AOp} {v : AV} (ho : op.opds.all (opdOK s0) = true) (hsafe : opSafe G s0 h0 v op = true) (e : exec op s0 h0 = some (v, h1)) :
    ∃ h2, exec op s h = some (v.tau t, h2) ∧ HS t h1 h2 := by
  cases op <;> simp only [AOp.opds, List.all_cons, List.all_nil, List.all_append, Bool.and_eq_true, Bool.and_true, true_and] at ho <;> simp only [exec] at e ⊢ <;> simp only [opSafe, Bool.false_eq_true, Bool.and_eq_true] at hsafe
  case mov x => cases e; exact ⟨h, by rw [opd_tau tk sr ho], hs⟩
  case pick c a b =>
    rw [opd_tau tk sr ho.1, opd_tau tk sr ho.2.1, opd_tau tk sr ho.2.2]
    refine same_tau hs e fun u eu => ?_
    unfold pickA at eu
    split at eu
    case h_2 => cases eu
    rename_i b hb
    cases eu
    rw [hb]; simp only [AV.tau, pickA]; split <;> rfl
  case alloc z => cases e; exact ⟨_, by rw [hs.newP tk], by have := hs.new tk z; rwa [tk.fixs hsafe] at this⟩
  case box x => cases e; exact ⟨_, by rw [hs.newP tk], by have := hs.new tk (x.ev s0).cells; rwa [← tau_cells, ← opd_tau tk sr ho] at this⟩
  case build z ps =>
    rw [parts_tau tk sr ho]
    obtain ⟨cs, e1, e2⟩ := Option.map_eq_some_iff.1 e
    cases e2
    have := afill_tau (t := t) e1
    rw [tk.fixs hsafe] at this
    exact ⟨h, by rw [this]; simp [AV.tau], hs⟩
  case buildSlice es len z ps =>
    rw [parts_tau tk sr ho]
    obtain ⟨cs, e1, e2⟩ := Option.map_eq_some_iff.1 e
    cases e2
    have := afill_tau (t := t) e1
    rw [zeros_tau tk hsafe] at this
    exact ⟨_, by rw [this, hs.newS]; rfl, hs.new tk cs⟩
  case load agg n x => rw [opd_tau tk sr ho]; exact same_tau hs e fun u eu => loadA_tau tk hs eu
  case store n x v' =>
    rw [opd_tau tk sr ho.1, opd_tau tk sr ho.2]
    obtain ⟨u, e1, e2⟩ := Option.map_eq_some_iff.1 e
    cases e2
    obtain ⟨h2, e3, hs2⟩ := storeA_tau tk hs e1
    exact ⟨h2, by rw [e3, tau_undef]; rfl, hs2⟩
  case nilCheck x =>
    rw [opd_tau tk sr ho]
    refine same_tau hs e fun u eu => ?_
    unfold nilCheckA at eu
    split at eu
    · rename_i hx; cases eu; rw [hx]; simp only [AV.tau, nilCheckA]
    · rename_i hx; cases eu; rw [hx]; simp only [AV.tau, nilCheckA]
    · cases eu
  case bin op x y =>
    rw [opd_tau tk sr ho.1, opd_tau tk sr ho.2]
    exact same_tau hs e fun u eu => by
      rw [eu] at e; cases e
      exact bin_tau tk gk hsafe eu
  case eq k neg x y =>
    rw [opd_tau tk sr ho.1, opd_tau tk sr ho.2]
    obtain ⟨b, e1, e2⟩ := Option.map_eq_some_iff.1 e
    cases e2
    exact ⟨h, by rw [eqA_tau tk hsafe e1]; rfl, hs⟩
  case not x =>
    rw [opd_tau tk sr ho]
    refine same_tau hs e fun u eu => ?_
    unfold notA at eu
    split at eu
    · rename_i b hb; cases eu; rw [hb]; rfl
    · cases eu
  case cvInt k x => rw [opd_tau tk sr ho]; exact same_tau hs e fun u eu => by rw [eu] at e; cases e; exact cv_tau tk gk hsafe eu
  case cvSame x =>
    rw [opd_tau tk sr ho]
    refine same_tau hs e fun u eu => ?_
    unfold cvSameA at eu
    split at eu
    · rename_i b hb; cases eu; rw [hb]; rfl
    · cases eu
  case cvS2B x =>
    rw [opd_tau tk sr ho]
    unfold cvS2BA at e
    split at e
    case h_2 => cases e
    rename_i b hb
    cases e
    rw [hb]
    have hb' : (byteCells b).map (AV.tau t) = byteCells b := by
      unfold byteCells
      rw [List.map_map]
      refine List.map_congr_left fun c _ => ?_
      simp only [Function.comp, AV.tau]
      rw [tk.fix _ _ (fixI_nat (by have := c.toNat_lt; omega))]
    refine ⟨_, by simp only [AV.tau, cvS2BA]; rw [hs.n, (hs.fr _ (Nat.le_refl _)).2], ?_⟩
    have := hs.new tk (byteCells b); rwa [hb'] at this
  case cvB2S x =>
    rw [opd_tau tk sr ho]
    refine same_tau hs e fun u eu => ?_
    unfold cvB2SA at eu
    split at eu
    · rename_i hx; cases eu; rw [hx]; rfl
    · rename_i o i len es hx
      rw [hx] at hsafe ⊢
      split at eu
      case isFalse => cases eu
      rename_i he
      obtain ⟨bs, e1, e2⟩ := Option.map_eq_some_iff.1 eu
      cases e2
      obtain ⟨cs, e3, e4⟩ := Option.bind_eq_some_iff.1 e1
      have hro : rowOK h0 (.slice o i len 1) = true := hsafe.1
      have hcs : cs.all fixV = true := by have := hsafe.2; simp only [e3] at this; exact this
      have := hs.firstCells tk hro e3
      rw [AV.tau] at this
      simp only [AV.tau, cvB2SA]
      rw [if_pos he, this]
      simp only [Option.bind_some, bytesOf_tau tk hcs, e4, Option.map_some]
    · cases eu
  case sliceS es x lo hi =>
    rw [opd_tau tk sr ho.1, fixO_tau tk sr ho.2.1 hsafe.1, fixO_tau tk sr ho.2.2 hsafe.2]
    exact same_tau hs e fun u eu => sliceSA_tau eu
  case slice3 es x lo hi mx =>
    rw [opd_tau tk sr ho.1, fixO_tau tk sr ho.2.2.2 hsafe.1.1, opd_tau tk sr ho.2.1, opd_tau tk sr ho.2.2.1, tk.fixV hsafe.1.2, tk.fixV hsafe.2]
    refine same_tau hs e fun u eu => ?_
    unfold slice3A at eu ⊢
    rw [lenSA_tau]
    split at eu
    · rename_i k a k' b n e1 e2 e3
      split at eu
      case isFalse => cases eu
      rename_i hc
      simp only [e1, e2, e3] at eu ⊢
      rw [if_pos hc]; exact sliceSA_tau eu
    · cases eu
  case sliceT x lo hi =>
    rw [opd_tau tk sr ho.1, fixO_tau tk sr ho.2.1 hsafe.1, fixO_tau tk sr ho.2.2 hsafe.2]
    exact same_tau hs e fun u eu => sliceTA_tau eu
  case sliceA es n x lo hi =>
    rw [opd_tau tk sr ho.1, fixO_tau tk sr ho.2.1 hsafe.1, fixO_tau tk sr ho.2.2 hsafe.2]
    exact same_tau hs e fun u eu => sliceAA_tau hs eu
  case fieldAddr off x =>
    rw [opd_tau tk sr ho]
    refine same_tau hs e fun u eu => ?_
    unfold fieldAddrA at eu
    split at eu
    · rename_i hx; cases eu; rw [hx]; simp only [AV.tau, fieldAddrA, Nat.add_assoc]
    · cases eu
  case field agg off n x =>
    rw [opd_tau tk sr ho]
    refine same_tau hs e fun u eu => ?_
    unfold fieldA at eu
    split at eu
    · rename_i cs hx; rw [hx]; simp only [AV.tau, fieldA, taus_map]; exact partA_tau eu
    · cases eu
  case indexAddr es x i =>
    rw [opd_tau tk sr ho.1, opd_tau tk sr ho.2, tk.fixV hsafe]
    refine same_tau hs e fun u eu => ?_
    unfold indexAddrA at eu
    split at eu
    · rename_i o j len es' k n hx hi
      split at eu
      case isFalse => cases eu
      rename_i hc
      cases eu
      rw [hx, hi]; simp only [AV.tau, indexAddrA]; rw [if_pos hc, Nat.add_assoc]
    · cases eu
  case indexArr es k x i =>
    rw [opd_tau tk sr ho.1, opd_tau tk sr ho.2, tk.fixV hsafe]
    refine same_tau hs e fun u eu => ?_
    unfold indexArrA at eu
    split at eu
    · rename_i hx hi
      split at eu
      case isFalse => cases eu
      rename_i hc
      cases eu
      rw [hx, hi]; simp only [AV.tau, indexArrA]; rw [if_pos hc, Nat.add_assoc]
    · cases eu
  case indexStr x i =>
    rw [opd_tau tk sr ho.1, opd_tau tk sr ho.2, tk.fixV hsafe.1]
    refine same_tau hs e fun u eu => ?_
    have hv := hsafe.2
    rw [eu] at e; cases e
    rw [tk.fixV hv, ← eu]
    unfold indexStrA at eu
    split at eu
    · rename_i hx hi; rw [hx]; rfl
    · cases eu
  case indexAgg agg es k x i =>
    rw [opd_tau tk sr ho.1, opd_tau tk sr ho.2, tk.fixV hsafe]
    refine same_tau hs e fun u eu => ?_
    unfold indexAggA at eu
    split at eu
    · rename_i hx hi
      split at eu
      case isFalse => cases eu
      rename_i hc
      rw [hx, hi]; simp only [AV.tau, indexAggA, taus_map]; rw [if_pos hc]; exact partA_tau eu
    · cases eu
  case extract x i =>
    rw [opd_tau tk sr ho]
    refine same_tau hs e fun u eu => ?_
    unfold extractA at eu
    split at eu
    · rename_i vs hx; rw [hx]; simp only [AV.tau, extractA, taus_map, List.getElem?_map, eu, Option.map_some]
    · cases eu
  case len x =>
    rw [opd_tau tk sr ho, lenSA_tau]
    obtain ⟨u, e1, e2⟩ := Option.map_eq_some_iff.1 e
    cases e2
    exact ⟨h, by rw [e1, tk.fixV hsafe]; rfl, hs⟩
  case lenT x =>
    rw [opd_tau tk sr ho]
    obtain ⟨u, e1, e2⟩ := Option.map_eq_some_iff.1 e
    cases e2
    unfold lenTA at e1
    split at e1
    · rename_i hx; cases e1; exact ⟨h, by rw [hx, tk.fixV hsafe]; rfl, hs⟩
    · cases e1
  case lenC n => cases e; exact ⟨h, by rw [tk.fixV hsafe], hs⟩
  case append es x y => rw [opd_tau tk sr ho.1, opd_tau tk sr ho.2]; exact append_tau tk hs hsafe e
  case copy es x y => rw [opd_tau tk sr ho.1, opd_tau tk sr ho.2, tk.fixV hsafe.2]; exact copy_tau tk hs hsafe.1 hsafe.2 e
  case min x y =>
    rw [opd_tau tk sr ho.1, opd_tau tk sr ho.2]
    exact same_tau hs e fun u eu => by rw [eu] at e; cases e; exact mx_tau tk gk (m := false) hsafe eu
  case max x y =>
    rw [opd_tau tk sr ho.1, opd_tau tk sr ho.2]
    exact same_tau hs e fun u eu => by rw [eu] at e; cases e; exact mx_tau tk gk (m := true) hsafe eu
  case makeFunc f cs =>
    cases e
    exact ⟨h, by rw [AV.tau, taus_map, opds_tau tk sr ho], hs⟩
  case makeSlice es bytes z l c =>
    rw [opd_tau tk sr ho.1, opd_tau tk sr ho.2, tk.fixV hsafe.1.2, tk.fixV hsafe.2]
    unfold makeSliceA at e
    split at e
    case h_2 => cases e
    rename_i k a k' b hl hc
    split at e
    case isFalse => cases e
    rename_i q
    cases e
    rw [hl, hc]
    refine ⟨_, by simp only [makeSliceA]; rw [if_pos q, hs.newS], ?_⟩
    have := hs.new tk (zeros z (b.toNat * es)); rwa [zeros_tau tk hsafe.1.1] at this
  case makeIface ty x => cases e; exact ⟨h, by rw [AV.tau, opd_tau tk sr ho], hs⟩
  case makeMeth f x => cases e; exact ⟨h, by rw [AV.tau, opd_tau tk sr ho], hs⟩
  case makeMap =>
    cases e
    exact ⟨h.push (.mem (MObj.tau t (.map [] 0))), by rw [AV.tau, hs.n]; rfl, hs.push tk ⟨(hs.fr _ (Nat.le_refl _)).2, rfl⟩⟩
  case mapPut kk m k v' =>
    rw [opd_tau tk sr ho.1, opd_tau tk sr ho.2.1, opd_tau tk sr ho.2.2, tk.fixV hsafe.1]
    obtain ⟨u, e1, e2⟩ := Option.map_eq_some_iff.1 e
    cases e2
    obtain ⟨h2, e3, hs2⟩ := mapPut_tau tk hs hsafe.1 hsafe.2 e1
    exact ⟨h2, by rw [e3, tau_undef]; rfl, hs2⟩
  case mapDel kk m k =>
    rw [opd_tau tk sr ho.1, opd_tau tk sr ho.2, tk.fixV hsafe.1]
    obtain ⟨u, e1, e2⟩ := Option.map_eq_some_iff.1 e
    cases e2
    obtain ⟨h2, e3, hs2⟩ := mapDel_tau tk hs hsafe.2 e1
    exact ⟨h2, by rw [e3]; simp [AV.tau], hs2⟩
  case mapGet kk ok z m k =>
    rw [opd_tau tk sr ho.1, opd_tau tk sr ho.2, tk.fixV hsafe.1.2]
    exact same_tau hs e fun u eu => mapGet_tau tk hs hsafe.1.1 hsafe.2 eu
  case rangeM x =>
    rw [opd_tau tk sr ho]
    unfold rangeMA at e
    split at e
    · rename_i hx; cases e; rw [hx]
      exact ⟨h.push (.mem (MObj.tau t (.miter none 0 [] 0))), by rw [hs.newP tk]; simp only [AV.tau, rangeMA]; rfl, hs.push tk ⟨(hs.fr _ (Nat.le_refl _)).2, rfl⟩⟩
    · rename_i o hx
      split at e
      case h_2 => cases e
      rename_i es c hg
      cases e
      obtain ⟨_, hg'⟩ := hs.mem hg
      rw [hx]
      exact ⟨h.push (.mem (MObj.tau t (.miter (some o) c [] c))), by rw [hs.newP tk]; simp only [AV.tau, rangeMA, hg', MObj.tau]; rfl, hs.push tk ⟨(hs.fr _ (Nat.le_refl _)).2, rfl⟩⟩
    · cases e
  case nextM x => cases e
  case assert ty z ok x =>
    rw [opd_tau tk sr ho]
    refine same_tau hs e fun u eu => ?_
    unfold assertA at eu
    split at eu
    · rename_i hx
      split at eu
      · rename_i hok; cases eu; rw [hx]; simp only [AV.tau, assertA, hok, if_true, AV.taus, tk.fixV hsafe]
      · cases eu
    · rename_i hx
      rw [hx]
      split at eu
      · rename_i hu
        cases eu
        simp only [AV.tau, assertA]; rw [if_pos hu]
        congr 1
        split <;> simp [AV.tau]
      · rename_i hu
        split at eu
        · rename_i hok
          cases eu
          simp only [AV.tau, assertA]; rw [if_neg hu, if_pos hok]; simp only [AV.taus, AV.tau, tk.fixV hsafe]
        · cases eu
    · cases eu
  case lenM x =>
    rw [opd_tau tk sr ho]
    obtain ⟨u, e1, e2⟩ := Option.map_eq_some_iff.1 e
    cases e2
    unfold lenMA at e1
    split at e1
    · rename_i hx; cases e1; exact ⟨h, by rw [hx, tk.fixV hsafe]; rfl, hs⟩
    · rename_i hx
      split at e1
      case h_2 => cases e1
      rename_i hg
      cases e1
      obtain ⟨_, hg'⟩ := hs.mem hg
      exact ⟨h, by rw [hx, tk.fixV hsafe]; simp only [AV.tau, lenMA, hg', MObj.tau, List.length_map, Option.map_some], hs⟩
    · cases e1
  case rangeT x =>
    rw [opd_tau tk sr ho]
    unfold rangeTA at e
    split at e
    case h_2 => cases e
    rename_i st hx
    cases e
    rw [hx]
    exact ⟨h.push (.mem (MObj.tau t (.siter st 0))), by rw [hs.newP tk]; simp only [AV.tau, rangeTA]; rfl, hs.push tk ⟨(hs.fr _ (Nat.le_refl _)).2, rfl⟩⟩
  case nextT x =>
    rw [opd_tau tk sr ho, tk.fixV hsafe]
    unfold nextTA at e
    split at e
    case h_2 => cases e
    rename_i o hx
    split at e
    case h_2 => cases e
    rename_i st p hg
    obtain ⟨hd, hg'⟩ := hs.mem hg
    rw [hx]
    simp only [AV.tau, hd, nextTA, hg', MObj.tau, Nat.zero_add]
    split at e
    · rename_i q
      cases e
      rw [if_pos q]
      exact ⟨_, rfl, hs.setMem tk (o := o) (X := .siter st _) hd⟩
    · rename_i q
      cases e
      rw [if_neg q]
      exact ⟨_, rfl, hs⟩
  case clear es z x =>
    rw [opd_tau tk sr ho]
    obtain ⟨u, e1, e2⟩ := Option.map_eq_some_iff.1 e
    cases e2
    unfold clearA at e1
    split at e1
    · rename_i hx; cases e1; exact ⟨h, by rw [hx]; simp [AV.tau, clearA], hs⟩
    · rename_i hx
      split at e1
      case isFalse => cases e1
      rename_i he
      rw [hx]; simp only [AV.tau, clearA]; rw [if_pos he]
      split at e1
      · rename_i hz; cases e1; rw [if_pos hz]; exact ⟨h, by simp, hs⟩
      · rename_i hz
        rw [if_neg hz]
        split at e1
        case isFalse => cases e1
        rename_i hq
        rw [if_pos hq]
        obtain ⟨h2, e3, hs2⟩ := hs.put tk e1
        rw [zeros_tau tk hsafe] at e3
        exact ⟨h2, by rw [e3]; simp, hs2⟩
    · cases e1
  case call f args => cases e
  case panic x => cases e
end
end Go.Proofs.YtlbaphapjclkdaaGreatDoor.Ev

/- Code, run on two memories side by side. -/
namespace Go.Proofs.YtlbaphapjclkdaaGreatDoor.Ev
set_option linter.unusedVariables false
set_option linter.unusedSimpArgs false
def AOut.tau (t : Tau) : AOut → AOut
  | .val v => .val (v.tau t)
  | .panic v => .panic (v.tau t)
def AEx.tau (t : Tau) : AEx → AEx
  | .normal => .normal
  | .ret => .ret
  | .exit id => .exit id
  | .panic v => .panic (v.tau t)
def Fn.tau (t : Tau) : Fn → Fn
  | .fn f => .fn f
  | .yld o => .yld (t.ρ o)
abbrev CallF := Fn → List AV → H → Option (AOut × H)
def guardOK (s : S) : Option (Nat × Bool) → Bool
  | none => true
  | some (j, _) => known (s j)
def execX (G : Tags) (op : AOp) (s : S) (h : H) : Option (AV × H) :=
  match exec op s h with
  | some (v, h') => if opSafe G s h v op = true then some (v, h') else none
  | none => none
def runOpsX (G : Tags) (call : CallF) : List AStep → S → H → Option (AEx × S × H)
  | [], s, h => some (.normal, s, h)
  | st :: r, s, h =>
    if guardOK s st.guard = true then
    if wanted st.guard s = true then
      if st.op.opds.all (opdOK s) = true then
      match st.op with
      | .call f args => match f.ev s with
        | .func f cs => match call (.fn f) (args.map (·.ev s) ++ cs) h with
          | some (.val v, h) => runOpsX G call r (upd s st.dst v) h
          | some (.panic v, h) => some (.panic v, s, h)
          | none => none
        | .yield o => match call (.yld o) (args.map (·.ev s)) h with
          | some (.val v, h) => runOpsX G call r (upd s st.dst v) h
          | some (.panic v, h) => some (.panic v, s, h)
          | none => none
        | .meth g v => match call (.fn g) (v :: args.map (·.ev s)) h with
          | some (.val v, h) => runOpsX G call r (upd s st.dst v) h
          | some (.panic v, h) => some (.panic v, s, h)
          | none => none
        | _ => none
      | .panic x => match x.ev s with | .iface t v => some (.panic (.iface t v), s, h) | _ => none
      | .nextM x => match nextEA h (x.ev s) with
        | some (v, h) => runOpsX G call r (upd s st.dst v) h
        | none => none
      | op => match execX G op s h with
        | some (v, h) => runOpsX G call r (upd s st.dst v) h
        | none => none
      else none
    else runOpsX G call r (upd s st.dst undefA) h
    else none
def recheckX (G : Tags) (h : H) : List Pend → Bool
  | [] => true
  | p :: r => (match execX G p.op p.s h with | some (v, _) => v.beq p.v | none => false) && recheckX G h r
def runEffX (G : Tags) (call : CallF) (op : AOp) (s : S) (h : H) : Option (AV × H) :=
  match op with
  | .call f args => match f.ev s with
    | .func f cs => match call (.fn f) (args.map (·.ev s) ++ cs) h with
      | some (.val v, h) => some (v, h)
      | _ => none
    | .yield o => match call (.yld o) (args.map (·.ev s)) h with
      | some (.val v, h) => some (v, h)
      | _ => none
    | .meth g v => match call (.fn g) (v :: args.map (·.ev s)) h with
      | some (.val v, h) => some (v, h)
      | _ => none
    | _ => none
  | .panic _ => none
  | .nextM x => nextEA h (x.ev s)
  | op => execX G op s h
def runDrawX (G : Tags) (call : CallF) : List DStep → List Pend → S → H → Option (S × H)
  | [], pd, s, h => if recheckX G h pd = true then some (s, h) else none
  | d :: r, pd, s, h =>
    if guardOK s d.st.guard = true then
    if d.st.op.kind = .eff then
      if recheckX G h pd = true then
        if wanted d.st.guard s = true then
          if d.st.op.opds.all (opdOK s) = true then
          match runEffX G call d.st.op s h with
          | some (v, h) => runDrawX G call r (pd.filter fun p => !d.bef.testBit p.i) (upd s d.st.dst v) h
          | none => none
          else none
        else runDrawX G call r (pd.filter fun p => !d.bef.testBit p.i) (upd s d.st.dst undefA) h
      else none
    else if wanted d.st.guard s = true then
      if d.st.op.opds.all (opdOK s) = true then
      match execX G d.st.op s h with
      | some (v, h') => runDrawX G call r (if d.st.op.kind = .read then ⟨d.i, d.st.op, s, v⟩ :: pd else pd) (upd s d.st.dst v) h'
      | none => none
      else none
    else runDrawX G call r pd (upd s d.st.dst undefA) h
    else none
section
variable {t : Tau} {G : Tags} {h0 h h1 : H} {s0 s : S} {c0 c : CallF}
def CallT (t : Tau) (c0 c : CallF) : Prop := ∀ f args h0 h r h1, HS t h0 h → c0 f args h0 = some (r, h1) → ∃ h2, c (f.tau t) (args.map (AV.tau t)) h = some (r.tau t, h2) ∧ HS t h1 h2
theorem SR.upd (sr : SR t s0 s) (d : Option Nat) (v : AV) : SR t (upd s0 d v) (upd s d (v.tau t)) := by
  intro j
  cases d with
  | none => exact sr j
  | some d =>
    simp only [Go.Proofs.YtlbaphapjclkdaaGreatDoor.Ev.upd]
    by_cases q : j = d
    · rw [if_pos q, if_pos q]; exact .inr rfl
    · rw [if_neg q, if_neg q]; exact sr j
theorem SR.updU (sr : SR t s0 s) (d : Option Nat) : SR t (Go.Proofs.YtlbaphapjclkdaaGreatDoor.Ev.upd s0 d undefA) (Go.Proofs.YtlbaphapjclkdaaGreatDoor.Ev.upd s d undefA) := by
  have := sr.upd d undefA; rwa [tau_undef] at this
theorem wanted_tau (sr : SR t s0 s) {g : Option (Nat × Bool)} (hg : guardOK s0 g = true) : wanted g s = wanted g s0 := by
  cases g with
  | none => rfl
  | some p =>
    obtain ⟨j, b⟩ := p
    unfold guardOK at hg
    unfold wanted
    simp only at hg ⊢
    rcases sr j with q | q
    · rw [q] at hg; cases hg
    · rw [q]; cases s0 j <;> simp only [AV.tau]
theorem execX_tau (tk : TauOK t) (gk : TagsOK G t) (hs : HS t h0 h) (sr : SR t s0 s) {op : AOp} {v : AV} (ho : op.opds.all (opdOK s0) = true) (e : execX G op s0 h0 = some (v, h1)) :
    ∃ h2, exec op s h = some (v.tau t, h2) ∧ HS t h1 h2 := by
  unfold execX at e
  split at e
  · rename_i u h2 hx
    split at e
    case isFalse => cases e
    rename_i hsafe
    cases e
    exact exec_tau tk gk hs sr ho hsafe hx
  · cases e
theorem nextEA_tau (tk : TauOK t) (hs : HS t h0 h) {x v : AV} (e : nextEA h0 x = some (v, h1)) : ∃ h2, nextEA h (x.tau t) = some (v.tau t, h2) ∧ HS t h1 h2 := by
  unfold nextEA at e
  split at e
  case h_2 => cases e
  rename_i o
  split at e
  · rename_i hg
    cases e
    obtain ⟨hd, hg'⟩ := hs.mem hg
    exact ⟨h, by simp only [AV.tau, hd, nextEA, hg', MObj.tau, Option.map_none, AV.taus], hs⟩
  · rename_i mo _ _ _ hg
    obtain ⟨hd, hg'⟩ := hs.mem hg
    split at e
    · rename_i hm
      cases e
      obtain ⟨hd2, hm'⟩ := hs.mem hm
      exact ⟨h, by simp only [AV.tau, hd, nextEA, hg', MObj.tau, Option.map_some, hm', List.map_nil, AV.taus], hs⟩
    · cases e
  · cases e
theorem args_tau (tk : TauOK t) (sr : SR t s0 s) {f : AOpd} {args : List AOpd} (ho : (f :: args).all (opdOK s0) = true) : f.ev s = (f.ev s0).tau t ∧ args.map (·.ev s) = (args.map (·.ev s0)).map (AV.tau t) := by
  rw [List.all_cons, Bool.and_eq_true] at ho
  exact ⟨opd_tau tk sr ho.1, opds_tau tk sr ho.2⟩
theorem runOps_plain {st : AStep} {r : List AStep} (hpl : st.op.plain = true) (hw : wanted st.guard s = true) : runOps c (st :: r) s h = match exec st.op s h with | some (v, h) => runOps c r (upd s st.dst v) h | none => none := by
  obtain ⟨d, op, g⟩ := st
  simp only at hpl hw ⊢
  simp only [runOps]
  rw [if_pos hw]
  cases op <;> first | (cases hpl; done) | rfl
theorem runOpsX_plain {st : AStep} {r : List AStep} (hg : guardOK s0 st.guard = true) (hpl : st.op.plain = true) (hw : wanted st.guard s0 = true) (ho : st.op.opds.all (opdOK s0) = true) :
    runOpsX G c0 (st :: r) s0 h0 = match execX G st.op s0 h0 with | some (v, h) => runOpsX G c0 r (upd s0 st.dst v) h | none => none := by
  obtain ⟨d, op, g⟩ := st
  simp only at hpl hw hg ho ⊢
  simp only [runOpsX]
  rw [if_pos hg, if_pos hw, if_pos ho]
  cases op
  case lenC n => simp only
  all_goals first | (cases hpl; done) | rfl
theorem runOps_tau (tk : TauOK t) (gk : TagsOK G t) (hc : CallT t c0 c) : ∀ {l : List AStep} {s0 s : S} {h0 h : H} {ex : AEx} {s1 : S} {h1 : H}, SR t s0 s → HS t h0 h → runOpsX G c0 l s0 h0 = some (ex, s1, h1) →
    ∃ s2 h2, runOps c l s h = some (ex.tau t, s2, h2) ∧ SR t s1 s2 ∧ HS t h1 h2
  | [], s0, s, h0, h, ex, s1, h1, sr, hs, e => by
    simp only [runOpsX, Option.some.injEq, Prod.mk.injEq] at e
    obtain ⟨rfl, rfl, rfl⟩ := e
    exact ⟨s, h, rfl, sr, hs⟩
  | st :: r, s0, s, h0, h, ex, s1, h1, sr, hs, e0 => by
    have e := e0
    simp only [runOpsX] at e
    split at e
    case isFalse => cases e
    rename_i hg
    split at e
    case isFalse =>
      rename_i hw
      simp only [runOps, wanted_tau sr hg]
      rw [if_neg hw]
      exact runOps_tau tk gk hc (sr.updU _) hs e
    rename_i hw
    split at e
    case isFalse => cases e
    rename_i ho
    by_cases hpl : st.op.plain = true
    · have e' : (match execX G st.op s0 h0 with | some (v, h) => runOpsX G c0 r (upd s0 st.dst v) h | none => none) = some (ex, s1, h1) := (runOpsX_plain hg hpl hw ho).symm.trans e0
      split at e'
      case h_2 => cases e'
      rename_i v h3 hx
      obtain ⟨h4, hx', hs'⟩ := execX_tau tk gk hs sr ho hx
      rw [runOps_plain hpl (by rw [wanted_tau sr hg]; exact hw), hx']
      exact runOps_tau tk gk hc (sr.upd st.dst v) hs' e'
    · simp only [runOps, wanted_tau sr hg]
      rw [if_pos hw]
      cases hop : st.op <;> rw [hop] at hpl e ho <;> simp only [AOp.plain, not_true_eq_false] at hpl
      case call f args =>
        simp only at e
        obtain ⟨hf, ha⟩ := args_tau tk sr (f := f) (args := args) ho
        simp only [hf, ha]
        have main : ∀ {fn : Fn} {vs : List AV}, (match c0 fn vs h0 with | some (.val v, h) => runOpsX G c0 r (upd s0 st.dst v) h | some (.panic v, h) => some (.panic v, s0, h) | none => none) = some (ex, s1, h1) →
            ∃ s2 h2, (match c (fn.tau t) (vs.map (AV.tau t)) h with | some (.val v, h) => runOps c r (upd s st.dst v) h | some (.panic v, h) => some (.panic v, s, h) | none => none) = some (ex.tau t, s2, h2) ∧ SR t s1 s2 ∧ HS t h1 h2 := by
          intro fn vs e
          split at e
          · rename_i v h3 hx
            obtain ⟨h4, hx', hs'⟩ := hc _ _ _ _ _ _ hs hx
            rw [hx']; exact runOps_tau tk gk hc (sr.upd st.dst v) hs' e
          · rename_i v h3 hx
            obtain ⟨h4, hx', hs'⟩ := hc _ _ _ _ _ _ hs hx
            rw [hx']; cases e; exact ⟨s, h4, rfl, sr, hs'⟩
          · cases e
        generalize f.ev s0 = fv at e
        cases fv <;> simp only at e <;> (try (cases e; done))
        case func g cs =>
          have := main (fn := .fn g) (vs := args.map (·.ev s0) ++ cs) e
          simp only [AV.tau, taus_map]
          rw [List.map_append] at this
          exact this
        case yield o =>
          have := main (fn := .yld o) e
          simp only [AV.tau]
          exact this
        case meth g v =>
          have := main (fn := .fn g) (vs := v :: args.map (·.ev s0)) e
          simp only [AV.tau]
          exact this
      case panic x =>
        simp only [AOp.opds, List.all_cons, List.all_nil, Bool.and_true] at ho
        simp only at e
        simp only [opd_tau tk sr ho]
        split at e
        · rename_i ty v hx
          cases e
          rw [hx]; exact ⟨s, h, by simp only [AV.tau, AEx.tau], sr, hs⟩
        · cases e
      case nextM x =>
        simp only [AOp.opds, List.all_cons, List.all_nil, Bool.and_true] at ho
        simp only at e
        simp only [opd_tau tk sr ho]
        split at e
        · rename_i v h3 hx
          obtain ⟨h4, hx', hs'⟩ := nextEA_tau tk hs hx
          rw [hx']; exact runOps_tau tk gk hc (sr.upd st.dst v) hs' e
        · cases e
/-- reads that wait, side by side -/
inductive PR (t : Tau) : List Pend → List Pend → Prop
  | nil : PR t [] []
  | cons {p0 p : Pend} {l0 l : List Pend} : p.i = p0.i → p.op = p0.op → SR t p0.s p.s → p.v = p0.v.tau t → p0.op.opds.all (opdOK p0.s) = true → PR t l0 l → PR t (p0 :: l0) (p :: l)
theorem PR.filter (f : Nat → Bool) : ∀ {l0 l : List Pend}, PR t l0 l → PR t (l0.filter fun p => f p.i) (l.filter fun p => f p.i)
  | _, _, .nil => .nil
  | _, _, .cons (p0 := p0) (p := p) h1 h2 h3 h4 h5 r => by
    rw [List.filter_cons, List.filter_cons, h1]
    split
    · exact .cons h1 h2 h3 h4 h5 (r.filter f)
    · exact r.filter f
theorem recheck_tau (tk : TauOK t) (gk : TagsOK G t) (hs : HS t h0 h) : ∀ {l0 l : List Pend}, PR t l0 l → recheckX G h0 l0 = true → recheck h l = true
  | _, _, .nil, _ => rfl
  | _, _, .cons (p0 := p0) (p := p) h1 h2 h3 h4 h5 r, e => by
    simp only [recheckX, Bool.and_eq_true] at e
    simp only [recheck, Bool.and_eq_true]
    refine ⟨?_, recheck_tau tk gk hs r e.2⟩
    have e1 := e.1
    split at e1
    · rename_i v h3' hx
      obtain ⟨h4', hx', _⟩ := execX_tau tk gk hs h3 h5 hx
      rw [h2, hx', h4, AV.beq_eq e1]
      exact AV.beq_refl _
    · cases e1
theorem runEff_tau (tk : TauOK t) (gk : TagsOK G t) (hc : CallT t c0 c) (sr : SR t s0 s) (hs : HS t h0 h) {op : AOp} (ho : op.opds.all (opdOK s0) = true) {v : AV} (e : runEffX G c0 op s0 h0 = some (v, h1)) : ∃ h2, runEff c op s h = some (v.tau t, h2) ∧ HS t h1 h2 := by
  by_cases hpl : op.plain = true
  · have e' : execX G op s0 h0 = some (v, h1) := by
      revert e hpl
      cases op <;> intro e hpl <;> first | exact e | cases hpl
    obtain ⟨h4, hx', hs'⟩ := execX_tau tk gk hs sr ho e'
    refine ⟨h4, ?_, hs'⟩
    revert hx' hpl
    cases op <;> intro hpl hx' <;> first | exact hx' | cases hpl
  · cases op <;> simp only [AOp.plain, not_true_eq_false] at hpl
    case call f args =>
      simp only [runEffX] at e
      obtain ⟨hf, ha⟩ := args_tau tk sr (f := f) (args := args) ho
      simp only [runEff, hf, ha]
      have main : ∀ {fn : Fn} {vs : List AV}, (match c0 fn vs h0 with | some (.val v, h) => some (v, h) | _ => none) = some (v, h1) →
          ∃ h2, (match c (fn.tau t) (vs.map (AV.tau t)) h with | some (.val v, h) => some (v, h) | _ => none) = some (v.tau t, h2) ∧ HS t h1 h2 := by
        intro fn vs e
        split at e
        · rename_i v h3 hx
          cases e
          obtain ⟨h4, hx', hs'⟩ := hc _ _ _ _ _ _ hs hx
          exact ⟨h4, by rw [hx']; rfl, hs'⟩
        · cases e
      generalize f.ev s0 = fv at e
      cases fv <;> simp only at e <;> (try (cases e; done))
      case func g cs =>
        have := main (fn := .fn g) (vs := args.map (·.ev s0) ++ cs) e
        simp only [AV.tau, taus_map]
        rw [List.map_append] at this
        exact this
      case yield o =>
        have := main (fn := .yld o) e
        simp only [AV.tau]
        exact this
      case meth g v =>
        have := main (fn := .fn g) (vs := v :: args.map (·.ev s0)) e
        simp only [AV.tau]
        exact this
    case panic x => simp only [runEffX] at e; cases e
    case nextM x =>
      simp only [AOp.opds, List.all_cons, List.all_nil, Bool.and_true] at ho
      simp only [runEffX] at e
      simp only [runEff, opd_tau tk sr ho]
      exact nextEA_tau tk hs e
theorem runDraw_tau (tk : TauOK t) (gk : TagsOK G t) (hc : CallT t c0 c) : ∀ {l : List DStep} {pd0 pd : List Pend} {s0 s : S} {h0 h : H} {s1 : S} {h1 : H}, PR t pd0 pd → SR t s0 s → HS t h0 h → runDrawX G c0 l pd0 s0 h0 = some (s1, h1) →
    ∃ s2 h2, runDraw c l pd s h = some (s2, h2) ∧ SR t s1 s2 ∧ HS t h1 h2
  | [], pd0, pd, s0, s, h0, h, s1, h1, pr, sr, hs, e => by
    simp only [runDrawX] at e
    split at e
    case isFalse => cases e
    rename_i hr
    cases e
    exact ⟨s, h, by simp only [runDraw]; rw [if_pos (recheck_tau tk gk hs pr hr)], sr, hs⟩
  | d :: r, pd0, pd, s0, s, h0, h, s1, h1, pr, sr, hs, e => by
    simp only [runDrawX] at e
    split at e
    case isFalse => cases e
    rename_i hg
    simp only [runDraw, wanted_tau sr hg]
    split at e
    · rename_i hk
      rw [if_pos hk]
      split at e
      case isFalse => cases e
      rename_i hr
      rw [if_pos (recheck_tau tk gk hs pr hr)]
      split at e
      · rename_i hw
        rw [if_pos hw]
        split at e
        case isFalse => cases e
        rename_i ho
        split at e
        case h_2 => cases e
        rename_i v h3 hx
        obtain ⟨h4, hx', hs'⟩ := runEff_tau tk gk hc sr hs ho hx
        rw [hx']
        exact runDraw_tau tk gk hc (pr.filter (fun i => !d.bef.testBit i)) (sr.upd d.st.dst v) hs' e
      · rename_i hw
        rw [if_neg hw]
        exact runDraw_tau tk gk hc (pr.filter (fun i => !d.bef.testBit i)) (sr.updU _) hs e
    · rename_i hk
      rw [if_neg hk]
      split at e
      · rename_i hw
        rw [if_pos hw]
        split at e
        case isFalse => cases e
        rename_i ho
        split at e
        case h_2 => cases e
        rename_i v h3 hx
        obtain ⟨h4, hx', hs'⟩ := execX_tau tk gk hs sr ho hx
        rw [hx']
        refine runDraw_tau tk gk hc ?_ (sr.upd d.st.dst v) hs' e
        by_cases q : d.st.op.kind = .read
        · rw [if_pos q, if_pos q]; exact .cons rfl rfl sr rfl ho pr
        · rw [if_neg q, if_neg q]; exact pr
      · rename_i hw
        rw [if_neg hw]
        exact runDraw_tau tk gk hc pr (sr.updU _) hs e
end
end Go.Proofs.YtlbaphapjclkdaaGreatDoor.Ev

/- A memory that is held against another one, object by object. -/
import Derived.Test.YtlbaphapjclkdaaGreatDoorEvT5
namespace Go.Proofs.YtlbaphapjclkdaaGreatDoor.Ev
set_option linter.unusedVariables false
set_option linter.unusedSimpArgs false
/-- numbers out of a list, and behind it -/
def rhoL (R : List Nat) (N : Nat) (o : Nat) : Nat := match R[o]? with | some x => x | none => N + (o - R.length)
def delL (D : List Nat) (o : Nat) : Nat := D.getD o 0
theorem rhoL_mono {R : List Nat} {N : Nat} (hr : rises R = true) (hN : ∀ x ∈ R, x < N) : ∀ a b, a < b → rhoL R N a < rhoL R N b := by
  intro a b hab
  unfold rhoL
  cases ha : R[a]? with
  | none =>
    have h1 := List.getElem?_eq_none_iff.1 ha
    rw [List.getElem?_eq_none (by omega)]; simp only; omega
  | some x =>
    cases hb : R[b]? with
    | none => have := hN x (List.mem_of_getElem? ha); simp only; omega
    | some y => exact rises_get hr ha hb hab
def eqEs (t : Tau) : List (AV × AV × Nat) → List (AV × AV × Nat) → Bool
  | [], [] => true
  | a :: l, b :: k => AV.beq b.1 (a.1.tau t) && (AV.beq b.2.1 (a.2.1.tau t) && (a.2.2 == b.2.2 && eqEs t l k))
  | _, _ => false
theorem eqEs_eq {t : Tau} : ∀ {l k : List (AV × AV × Nat)}, eqEs t l k = true → k = l.map fun e => (e.1.tau t, e.2.1.tau t, e.2.2)
  | [], [], _ => rfl
  | [], b :: k, h => by simp [eqEs] at h
  | a :: l, [], h => by simp [eqEs] at h
  | a :: l, b :: k, h => by
    simp only [eqEs, Bool.and_eq_true, beq_iff_eq] at h
    obtain ⟨h1, h2, h3, h4⟩ := h
    rw [List.map_cons, ← eqEs_eq h4, ← AV.beq_eq h1, ← AV.beq_eq h2, h3]
def objB (t : Tau) (o : Nat) : Option AObj → Option AObj → Bool
  | some (.cells cs (some g)), some (.cells cs' (some g')) => g' == t.ρ g && (cs'.length == t.δ o + cs.length && AV.beqs (cs'.drop (t.δ o)) (AV.taus t cs))
  | some (.cells cs none), some (.cells cs' none) => cs'.length == t.δ o + cs.length && AV.beqs (cs'.drop (t.δ o)) (AV.taus t cs)
  | some (.mem (.map es c)), some (.mem (.map es' c')) => t.δ o == 0 && (c == c' && eqEs t es es')
  | some (.glob g v), some (.glob g' v') => g == g' && AV.beq v' (v.tau t)
  | some .other, _ => true
  | none, _ => true
  | _, _ => false
theorem objB_ok {t : Tau} {o : Nat} {x y : Option AObj} (h : objB t o x y = true) : ObjR t o x y := by
  unfold objB at h
  split at h
  · rename_i cs g cs' g'
    simp only [Bool.and_eq_true, beq_iff_eq] at h
    obtain ⟨rfl, h2, h3⟩ := h
    refine ⟨cs'.take (t.δ o), by rw [List.length_take]; omega, ?_⟩
    rw [← taus_map, ← AV.beqs_eq h3, List.take_append_drop]; rfl
  · rename_i cs cs'
    simp only [Bool.and_eq_true, beq_iff_eq] at h
    obtain ⟨h2, h3⟩ := h
    refine ⟨cs'.take (t.δ o), by rw [List.length_take]; omega, ?_⟩
    rw [← taus_map, ← AV.beqs_eq h3, List.take_append_drop]; rfl
  · simp only [Bool.and_eq_true, beq_iff_eq] at h
    obtain ⟨h1, rfl, h3⟩ := h
    exact ⟨h1, by rw [eqEs_eq h3]; rfl⟩
  · simp only [Bool.and_eq_true, beq_iff_eq] at h
    obtain ⟨rfl, h3⟩ := h
    show some _ = some _
    rw [AV.beq_eq h3]
  · trivial
  · trivial
  · cases h
/-- of all keys of a table something is so -/
def Tr.allK {α : Type} : Tr α → (Nat → Bool) → Bool
  | .nil, _ => true
  | .node v l r, p => (v.isNone || p 0) && (l.allK (fun j => p (2 * j + 1)) && r.allK (fun j => p (2 * j + 2)))
theorem Tr.allK_get {α : Type} : ∀ {t : Tr α} {p : Nat → Bool}, t.allK p = true → ∀ {i : Nat} {x : α}, t.get i = some x → p i = true
  | .nil, p, _, i, x, e => by simp [Tr.get] at e
  | .node v l r, p, h, i, x, e => by
    simp only [Tr.allK, Bool.and_eq_true, Bool.or_eq_true] at h
    simp only [Tr.get] at e
    split at e
    · rename_i q; subst q
      rcases h.1 with h1 | h1
      · rw [e] at h1; cases h1
      · exact h1
    · split at e
      · have := Tr.allK_get h.2.1 e
        rwa [show 2 * (i / 2) + 1 = i by omega] at this
      · have := Tr.allK_get h.2.2 e
        rwa [show 2 * (i / 2 - 1) + 2 = i by omega] at this
/-- what stands for κ and what is added, alone -/
def sigK (κ n : Int) : Int := if n < 1099511627776 then n else if n < 1099512676352 then n - 1099511627776 + κ else n
def tauK (ρ δ : Nat → Nat) (κ : Int) : Tau := ⟨ρ, δ, fun _ n => sigK κ n⟩
/-- a memory held against another one -/
def hsB (R D : List Nat) (κ : Int) (T B : H) : Bool :=
  rises R && (R.all fun x => Nat.blt x B.n) && (R.length == T.n && Nat.ble D.length R.length)
  && ((List.range T.n).all fun o => objB (tauK (rhoL R B.n) (delL D) κ) o (T.get o) (B.get (rhoL R B.n o)))
  && ((List.range T.n).all fun g => B.tip (rhoL R B.n g) == rhoL R B.n (T.tip g) && B.kill (rhoL R B.n g) == 0)
  && (B.gr.allK fun g => Nat.blt g B.n)
def idT (u : Int) : Tau := tauR (fun o => o) (fun _ => 0) 0 u
theorem idT_ok (u : Int) : TauOK (idT u) := ⟨fun _ _ h => sig_fix h, fun _ _ h => h, rfl⟩
theorem sig_sig {κ u n : Int} (h1 : 0 ≤ κ) (h2 : κ < 1000000) : sigB 0 u (sigK κ n) = sigB κ u n := by
  unfold sigB sigK
  split
  · rfl
  · split
    · rw [if_pos (by omega)]
    · rfl
section
variable {R D : List Nat} {N : Nat} {κ u : Int}
mutual
theorem tau_tau (h1 : 0 ≤ κ) (h2 : κ < 1000000) : ∀ v : AV, (v.tau (tauK (rhoL R N) (delL D) κ)).tau (idT u) = v.tau (tauR (rhoL R N) (delL D) κ u)
  | .int k n => by simp only [AV.tau, tauK, tauR, idT, sig_sig h1 h2]
  | .ptr o i => by simp only [AV.tau, tauK, tauR, idT, Nat.zero_add]
  | .slice o i len es => by simp only [AV.tau, tauK, tauR, idT, Nat.zero_add]
  | .map o => by simp only [AV.tau, tauK, tauR, idT]
  | .yield o => by simp only [AV.tau, tauK, tauR, idT]
  | .func f cs => by simp only [AV.tau]; rw [taus_taus h1 h2 cs]
  | .meth f v => by simp only [AV.tau]; rw [tau_tau h1 h2 v]
  | .iface f v => by simp only [AV.tau]; rw [tau_tau h1 h2 v]
  | .agg cs => by simp only [AV.tau]; rw [taus_taus h1 h2 cs]
  | .tup cs => by simp only [AV.tau]; rw [taus_taus h1 h2 cs]
  | .bool _ | .str _ | .nilp | .nils | .nilm | .nilf | .gptr _ | .nili => by simp only [AV.tau]
theorem taus_taus (h1 : 0 ≤ κ) (h2 : κ < 1000000) : ∀ l : List AV, AV.taus (idT u) (AV.taus (tauK (rhoL R N) (delL D) κ) l) = AV.taus (tauR (rhoL R N) (delL D) κ u) l
  | [] => by simp only [AV.taus]
  | v :: l => by simp only [AV.taus]; rw [tau_tau h1 h2 v, taus_taus h1 h2 l]
end
theorem maps_maps (h1 : 0 ≤ κ) (h2 : κ < 1000000) (l : List AV) : (l.map (AV.tau (tauK (rhoL R N) (delL D) κ))).map (AV.tau (idT u)) = l.map (AV.tau (tauR (rhoL R N) (delL D) κ u)) := by
  rw [← taus_map, ← taus_map, ← taus_map, taus_taus h1 h2]
theorem HS.of_check {T B h : H} (hb : hsB R D κ T B = true) (hs : HS (idT u) B h) (h1 : 0 ≤ κ) (h2 : κ < 1000000) (hgr : ∀ g, T.n ≤ g → T.gr.get g = none) (hT : ∀ o, T.n ≤ o → T.get o = none) (noloop : ∀ o L, T.get o ≠ some (.loop L)) :
    HS (tauR (rhoL R h.n) (delL D) κ u) T h ∧ rises R = true ∧ (∀ x ∈ R, x < h.n) ∧ R.length = T.n := by
  unfold hsB at hb
  simp only [Bool.and_eq_true, beq_iff_eq, List.all_eq_true, List.mem_range, Nat.blt_eq] at hb
  obtain ⟨⟨⟨⟨⟨b1, b2⟩, b3, b3'⟩, b4⟩, b5⟩, b6⟩ := hb
  have b3' : D.length ≤ R.length := by simpa using b3'
  have hn : h.n = B.n := hs.n
  have hlt : ∀ o, T.n ≤ o → rhoL R B.n o = B.n + (o - T.n) := by
    intro o ho
    unfold rhoL
    rw [List.getElem?_eq_none (by omega)]
    simp only [b3]
  have tipB : ∀ g, B.n ≤ g → B.tip g = g ∧ B.kill g = 0 := by
    intro g hg
    unfold H.tip H.kill
    cases e : B.gr.get g with
    | none => exact ⟨rfl, rfl⟩
    | some p => have := Tr.allK_get b6 e; rw [Nat.blt_eq] at this; omega
  have tipT : ∀ g, T.n ≤ g → T.tip g = g := by
    intro g hg
    unfold H.tip
    rw [hgr g hg]
  rw [hn]
  refine ⟨⟨?_, ?_, ?_, ?_, ?_⟩, b1, b2, b3⟩
  · show h.n = rhoL R B.n T.n
    rw [hlt _ (Nat.le_refl _), hn]; omega
  · intro o ho
    refine ⟨?_, ?_⟩
    · show rhoL R B.n (o + 1) = rhoL R B.n o + 1
      rw [hlt _ ho, hlt _ (by omega)]; omega
    · show delL D o = 0
      unfold delL; rw [List.getD_eq_getElem?_getD, List.getElem?_eq_none (by omega)]; rfl
  · intro o
    show ObjR _ o (T.get o) (h.get (rhoL R B.n o))
    by_cases ho : o < T.n
    · have c := objB_ok (b4 o ho)
      have g := hs.get (rhoL R B.n o)
      show ObjR _ o (T.get o) (h.get (rhoL R B.n o))
      cases hX : T.get o with
      | none => trivial
      | some X =>
        rw [hX] at c
        cases X with
        | other => trivial
        | loop L => exact absurd hX (noloop o L)
        | cells cs g' =>
          obtain ⟨P, hP, e⟩ := c
          simp only [tauK] at e
          rw [e] at g
          obtain ⟨P2, hP2, e2⟩ := g
          have hP2' : P2 = [] := List.eq_nil_of_length_eq_zero hP2
          subst hP2'
          refine ⟨P.map (AV.tau (idT u)), by rw [List.length_map]; exact hP, ?_⟩
          have : (idT u).ρ (rhoL R B.n o) = rhoL R B.n o := rfl
          rw [this] at e2
          rw [e2, List.nil_append, List.map_append]
          have e3 := maps_maps (R := R) (D := D) (N := B.n) (u := u) h1 h2 cs
          unfold tauR tauK at e3
          unfold tauR
          rw [e3]
          cases g' <;> rfl
        | mem Y =>
          obtain ⟨hd, e⟩ := c
          simp only [tauK] at e
          rw [e] at g
          obtain ⟨_, e2⟩ := g
          refine ⟨hd, ?_⟩
          have : (idT u).ρ (rhoL R B.n o) = rhoL R B.n o := rfl
          rw [this] at e2
          rw [e2]
          cases Y with
          | siter s p => rfl
          | miter a b c d => cases a <;> rfl
          | map es c =>
            simp only [MObj.tau, List.map_map]
            congr 3
            refine List.map_congr_left fun e _ => ?_
            simp only [Function.comp]
            have q1 := tau_tau (R := R) (D := D) (N := B.n) (u := u) h1 h2 e.1
            have q2 := tau_tau (R := R) (D := D) (N := B.n) (u := u) h1 h2 e.2.1
            unfold tauR tauK at q1 q2
            unfold tauR
            rw [q1, q2]
        | glob g' v =>
          have e : B.get (rhoL R B.n o) = _ := c
          simp only [tauK] at e
          rw [e] at g
          have e2 : h.get ((idT u).ρ (rhoL R B.n o)) = _ := g
          have : (idT u).ρ (rhoL R B.n o) = rhoL R B.n o := rfl
          rw [this] at e2
          show h.get (rhoL R B.n o) = _
          rw [e2]
          have q1 := tau_tau (R := R) (D := D) (N := B.n) (u := u) h1 h2 v
          unfold tauR tauK at q1
          unfold tauR
          rw [q1]
    · rw [hT o (by omega)]; trivial
  · intro g
    show h.tip (rhoL R B.n g) = rhoL R B.n (T.tip g)
    have e1 : h.tip (rhoL R B.n g) = B.tip (rhoL R B.n g) := hs.tip (rhoL R B.n g)
    rw [e1]
    by_cases hg : g < T.n
    · exact (b5 g hg).1
    · rw [tipT g (by omega)]; exact (tipB _ (by rw [hlt _ (by omega)]; omega)).1
  · intro g o hk
    show h.kill (rhoL R B.n g) ≤ rhoL R B.n o
    have e0 : B.kill (rhoL R B.n g) = 0 := by
      by_cases hg : g < T.n
      · exact (b5 g hg).2
      · exact (tipB _ (by rw [hlt _ (by omega)]; omega)).2
    have := hs.kill (rhoL R B.n g) 0 (by rw [e0]; exact Nat.le_refl _)
    have this : h.kill (rhoL R B.n g) ≤ 0 := this
    omega
end
end Go.Proofs.YtlbaphapjclkdaaGreatDoor.Ev

/- A closed call whose result is known, object by object: its result laid behind, side by side. -/
namespace Go.Proofs.YtlbaphapjclkdaaGreatDoor.Ev
set_option linter.unusedVariables false
set_option linter.unusedSimpArgs false
/-- numbers of its own, from 2 on, behind the n there are -/
def shf (n x : Nat) : Nat := if x < 2 then x else x - 2 + n
def shiftO (f : Nat → Nat) : AObj → AObj
  | .cells cs (some g) => .cells (shVs f cs) (some (f g))
  | .mem (.map es c) => .mem (.map (shE f es) c)
  | _ => .other
def eqEe : List (AV × AV × Nat) → List (AV × AV × Nat) → Bool
  | [], [] => true
  | a :: l, b :: k => AV.beq a.1 b.1 && (AV.beq a.2.1 b.2.1 && (a.2.2 == b.2.2 && eqEe l k))
  | _, _ => false
def eqObj : AObj → AObj → Bool
  | .cells cs (some g), .cells cs' (some g') => g == g' && AV.beqs cs cs'
  | .mem (.map es c), .mem (.map es' c') => c == c' && eqEe es es'
  | _, _ => false
def eqObjs : List AObj → List AObj → Bool
  | [], [] => true
  | a :: l, b :: k => eqObj a b && eqObjs l k
  | _, _ => false
theorem eqEe_eq : ∀ {l k : List (AV × AV × Nat)}, eqEe l k = true → l = k
  | [], [], _ => rfl
  | [], b :: k, h => by simp [eqEe] at h
  | a :: l, [], h => by simp [eqEe] at h
  | (a1, a2, a3) :: l, (b1, b2, b3) :: k, h => by
    simp only [eqEe, Bool.and_eq_true, beq_iff_eq] at h
    obtain ⟨h1, h2, h3, h4⟩ := h
    rw [eqEe_eq h4, AV.beq_eq h1, AV.beq_eq h2, h3]
theorem eqObj_eq {a b : AObj} (h : eqObj a b = true) : a = b := by
  unfold eqObj at h
  split at h
  · simp only [Bool.and_eq_true, beq_iff_eq] at h
    rw [h.1, AV.beqs_eq h.2]
  · simp only [Bool.and_eq_true, beq_iff_eq] at h
    rw [h.1, eqEe_eq h.2]
  · cases h
theorem eqObjs_eq : ∀ {l k : List AObj}, eqObjs l k = true → l = k
  | [], [], _ => rfl
  | [], b :: k, h => by simp [eqObjs] at h
  | a :: l, [], h => by simp [eqObjs] at h
  | a :: l, b :: k, h => by
    simp only [eqObjs, Bool.and_eq_true] at h
    rw [eqObj_eq h.1, eqObjs_eq h.2]
mutual
theorem shV_shV (f g : Nat → Nat) : ∀ v : AV, shV f (shV g v) = shV (fun o => f (g o)) v
  | .ptr o i | .slice o i _ _ | .map o | .yield o => by simp only [shV]
  | .func _ cs => by simp only [shV]; rw [shVs_shVs f g cs]
  | .meth _ v => by simp only [shV]; rw [shV_shV f g v]
  | .iface _ v => by simp only [shV]; rw [shV_shV f g v]
  | .agg cs => by simp only [shV]; rw [shVs_shVs f g cs]
  | .tup cs => by simp only [shV]; rw [shVs_shVs f g cs]
  | .bool _ | .int _ _ | .str _ | .nilp | .nils | .nilm | .nilf | .gptr _ | .nili => by simp only [shV]
theorem shVs_shVs (f g : Nat → Nat) : ∀ l : List AV, shVs f (shVs g l) = shVs (fun o => f (g o)) l
  | [] => by simp only [shVs]
  | v :: l => by simp only [shVs]; rw [shV_shV f g v, shVs_shVs f g l]
end
theorem shE_shE (f g : Nat → Nat) : ∀ l : List (AV × AV × Nat), shE f (shE g l) = shE (fun o => f (g o)) l
  | [] => rfl
  | e :: l => by simp only [shE]; rw [shV_shV, shV_shV, shE_shE f g l]
theorem shiftO_shObj (f g : Nat → Nat) (H1 : H) (o : Nat) : shiftO f (shObj g H1 o) = shObj (fun o => f (g o)) H1 o := by
  unfold shObj
  split
  · simp only [shiftO, shVs_shVs]
  · simp only [shiftO, shE_shE]
  · rfl
theorem shf_rnO (n : Nat) (L : List Nat) : (fun o => shf n (rnO 2 L o)) = rnO n L := by
  funext o
  unfold shf rnO
  by_cases h : o < 2
  · rw [if_pos h, if_pos h, if_pos h]
  · rw [if_neg h, if_neg h, if_neg (by omega)]; omega
/-- what stands for a closed call: its result, and what it made, laid behind -/
def layG (g len : Nat) (cs : List AV) (a : List AV) (v : AV) (lits : List AObj) : List AV → H → Option (AOut × H) := fun args h =>
  if (AV.beqs args a && startB g len cs h) = true then some (.val (shV (shf h.n) v), h.pushes (lits.map (shiftO (shf h.n)))) else none
/-- is a run's result just this one? -/
def layB (L : List Nat) (v : AV) (lits : List AObj) (x : Option (AOut × H)) : Bool := match x with
  | some (.val v1, H1) => okH H1 L && (okV (inL L) v1 && (AV.beq (shV (rnO 2 L) v1) v && eqObjs (L.map (shObj (rnO 2 L) H1)) lits))
  | _ => false
section
variable {P : Program} {B0 : Nat}
theorem layG_ok {E : Env} (hm : P.follows .mixedOrders = true) (hT : TableOK P E) (hO : ∀ B, B ≠ 0 → OvOK P B E.ov) (hB : B0 ≠ 0) (hplain : ∀ g fn, E.R g = some fn → fn.ops.all (fun st => st.op.plain) = true) {k f : Nat} {a : List AV} {v : AV} {g len : Nat} {cs : List AV} {L : List Nat} {lits : List AObj} (ha : a.all flat = true)
    (hlen : 0 < len) (hcs : cs.all flat = true) (hc : layB L v lits ((ev E k).call (.fn f) a (HG g len cs)) = true) {args : List AV} {h h' : H} {r : AOut} (hg : layG g len cs a v lits args h = some (r, h')) : FnOK P B0 f args h (fun r1 h1 => r1 = r ∧ h1 = h') := by
  unfold layG at hg
  split at hg
  case isFalse => cases hg
  rename_i hq
  rw [Bool.and_eq_true] at hq
  cases hg
  rw [AV.beqs_eq hq.1]
  unfold layB at hc
  split at hc
  case h_2 => cases hc
  rename_i v1 H1 he
  simp only [Bool.and_eq_true] at hc
  obtain ⟨c1, c2, c3, c4⟩ := hc
  have := lay_ok hm hT hO hB hplain ha hlen hcs he c1 c2 (startB_ok hq.2)
  have e1 : shV (shf h.n) v = shV (rnO h.n L) v1 := by rw [← AV.beq_eq c3, shV_shV, shf_rnO]
  have e2 : h.pushes (lits.map (shiftO (shf h.n))) = h.lay H1 L := by
    unfold H.lay
    rw [← eqObjs_eq c4, List.map_map]
    congr 1
    refine List.map_congr_left fun o _ => ?_
    simp only [Function.comp]
    rw [shiftO_shObj, shf_rnO]
  rw [e1, e2]
  exact this
end
mutual
/-- a value of objects of its own alone, without tags -/
def litV : AV → Bool
  | .int _ n => fixI n
  | .ptr o _ => Nat.ble 2 o
  | .slice o _ _ _ => Nat.ble 2 o
  | .map o => Nat.ble 2 o
  | .func _ cs => litVs cs
  | .yield _ => false
  | .meth _ v => litV v
  | .iface _ v => litV v
  | .agg cs => litVs cs
  | .tup vs => litVs vs
  | .bool _ | .str _ | .nilp | .nils | .nilm | .nilf | .gptr _ | .nili => true
def litVs : List AV → Bool
  | [] => true
  | v :: l => litV v && litVs l
end
def litE : List (AV × AV × Nat) → Bool
  | [] => true
  | e :: l => litV e.1 && (litV e.2.1 && litE l)
def litO : AObj → Bool
  | .cells cs (some g) => Nat.ble 2 g && litVs cs
  | .mem (.map es _) => litE es
  | _ => false
section
variable {t : Tau} {h0 h h1 : H}
theorem HS.rho (hs : HS t h0 h) : ∀ j, t.ρ (h0.n + j) = h.n + j ∧ t.δ (h0.n + j) = 0
  | 0 => ⟨hs.n.symm, (hs.fr _ (Nat.le_refl _)).2⟩
  | j + 1 => by
    have a := hs.rho j
    have b := hs.fr (h0.n + j) (by omega)
    have c := hs.fr (h0.n + (j + 1)) (by omega)
    exact ⟨by rw [show h0.n + (j + 1) = h0.n + j + 1 by omega, b.1, a.1]; omega, c.2⟩
theorem HS.shf (hs : HS t h0 h) {x : Nat} (hx : 2 ≤ x) : t.ρ (shf h0.n x) = Go.Proofs.YtlbaphapjclkdaaGreatDoor.Ev.shf h.n x ∧ t.δ (Go.Proofs.YtlbaphapjclkdaaGreatDoor.Ev.shf h0.n x) = 0 := by
  unfold Go.Proofs.YtlbaphapjclkdaaGreatDoor.Ev.shf
  rw [if_neg (by omega), if_neg (by omega)]
  have := hs.rho (x - 2)
  rw [show x - 2 + h0.n = h0.n + (x - 2) by omega, show x - 2 + h.n = h.n + (x - 2) by omega]; exact this
mutual
theorem HS.litV (tk : TauOK t) (hs : HS t h0 h) : ∀ {v : AV}, litV v = true → (shV (Go.Proofs.YtlbaphapjclkdaaGreatDoor.Ev.shf h0.n) v).tau t = shV (Go.Proofs.YtlbaphapjclkdaaGreatDoor.Ev.shf h.n) v
  | .int k n, hv => by rw [Go.Proofs.YtlbaphapjclkdaaGreatDoor.Ev.litV] at hv; simp only [shV, AV.tau, tk.fix _ _ hv]
  | .ptr o i, hv => by
    rw [Go.Proofs.YtlbaphapjclkdaaGreatDoor.Ev.litV, Nat.ble_eq] at hv
    simp only [shV, AV.tau, (hs.shf hv).1, (hs.shf hv).2, Nat.zero_add]
  | .slice o i len es, hv => by
    rw [Go.Proofs.YtlbaphapjclkdaaGreatDoor.Ev.litV, Nat.ble_eq] at hv
    simp only [shV, AV.tau, (hs.shf hv).1, (hs.shf hv).2, Nat.zero_add]
  | .map o, hv => by
    rw [Go.Proofs.YtlbaphapjclkdaaGreatDoor.Ev.litV, Nat.ble_eq] at hv
    simp only [shV, AV.tau, (hs.shf hv).1]
  | .yield _, hv => by rw [Go.Proofs.YtlbaphapjclkdaaGreatDoor.Ev.litV] at hv; cases hv
  | .func _ cs, hv => by rw [Go.Proofs.YtlbaphapjclkdaaGreatDoor.Ev.litV] at hv; simp only [shV, AV.tau]; rw [hs.litVs tk hv]
  | .meth _ v, hv => by rw [Go.Proofs.YtlbaphapjclkdaaGreatDoor.Ev.litV] at hv; simp only [shV, AV.tau]; rw [hs.litV tk hv]
  | .iface _ v, hv => by rw [Go.Proofs.YtlbaphapjclkdaaGreatDoor.Ev.litV] at hv; simp only [shV, AV.tau]; rw [hs.litV tk hv]
  | .agg cs, hv => by rw [Go.Proofs.YtlbaphapjclkdaaGreatDoor.Ev.litV] at hv; simp only [shV, AV.tau]; rw [hs.litVs tk hv]
  | .tup cs, hv => by rw [Go.Proofs.YtlbaphapjclkdaaGreatDoor.Ev.litV] at hv; simp only [shV, AV.tau]; rw [hs.litVs tk hv]
  | .bool _, _ | .str _, _ | .nilp, _ | .nils, _ | .nilm, _ | .nilf, _ | .gptr _, _ | .nili, _ => by simp only [shV, AV.tau]
theorem HS.litVs (tk : TauOK t) (hs : HS t h0 h) : ∀ {l : List AV}, litVs l = true → AV.taus t (shVs (Go.Proofs.YtlbaphapjclkdaaGreatDoor.Ev.shf h0.n) l) = shVs (Go.Proofs.YtlbaphapjclkdaaGreatDoor.Ev.shf h.n) l
  | [], _ => by simp only [shVs, AV.taus]
  | v :: l, hv => by
    rw [Go.Proofs.YtlbaphapjclkdaaGreatDoor.Ev.litVs, Bool.and_eq_true] at hv
    simp only [shVs, AV.taus]; rw [hs.litV tk hv.1, hs.litVs tk hv.2]
end
theorem HS.litE (tk : TauOK t) (hs : HS t h0 h) : ∀ {l : List (AV × AV × Nat)}, litE l = true → ((shE (Go.Proofs.YtlbaphapjclkdaaGreatDoor.Ev.shf h0.n) l).map fun e => (e.1.tau t, e.2.1.tau t, e.2.2)) = shE (Go.Proofs.YtlbaphapjclkdaaGreatDoor.Ev.shf h.n) l
  | [], _ => rfl
  | e :: l, hv => by
    simp only [Go.Proofs.YtlbaphapjclkdaaGreatDoor.Ev.litE, Bool.and_eq_true] at hv
    simp only [shE, List.map_cons]; rw [hs.litV tk hv.1, hs.litV tk hv.2.1, hs.litE tk hv.2.2]
theorem HS.pushes (tk : TauOK t) : ∀ {xs ys : List AObj} {h0 h : H}, HS t h0 h → xs.length = ys.length → (∀ i x y, xs[i]? = some x → ys[i]? = some y → ObjR t (h0.n + i) (some x) (some y)) → HS t (h0.pushes xs) (h.pushes ys)
  | [], [], h0, h, hs, _, _ => hs
  | [], y :: ys, h0, h, hs, hl, _ => by simp at hl
  | x :: xs, [], h0, h, hs, hl, _ => by simp at hl
  | x :: xs, y :: ys, h0, h, hs, hl, ho => by
    simp only [H.pushes]
    refine HS.pushes tk (hs.push tk (ho 0 x y rfl rfl)) (by simpa using hl) fun i a b ha hb => ?_
    have := ho (i + 1) a b (by rw [List.getElem?_cons_succ]; exact ha) (by rw [List.getElem?_cons_succ]; exact hb)
    rw [H.n_push, show h0.n + 1 + i = h0.n + (i + 1) by omega]; exact this
/-- what lies at the start lies there too -/
structure StartT (t : Tau) : Prop where
  a : t.ρ 0 = 0
  b : t.ρ 1 = 1
  c : t.δ 1 = 0
theorem HS.startB (tk : TauOK t) (ts : StartT t) (hs : HS t h0 h) {g len : Nat} {cs : List AV} (hcs : cs.all fixV = true) (hb : startB g len cs h0 = true) : startB g len cs h = true := by
  have st := startB_ok hb
  refine startB_of ⟨?_, ?_⟩
  · have := hs.get 0
    rw [st.glob, ts.a] at this
    have this : h.get 0 = some (.glob g ((AV.slice 1 0 len 1).tau t)) := this
    rw [this]; simp only [AV.tau, ts.b, ts.c]
  · obtain ⟨P, hP, hr⟩ := hs.cells st.row
    rw [ts.c] at hP
    rw [ts.b, List.eq_nil_of_length_eq_zero hP, tk.fixs hcs] at hr
    exact hr
theorem layG_tau (tk : TauOK t) (ts : StartT t) {g len : Nat} {cs a : List AV} {v : AV} {lits : List AObj} (hcs : cs.all fixV = true) (ha : a.all fixV = true) (hv : litV v = true) (hl : lits.all litO = true) {args : List AV} {r : AOut} (hs : HS t h0 h) (e : layG g len cs a v lits args h0 = some (r, h1)) :
    ∃ h2, layG g len cs a v lits (args.map (AV.tau t)) h = some (r.tau t, h2) ∧ HS t h1 h2 := by
  unfold layG at e ⊢
  split at e
  case isFalse => cases e
  rename_i hq
  rw [Bool.and_eq_true] at hq
  cases e
  have h1 := AV.beqs_eq hq.1
  subst h1
  rw [tk.fixs ha, if_pos (by rw [hq.1, hs.startB tk ts hcs hq.2]; rfl)]
  refine ⟨_, by rw [AOut.tau, hs.litV tk hv], hs.pushes tk (by simp) fun i x y hx hy => ?_⟩
  rw [List.getElem?_map] at hx hy
  obtain ⟨x0, e1, rfl⟩ := Option.map_eq_some_iff.1 hx
  rw [e1] at hy
  simp only [Option.map_some, Option.some.injEq] at hy
  subst hy
  have hx0 := List.all_eq_true.1 hl x0 (List.mem_of_getElem? e1)
  have hd := (hs.rho i).2
  match x0, hx0 with
  | .cells cs (some g), hx0 =>
    simp only [litO, Bool.and_eq_true, Nat.ble_eq] at hx0
    refine ⟨[], by rw [hd]; rfl, ?_⟩
    simp only [shiftO, List.nil_append, Option.map_some, (hs.shf hx0.1).1]
    rw [← taus_map, hs.litVs tk hx0.2]
  | .mem (.map es c), hx0 =>
    simp only [litO] at hx0
    refine ⟨hd, ?_⟩
    simp only [shiftO, MObj.tau, hs.litE tk hx0]
end
end Go.Proofs.YtlbaphapjclkdaaGreatDoor.Ev

/- The guarded interpreter once more, ordered so that the kernel looks at code once. -/
namespace Go.Proofs.YtlbaphapjclkdaaGreatDoor.Ev
set_option linter.unusedVariables false
set_option linter.unusedSimpArgs false
def execF (o : AOp) : S → H → Option (AV × H) :=
  match o with
  | .mov x => fun s h => some (x.ev s, h)
  | .pick c a b => fun s h => (pickA (c.ev s) (a.ev s) (b.ev s)).map (·, h)
  | .alloc z => fun s h => some (.ptr h.n 0, h.new z)
  | .box x => fun s h => some (.ptr h.n 0, h.new (x.ev s).cells)
  | .build z ps => fun s h => (afill z (parts s ps)).map fun cs => (.agg cs, h)
  | .buildSlice es len z ps => fun s h => (afill (zeros z (len * es)) (parts s ps)).map fun cs => (.slice h.n 0 len es, h.new cs)
  | .load agg n x => fun s h => (loadA h agg n (x.ev s)).map (·, h)
  | .store n x v => fun s h => (storeA h n (x.ev s) (v.ev s)).map (undefA, ·)
  | .nilCheck x => fun s h => (nilCheckA (x.ev s)).map (·, h)
  | .bin op x y => fun s h => (binA op (x.ev s) (y.ev s)).map (·, h)
  | .eq k neg x y => fun s h => (eqA k (x.ev s) (y.ev s)).map fun b => (.bool (if neg then !b else b), h)
  | .not x => fun s h => (notA (x.ev s)).map (·, h)
  | .neg x => fun s h => (negA (x.ev s)).map (·, h)
  | .cvInt k x => fun s h => (cvIntA k (x.ev s)).map (·, h)
  | .cvSame x => fun s h => (cvSameA (x.ev s)).map (·, h)
  | .cvS2B x => fun s h => cvS2BA h (x.ev s)
  | .cvB2S x => fun s h => (cvB2SA h (x.ev s)).map (·, h)
  | .cvB2B x => fun s h => (cvB2BA h (x.ev s)).map (·, h)
  | .sliceS es x lo hi => fun s h => (sliceSA es (lo.map (·.ev s)) (hi.map (·.ev s)) (x.ev s)).map (·, h)
  | .slice3 es x lo hi mx => fun s h => (slice3A es (lo.map (·.ev s)) (hi.ev s) (mx.ev s) (x.ev s)).map (·, h)
  | .sliceT x lo hi => fun s h => (sliceTA (lo.map (·.ev s)) (hi.map (·.ev s)) (x.ev s)).map (·, h)
  | .sliceA es n x lo hi => fun s h => (sliceAA h es n (lo.map (·.ev s)) (hi.map (·.ev s)) (x.ev s)).map (·, h)
  | .fieldAddr off x => fun s h => (fieldAddrA off (x.ev s)).map (·, h)
  | .field agg off n x => fun s h => (fieldA agg off n (x.ev s)).map (·, h)
  | .indexAddr es x i => fun s h => (indexAddrA es (x.ev s) (i.ev s)).map (·, h)
  | .indexArr es k x i => fun s h => (indexArrA es k (x.ev s) (i.ev s)).map (·, h)
  | .indexStr x i => fun s h => (indexStrA (x.ev s) (i.ev s)).map (·, h)
  | .indexAgg agg es k x i => fun s h => (indexAggA agg es k (x.ev s) (i.ev s)).map (·, h)
  | .extract x i => fun s h => (extractA i (x.ev s)).map (·, h)
  | .len x => fun s h => (lenSA (x.ev s)).map fun (n : Nat) => (.int .i64 (n : Int), h)
  | .lenT x => fun s h => (lenTA (x.ev s)).map fun (n : Nat) => (.int .i64 (n : Int), h)
  | .lenC n => fun s h => some (.int .i64 n, h)
  | .append es x y => fun s h => appendA h es (x.ev s) (y.ev s)
  | .copy es x y => fun s h => copyA h es (x.ev s) (y.ev s)
  | .min x y => fun s h => (minA (x.ev s) (y.ev s)).map (·, h)
  | .max x y => fun s h => (maxA (x.ev s) (y.ev s)).map (·, h)
  | .makeFunc f cs => fun s h => some (.func f (cs.map (·.ev s)), h)
  | .makeSlice es bytes z l c => fun s h => makeSliceA h es bytes z (l.ev s) (c.ev s)
  | .makeIface t x => fun s h => some (.iface t (x.ev s), h)
  | .makeMeth f x => fun s h => some (.meth f (x.ev s), h)
  | .makeMap => fun s h => some (.map h.n, h.push (.mem (.map [] 0)))
  | .mapPut kk m k v => fun s h => (mapPutA h kk (k.ev s) (v.ev s) (m.ev s)).map (undefA, ·)
  | .mapDel kk m k => fun s h => (mapDelA h kk (k.ev s) (m.ev s)).map (.tup [], ·)
  | .mapGet kk ok z m k => fun s h => (mapGetA h kk ok z (k.ev s) (m.ev s)).map (·, h)
  | .rangeM x => fun s h => rangeMA h (x.ev s)
  | .nextM _ => fun s h => none
  | .entryM x => fun s h => (entryMA h (x.ev s)).map (·, h)
  | .assert t z ok x => fun s h => (assertA t z ok (x.ev s)).map (·, h)
  | .lenM x => fun s h => (lenMA h (x.ev s)).map fun (n : Nat) => (.int .i64 (n : Int), h)
  | .rangeT x => fun s h => rangeTA h (x.ev s)
  | .nextT x => fun s h => nextTA h (x.ev s)
  | .cvR2S x => fun s h => (cvR2SA (x.ev s)).map (·, h)
  | .clear es z x => fun s h => (clearA h es z (x.ev s)).map (.tup [], ·)
  | .call _ _ => fun s h => none
  | .panic _ => fun s h => none
theorem execF_eq (o : AOp) (s : S) (h : H) : execF o s h = exec o s h := by cases o <;> exact rfl
def safeF (G : Tags) (o : AOp) : S → H → AV → Bool :=
  match o with
  | .bin op x y => fun s h v => binOK G op v (x.ev s) (y.ev s)
  | .eq k _ x y => fun s h v => match k with | .flat _ | .flatK _ => fixV (x.ev s) && fixV (y.ev s) | _ => true
  | .cvInt k x => fun s h v => cvOK G k v (x.ev s)
  | .min x y => fun s h v => mxOK G false v (x.ev s) (y.ev s)
  | .max x y => fun s h v => mxOK G true v (x.ev s) (y.ev s)
  | .sliceS _ _ lo hi => fun s h v => fixO s lo && fixO s hi
  | .sliceT _ lo hi => fun s h v => fixO s lo && fixO s hi
  | .sliceA _ _ _ lo hi => fun s h v => fixO s lo && fixO s hi
  | .slice3 _ _ lo hi mx => fun s h v => fixO s lo && fixV (hi.ev s) && fixV (mx.ev s)
  | .indexAddr _ _ i => fun s h v => fixV (i.ev s)
  | .indexArr _ _ _ i => fun s h v => fixV (i.ev s)
  | .indexAgg _ _ _ _ i => fun s h v => fixV (i.ev s)
  | .indexStr _ i => fun s h v => fixV (i.ev s) && fixV v
  | .makeSlice _ _ z l c => fun s h v => z.all fixV && fixV (l.ev s) && fixV (c.ev s)
  | .alloc z => fun s h v => z.all fixV
  | .build z _ => fun s h v => z.all fixV
  | .buildSlice _ _ z _ => fun s h v => z.all fixV
  | .cvB2S x => fun s h v => rowOK h (x.ev s) && (match x.ev s with | .slice o i len es => (match h.firstCells 1 len (.slice o i len 1) with | some cs => cs.all fixV | none => false) | _ => true)
  | .mapGet _ _ z m k => fun s h v => fixV z && fixV (k.ev s) && keysFix h (m.ev s)
  | .mapPut _ m k _ => fun s h v => fixV (k.ev s) && keysFix h (m.ev s)
  | .mapDel _ m k => fun s h v => fixV (k.ev s) && keysFix h (m.ev s)
  | .assert _ z _ _ => fun s h v => fixV z
  | .clear _ z _ => fun s h v => z.all fixV
  | .append _ _ y => fun s h v => rowOK h (y.ev s)
  | .copy _ _ y => fun s h v => rowOK h (y.ev s) && fixV v
  | .lenC _ => fun s h v => fixV v
  | .len _ => fun s h v => fixV v
  | .lenT _ => fun s h v => fixV v
  | .lenM _ => fun s h v => fixV v
  | .nextT _ => fun s h v => fixV v
  | .cvB2B _ => fun s h v => false
  | .neg _ => fun s h v => false
  | .cvR2S _ => fun s h v => false
  | .entryM _ => fun s h v => false
  | _ => fun s h v => true
theorem safeF_eq (G : Tags) (o : AOp) (s : S) (h : H) (v : AV) : safeF G o s h v = opSafe G s h v o := by cases o <;> exact rfl
/-- a place is written, for the kernel -/
def updC (s : S) (d : Option Nat) (v : AV) : S := match d with
  | none => s
  | some d => fun j => bif Nat.beq j d then v else s j
theorem updC_eq (s : S) (d : Option Nat) (v : AV) : updC s d v = upd s d v := by
  cases d with
  | none => rfl
  | some d =>
    funext j
    simp only [updC, upd]
    by_cases h : j = d
    · rw [if_pos h, show Nat.beq j d = true by rw [Nat.beq_eq]; exact h]; rfl
    · rw [if_neg h, show Nat.beq j d = false by cases q : Nat.beq j d; rfl; rw [Nat.beq_eq] at q; exact absurd q h]; rfl
theorem bif_if {α : Type} (b : Bool) (x y : α) : (bif b then x else y) = if b = true then x else y := by cases b <;> rfl
def execC (G : Tags) (op : AOp) : S → H → Option (AV × H) := fun s h =>
  match execF op s h with
  | some (v, h') => bif safeF G op s h v then some (v, h') else none
  | none => none
theorem execC_eq (G : Tags) (op : AOp) (s : S) (h : H) : execC G op s h = execX G op s h := by
  unfold execC execX
  rw [execF_eq]
  cases exec op s h with
  | none => rfl
  | some p => obtain ⟨v, h'⟩ := p; simp only [safeF_eq, bif_if]
/-- an operation, and what is behind it -/
def opC (G : Tags) (op : AOp) (d : Option Nat) (k : CallF → S → H → Option (AEx × S × H)) : CallF → S → H → Option (AEx × S × H) :=
  match op with
  | .call f args => fun call s h => match f.ev s with
    | .func f cs => match call (.fn f) (args.map (·.ev s) ++ cs) h with
      | some (.val v, h) => k call (updC s d v) h
      | some (.panic v, h) => some (.panic v, s, h)
      | none => none
    | .yield o => match call (.yld o) (args.map (·.ev s)) h with
      | some (.val v, h) => k call (updC s d v) h
      | some (.panic v, h) => some (.panic v, s, h)
      | none => none
    | .meth g v => match call (.fn g) (v :: args.map (·.ev s)) h with
      | some (.val v, h) => k call (updC s d v) h
      | some (.panic v, h) => some (.panic v, s, h)
      | none => none
    | _ => none
  | .panic x => fun _ s h => match x.ev s with | .iface t v => some (.panic (.iface t v), s, h) | _ => none
  | .nextM x => fun call s h => match nextEA h (x.ev s) with
    | some (v, h) => k call (updC s d v) h
    | none => none
  | op => fun call s h => match execC G op s h with
    | some (v, h) => k call (updC s d v) h
    | none => none
def guardC (g : Option (Nat × Bool)) (op : AOp) (a b : CallF → S → H → Option (AEx × S × H)) : CallF → S → H → Option (AEx × S × H) :=
  match g with
  | none => fun call s h => bif op.opds.all (opdOK s) then a call s h else none
  | some (j, t) => fun call s h => bif known (s j) then (bif wanted (some (j, t)) s then (bif op.opds.all (opdOK s) then a call s h else none) else b call s h) else none
def runOpsC (G : Tags) : List AStep → CallF → S → H → Option (AEx × S × H)
  | [] => fun _ s h => some (.normal, s, h)
  | st :: r => guardC st.guard st.op (opC G st.op st.dst (runOpsC G r)) (fun call s h => runOpsC G r call (updC s st.dst undefA) h)
theorem runOpsC_eq (G : Tags) : ∀ (l : List AStep) (call : CallF) (s : S) (h : H), runOpsC G l call s h = runOpsX G call l s h
  | [], call, s, h => rfl
  | st :: r, call, s, h => by
    have ih := runOpsC_eq G r
    have ih' : runOpsC G r = fun call s h => runOpsX G call r s h := by funext call s h; exact ih call s h
    rw [runOpsC, runOpsX, ih']
    unfold guardC
    obtain ⟨d, op, g⟩ := st
    cases g with
    | none =>
      cases op
      case call f args => simp only [guardOK, wanted, if_true, opC, bif_if, updC_eq]; rfl
      case panic x => simp only [guardOK, wanted, if_true, opC, bif_if, updC_eq]; rfl
      case nextM x => simp only [guardOK, wanted, if_true, opC, bif_if, updC_eq]; rfl
      all_goals
        simp only [guardOK, wanted, if_true, opC, execC_eq, bif_if, updC_eq]
        generalize execX G _ s h = x
        cases x <;> rfl
    | some p =>
      obtain ⟨j, t⟩ := p
      cases op
      case call f args => simp only [guardOK, opC, bif_if, updC_eq]; rfl
      case panic x => simp only [guardOK, opC, bif_if, updC_eq]; rfl
      case nextM x => simp only [guardOK, opC, bif_if, updC_eq]; rfl
      all_goals
        simp only [guardOK, opC, execC_eq, bif_if, updC_eq]
        generalize execX G _ s h = x
        cases x <;> rfl
def stepCodeC (X : GEnv) (c : ACode) : Rc → S → H → Option (AEx × S × H) :=
  match c with
  | .skip => fun _ s h => some (.normal, s, h)
  | .ops l => fun r s h => runOpsC X.G l r.call s h
  | .draw l => fun r s h => (runDrawX X.G r.call l [] s h).map fun p => (.normal, p.1, p.2)
  | .seq a b => fun r s h => match r.code a s h with | some (.normal, s, h) => r.code b s h | x => x
  | .cond c a b => fun r s h => if opdOK s c = true then (match c.ev s with | .bool t => r.code (if t then a else b) s h | _ => none) else none
  | .block id c => fun r s h => match r.code c s h with | some (.exit id', s, h) => some (if id' = id then .normal else .exit id', s, h) | x => x
  | .loop c => fun r s h => match r.code c s h with | some (.normal, s, h) => r.code (.loop c) (compactS 7 s) h | x => x
  | .exit id => fun _ s h => some (.exit id, s, h)
  | .ret => fun _ s h => some (.ret, s, h)
  | .scope c => fun r s h => r.code c s h
  | .stuck => fun _ _ _ => none
  | .range nt f ps assign body => fun r s h => if opdOK s f = true then (match f.ev s with
    | .func g cs => if (X.E.T g).isSome = true then (match r.call (.fn g) ([.yield h.n] ++ cs) (h.push (.loop ⟨0, none, nt, s, ps, assign, body⟩)) with
      | some (.val _, h1) => endLoopA s h1 h.n
      | _ => none) else none
    | _ => none) else none
theorem stepCodeC_eq (X : GEnv) (c : ACode) (r : Rc) (s : S) (h : H) : stepCodeC X c r s h = stepCodeX X r c s h := by
  cases c
  case ops l => exact runOpsC_eq _ _ _ _ _
  all_goals rfl
def evC (X : GEnv) : Nat → Rc
  | 0 => ⟨fun _ _ _ => none, fun _ _ _ => none⟩
  | k + 1 => ⟨fun c s h => stepCodeC X c (evC X k) s h, stepCallX X (evC X k)⟩
theorem evC_eq (X : GEnv) : ∀ k, evC X k = evX X k
  | 0 => rfl
  | k + 1 => by
    rw [evC, evX, evC_eq X k]
    congr 1
    funext c s h
    exact stepCodeC_eq X c _ s h
end Go.Proofs.YtlbaphapjclkdaaGreatDoor.Ev

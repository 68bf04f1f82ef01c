/- BatchRoom: what stands for the compiling of its text, and the environments of its runs. -/
import Derived.Test.YtlbaphapjclkdaaGreatDoorTSign
import Derived.Test.YtlbaphapjclkdaaGreatDoorEvT7
namespace Go.Proofs.YtlbaphapjclkdaaGreatDoor.Ev.C
open Go Go.Proofs.YtlbaphapjclkdaaGreatDoor.Ev
set_option linter.unusedVariables false
def roomT : List UInt8 := [116, 121, 112, 101, 32, 117, 115, 101, 114, 32, 123, 125, 32, 116, 121, 112, 101, 32, 100, 111, 99, 32, 123, 32, 114, 101, 108, 32, 111, 119, 110, 32, 40, 111, 119, 110, 44, 32, 111, 119, 110, 44, 32, 111, 119, 110, 41, 58, 32, 117, 115, 101, 114, 59, 32, 125]
def compV : AV := .tup [.agg [.str [116, 121, 112, 101, 32, 117, 115, 101, 114, 32, 123, 10, 125, 10, 116, 121, 112, 101, 32, 100, 111, 99, 32, 123, 10, 9, 114, 101, 108, 32, 111, 119, 110, 32, 40, 111, 119, 110, 44, 32, 111, 119, 110, 44, 32, 111, 119, 110, 41, 58, 32, 117, 115, 101, 114, 59, 10, 125, 10], .slice 4 0 2 1, .slice 5 0 1 8, .map 3], .int .i64 0]
def compO : List AObj := [.cells [.str [117, 115, 101, 114], .str []] (some 2), .mem (.map [(.agg [.str [100, 111, 99], .str [111, 119, 110]], .int .i64 0, 0)] 1), .cells [.str [117, 115, 101, 114], .str [100, 111, 99]] (some 4),
  .cells [.str [100, 111, 99], .str [111, 119, 110], .int .i64 0, .int .i64 0, .int .i64 0, .int .i64 0, .slice 2 0 1 2, .slice 6 0 1 3] (some 5), .cells [.int .i64 1, .int .i64 0, .str []] (some 6)]
def compG : List AV → H → Option (AOut × H) := layG g_token_keys 4 (strCells keysL) [.str roomT] compV compO
def ovR : Ovs := fun f => if f = n_table_Compile then some compG else ov0 f
noncomputable def ER : Env := Env.mk (table PP) ovR (tableD PP) (tableR PP)
def HK : H := HG g_token_keys 4 (strCells keysL)
def okR (f : Nat) : Bool := f == n_table_Compile || f == n_strings_Join || f == n_strings_ContainsRune
noncomputable def XR (ks us : List Int) : GEnv := ⟨ER, tagsR ks us, okR⟩
end Go.Proofs.YtlbaphapjclkdaaGreatDoor.Ev.C

/- BatchRoom: the memory behind trimming, and what is run from there. -/
namespace Go.Proofs.YtlbaphapjclkdaaGreatDoor.Ev.C
open Go Go.Proofs.YtlbaphapjclkdaaGreatDoor.Ev
set_option linter.unusedVariables false
/-- what stands for the revision that is trimmed to -/
def tagK : Int := 1099511627776
/-- what stands for the quota: the parameter's rest -/
def tagQ : Int := 4398046511104
/-- the memory behind trimming: the map, the spans, the store, by, the table's five, the records, the versions -/
def roomL (c : Int) : List AObj := [.mem (.map [] 0), .cells [.map 2, .nils, .int .i64 0] (some 3),
  .cells [.ptr 3 0, .int .i64 c, .int .i64 tagK, .int .i64 tagK, .slice 12 0 1 5, .slice 11 0 0 6] (some 4), .cells [.str [117, 115, 101, 114], .str [97], .str []] (some 5)]
  ++ compO.map (shiftO (shf 6)) ++ [.cells [] (some 11), .cells (.int .i64 tagK :: (match shV (shf 6) compV with | .tup [.agg l, _] => l | _ => [])) (some 12)]
def roomH (c : Int) : H := HK.pushes (roomL c)
/-- the state of BatchRoom ahead of its writes; u: the parameter -/
def roomS (u : Int) : S := fun j => if j = 6 then .ptr 4 0 else if j = 7 then .ptr 5 0 else if j = 1 then .int .u8 u else unkA
def roomC : ACode := .seq (.seq (.ops doormanlaw15_BatchRoom_r18) (.block 2 (.loop doormanlaw15_BatchRoom_l25))) (.seq (.ops doormanlaw15_BatchRoom_r26) .ret)
def kapL : List Int := (List.range 63).map fun i => ((i + 1 : Nat) : Int)
def parL (q : Nat) : List Int := (List.range 37).map fun i => ((7 * i + q : Nat) : Int)
/-- the parameter's mark: of the quota's rest -/
def tagP (q : Nat) : Int := 7 * 314146179365 + q
def yesB (x : Option (AEx × S × H)) : Bool := match x with | some (.ret, s, _) => (s 4).beq (.bool true) | _ => false
noncomputable def roomB (q : Nat) : Bool := yesB ((evC (XR kapL (parL q)) 2000).code roomC (roomS (tagP q)) (roomH (q : Int)))
/-- an object of roomH that has the quota, or not -/
theorem roomL_at (c d : Int) : ∀ i, i ≠ 2 → (roomL d)[i]? = (roomL c)[i]?
  | 0, _ => rfl
  | 1, _ => rfl
  | 2, h => absurd rfl h
  | i + 3, _ => rfl
theorem roomL_2 (c : Int) : (roomL c)[2]? = some (.cells [.ptr 3 0, .int .i64 c, .int .i64 tagK, .int .i64 tagK, .slice 12 0 1 5, .slice 11 0 0 6] (some 4)) := rfl
theorem roomL_n (c : Int) : (roomL c).length = 11 := rfl
theorem roomH_get (c : Int) (o : Nat) : (roomH c).get o = if o < 2 then HK.get o else if o < 13 then (roomL c)[o - 2]? else HK.get o := by
  unfold roomH; rw [H.pushes_get, roomL_n]; rfl
/-- the quota, for its mark -/
theorem room_hs {t : Tau} {c d : Int} {h : H} (e : t.σ .i64 d = t.σ .i64 c) (hs : HS t (roomH c) h) : HS t (roomH d) h := by
  have hn : (roomH d).n = (roomH c).n := by unfold roomH; rw [H.pushes_n, H.pushes_n, roomL_n, roomL_n]
  have hg : (roomH d).gr = (roomH c).gr := by unfold roomH; rw [H.pushes_gr, H.pushes_gr]
  refine ⟨hn ▸ hs.n, fun o ho => hs.fr o (hn ▸ ho), fun o => ?_, fun g => ?_, fun g o hk => ?_⟩
  · have g := hs.get o
    by_cases h2 : o = 4
    · subst h2
      rw [roomH_get, if_neg (by decide), if_pos (by decide), roomL_2] at g ⊢
      obtain ⟨P, hP, e2⟩ := g
      refine ⟨P, hP, ?_⟩
      rw [e2]
      simp only [List.map_cons, AV.tau, e]
    · rw [roomH_get] at g ⊢
      split
      · rename_i q; rw [if_pos q] at g; exact g
      · rename_i q
        rw [if_neg q] at g
        split
        · rename_i q2; rw [if_pos q2] at g; rw [roomL_at c d (o - 2) (by omega)]; exact g
        · rename_i q2; rw [if_neg q2] at g; exact g
  · have := hs.tip g
    unfold H.tip at this ⊢
    rw [hg]; exact this
  · refine hs.kill g o ?_
    unfold H.kill at hk ⊢
    rw [← hg]; exact hk
end Go.Proofs.YtlbaphapjclkdaaGreatDoor.Ev.C

/- BatchRoom: what stands for functions keeps side by side; a run with marks, and the real one. -/
namespace Go.Proofs.YtlbaphapjclkdaaGreatDoor.Ev.C
open Go Go.Proofs.YtlbaphapjclkdaaGreatDoor.Ev
set_option linter.unusedVariables false
set_option linter.unusedSimpArgs false
theorem strsOf_tau {t : Tau} : ∀ {cs : List AV} {l : List (List UInt8)}, strsOf cs = some l → strsOf (cs.map (AV.tau t)) = some l
  | [], l, h => h
  | v :: cs, l, h => by
    cases v <;> first | (cases h; done) | skip
    simp only [strsOf] at h
    obtain ⟨l', h1, h2⟩ := Option.map_eq_some_iff.1 h
    simp only [List.map_cons, AV.tau, strsOf, strsOf_tau h1, Option.map_some, h2]
theorem join_tau {t : Tau} (tk : TauOK t) {args : List AV} {h0 h h1 : H} {r : AOut} (hs : HS t h0 h) (e : joinG args h0 = some (r, h1)) : ∃ h2, joinG (args.map (AV.tau t)) h = some (r.tau t, h2) ∧ HS t h1 h2 := by
  unfold joinG at e
  split at e
  case h_2 => cases e
  rename_i o i len sep
  split at e
  case h_2 => cases e
  rename_i cs hf
  split at e
  case h_2 => cases e
  rename_i l hl
  split at e
  case isFalse => cases e
  rename_i hc
  cases e
  have hro : rowOK h0 (.slice o i len 1) = true := by
    show (h0.row o).isSome = true
    cases hr : h0.row o with
    | some x => rfl
    | none =>
      unfold H.firstCells at hf
      simp only [hr] at hf
      split at hf
      case isFalse => cases hf
      split at hf
      · cases hf; cases hl; simp at hc
      · cases hf
  have := hs.firstCells tk hro hf
  simp only [AV.tau] at this
  refine ⟨h, ?_, hs⟩
  simp only [List.map_cons, List.map_nil, AV.tau, joinG, this, strsOf_tau hl]
  rw [if_pos hc]; simp only [AOut.tau, AV.tau]
theorem cr_tau {t : Tau} (tk : TauOK t) {args : List AV} {h0 h h1 : H} {r : AOut} (hs : HS t h0 h) (e : crG args h0 = some (r, h1)) : ∃ h2, crG (args.map (AV.tau t)) h = some (r.tau t, h2) ∧ HS t h1 h2 := by
  unfold crG at e
  split at e
  case h_2 => cases e
  rename_i s c
  split at e
  case isFalse => cases e
  rename_i hc
  cases e
  have : t.σ .i32 c = c := tk.fix _ _ (by
    obtain ⟨_, h1, h2⟩ := hc
    obtain ⟨n, rfl⟩ := Int.eq_ofNat_of_zero_le h1
    exact fixI_nat (by omega))
  refine ⟨h, ?_, hs⟩
  simp only [List.map_cons, List.map_nil, AV.tau, crG, this]
  rw [if_pos hc]; simp only [AOut.tau, AV.tau]
theorem room_ovT {t : Tau} (tk : TauOK t) (ts : StartT t) (ks us : List Int) : OvT (XR ks us) t := by
  intro f g hf ho args h0 h r h1 hs e
  have hf : ovR f = some g := hf
  have ho : okR f = true := ho
  unfold ovR at hf
  split at hf
  · cases hf
    exact layG_tau tk ts (by decide +kernel) (by decide +kernel) (by decide +kernel) (by decide +kernel) hs e
  · rename_i h1
    unfold ov0 at hf
    simp only [okR, Bool.or_eq_true, beq_iff_eq] at ho
    split at hf
    · rename_i q; rw [q] at ho; exfalso; revert ho; decide +kernel
    split at hf
    · cases hf; exact cr_tau tk hs e
    split at hf
    · cases hf; exact join_tau tk hs e
    rename_i h2 h3
    rcases ho with (q | q) | q
    · exact absurd q h1
    · exact absurd q h3
    · exact absurd q h2
/-- a run with marks is the real run -/
theorem room_code {t : Tau} {κ u : Int} {ks us : List Int} {ρ δ : Nat → Nat} (ht : t = tauR ρ δ κ u) (tk : TauOK t) (ts : StartT t) (hκ : κ ∈ ks) (hu : u ∈ us) {k : Nat} {c : ACode} {s0 s s1 : S} {h0 h h1 : H} {ex : AEx} (sr : SR t s0 s) (hs : HS t h0 h)
    (e : (evC (XR ks us) k).code c s0 h0 = some (ex, s1, h1)) : ∃ s2 h2, (ev ER k).code c s h = some (ex.tau t, s2, h2) ∧ SR t s1 s2 ∧ HS t h1 h2 :=
  (evX_tau (X := XR ks us) tk (ht ▸ tagsR_ok hκ hu ρ δ) (room_ovT tk ts ks us) k).1 _ _ _ _ _ _ _ _ sr hs (evC_eq (XR ks us) k ▸ e)
theorem room_call {t : Tau} {κ u : Int} {ks us : List Int} {ρ δ : Nat → Nat} (ht : t = tauR ρ δ κ u) (tk : TauOK t) (ts : StartT t) (hκ : κ ∈ ks) (hu : u ∈ us) {k : Nat} {f : Fn} {args : List AV} {h0 h h1 : H} {r : AOut} (hs : HS t h0 h)
    (e : (evC (XR ks us) k).call f args h0 = some (r, h1)) : ∃ h2, (ev ER k).call (f.tau t) (args.map (AV.tau t)) h = some (r.tau t, h2) ∧ HS t h1 h2 :=
  (evX_tau (X := XR ks us) tk (ht ▸ tagsR_ok hκ hu ρ δ) (room_ovT tk ts ks us) k).2 _ _ _ _ _ _ hs (evC_eq (XR ks us) k ▸ e)
theorem tauR_ok {ρ δ : Nat → Nat} {κ u : Int} (mono : ∀ a b, a < b → ρ a < ρ b) (z : ρ 0 = 0) : TauOK (tauR ρ δ κ u) := ⟨fun _ _ h => sig_fix h, mono, z⟩
theorem parL_mem {u : Nat} (hu : u < 256) : (u : Int) ∈ parL (u % 7) := by
  unfold parL
  refine List.mem_map.2 ⟨u / 7, List.mem_range.2 (by omega), ?_⟩
  congr 1; omega
theorem kapL_mem {k : Nat} (h1 : 1 ≤ k) (h2 : k ≤ 63) : (k : Int) ∈ kapL := by
  unfold kapL
  refine List.mem_map.2 ⟨k - 1, List.mem_range.2 (by omega), ?_⟩
  congr 1; omega
theorem sig_tagQ (κ u : Int) : sigB κ u tagQ = u % 7 := by
  unfold sigB tagQ
  rw [if_neg (by omega), if_neg (by omega), if_neg (by omega)]
theorem tauR_σ (ρ δ : Nat → Nat) (κ u : Int) (k : IntKind) (n : Int) : (tauR ρ δ κ u).σ k n = sigB κ u n := by unfold tauR; exact rfl
/-- the tail, from any memory that is like the one behind trimming -/
theorem room_tail {R D : List Nat} {N : Nat} {k u : Nat} (tk : TauOK (tauR (rhoL R N) (delL D) k u)) (ts : StartT (tauR (rhoL R N) (delL D) k u)) (h1 : 1 ≤ k) (h2 : k ≤ 63) (hu : u < 256) (hB : roomB (u % 7) = true) {s : S} {h : H}
    (sr : SR (tauR (rhoL R N) (delL D) k u) (roomS (tagP (u % 7))) s) (hs : HS (tauR (rhoL R N) (delL D) k u) (roomH tagQ) h) : ∃ s2 h2, (ev ER 2000).code roomC s h = some (.ret, s2, h2) ∧ s2 4 = .bool true := by
  unfold roomB yesB at hB
  split at hB
  case h_2 => cases hB
  rename_i s1 h1' e
  have hq : (tauR (rhoL R N) (delL D) k u).σ .i64 ((u % 7 : Nat) : Int) = (tauR (rhoL R N) (delL D) k u).σ .i64 tagQ := by
    rw [tauR_σ, tauR_σ, sig_fix (fixI_nat (by omega)), sig_tagQ]; omega
  obtain ⟨s2, h2', e', sr', _⟩ := room_code rfl tk ts (kapL_mem h1 h2) (parL_mem hu) sr (room_hs hq hs) e
  refine ⟨s2, h2', e', ?_⟩
  have e4 := AV.beq_eq hB
  rcases sr' 4 with q | q
  · rw [e4] at q; cases q
  · rw [q, e4]; simp only [AV.tau]
end Go.Proofs.YtlbaphapjclkdaaGreatDoor.Ev.C

/- BatchRoom: the memories behind 1 to 69 schemas, with the quota marked, and what each is trimmed to. -/
namespace Go.Proofs.YtlbaphapjclkdaaGreatDoor.Ev.C
open Go Go.Proofs.YtlbaphapjclkdaaGreatDoor.Ev
set_option linter.unusedVariables false
set_option linter.unusedSimpArgs false
def u256 : List Int := (List.range 256).map fun i => ((i : Nat) : Int)
noncomputable def XQ : GEnv := XR [0] u256
def byV : AV := .agg [.str [117, 115, 101, 114], .str [97], .str []]
def tagU : Int := 2199023255552
def sA : S := fun j => if j = 6 then .ptr 5 0 else unkA
def cA : ACode := .seq (.ops doormanlaw15_BatchRoom_r6) (.cond (.tmp 26) (.seq (.ops doormanlaw15_BatchRoom_r7) .ret) .skip)
def sB (k : Nat) : S := fun j => if j = 6 then .ptr 5 0 else if j = 7 then .ptr 6 0 else if j = 8 then .int .i64 (k : Int) else if j = 1 then .int .u8 tagU else unkA
def cB : ACode := .seq (.ops doormanlaw15_BatchRoom_r16) (.cond (.tmp 63) (.seq (.ops doormanlaw15_BatchRoom_r17) .ret) .skip)
def defArgs : List AV := [.ptr 5 0, byV, .str roomT]
/-- one schema more -/
noncomputable def nextB (B : H) : Option (AV × H) := match (evC XQ 200).call (.fn n_batch_Store_Define) defArgs B with | some (.val v, B') => some (v, B') | _ => none
noncomputable def newX : Option (AV × H) := match (evC XQ 100).call (.fn n_batch_New) [.int .i64 tagQ] HK with | some (.val v, B0) => some (v, B0) | _ => none
/-- behind the first schema -/
noncomputable def startX : Option H := match newX with
  | some (v, B0) => if v.beq (.ptr 5 0) = true then (match (evC XQ 200).code (.ops doormanlaw15_BatchRoom_r5) sA B0 with
    | some (.normal, s, B) => (match (evC XQ 200).code cA s B with
      | some (.normal, s, B1) => if ((s 6).beq (.ptr 5 0) && (s 7).beq (.ptr 6 0)) = true then some B1 else none
      | _ => none)
    | _ => none) else none
  | none => none
/-- where the objects of roomH lie -/
def findR (B : H) : List Nat := match B.get 5 with
  | some (.cells [_, _, _, _, .slice v _ _ _, .slice r _ _ _] _) => (match B.get v with
    | some (.cells [_, _, .slice ty _ _ _, _, _] _) => [0, 1, 2, 3, 5, 6, ty - 2, ty - 1, ty, ty + 1, ty + 2, r, v]
    | _ => [])
  | _ => []
def revK (k : Nat) : Nat := if k ≤ 1 then 1 else if k ≤ 63 then k else 63
noncomputable def trimB (k : Nat) (B : H) : Bool := match (evC XQ 400).code cB (sB k) B with
  | some (.normal, s, B') => hsB (findR B') [] (revK k : Int) (roomH tagQ) B' && ((s 6).beq (.ptr 5 0) && ((s 7).beq (.ptr 6 0) && (s 1).beq (.int .u8 tagU)))
  | _ => false
def byB (B : H) : Bool := match loadA B true 3 (.ptr 6 0) with | some v => v.beq byV | none => false
def errK (j : Nat) : Int := if j < 63 then 0 else 42
section
variable (nx : H → Option (AV × H)) (tr : Nat → H → Bool)
def chainB (lo hi : Nat) : Nat → Nat → H → Bool
  | 0, _, _ => true
  | f + 1, j, B => (if (Nat.ble lo j && Nat.ble j hi) = true then tr j B && (if j = 1 then tr 0 B else true) else true) && (byB B &&
    match nx B with | some (v, B') => v.beq (.int .i64 (errK j)) && chainB lo hi f (j + 1) B' | none => false)
/-- so many schemas more -/
def iterB : Nat → H → Option H
  | 0, B => some B
  | i + 1, B => match nx B with | some (_, B') => iterB i B' | none => none
theorem iterB_succ (i : Nat) : ∀ (B C : H) (v : AV) (C' : H), iterB nx i B = some C → nx C = some (v, C') → iterB nx (i + 1) B = some C' := by
  induction i with
  | zero =>
    intro B C v C' h e
    simp only [iterB, Option.some.injEq] at h
    subst h
    simp only [iterB, e]
  | succ i ih =>
    intro B C v C' h e
    simp only [iterB] at h
    rw [iterB]
    cases q : nx B with
    | none => rw [q] at h; cases h
    | some p =>
      rw [q] at h
      exact ih _ _ _ _ h e
theorem chain_at {lo hi : Nat} (f : Nat) : ∀ (j : Nat) (B : H), chainB nx tr lo hi f j B = true → ∀ i, i < f → ∃ C C', iterB nx i B = some C ∧ byB C = true ∧ nx C = some (.int .i64 (errK (j + i)), C') ∧ (lo ≤ j + i → j + i ≤ hi → tr (j + i) C = true ∧ (j + i = 1 → tr 0 C = true)) := by
  induction f with
  | zero => intro j B _ i hi'; omega
  | succ f ih =>
    intro j B h i hi'
    simp only [chainB] at h
    obtain ⟨h1, h⟩ := Bool.and_eq_true_iff.1 h
    obtain ⟨h0, h2⟩ := Bool.and_eq_true_iff.1 h
    cases e : nx B with
    | none => rw [e] at h2; cases h2
    | some p =>
      obtain ⟨v, B'⟩ := p
      rw [e] at h2
      have h2 : (v.beq (.int .i64 (errK j)) && chainB nx tr lo hi f (j + 1) B') = true := h2
      have h2 := Bool.and_eq_true_iff.1 h2
      have e1 := AV.beq_eq h2.1
      subst e1
      cases i with
      | zero =>
        refine ⟨B, B', rfl, h0, e, fun a b => ?_⟩
        rw [if_pos (by rw [Bool.and_eq_true, Nat.ble_eq, Nat.ble_eq]; exact ⟨a, b⟩)] at h1
        have h1 := Bool.and_eq_true_iff.1 h1
        refine ⟨h1.1, fun q => ?_⟩
        have := h1.2
        rw [if_pos (by omega)] at this
        exact this
      | succ i =>
        obtain ⟨C, C', p1, p0, p2, p3⟩ := ih (j + 1) B' h2.2 i (by omega)
        rw [show j + 1 + i = j + (i + 1) by omega] at p2 p3
        exact ⟨C, C', by rw [iterB, e]; exact p1, p0, p2, p3⟩
end
noncomputable def chainAll (lo hi : Nat) : Bool := match startX with | some B => chainB nextB trimB lo hi hi 1 B | none => false
theorem chain_all {lo hi : Nat} (h : chainAll lo hi = true) : ∃ B, startX = some B ∧ chainB nextB trimB lo hi hi 1 B = true := by
  unfold chainAll at h
  split at h
  · rename_i B e; exact ⟨B, e, h⟩
  · cases h
/-- the memories, for each number of schemas -/
structure RoomAt (B : H) (j : Nat) (C : H) : Prop where
  it : iterB nextB (j - 1) B = some C
  by' : byB C = true
  nx : ∃ C', nextB C = some (.int .i64 (errK j), C')
  tr : trimB j C = true
  tr0 : j = 1 → trimB 0 C = true
theorem room_at {a b c d : Nat} (h1 : chainAll 1 a = true) (h2 : chainAll (a + 1) b = true) (h3 : chainAll (b + 1) c = true) (h4 : chainAll (c + 1) d = true) : ∃ B, startX = some B ∧ ∀ j, 1 ≤ j → j ≤ d → a ≤ b → b ≤ c → c ≤ d → ∃ C, RoomAt B j C := by
  obtain ⟨B, e1, k1⟩ := chain_all h1
  obtain ⟨B2, e2, k2⟩ := chain_all h2
  obtain ⟨B3, e3, k3⟩ := chain_all h3
  obtain ⟨B4, e4, k4⟩ := chain_all h4
  rw [e1] at e2 e3 e4
  cases e2; cases e3; cases e4
  refine ⟨B, e1, fun j j1 j2 ab bc cd => ?_⟩
  have key : ∀ {lo hi : Nat}, chainB nextB trimB lo hi hi 1 B = true → lo ≤ j → j ≤ hi → ∃ C, RoomAt B j C := by
    intro lo hi k a b
    obtain ⟨C, C', p1, p0, p2, p3⟩ := chain_at _ _ _ _ _ k (j - 1) (by omega)
    rw [show 1 + (j - 1) = j by omega] at p2 p3
    exact ⟨C, p1, p0, ⟨C', p2⟩, (p3 a b).1, (p3 a b).2⟩
  by_cases ja : j ≤ a
  · exact key k1 j1 ja
  by_cases jb : j ≤ b
  · exact key k2 (by omega) jb
  by_cases jc : j ≤ c
  · exact key k3 (by omega) jc
  exact key k4 (by omega) j2
theorem RoomAt.step {B C : H} {j : Nat} (hj : 1 ≤ j) (r : RoomAt B j C) {C' D : H} {v : AV} (e : nextB C = some (v, C')) (r' : RoomAt B (j + 1) D) : D = C' := by
  have h1 := r.it
  have h2 := r'.it
  have := iterB_succ _ _ _ _ _ _ h1 e
  rw [show j - 1 + 1 = j + 1 - 1 by omega, h2] at this
  exact Option.some.inj this
end Go.Proofs.YtlbaphapjclkdaaGreatDoor.Ev.C

/- BatchRoom, walked: its calls are runs with marks, and the real ones. -/
namespace Go.Proofs.YtlbaphapjclkdaaGreatDoor.Ev.C
open Go Go.Proofs.YtlbaphapjclkdaaGreatDoor.Ev
set_option linter.unusedVariables false
set_option linter.unusedSimpArgs false
theorem ER_T {i : Nat} {a : AFunc} (h : table PP i = some a) : ER.T i = some a := by unfold ER; rw [env_T]; exact h
theorem ER_ov (f : Nat) : ER.ov f = ovR f := by unfold ER; rw [env_ov]
theorem hs_HK (u : Int) : HS (idT u) HK HK where
  n := rfl
  fr _ _ := ⟨rfl, rfl⟩
  get o := by
    show ObjR (idT u) o (HK.get o) (HK.get o)
    unfold HK HG
    rw [H.get_push, H.get_push]
    split
    · refine ⟨[], rfl, ?_⟩
      rw [(idT_ok u).fixs (by decide)]; rfl
    · split
      · show some _ = some _
        simp only [AV.tau, idT, tauR, Nat.zero_add]
      · trivial
  tip _ := rfl
  kill _ _ h := h
theorem idT_start (u : Int) : StartT (idT u) := ⟨rfl, rfl, rfl⟩
theorem u256_mem {u : Nat} (h : u < 256) : (u : Int) ∈ u256 := List.mem_map.2 ⟨u, List.mem_range.2 h, rfl⟩
theorem id_ptr (u : Int) (o i : Nat) : (AV.ptr o i).tau (idT u) = .ptr o i := by simp only [AV.tau, idT, tauR, Nat.zero_add]
theorem id_fix (u : Int) {v : AV} (h : fixV v = true) : v.tau (idT u) = v := (idT_ok u).fixV h
theorem plainR : ∀ g fn, ER.R g = some fn → fn.ops.all (fun st => st.op.plain) = true := table_plain PP ovR
theorem call_run {k f : Nat} {args : List AV} {h h' : H} {r : AOut} {R : AOut → H → Prop} (e : (ev ER k).call (.fn f) args h = some (r, h')) (q : R r h') : WCall ER f args h R := (ev_A plainR k).2 _ _ _ _ _ e _ q
theorem code_run {k : Nat} {c : ACode} {s s' : S} {h h' : H} {ex : AEx} {K : List Fr1} {Q : Post} (e : (ev ER k).code c s h = some (ex, s', h')) (q : fin ER K Q ex s' h') : WS ER c K Q s h := (ev_A plainR k).1 _ _ _ _ _ _ e _ q
/-- what is known of a place -/
theorem SR.at' {t : Tau} {s0 s : S} (sr : SR t s0 s) {j : Nat} {v : AV} (e : s0 j = v) (hk : known v = true) : s j = v.tau t := by
  rcases sr j with q | q
  · rw [e] at q; rw [q] at hk; cases hk
  · rw [q, e]
/-- a new store, in the memory of the start -/
theorem room_new {u : Nat} (hu : u < 256) {B0 : H} (e : newX = some (.ptr 5 0, B0)) : ∃ h, (ev ER 100).call (.fn n_batch_New) [.int .i64 ((u % 7 : Nat) : Int)] HK = some (.val (.ptr 5 0), h) ∧ HS (idT u) B0 h := by
  unfold newX at e
  split at e
  case h_2 => cases e
  rename_i v B0' e1
  cases e
  obtain ⟨h, e2, hs⟩ := room_call (t := idT u) (κ := 0) (u := u) (ks := [0]) (us := u256) (k := 100) rfl (idT_ok u) (idT_start u) (by simp) (u256_mem hu) (hs_HK u) e1
  refine ⟨h, ?_, hs⟩
  have ea : [AV.int .i64 tagQ].map (AV.tau (idT u)) = [.int .i64 ((u % 7 : Nat) : Int)] := by
    simp only [List.map_cons, List.map_nil, AV.tau, idT, tauR]
    congr 2
  rw [ea] at e2
  rw [AOut.tau, id_ptr] at e2
  exact e2
/-- one schema more -/
theorem room_def {u : Nat} (hu : u < 256) {B B' h : H} {v : AV} (hv : fixV v = true) (e : nextB B = some (v, B')) (hs : HS (idT u) B h) : ∃ h', (ev ER 200).call (.fn n_batch_Store_Define) defArgs h = some (.val v, h') ∧ HS (idT u) B' h' := by
  unfold nextB at e
  split at e
  case h_2 => cases e
  rename_i w B2 e1
  cases e
  obtain ⟨h', e2, hs'⟩ := room_call (t := idT u) (κ := 0) (u := u) (ks := [0]) (us := u256) (k := 200) rfl (idT_ok u) (idT_start u) (by simp) (u256_mem hu) hs e1
  refine ⟨h', ?_, hs'⟩
  have ea : defArgs.map (AV.tau (idT u)) = defArgs := by
    unfold defArgs
    simp only [List.map_cons, List.map_nil, id_ptr]
    rw [id_fix _ (show fixV byV = true from rfl), id_fix _ (show fixV (.str roomT) = true from rfl)]
  rw [ea, AOut.tau, id_fix _ hv] at e2
  exact e2
/-- what by is -/
theorem room_by {u : Nat} {B h : H} (e : byB B = true) (hs : HS (idT u) B h) : loadA h true 3 (.ptr 6 0) = some byV := by
  unfold byB at e
  split at e
  case h_2 => cases e
  rename_i v e1
  have := loadA_tau (idT_ok u) hs e1
  rw [id_ptr, AV.beq_eq e, id_fix _ (show fixV byV = true from rfl)] at this
  exact this
theorem sig_tagU (κ u : Int) : sigB κ u tagU = u := by
  unfold sigB tagU
  rw [if_neg (by omega), if_neg (by omega), if_pos (by omega)]
theorem sig_tagP (κ u : Int) {q : Nat} (hq : q < 7) : sigB κ u (tagP q) = u := by
  unfold sigB tagP
  rw [if_neg (by omega), if_neg (by omega), if_pos (by omega)]
theorem idT_σ (u : Int) (k : IntKind) (n : Int) : (idT u).σ k n = sigB 0 u n := by unfold idT; exact tauR_σ _ _ _ _ _ _
theorem sB_rel {k u : Nat} (hk : k < 1000) {s : S} (s6 : s 6 = .ptr 5 0) (s7 : s 7 = .ptr 6 0) (s8 : s 8 = .int .i64 (k : Int)) (s1 : s 1 = .int .u8 (u : Int)) : SR (idT u) (sB k) s := by
  intro j
  unfold sB
  split
  · rename_i q; subst q; exact .inr (by rw [id_ptr]; exact s6)
  split
  · rename_i q; subst q; exact .inr (by rw [id_ptr]; exact s7)
  split
  · rename_i q; subst q; exact .inr (by simp only [AV.tau, idT_σ]; rw [sig_fix (fixI_nat (by omega))]; exact s8)
  split
  · rename_i q; subst q; exact .inr (by simp only [AV.tau, idT_σ, sig_tagU]; exact s1)
  · exact .inl rfl
theorem findR_at {B : H} (h : (findR B).length = 13) : (findR B)[0]? = some 0 ∧ (findR B)[1]? = some 1 ∧ (findR B)[4]? = some 5 ∧ (findR B)[5]? = some 6 := by
  unfold findR at h ⊢
  split
  · rename_i e
    rw [e] at h
    simp only at h ⊢
    split
    · exact ⟨rfl, rfl, rfl, rfl⟩
    · rename_i e2
      exfalso
      split at h
      · rename_i e3; exact e2 _ _ _ _ _ _ _ _ _ e3
      · simp at h
  · rename_i e
    exfalso
    split at h
    · rename_i e3; exact e _ _ _ _ _ _ _ _ _ _ _ _ _ e3
    · simp at h
def notLoop : AObj → Bool
  | .loop _ => false
  | _ => true
theorem room_noloop (o : Nat) (L : LoopRec) : (roomH tagQ).get o ≠ some (.loop L) := by
  intro e
  rw [roomH_get] at e
  have hk : ∀ o, HK.get o ≠ some (.loop L) := by
    intro o e
    unfold HK HG at e
    rw [H.get_push, H.get_push] at e
    split at e
    · cases e
    · split at e
      · cases e
      · cases e
  split at e
  · exact hk _ e
  · split at e
    · have h1 : (roomL tagQ).all notLoop = true := by decide +kernel
      have := List.all_eq_true.1 h1 _ (List.mem_of_getElem? e)
      cases this
    · exact hk _ e
theorem room_off (o : Nat) (ho : 13 ≤ o) : (roomH tagQ).get o = none := by
  rw [roomH_get, if_neg (by omega), if_neg (by omega)]
  unfold HK HG
  rw [H.get_push, H.get_push]
  rw [if_neg (by show ¬ o = 1; omega), if_neg (by show ¬ o = 0; omega)]
  rfl
theorem roomH_n (c : Int) : (roomH c).n = 13 := by unfold roomH; rw [H.pushes_n, roomL_n]; rfl
theorem room_gr (c : Int) (g : Nat) : (roomH c).gr.get g = none := by unfold roomH; rw [H.pushes_gr]; rfl
theorem revK_le (k : Nat) : 1 ≤ revK k ∧ revK k ≤ 63 := by unfold revK; split; omega; split <;> omega
theorem room_trim {u k : Nat} (hu : u < 256) (hk : k < 1000) {C h : H} {s : S} (e : trimB k C = true) (hs : HS (idT u) C h) (s6 : s 6 = .ptr 5 0) (s7 : s 7 = .ptr 6 0) (s8 : s 8 = .int .i64 (k : Int)) (s1 : s 1 = .int .u8 (u : Int)) (ht : roomB (u % 7) = true) :
    ∃ s' h', (ev ER 400).code cB s h = some (.normal, s', h') ∧ ∃ s2 h2, (ev ER 2000).code roomC s' h' = some (.ret, s2, h2) ∧ s2 4 = .bool true := by
  unfold trimB at e
  split at e
  case h_2 => cases e
  rename_i s0 B' e1
  simp only [Bool.and_eq_true] at e
  obtain ⟨c1, c2, c3, c4⟩ := e
  obtain ⟨s', h', e2, sr', hs'⟩ := room_code (t := idT u) (κ := 0) (u := u) (ks := [0]) (us := u256) (k := 400) rfl (idT_ok u) (idT_start u) (by simp) (u256_mem hu) (sB_rel hk s6 s7 s8 s1) hs e1
  have t6 := SR.at' sr' (AV.beq_eq c2) rfl
  have t7 := SR.at' sr' (AV.beq_eq c3) rfl
  have t1 := SR.at' sr' (AV.beq_eq c4) rfl
  rw [id_ptr] at t6 t7
  simp only [AV.tau, idT_σ, sig_tagU] at t1
  obtain ⟨r1, r2⟩ := revK_le k
  obtain ⟨H1, H2, H3, H4⟩ := HS.of_check (κ := (revK k : Int)) (u := (u : Int)) c1 hs' (by omega) (by omega) (fun g _ => room_gr tagQ g) (fun o ho => room_off o (by rw [roomH_n] at ho; exact ho)) (fun o L => room_noloop o L)
  rw [roomH_n] at H4
  obtain ⟨f0, f1, f4, f5⟩ := findR_at H4
  have p0 : rhoL (findR B') h'.n 0 = 0 := by unfold rhoL; rw [f0]
  have p1 : rhoL (findR B') h'.n 1 = 1 := by unfold rhoL; rw [f1]
  have p4 : rhoL (findR B') h'.n 4 = 5 := by unfold rhoL; rw [f4]
  have p5 : rhoL (findR B') h'.n 5 = 6 := by unfold rhoL; rw [f5]
  have tk : TauOK (tauR (rhoL (findR B') h'.n) (delL []) (revK k) u) := tauR_ok (rhoL_mono H2 H3) p0
  refine ⟨s', h', e2, room_tail tk ⟨p0, p1, rfl⟩ r1 r2 hu ht ?_ H1⟩
  intro j
  unfold roomS
  split
  · rename_i q; subst q
    refine .inr ?_
    rw [t6, AV.tau]
    show AV.ptr 5 0 = .ptr (rhoL (findR B') h'.n 4) _
    rw [p4]; rfl
  split
  · rename_i q; subst q
    refine .inr ?_
    rw [t7, AV.tau]
    show AV.ptr 6 0 = .ptr (rhoL (findR B') h'.n 5) _
    rw [p5]; rfl
  split
  · rename_i q; subst q
    refine .inr ?_
    rw [t1, AV.tau, tauR_σ, sig_tagP _ _ (by omega)]
  · exact .inl rfl
end Go.Proofs.YtlbaphapjclkdaaGreatDoor.Ev.C

/- BatchRoom, walked whole. -/
namespace Go.Proofs.YtlbaphapjclkdaaGreatDoor.Ev.C
open Go Go.Proofs.YtlbaphapjclkdaaGreatDoor.Ev
set_option linter.unusedVariables false
set_option linter.unusedSimpArgs false
/-- is a place not written? -/
def noW (j : Nat) : ACode → Bool
  | .ops l => l.all fun st => match st.dst with | some d => !(d == j) | none => true
  | .seq a b => noW j a && noW j b
  | .cond _ a b => noW j a && noW j b
  | .block _ c => noW j c
  | .loop c => noW j c
  | .scope c => noW j c
  | .draw _ => false
  | .range _ _ _ _ _ => false
  | .skip | .exit _ | .ret | .stuck => true
theorem upd_no {s : S} {d : Option Nat} {j : Nat} {v : AV} (h : (match d with | some d => !(d == j) | none => true) = true) : upd s d v j = s j := by
  cases d with
  | none => rfl
  | some d =>
    simp only [Bool.not_eq_true', beq_eq_false_iff_ne] at h
    simp only [upd]; rw [if_neg (fun e => h e.symm)]
theorem runOps_no {call : CallF} {j : Nat} : ∀ {l : List AStep} {s : S} {h : H} {ex : AEx} {s' : S} {h' : H}, runOps call l s h = some (ex, s', h') → (l.all fun st => match st.dst with | some d => !(d == j) | none => true) = true → s' j = s j
  | [], s, h, ex, s', h', e, _ => by
    simp only [runOps, Option.some.injEq, Prod.mk.injEq] at e
    rw [e.2.1]
  | st :: r, s, h, ex, s', h', e, w => by
    rw [List.all_cons, Bool.and_eq_true] at w
    have go : ∀ {v : AV} {h1 : H}, runOps call r (upd s st.dst v) h1 = some (ex, s', h') → s' j = s j := fun e => (runOps_no e w.2).trans (upd_no w.1)
    simp only [runOps] at e
    repeat' (split at e)
    all_goals first
      | exact go e
      | (cases e; done)
      | (simp only [Option.some.injEq, Prod.mk.injEq] at e; rw [← e.2.1])
theorem code_no {E : Env} {j : Nat} : ∀ (k : Nat) (c : ACode) (s : S) (h : H) (ex : AEx) (s' : S) (h' : H), (ev E k).code c s h = some (ex, s', h') → noW j c = true → s' j = s j
  | 0, c, s, h, ex, s', h', e, _ => by cases e
  | k + 1, c, s, h, ex, s', h', e, w => by
    have ih := code_no (E := E) (j := j) k
    change stepCode E (ev E k) c s h = some (ex, s', h') at e
    cases c <;> simp only [stepCode] at e <;> simp only [noW, Bool.false_eq_true, Bool.and_eq_true] at w
    case skip => cases e; rfl
    case exit => cases e; rfl
    case ret => cases e; rfl
    case stuck => cases e
    case ops l => exact runOps_no e w
    case scope c => exact ih _ _ _ _ _ _ e w
    case seq a b =>
      split at e
      · rename_i s1 h1 e1; exact (ih _ _ _ _ _ _ e w.2).trans (ih _ _ _ _ _ _ e1 w.1)
      · exact ih _ _ _ _ _ _ e w.1
    case cond c a b =>
      split at e
      · rename_i t _
        cases t
        · exact ih _ _ _ _ _ _ e w.2
        · exact ih _ _ _ _ _ _ e w.1
      · cases e
    case block id c =>
      split at e
      · rename_i id' s1 h1 e1; cases e; exact ih _ _ _ _ _ _ e1 w
      · exact ih _ _ _ _ _ _ e w
    case loop c =>
      split at e
      · rename_i s1 h1 e1; exact (ih _ _ _ _ _ _ e w).trans (ih _ _ _ _ _ _ e1 w)
      · exact ih _ _ _ _ _ _ e w
/-- the start: a new store, by, and the first schema -/
theorem room_start {u : Nat} (hu : u < 256) {B : H} (e : startX = some B) : ∃ h0, (ev ER 100).call (.fn n_batch_New) [.int .i64 ((u % 7 : Nat) : Int)] HK = some (.val (.ptr 5 0), h0) ∧ ∀ s : S, s 6 = .ptr 5 0 →
    ∃ sa ha, (ev ER 200).code (.ops doormanlaw15_BatchRoom_r5) s h0 = some (.normal, sa, ha) ∧ ∃ sb hb, (ev ER 200).code cA sa ha = some (.normal, sb, hb) ∧ HS (idT u) B hb ∧ sb 6 = .ptr 5 0 ∧ sb 7 = .ptr 6 0 ∧ sb 0 = s 0 ∧ sb 1 = s 1 := by
  unfold startX at e
  split at e
  case h_2 => cases e
  rename_i v B0 e0
  split at e
  case isFalse => cases e
  rename_i hv
  have hv := AV.beq_eq hv
  subst hv
  split at e
  case h_2 => cases e
  rename_i s1 B1 e1
  split at e
  case h_2 => cases e
  rename_i s2 B2 e2
  split at e
  case isFalse => cases e
  rename_i hq
  cases e
  rw [Bool.and_eq_true] at hq
  obtain ⟨h0, a0, hs0⟩ := room_new hu e0
  refine ⟨h0, a0, fun s s6 => ?_⟩
  have sr : SR (idT u) sA s := by
    intro j
    unfold sA
    split
    · rename_i q; subst q; exact .inr (by rw [id_ptr]; exact s6)
    · exact .inl rfl
  obtain ⟨sa, ha, a1, sra, hsa⟩ := room_code (t := idT u) (κ := 0) (u := u) (ks := [0]) (us := u256) (k := 200) rfl (idT_ok u) (idT_start u) (by simp) (u256_mem hu) sr hs0 e1
  obtain ⟨sb, hb, a2, srb, hsb⟩ := room_code (t := idT u) (κ := 0) (u := u) (ks := [0]) (us := u256) (k := 200) rfl (idT_ok u) (idT_start u) (by simp) (u256_mem hu) sra hsa e2
  have t6 := SR.at' srb (AV.beq_eq hq.1) rfl
  have t7 := SR.at' srb (AV.beq_eq hq.2) rfl
  rw [id_ptr] at t6 t7
  refine ⟨sa, ha, a1, sb, hb, a2, hsb, t6, t7, ?_, ?_⟩
  · exact (code_no _ _ _ _ _ _ _ a2 (by decide)).trans (code_no _ _ _ _ _ _ _ a1 (by decide))
  · exact (code_no _ _ _ _ _ _ _ a2 (by decide)).trans (code_no _ _ _ _ _ _ _ a1 (by decide))
/-- the law, walked -/
theorem room_walk {n u : Nat} (hn : n < 256) (hu : u < 256) {B : H} (hst : startX = some B) (hch : ∀ j, 1 ≤ j → j ≤ 69 → ∃ C, RoomAt B j C) (ht : ∀ q, q < 7 → roomB q = true) :
    WCall ER n_doormanlaw15_BatchRoom [.int .u8 (n : Int), .int .u8 (u : Int)] HK fun r _ => r = .val (.bool true) := by
  have hq7 : Int.tmod (IntKind.i64.wrap (u : Int)) 7 = ((u % 7 : Nat) : Int) := by rw [wrapI (by omega)]; rfl
  have hk70 : Int.tmod (IntKind.i64.wrap (n : Int)) 70 = ((n % 70 : Nat) : Int) := by rw [wrapI (by omega)]; rfl
  generalize hk : n % 70 = k at hk70
  have hk69 : k ≤ 69 := by omega
  obtain ⟨h0, eN, hst2⟩ := room_start hu hst
  have step0 : ∀ (s : S) (K : List Fr1) (Q : Post) (rest : ACode), s 6 = .ptr 5 0 → (∀ sb hb, HS (idT u) B hb → sb 6 = .ptr 5 0 → sb 7 = .ptr 6 0 → sb 0 = s 0 → sb 1 = s 1 → WS ER rest K Q sb hb) → WS ER (.seq (.ops doormanlaw15_BatchRoom_r5) (.seq cA rest)) K Q s h0 := by
    intro s K Q rest s6 go
    obtain ⟨sa, ha, a1, sb, hb, a2, hs, t6, t7, t0, t1⟩ := hst2 s s6
    exact WS_of_seq (code_run a1 (WS_of_seq (code_run a2 (go sb hb hs t6 t7 t0 t1))))
  refine WCall_ws ((ER_ov _).trans rfl) (ER_T T_doormanlaw15_BatchRoom) (by simp [doormanlaw15_BatchRoom_a]) ?_
  refine WS_of_seq (WS_of_ops ?_)
  simp only [doormanlaw15_BatchRoom_r0, go_sem, ↓reduceIte, Nat.reduceEqDiff]
  refine WS_of_seq (WS_of_ops ?_)
  simp only [doormanlaw15_BatchRoom_r1, go_sem, ↓reduceIte, Nat.reduceEqDiff]
  refine WCall_ov (g := yes) ((ER_ov _).trans rfl) (r := .val (.bool true)) (h' := HK) (by simp [yes, HK, startB_of (StartG.hg _ _ _)]) ?_
  simp only [go_sem, ↓reduceIte, Nat.reduceEqDiff]
  refine WS_of_seq (WS_of_seq (WS_of_ops ?_))
  simp only [doormanlaw15_BatchRoom_r2, go_sem, ↓reduceIte, Nat.reduceEqDiff, Bool.not_true]
  refine WS_of_cond ?_
  simp only [go_sem, ↓reduceIte, Nat.reduceEqDiff, Bool.false_eq_true]
  refine WS_of_skip ?_
  simp only [go_sem, ↓reduceIte, Nat.reduceEqDiff]
  refine WS_of_seq (WS_of_ops ?_)
  simp only [doormanlaw15_BatchRoom_r4, go_sem, ↓reduceIte, Nat.reduceEqDiff, enterS, List.getD_cons_zero, List.getD_cons_succ, hq7]
  refine ⟨by decide, call_run eN ?_⟩
  simp only [go_sem, ↓reduceIte, Nat.reduceEqDiff]
  refine step0 _ _ _ _ (by simp only [go_sem, ↓reduceIte, Nat.reduceEqDiff]) ?_
  intro s h hs s6 s7 s0 s1
  simp only [go_sem, ↓reduceIte, Nat.reduceEqDiff, enterS, List.getD_cons_zero, List.getD_cons_succ] at s0 s1
  refine WS_of_seq (WS_of_ops ?_)
  simp only [doormanlaw15_BatchRoom_r8, go_sem, ↓reduceIte, Nat.reduceEqDiff, s0, hk70]
  refine ⟨by decide, ?_⟩
  refine WS_of_seq (WS_of_seq (WS_of_ops ?_))
  simp only [doormanlaw15_BatchRoom_r9, go_sem, ↓reduceIte, Nat.reduceEqDiff]
  unfold doormanlaw15_BatchRoom_l15 doormanlaw15_BatchRoom_r14
  obtain ⟨C1, r1⟩ := hch 1 (by omega) (by omega)
  have hC1 : C1 = B := by
    have := r1.it
    simp only [Nat.sub_self, iterB, Option.some.injEq] at this
    exact this.symm
  subst hC1
  refine for2_loop (n := max k 1) (i0 := 1) (by omega) (fun j s h => 1 ≤ j ∧ (∃ C, RoomAt C1 j C ∧ HS (idT u) C h) ∧ s 6 = .ptr 5 0 ∧ s 7 = .ptr 6 0 ∧ s 8 = .int .i64 (k : Int) ∧ s 1 = .int .u8 (u : Int)) (by decide) ?hup ?hi (by omega) ?h0 ?test ?step ?fini
  case hup =>
    rintro j s h t v htt ⟨z0, z1, z6, z7, z8, z9⟩
    have e6 : (6 : Nat) ≠ t ∧ (7 : Nat) ≠ t ∧ (8 : Nat) ≠ t ∧ (1 : Nat) ≠ t := by omega
    refine ⟨z0, z1, ?_, ?_, ?_, ?_⟩
    · simp only [go_sem, if_neg e6.1]; exact z6
    · simp only [go_sem, if_neg e6.2.1]; exact z7
    · simp only [go_sem, if_neg e6.2.2.1]; exact z8
    · simp only [go_sem, if_neg e6.2.2.2]; exact z9
  case hi => simp only [go_sem, ↓reduceIte, Nat.reduceEqDiff]; rfl
  case h0 =>
    refine ⟨Nat.le_refl _, ⟨C1, r1, hs⟩, ?_, ?_, ?_, ?_⟩
    · simp only [go_sem, ↓reduceIte, Nat.reduceEqDiff]; exact s6
    · simp only [go_sem, ↓reduceIte, Nat.reduceEqDiff]; exact s7
    · simp only [go_sem, ↓reduceIte, Nat.reduceEqDiff]
    · simp only [go_sem, ↓reduceIte, Nat.reduceEqDiff]; exact s1
  case test =>
    rintro j s h hj ⟨z0, z1, z6, z7, z8, z9⟩ zi
    have hd : decide ((j : Int) < (k : Int)) = decide (j < max k 1) := by rw [decide_eq_decide]; omega
    refine WS_of_ops ?_
    simp only [doormanlaw15_BatchRoom_r10, go_sem, ↓reduceIte, Nat.reduceEqDiff, zi, z8, hd]
    exact ⟨⟨z0, z1, z6, z7, trivial, z9⟩, trivial, trivial⟩
  case step =>
    rintro j s h hj ⟨z0, ⟨C, rC, hC⟩, z6, z7, z8, z9⟩ zi
    obtain ⟨C', eC⟩ := rC.nx
    obtain ⟨D, rD⟩ := hch (j + 1) (by omega) (by omega)
    have hD := rC.step z0 eC rD
    subst hD
    have hfx : fixV (.int .i64 (errK j)) = true := by unfold errK; split <;> rfl
    obtain ⟨h', eD, hs'⟩ := room_def hu hfx eC hC
    have lby : loadA h true 3 (.ptr 6 0) = some byV := room_by rC.by' hC
    refine WS_of_seq (WS_of_ops ?_)
    simp only [doormanlaw15_BatchRoom_r11, go_sem, ↓reduceIte, Nat.reduceEqDiff, z6, z7, lby]
    refine call_run eD ?_
    simp only [go_sem, ↓reduceIte, Nat.reduceEqDiff]
    refine WS_of_seq (WS_of_ops ?_)
    by_cases hj63 : j < 63
    · have he : errK j = 0 := by unfold errK; rw [if_pos hj63]
      have hj' : (j : Int) < 63 := by omega
      simp only [doormanlaw15_BatchRoom_r12, go_sem, ↓reduceIte, Nat.reduceEqDiff, zi, he, wanted, decide_true, decide_false, beq_self_eq_true, pickA, eqA, show (true == true) = true from rfl, show (false == false) = true from rfl, show (false == true) = false from rfl, show (true == false) = false from rfl, Bool.false_eq_true, undefA, Bool.not_true, Bool.not_false, hj']
      refine WS_of_cond ?_
      simp only [go_sem, ↓reduceIte, Nat.reduceEqDiff, Bool.false_eq_true]
      refine WS_of_skip ?_
      simp only [go_sem, ↓reduceIte, Nat.reduceEqDiff]
      exact ⟨⟨by omega, ⟨D, rD, hs'⟩, z6, z7, z8, z9⟩, zi⟩
    · have he : errK j = 42 := by unfold errK; rw [if_neg hj63]
      have hj' : ¬ (j : Int) < 63 := by omega
      simp only [doormanlaw15_BatchRoom_r12, go_sem, ↓reduceIte, Nat.reduceEqDiff, zi, he, wanted, decide_true, decide_false, beq_self_eq_true, pickA, eqA, show (true == true) = true from rfl, show (false == false) = true from rfl, show (false == true) = false from rfl, show (true == false) = false from rfl, Bool.false_eq_true, undefA, Bool.not_true, Bool.not_false, hj']
      refine WS_of_cond ?_
      simp only [go_sem, ↓reduceIte, Nat.reduceEqDiff, Bool.false_eq_true]
      refine WS_of_skip ?_
      simp only [go_sem, ↓reduceIte, Nat.reduceEqDiff]
      exact ⟨⟨by omega, ⟨D, rD, hs'⟩, z6, z7, z8, z9⟩, zi⟩
  case fini =>
    rintro s h ⟨z0, ⟨C, rC, hC⟩, z6, z7, z8, z9⟩
    have hT : trimB k C = true := by
      by_cases hk0 : k = 0
      · subst hk0; exact rC.tr0 rfl
      · have := rC.tr
        rwa [show max k 1 = k by omega] at this
    obtain ⟨s', h', e2, s2, h2, e3, e4⟩ := room_trim hu (by omega) hT hC z6 z7 z8 z9 (ht _ (by omega))
    refine WS_of_seq (code_run e2 ?_)
    refine code_run e3 ?_
    rw [fin_ret]
    simp only [go_sem, doormanlaw15_BatchRoom_a, List.map_cons, List.map_nil, e4]
end Go.Proofs.YtlbaphapjclkdaaGreatDoor.Ev.C

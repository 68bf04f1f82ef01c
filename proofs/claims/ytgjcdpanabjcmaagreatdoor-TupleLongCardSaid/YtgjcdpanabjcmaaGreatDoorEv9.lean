/- append and copy. -/
import Derived.Test.YtgjcdpanabjcmaaGreatDoorEv8
namespace Go.Proofs.YtgjcdpanabjcmaaGreatDoor.Ev
set_option linter.unusedVariables false
set_option linter.unusedSimpArgs false

section
variable {B0 : Nat} {P : Program} {m : M} {h h' : H} {w : World}

theorem zeroCells_size (z : Array Value) (n : Nat) : (Builtin.zeroCells z n).size = n * z.size := by simp [Builtin.zeroCells]
theorem run_append_in {t u e ty : TypeId} {i : TypeInfo} {d : TypeDesc} (hu : P.underlying t = some (.slice e)) (hi : P.info? e = some i) (hd : P.underlying u = some d) (hdi : ∀ k, d ≠ .int k)
    {base : Option Addr} {sLen sCap k : Nat} {y' : Value} {vs : List Value} (hk : (Builtin.lenOf y').run P w = .ok k w) (hf : (Builtin.firstCells i.size k y').run P w = .ok ⟨vs⟩ w) (hle : sLen + k ≤ sCap) {w' : World}
    (hst : (match base with | some a => (storeCells (a.add (sLen * i.size)) vs : Sem Unit) | none => Pure.pure ()).run P w = .ok () w') :
    (Builtin.append_ #[t, u] ty #[.slice base sLen sCap, y']).run P w = .ok (.slice base (sLen + k) sCap) w' := by
  have hz : (match d with | .int _ => true | _ => false) = false := by cases d <;> first | rfl | exact absurd rfl (hdi _)
  have hs : (sizeOf e).run P w = .ok i.size w := run_size (by simp [sizeP, hi]) w
  cases base with
  | none =>
    simp only at hst
    simp [Builtin.append_, run_underlying hu, run_underlying hd, hs, hz, hk, hf, hle]
    simpa using hst
  | some a =>
    simp only at hst
    simp [Builtin.append_, run_underlying hu, run_underlying hd, hs, hz, hk, hf, hle, hst]
theorem run_append_new {t u e ty : TypeId} {i : TypeInfo} {d : TypeDesc} {z : Value} (hu : P.underlying t = some (.slice e)) (hi : P.info? e = some i) (hzv : i.zero = some z) (hb : i.bytes ≤ 16384) (hd : P.underlying u = some d) (hdi : ∀ k, d ≠ .int k)
    {base : Option Addr} {sLen sCap k : Nat} {y' : Value} {olds vs : List Value} (hk : ∀ w, (Builtin.lenOf y').run P w = .ok k w) (hf : (Builtin.firstCells i.size k y').run P w.drew = .ok ⟨vs⟩ w.drew)
    (ho : (Builtin.firstCells i.size sLen (.slice base sLen sCap)).run P w.drew = .ok ⟨olds⟩ w.drew) (hlt : sCap < sLen + k) (hbig : sLen + k < 4294967296) :
    ∃ cap, sLen + k ≤ cap ∧ (Builtin.append_ #[t, u] ty #[.slice base sLen sCap, y']).run P w =
      .ok (.slice (some ⟨w.heap.size, 0, none⟩) (sLen + k) cap) (w.drew.alloc (.cells (⟨olds⟩ ++ ⟨vs⟩ ++ Builtin.zeroCells z.cells (cap - (sLen + k))) e)) := by
  have hz : (match d with | .int _ => true | _ => false) = false := by cases d <;> first | rfl | exact absurd rfl (hdi _)
  have hs : ∀ w, (sizeOf e).run P w = .ok i.size w := run_size (by simp [sizeP, hi])
  have h1 : ¬ (sLen + k ≤ sCap) := by omega
  have h2 : ¬ ((9223372036854775807 : Int) < ((sLen : Int) + (k : Int))) := by omega
  have h3 : Builtin.nextslicecap (sLen + k) sCap ≤ 2 * (sLen + k) := nextslicecap_le hlt
  have h4 : Builtin.nextslicecap (sLen + k) sCap * i.bytes ≤ 281474976710656 := by
    have : Builtin.nextslicecap (sLen + k) sCap * i.bytes ≤ 8589934592 * 16384 := Nat.mul_le_mul (by omega) hb
    omega
  have h5 : ¬ (281474976710656 < Builtin.nextslicecap (sLen + k) sCap * i.bytes) := by omega
  refine ⟨(Question.appendCap (sLen + k) sCap e).cut (w.tape w.drawn (.appendCap (sLen + k) sCap e)), Nat.le_add_right _ _, ?_⟩
  simp [Builtin.append_, run_underlying hu, run_underlying hd, hs, hz, hk, hf, ho, h1, h2, h5, typeInfo, hi, zeroValue, hzv, Question.forced, newRow]
  congr 2; apply Array.ext'; simp

theorem sound_append (r : Rel P B0 m h w) {t u e ty : TypeId} {i : TypeInfo} {d : TypeDesc} (hu : P.underlying t = some (.slice e)) (hi : P.info? e = some i) (h0 : i.size ≠ 0) (hb : i.bytes ≤ 16384) (hzl : (zeroP P e).map List.length = some i.size) (hd : P.underlying u = some d) (hdi : ∀ k, d ≠ .int k)
    {x y v : AV} {x' y' : Value} (hx : VRel m x x') (hy : VRel m y y') (he : appendA h i.size x y = some (v, h')) : SemOK P B0 m h w v h' ((Builtin.append_ #[t, u] ty #[x', y']).run P w) := by
  obtain ⟨z0, hz1, hz2⟩ := Option.map_eq_some_iff.1 hzl
  obtain ⟨i2, zv, hi2, hzv, hzr⟩ := zeroP_eq hz1
  rw [hi] at hi2; cases hi2
  have hzs : zv.cells.size = i.size := by have := (hzr m).len; rw [hz2] at this; simpa using this.symm
  unfold appendA at he
  split at he
  case h_2 => cases he
  rename_i k hk
  split at he
  case h_2 => cases he
  rename_i new hnew
  have hkl : ∀ w, (Builtin.lenOf y').run P w = .ok k w := fun w => sound_lenOf hy hk
  obtain ⟨vs, v1, v2, v3⟩ := sound_first (P := P) r hy hnew
  obtain ⟨vsd, d1, d2, d3⟩ := sound_first (P := P) r.drew hy hnew
  have hvl := v1.len
  unfold H.app at he
  by_cases hk0 : k = 0
  · rw [if_pos hk0] at he
    subst hk0
    have hnil : vs = [] := by
      have : vs.length = 0 := by rw [← hvl, v3]; simp
      exact List.length_eq_zero_iff.1 this
    subst hnil
    cases hx <;> simp only at he <;> try (cases he; done)
    case nils =>
      cases he
      exact .same r .nils (run_append_in hu hi hd hdi (hkl w) v2 (Nat.le_refl 0) rfl)
    case slice o b base sz j len es cap hm hl hs =>
      split at he
      · cases he
        exact .same r (.slice j len es cap hm hl hs) (run_append_in hu hi hd hdi (hkl w) v2 (by omega) rfl)
      · cases he
    case slice0 o j es a q hm =>
      split at he
      · cases he
        exact .same r (.slice0 j es a q hm) (run_append_in hu hi hd hdi (hkl w) v2 (Nat.le_refl 0) rfl)
      · cases he
  · rw [if_neg hk0] at he
    cases hx <;> simp only at he <;> try (cases he; done)
    case nils =>
      split at he
      · rename_i hbig
        cases he
        obtain ⟨cap, hc, hrun⟩ := run_append_new (ty := ty) (sLen := 0) (sCap := 0) (base := none) (olds := []) hu hi hzv hb hd hdi hkl d2 rfl (by omega) (by omega)
        have dl := d1.len
        let CS : Array Value := (⟨[]⟩ : Array Value) ++ ⟨vsd⟩ ++ Builtin.zeroCells zv.cells (cap - (0 + k))
        have hsz : CS.size = cap * i.size := by
          simp [CS, zeroCells_size, hzs]
          rw [← dl, d3, ← Nat.add_mul]; congr 1; omega
        obtain ⟨r', f'⟩ := r.drew.new new CS e (0, 0) (fun q a hq => by
          obtain ⟨c, h1, h2⟩ := d1.get q a hq
          refine ⟨c, ?_, h2⟩
          have hlt := (List.getElem?_eq_some_iff.1 h1).1
          rw [← Array.getElem?_toList]
          simp only [CS, Array.toList_append]
          rw [List.append_assoc, List.nil_append, List.getElem?_append_left hlt]; exact h1) (by rw [hsz, d3]; exact Nat.mul_le_mul_right _ (by omega)) (by simp)
        refine ⟨_, _, _, hrun, r', (Fr.drew m h w).trans f', ?_⟩
        have := VRel.new_slice m h.n w.heap.size CS.size (0 + k) i.size cap (by omega) (by omega)
        rw [Nat.zero_add] at this ⊢; exact this
      · cases he
    case slice o b base sz j len es cap hm hl hs =>
      split at he
      case h_2 => cases he
      rename_i cs g hg
      split at he
      case isFalse => cases he
      rename_i hc
      obtain ⟨ht, rfl, hfit, hbig, hlv, hall⟩ := hc
      cases he
      have hon := r.wf.ob _ _ hg
      have C := H.child_to ((cs.drop j).take (len * i.size) ++ new) hg ht hlv hfit hon
      have hrow : h.row o = some cs := by unfold H.row; rw [hg]; simp only; rw [if_pos hlv]
      by_cases hin : len + k ≤ cap
      · have hmul : (len + k) * i.size ≤ cap * i.size := Nat.mul_le_mul_right _ hin
        rw [Nat.add_mul] at hmul
        obtain ⟨r', f', hci, hcf⟩ := r.childIn C hm v1 (by rw [v3]; omega)
        have hst : (storeCells ((⟨b, base + j, none⟩ : Addr).add (len * i.size)) vs : Sem Unit).run P w = .ok () (w.setCells b (base + j + len * i.size) vs) := by
          rw [addr_add]
          have hone : ∀ q ∈ vs, q.oneCell' = true := v1.all_one hall
          exact run_storeCells_cells b (base + j + len * i.size) vs 0 w (by simpa using hci) (by simpa using hcf) hone
        refine ⟨_, _, _, run_append_in hu hi hd hdi (hkl w) v2 hin hst, r', f', ?_⟩
        have := VRel.slice (m := m.set h.n (b, base + j, sz)) (o := h.n) (b := b) (base := base + j) (sz := sz) 0 (len + k) i.size cap (by unfold M.set; rw [if_pos rfl]) hin (by omega)
        simpa using this
      · obtain ⟨olds, o1, o2, o3⟩ := sound_first (P := P) (k := len) (es := i.size) r.drew (.slice j len i.size cap hm hl hs) (new := (cs.drop j).take (len * i.size)) (by simp only [H.firstCells]; rw [if_pos ⟨trivial, Nat.le_refl _⟩, hrow]; simp only; rw [if_pos hfit])
        obtain ⟨ncap, hcap, hrun⟩ := run_append_new (ty := ty) hu hi hzv hb hd hdi hkl d2 o2 (by omega) hbig
        have dl := d1.len
        have ol := o1.len
        let CS : Array Value := (⟨olds⟩ : Array Value) ++ ⟨vsd⟩ ++ Builtin.zeroCells zv.cells (ncap - (len + k))
        have hsz : CS.size = ncap * i.size := by
          simp [CS, zeroCells_size, hzs]
          rw [← dl, d3, ← ol, o3, ← Nat.add_mul, ← Nat.add_mul]; congr 1; omega
        have hnl : ((cs.drop j).take (len * i.size) ++ new).length = (len + k) * i.size := by rw [List.length_append, o3, d3, Nat.add_mul]
        obtain ⟨r', f'⟩ := r.drew.childNew C (by rw [hm]; simp) CS e (0, 0) (fun q a hq => by
          obtain ⟨c, h1, h2⟩ := (o1.append d1).get q a hq
          refine ⟨c, ?_, h2⟩
          have hlt := (List.getElem?_eq_some_iff.1 h1).1
          rw [← Array.getElem?_toList]
          simp only [CS, Array.toList_append]
          rw [List.getElem?_append_left hlt]; exact h1) (by rw [hsz, hnl]; exact Nat.mul_le_mul_right _ hcap) (by simp)
        refine ⟨_, _, _, hrun, r', (Fr.drew m h w).trans f', ?_⟩
        exact VRel.new_slice m h.n w.heap.size CS.size (len + k) i.size ncap hcap (by omega)
    case slice0 o j es a q hm =>
      split at he
      case h_2 => cases he
      rename_i cs g hg
      split at he
      case isFalse => cases he
      rename_i hc
      obtain ⟨ht, rfl, hfit, hbig, hlv, hall⟩ := hc
      cases he
      have hon := r.wf.ob _ _ hg
      have C := H.child_to ((cs.drop j).take (0 * i.size) ++ new) hg ht hlv hfit hon
      have h00 : (Builtin.firstCells i.size 0 (.slice (some a) 0 0)).run P w.drew = .ok ⟨[]⟩ w.drew := by
        have := run_cells (P := P) w.drew a [] 0 rfl (by simp)
        simp [Builtin.firstCells, this]
      obtain ⟨ncap, hcap, hrun⟩ := run_append_new (ty := ty) hu hi hzv hb hd hdi hkl d2 h00 (by omega) hbig
      have dl := d1.len
      let CS : Array Value := (⟨[]⟩ : Array Value) ++ ⟨vsd⟩ ++ Builtin.zeroCells zv.cells (ncap - (0 + k))
      have hsz : CS.size = ncap * i.size := by
        simp [CS, zeroCells_size, hzs]
        rw [← dl, d3, ← Nat.add_mul]; congr 1; omega
      have hnl : ((cs.drop j).take (0 * i.size) ++ new) = new := by simp
      obtain ⟨r', f'⟩ := r.drew.childNew C (by rw [hm]; simp) CS e (0, 0) (fun q a hq => by
        rw [hnl] at hq
        obtain ⟨c, h1, h2⟩ := d1.get q a hq
        refine ⟨c, ?_, h2⟩
        have hlt := (List.getElem?_eq_some_iff.1 h1).1
        rw [← Array.getElem?_toList]
        simp only [CS, Array.toList_append]
        rw [List.append_assoc, List.nil_append, List.getElem?_append_left hlt]; exact h1) (by rw [hsz, hnl, d3]; exact Nat.mul_le_mul_right _ (by omega)) (by simp)
      refine ⟨_, _, _, hrun, r', (Fr.drew m h w).trans f', ?_⟩
      have := VRel.new_slice m h.n w.heap.size CS.size (0 + k) i.size ncap (by omega) (by omega)
      exact this
end
end Go.Proofs.YtgjcdpanabjcmaaGreatDoor.Ev

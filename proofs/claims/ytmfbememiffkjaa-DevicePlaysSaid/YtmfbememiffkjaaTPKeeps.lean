/- The law DeviceKeeps: what stays, by plain definition; a disk beside other things in memory. -/
import Derived.Test.YtmfbememiffkjaaTAct
namespace Go.Proofs.Ytmfbememiffkjaa.Ev.C
open Go Go.Proofs.Ytmfbememiffkjaa.Ev
set_option linter.unusedSimpArgs false
set_option linter.unusedVariables false
theorem getD_set {K : List Sec} {i j : Nat} {x : Sec} (hi : i < K.length) : (K.set j x).getD i [] = if j = i then x else K.getD i [] := by
  rw [List.getD_eq_getElem?_getD, List.getD_eq_getElem?_getD, List.getElem?_set]
  split
  · rename_i e; subst e; rw [if_pos hi]; rfl
  · rfl
theorem foldS_getD : ∀ {ws : List (Nat × Sec)} {K : List Sec} {i : Nat}, i < K.length → (ws.foldl putS K).getD i [] = match ws.reverse.find? (fun w => w.1 == i) with | some w => w.2 | none => K.getD i []
  | [], K, i, hi => rfl
  | w :: ws, K, i, hi => by
    rw [List.foldl_cons, foldS_getD (by rw [putS_len]; exact hi), List.reverse_cons, List.find?_append]
    cases hf : ws.reverse.find? (fun w => w.1 == i) with
    | some x => rfl
    | none =>
      simp only [Option.none_or, List.find?_cons, List.find?_nil]
      unfold putS
      rw [getD_set hi]
      by_cases e : w.1 = i
      · rw [if_pos e]; simp [e]
      · rw [if_neg e]
        have : (w.1 == i) = false := by simpa using e
        rw [this]
theorem keepAll_true : ∀ {ws : List (Nat × Sec)} {K : List Sec} {m : Nat}, ws.length ≤ m → keepAll K ws (List.replicate m true) = ws.foldl putS K
  | [], K, m, _ => by cases m <;> rfl
  | w :: ws, K, 0, h => by simp at h
  | w :: ws, K, m + 1, h => by
    rw [List.replicate_succ]
    simp only [keepAll, if_true, List.foldl_cons]
    exact keepAll_true (by simpa using h)
theorem keepAll_nil (K : List Sec) (ws : List (Nat × Sec)) : keepAll K ws [] = K := by cases ws <;> rfl
theorem keepAll_away : ∀ {ws : List (Nat × Sec)} {K : List Sec} {bs : List Bool} {i : Nat}, i < K.length → (∀ w ∈ ws, w.1 ≠ i) → (keepAll K ws bs).getD i [] = K.getD i []
  | [], K, bs, i, hi, _ => by cases bs <;> rfl
  | w :: ws, K, [], i, hi, _ => rfl
  | w :: ws, K, b :: bs, i, hi, h => by
    simp only [keepAll]
    cases b with
    | false => exact keepAll_away hi (fun x hx => h x (by simp [hx]))
    | true =>
      simp only [if_true]
      rw [keepAll_away (by rw [putS_len]; exact hi) (fun x hx => h x (by simp [hx]))]
      unfold putS
      rw [getD_set hi, if_neg (h w (by simp))]
theorem findS_no {D : Dk} (h : D.waits = []) (i : Nat) : findS D i = D.kept.getD i [] := by
  unfold findS; rw [h]; rfl
/-- a disk that lives -/
structure Live (n w : Nat) (D : Dk) : Prop where
  kl : D.kept.length = n
  wl : D.waits.length ≤ w
  ar : D.armed = 0
  de : D.dead = false
theorem Live.counted {n w : Nat} {D : Dk} (l : Live n w D) : D.counted = D := Dk.counted_zero l.ar
theorem Live.write {n w : Nat} {D : Dk} (l : Live n w D) (i : Int) (b : Sec) : Live n (w + 1) (D.write i b).1 ∧ (D.write i b).1.kept = D.kept ∧
    (((D.write i b).2 = 0 ∧ ∃ m : Nat, i = m ∧ m < n ∧ (D.write i b).1.waits = D.waits ++ [(m, pad b)]) ∨ ((D.write i b).2 = 1 ∧ (D.write i b).1 = D)) := by
  by_cases h : D.has i = false ∨ 64 < b.length
  · rw [Dk.write_bad h]
    exact ⟨⟨l.kl, by show D.waits.length ≤ _; have := l.wl; omega, l.ar, l.de⟩, rfl, .inr ⟨rfl, rfl⟩⟩
  · have hh : D.has i = true := by cases e : D.has i with
      | true => rfl
      | false => exact absurd (.inl e) h
    have hd : D.counted.dead = false := by rw [l.counted]; exact l.de
    rw [Dk.write_good hh (by omega) hd, l.counted]
    obtain ⟨m, rfl, hm⟩ := has_iff.1 hh
    exact ⟨⟨l.kl, by have := l.wl; simp; omega, l.ar, l.de⟩, rfl, .inl ⟨rfl, m, rfl, by rw [← l.kl]; exact hm, by rw [Int.toNat_natCast]⟩⟩
theorem Live.flush {n w : Nat} {D : Dk} (l : Live n w D) (ok : D.Ok) : Live n 0 D.flush.1 ∧ D.flush.1.waits = [] ∧ D.flush.2 = 0 := by
  have hd : D.counted.dead = false := by rw [l.counted]; exact l.de
  unfold Dk.flush
  rw [if_neg (by rw [hd]; simp), l.counted]
  refine ⟨⟨?_, by simp, l.ar, l.de⟩, rfl, rfl⟩
  have := (foldS_ok (ws := D.waits) ok.k64 (fun w hw => (ok.w w hw).2)).1
  simp only [this]
  exact l.kl
theorem Live.read {n w : Nat} {D : Dk} (l : Live n w D) {i : Nat} (hi : i < n) : D.read (i : Int) = (findS D i, 0) := by
  unfold Dk.read
  have hh : D.has (i : Int) = true := has_iff.2 ⟨i, rfl, by rw [l.kl]; exact hi⟩
  rw [if_neg (by rw [hh]; simp), if_neg (by rw [l.de]; simp), Int.toNat_natCast]
theorem Live.restart {n w : Nat} {D : Dk} (l : Live n w D) (ok : D.Ok) (bs : List Bool) : Live n 0 (D.restart bs) ∧ (D.restart bs).waits = [] := by
  refine ⟨⟨?_, by simp [Dk.restart], rfl, rfl⟩, rfl⟩
  have := (keepAll_ok (ws := D.waits) (bs := bs) ok.k64 (fun w hw => (ok.w w hw).2)).1
  simp only [Dk.restart, this]
  exact l.kl
theorem DiskAt.root {h : H} {o : Nat} {gs : List Nat} {D : Dk} (d : DiskAt h o gs D) : ∀ g ∈ gs, Root g h := by
  obtain ⟨_, _, _, d⟩ := d
  exact d.root
/-- another group is written: the disk stays -/
theorem DiskAt.apart {h h' : H} {o g : Nat} {gs : List Nat} {D : Dk} (d : DiskAt h o gs D) (wf : h.Wf) (hg : g ∉ gs) (hr : Root g h) (k : KeepA [g] h h') : DiskAt h' o gs D := by
  obtain ⟨gk, kv, wv, d⟩ := d
  have hr' : ∀ x ∈ [g], Root x h := by simpa using hr
  obtain ⟨s1, s2, s3, m1, m2⟩ := d.away wf
  have ne1 : gk ∉ [g] := by simp only [List.mem_cons, List.not_mem_nil, or_false]; intro e; subst e; exact hg m2
  have ne2 : o ∉ [g] := by simp only [List.mem_cons, List.not_mem_nil, or_false]; intro e; subst e; exact hg m1
  have sk := d.kg.away wf ne1 hr'
  rcases d.wg with ⟨rfl, e⟩ | ⟨gw, a1, a2, a3, e⟩
  · exact ⟨gk, kv, _, ⟨d.box.keepA wf k ne2, d.ks.keep k sk, d.kg.keep sk k, d.ws.keep k trivial, d.ne, .inl ⟨rfl, e⟩, d.ok⟩⟩
  · have ne3 : gw ∉ [g] := by simp only [List.mem_cons, List.not_mem_nil, or_false]; intro e'; subst e'; exact hg (by rw [e]; simp)
    have sw := a3.away wf ne3 hr'
    exact ⟨gk, kv, wv, ⟨d.box.keepA wf k ne2, d.ks.keep k sk, d.kg.keep sk k, d.ws.keep k sw, d.ne, .inr ⟨gw, a1, a2, a3.keep sw k, e⟩, d.ok⟩⟩
theorem make_bools {h : H} (wf : h.Wf) {k : Nat} (hk : k ≤ 1000000) :
    ∃ h', makeSliceA h 1 1 [.bool false] (.int .i64 (k : Int)) (.int .i64 (k : Int)) = some (.slice h.n 0 k 1, h') ∧ Bools h' (.slice h.n 0 k 1) (List.replicate k false) ∧ Grp h.n h' (.slice h.n 0 k 1) ∧ Keep (Old h.n) h h' ∧ h'.n = h.n + 1 := by
  have hz : zeros [AV.bool false] (k * 1) = List.replicate k (AV.bool false) := by rw [Nat.mul_one]; exact zeros_rep _ 1 k (by decide)
  have b1 : Box h.n (List.replicate k (AV.bool false)) (h.new (List.replicate k (AV.bool false))) := Box.new wf _
  refine ⟨h.new (List.replicate k (AV.bool false)), ?_, ?_, ⟨_, b1.get, b1.tip, b1.live, by simp, _, b1.get⟩, Keep.new (Nat.le_refl _) _, rfl⟩
  · unfold makeSliceA
    simp only
    rw [if_pos ⟨by omega, Int.le_refl _, by omega, by omega⟩, Int.toNat_natCast, hz]
  · have := Sl.new (es := 1) (n := k) wf (vs := List.replicate k (AV.bool false)) (by simp)
    rw [List.take_of_length_le (by simp)] at this
    show Sl _ 1 _ (List.replicate k false).length _
    simpa using this
theorem Bools.put {h : H} (wf : h.Wf) {v : AV} {l : List Bool} {g : Nat} (b : Bools h v l) (o : Grp g h v) {i : Nat} (hi : i < l.length) (x : Bool) :
    ∃ p h', indexAddrA 1 v (.int .i64 (i : Int)) = some p ∧ storeA h 1 p (.bool x) = some h' ∧ Bools h' v (l.set i x) ∧ Grp g h' v ∧ KeepA [g] h h' := by
  obtain ⟨p, e, f⟩ := Grp.put wf b o hi (by decide) .i64 (new := [.bool x]) rfl rfl
  obtain ⟨h', e1, s1, g1, k1⟩ := f (.bool x) rfl
  refine ⟨p, h', e, e1, ?_, g1, k1⟩
  have hs : splice (l.map AV.bool) (i * 1) [AV.bool x] = (l.set i x).map AV.bool := by
    rw [Nat.mul_one, List.map_set]
    simp only [splice]
    rw [List.set_eq_take_append_cons_drop, if_pos (by simpa using hi)]
    simp
  rw [hs] at s1
  show Sl h' 1 v (l.set i x).length _
  rw [List.length_set]
  exact s1
end Go.Proofs.Ytmfbememiffkjaa.Ev.C

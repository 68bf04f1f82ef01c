/- Acts in memory; few of them. -/
import Derived.Test.YtmfbememiffkjaaTDevC
import Derived.Test.YtmfbememiffkjaaEv30
namespace Go.Proofs.Ytmfbememiffkjaa.Ev.C
open Go Go.Proofs.Ytmfbememiffkjaa.Ev
set_option linter.unusedSimpArgs false
set_option linter.unusedVariables false
theorem bytesR_get {h : H} {u : AV} {bs : List UInt8} (r : BytesR h [u] bs) : Bytes h u bs ∧ Slot (Old h.n) h u := by
  obtain ⟨v, e, b, sl, _⟩ := r
  cases e
  exact ⟨b, sl⟩
theorem boolsR_get {h : H} {u : AV} {bs : List Bool} (r : BoolsR h [u] bs) : Bools h u bs ∧ Slot (Old h.n) h u := by
  obtain ⟨v, e, b, sl, _⟩ := r
  cases e
  exact ⟨b, sl⟩
structure Act where
  kind : Nat
  at' : Int
  b : List UInt8
  keep : List Bool
def ActR (h : H) (us : List AV) (a : Act) : Prop :=
  ∃ ub uk, us = [.int .u8 (a.kind : Int), .int .i64 a.at', ub, uk] ∧ BytesR h [ub] a.b ∧ BoolsR h [uk] a.keep ∧ a.kind < 256 ∧ -9223372036854775808 ≤ a.at' ∧ a.at' < 9223372036854775808
theorem ActR.stab (h h' : H) (us : List AV) (a : Act) (r : ActR h us a) (k : Keep (Old h.n) h h') : ActR h' us a := by
  obtain ⟨ub, uk, e, rb, rk, w⟩ := r
  exact ⟨ub, uk, e, BytesR.stab _ _ _ _ rb k, BoolsR.stab _ _ _ _ rk k, w⟩
theorem ActR.conv (h : H) (us : List AV) (a : Int × Int × List UInt8 × List Bool × Unit)
    (r : ∃ u1 u2, us = u1 ++ u2 ∧ u1.length = 1 ∧ (u1 = [.int .u8 a.1] ∧ (Lit.int .u8 a.1).wf = true) ∧ ∃ u3 u4, u2 = u3 ++ u4 ∧ u3.length = 1 ∧ (u3 = [.int .i64 a.2.1] ∧ (Lit.int .i64 a.2.1).wf = true) ∧
      ∃ u5 u6, u4 = u5 ++ u6 ∧ u5.length = 1 ∧ BytesR h u5 a.2.2.1 ∧ ∃ u7 u8, u6 = u7 ++ u8 ∧ u7.length = 1 ∧ BoolsR h u7 a.2.2.2.1 ∧ u8 = []) : ∃ b, ActR h us b := by
  obtain ⟨u1, u2, rfl, -, ⟨rfl, w1⟩, u3, u4, rfl, -, ⟨rfl, w2⟩, u5, u6, rfl, h5, r5, u7, u8, rfl, h7, r7, rfl⟩ := r
  obtain ⟨k, hk1, hk2⟩ : ∃ k : Nat, a.1 = k ∧ k < 256 := by
    obtain ⟨x, y⟩ := u8_arg w1
    exact ⟨a.1.toNat, by omega, by omega⟩
  obtain ⟨x, y⟩ := i64_arg w2
  match u5, h5 with
  | [ub], _ =>
    match u7, h7 with
    | [uk], _ => exact ⟨⟨k, a.2.1, a.2.2.1, a.2.2.2.1⟩, ub, uk, by rw [hk1]; rfl, r5, r7, hk2, x, y⟩
def fewA (a : Act) : Bool := decide (a.b.length ≤ 80) && decide (a.keep.length ≤ 60)
def few (al : List Act) : Bool := al.all fewA && decide (al.length ≤ 60)
theorem few_of {al : List Act} (h : few al = true) : al.length ≤ 60 ∧ ∀ a ∈ al, a.b.length ≤ 80 ∧ a.keep.length ≤ 60 := by
  simpa [few, fewA, and_comm] using h
/-- an act's cells -/
theorem acts_get {h : H} {v : AV} {al : List Act} (s : SliceR 4 ActR h [v] al) {i : Nat} (hi : i < al.length) :
    ∃ o q ub uk, indexAddrA 4 v (.int .i64 (i : Int)) = some (.ptr o q) ∧ (Bytes h ub al[i].b ∧ Slot (Old h.n) h ub) ∧ (Bools h uk al[i].keep ∧ Slot (Old h.n) h uk) ∧
      (al[i].kind < 256 ∧ -9223372036854775808 ≤ al[i].at' ∧ al[i].at' < 9223372036854775808) ∧
      ∀ h', Keep (Old h.n) h h' → loadA h' false 1 (.ptr o (q + 0)) = some (.int .u8 (al[i].kind : Int)) ∧ loadA h' false 1 (.ptr o (q + 1)) = some (.int .i64 al[i].at') ∧ loadA h' false 1 (.ptr o (q + 2)) = some ub ∧ loadA h' false 1 (.ptr o (q + 3)) = some uk := by
  obtain ⟨o, q, us, e, hl, ⟨ub, uk, rfl, rb, rk, w⟩, ld⟩ := s.get (by decide) hi .i64
  exact ⟨o, q, ub, uk, e, bytesR_get rb, boolsR_get rk, w, fun h' k => ⟨ld h' k 0 _ rfl, ld h' k 1 _ rfl, ld h' k 2 _ rfl, ld h' k 3 _ rfl⟩⟩
theorem few_spec {h : H} {v : AV} {al : List Act} (s : SliceR 4 ActR h [v] al) : WCall E0 14 [v] h fun r h' => h' = h ∧ r = .val (.bool (few al)) := by
  refine WCall_ws (ovn 14) U14 (by simp [f14_a]) ?_
  show WS E0 f14_c [] _ _ _
  have hlen := s.len
  have hmax : al.length < 9223372036854775808 := by have := hlen.2; unfold maxLen at this; omega
  refine WS_of_seq (WS_of_ops ?_)
  simp only [f14_r0, go_sem, ↓reduceIte]
  refine WS_of_seq (WS_of_seq (WS_of_ops ?_))
  simp only [f14_r1, go_sem, ↓reduceIte, Nat.reduceEqDiff]
  refine WS_of_block (WS_of_loop (fun m s h' => ∃ j, j + m = al.length ∧ s 3 = .int .i64 (j : Int) ∧ s 0 = v ∧ h' = h ∧ (al.take j).all fewA = true) ?_ al.length ?_)
  · rintro m s' h' ⟨j, hjm, s3, s0, rfl, hall⟩
    show WS E0 f14_l6 [] _ _ _
    refine WS_of_seq (WS_of_seq (WS_of_ops ?_))
    by_cases c : j < al.length
    · have c' : (j : Int) < (al.length : Int) := by omega
      simp only [f14_r2, go_sem, ↓reduceIte, Nat.reduceEqDiff, s3, s0, hlen.1, c', decide_true]
      refine WS_of_cond ?_
      simp only [go_sem, ↓reduceIte]
      refine WS_of_skip ?_
      simp only [go_sem]
      obtain ⟨o, q, ub, uk, e, ⟨bb, _⟩, ⟨bk, _⟩, w, ld⟩ := acts_get s c
      obtain ⟨ld0, ld1, ld2, ld3⟩ := ld h' (Keep.refl _ _)
      refine WS_of_seq (WS_of_block (WS_of_seq (WS_of_ops ?_)))
      have bad : fewA al[j] = false → ∀ {s : S}, WS E0 (.seq (.ops f14_r4) .ret) [] (atEnd f14_a.results fun r x => x = h' ∧ r = .val (.bool (few al))) s h' := by
        intro hb s
        have hf : few al = false := by
          unfold few
          rw [Bool.and_eq_false_iff]
          refine .inl ?_
          rw [List.all_eq_false]
          exact ⟨_, List.getElem_mem c, by simp [hb]⟩
        refine WS_of_seq (WS_of_ops ?_)
        simp only [f14_r4, go_sem, ↓reduceIte, Nat.reduceEqDiff]
        refine WS_of_ret ?_
        simp only [f14_a, go_sem, ↓reduceIte, Nat.reduceEqDiff]
        exact ⟨trivial, by rw [hf]⟩
      by_cases c1 : 80 < al[j].b.length
      · have c1' : (80 : Int) < (al[j].b.length : Int) := by omega
        simp only [f14_r3, go_sem, ↓reduceIte, Nat.reduceEqDiff, s3, s0, e, ld2, bb.len, c1', decide_true, Bool.true_eq_false]
        refine WS_of_cond ?_
        simp only [go_sem, ↓reduceIte]
        have hf : few al = false := by
          unfold few
          rw [Bool.and_eq_false_iff]
          refine .inl ?_
          rw [List.all_eq_false]
          exact ⟨_, List.getElem_mem c, by simp [fewA, c1]; omega⟩
        refine WS_of_seq (WS_of_ops ?_)
        simp only [f14_r4, go_sem, ↓reduceIte, Nat.reduceEqDiff]
        refine WS_of_ret ?_
        simp only [f14_a, go_sem, ↓reduceIte, Nat.reduceEqDiff, hf]
        exact ⟨trivial, trivial⟩
      · have c1' : ¬ (80 : Int) < (al[j].b.length : Int) := by omega
        by_cases c2 : 60 < al[j].keep.length
        · have c2' : (60 : Int) < (al[j].keep.length : Int) := by omega
          simp only [f14_r3, go_sem, ↓reduceIte, Nat.reduceEqDiff, s3, s0, e, ld2, ld3, bb.len, bk.len, c1', c2', decide_true, decide_false, Bool.false_eq_true]
          refine WS_of_cond ?_
          simp only [go_sem, ↓reduceIte]
          have hf : few al = false := by
            unfold few
            rw [Bool.and_eq_false_iff]
            refine .inl ?_
            rw [List.all_eq_false]
            exact ⟨_, List.getElem_mem c, by simp [fewA, c2]⟩
          refine WS_of_seq (WS_of_ops ?_)
          simp only [f14_r4, go_sem, ↓reduceIte, Nat.reduceEqDiff]
          refine WS_of_ret ?_
          simp only [f14_a, go_sem, ↓reduceIte, Nat.reduceEqDiff, hf]
          exact ⟨trivial, trivial⟩
        · have c2' : ¬ (60 : Int) < (al[j].keep.length : Int) := by omega
          simp only [f14_r3, go_sem, ↓reduceIte, Nat.reduceEqDiff, s3, s0, e, ld2, ld3, bb.len, bk.len, c1', c2', decide_false, Bool.false_eq_true]
          refine WS_of_cond ?_
          simp only [go_sem, ↓reduceIte, Bool.false_eq_true]
          refine WS_of_skip ?_
          simp only [go_sem]
          refine WS_of_ops ?_
          have hw : IntKind.i64.wrap ((j : Int) + 1) = ((j + 1 : Nat) : Int) := by rw [wrap_i64 (by omega) (by omega)]; omega
          simp only [f14_r5, go_sem, ↓reduceIte, Nat.reduceEqDiff, s3, hw]
          refine ⟨m - 1, by omega, j + 1, by omega, rfl, s0, trivial, ?_⟩
          rw [← List.take_append_getElem c, List.all_append, hall]
          simp [fewA]
          omega
    · have c' : ¬ (j : Int) < (al.length : Int) := by omega
      simp only [f14_r2, go_sem, ↓reduceIte, Nat.reduceEqDiff, s3, s0, hlen.1, c', decide_false]
      refine WS_of_cond ?_
      simp only [go_sem, ↓reduceIte, Bool.false_eq_true]
      refine WS_of_exit ?_
      simp only [go_sem, ↓reduceIte]
      refine WS_of_seq (WS_of_ops ?_)
      simp only [f14_r7, go_sem, ↓reduceIte, Nat.reduceEqDiff, s0, hlen.1]
      refine WS_of_ret ?_
      simp only [f14_a, go_sem, ↓reduceIte, Nat.reduceEqDiff]
      obtain rfl : j = al.length := by omega
      rw [List.take_length] at hall
      refine ⟨trivial, ?_⟩
      unfold few
      rw [hall]
      simp
      omega
  · exact ⟨0, by omega, rfl, rfl, rfl, by simp⟩
end Go.Proofs.Ytmfbememiffkjaa.Ev.C

/- The law DeviceKeeps: what stays, by plain definition; a disk beside other things in memory. -/
namespace Go.Proofs.Ytmfbememiffkjaa.Ev.C
open Go Go.Proofs.Ytmfbememiffkjaa.Ev
set_option linter.unusedSimpArgs false
set_option linter.unusedVariables false
theorem getD_set {K : List Sec} {i j : Nat} {x : Sec} (hi : i < K.length) : (K.set j x).getD i [] = if j = i then x else K.getD i [] := by
  rw [List.getD_eq_getElem?_getD, List.getD_eq_getElem?_getD, List.getElem?_set]
  split
  · rename_i e; subst e; rw [if_pos hi]; rfl
  · rfl
theorem foldS_getD : ∀ {ws : List (Nat × Sec)} {K : List Sec} {i : Nat}, i < K.length → (ws.foldl putS K).getD i [] = match ws.reverse.find? (fun w => w.1 == i) with | some w => w.2 | none => K.getD i []
  | [], K, i, hi => rfl
  | w :: ws, K, i, hi => by
    rw [List.foldl_cons, foldS_getD (by rw [putS_len]; exact hi), List.reverse_cons, List.find?_append]
    cases hf : ws.reverse.find? (fun w => w.1 == i) with
    | some x => rfl
    | none =>
      simp only [Option.none_or, List.find?_cons, List.find?_nil]
      unfold putS
      rw [getD_set hi]
      by_cases e : w.1 = i
      · rw [if_pos e]; simp [e]
      · rw [if_neg e]
        have : (w.1 == i) = false := by simpa using e
        rw [this]
theorem keepAll_true : ∀ {ws : List (Nat × Sec)} {K : List Sec} {m : Nat}, ws.length ≤ m → keepAll K ws (List.replicate m true) = ws.foldl putS K
  | [], K, m, _ => by cases m <;> rfl
  | w :: ws, K, 0, h => by simp at h
  | w :: ws, K, m + 1, h => by
    rw [List.replicate_succ]
    simp only [keepAll, if_true, List.foldl_cons]
    exact keepAll_true (by simpa using h)
theorem keepAll_nil (K : List Sec) (ws : List (Nat × Sec)) : keepAll K ws [] = K := by cases ws <;> rfl
theorem keepAll_away : ∀ {ws : List (Nat × Sec)} {K : List Sec} {bs : List Bool} {i : Nat}, i < K.length → (∀ w ∈ ws, w.1 ≠ i) → (keepAll K ws bs).getD i [] = K.getD i []
  | [], K, bs, i, hi, _ => by cases bs <;> rfl
  | w :: ws, K, [], i, hi, _ => rfl
  | w :: ws, K, b :: bs, i, hi, h => by
    simp only [keepAll]
    cases b with
    | false => exact keepAll_away hi (fun x hx => h x (by simp [hx]))
    | true =>
      simp only [if_true]
      rw [keepAll_away (by rw [putS_len]; exact hi) (fun x hx => h x (by simp [hx]))]
      unfold putS
      rw [getD_set hi, if_neg (h w (by simp))]
theorem findS_no {D : Dk} (h : D.waits = []) (i : Nat) : findS D i = D.kept.getD i [] := by
  unfold findS; rw [h]; rfl
/-- a disk that lives -/
structure Live (n w : Nat) (D : Dk) : Prop where
  kl : D.kept.length = n
  wl : D.waits.length ≤ w
  ar : D.armed = 0
  de : D.dead = false
theorem Live.counted {n w : Nat} {D : Dk} (l : Live n w D) : D.counted = D := Dk.counted_zero l.ar
theorem Live.write {n w : Nat} {D : Dk} (l : Live n w D) (i : Int) (b : Sec) : Live n (w + 1) (D.write i b).1 ∧ (D.write i b).1.kept = D.kept ∧
    (((D.write i b).2 = 0 ∧ ∃ m : Nat, i = m ∧ m < n ∧ (D.write i b).1.waits = D.waits ++ [(m, pad b)]) ∨ ((D.write i b).2 = 1 ∧ (D.write i b).1 = D)) := by
  by_cases h : D.has i = false ∨ 64 < b.length
  · rw [Dk.write_bad h]
    exact ⟨⟨l.kl, by show D.waits.length ≤ _; have := l.wl; omega, l.ar, l.de⟩, rfl, .inr ⟨rfl, rfl⟩⟩
  · have hh : D.has i = true := by cases e : D.has i with
      | true => rfl
      | false => exact absurd (.inl e) h
    have hd : D.counted.dead = false := by rw [l.counted]; exact l.de
    rw [Dk.write_good hh (by omega) hd, l.counted]
    obtain ⟨m, rfl, hm⟩ := has_iff.1 hh
    exact ⟨⟨l.kl, by have := l.wl; simp; omega, l.ar, l.de⟩, rfl, .inl ⟨rfl, m, rfl, by rw [← l.kl]; exact hm, by rw [Int.toNat_natCast]⟩⟩
theorem Live.flush {n w : Nat} {D : Dk} (l : Live n w D) (ok : D.Ok) : Live n 0 D.flush.1 ∧ D.flush.1.waits = [] ∧ D.flush.2 = 0 := by
  have hd : D.counted.dead = false := by rw [l.counted]; exact l.de
  unfold Dk.flush
  rw [if_neg (by rw [hd]; simp), l.counted]
  refine ⟨⟨?_, by simp, l.ar, l.de⟩, rfl, rfl⟩
  have := (foldS_ok (ws := D.waits) ok.k64 (fun w hw => (ok.w w hw).2)).1
  simp only [this]
  exact l.kl
theorem Live.read {n w : Nat} {D : Dk} (l : Live n w D) {i : Nat} (hi : i < n) : D.read (i : Int) = (findS D i, 0) := by
  unfold Dk.read
  have hh : D.has (i : Int) = true := has_iff.2 ⟨i, rfl, by rw [l.kl]; exact hi⟩
  rw [if_neg (by rw [hh]; simp), if_neg (by rw [l.de]; simp), Int.toNat_natCast]
theorem Live.restart {n w : Nat} {D : Dk} (l : Live n w D) (ok : D.Ok) (bs : List Bool) : Live n 0 (D.restart bs) ∧ (D.restart bs).waits = [] := by
  refine ⟨⟨?_, by simp [Dk.restart], rfl, rfl⟩, rfl⟩
  have := (keepAll_ok (ws := D.waits) (bs := bs) ok.k64 (fun w hw => (ok.w w hw).2)).1
  simp only [Dk.restart, this]
  exact l.kl
theorem DiskAt.root {h : H} {o : Nat} {gs : List Nat} {D : Dk} (d : DiskAt h o gs D) : ∀ g ∈ gs, Root g h := by
  obtain ⟨_, _, _, d⟩ := d
  exact d.root
/-- another group is written: the disk stays -/
theorem DiskAt.apart {h h' : H} {o g : Nat} {gs : List Nat} {D : Dk} (d : DiskAt h o gs D) (wf : h.Wf) (hg : g ∉ gs) (hr : Root g h) (k : KeepA [g] h h') : DiskAt h' o gs D := by
  obtain ⟨gk, kv, wv, d⟩ := d
  have hr' : ∀ x ∈ [g], Root x h := by simpa using hr
  obtain ⟨s1, s2, s3, m1, m2⟩ := d.away wf
  have ne1 : gk ∉ [g] := by simp only [List.mem_cons, List.not_mem_nil, or_false]; intro e; subst e; exact hg m2
  have ne2 : o ∉ [g] := by simp only [List.mem_cons, List.not_mem_nil, or_false]; intro e; subst e; exact hg m1
  have sk := d.kg.away wf ne1 hr'
  rcases d.wg with ⟨rfl, e⟩ | ⟨gw, a1, a2, a3, e⟩
  · exact ⟨gk, kv, _, ⟨d.box.keepA wf k ne2, d.ks.keep k sk, d.kg.keep sk k, d.ws.keep k trivial, d.ne, .inl ⟨rfl, e⟩, d.ok⟩⟩
  · have ne3 : gw ∉ [g] := by simp only [List.mem_cons, List.not_mem_nil, or_false]; intro e'; subst e'; exact hg (by rw [e]; simp)
    have sw := a3.away wf ne3 hr'
    exact ⟨gk, kv, wv, ⟨d.box.keepA wf k ne2, d.ks.keep k sk, d.kg.keep sk k, d.ws.keep k sw, d.ne, .inr ⟨gw, a1, a2, a3.keep sw k, e⟩, d.ok⟩⟩
theorem make_bools {h : H} (wf : h.Wf) {k : Nat} (hk : k ≤ 1000000) :
    ∃ h', makeSliceA h 1 1 [.bool false] (.int .i64 (k : Int)) (.int .i64 (k : Int)) = some (.slice h.n 0 k 1, h') ∧ Bools h' (.slice h.n 0 k 1) (List.replicate k false) ∧ Grp h.n h' (.slice h.n 0 k 1) ∧ Keep (Old h.n) h h' ∧ h'.n = h.n + 1 := by
  have hz : zeros [AV.bool false] (k * 1) = List.replicate k (AV.bool false) := by rw [Nat.mul_one]; exact zeros_rep _ 1 k (by decide)
  have b1 : Box h.n (List.replicate k (AV.bool false)) (h.new (List.replicate k (AV.bool false))) := Box.new wf _
  refine ⟨h.new (List.replicate k (AV.bool false)), ?_, ?_, ⟨_, b1.get, b1.tip, b1.live, by simp, _, b1.get⟩, Keep.new (Nat.le_refl _) _, rfl⟩
  · unfold makeSliceA
    simp only
    rw [if_pos ⟨by omega, Int.le_refl _, by omega, by omega⟩, Int.toNat_natCast, hz]
  · have := Sl.new (es := 1) (n := k) wf (vs := List.replicate k (AV.bool false)) (by simp)
    rw [List.take_of_length_le (by simp)] at this
    show Sl _ 1 _ (List.replicate k false).length _
    simpa using this
theorem Bools.put {h : H} (wf : h.Wf) {v : AV} {l : List Bool} {g : Nat} (b : Bools h v l) (o : Grp g h v) {i : Nat} (hi : i < l.length) (x : Bool) :
    ∃ p h', indexAddrA 1 v (.int .i64 (i : Int)) = some p ∧ storeA h 1 p (.bool x) = some h' ∧ Bools h' v (l.set i x) ∧ Grp g h' v ∧ KeepA [g] h h' := by
  obtain ⟨p, e, f⟩ := Grp.put wf b o hi (by decide) .i64 (new := [.bool x]) rfl rfl
  obtain ⟨h', e1, s1, g1, k1⟩ := f (.bool x) rfl
  refine ⟨p, h', e, e1, ?_, g1, k1⟩
  have hs : splice (l.map AV.bool) (i * 1) [AV.bool x] = (l.set i x).map AV.bool := by
    rw [Nat.mul_one, List.map_set]
    simp only [splice]
    rw [List.set_eq_take_append_cons_drop, if_pos (by simpa using hi)]
    simp
  rw [hs] at s1
  show Sl h' 1 v (l.set i x).length _
  rw [List.length_set]
  exact s1
theorem write_len (D : Dk) (i : Int) (b : Sec) : (D.write i b).1.kept.length = D.kept.length ∧ (D.write i b).1.waits.length ≤ D.waits.length + 1 := by
  unfold Dk.write
  split
  · exact ⟨rfl, by simp only; omega⟩
  split
  · exact ⟨by rw [Dk.counted_kept], by rw [Dk.counted_waits]; omega⟩
  · exact ⟨by simp only; rw [Dk.counted_kept], by simp only [List.length_append, Dk.counted_waits]; simp⟩
theorem flush_len {D : Dk} (ok : D.Ok) : D.flush.1.kept.length = D.kept.length ∧ D.flush.1.waits.length ≤ D.waits.length := by
  unfold Dk.flush
  split
  · exact ⟨by rw [Dk.counted_kept], by rw [Dk.counted_waits]; exact Nat.le_refl _⟩
  · refine ⟨?_, by simp⟩
    have := (foldS_ok (ws := D.counted.waits) ok.counted.k64 (fun w hw => (ok.counted.w w hw).2)).1
    show (D.counted.waits.foldl putS D.counted.kept).length = _
    rw [this, Dk.counted_kept]
theorem arm_len (D : Dk) (n : Int) : (D.arm n).kept.length = D.kept.length ∧ (D.arm n).waits.length = D.waits.length := by
  unfold Dk.arm; split <;> exact ⟨rfl, rfl⟩
theorem restart_len {D : Dk} (ok : D.Ok) (bs : List Bool) : (D.restart bs).kept.length = D.kept.length ∧ (D.restart bs).waits.length = 0 :=
  ⟨(keepAll_ok (ws := D.waits) (bs := bs) ok.k64 (fun w hw => (ok.w w hw).2)).1, rfl⟩
end Go.Proofs.Ytmfbememiffkjaa.Ev.C

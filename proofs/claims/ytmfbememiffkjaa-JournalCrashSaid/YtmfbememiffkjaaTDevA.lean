/- A disk, by plain definition; a disk in memory; its small functions, walked. -/
import Derived.Test.YtmfbememiffkjaaCode
import Derived.Test.YtmfbememiffkjaaEvL3
namespace Go.Proofs.Ytmfbememiffkjaa.Ev.C
open Go Go.Proofs.Ytmfbememiffkjaa.Ev
set_option linter.unusedSimpArgs false
set_option linter.unusedVariables false
def yes : List AV → H → Option (AOut × H) := fun args h => match args with | [] => some (.val (.bool true), h) | _ => none
def ov0 : Ovs := fun f => if f = 13 then some yes else if f = 30 then some yes else none
noncomputable def E0 : Env := ⟨TT, ov0⟩
theorem ovn (f : Nat) (h : (f == 13 || f == 30) = false := by decide) : E0.ov f = none := by
  simp only [Bool.or_eq_false_iff, beq_eq_false_iff_ne] at h
  show ov0 f = none
  unfold ov0
  rw [if_neg h.1, if_neg h.2]

theorem E0T (i : Nat) : E0.T i = TT i := rfl
theorem U3 : E0.T 3 = some f3_a := (E0T 3).trans T3
theorem U4 : E0.T 4 = some f4_a := (E0T 4).trans T4
theorem U5 : E0.T 5 = some f5_a := (E0T 5).trans T5
theorem U6 : E0.T 6 = some f6_a := (E0T 6).trans T6
theorem U7 : E0.T 7 = some f7_a := (E0T 7).trans T7
theorem U8 : E0.T 8 = some f8_a := (E0T 8).trans T8
theorem U9 : E0.T 9 = some f9_a := (E0T 9).trans T9
theorem U10 : E0.T 10 = some f10_a := (E0T 10).trans T10
theorem U11 : E0.T 11 = some f11_a := (E0T 11).trans T11
theorem U12 : E0.T 12 = some f12_a := (E0T 12).trans T12
theorem U14 : E0.T 14 = some f14_a := (E0T 14).trans T14
theorem U15 : E0.T 15 = some f15_a := (E0T 15).trans T15
theorem U16 : E0.T 16 = some f16_a := (E0T 16).trans T16
theorem U17 : E0.T 17 = some f17_a := (E0T 17).trans T17
theorem U18 : E0.T 18 = some f18_a := (E0T 18).trans T18
theorem U19 : E0.T 19 = some f19_a := (E0T 19).trans T19
theorem U20 : E0.T 20 = some f20_a := (E0T 20).trans T20
theorem U21 : E0.T 21 = some f21_a := (E0T 21).trans T21
theorem U22 : E0.T 22 = some f22_a := (E0T 22).trans T22
theorem U23 : E0.T 23 = some f23_a := (E0T 23).trans T23
theorem U24 : E0.T 24 = some f24_a := (E0T 24).trans T24
theorem U25 : E0.T 25 = some f25_a := (E0T 25).trans T25
theorem U26 : E0.T 26 = some f26_a := (E0T 26).trans T26
theorem U27 : E0.T 27 = some f27_a := (E0T 27).trans T27
theorem U28 : E0.T 28 = some f28_a := (E0T 28).trans T28
theorem U29 : E0.T 29 = some f29_a := (E0T 29).trans T29
theorem U31 : E0.T 31 = some f31_a := (E0T 31).trans T31
theorem U32 : E0.T 32 = some f32_a := (E0T 32).trans T32
theorem U33 : E0.T 33 = some f33_a := (E0T 33).trans T33
theorem U34 : E0.T 34 = some f34_a := (E0T 34).trans T34
theorem U35 : E0.T 35 = some f35_a := (E0T 35).trans T35
theorem U36 : E0.T 36 = some f36_a := (E0T 36).trans T36
theorem U37 : E0.T 37 = some f37_a := (E0T 37).trans T37
theorem U38 : E0.T 38 = some f38_a := (E0T 38).trans T38
theorem U39 : E0.T 39 = some f39_a := (E0T 39).trans T39
theorem U40 : E0.T 40 = some f40_a := (E0T 40).trans T40
theorem U41 : E0.T 41 = some f41_a := (E0T 41).trans T41
theorem U42 : E0.T 42 = some f42_a := (E0T 42).trans T42
theorem U43 : E0.T 43 = some f43_a := (E0T 43).trans T43
theorem U44 : E0.T 44 = some f44_a := (E0T 44).trans T44
theorem U45 : E0.T 45 = some f45_a := (E0T 45).trans T45
theorem U46 : E0.T 46 = some f46_a := (E0T 46).trans T46
theorem U47 : E0.T 47 = some f47_a := (E0T 47).trans T47
theorem U48 : E0.T 48 = some f48_a := (E0T 48).trans T48
theorem U49 : E0.T 49 = some f49_a := (E0T 49).trans T49
theorem U50 : E0.T 50 = some f50_a := (E0T 50).trans T50
theorem U51 : E0.T 51 = some f51_a := (E0T 51).trans T51
theorem U52 : E0.T 52 = some f52_a := (E0T 52).trans T52
theorem U53 : E0.T 53 = some f53_a := (E0T 53).trans T53
theorem U54 : E0.T 54 = some f54_a := (E0T 54).trans T54
theorem U55 : E0.T 55 = some f55_a := (E0T 55).trans T55
theorem U56 : E0.T 56 = some f56_a := (E0T 56).trans T56
theorem U57 : E0.T 57 = some f57_a := (E0T 57).trans T57
theorem U58 : E0.T 58 = some f58_a := (E0T 58).trans T58
theorem U59 : E0.T 59 = some f59_a := (E0T 59).trans T59
theorem U60 : E0.T 60 = some f60_a := (E0T 60).trans T60
theorem U61 : E0.T 61 = some f61_a := (E0T 61).trans T61
theorem U62 : E0.T 62 = some f62_a := (E0T 62).trans T62
theorem U63 : E0.T 63 = some f63_a := (E0T 63).trans T63
theorem U64 : E0.T 64 = some f64_a := (E0T 64).trans T64
theorem U65 : E0.T 65 = some f65_a := (E0T 65).trans T65
theorem U66 : E0.T 66 = some f66_a := (E0T 66).trans T66
theorem U67 : E0.T 67 = some f67_a := (E0T 67).trans T67
theorem U68 : E0.T 68 = some f68_a := (E0T 68).trans T68
theorem U69 : E0.T 69 = some f69_a := (E0T 69).trans T69
theorem U70 : E0.T 70 = some f70_a := (E0T 70).trans T70
theorem U71 : E0.T 71 = some f71_a := (E0T 71).trans T71
theorem U72 : E0.T 72 = some f72_a := (E0T 72).trans T72

/-! ### by plain definition -/
abbrev Sec := List UInt8
structure Dk where
  kept : List Sec
  waits : List (Nat × Sec)
  armed : Nat
  dead : Bool
def pad (b : Sec) : Sec := b ++ List.replicate (64 - b.length) 0
def Dk.new (n : Nat) : Dk := ⟨List.replicate n (List.replicate 64 0), [], 0, false⟩
def Dk.counted (D : Dk) : Dk := if 0 < D.armed then { D with armed := D.armed - 1, dead := decide (D.armed = 1) } else D
def Dk.has (D : Dk) (i : Int) : Bool := decide (0 ≤ i) && decide (i < (D.kept.length : Int))
def Dk.write (D : Dk) (i : Int) (b : Sec) : Dk × Nat :=
  if D.has i = false ∨ 64 < b.length then (D, 1) else if D.counted.dead then (D.counted, 20) else ({ D.counted with waits := D.counted.waits ++ [(i.toNat, pad b)] }, 0)
def putS (k : List Sec) (w : Nat × Sec) : List Sec := k.set w.1 w.2
def Dk.flush (D : Dk) : Dk × Nat := if D.counted.dead then (D.counted, 20) else ({ D.counted with kept := D.counted.waits.foldl putS D.counted.kept, waits := [] }, 0)
def Dk.arm (D : Dk) (n : Int) : Dk := if D.dead then D else { D with armed := n.toNat }
def keepAll : List Sec → List (Nat × Sec) → List Bool → List Sec
  | k, w :: ws, b :: bs => keepAll (if b then putS k w else k) ws bs
  | k, _, _ => k
def Dk.restart (D : Dk) (keep : List Bool) : Dk := ⟨keepAll D.kept D.waits keep, [], 0, false⟩
def findS (D : Dk) (i : Nat) : Sec := match D.waits.reverse.find? (fun w => w.1 == i) with | some w => w.2 | none => D.kept.getD i []
def Dk.read (D : Dk) (i : Int) : Sec × Nat := if D.has i = false then ([], 1) else if D.dead then ([], 20) else (findS D i.toNat, 0)

structure Dk.Ok (D : Dk) : Prop where
  n1 : 1 ≤ D.kept.length
  n2 : D.kept.length ≤ 65536
  k64 : ∀ b ∈ D.kept, b.length = 64
  w : ∀ w ∈ D.waits, w.1 < D.kept.length ∧ w.2.length = 64
  arm : D.armed < 9223372036854775808
theorem pad_len {b : Sec} (h : b.length ≤ 64) : (pad b).length = 64 := by simp [pad]; omega
theorem Dk.new_ok {n : Nat} (h1 : 1 ≤ n) (h2 : n ≤ 65536) : (Dk.new n).Ok := ⟨by simpa [Dk.new] using h1, by simpa [Dk.new] using h2, fun b hb => by rw [(List.mem_replicate.1 hb).2]; simp, fun w hw => by simp [Dk.new] at hw, by simp [Dk.new]⟩
theorem Dk.Ok.counted {D : Dk} (h : D.Ok) : D.counted.Ok := by
  unfold Dk.counted
  split
  · exact ⟨h.n1, h.n2, h.k64, h.w, by have := h.arm; simp only; omega⟩
  · exact h
theorem Dk.counted_kept (D : Dk) : D.counted.kept = D.kept := by unfold Dk.counted; split <;> rfl
theorem Dk.counted_waits (D : Dk) : D.counted.waits = D.waits := by unfold Dk.counted; split <;> rfl
theorem has_iff {D : Dk} {i : Int} : D.has i = true ↔ ∃ n : Nat, i = n ∧ n < D.kept.length := by
  unfold Dk.has
  rw [Bool.and_eq_true, decide_eq_true_eq, decide_eq_true_eq]
  constructor
  · rintro ⟨h1, h2⟩; exact ⟨i.toNat, by omega, by omega⟩
  · rintro ⟨n, rfl, h⟩; omega
theorem putS_len (k : List Sec) (w : Nat × Sec) : (putS k w).length = k.length := by simp [putS]
theorem putS_ok {k : List Sec} {w : Nat × Sec} (h : ∀ b ∈ k, b.length = 64) (hw : w.2.length = 64) : ∀ b ∈ putS k w, b.length = 64 := by
  intro b hb
  rcases List.mem_or_eq_of_mem_set hb with h1 | h1
  · exact h b h1
  · rw [h1]; exact hw
theorem foldS_ok : ∀ {ws : List (Nat × Sec)} {k : List Sec}, (∀ b ∈ k, b.length = 64) → (∀ w ∈ ws, w.2.length = 64) → (ws.foldl putS k).length = k.length ∧ ∀ b ∈ ws.foldl putS k, b.length = 64
  | [], k, h, _ => ⟨rfl, h⟩
  | w :: ws, k, h, hw => by
    obtain ⟨a, b⟩ := foldS_ok (ws := ws) (putS_ok h (hw w (by simp))) (fun x hx => hw x (by simp [hx]))
    exact ⟨by rw [List.foldl_cons, a, putS_len], b⟩
theorem keepAll_ok : ∀ {ws : List (Nat × Sec)} {k : List Sec} {bs : List Bool}, (∀ b ∈ k, b.length = 64) → (∀ w ∈ ws, w.2.length = 64) → (keepAll k ws bs).length = k.length ∧ ∀ b ∈ keepAll k ws bs, b.length = 64
  | [], k, bs, h, _ => by cases bs <;> exact ⟨rfl, h⟩
  | w :: ws, k, [], h, hw => ⟨rfl, h⟩
  | w :: ws, k, b :: bs, h, hw => by
    have hw' : ∀ x ∈ ws, x.2.length = 64 := fun x hx => hw x (by simp [hx])
    cases b with
    | true =>
      obtain ⟨a, b⟩ := keepAll_ok (ws := ws) (bs := bs) (putS_ok h (hw w (by simp))) hw'
      exact ⟨by simp only [keepAll, if_true]; rw [a, putS_len], b⟩
    | false => exact keepAll_ok (ws := ws) (bs := bs) h hw'
theorem Dk.Ok.write {D : Dk} (h : D.Ok) (i : Int) (b : Sec) : (D.write i b).1.Ok := by
  unfold Dk.write
  split
  · exact h
  rename_i hc
  split
  · exact h.counted
  · have c := h.counted
    refine ⟨c.n1, c.n2, c.k64, fun w hw => ?_, c.arm⟩
    simp only [List.mem_append, List.mem_cons, List.not_mem_nil, or_false] at hw
    rcases hw with hw | rfl
    · exact c.w w hw
    · have h1 : D.has i = true := by cases e : D.has i; exact absurd (.inl e) hc; rfl
      obtain ⟨n, rfl, hn⟩ := has_iff.1 h1
      simp only [Int.toNat_natCast]
      exact ⟨by rw [Dk.counted_kept]; exact hn, pad_len (by omega)⟩
theorem Dk.Ok.flush {D : Dk} (h : D.Ok) : D.flush.1.Ok := by
  unfold Dk.flush
  split
  · exact h.counted
  · have c := h.counted
    obtain ⟨a, b⟩ := foldS_ok (ws := D.counted.waits) c.k64 (fun w hw => (c.w w hw).2)
    exact ⟨by simp only; rw [a]; exact c.n1, by simp only; rw [a]; exact c.n2, b, fun w hw => by simp at hw, c.arm⟩
theorem Dk.Ok.arm' {D : Dk} (h : D.Ok) {n : Int} (hn : n < 9223372036854775808) : (D.arm n).Ok := by
  unfold Dk.arm
  split
  · exact h
  · exact ⟨h.n1, h.n2, h.k64, h.w, by simp only; omega⟩
theorem Dk.Ok.restart {D : Dk} (h : D.Ok) (keep : List Bool) : (D.restart keep).Ok := by
  obtain ⟨a, b⟩ := keepAll_ok (ws := D.waits) (bs := keep) h.k64 (fun w hw => (h.w w hw).2)
  exact ⟨by simp only [Dk.restart]; rw [a]; exact h.n1, by simp only [Dk.restart]; rw [a]; exact h.n2, b, fun w hw => by simp [Dk.restart] at hw, by simp [Dk.restart]⟩

/-! ### in memory -/
abbrev kcells (l : List Sec) : List AV := l.flatMap byteCells
def wcell (w : Nat × Sec) : List AV := .int .i64 (w.1 : Int) :: byteCells w.2
abbrev wcells (l : List (Nat × Sec)) : List AV := l.flatMap wcell
/-- the writes that wait: none at all, or in a group of their own -/
def Waits (h : H) (o gk : Nat) (wv : AV) (gs : List Nat) : Prop := (wv = .nils ∧ gs = [o, gk]) ∨ ∃ gw, gw ≠ o ∧ gw ≠ gk ∧ Grp gw h wv ∧ gs = [o, gk, gw]
structure DiskIs (h : H) (o gk : Nat) (k wv : AV) (gs : List Nat) (D : Dk) : Prop where
  box : Box o [k, wv, .int .i64 (D.armed : Int), .bool D.dead] h
  ks : Sl h 64 k D.kept.length (kcells D.kept)
  kg : Grp gk h k
  ws : Sl h 65 wv D.waits.length (wcells D.waits)
  ne : gk ≠ o
  wg : Waits h o gk wv gs
  ok : D.Ok
def DiskAt (h : H) (o : Nat) (gs : List Nat) (D : Dk) : Prop := ∃ gk k wv, DiskIs h o gk k wv gs D
/-- what a step makes of a disk's groups -/
def Next (gs gs' : List Nat) (h : H) : Prop := ∀ g ∈ gs', g ∈ gs ∨ h.n ≤ g
theorem Next.refl (gs : List Nat) (h : H) : Next gs gs h := fun g hg => .inl hg
theorem DiskIs.root {h : H} {o gk : Nat} {k wv : AV} {gs : List Nat} {D : Dk} (d : DiskIs h o gk k wv gs D) : ∀ g ∈ gs, Root g h := by
  intro g hg
  rcases d.wg with ⟨_, rfl⟩ | ⟨gw, _, _, a, rfl⟩
  · simp only [List.mem_cons, List.not_mem_nil, or_false] at hg
    rcases hg with rfl | rfl
    · exact d.box.root
    · exact d.kg.root
  · simp only [List.mem_cons, List.not_mem_nil, or_false] at hg
    rcases hg with rfl | rfl | rfl
    · exact d.box.root
    · exact d.kg.root
    · exact a.root
theorem DiskIs.sk {h : H} {o gk : Nat} {k wv : AV} {gs : List Nat} {D : Dk} (d : DiskIs h o gk k wv gs D) (wf : h.Wf) : Slot (Old h.n) h k := (d.kg.own wf (Nat.zero_le _)).slot wf
theorem DiskIs.sw {h : H} {o gk : Nat} {k wv : AV} {gs : List Nat} {D : Dk} (d : DiskIs h o gk k wv gs D) (wf : h.Wf) : Slot (Old h.n) h wv := by
  rcases d.wg with ⟨rfl, _⟩ | ⟨gw, _, _, a, rfl⟩
  · trivial
  · exact (a.own wf (Nat.zero_le _)).slot wf
theorem DiskIs.keep {h h' : H} {o gk : Nat} {k wv : AV} {gs : List Nat} {D : Dk} (d : DiskIs h o gk k wv gs D) (wf : h.Wf) (kk : Keep (Old h.n) h h') : DiskIs h' o gk k wv gs D := by
  refine ⟨d.box.keep kk (d.box.lt wf), d.ks.keep kk (d.sk wf), d.kg.keep (d.sk wf) kk, d.ws.keep kk (d.sw wf), d.ne, ?_, d.ok⟩
  rcases d.wg with ⟨rfl, e⟩ | ⟨gw, a1, a2, a3, e⟩
  · exact .inl ⟨rfl, e⟩
  · exact .inr ⟨gw, a1, a2, a3.keep ((a3.own wf (Nat.zero_le _)).slot wf) kk, e⟩
theorem DiskAt.keep {h h' : H} {o : Nat} {gs : List Nat} {D : Dk} (d : DiskAt h o gs D) (wf : h.Wf) (kk : Keep (Old h.n) h h') : DiskAt h' o gs D := by
  obtain ⟨gk, k, wv, d⟩ := d
  exact ⟨gk, k, wv, d.keep wf kk⟩
theorem DiskAt.ok {h : H} {o : Nat} {gs : List Nat} {D : Dk} (d : DiskAt h o gs D) : D.Ok := by obtain ⟨_, _, _, d⟩ := d; exact d.ok
theorem DiskAt.lt {h : H} {o : Nat} {gs : List Nat} {D : Dk} (d : DiskAt h o gs D) (wf : h.Wf) : ∀ g ∈ gs, g < h.n := by
  obtain ⟨_, _, _, d⟩ := d
  intro g hg
  obtain ⟨cs, e⟩ := d.root g hg
  exact wf.ob _ _ e
theorem Slot.next {gs gs' : List Nat} {h h' : H} (wf : h.Wf) {v : AV} (s : Slot (Apart gs h) h v) (k : KeepA gs h h') (hn : Next gs gs' h) : Slot (Apart gs' h') h' v := by
  have up : ∀ o, Apart gs h o → Apart gs' h' o := fun o x => ⟨Nat.lt_of_lt_of_le x.1 k.n, fun hm => by
    rcases hn _ hm with y | y
    · exact x.2.1 y
    · have := x.1; omega, fun cs g e hm => by
    rw [k.get _ x] at e
    rcases hn _ hm with y | y
    · exact x.2.2 _ _ e y
    · have := (wf.mem _ _ _ e).1; have := x.1; omega⟩
  exact s.keep k up

/-! ### small functions -/
theorem len_spec {h : H} {o : Nat} {gs : List Nat} {D : Dk} (d : DiskAt h o gs D) : WCall E0 29 [.ptr o 0] h fun r h' => h' = h ∧ r = .val (.int .i64 (D.kept.length : Int)) := by
  obtain ⟨gk, k, wv, d⟩ := d
  refine WCall_ws (ovn 29) U29 (by simp [f29_a]) ?_
  show WS E0 f29_c [] _ _ _
  refine WS_of_seq (WS_of_ops ?_)
  simp only [f29_r0, go_sem, ↓reduceIte]
  refine WS_of_seq (WS_of_seq (WS_of_ops ?_))
  simp only [f29_r1, go_sem, ↓reduceIte, Nat.reduceEqDiff]
  refine WS_of_cond ?_
  simp only [go_sem, ↓reduceIte, Bool.false_eq_true]
  refine WS_of_skip ?_
  simp only [go_sem]
  refine WS_of_seq (WS_of_ops ?_)
  simp only [f29_r3, go_sem, ↓reduceIte, Nat.reduceEqDiff, Nat.zero_add, d.box.load, d.ks.len]
  refine WS_of_ret ?_
  simp only [go_sem, f29_a, ↓reduceIte, Nat.reduceEqDiff]
  exact ⟨trivial, trivial⟩
theorem len_nil {h : H} : WCall E0 29 [.nilp] h fun r h' => h' = h ∧ r = .val (.int .i64 0) := by
  refine WCall_ws (ovn 29) U29 (by simp [f29_a]) ?_
  show WS E0 f29_c [] _ _ _
  refine WS_of_seq (WS_of_ops ?_)
  simp only [f29_r0, go_sem, ↓reduceIte]
  refine WS_of_seq (WS_of_seq (WS_of_ops ?_))
  simp only [f29_r1, go_sem, ↓reduceIte, Nat.reduceEqDiff]
  refine WS_of_cond ?_
  simp only [go_sem, ↓reduceIte, Bool.false_eq_true]
  refine WS_of_seq (WS_of_ops ?_)
  simp only [f29_r2, go_sem, ↓reduceIte, Nat.reduceEqDiff]
  refine WS_of_ret ?_
  simp only [go_sem, f29_a, ↓reduceIte, Nat.reduceEqDiff]
  exact ⟨trivial, trivial⟩
theorem dead_spec {h : H} {o : Nat} {gs : List Nat} {D : Dk} (d : DiskAt h o gs D) : WCall E0 28 [.ptr o 0] h fun r h' => h' = h ∧ r = .val (.bool D.dead) := by
  obtain ⟨gk, k, wv, d⟩ := d
  refine WCall_ws (ovn 28) U28 (by simp [f28_a]) ?_
  show WS E0 f28_c [] _ _ _
  refine WS_of_seq (WS_of_ops ?_)
  simp only [f28_r0, go_sem, ↓reduceIte]
  refine WS_of_seq (WS_of_ops ?_)
  simp only [f28_r1, go_sem, ↓reduceIte, Nat.reduceEqDiff, Bool.not_false, Nat.zero_add, d.box.load]
  refine WS_of_ret ?_
  simp only [go_sem, f28_a, ↓reduceIte, Nat.reduceEqDiff]
  exact ⟨trivial, trivial⟩
theorem dead_nil {h : H} : WCall E0 28 [.nilp] h fun r h' => h' = h ∧ r = .val (.bool false) := by
  refine WCall_ws (ovn 28) U28 (by simp [f28_a]) ?_
  show WS E0 f28_c [] _ _ _
  refine WS_of_seq (WS_of_ops ?_)
  simp only [f28_r0, go_sem, ↓reduceIte]
  refine WS_of_seq (WS_of_ops ?_)
  simp only [f28_r1, go_sem, ↓reduceIte, Nat.reduceEqDiff, Bool.not_true, Bool.false_eq_true]
  refine WS_of_ret ?_
  simp only [go_sem, f28_a, ↓reduceIte, Nat.reduceEqDiff]
  exact ⟨trivial, trivial⟩
theorem waiting_spec {h : H} {o : Nat} {gs : List Nat} {D : Dk} (d : DiskAt h o gs D) : WCall E0 23 [.ptr o 0] h fun r h' => h' = h ∧ r = .val (.int .i64 (D.waits.length : Int)) := by
  obtain ⟨gk, k, wv, d⟩ := d
  refine WCall_ws (ovn 23) U23 (by simp [f23_a]) ?_
  show WS E0 f23_c [] _ _ _
  refine WS_of_seq (WS_of_ops ?_)
  simp only [f23_r0, go_sem, ↓reduceIte]
  refine WS_of_seq (WS_of_seq (WS_of_ops ?_))
  simp only [f23_r1, go_sem, ↓reduceIte, Nat.reduceEqDiff]
  refine WS_of_cond ?_
  simp only [go_sem, ↓reduceIte, Bool.false_eq_true]
  refine WS_of_skip ?_
  simp only [go_sem]
  refine WS_of_seq (WS_of_ops ?_)
  simp only [f23_r3, go_sem, ↓reduceIte, Nat.reduceEqDiff, Nat.zero_add, d.box.load, d.ws.len]
  refine WS_of_ret ?_
  simp only [go_sem, f23_a, ↓reduceIte, Nat.reduceEqDiff]
  exact ⟨trivial, trivial⟩
theorem waiting_nil {h : H} : WCall E0 23 [.nilp] h fun r h' => h' = h ∧ r = .val (.int .i64 0) := by
  refine WCall_ws (ovn 23) U23 (by simp [f23_a]) ?_
  show WS E0 f23_c [] _ _ _
  refine WS_of_seq (WS_of_ops ?_)
  simp only [f23_r0, go_sem, ↓reduceIte]
  refine WS_of_seq (WS_of_seq (WS_of_ops ?_))
  simp only [f23_r1, go_sem, ↓reduceIte, Nat.reduceEqDiff]
  refine WS_of_cond ?_
  simp only [go_sem, ↓reduceIte, Bool.false_eq_true]
  refine WS_of_seq (WS_of_ops ?_)
  simp only [f23_r2, go_sem, ↓reduceIte, Nat.reduceEqDiff]
  refine WS_of_ret ?_
  simp only [go_sem, f23_a, ↓reduceIte, Nat.reduceEqDiff]
  exact ⟨trivial, trivial⟩
theorem is_spec {h : H} {o : Nat} {gs : List Nat} {D : Dk} (d : DiskAt h o gs D) (i : Int) : WCall E0 43 [.ptr o 0, .int .i64 i] h fun r h' => h' = h ∧ r = .val (.bool (D.has i)) := by
  refine WCall_ws (ovn 43) U43 (by simp [f43_a]) ?_
  show WS E0 f43_c [] _ _ _
  refine WS_of_seq (WS_of_ops ?_)
  simp only [f43_r0, go_sem, ↓reduceIte]
  refine WS_of_seq (WS_of_ops ?_)
  by_cases c : 0 ≤ i
  · simp only [f43_r1, go_sem, ↓reduceIte, Nat.reduceEqDiff, c, decide_true]
    refine (len_spec d).mono ?_
    rintro r h' ⟨rfl, rfl⟩
    simp only [go_sem, ↓reduceIte, Nat.reduceEqDiff]
    refine WS_of_ret ?_
    simp only [go_sem, f43_a, ↓reduceIte, Nat.reduceEqDiff, Dk.has, c, decide_true, Bool.true_and, true_and]
  · simp only [f43_r1, go_sem, ↓reduceIte, Nat.reduceEqDiff, c, decide_false, Bool.false_eq_true]
    refine WS_of_ret ?_
    simp only [go_sem, f43_a, ↓reduceIte, Nat.reduceEqDiff, Dk.has, c, decide_false, Bool.false_and, true_and]
theorem is_nil {h : H} (i : Int) : WCall E0 43 [.nilp, .int .i64 i] h fun r h' => h' = h ∧ r = .val (.bool false) := by
  refine WCall_ws (ovn 43) U43 (by simp [f43_a]) ?_
  show WS E0 f43_c [] _ _ _
  refine WS_of_seq (WS_of_ops ?_)
  simp only [f43_r0, go_sem, ↓reduceIte]
  refine WS_of_seq (WS_of_ops ?_)
  by_cases c : 0 ≤ i
  · simp only [f43_r1, go_sem, ↓reduceIte, Nat.reduceEqDiff, c, decide_true]
    refine len_nil.mono ?_
    rintro r h' ⟨rfl, rfl⟩
    have c' : ¬ i < 0 := by omega
    simp only [go_sem, ↓reduceIte, Nat.reduceEqDiff]
    refine WS_of_ret ?_
    simp only [go_sem, f43_a, ↓reduceIte, Nat.reduceEqDiff, c', decide_false, true_and]
  · simp only [f43_r1, go_sem, ↓reduceIte, Nat.reduceEqDiff, c, decide_false, Bool.false_eq_true]
    refine WS_of_ret ?_
    simp only [go_sem, f43_a, ↓reduceIte, Nat.reduceEqDiff, Bool.false_and, true_and]
end Go.Proofs.Ytmfbememiffkjaa.Ev.C

/- A disk's functions that write, walked. -/
namespace Go.Proofs.Ytmfbememiffkjaa.Ev.C
open Go Go.Proofs.Ytmfbememiffkjaa.Ev
set_option linter.unusedSimpArgs false
set_option linter.unusedVariables false
theorem one_of_len {v : AV} {n : Nat} (h : lenSA v = some n) : v.one = true ∧ v.cells = [v] := by
  cases v <;> first | exact ⟨rfl, rfl⟩ | cases h
theorem DiskIs.away {h : H} {o gk : Nat} {k wv : AV} {gs : List Nat} {D : Dk} (d : DiskIs h o gk k wv gs D) (wf : h.Wf) : Slot (Apart [o] h) h k ∧ Slot (Apart [o] h) h wv ∧ Slot (Apart [gk] h) h wv ∧ o ∈ gs ∧ gk ∈ gs := by
  refine ⟨d.kg.away wf (by simp [d.ne]) (by simpa using d.box.root), ?_⟩
  rcases d.wg with ⟨rfl, rfl⟩ | ⟨gw, a1, a2, a3, rfl⟩
  · exact ⟨trivial, trivial, by simp, by simp⟩
  · exact ⟨a3.away wf (by simp [a1]) (by simpa using d.box.root), a3.away wf (by simp [a2]) (by simpa using d.kg.root), by simp, by simp⟩
/-- the box is written -/
theorem DiskIs.boxed {h h' : H} {o gk : Nat} {k wv : AV} {gs : List Nat} {D D' : Dk} (d : DiskIs h o gk k wv gs D) (wf : h.Wf) (kk : KeepA [o] h h') (hk : D'.kept = D.kept) (hw : D'.waits = D.waits)
    (b : Box o [k, wv, .int .i64 (D'.armed : Int), .bool D'.dead] h') (ok : D'.Ok) : DiskIs h' o gk k wv gs D' ∧ KeepA gs h h' := by
  obtain ⟨s1, s2, s3, m1, m2⟩ := d.away wf
  refine ⟨⟨b, by rw [hk]; exact d.ks.keep kk s1, d.kg.keep s1 kk, by rw [hw]; exact d.ws.keep kk s2, d.ne, ?_, ok⟩, kk.mono (by simpa using m1)⟩
  rcases d.wg with ⟨rfl, e⟩ | ⟨gw, a1, a2, a3, e⟩
  · exact .inl ⟨rfl, e⟩
  · exact .inr ⟨gw, a1, a2, a3.keep s2 kk, e⟩

theorem arm_spec {h : H} {o : Nat} {gs : List Nat} {D : Dk} (wf : h.Wf) (d : DiskAt h o gs D) (n : Int) (hn : n < 9223372036854775808) :
    WCall E0 21 [.ptr o 0, .int .i64 n] h fun r h' => r = .val (.tup []) ∧ DiskAt h' o gs (D.arm n) ∧ KeepA gs h h' := by
  obtain ⟨gk, k, wv, d⟩ := d
  refine WCall_ws (ovn 21) U21 (by simp [f21_a]) ?_
  show WS E0 f21_c [] _ _ _
  refine WS_of_seq (WS_of_ops ?_)
  simp only [f21_r0, go_sem, ↓reduceIte, Nat.reduceEqDiff, Bool.not_false, Nat.zero_add, d.box.load]
  refine WS_of_cond ?_
  cases hd : D.dead with
  | true =>
    simp only [go_sem, ↓reduceIte, Bool.not_true, Bool.false_eq_true]
    refine WS_of_skip ?_
    simp only [go_sem, f21_a]
    refine ⟨trivial, ⟨gk, k, wv, ?_⟩, KeepA.refl _ _⟩
    simp only [Dk.arm, hd, if_true]
    exact d
  | false =>
    obtain ⟨h1, e1, b1, k1⟩ := d.box.put wf (i := 2) (n := 1) (v := .int .i64 (n.toNat : Int)) rfl rfl (by simp)
    have hmax : (if 0 > n then (0 : Int) else n) = (n.toNat : Int) := by split <;> omega
    simp only [go_sem, ↓reduceIte, Bool.not_false]
    refine WS_of_ops ?_
    simp only [f21_r1, go_sem, ↓reduceIte, Nat.reduceEqDiff, Nat.zero_add, hmax, e1]
    have ha : D.arm n = { D with armed := n.toNat } := by simp [Dk.arm, hd]
    obtain ⟨d1, k2⟩ := d.boxed (D' := D.arm n) wf k1 (by rw [ha]) (by rw [ha]) (by rw [ha]; exact b1) (d.ok.arm' hn)
    exact ⟨rfl, ⟨gk, k, wv, d1⟩, k2⟩

theorem dies_spec {h : H} {o gk : Nat} {k wv : AV} {gs : List Nat} {D : Dk} (wf : h.Wf) (d : DiskIs h o gk k wv gs D) :
    WCall E0 44 [.ptr o 0] h fun r h' => r = .val (.bool D.counted.dead) ∧ DiskIs h' o gk k wv gs D.counted ∧ KeepA gs h h' := by
  refine WCall_ws (ovn 44) U44 (by simp [f44_a]) ?_
  show WS E0 f44_c [] _ _ _
  refine WS_of_seq (WS_of_ops ?_)
  simp only [f44_r0, go_sem, ↓reduceIte]
  refine WS_of_seq (WS_of_seq (WS_of_ops ?_))
  simp only [f44_r1, go_sem, ↓reduceIte, Nat.reduceEqDiff, Nat.zero_add, d.box.load]
  refine WS_of_cond ?_
  by_cases c : 0 < D.armed
  · have c' : (0 : Int) < (D.armed : Int) := by omega
    have ha := d.ok.arm
    have hw : IntKind.i64.wrap ((D.armed : Int) - 1) = ((D.armed - 1 : Nat) : Int) := by rw [wrap_i64 (by omega) (by omega)]; omega
    obtain ⟨h1, e1, b1, k1⟩ := d.box.put wf (i := 2) (n := 1) (v := .int .i64 ((D.armed - 1 : Nat) : Int)) rfl rfl (by simp)
    have b1' : Box o [k, wv, .int .i64 ((D.armed - 1 : Nat) : Int), .bool D.dead] h1 := b1
    obtain ⟨h2, e2, b2, k2⟩ := b1'.put (k1.wf wf) (i := 3) (n := 1) (v := .bool (decide (D.armed = 1))) rfl rfl (by simp)
    have b2' : Box o [k, wv, .int .i64 ((D.armed - 1 : Nat) : Int), .bool (decide (D.armed = 1))] h2 := b2
    simp only [go_sem, ↓reduceIte, c', decide_true]
    refine WS_of_seq (WS_of_ops ?_)
    simp only [f44_r2, go_sem, ↓reduceIte, Nat.reduceEqDiff, Nat.zero_add, d.box.load, hw, e1]
    refine WS_of_ops ?_
    have he : decide (((D.armed - 1 : Nat) : Int) = 0) = decide (D.armed = 1) := by
      by_cases x : D.armed = 1
      · simp [x]
      · rw [decide_eq_false x, decide_eq_false (by omega)]
    simp only [f44_r3, go_sem, ↓reduceIte, Nat.reduceEqDiff, Nat.zero_add, b1'.load, he, e2]
    refine WS_of_seq (WS_of_ops ?_)
    simp only [f44_r4, go_sem, ↓reduceIte, Nat.reduceEqDiff, Nat.zero_add, b2'.load]
    refine WS_of_ret ?_
    simp only [go_sem, f44_a, ↓reduceIte, Nat.reduceEqDiff]
    have hc : D.counted = { D with armed := D.armed - 1, dead := decide (D.armed = 1) } := by simp [Dk.counted, c]
    obtain ⟨d1, k3⟩ := d.boxed (D' := D.counted) wf (k1.then wf k2 (by simp)) (by rw [hc]) (by rw [hc]) (by rw [hc]; exact b2') d.ok.counted
    exact ⟨by rw [hc], d1, k3⟩
  · have c' : ¬ (0 : Int) < (D.armed : Int) := by omega
    simp only [go_sem, ↓reduceIte, c', decide_false, Bool.false_eq_true]
    refine WS_of_skip ?_
    simp only [go_sem]
    refine WS_of_seq (WS_of_ops ?_)
    simp only [f44_r4, go_sem, ↓reduceIte, Nat.reduceEqDiff, Nat.zero_add, d.box.load]
    refine WS_of_ret ?_
    simp only [go_sem, f44_a, ↓reduceIte, Nat.reduceEqDiff]
    have hc : D.counted = D := by simp [Dk.counted, c]
    rw [hc]
    exact ⟨rfl, d, KeepA.refl _ _⟩

theorem wcell_len {w : Nat × Sec} (h : w.2.length = 64) : (wcell w).length = 65 := by simp [wcell, byteCells, h]
theorem wcell_one (w : Nat × Sec) : (wcell w).all AV.one = true := by
  simp only [wcell, List.all_cons, byteCells_one, Bool.and_true]
  rfl
/-- a write is kept: the disk's first cell alone is looked at -/
theorem keep_spec {h : H} {o g : Nat} {rest : List AV} {k : AV} {K : List Sec} {w : Nat × Sec} (wf : h.Wf) (b : Box o (k :: rest) h) (ks : Sl h 64 k K.length (kcells K)) (kg : Grp g h k) (k64 : ∀ b ∈ K, b.length = 64)
    (hw : w.1 < K.length) (hw2 : w.2.length = 64) :
    WCall E0 46 [.ptr o 0, .agg (wcell w)] h fun r h' => r = .val (.tup []) ∧ Sl h' 64 k (putS K w).length (kcells (putS K w)) ∧ Grp g h' k ∧ KeepA [g] h h' := by
  refine WCall_ws (ovn 46) U46 (by simp [f46_a]) ?_
  show WS E0 f46_c [] _ _ _
  refine WS_of_seq (WS_of_ops ?_)
  simp only [f46_r0, go_sem, ↓reduceIte]
  have kn : Keep (Old h.n) h (h.new (wcell w)) := Keep.new (Nat.le_refl _) _
  have bn : Box h.n (wcell w) (h.new (wcell w)) := Box.new wf _
  have b1 := b.keep kn (b.lt wf)
  have ks1 := ks.keep kn ((kg.own wf (Nat.zero_le _)).slot wf)
  have kg1 := kg.keep ((kg.own wf (Nat.zero_le _)).slot wf) kn
  have wf1 := kn.wf wf
  have hcells : (AV.agg (wcell w)).cells = wcell w := rfl
  rw [hcells]
  generalize h.new (wcell w) = h1 at kn bn b1 ks1 kg1 wf1 ⊢
  obtain ⟨p, ep, hp⟩ := Grp.put (es := 64) (i := w.1) (new := byteCells w.2) wf1 ks1 kg1 hw (by decide) .i64 (by rw [byteCells_length, hw2]) (byteCells_one _)
  obtain ⟨h2, e2, s2, g2, k2⟩ := hp (.agg (byteCells w.2)) rfl
  have l0 : loadA h1 false 1 (.ptr h.n 0) = some (.int .i64 (w.1 : Int)) := by rw [bn.load]; rfl
  have l1 : loadA h1 true 64 (.ptr h.n (0 + 1)) = some (.agg (byteCells w.2)) := by
    simp only [loadA, bn.row, if_true, wcell]
    rw [if_pos (by simp [byteCells, hw2])]
    simp only [Nat.zero_add, List.drop_succ_cons, List.drop_zero]
    rw [List.take_of_length_le (by rw [byteCells_length, hw2]; exact Nat.le_refl _)]
  have lk : loadA h1 false 1 (.ptr o (0 + 0)) = some k := by rw [b1.load]; rfl
  have lk0 : loadA h1 false 1 (.ptr o 0) = some k := by rw [b1.load]; rfl
  have l00 : loadA h1 false 1 (.ptr h.n (0 + 0)) = some (.int .i64 (w.1 : Int)) := l0
  refine WS_of_draw ?_
  simp only [f46_r1, go_sem, ↓reduceIte, Nat.reduceEqDiff, and_self, true_and, List.filter_cons, List.filter_nil, Nat.testBit, Nat.reduceShiftRight, Nat.reduceAnd, Nat.reduceBNe, Bool.not_false, Bool.not_true, Bool.false_eq_true, bne_self_eq_false, lk, l00, l1, ep, e2]
  refine ⟨rfl, ?_, g2, ?_⟩
  · rw [putS_len]
    have := flat_set (f := byteCells) (es := 64) (l := K) w.2 hw (fun x hx => by rw [byteCells_length, k64 x hx]) (by rw [byteCells_length, hw2])
    rw [← show splice (kcells K) (w.1 * 64) (byteCells w.2) = kcells (putS K w) from this]
    exact s2
  · exact KeepA.of kn |>.then wf k2 (by simp)
end Go.Proofs.Ytmfbememiffkjaa.Ev.C

/- A disk's functions that lay one, and write, walked. -/
namespace Go.Proofs.Ytmfbememiffkjaa.Ev.C
open Go Go.Proofs.Ytmfbememiffkjaa.Ev
set_option linter.unusedSimpArgs false
set_option linter.unusedVariables false
abbrev zb : AV := .int .u8 0
theorem lit64 : ([.int .u8 0, .int .u8 0, .int .u8 0, .int .u8 0, .int .u8 0, .int .u8 0, .int .u8 0, .int .u8 0, .int .u8 0, .int .u8 0, .int .u8 0, .int .u8 0, .int .u8 0, .int .u8 0, .int .u8 0, .int .u8 0, .int .u8 0, .int .u8 0, .int .u8 0, .int .u8 0, .int .u8 0, .int .u8 0, .int .u8 0, .int .u8 0, .int .u8 0, .int .u8 0, .int .u8 0, .int .u8 0, .int .u8 0, .int .u8 0, .int .u8 0, .int .u8 0, .int .u8 0, .int .u8 0, .int .u8 0, .int .u8 0, .int .u8 0, .int .u8 0, .int .u8 0, .int .u8 0, .int .u8 0, .int .u8 0, .int .u8 0, .int .u8 0, .int .u8 0, .int .u8 0, .int .u8 0, .int .u8 0, .int .u8 0, .int .u8 0, .int .u8 0, .int .u8 0, .int .u8 0, .int .u8 0, .int .u8 0, .int .u8 0, .int .u8 0, .int .u8 0, .int .u8 0, .int .u8 0, .int .u8 0, .int .u8 0, .int .u8 0, .int .u8 0] : List AV) = List.replicate 64 zb := rfl
theorem lit65 : (.int .i64 0 :: [.int .u8 0, .int .u8 0, .int .u8 0, .int .u8 0, .int .u8 0, .int .u8 0, .int .u8 0, .int .u8 0, .int .u8 0, .int .u8 0, .int .u8 0, .int .u8 0, .int .u8 0, .int .u8 0, .int .u8 0, .int .u8 0, .int .u8 0, .int .u8 0, .int .u8 0, .int .u8 0, .int .u8 0, .int .u8 0, .int .u8 0, .int .u8 0, .int .u8 0, .int .u8 0, .int .u8 0, .int .u8 0, .int .u8 0, .int .u8 0, .int .u8 0, .int .u8 0, .int .u8 0, .int .u8 0, .int .u8 0, .int .u8 0, .int .u8 0, .int .u8 0, .int .u8 0, .int .u8 0, .int .u8 0, .int .u8 0, .int .u8 0, .int .u8 0, .int .u8 0, .int .u8 0, .int .u8 0, .int .u8 0, .int .u8 0, .int .u8 0, .int .u8 0, .int .u8 0, .int .u8 0, .int .u8 0, .int .u8 0, .int .u8 0, .int .u8 0, .int .u8 0, .int .u8 0, .int .u8 0, .int .u8 0, .int .u8 0, .int .u8 0, .int .u8 0]) = (.int .i64 0 :: List.replicate 64 zb) := rfl
theorem zeros_rep (x : AV) (k n : Nat) (hk : 0 < k) : zeros (List.replicate k x) n = List.replicate n x := by
  unfold zeros
  rw [List.length_replicate]
  apply List.ext_getElem
  · simp
  · intro i h1 h2
    simp only [List.getElem_map, List.getElem_range, List.getElem_replicate]
    rw [List.getD_eq_getElem?_getD, List.getElem?_replicate, if_pos (Nat.mod_lt _ hk)]
    rfl
theorem kcells_zero : ∀ (n : Nat), kcells (List.replicate n (List.replicate 64 0)) = List.replicate (n * 64) zb
  | 0 => rfl
  | n + 1 => by
    have ih := kcells_zero n
    simp only [kcells] at ih ⊢
    rw [List.replicate_succ, List.flatMap_cons, ih, Nat.add_mul, Nat.add_comm (n * 64), Nat.one_mul, ← List.replicate_append_replicate]
    congr 1

theorem new_spec {h : H} (wf : h.Wf) {n : Nat} (hn1 : 1 ≤ n) (hn2 : n ≤ 65536) :
    WCall E0 15 [.int .i64 (n : Int)] h fun r h' => ∃ o gs, r = .val (.tup [.ptr o 0, .int .i64 0]) ∧ DiskAt h' o gs (Dk.new n) ∧ Keep (Old h.n) h h' ∧ ∀ g ∈ gs, h.n ≤ g := by
  refine WCall_ws (ovn 15) U15 (by simp [f15_a]) ?_
  show WS E0 f15_c [] _ _ _
  refine WS_of_seq (WS_of_ops ?_)
  simp only [f15_r0, go_sem, ↓reduceIte]
  refine WS_of_seq (WS_of_seq (WS_of_ops ?_))
  have c1 : ¬ (n : Int) < 1 := by omega
  have c2 : ¬ (65536 : Int) < (n : Int) := by omega
  simp only [f15_r1, go_sem, ↓reduceIte, Nat.reduceEqDiff, c1, c2, decide_false, Bool.false_eq_true]
  refine WS_of_cond ?_
  simp only [go_sem, ↓reduceIte, Bool.false_eq_true, Nat.reduceEqDiff]
  refine WS_of_skip ?_
  simp only [go_sem]
  refine WS_of_seq (WS_of_ops ?_)
  have em : makeSliceA h 64 64 [.int .u8 0, .int .u8 0, .int .u8 0, .int .u8 0, .int .u8 0, .int .u8 0, .int .u8 0, .int .u8 0, .int .u8 0, .int .u8 0, .int .u8 0, .int .u8 0, .int .u8 0, .int .u8 0, .int .u8 0, .int .u8 0, .int .u8 0, .int .u8 0, .int .u8 0, .int .u8 0, .int .u8 0, .int .u8 0, .int .u8 0, .int .u8 0, .int .u8 0, .int .u8 0, .int .u8 0, .int .u8 0, .int .u8 0, .int .u8 0, .int .u8 0, .int .u8 0, .int .u8 0, .int .u8 0, .int .u8 0, .int .u8 0, .int .u8 0, .int .u8 0, .int .u8 0, .int .u8 0, .int .u8 0, .int .u8 0, .int .u8 0, .int .u8 0, .int .u8 0, .int .u8 0, .int .u8 0, .int .u8 0, .int .u8 0, .int .u8 0, .int .u8 0, .int .u8 0, .int .u8 0, .int .u8 0, .int .u8 0, .int .u8 0, .int .u8 0, .int .u8 0, .int .u8 0, .int .u8 0, .int .u8 0, .int .u8 0, .int .u8 0, .int .u8 0] (.int .i64 (n : Int)) (.int .i64 (n : Int)) = some (.slice h.n 0 n 64, h.new (kcells (List.replicate n (List.replicate 64 0)))) := by
    unfold makeSliceA
    simp only
    rw [if_pos ⟨by omega, Int.le_refl _, by omega, by omega⟩, Int.toNat_natCast, kcells_zero, lit64, zeros_rep zb 64 _ (by decide)]
  have ef : afill [.nils, .nils, .int .i64 0, .bool false] [(0, 1, .slice h.n 0 n 64)] = some [.slice h.n 0 n 64, .nils, .int .i64 0, .bool false] := rfl
  simp only [f15_r3, go_sem, ↓reduceIte, Nat.reduceEqDiff, em, ef]
  refine WS_of_ret ?_
  simp only [go_sem, f15_a, ↓reduceIte, Nat.reduceEqDiff]
  have hl : (kcells (List.replicate n (List.replicate 64 (0 : UInt8)))).length = n * 64 := by rw [kcells_zero]; simp
  have k1 : Keep (Old h.n) h (h.new (kcells (List.replicate n (List.replicate 64 0)))) := Keep.new (Nat.le_refl _) _
  have b1 : Box h.n (kcells (List.replicate n (List.replicate 64 0))) (h.new (kcells (List.replicate n (List.replicate 64 0)))) := Box.new wf _
  have s1 : Sl (h.new (kcells (List.replicate n (List.replicate 64 0)))) 64 (.slice h.n 0 n 64) n (kcells (List.replicate n (List.replicate 64 0))) := by
    have := Sl.new (es := 64) (n := n) wf (vs := kcells (List.replicate n (List.replicate 64 0))) (by omega)
    rwa [List.take_of_length_le (by omega)] at this
  have g1 : Grp h.n (h.new (kcells (List.replicate n (List.replicate 64 0)))) (.slice h.n 0 n 64) := ⟨_, b1.get, b1.tip, b1.live, by rw [hl]; omega, _, b1.get⟩
  have hnn : (h.new (kcells (List.replicate n (List.replicate 64 0)))).n = h.n + 1 := rfl
  generalize h.new (kcells (List.replicate n (List.replicate 64 0))) = h1 at k1 b1 s1 g1 hnn ⊢
  have wf1 := k1.wf wf
  have sl1 := (g1.own wf1 (Nat.zero_le _)).slot wf1
  have k2 : Keep (Old h1.n) h1 (h1.new [.slice h.n 0 n 64, .nils, .int .i64 0, .bool false]) := Keep.new (Nat.le_refl _) _
  refine ⟨h1.n, [h1.n, h.n], rfl, ⟨h.n, .slice h.n 0 n 64, .nils, Box.new wf1 _, ?_, g1.keep sl1 k2, Sl.nil _ _, by omega, .inl ⟨rfl, rfl⟩, Dk.new_ok hn1 hn2⟩, k1.trans (k2.less k1.n), ?_⟩
  · have := s1.keep k2 sl1
    show Sl _ 64 _ (List.replicate n _).length _
    rw [List.length_replicate]
    exact this
  · intro g hg
    simp only [List.mem_cons, List.not_mem_nil, or_false] at hg
    rcases hg with rfl | rfl <;> omega

theorem not_nils {h : H} {es n : Nat} {cs : List AV} (a : Sl h es .nils n cs) : n = 0 := by have := a.len; cases this; rfl
/-- slices.Clone of sectors -/
theorem clones_spec {h : H} {v : AV} {n : Nat} {cs : List AV} (wf : h.Wf) (b : Sl h 64 v n cs) (h1 : cs.all AV.one = true) (sl : Slot (Old h.n) h v) (hn : 1 ≤ n) (hl : n < 4294967296) :
    WCall E0 48 [v] h fun r h' => ∃ v' g, r = .val v' ∧ Sl h' 64 v' n cs ∧ Grp g h' v' ∧ h.n ≤ g ∧ Keep (Old h.n) h h' := by
  refine WCall_ws (ovn 48) U48 (by simp [f48_a]) ?_
  show WS E0 f48_c [] _ _ _
  refine WS_of_seq (WS_of_ops ?_)
  simp only [f48_r0, go_sem, ↓reduceIte]
  refine WS_of_seq (WS_of_seq (WS_of_ops ?_))
  have hlen := b.len
  cases v <;> simp only [lenSA] at hlen <;> (try (cases hlen; done))
  case nils => cases hlen; omega
  case slice o i len es =>
    simp only [f48_r1, go_sem, ↓reduceIte, Nat.reduceEqDiff]
    refine WS_of_cond ?_
    simp only [go_sem, ↓reduceIte, Bool.false_eq_true]
    refine WS_of_skip ?_
    simp only [go_sem]
    refine WS_of_seq (WS_of_ops ?_)
    have ea : afill (zeros [.int .u8 0, .int .u8 0, .int .u8 0, .int .u8 0, .int .u8 0, .int .u8 0, .int .u8 0, .int .u8 0, .int .u8 0, .int .u8 0, .int .u8 0, .int .u8 0, .int .u8 0, .int .u8 0, .int .u8 0, .int .u8 0, .int .u8 0, .int .u8 0, .int .u8 0, .int .u8 0, .int .u8 0, .int .u8 0, .int .u8 0, .int .u8 0, .int .u8 0, .int .u8 0, .int .u8 0, .int .u8 0, .int .u8 0, .int .u8 0, .int .u8 0, .int .u8 0, .int .u8 0, .int .u8 0, .int .u8 0, .int .u8 0, .int .u8 0, .int .u8 0, .int .u8 0, .int .u8 0, .int .u8 0, .int .u8 0, .int .u8 0, .int .u8 0, .int .u8 0, .int .u8 0, .int .u8 0, .int .u8 0, .int .u8 0, .int .u8 0, .int .u8 0, .int .u8 0, .int .u8 0, .int .u8 0, .int .u8 0, .int .u8 0, .int .u8 0, .int .u8 0, .int .u8 0, .int .u8 0, .int .u8 0, .int .u8 0, .int .u8 0, .int .u8 0] (0 * 64)) [] = some [] := rfl
    have kn : Keep (Old h.n) h (h.new []) := Keep.new (Nat.le_refl _) _
    have b0 : Sl (h.new []) 64 (.slice h.n 0 0 64) 0 [] := Sl.new (n := 0) (es := 64) wf (vs := []) (by simp)
    have o0 : Own h.n (h.new []) (.slice h.n 0 0 64) := Own.new wf (Nat.le_refl _) (by simp)
    obtain ⟨v2, h2, a2, b2, o2, k2⟩ := append_own (kn.wf wf) kn.n b0 o0 (b.keep kn sl) h1 (by omega)
    simp only [f48_r3, go_sem, ↓reduceIte, Nat.reduceEqDiff, ea, a2]
    refine WS_of_ret ?_
    simp only [go_sem, f48_a, ↓reduceIte, Nat.reduceEqDiff]
    rw [Nat.zero_add, List.nil_append] at b2
    rcases o2.grp with rfl | ⟨g, hg, gg⟩
    · have := not_nils b2; omega
    · exact ⟨_, g, rfl, b2, gg, hg, kn.trans k2⟩
/-- slices.Clone of bytes -/
theorem cloneb_spec {h : H} {v : AV} {bs : List UInt8} (wf : h.Wf) (b : Bytes h v bs) (sl : Slot (Old h.n) h v) (hl : bs.length < 4294967296) :
    WCall E0 50 [v] h fun r h' => ∃ v', r = .val v' ∧ Bytes h' v' bs ∧ Own h.n h' v' ∧ Keep (Old h.n) h h' := by
  refine WCall_ws (ovn 50) U50 (by simp [f50_a]) ?_
  show WS E0 f50_c [] _ _ _
  refine WS_of_seq (WS_of_ops ?_)
  simp only [f50_r0, go_sem, ↓reduceIte]
  refine WS_of_seq (WS_of_seq (WS_of_ops ?_))
  have hlen := b.len
  cases v <;> simp only [lenSA] at hlen <;> (try (cases hlen; done))
  case nils =>
    simp only [f50_r1, go_sem, ↓reduceIte, Nat.reduceEqDiff]
    refine WS_of_cond ?_
    simp only [go_sem, ↓reduceIte, Bool.false_eq_true]
    refine WS_of_seq (WS_of_ops ?_)
    simp only [f50_r2, go_sem, ↓reduceIte]
    refine WS_of_ret ?_
    simp only [go_sem, f50_a, ↓reduceIte, Nat.reduceEqDiff]
    exact ⟨_, rfl, b, trivial, Keep.refl _ _⟩
  case slice o i len es =>
    simp only [f50_r1, go_sem, ↓reduceIte, Nat.reduceEqDiff]
    refine WS_of_cond ?_
    simp only [go_sem, ↓reduceIte, Bool.false_eq_true]
    refine WS_of_skip ?_
    simp only [go_sem]
    refine WS_of_seq (WS_of_ops ?_)
    have ea : afill (zeros [AV.int .u8 0] (0 * 1)) [] = some [] := rfl
    have kn : Keep (Old h.n) h (h.new []) := Keep.new (Nat.le_refl _) _
    have b0 : Bytes (h.new []) (.slice h.n 0 0 1) [] := Sl.new (n := 0) (es := 1) wf (vs := []) (by simp)
    have o0 : Own h.n (h.new []) (.slice h.n 0 0 1) := Own.new wf (Nat.le_refl _) (by simp)
    obtain ⟨v2, h2, a2, b2, o2, k2⟩ := b0.app (kn.wf wf) kn.n o0 (b.keep kn sl) (by simpa using hl)
    simp only [f50_r3, go_sem, ↓reduceIte, Nat.reduceEqDiff, ea, a2]
    refine WS_of_ret ?_
    simp only [go_sem, f50_a, ↓reduceIte, Nat.reduceEqDiff]
    exact ⟨_, rfl, b2, o2, kn.trans k2⟩

/-- one more write that waits -/
theorem DiskIs.append {h : H} {o gk : Nat} {k wv y : AV} {gs : List Nat} {D : Dk} (d : DiskIs h o gk k wv gs D) (wf : h.Wf) {w : Nat × Sec} (b : Sl h 65 y 1 (wcell w)) (hbig : D.waits.length + 1 < 4294967296) :
    ∃ wv' h' gs', appendA h 65 wv y = some (wv', h') ∧ wv'.one = true ∧ wv'.cells = [wv'] ∧ Sl h' 65 wv' (D.waits ++ [w]).length (wcells (D.waits ++ [w])) ∧ Waits h' o gk wv' gs' ∧ Box o [k, wv, .int .i64 (D.armed : Int), .bool D.dead] h' ∧ Sl h' 64 k D.kept.length (kcells D.kept) ∧ Grp gk h' k ∧
      KeepA gs h h' ∧ Next gs gs' h ∧ o ∈ gs := by
  obtain ⟨s1, s2, s3, m1, m2⟩ := d.away wf
  have hc : wcells D.waits ++ wcell w = wcells (D.waits ++ [w]) := by simp
  rcases d.wg with ⟨rfl, rfl⟩ | ⟨gw, a1, a2, a3, rfl⟩
  · obtain ⟨wv', h', e, s, ow, kk⟩ := append_own (N := h.n) wf (Nat.le_refl _) d.ws (by trivial) b (wcell_one w) hbig
    rcases ow.grp with rfl | ⟨gw, hg, gg⟩
    · have := not_nils s; omega
    · have x1 := d.box.lt wf
      have x2 := d.kg.lt wf
      have sk := d.sk wf
      rw [hc] at s
      refine ⟨wv', h', [o, gk, gw], e, (one_of_len s.len).1, (one_of_len s.len).2, by simpa using s, .inr ⟨gw, by omega, by omega, gg, rfl⟩, d.box.keep kk x1, d.ks.keep kk sk, d.kg.keep sk kk, KeepA.of kk, ?_, m1⟩
      intro g hg'
      simp only [List.mem_cons, List.not_mem_nil, or_false] at hg'
      rcases hg' with rfl | rfl | rfl
      · exact .inl (by simp)
      · exact .inl (by simp)
      · exact .inr hg
  · obtain ⟨wv', h', e, s, gg, kk⟩ := append_grp wf d.ws a3 b (wcell_one w) hbig
    rw [hc] at s
    have hroot : ∀ x ∈ [gw], Root x h := by simpa using a3.root
    have sk := d.kg.away (gs := [gw]) wf (by simp [Ne.symm a2]) hroot
    refine ⟨wv', h', [o, gk, gw], e, (one_of_len s.len).1, (one_of_len s.len).2, by simpa using s, .inr ⟨gw, a1, a2, gg, rfl⟩, d.box.keepA wf kk (by simp [Ne.symm a1]), d.ks.keep kk sk, d.kg.keep sk kk, kk.mono (by simp), Next.refl _ _, m1⟩
end Go.Proofs.Ytmfbememiffkjaa.Ev.C

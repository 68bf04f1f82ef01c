/- A disk, by plain definition; a disk in memory; its small functions, walked. -/
import Derived.Test.YtmfbememiffkjaaCode
import Derived.Test.YtmfbememiffkjaaEvL3
namespace Go.Proofs.Ytmfbememiffkjaa.Ev.C
open Go Go.Proofs.Ytmfbememiffkjaa.Ev
set_option linter.unusedSimpArgs false
set_option linter.unusedVariables false
def yes : List AV → H → Option (AOut × H) := fun args h => match args with | [] => some (.val (.bool true), h) | _ => none
def ov0 : Ovs := fun f => if f = 13 then some yes else none
noncomputable def E0 : Env := ⟨TT, ov0⟩
theorem ovn (f : Nat) (h : (f == 13) = false := by decide) : E0.ov f = none := by
  simp only [beq_eq_false_iff_ne] at h
  show ov0 f = none
  unfold ov0
  rw [if_neg h]

theorem E0T (i : Nat) : E0.T i = TT i := rfl
theorem U3 : E0.T 3 = some f3_a := (E0T 3).trans T3
theorem U4 : E0.T 4 = some f4_a := (E0T 4).trans T4
theorem U5 : E0.T 5 = some f5_a := (E0T 5).trans T5
theorem U6 : E0.T 6 = some f6_a := (E0T 6).trans T6
theorem U7 : E0.T 7 = some f7_a := (E0T 7).trans T7
theorem U8 : E0.T 8 = some f8_a := (E0T 8).trans T8
theorem U9 : E0.T 9 = some f9_a := (E0T 9).trans T9
theorem U10 : E0.T 10 = some f10_a := (E0T 10).trans T10
theorem U11 : E0.T 11 = some f11_a := (E0T 11).trans T11
theorem U12 : E0.T 12 = some f12_a := (E0T 12).trans T12
theorem U14 : E0.T 14 = some f14_a := (E0T 14).trans T14
theorem U15 : E0.T 15 = some f15_a := (E0T 15).trans T15
theorem U16 : E0.T 16 = some f16_a := (E0T 16).trans T16
theorem U17 : E0.T 17 = some f17_a := (E0T 17).trans T17
theorem U18 : E0.T 18 = some f18_a := (E0T 18).trans T18
theorem U19 : E0.T 19 = some f19_a := (E0T 19).trans T19
theorem U20 : E0.T 20 = some f20_a := (E0T 20).trans T20
theorem U21 : E0.T 21 = some f21_a := (E0T 21).trans T21
theorem U22 : E0.T 22 = some f22_a := (E0T 22).trans T22
theorem U23 : E0.T 23 = some f23_a := (E0T 23).trans T23
theorem U24 : E0.T 24 = some f24_a := (E0T 24).trans T24
theorem U25 : E0.T 25 = some f25_a := (E0T 25).trans T25
theorem U26 : E0.T 26 = some f26_a := (E0T 26).trans T26
theorem U27 : E0.T 27 = some f27_a := (E0T 27).trans T27
theorem U28 : E0.T 28 = some f28_a := (E0T 28).trans T28
theorem U29 : E0.T 29 = some f29_a := (E0T 29).trans T29
theorem U31 : E0.T 31 = some f31_a := (E0T 31).trans T31
theorem U32 : E0.T 32 = some f32_a := (E0T 32).trans T32
theorem U33 : E0.T 33 = some f33_a := (E0T 33).trans T33
theorem U34 : E0.T 34 = some f34_a := (E0T 34).trans T34
theorem U35 : E0.T 35 = some f35_a := (E0T 35).trans T35
theorem U36 : E0.T 36 = some f36_a := (E0T 36).trans T36
theorem U37 : E0.T 37 = some f37_a := (E0T 37).trans T37
theorem U38 : E0.T 38 = some f38_a := (E0T 38).trans T38
theorem U39 : E0.T 39 = some f39_a := (E0T 39).trans T39
theorem U40 : E0.T 40 = some f40_a := (E0T 40).trans T40
theorem U41 : E0.T 41 = some f41_a := (E0T 41).trans T41
theorem U42 : E0.T 42 = some f42_a := (E0T 42).trans T42
theorem U43 : E0.T 43 = some f43_a := (E0T 43).trans T43
theorem U44 : E0.T 44 = some f44_a := (E0T 44).trans T44
theorem U45 : E0.T 45 = some f45_a := (E0T 45).trans T45
theorem U46 : E0.T 46 = some f46_a := (E0T 46).trans T46
theorem U47 : E0.T 47 = some f47_a := (E0T 47).trans T47
theorem U48 : E0.T 48 = some f48_a := (E0T 48).trans T48
theorem U49 : E0.T 49 = some f49_a := (E0T 49).trans T49
theorem U50 : E0.T 50 = some f50_a := (E0T 50).trans T50
theorem U51 : E0.T 51 = some f51_a := (E0T 51).trans T51
theorem U53 : E0.T 53 = some f53_a := (E0T 53).trans T53
theorem U54 : E0.T 54 = some f54_a := (E0T 54).trans T54
theorem U55 : E0.T 55 = some f55_a := (E0T 55).trans T55
theorem U56 : E0.T 56 = some f56_a := (E0T 56).trans T56
theorem U57 : E0.T 57 = some f57_a := (E0T 57).trans T57
theorem U58 : E0.T 58 = some f58_a := (E0T 58).trans T58
theorem U59 : E0.T 59 = some f59_a := (E0T 59).trans T59
theorem U60 : E0.T 60 = some f60_a := (E0T 60).trans T60
theorem U61 : E0.T 61 = some f61_a := (E0T 61).trans T61
theorem U62 : E0.T 62 = some f62_a := (E0T 62).trans T62
theorem U63 : E0.T 63 = some f63_a := (E0T 63).trans T63
theorem U64 : E0.T 64 = some f64_a := (E0T 64).trans T64
theorem U65 : E0.T 65 = some f65_a := (E0T 65).trans T65
theorem U66 : E0.T 66 = some f66_a := (E0T 66).trans T66
theorem U67 : E0.T 67 = some f67_a := (E0T 67).trans T67
theorem U68 : E0.T 68 = some f68_a := (E0T 68).trans T68
theorem U70 : E0.T 70 = some f70_a := (E0T 70).trans T70
theorem U71 : E0.T 71 = some f71_a := (E0T 71).trans T71
theorem U72 : E0.T 72 = some f72_a := (E0T 72).trans T72

/-! ### by plain definition -/
abbrev Sec := List UInt8
structure Dk where
  kept : List Sec
  waits : List (Nat × Sec)
  armed : Nat
  dead : Bool
def pad (b : Sec) : Sec := b ++ List.replicate (64 - b.length) 0
def Dk.new (n : Nat) : Dk := ⟨List.replicate n (List.replicate 64 0), [], 0, false⟩
def Dk.counted (D : Dk) : Dk := if 0 < D.armed then { D with armed := D.armed - 1, dead := decide (D.armed = 1) } else D
def Dk.has (D : Dk) (i : Int) : Bool := decide (0 ≤ i) && decide (i < (D.kept.length : Int))
def Dk.write (D : Dk) (i : Int) (b : Sec) : Dk × Nat :=
  if D.has i = false ∨ 64 < b.length then (D, 1) else if D.counted.dead then (D.counted, 20) else ({ D.counted with waits := D.counted.waits ++ [(i.toNat, pad b)] }, 0)
def putS (k : List Sec) (w : Nat × Sec) : List Sec := k.set w.1 w.2
def Dk.flush (D : Dk) : Dk × Nat := if D.counted.dead then (D.counted, 20) else ({ D.counted with kept := D.counted.waits.foldl putS D.counted.kept, waits := [] }, 0)
def Dk.arm (D : Dk) (n : Int) : Dk := if D.dead then D else { D with armed := n.toNat }
def keepAll : List Sec → List (Nat × Sec) → List Bool → List Sec
  | k, w :: ws, b :: bs => keepAll (if b then putS k w else k) ws bs
  | k, _, _ => k
def Dk.restart (D : Dk) (keep : List Bool) : Dk := ⟨keepAll D.kept D.waits keep, [], 0, false⟩
def findS (D : Dk) (i : Nat) : Sec := match D.waits.reverse.find? (fun w => w.1 == i) with | some w => w.2 | none => D.kept.getD i []
def Dk.read (D : Dk) (i : Int) : Sec × Nat := if D.has i = false then ([], 1) else if D.dead then ([], 20) else (findS D i.toNat, 0)

structure Dk.Ok (D : Dk) : Prop where
  n1 : 1 ≤ D.kept.length
  n2 : D.kept.length ≤ 65536
  k64 : ∀ b ∈ D.kept, b.length = 64
  w : ∀ w ∈ D.waits, w.1 < D.kept.length ∧ w.2.length = 64
  arm : D.armed < 9223372036854775808
theorem pad_len {b : Sec} (h : b.length ≤ 64) : (pad b).length = 64 := by simp [pad]; omega
theorem Dk.new_ok {n : Nat} (h1 : 1 ≤ n) (h2 : n ≤ 65536) : (Dk.new n).Ok := ⟨by simpa [Dk.new] using h1, by simpa [Dk.new] using h2, fun b hb => by rw [(List.mem_replicate.1 hb).2]; simp, fun w hw => by simp [Dk.new] at hw, by simp [Dk.new]⟩
theorem Dk.Ok.counted {D : Dk} (h : D.Ok) : D.counted.Ok := by
  unfold Dk.counted
  split
  · exact ⟨h.n1, h.n2, h.k64, h.w, by have := h.arm; simp only; omega⟩
  · exact h
theorem Dk.counted_kept (D : Dk) : D.counted.kept = D.kept := by unfold Dk.counted; split <;> rfl
theorem Dk.counted_waits (D : Dk) : D.counted.waits = D.waits := by unfold Dk.counted; split <;> rfl
theorem has_iff {D : Dk} {i : Int} : D.has i = true ↔ ∃ n : Nat, i = n ∧ n < D.kept.length := by
  unfold Dk.has
  rw [Bool.and_eq_true, decide_eq_true_eq, decide_eq_true_eq]
  constructor
  · rintro ⟨h1, h2⟩; exact ⟨i.toNat, by omega, by omega⟩
  · rintro ⟨n, rfl, h⟩; omega
theorem putS_len (k : List Sec) (w : Nat × Sec) : (putS k w).length = k.length := by simp [putS]
theorem putS_ok {k : List Sec} {w : Nat × Sec} (h : ∀ b ∈ k, b.length = 64) (hw : w.2.length = 64) : ∀ b ∈ putS k w, b.length = 64 := by
  intro b hb
  rcases List.mem_or_eq_of_mem_set hb with h1 | h1
  · exact h b h1
  · rw [h1]; exact hw
theorem foldS_ok : ∀ {ws : List (Nat × Sec)} {k : List Sec}, (∀ b ∈ k, b.length = 64) → (∀ w ∈ ws, w.2.length = 64) → (ws.foldl putS k).length = k.length ∧ ∀ b ∈ ws.foldl putS k, b.length = 64
  | [], k, h, _ => ⟨rfl, h⟩
  | w :: ws, k, h, hw => by
    obtain ⟨a, b⟩ := foldS_ok (ws := ws) (putS_ok h (hw w (by simp))) (fun x hx => hw x (by simp [hx]))
    exact ⟨by rw [List.foldl_cons, a, putS_len], b⟩
theorem keepAll_ok : ∀ {ws : List (Nat × Sec)} {k : List Sec} {bs : List Bool}, (∀ b ∈ k, b.length = 64) → (∀ w ∈ ws, w.2.length = 64) → (keepAll k ws bs).length = k.length ∧ ∀ b ∈ keepAll k ws bs, b.length = 64
  | [], k, bs, h, _ => by cases bs <;> exact ⟨rfl, h⟩
  | w :: ws, k, [], h, hw => ⟨rfl, h⟩
  | w :: ws, k, b :: bs, h, hw => by
    have hw' : ∀ x ∈ ws, x.2.length = 64 := fun x hx => hw x (by simp [hx])
    cases b with
    | true =>
      obtain ⟨a, b⟩ := keepAll_ok (ws := ws) (bs := bs) (putS_ok h (hw w (by simp))) hw'
      exact ⟨by simp only [keepAll, if_true]; rw [a, putS_len], b⟩
    | false => exact keepAll_ok (ws := ws) (bs := bs) h hw'
theorem Dk.Ok.write {D : Dk} (h : D.Ok) (i : Int) (b : Sec) : (D.write i b).1.Ok := by
  unfold Dk.write
  split
  · exact h
  rename_i hc
  split
  · exact h.counted
  · have c := h.counted
    refine ⟨c.n1, c.n2, c.k64, fun w hw => ?_, c.arm⟩
    simp only [List.mem_append, List.mem_cons, List.not_mem_nil, or_false] at hw
    rcases hw with hw | rfl
    · exact c.w w hw
    · have h1 : D.has i = true := by cases e : D.has i; exact absurd (.inl e) hc; rfl
      obtain ⟨n, rfl, hn⟩ := has_iff.1 h1
      simp only [Int.toNat_natCast]
      exact ⟨by rw [Dk.counted_kept]; exact hn, pad_len (by omega)⟩
theorem Dk.Ok.flush {D : Dk} (h : D.Ok) : D.flush.1.Ok := by
  unfold Dk.flush
  split
  · exact h.counted
  · have c := h.counted
    obtain ⟨a, b⟩ := foldS_ok (ws := D.counted.waits) c.k64 (fun w hw => (c.w w hw).2)
    exact ⟨by simp only; rw [a]; exact c.n1, by simp only; rw [a]; exact c.n2, b, fun w hw => by simp at hw, c.arm⟩
theorem Dk.Ok.arm' {D : Dk} (h : D.Ok) {n : Int} (hn : n < 9223372036854775808) : (D.arm n).Ok := by
  unfold Dk.arm
  split
  · exact h
  · exact ⟨h.n1, h.n2, h.k64, h.w, by simp only; omega⟩
theorem Dk.Ok.restart {D : Dk} (h : D.Ok) (keep : List Bool) : (D.restart keep).Ok := by
  obtain ⟨a, b⟩ := keepAll_ok (ws := D.waits) (bs := keep) h.k64 (fun w hw => (h.w w hw).2)
  exact ⟨by simp only [Dk.restart]; rw [a]; exact h.n1, by simp only [Dk.restart]; rw [a]; exact h.n2, b, fun w hw => by simp [Dk.restart] at hw, by simp [Dk.restart]⟩

/-! ### in memory -/
abbrev kcells (l : List Sec) : List AV := l.flatMap byteCells
def wcell (w : Nat × Sec) : List AV := .int .i64 (w.1 : Int) :: byteCells w.2
abbrev wcells (l : List (Nat × Sec)) : List AV := l.flatMap wcell
/-- the writes that wait: none at all, or in a group of their own -/
def Waits (h : H) (o gk : Nat) (wv : AV) (gs : List Nat) : Prop := (wv = .nils ∧ gs = [o, gk]) ∨ ∃ gw, gw ≠ o ∧ gw ≠ gk ∧ Grp gw h wv ∧ gs = [o, gk, gw]
structure DiskIs (h : H) (o gk : Nat) (k wv : AV) (gs : List Nat) (D : Dk) : Prop where
  box : Box o [k, wv, .int .i64 (D.armed : Int), .bool D.dead] h
  ks : Sl h 64 k D.kept.length (kcells D.kept)
  kg : Grp gk h k
  ws : Sl h 65 wv D.waits.length (wcells D.waits)
  ne : gk ≠ o
  wg : Waits h o gk wv gs
  ok : D.Ok
def DiskAt (h : H) (o : Nat) (gs : List Nat) (D : Dk) : Prop := ∃ gk k wv, DiskIs h o gk k wv gs D
/-- what a step makes of a disk's groups -/
def Next (gs gs' : List Nat) (h : H) : Prop := ∀ g ∈ gs', g ∈ gs ∨ h.n ≤ g
theorem Next.refl (gs : List Nat) (h : H) : Next gs gs h := fun g hg => .inl hg
theorem DiskIs.root {h : H} {o gk : Nat} {k wv : AV} {gs : List Nat} {D : Dk} (d : DiskIs h o gk k wv gs D) : ∀ g ∈ gs, Root g h := by
  intro g hg
  rcases d.wg with ⟨_, rfl⟩ | ⟨gw, _, _, a, rfl⟩
  · simp only [List.mem_cons, List.not_mem_nil, or_false] at hg
    rcases hg with rfl | rfl
    · exact d.box.root
    · exact d.kg.root
  · simp only [List.mem_cons, List.not_mem_nil, or_false] at hg
    rcases hg with rfl | rfl | rfl
    · exact d.box.root
    · exact d.kg.root
    · exact a.root
theorem DiskIs.sk {h : H} {o gk : Nat} {k wv : AV} {gs : List Nat} {D : Dk} (d : DiskIs h o gk k wv gs D) (wf : h.Wf) : Slot (Old h.n) h k := (d.kg.own wf (Nat.zero_le _)).slot wf
theorem DiskIs.sw {h : H} {o gk : Nat} {k wv : AV} {gs : List Nat} {D : Dk} (d : DiskIs h o gk k wv gs D) (wf : h.Wf) : Slot (Old h.n) h wv := by
  rcases d.wg with ⟨rfl, _⟩ | ⟨gw, _, _, a, rfl⟩
  · trivial
  · exact (a.own wf (Nat.zero_le _)).slot wf
theorem DiskIs.keep {h h' : H} {o gk : Nat} {k wv : AV} {gs : List Nat} {D : Dk} (d : DiskIs h o gk k wv gs D) (wf : h.Wf) (kk : Keep (Old h.n) h h') : DiskIs h' o gk k wv gs D := by
  refine ⟨d.box.keep kk (d.box.lt wf), d.ks.keep kk (d.sk wf), d.kg.keep (d.sk wf) kk, d.ws.keep kk (d.sw wf), d.ne, ?_, d.ok⟩
  rcases d.wg with ⟨rfl, e⟩ | ⟨gw, a1, a2, a3, e⟩
  · exact .inl ⟨rfl, e⟩
  · exact .inr ⟨gw, a1, a2, a3.keep ((a3.own wf (Nat.zero_le _)).slot wf) kk, e⟩
theorem DiskAt.keep {h h' : H} {o : Nat} {gs : List Nat} {D : Dk} (d : DiskAt h o gs D) (wf : h.Wf) (kk : Keep (Old h.n) h h') : DiskAt h' o gs D := by
  obtain ⟨gk, k, wv, d⟩ := d
  exact ⟨gk, k, wv, d.keep wf kk⟩
theorem DiskAt.ok {h : H} {o : Nat} {gs : List Nat} {D : Dk} (d : DiskAt h o gs D) : D.Ok := by obtain ⟨_, _, _, d⟩ := d; exact d.ok
theorem DiskAt.lt {h : H} {o : Nat} {gs : List Nat} {D : Dk} (d : DiskAt h o gs D) (wf : h.Wf) : ∀ g ∈ gs, g < h.n := by
  obtain ⟨_, _, _, d⟩ := d
  intro g hg
  obtain ⟨cs, e⟩ := d.root g hg
  exact wf.ob _ _ e
theorem Slot.next {gs gs' : List Nat} {h h' : H} (wf : h.Wf) {v : AV} (s : Slot (Apart gs h) h v) (k : KeepA gs h h') (hn : Next gs gs' h) : Slot (Apart gs' h') h' v := by
  have up : ∀ o, Apart gs h o → Apart gs' h' o := fun o x => ⟨Nat.lt_of_lt_of_le x.1 k.n, fun hm => by
    rcases hn _ hm with y | y
    · exact x.2.1 y
    · have := x.1; omega, fun cs g e hm => by
    rw [k.get _ x] at e
    rcases hn _ hm with y | y
    · exact x.2.2 _ _ e y
    · have := (wf.mem _ _ _ e).1; have := x.1; omega⟩
  exact s.keep k up

/-! ### small functions -/
theorem len_spec {h : H} {o : Nat} {gs : List Nat} {D : Dk} (d : DiskAt h o gs D) : WCall E0 29 [.ptr o 0] h fun r h' => h' = h ∧ r = .val (.int .i64 (D.kept.length : Int)) := by
  obtain ⟨gk, k, wv, d⟩ := d
  refine WCall_ws (ovn 29) U29 (by simp [f29_a]) ?_
  show WS E0 f29_c [] _ _ _
  refine WS_of_seq (WS_of_ops ?_)
  simp only [f29_r0, go_sem, ↓reduceIte]
  refine WS_of_seq (WS_of_seq (WS_of_ops ?_))
  simp only [f29_r1, go_sem, ↓reduceIte, Nat.reduceEqDiff]
  refine WS_of_cond ?_
  simp only [go_sem, ↓reduceIte, Bool.false_eq_true]
  refine WS_of_skip ?_
  simp only [go_sem]
  refine WS_of_seq (WS_of_ops ?_)
  simp only [f29_r3, go_sem, ↓reduceIte, Nat.reduceEqDiff, Nat.zero_add, d.box.load, d.ks.len]
  refine WS_of_ret ?_
  simp only [go_sem, f29_a, ↓reduceIte, Nat.reduceEqDiff]
  exact ⟨trivial, trivial⟩
theorem len_nil {h : H} : WCall E0 29 [.nilp] h fun r h' => h' = h ∧ r = .val (.int .i64 0) := by
  refine WCall_ws (ovn 29) U29 (by simp [f29_a]) ?_
  show WS E0 f29_c [] _ _ _
  refine WS_of_seq (WS_of_ops ?_)
  simp only [f29_r0, go_sem, ↓reduceIte]
  refine WS_of_seq (WS_of_seq (WS_of_ops ?_))
  simp only [f29_r1, go_sem, ↓reduceIte, Nat.reduceEqDiff]
  refine WS_of_cond ?_
  simp only [go_sem, ↓reduceIte, Bool.false_eq_true]
  refine WS_of_seq (WS_of_ops ?_)
  simp only [f29_r2, go_sem, ↓reduceIte, Nat.reduceEqDiff]
  refine WS_of_ret ?_
  simp only [go_sem, f29_a, ↓reduceIte, Nat.reduceEqDiff]
  exact ⟨trivial, trivial⟩
theorem dead_spec {h : H} {o : Nat} {gs : List Nat} {D : Dk} (d : DiskAt h o gs D) : WCall E0 28 [.ptr o 0] h fun r h' => h' = h ∧ r = .val (.bool D.dead) := by
  obtain ⟨gk, k, wv, d⟩ := d
  refine WCall_ws (ovn 28) U28 (by simp [f28_a]) ?_
  show WS E0 f28_c [] _ _ _
  refine WS_of_seq (WS_of_ops ?_)
  simp only [f28_r0, go_sem, ↓reduceIte]
  refine WS_of_seq (WS_of_ops ?_)
  simp only [f28_r1, go_sem, ↓reduceIte, Nat.reduceEqDiff, Bool.not_false, Nat.zero_add, d.box.load]
  refine WS_of_ret ?_
  simp only [go_sem, f28_a, ↓reduceIte, Nat.reduceEqDiff]
  exact ⟨trivial, trivial⟩
theorem dead_nil {h : H} : WCall E0 28 [.nilp] h fun r h' => h' = h ∧ r = .val (.bool false) := by
  refine WCall_ws (ovn 28) U28 (by simp [f28_a]) ?_
  show WS E0 f28_c [] _ _ _
  refine WS_of_seq (WS_of_ops ?_)
  simp only [f28_r0, go_sem, ↓reduceIte]
  refine WS_of_seq (WS_of_ops ?_)
  simp only [f28_r1, go_sem, ↓reduceIte, Nat.reduceEqDiff, Bool.not_true, Bool.false_eq_true]
  refine WS_of_ret ?_
  simp only [go_sem, f28_a, ↓reduceIte, Nat.reduceEqDiff]
  exact ⟨trivial, trivial⟩
theorem waiting_spec {h : H} {o : Nat} {gs : List Nat} {D : Dk} (d : DiskAt h o gs D) : WCall E0 23 [.ptr o 0] h fun r h' => h' = h ∧ r = .val (.int .i64 (D.waits.length : Int)) := by
  obtain ⟨gk, k, wv, d⟩ := d
  refine WCall_ws (ovn 23) U23 (by simp [f23_a]) ?_
  show WS E0 f23_c [] _ _ _
  refine WS_of_seq (WS_of_ops ?_)
  simp only [f23_r0, go_sem, ↓reduceIte]
  refine WS_of_seq (WS_of_seq (WS_of_ops ?_))
  simp only [f23_r1, go_sem, ↓reduceIte, Nat.reduceEqDiff]
  refine WS_of_cond ?_
  simp only [go_sem, ↓reduceIte, Bool.false_eq_true]
  refine WS_of_skip ?_
  simp only [go_sem]
  refine WS_of_seq (WS_of_ops ?_)
  simp only [f23_r3, go_sem, ↓reduceIte, Nat.reduceEqDiff, Nat.zero_add, d.box.load, d.ws.len]
  refine WS_of_ret ?_
  simp only [go_sem, f23_a, ↓reduceIte, Nat.reduceEqDiff]
  exact ⟨trivial, trivial⟩
theorem waiting_nil {h : H} : WCall E0 23 [.nilp] h fun r h' => h' = h ∧ r = .val (.int .i64 0) := by
  refine WCall_ws (ovn 23) U23 (by simp [f23_a]) ?_
  show WS E0 f23_c [] _ _ _
  refine WS_of_seq (WS_of_ops ?_)
  simp only [f23_r0, go_sem, ↓reduceIte]
  refine WS_of_seq (WS_of_seq (WS_of_ops ?_))
  simp only [f23_r1, go_sem, ↓reduceIte, Nat.reduceEqDiff]
  refine WS_of_cond ?_
  simp only [go_sem, ↓reduceIte, Bool.false_eq_true]
  refine WS_of_seq (WS_of_ops ?_)
  simp only [f23_r2, go_sem, ↓reduceIte, Nat.reduceEqDiff]
  refine WS_of_ret ?_
  simp only [go_sem, f23_a, ↓reduceIte, Nat.reduceEqDiff]
  exact ⟨trivial, trivial⟩
theorem is_spec {h : H} {o : Nat} {gs : List Nat} {D : Dk} (d : DiskAt h o gs D) (i : Int) : WCall E0 43 [.ptr o 0, .int .i64 i] h fun r h' => h' = h ∧ r = .val (.bool (D.has i)) := by
  refine WCall_ws (ovn 43) U43 (by simp [f43_a]) ?_
  show WS E0 f43_c [] _ _ _
  refine WS_of_seq (WS_of_ops ?_)
  simp only [f43_r0, go_sem, ↓reduceIte]
  refine WS_of_seq (WS_of_ops ?_)
  by_cases c : 0 ≤ i
  · simp only [f43_r1, go_sem, ↓reduceIte, Nat.reduceEqDiff, c, decide_true]
    refine (len_spec d).mono ?_
    rintro r h' ⟨rfl, rfl⟩
    simp only [go_sem, ↓reduceIte, Nat.reduceEqDiff]
    refine WS_of_ret ?_
    simp only [go_sem, f43_a, ↓reduceIte, Nat.reduceEqDiff, Dk.has, c, decide_true, Bool.true_and, true_and]
  · simp only [f43_r1, go_sem, ↓reduceIte, Nat.reduceEqDiff, c, decide_false, Bool.false_eq_true]
    refine WS_of_ret ?_
    simp only [go_sem, f43_a, ↓reduceIte, Nat.reduceEqDiff, Dk.has, c, decide_false, Bool.false_and, true_and]
theorem is_nil {h : H} (i : Int) : WCall E0 43 [.nilp, .int .i64 i] h fun r h' => h' = h ∧ r = .val (.bool false) := by
  refine WCall_ws (ovn 43) U43 (by simp [f43_a]) ?_
  show WS E0 f43_c [] _ _ _
  refine WS_of_seq (WS_of_ops ?_)
  simp only [f43_r0, go_sem, ↓reduceIte]
  refine WS_of_seq (WS_of_ops ?_)
  by_cases c : 0 ≤ i
  · simp only [f43_r1, go_sem, ↓reduceIte, Nat.reduceEqDiff, c, decide_true]
    refine len_nil.mono ?_
    rintro r h' ⟨rfl, rfl⟩
    have c' : ¬ i < 0 := by omega
    simp only [go_sem, ↓reduceIte, Nat.reduceEqDiff]
    refine WS_of_ret ?_
    simp only [go_sem, f43_a, ↓reduceIte, Nat.reduceEqDiff, c', decide_false, true_and]
  · simp only [f43_r1, go_sem, ↓reduceIte, Nat.reduceEqDiff, c, decide_false, Bool.false_eq_true]
    refine WS_of_ret ?_
    simp only [go_sem, f43_a, ↓reduceIte, Nat.reduceEqDiff, Bool.false_and, true_and]
end Go.Proofs.Ytmfbememiffkjaa.Ev.C

/- The law JournalSizes, walked. -/
import Derived.Test.YtmfbememiffkjaaTJD
namespace Go.Proofs.Ytmfbememiffkjaa.Ev.C
open Go Go.Proofs.Ytmfbememiffkjaa.Ev
set_option linter.unusedSimpArgs false
set_option linter.unusedVariables false
abbrev BRt : AOut → H → Prop := fun r _ => r = .val (.bool true)
theorem make_bytes {h : H} (wf : h.Wf) {k : Nat} (hk : k ≤ 1000000) :
    ∃ h', makeSliceA h 1 1 [.int .u8 0] (.int .i64 (k : Int)) (.int .i64 (k : Int)) = some (.slice h.n 0 k 1, h') ∧ Bytes h' (.slice h.n 0 k 1) (List.replicate k 0) ∧ Own h.n h' (.slice h.n 0 k 1) ∧ Keep (Old h.n) h h' ∧ h'.n = h.n + 1 := by
  have hz : zeros [AV.int .u8 0] (k * 1) = List.replicate k (AV.int .u8 0) := by rw [Nat.mul_one]; exact zeros_rep _ 1 k (by decide)
  refine ⟨h.new (List.replicate k (AV.int .u8 0)), ?_, ?_, Own.new wf (Nat.le_refl _) (by simp), Keep.new (Nat.le_refl _) _, rfl⟩
  · unfold makeSliceA
    simp only
    rw [if_pos ⟨by omega, Int.le_refl _, by omega, by omega⟩, Int.toNat_natCast, hz]
  · have := Sl.new (es := 1) (n := k) wf (vs := List.replicate k (AV.int .u8 0)) (by simp)
    rw [List.take_of_length_le (by simp)] at this
    show Sl _ 1 _ (List.replicate k (0 : UInt8)).length _
    simpa [byteCells] using this
theorem sizes_answer {h : H} {n ep : Nat} (wf : h.Wf) (hn : n < 65536) (hep : ep < 18446744073709551616) : WCall E0 10 [.int .u16 (n : Int), .int .u64 (ep : Int)] h BRt := by
  refine WCall_ws (ovn 10) U10 (by simp [f10_a]) ?_
  show WS E0 f10_c [] _ _ _
  refine WS_of_seq (WS_of_ops ?_)
  simp only [f10_r0, go_sem, ↓reduceIte]
  refine WS_of_seq (WS_of_ops ?_)
  simp only [f10_r1, go_sem, ↓reduceIte, Nat.reduceEqDiff]
  refine WCall_ov (g := yes) rfl rfl ?_
  simp only [go_sem, ↓reduceIte, Nat.reduceEqDiff]
  refine WS_of_seq (WS_of_seq (WS_of_ops ?_))
  simp only [f10_r2, go_sem, ↓reduceIte, Nat.reduceEqDiff]
  refine WS_of_cond ?_
  simp only [go_sem, ↓reduceIte, Nat.reduceEqDiff, Bool.not_true, Bool.false_eq_true]
  refine WS_of_skip ?_
  simp only [go_sem]
  obtain ⟨k, hk⟩ : ∃ k, k = n % 700 := ⟨_, rfl⟩
  have hk7 : k < 700 := by omega
  have w0 : IntKind.i64.wrap (n : Int) = (n : Int) := wrap_i64 (by omega) (by omega)
  have w1 : Int.tmod (n : Int) 700 = (k : Int) := by rw [Int.tmod_eq_emod_of_nonneg (by omega)]; omega
  refine WS_of_seq (WS_of_ops ?_)
  simp only [f10_r4, go_sem, ↓reduceIte, Nat.reduceEqDiff, w0, w1, (by decide : ¬ (700 : Int) = 0)]
  refine WS_of_seq (WS_of_ops ?_)
  simp only [f10_r5, go_sem, ↓reduceIte, Nat.reduceEqDiff]
  refine (size_spec (n := (k : Int)) (by omega) (by omega)).mono ?_
  rintro r h1 ⟨hh, rfl⟩
  have hh' := hh.symm
  subst hh'
  simp only [go_sem, ↓reduceIte, Nat.reduceEqDiff, Int.toNat_natCast]
  generalize hz : jsize k = z
  have hz1 : 1 ≤ z ∧ z ≤ 13 := by unfold jsize at hz; omega
  have w2 : IntKind.i64.wrap ((z : Int) + 3) = ((z + 3 : Nat) : Int) := by rw [wrap_i64 (by omega) (by omega)]; omega
  refine WS_of_seq (WS_of_ops ?_)
  simp only [f10_r6, go_sem, ↓reduceIte, Nat.reduceEqDiff, w2]
  refine (new_spec wf (n := z + 3) (by omega) (by omega)).mono ?_
  rintro r h1 ⟨o, gs, rfl, d1, k1, hg1⟩
  have wf1 := k1.wf wf
  simp only [go_sem, ↓reduceIte, Nat.reduceEqDiff, List.getElem?_cons_zero, List.getElem?_cons_succ]
  refine WS_of_seq (WS_of_seq (WS_of_ops ?_))
  simp only [f10_r7, go_sem, ↓reduceIte, Nat.reduceEqDiff, decide_true, Bool.not_true]
  refine WS_of_cond ?_
  simp only [go_sem, ↓reduceIte, Bool.false_eq_true]
  refine WS_of_skip ?_
  simp only [go_sem]
  have w3 : IntKind.i64.wrap (1 + (z : Int)) = ((z + 1 : Nat) : Int) := by rw [wrap_i64 (by omega) (by omega)]; omega
  have hkl : (Dk.new (z + 3)).kept.length = z + 3 := by simp [Dk.new]
  have hdd : (Dk.new (z + 3)).dead = false := rfl
  have hda : (Dk.new (z + 3)).armed = 0 := rfl
  have hdw : (Dk.new (z + 3)).waits = [] := rfl
  have oa := jopen_spec (fr := 1) (to := z + 1) (ep := ep) wf1 d1 hdd (by omega) (by rw [hkl]; omega) (by rw [hdw]; simp) hep
  rw [jopen_new (by omega)] at oa
  refine WS_of_seq (WS_of_ops ?_)
  simp only [f10_r9, go_sem, ↓reduceIte, Nat.reduceEqDiff, w3]
  refine oa.mono ?_
  rintro r h2 ⟨la, ga, rva, usa, rfl, lg2, rc2, k2, hga, -, -, -⟩
  have wf2 := k2.wf wf1
  have d2 := d1.keep wf1 k2
  have ob := jopen_spec (fr := 1) (to := z) (ep := ep) wf2 d2 hdd (by omega) (by rw [hkl]; omega) (by rw [hdw]; simp) hep
  rw [jopen_new (by omega)] at ob
  simp only [go_sem, ↓reduceIte, Nat.reduceEqDiff, List.getElem?_cons_zero, List.getElem?_cons_succ]
  refine WS_of_seq (WS_of_ops ?_)
  simp only [f10_r10, go_sem, ↓reduceIte, Nat.reduceEqDiff]
  refine ob.mono ?_
  rintro r h3 ⟨lb, gb, rvb, usb, rfl, lg3, rc3, k3, hgb, -, -, -⟩
  have wf3 := k3.wf wf2
  have d3 := d2.keep wf2 k3
  have la3 := lg2.keep wf2 k3
  have ra3 := rc2.next wf2 (KeepA.of k3) (Next.refl _ _)
  simp only [go_sem, ↓reduceIte, Nat.reduceEqDiff, List.getElem?_cons_zero, List.getElem?_cons_succ]
  refine WS_of_seq (WS_of_seq (WS_of_ops ?_))
  simp only [f10_r11, go_sem, ↓reduceIte, Nat.reduceEqDiff, decide_true, Bool.not_true, Bool.false_eq_true]
  refine WS_of_cond ?_
  simp only [go_sem, ↓reduceIte, Bool.false_eq_true]
  refine WS_of_skip ?_
  simp only [go_sem]
  obtain ⟨h4, e4, bx, ox, k4, n4⟩ := make_bytes wf3 (k := k) (by omega)
  have wf4 := k4.wf wf3
  have d4 := d3.keep wf3 k4
  have la4 := la3.keep wf3 k4
  have lb4 := lg3.keep wf3 k4
  have ra4 := ra3.next wf3 (KeepA.of k4) (Next.refl _ _)
  have rb4 := rc3.next wf3 (KeepA.of k4) (Next.refl _ _)
  refine WS_of_seq (WS_of_ops ?_)
  simp only [f10_r13, go_sem, ↓reduceIte, Nat.reduceEqDiff, e4]
  -- which groups are whose
  have hgs1 : ∀ g ∈ gs, g < h1.n := d1.lt wf1
  have hga2 : ∀ g ∈ ga, g < h2.n := lg2.lt wf2
  have dab : ∀ g ∈ ga, g ∉ gs := fun g hg hm => by have := hga g hg; have := hgs1 g hm; omega
  have dbb : ∀ g ∈ gb, g ∉ gs := fun g hg hm => by have := hgb g hg; have := hgs1 g hm; have := k2.n; omega
  have dba : ∀ g ∈ gb, g ∉ ga := fun g hg hm => by have := hgb g hg; have := hga2 g hm; omega
  have r3 : ∀ g ∈ gb ++ (ga ++ gs), g < h3.n ∧ Root g h3 := fun g hg => by
    rcases List.mem_append.1 hg with x | x
    · exact ⟨lg3.lt wf3 g x, lg3.root g x⟩
    · rcases List.mem_append.1 x with x | x
      · exact ⟨la3.lt wf3 g x, la3.root g x⟩
      · exact ⟨d3.lt wf3 g x, d3.root g x⟩
  have sx := own_apart wf4 ox k4 r3
  have hxl : (List.replicate k (0 : UInt8)).length = k := by simp
  have us0 : ∀ {F : List Nat} {h : H} {us : List AV}, Recs F h us [] → us.length = 0 := fun r => by rw [r.1]; rfl
  -- the first append: full
  have ja : jappend (Dk.new (z + 3)) 1 z ep usb.length (List.replicate k 0) = (Dk.new (z + 3), 21) := by
    unfold jappend
    rw [hxl, hz, if_neg (by omega), if_pos (by omega)]
  have ap := append_spec wf4 lb4 d4 dbb rb4 bx (apart_less sx (fun g hg => by rcases List.mem_append.1 hg with x | x <;> simp [x])) (by omega) (by omega) (by rw [us0 rb4]; omega) (by rw [hdw]; simp) (by rw [hxl]; omega) hep
  rw [ja] at ap
  refine WS_of_seq (WS_of_ops ?_)
  simp only [f10_r14, go_sem, ↓reduceIte, Nat.reduceEqDiff]
  refine ap.mono ?_
  rintro r h5 ⟨gs5, gb5, rvb5, usb5, rfl, d5, lb5, rb5, k5, nx5, dis5⟩
  have wf5 := k5.wf wf4
  have hr4 : ∀ g ∈ gb ++ gs, Root g h4 := fun g hg => by
    rcases List.mem_append.1 hg with x | x
    · exact lb4.root g x
    · exact d4.root g x
  have x4 : ∀ g ∈ ga, g ∉ gb ++ gs := fun g hg hm => by
    rcases List.mem_append.1 hm with x | x
    · exact dba g x hg
    · exact dab g hg x
  have la5 := la4.apart wf4 k5 x4 hr4
  have hx5 : ∀ g ∈ ga, g ∉ gs5 := fun g hg hm => by
    rcases nx5 g (by simp [hm]) with x | x
    · exact x4 g hg x
    · have := hga2 g hg; have := k3.n; have := k4.n; omega
  have us0' : usa.length = 0 := us0 ra4
  have ra5 : Recs (ga ++ gs5) h5 usa [] := ⟨us0', fun i u hu => by have := (List.getElem?_eq_some_iff.1 hu).1; omega⟩
  have kx : KeepA (gb ++ (ga ++ gs)) h4 h5 := k5.mono fun g hg => by rcases List.mem_append.1 hg with x | x <;> simp [x]
  have nx : Next (gb ++ (ga ++ gs)) (ga ++ gs5) h4 := fun g hg => by
    rcases List.mem_append.1 hg with x | x
    · exact .inl (by simp [x])
    · rcases nx5 g (by simp [x]) with y | y
      · exact .inl (by rcases List.mem_append.1 y with y | y <;> simp [y])
      · exact .inr y
  have sx5 := Slot.next wf4 sx kx nx
  have bx5 := bx.keep k5 (apart_less sx (fun g hg => by rcases List.mem_append.1 hg with x | x <;> simp [x]))
  have ja2 := jappend_live (D := Dk.new (z + 3)) hda hdd hdw (fr := 1) (to := z + 1) (ep := ep) (k := usa.length) (b := List.replicate k 0) (by rw [hxl]; omega) (by rw [hxl, hz]; omega) (by rw [hkl]; omega) hep (by omega)
  generalize hD6 : ({ Dk.new (z + 3) with kept := (recW 1 ep usa.length (List.replicate k 0)).foldl putS (Dk.new (z + 3)).kept, waits := [] } : Dk) = D6 at ja2
  have ap2 := append_spec wf5 la5 d5 hx5 ra5 bx5 sx5 (by omega) (by omega) (by omega) (by rw [hdw]; simp) (by rw [hxl]; omega) hep
  rw [ja2] at ap2
  simp only [go_sem, ↓reduceIte, Nat.reduceEqDiff, decide_true, (by decide : ((21 : Nat) : Int) = 21)]
  refine ap2.mono ?_
  rintro r h6 ⟨gs6, ga6, rva6, usa6, rfl, d6, la6, ra6, k6, nx6, dis6⟩
  have wf6 := k6.wf wf5
  simp only [if_pos] at la6 ra6
  rw [hxl, hz] at la6
  have hw6 : D6.waits.length = 0 := by rw [← hD6]; rfl
  simp only [go_sem, ↓reduceIte, Nat.reduceEqDiff, decide_true, (by decide : ((0 : Nat) : Int) = 0)]
  refine (room_spec la6).mono ?_
  rintro r h7 ⟨hh, rfl⟩
  have hh' := hh.symm
  subst hh'
  have r0 : ((z + 1 : Nat) : Int) - ((1 + z : Nat) : Int) = 0 := by omega
  simp only [go_sem, ↓reduceIte, Nat.reduceEqDiff, r0, decide_true]
  have ja3 : jappend D6 (1 + z) (z + 1) ep usa6.length [] = (D6, 21) := by
    unfold jappend
    rw [if_neg (by simp), if_pos (by simp [jsize]; omega)]
  have hu6 : usa6.length = 1 := by rw [ra6.1]; rfl
  have ap3 := append_spec wf6 la6 d6 dis6 ra6 (Bytes.none _) (bv := .nils) trivial (by omega) (by omega) (by omega) (by show D6.waits.length < _; omega) (by simp) hep
  rw [ja3] at ap3
  refine ap3.mono ?_
  rintro r h8 ⟨gs8, ga8, rva8, usa8, rfl, d8, la8, ra8, k8, nx8, dis8⟩
  simp only [go_sem, ↓reduceIte, Nat.reduceEqDiff, decide_true, (by decide : ((21 : Nat) : Int) = 21)]
  refine (size_spec (n := -1) (by omega) (by omega)).mono ?_
  rintro r h9 ⟨hh, rfl⟩
  have v1 : IntKind.i64.wrap ((z : Int) - 1) = (z : Int) - 1 := wrap_i64 (by omega) (by omega)
  have v2 : IntKind.i64.wrap ((z : Int) - 2) = (z : Int) - 2 := wrap_i64 (by omega) (by omega)
  have v3 : IntKind.i64.wrap (63 * ((z : Int) - 1)) = 63 * ((z : Int) - 1) := wrap_i64 (by omega) (by omega)
  have v4 : IntKind.i64.wrap (63 * ((z : Int) - 2)) = 63 * ((z : Int) - 2) := wrap_i64 (by omega) (by omega)
  have c1 : (k : Int) ≤ 63 * ((z : Int) - 1) := by unfold jsize at hz; omega
  have j1 : ((jsize (-1 : Int).toNat : Nat) : Int) = 1 := rfl
  have done : ∀ {s : S} {h : H}, s 4 = .bool true → WS E0 .ret [] (atEnd f10_a.results BRt) s h := by
    intro s h e
    refine WS_of_ret ?_
    simp only [f10_a, go_sem, ↓reduceIte, Nat.reduceEqDiff, e]
  by_cases c0 : k = 0
  · have c0d : decide ((k : Int) = 0) = true := decide_eq_true (by omega)
    simp only [go_sem, ↓reduceIte, Nat.reduceEqDiff, j1, v1, v2, v3, v4, c1, c0d, decide_true, (by decide : ((0 : Nat) : Int) = 0), Bool.true_eq_false]
    refine done ?_
    rfl
  · have c0' : ¬ (k : Int) = 0 := by omega
    have c2 : 63 * ((z : Int) - 2) < (k : Int) := by unfold jsize at hz; omega
    simp only [go_sem, ↓reduceIte, Nat.reduceEqDiff, j1, v1, v2, v3, v4, c1, c2, c0', decide_true, decide_false, (by decide : ((0 : Nat) : Int) = 0), Bool.true_eq_false]
    refine done ?_
    rfl
end Go.Proofs.Ytmfbememiffkjaa.Ev.C

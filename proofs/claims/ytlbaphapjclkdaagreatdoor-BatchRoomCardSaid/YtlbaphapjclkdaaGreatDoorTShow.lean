/- print.Show: what it answers, by the kit's contracts of a builder. -/
import Derived.Test.YtlbaphapjclkdaaGreatDoorTBase
import Derived.Shelf.Strings.BuilderK
import Derived.Room.Shelf.Join48
import Derived.WalkKit
import Derived.Test.YtlbaphapjclkdaaGreatDoorEv30
set_option linter.unusedVariables false
namespace Go.Proofs
open Go.Shelf Go.RowKit
theorem Tryz.Builder_Extra_156 : Builder.Extra Tryz.prog Tryz.lays156_ren := {
  sizeBuilder := by kernel_rfl
  liesBuilder := by kernel_rfl
  t5 := Tryz.underlying5
  a5 := Tryz.isAgg5
  z5 := Tryz.sizeOf5
  v5 := Tryz.zeroValue5
  infoByte := by kernel_rfl
  cellsByte := by kernel_rfl
  sizeByte := by kernel_rfl
  neB5 := by decide }
theorem Tryz.ws (B b : Nat) (bs : List Value) (s : ByteArray) (w : World) (h : Lib.IsBuilderF 185 5 B b bs w) (hlen : bs.length + s.size ≤ 140737488355328) (hBw : B ≤ w.heap.size) :
    Calls Tryz.prog 93 #[.pointer (some ⟨b, 0, none⟩), .string s] w fun e w' => e = .returned (.tuple #[.int .i64 s.size, .nilIface]) ∧ (Lib.BuilderAtF 185 5 B b (.pointer (some ⟨b, 0, none⟩)) (bs ++ Lib.strCells s) w' ∧ Below B w w' ∧ Lib.OthersKept 5 (some b) w w') :=
  Any.Builder_WriteString_k { Tryz.lays156 with } Tryz.Builder_Extra_156 B b bs s w h hlen hBw
theorem Tryz.st (B b : Nat) (l : List UInt8) (w : World) (h : Lib.IsBuilderF 185 5 B b (Lib.byteCells l) w) (hBw : B ≤ w.heap.size) :
    Calls Tryz.prog 95 #[.pointer (some ⟨b, 0, none⟩)] w fun e w' => e = .returned (.string ⟨l.toArray⟩) ∧ (Lib.IsBuilderF 185 5 B b (Lib.byteCells l) w' ∧ Below B w w' ∧ Lib.OthersKept 5 (some b) w w') :=
  Any.Builder_String_any_k { Tryz.lays156 with } Tryz.Builder_Extra_156 B b l w h hBw

theorem bldBelow {T e : TypeId} {B b : Nat} {p : Value} {bs : List Value} {W W' : World} (h : Lib.BuilderAtF T e B b p bs W) (hb : Below W.heap.size W W') : Lib.BuilderAtF T e B b p bs W' := by
  have hlt := h.lt
  obtain ⟨hB, v, hv, hown, hne⟩ := h
  exact ⟨hB, v, (hb.block b hlt).trans hv, hown.kept (row := none) ⟨hb.os, hb.tape, hb.output, hb.size, fun k hk _ => hb.block k hk⟩ (Classical.em _), hne⟩
theorem isBldBelow {T e : TypeId} {B b : Nat} {bs : List Value} {W W' : World} (h : Lib.IsBuilderF T e B b bs W) (hb : Below W.heap.size W W') : Lib.IsBuilderF T e B b bs W' :=
  h.elim (fun x => .inl (bldBelow x hb)) (fun x => .inr (bldBelow x hb))
/-- the relations of a type as a text, so many -/
def relsT (rt : Nat → Nat → List UInt8) (k m : Nat) : List UInt8 := (List.range m).flatMap (rt k)
def headT (s : List UInt8) : List UInt8 := [116, 121, 112, 101, 32] ++ s ++ [32, 123, 10]
def typeT (name : Nat → List UInt8) (rn : Nat → Nat) (rt : Nat → Nat → List UInt8) (k : Nat) : List UInt8 := headT (name k) ++ relsT rt k (rn k) ++ [125, 10]
def showT (name : Nat → List UInt8) (rn : Nat → Nat) (rt : Nat → Nat → List UInt8) (n : Nat) : List UInt8 := (List.range n).flatMap (typeT name rn rt)

set_option maxHeartbeats 4000000 in
set_option maxRecDepth 100000 in
theorem Tryz.show_calls (n bk o c : Nat) (name : Nat → List UInt8) (ra : Nat → Option Addr) (rn rc : Nat → Nat) (rv : Nat → Nat → Nat → Value) (rt : Nat → Nat → List UInt8) (w : World)
    (hbk : bk < w.heap.size) (hn : n ≤ 1000000) (hrn : ∀ k, k < n → rn k ≤ 1000000)
    (hT : ∀ k, k < n → w.cell? ⟨bk, o + k * 2, none⟩ = some (.string ⟨⟨name k⟩⟩) ∧ w.cell? ⟨bk, o + k * 2 + 1, none⟩ = some (.slice (ra k) (rn k) (rc k)))
    (hR : ∀ k j, k < n → j < rn k → ∃ b' o', ra k = some ⟨b', o', none⟩ ∧ b' < w.heap.size ∧ ∀ i, i < 6 → w.cell? ⟨b', o' + j * 6 + i, none⟩ = some (rv k j i))
    (hO : ∀ k j, k < n → j < rn k → ∃ s0 s1 s2 s3 a1 n1 c1 a2 n2 c2, rv k j 0 = .string s0 ∧ rv k j 1 = .string s1 ∧ rv k j 2 = .string s2 ∧ rv k j 3 = .string s3 ∧ rv k j 4 = .slice a1 n1 c1 ∧ rv k j 5 = .slice a2 n2 c2)
    (hC : ∀ k j w', k < n → j < rn k → Below w.heap.size w w' → Calls Tryz.prog 94 #[.agg #[rv k j 0, rv k j 1, rv k j 2, rv k j 3, rv k j 4, rv k j 5]] w' fun e w'' => e = .returned (.string ⟨⟨rt k j⟩⟩) ∧ Below w'.heap.size w' w'')
    (hlen : ∀ k m, k < n → m ≤ rn k → (showT name rn rt k ++ headT (name k) ++ relsT rt k m ++ [125, 10]).length ≤ 1000000) :
    Calls Tryz.prog 50 #[.agg #[.slice (some ⟨bk, o, none⟩) n c]] w fun e w' => e = .returned (.string ⟨⟨showT name rn rt n⟩⟩) ∧ Below w.heap.size w w' := by
  have e94 : ∀ args w, (callFunc 94 args).run Tryz.prog w = .ok (.enter 94 args) w := enters_of Tryz.func94 (by kernel_rfl) rfl
  have e93 : ∀ args w, (callFunc 93 args).run Tryz.prog w = .ok (.enter 93 args) w := enters_of Tryz.func93 (by kernel_rfl) rfl
  have e95 : ∀ args w, (callFunc 95 args).run Tryz.prog w = .ok (.enter 95 args) w := enters_of Tryz.func95 (by kernel_rfl) rfl
  have HT := Any.hidJ hT
  have HR := Any.hidJ hR
  have HC := Any.hidJ hC
  have HO := Any.hidJ hO
  have HL := Any.hidJ hlen
  have HN := Any.hidJ hrn
  clear hT hR hC hO hlen hrn
  go_enter Tryz.func50, Tryz.ntmps50
  go_wp2_with fail
  go_loopw [11] (fun i wr => ∃ k : Nat, k ≤ n ∧ i = .int .i64 k ∧ Hid (Lib.IsBuilderF 185 5 w.heap.size (w.heap.size + 1) (Lib.byteCells (showT name rn rt k)) wr) ∧ Hid (Below w.heap.size w wr)) (fun i _ => n - (intOf i).toNat)
  case atStart =>
    refine ⟨0, Nat.zero_le _, rfl, Any.hidJ ?_, Any.hidJ ?_⟩
    · refine .inl ⟨by omega, .slice none 0 0, ?_, World.ownsRowF_nil _ _ _ _, by simp [Value.ownBlock]⟩
      exact (congrArg (fun i => ((w.alloc (.cells #[.slice (some ⟨bk, o, none⟩) n c] 109)).alloc (.cells #[.pointer none, .slice none 0 0] 185)).heap[i]?) (show w.heap.size + 1 = (w.alloc (.cells #[.slice (some ⟨bk, o, none⟩) n c] 109)).heap.size by simp)).trans (heap_alloc_new _ _)
    · exact ((Below.refl w.heap.size w).alloc (Nat.le_refl _) _).alloc (by simp) _
  case round =>
    obtain ⟨k, hk, rfl, HB, HW⟩ := hrel
    by_cases hkn : k < n
    · obtain ⟨c1, c2⟩ := HT.out k hkn
      have hbw : w.heap.size ≤ wr.heap.size := HW.out.size
      have hbl : w.heap.size + 1 < wr.heap.size := HB.out.elim (fun h => h.lt) (fun h => h.lt)
      rw [← HW.out.cell (p := ⟨bk, o + k * 2, none⟩) hbk] at c1
      rw [← HW.out.cell (p := ⟨bk, o + k * 2 + 1, none⟩) hbk] at c2
      have hl0 := HL.out k 0 hkn (Nat.zero_le _)
      simp only [List.length_append, headT, List.length_cons, List.length_nil] at hl0
      have hnm : (name k).length ≤ 1000000 := by omega
      have hg1 : ¬ 9223372036854775807 < 5 + (name k).length := by omega
      have hg2 : ¬ 9223372036854775807 < 5 + (name k).length + 3 := by omega
      have hsl : (showT name rn rt k).length ≤ 1000000 := by omega
      clear hl0
      have hrk : rn k ≤ 1000000 := HN.out k hkn
      go_wp2_with fail
      refine (Tryz.ws w.heap.size (w.heap.size + 1) _ _ _ (HB.out.alloc _) ?len ?siz).mono ?_
      case len =>
        rw [Lib.byteCells_length]
        simp only [ByteArray.size_append]
        show (showT name rn rt k).length + (5 + (name k).length + 3) ≤ _
        omega
      case siz => simp; omega
      rintro e w2 ⟨rfl, hB2, hb2, ho2⟩
      have hx2 : w2.heap[wr.heap.size]? = some (.cells #[.string ⟨⟨name k⟩⟩, .slice (ra k) (rn k) (rc k)] 172 (0, 0)) :=
        ho2 _ _ (heap_alloc_new _ _) (by simp; omega) (fun c fz e => by cases e)
      have c3 : w2.cell? ⟨wr.heap.size, 1, none⟩ = some (.slice (ra k) (rn k) (rc k)) := by rw [Lib.cell_of_heap hx2]; rfl
      have hcat : Lib.byteCells (showT name rn rt k) ++ Lib.strCells ((⟨⟨[116, 121, 112, 101, 32]⟩⟩ : ByteArray) ++ ⟨⟨name k⟩⟩ ++ ⟨⟨[32, 123, 10]⟩⟩) = Lib.byteCells (showT name rn rt k ++ headT (name k) ++ relsT rt k 0) := by
        rw [Lib.strCells_eq, ← Lib.byteCells_append]
        simp [headT, relsT]
      rw [hcat] at hB2
      have HB2 := Any.hidJ (.inr hB2 : Lib.IsBuilderF 185 5 w.heap.size (w.heap.size + 1) (Lib.byteCells (showT name rn rt k ++ headT (name k) ++ relsT rt k 0)) w2)
      have HW2 := Any.hidJ ((HW.out.alloc hbw _).trans hb2)
      clear hB2 hb2 ho2 hx2 hcat c1 c2 hg1 hg2
      go_wp2_with fail
      go_loopw [23] (fun j wq => ∃ m : Nat, m ≤ rn k ∧ j = .int .i64 m ∧ Hid (Lib.IsBuilderF 185 5 w.heap.size (w.heap.size + 1) (Lib.byteCells (showT name rn rt k ++ headT (name k) ++ relsT rt k m)) wq) ∧ Hid (Below w.heap.size w wq)) (fun j _ => rn k - (intOf j).toNat)
      case atStart => exact ⟨0, Nat.zero_le _, rfl, HB2, HW2⟩
      case round =>
        obtain ⟨m, hm, rfl, HB3, HW3⟩ := hrel
        by_cases hmn : m < rn k
        · obtain ⟨b', o', hra, hb', hcell⟩ := HR.out k m hkn hmn
          rw [hra]
          have d0 := hcell 0 (by omega)
          have d1 := hcell 1 (by omega)
          have d2 := hcell 2 (by omega)
          have d3 := hcell 3 (by omega)
          have d4 := hcell 4 (by omega)
          have d5 := hcell 5 (by omega)
          simp only [Nat.add_zero] at d0
          rw [← HW3.out.cell (p := ⟨b', o' + m * 6, none⟩) hb'] at d0
          rw [← HW3.out.cell (p := ⟨b', o' + m * 6 + 1, none⟩) hb'] at d1
          rw [← HW3.out.cell (p := ⟨b', o' + m * 6 + 2, none⟩) hb'] at d2
          rw [← HW3.out.cell (p := ⟨b', o' + m * 6 + 3, none⟩) hb'] at d3
          rw [← HW3.out.cell (p := ⟨b', o' + m * 6 + 4, none⟩) hb'] at d4
          rw [← HW3.out.cell (p := ⟨b', o' + m * 6 + 5, none⟩) hb'] at d5
          obtain ⟨s0, s1, s2, s3, a1, n1, c1, a2, n2, c2, e0, e1, e2, e3, e4, e5⟩ := HO.out k m hkn hmn
          have hcall := HC.out k m (wr.alloc (.cells #[rv k m 0, rv k m 1, rv k m 2, rv k m 3, rv k m 4, rv k m 5] 176)) hkn hmn (HW3.out.alloc HW3.out.size _)
          rw [e0, e1, e2, e3, e4, e5] at hcall
          rw [e0] at d0; rw [e1] at d1; rw [e2] at d2; rw [e3] at d3; rw [e4] at d4; rw [e5] at d5
          have Hcall := Any.hidJ hcall
          clear hcell hcall e0 e1 e2 e3 e4 e5
          have hbw3 : w.heap.size ≤ wr.heap.size := HW3.out.size
          have hbl3 : w.heap.size + 1 < wr.heap.size := HB3.out.elim (fun h => h.lt) (fun h => h.lt)
          have hl1 := HL.out k (m + 1) hkn hmn
          have hrel : relsT rt k (m + 1) = relsT rt k m ++ rt k m := by unfold relsT; rw [List.range_succ, List.flatMap_append]; simp
          rw [hrel] at hl1
          simp only [List.length_append, List.length_cons, List.length_nil] at hl1
          have Hl1 := Any.hidJ hl1
          have Hrel := Any.hidJ hrel
          clear hl1 hrel
          go_wp2_with fail
          refine Hcall.out.mono ?_
          rintro e w3 ⟨rfl, hb3⟩
          have HB4 := Any.hidJ (isBldBelow (HB3.out.alloc _) hb3)
          have HW4 := Any.hidJ ((HW3.out.alloc hbw3 _).trans (hb3.mono (by simp; omega)))
          have hbw4 : w.heap.size ≤ w3.heap.size := HW4.out.size
          clear hb3
          go_wp2_with fail
          refine (Tryz.ws w.heap.size (w.heap.size + 1) _ _ _ HB4.out ?len ?siz).mono ?_
          case len =>
            rw [Lib.byteCells_length]
            have := Hl1.out
            simp only [List.length_append]
            show _ + (rt k m).length ≤ _
            omega
          case siz => exact hbw4
          rintro e w4 ⟨rfl, hB5, hb5, ho5⟩
          have hcat : Lib.byteCells (showT name rn rt k ++ headT (name k) ++ relsT rt k m) ++ Lib.strCells (⟨⟨rt k m⟩⟩ : ByteArray) = Lib.byteCells (showT name rn rt k ++ headT (name k) ++ relsT rt k (m + 1)) := by
            rw [Lib.strCells_eq, ← Lib.byteCells_append, Hrel.out, List.append_assoc _ _ (rt k m)]
          rw [hcat] at hB5
          have HB5 := Any.hidJ (.inr hB5 : Lib.IsBuilderF 185 5 w.heap.size (w.heap.size + 1) (Lib.byteCells (showT name rn rt k ++ headT (name k) ++ relsT rt k (m + 1))) w4)
          have HW5 := Any.hidJ (HW4.out.trans hb5)
          clear hB5 hb5 ho5 hcat
          go_wp2
          exact ⟨⟨m + 1, by omega, by go_num, HB5, HW5⟩, by simp [intOf]; omega⟩
        · have hme : m = rn k := by omega
          subst hme
          have hbw3 : w.heap.size ≤ wr.heap.size := HW3.out.size
          have hl1 := HL.out k (rn k) hkn (Nat.le_refl _)
          simp only [List.length_append, List.length_cons, List.length_nil] at hl1
          have Hl1 := Any.hidJ hl1
          clear hl1
          go_wp2_with fail
          refine (Tryz.ws w.heap.size (w.heap.size + 1) _ _ _ HB3.out ?len ?siz).mono ?_
          case len =>
            rw [Lib.byteCells_length]
            have := Hl1.out
            simp only [List.length_append]
            show _ + 2 ≤ _
            omega
          case siz => exact hbw3
          rintro e w4 ⟨rfl, hB5, hb5, ho5⟩
          have hcat : Lib.byteCells (showT name rn rt k ++ headT (name k) ++ relsT rt k (rn k)) ++ Lib.strCells (⟨⟨[125, 10]⟩⟩ : ByteArray) = Lib.byteCells (showT name rn rt (k + 1)) := by
            rw [Lib.strCells_eq, ← Lib.byteCells_append]
            unfold showT
            rw [List.range_succ, List.flatMap_append]
            simp [typeT]
          rw [hcat] at hB5
          have HB5 := Any.hidJ (.inr hB5 : Lib.IsBuilderF 185 5 w.heap.size (w.heap.size + 1) (Lib.byteCells (showT name rn rt (k + 1))) w4)
          have HW5 := Any.hidJ (HW3.out.trans hb5)
          clear hB5 hb5 ho5 hcat
          go_wp2
          exact ⟨⟨k + 1, by omega, by go_num, HB5, HW5⟩, by simp [intOf]; omega⟩
    · have hke : k = n := by omega
      subst hke
      have hbw : w.heap.size ≤ wr.heap.size := HW.out.size
      go_wp2_with fail
      refine (Tryz.st w.heap.size (w.heap.size + 1) _ _ HB.out hbw).mono ?_
      rintro e w2 ⟨rfl, hB2, hb2, ho2⟩
      have HW2 := Any.hidJ (HW.out.trans hb2)
      clear hB2 hb2 ho2
      go_wp2
      go_ret
      exact ⟨rfl, HW2.out⟩
theorem Tryz.show_nil (w : World) : Calls Tryz.prog 50 #[.agg #[.slice none 0 0]] w fun e w' => e = .returned (.string ⟨⟨[]⟩⟩) ∧ Below w.heap.size w w' := by
  go_enter Tryz.func50, Tryz.ntmps50
  go_wp2_with fail
  go_loopw [11] (fun i wr => i = .int .i64 0 ∧ Hid (Lib.IsBuilderF 185 5 w.heap.size (w.heap.size + 1) (Lib.byteCells []) wr) ∧ Hid (Below w.heap.size w wr)) (fun i _ => 0)
  case atStart =>
    refine ⟨rfl, Any.hidJ ?_, Any.hidJ ?_⟩
    · refine .inl ⟨by omega, .slice none 0 0, ?_, World.ownsRowF_nil _ _ _ _, by simp [Value.ownBlock]⟩
      exact (congrArg (fun i => ((w.alloc (.cells #[.slice none 0 0] 109)).alloc (.cells #[.pointer none, .slice none 0 0] 185)).heap[i]?) (show w.heap.size + 1 = (w.alloc (.cells #[.slice none 0 0] 109)).heap.size by simp)).trans (heap_alloc_new _ _)
    · exact ((Below.refl w.heap.size w).alloc (Nat.le_refl _) _).alloc (by simp) _
  case round =>
    obtain ⟨rfl, HB, HW⟩ := hrel
    have hbw : w.heap.size ≤ wr.heap.size := HW.out.size
    go_wp2_with fail
    refine (Tryz.st w.heap.size (w.heap.size + 1) _ _ HB.out hbw).mono ?_
    rintro e w2 ⟨rfl, hB2, hb2, ho2⟩
    have HW2 := Any.hidJ (HW.out.trans hb2)
    clear hB2 hb2 ho2
    go_wp2
    go_ret
    exact ⟨rfl, HW2.out⟩
end Go.Proofs

/- strings.Join stands for itself: what it answers, by the kit's contract. -/
namespace Go.Proofs.YtlbaphapjclkdaaGreatDoor.Ev.C
open Go Go.Proofs.YtlbaphapjclkdaaGreatDoor.Ev
set_option linter.unusedVariables false
theorem strsOf_map : ∀ {cs : List AV} {l : List (List UInt8)}, strsOf cs = some l → cs = l.map AV.str
  | [], l, h => by cases h; rfl
  | .str s :: r, l, h => by
    obtain ⟨l', h1, rfl⟩ := Option.map_eq_some_iff.1 h
    rw [strsOf_map h1]; rfl
theorem join_ok {B : Nat} (hB : B ≠ 0) {args : List AV} {h h' : H} {r : AOut} (hg : joinG args h = some (r, h')) : FnOK PP B n_strings_Join args h (fun r1 h1 => r1 = r ∧ h1 = h') := by
  unfold joinG at hg
  split at hg
  case h_2 => cases hg
  rename_i o i len sep
  split at hg
  case h_2 => cases hg
  rename_i cs hcs
  split at hg
  case h_2 => cases hg
  rename_i l hl
  split at hg
  case isFalse => cases hg
  rename_i hc
  obtain ⟨c1, c2, c3⟩ := hc
  cases hg
  have hcl := strsOf_map hl
  have hlen : cs.length = l.length := by rw [hcl]; simp
  -- the row
  simp only [H.firstCells] at hcs
  rw [if_pos ⟨trivial, Nat.le_refl _⟩] at hcs
  split at hcs
  case h_2 =>
    split at hcs
    · cases hcs; simp at hlen; omega
    · cases hcs
  rename_i row hrow
  split at hcs
  case isFalse => cases hcs
  rename_i hle
  cases hcs
  simp only [Nat.mul_one] at hle hlen hcl
  have hll : len = l.length := by simp at hlen; omega
  intro m w cargs hr hv
  cases hv with
  | cons h1 t =>
    cases t with
    | cons h2 t2 =>
      cases t2
      cases h2
      cases h1 with
      | slice0 => omega
      | @slice _ b base sz _ _ _ cap hm hlc hsz =>
        have hat : ∀ (j : Nat) x, (l.map fun s => (⟨⟨s⟩⟩ : ByteArray))[j]? = some x → w.cell? ⟨b, (base + i) + j, none⟩ = some (.string x) := by
          intro j x hj
          rw [List.getElem?_map] at hj
          obtain ⟨s, hs, rfl⟩ := Option.map_eq_some_iff.1 hj
          have hjl : j < l.length := (List.getElem?_eq_some_iff.1 hs).1
          have hrj : row[i + j]? = some (.str s) := by
            have : ((row.drop i).take len)[j]? = (l.map AV.str)[j]? := by rw [hcl]
            rw [List.getElem?_take, if_pos (by omega), List.getElem?_drop, List.getElem?_map, hs] at this
            exact this
          obtain ⟨v, hv1, hv2⟩ := hr.val hrow hm (i + j) _ hrj
          cases hv2
          rw [Nat.add_assoc]; exact hv1
        have hmm : ((l.map fun s => (⟨⟨s⟩⟩ : ByteArray)).map (·.data.toList)) = l := by
          rw [List.map_map]
          exact List.map_id _
        have key := Go.Proofs.Any.strings_Join Go.Proofs.Tryz.lays156 Go.Proofs.Tryz.Builder_Extra_156 b (base + i) cap (l.map fun s => (⟨⟨s⟩⟩ : ByteArray)) ⟨⟨sep⟩⟩ w hat (hr.blk hm) (by simp; omega) (by simp; omega) (by rw [hmm]; show (Lib.join l sep).length ≤ _; omega)
        rw [hmm] at key
        simp only [List.length_map] at key
        rw [hll]
        refine .inl ⟨run_callFunc_enter Go.Proofs.Tryz.lays156.f156 (by kernel_rfl) rfl _ _, ?_⟩
        have k2 := callsIn_wide (n := 0).2 key
        refine CallsIn.mono k2 ?_
        rintro e w' ⟨rfl, bel⟩
        have hsame : ∀ b, b < w.heap.size → w'.heap[b]? = w.heap[b]? := fun b hb => bel.block b hb
        exact ⟨.val (.str (Lib.join l sep)), h, ⟨rfl, rfl⟩, m, .val (.str _), hr.same bel.size hsame, ⟨M.le_refl m, bel.os, bel.tape, bel.output, bel.size, fun b hb _ => hsame b hb, Nat.le_refl _, fun o _ hmo => ⟨rfl, hmo⟩, fun o b base sz h1 h2 => (by rw [h2] at h1; cases h1), fun h => absurd h hB⟩⟩
end Go.Proofs.YtlbaphapjclkdaaGreatDoor.Ev.C

/- print.Show stands for itself: what it answers, of what print.rel answers. -/
namespace Go.Proofs.YtlbaphapjclkdaaGreatDoor.Ev.C
open Go Go.Proofs.YtlbaphapjclkdaaGreatDoor.Ev Go.RowKit
open Go.Proofs (showT typeT headT relsT)
set_option linter.unusedVariables false
def collect {α : Type} (f : Nat → Option α) : Nat → Option (List α)
  | 0 => some []
  | n + 1 => match collect f n, f n with | some l, some a => some (l ++ [a]) | _, _ => none
theorem collect_get {α : Type} {f : Nat → Option α} : ∀ {n : Nat} {l : List α}, collect f n = some l → l.length = n ∧ ∀ k, k < n → ∃ a, l[k]? = some a ∧ f k = some a
  | 0, l, h => by cases h; exact ⟨rfl, fun k hk => by omega⟩
  | n + 1, l, h => by
    unfold collect at h
    split at h
    · rename_i l' a h1 h2
      cases h
      obtain ⟨e, q⟩ := collect_get h1
      refine ⟨by simp [e], fun k hk => ?_⟩
      by_cases hkn : k < n
      · obtain ⟨x, hx, hy⟩ := q k hkn
        exact ⟨x, by rw [List.getElem?_append_left (by omega)]; exact hx, hy⟩
      · obtain rfl : k = n := by omega
        exact ⟨a, by rw [List.getElem?_append_right (by omega), e]; simp, h2⟩
    · cases h
/-- the cells of a relation -/
def relOk : List AV → Bool
  | [.str _, .str _, .str _, .str _, a, b] => (match a with | .nils => true | .slice _ _ _ _ => true | _ => false) && (match b with | .nils => true | .slice _ _ _ _ => true | _ => false)
  | _ => false
def relTexts (rel : List AV → Option (List UInt8)) (row : List AV) (j m : Nat) : Option (List (List UInt8)) :=
  collect (fun q => if relOk ((row.drop (j + q * 6)).take 6) then rel ((row.drop (j + q * 6)).take 6) else none) m
def typeAt (rel : List AV → H → Option (List UInt8)) (h : H) (row : List AV) (i k : Nat) : Option (List UInt8 × List (List UInt8)) :=
  match row[i + k * 2]?, row[i + (k * 2 + 1)]? with
  | some (.str s), some .nils => some (s, [])
  | some (.str s), some (.slice a j m 6) => if m = 0 then some (s, []) else match h.row a with
    | some r => (relTexts (fun cs => rel cs h) r j m).map (s, ·)
    | none => none
  | _, _ => none
def textOf : List (List UInt8 × List (List UInt8)) → List UInt8
  | [] => []
  | x :: r => headT x.1 ++ x.2.flatten ++ [125, 10] ++ textOf r
def okLen (l : List (List UInt8 × List (List UInt8))) : Bool := decide (l.length ≤ 1000000) && l.all (fun x => decide (x.2.length ≤ 1000000)) && decide ((textOf l).length ≤ 1000000)
def showG (rel : List AV → H → Option (List UInt8)) : List AV → H → Option (AOut × H)
  | [.agg [.slice o i n 2]], h => if n = 0 then none else match h.ro.row o with
    | some row => match collect (typeAt rel h.ro row i) n with
      | some l => if okLen l then some (.val (.str (textOf l)), h) else none
      | none => none
    | none => none
  | [.agg [.nils]], h => some (.val (.str []), h)
  | _, _ => none
theorem textOf_append : ∀ (l k : List (List UInt8 × List (List UInt8))), textOf (l ++ k) = textOf l ++ textOf k
  | [], k => rfl
  | x :: r, k => by simp [textOf, textOf_append r k]
theorem flat_range {l : List (List UInt8)} {f : Nat → List UInt8} (hf : ∀ k, k < l.length → l[k]? = some (f k)) : ∀ m, m ≤ l.length → (List.range m).flatMap f = (l.take m).flatten
  | 0, _ => by simp
  | m + 1, h => by
    rw [List.range_succ, List.flatMap_append, flat_range hf m (by omega), List.take_add_one, hf m (by omega)]
    simp
theorem show_range {l : List (List UInt8 × List (List UInt8))} {name : Nat → List UInt8} {rn : Nat → Nat} {rt : Nat → Nat → List UInt8}
    (hf : ∀ k, k < l.length → ∃ x, l[k]? = some x ∧ name k = x.1 ∧ rn k = x.2.length ∧ ∀ j, j < x.2.length → x.2[j]? = some (rt k j)) : ∀ m, m ≤ l.length → showT name rn rt m = textOf (l.take m)
  | 0, _ => by simp [showT, textOf]
  | m + 1, h => by
    obtain ⟨x, h1, h2, h3, h4⟩ := hf m (by omega)
    have ih := show_range hf m (by omega)
    unfold showT at ih ⊢
    rw [List.range_succ, List.flatMap_append, ih, List.take_add_one, h1, textOf_append]
    simp only [List.flatMap_cons, List.flatMap_nil, List.append_nil, Option.toList, textOf, typeT, relsT]
    rw [h2, h3, flat_range h4 _ (Nat.le_refl _), List.take_length]
theorem relOk_spec {cs : List AV} (h : relOk cs = true) : ∃ s0 s1 s2 s3 a b, cs = [.str s0, .str s1, .str s2, .str s3, a, b] ∧ (a = .nils ∨ ∃ o i n e, a = .slice o i n e) ∧ (b = .nils ∨ ∃ o i n e, b = .slice o i n e) := by
  unfold relOk at h
  split at h
  · rename_i s0 s1 s2 s3 a b
    simp only [Bool.and_eq_true] at h
    refine ⟨s0, s1, s2, s3, a, b, rfl, ?_, ?_⟩
    · have := h.1
      split at this
      · exact .inl rfl
      · exact .inr ⟨_, _, _, _, rfl⟩
      · cases this
    · have := h.2
      split at this
      · exact .inl rfl
      · exact .inr ⟨_, _, _, _, rfl⟩
      · cases this
  · cases h
theorem typeAt_spec {rel : List AV → H → Option (List UInt8)} {h : H} {row : List AV} {i k : Nat} {x : List UInt8 × List (List UInt8)} (e : typeAt rel h row i k = some x) :
    row[i + k * 2]? = some (.str x.1) ∧ ((row[i + (k * 2 + 1)]? = some .nils ∧ x.2 = []) ∨ ∃ a j m, row[i + (k * 2 + 1)]? = some (.slice a j m 6) ∧ x.2.length = m ∧
      ∀ q, q < m → ∃ r t, h.row a = some r ∧ x.2[q]? = some t ∧ relOk ((r.drop (j + q * 6)).take 6) = true ∧ rel ((r.drop (j + q * 6)).take 6) h = some t) := by
  unfold typeAt at e
  split at e
  · rename_i s h1 h2
    cases e
    exact ⟨h1, .inl ⟨h2, rfl⟩⟩
  · rename_i s a j m h1 h2
    split at e
    · rename_i hm; cases e; subst hm
      exact ⟨h1, .inr ⟨a, j, 0, h2, rfl, fun q hq => by omega⟩⟩
    · split at e
      · rename_i r hr
        obtain ⟨l, hl, rfl⟩ := Option.map_eq_some_iff.1 e
        obtain ⟨e1, e2⟩ := collect_get hl
        refine ⟨h1, .inr ⟨a, j, m, h2, e1, fun q hq => ?_⟩⟩
        obtain ⟨t, ht, hq2⟩ := e2 q hq
        split at hq2
        · rename_i hok; exact ⟨r, t, hr, ht, hok, hq2⟩
        · cases hq2
      · cases e
  · cases e
theorem slice_val {m : M} {c : AV} {v : Value} (h : VRel m c v) (hc : c = .nils ∨ ∃ o i n e, c = .slice o i n e) : ∃ a n c, v = .slice a n c := by
  rcases hc with rfl | ⟨o, i, n, e, rfl⟩
  · cases h; exact ⟨_, _, _, rfl⟩
  · cases h <;> exact ⟨_, _, _, rfl⟩
theorem str_val {m : M} {s : List UInt8} {v : Value} (h : VRel m (.str s) v) : v = .string ⟨⟨s⟩⟩ := by cases h; rfl
theorem runs_calls {f : Nat} {args : List Value} {w : World} {Q : Ending → World → Prop} (he : (callFunc f ⟨args⟩).run PP w = .ok (.enter f ⟨args⟩) w) (r : Runs PP f ⟨args⟩ w Q) : Calls PP f ⟨args⟩ w Q := by
  rcases r with ⟨_, c⟩ | ⟨v, w', h, _⟩
  · exact (callsIn_wide (n := 0)).1 c
  · rw [he] at h; cases h
theorem show_ok {rel : List AV → H → Option (List UInt8)} (hrel : ∀ cs h t, rel cs h = some t → ∀ B, B ≠ 0 → FnOK PP B n_print_rel [.agg cs] h (fun r1 _ => r1 = .val (.str t)))
    {B : Nat} (hB : B ≠ 0) {args : List AV} {h h' : H} {r : AOut} (hg : showG rel args h = some (r, h')) : FnOK PP B n_print_Show args h (fun r1 h1 => r1 = r ∧ h1 = h') := by
  unfold showG at hg
  split at hg
  case h_3 => cases hg
  case h_2 =>
    cases hg
    refine FnOK.same hB fun m w cargs hr hv => ?_
    cases hv with
    | cons h1 t =>
      cases t
      cases h1 with
      | agg h2 =>
        cases h2 with
        | cons h3 t2 =>
          cases t2
          cases h3
          refine .inl ⟨run_callFunc_enter Go.Proofs.Tryz.func50 (by kernel_rfl) rfl _ _, ?_⟩
          refine CallsIn.mono ((callsIn_wide (n := 0)).2 (Go.Proofs.Tryz.show_nil w)) ?_
          rintro e w' ⟨rfl, bel⟩
          exact ⟨_, rfl, fun m' => .str _, bel⟩
  rename_i o i n
  split at hg
  case isTrue => cases hg
  rename_i hn0
  split at hg
  case h_2 => cases hg
  rename_i row hrow
  split at hg
  case h_2 => cases hg
  rename_i l hl
  split at hg
  case isFalse => cases hg
  rename_i hok
  cases hg
  simp only [okLen, Bool.and_eq_true, decide_eq_true_eq, List.all_eq_true] at hok
  obtain ⟨⟨hl1, hl2⟩, hl3⟩ := hok
  obtain ⟨eln, hget⟩ := collect_get hl
  refine FnOK.same hB fun m w cargs hr hv => ?_
  have hro := hr.toRo
  cases hv with
  | cons h1 t =>
    cases t
    cases h1 with
    | agg h2 =>
      cases h2 with
      | cons h3 t2 =>
        cases t2
        cases h3 with
        | slice0 => omega
        | @slice _ b base sz _ _ _ cap hm hlc hsz =>
          -- what lies there
          let X : Nat → List UInt8 × List (List UInt8) := fun k => l.getD k ([], [])
          have hX : ∀ k, k < n → l[k]? = some (X k) ∧ typeAt rel h.ro row i k = some (X k) := by
            intro k hk
            obtain ⟨x, h1, h2⟩ := hget k hk
            have : X k = x := by simp [X, List.getD_eq_getElem?_getD, h1]
            rw [this]; exact ⟨h1, h2⟩
          let V : Nat → Value := fun k => (w.cell? ⟨b, base + i + k * 2 + 1, none⟩).getD undef
          let ra : Nat → Option Addr := fun k => match V k with | .slice a _ _ => a | _ => none
          let rc : Nat → Nat := fun k => match V k with | .slice _ _ c => c | _ => 0
          let rv : Nat → Nat → Nat → Value := fun k q z => match ra k with | some a => (w.cell? ⟨a.block, a.off + q * 6 + z, none⟩).getD undef | none => undef
          let rt : Nat → Nat → List UInt8 := fun k q => (X k).2.getD q []
          have hcell : ∀ k, k < n → w.cell? ⟨b, base + i + k * 2, none⟩ = some (.string ⟨⟨(X k).1⟩⟩) ∧ w.cell? ⟨b, base + i + k * 2 + 1, none⟩ = some (.slice (ra k) (X k).2.length (rc k)) ∧
              ∀ q, q < (X k).2.length → ∃ b' o' cs, ra k = some ⟨b', o', none⟩ ∧ b' < w.heap.size ∧ relOk cs = true ∧ rel cs h.ro = some (rt k q) ∧ ∀ z, z < 6 → ∃ a, cs[z]? = some a ∧ w.cell? ⟨b', o' + q * 6 + z, none⟩ = some (rv k q z) ∧ VRel m a (rv k q z) := by
            intro k hk
            obtain ⟨_, ht⟩ := hX k hk
            obtain ⟨p1, p2⟩ := typeAt_spec ht
            obtain ⟨v1, c1, r1⟩ := hro.val hrow hm (i + k * 2) _ p1
            cases r1
            rw [show base + (i + k * 2) = base + i + k * 2 by omega] at c1
            refine ⟨c1, ?_⟩
            rcases p2 with ⟨p2, p3⟩ | ⟨a, j, mm, p2, p3, p4⟩
            · obtain ⟨v2, c2, r2⟩ := hro.val hrow hm (i + (k * 2 + 1)) _ p2
              cases r2
              rw [show base + (i + (k * 2 + 1)) = base + i + k * 2 + 1 by omega] at c2
              have e1 : V k = .slice none 0 0 := by simp only [V, c2]; rfl
              refine ⟨?_, fun q hq => by rw [p3] at hq; simp at hq⟩
              rw [c2]; simp only [ra, rc, e1, p3]; rfl
            · obtain ⟨v2, c2, r2⟩ := hro.val hrow hm (i + (k * 2 + 1)) _ p2
              rw [show base + (i + (k * 2 + 1)) = base + i + k * 2 + 1 by omega] at c2
              cases r2 with
              | slice0 i' es' ad x hx =>
                have e1 : V k = .slice (some ad) 0 0 := by simp only [V, c2]; rfl
                refine ⟨?_, fun q hq => by omega⟩
                rw [c2]; simp only [ra, rc, e1, p3]
              | @slice _ b2 base2 sz2 _ _ _ cap2 hm2 hlc2 hsz2 =>
                have e1 : V k = .slice (some ⟨b2, base2 + j, none⟩) mm cap2 := by simp only [V, c2]; rfl
                have era : ra k = some ⟨b2, base2 + j, none⟩ := by simp only [ra, e1]
                refine ⟨?_, fun q hq => ?_⟩
                · rw [c2]; simp only [ra, rc, e1, p3]
                · obtain ⟨rr, t, q1, q2, q3, q4⟩ := p4 q (by omega)
                  refine ⟨b2, base2 + j, _, era, hr.blk hm2, q3, ?_, fun z hz => ?_⟩
                  · rw [q4]; simp only [rt, List.getD_eq_getElem?_getD, q2]; rfl
                  · obtain ⟨s0, s1, s2, s3, a0, b0, ecs, _, _⟩ := relOk_spec q3
                    have hlen : ((rr.drop (j + q * 6)).take 6).length = 6 := by rw [ecs]; rfl
                    obtain ⟨a, ha⟩ : ∃ a, ((rr.drop (j + q * 6)).take 6)[z]? = some a := ⟨_, List.getElem?_eq_getElem (by omega)⟩
                    have ha2 : rr[j + q * 6 + z]? = some a := by
                      rw [List.getElem?_take, if_pos (by omega), List.getElem?_drop] at ha; exact ha
                    obtain ⟨v, c3, r3⟩ := hro.val q1 hm2 (j + q * 6 + z) a ha2
                    rw [show base2 + (j + q * 6 + z) = base2 + j + q * 6 + z by omega] at c3
                    have e2 : rv k q z = v := by simp only [rv, era, c3]; rfl
                    rw [e2]
                    exact ⟨a, ha, c3, r3⟩
          have htext : showT (fun k => (X k).1) (fun k => (X k).2.length) rt n = textOf l := by
            have := show_range (l := l) (name := fun k => (X k).1) (rn := fun k => (X k).2.length) (rt := rt) (fun k hk => ⟨X k, (hX k (by omega)).1, rfl, rfl, fun j hj => by
              simp only [rt, List.getD_eq_getElem?_getD]
              rw [List.getElem?_eq_getElem hj]; rfl⟩) n (by omega)
            rw [this, List.take_of_length_le (by omega)]
          have hrange : ∀ mm, mm ≤ n → showT (fun k => (X k).1) (fun k => (X k).2.length) rt mm = textOf (l.take mm) := fun mm hmm => show_range (l := l) (fun k hk => ⟨X k, (hX k (by omega)).1, rfl, rfl, fun j hj => by
              simp only [rt, List.getD_eq_getElem?_getD]
              rw [List.getElem?_eq_getElem hj]; rfl⟩) mm (by omega)
          have e94 : ∀ args w, (callFunc n_print_rel args).run PP w = .ok (.enter n_print_rel args) w := fun args w => run_callFunc_enter Go.Proofs.Tryz.func94 (by kernel_rfl) rfl args w
          have key := Go.Proofs.Tryz.show_calls n b (base + i) cap (fun k => (X k).1) ra (fun k => (X k).2.length) rc rv rt w (hr.blk hm) (by omega)
            (fun k hk => by have := hl2 (X k) (List.mem_of_getElem? (hX k hk).1); simpa using this)
            (fun k hk => ⟨(hcell k hk).1, (hcell k hk).2.1⟩)
            (fun k j hk hj => by
              obtain ⟨b', o', cs, q1, q2, _, _, q3⟩ := (hcell k hk).2.2 j hj
              exact ⟨b', o', q1, q2, fun z hz => by obtain ⟨a, _, h2, _⟩ := q3 z hz; exact h2⟩)
            (fun k j hk hj => by
              obtain ⟨b', o', cs, q1, q2, q4, _, q3⟩ := (hcell k hk).2.2 j hj
              obtain ⟨s0, s1, s2, s3, a0, b0, rfl, ha, hb⟩ := relOk_spec q4
              obtain ⟨a, h0, _, v0⟩ := q3 0 (by omega); cases h0; have e0 := str_val v0
              obtain ⟨a, h0, _, v1⟩ := q3 1 (by omega); cases h0; have e1 := str_val v1
              obtain ⟨a, h0, _, v2⟩ := q3 2 (by omega); cases h0; have e2 := str_val v2
              obtain ⟨a, h0, _, v3⟩ := q3 3 (by omega); cases h0; have e3 := str_val v3
              obtain ⟨a, h4, _, v4⟩ := q3 4 (by omega); cases h4
              obtain ⟨a, h5, _, v5⟩ := q3 5 (by omega); cases h5
              obtain ⟨x1, x2, x3, e4⟩ := slice_val v4 ha
              obtain ⟨y1, y2, y3, e5⟩ := slice_val v5 hb
              exact ⟨_, _, _, _, x1, x2, x3, y1, y2, y3, e0, e1, e2, e3, e4, e5⟩)
            (fun k j w' hk hj bel => by
              obtain ⟨b', o', cs, q1, q2, q4, qr, q3⟩ := (hcell k hk).2.2 j hj
              have hr' : Rel PP B m h w' := hr.same bel.size (fun b hb => bel.block b hb)
              have hva : VRels m [.agg cs] [.agg #[rv k j 0, rv k j 1, rv k j 2, rv k j 3, rv k j 4, rv k j 5]] := by
                refine .cons (.agg (VRels.of_get ?_ ?_)) .nil
                · obtain ⟨s0, s1, s2, s3, a0, b0, rfl, _, _⟩ := relOk_spec q4; rfl
                · intro z a hz
                  have hzl : z < 6 := by
                    obtain ⟨s0, s1, s2, s3, a0, b0, rfl, _, _⟩ := relOk_spec q4
                    have := (List.getElem?_eq_some_iff.1 hz).1
                    simpa using this
                  obtain ⟨a', h1, _, h3⟩ := q3 z hzl
                  rw [hz] at h1; cases h1
                  have hz6 : z = 0 ∨ z = 1 ∨ z = 2 ∨ z = 3 ∨ z = 4 ∨ z = 5 := by omega
                  rcases hz6 with rfl | rfl | rfl | rfl | rfl | rfl <;> exact ⟨_, rfl, h3⟩
              refine (runs_calls (e94 _ _) (FnOK.apart (v := .str (rt k j)) rfl hB (hrel cs h.ro _ qr) hr' hva)).mono ?_
              rintro e w'' ⟨v', rfl, hv', bel'⟩
              exact ⟨congrArg _ (str_val (hv' m)), bel'⟩)
            (fun k mm hk hmm => by
              have e1 := hrange k (by omega)
              have hx := (hX k hk).1
              have e2 : relsT rt k mm = ((X k).2.take mm).flatten := flat_range (fun j hj => by
                simp only [rt, List.getD_eq_getElem?_getD]
                rw [List.getElem?_eq_getElem hj]; rfl) mm hmm
              rw [e1, e2]
              have h5 : textOf l = textOf (l.take k) ++ textOf (X k :: l.drop (k + 1)) := by
                rw [← textOf_append]
                have : l.drop k = X k :: l.drop (k + 1) := by
                  obtain ⟨hlt, hxe⟩ := List.getElem?_eq_some_iff.1 hx
                  rw [List.drop_eq_getElem_cons hlt, hxe]
                rw [← this, List.take_append_drop]
              have h6 : (((X k).2.take mm).flatten).length ≤ ((X k).2.flatten).length := by
                have : (X k).2.flatten = ((X k).2.take mm).flatten ++ ((X k).2.drop mm).flatten := by rw [← List.flatten_append, List.take_append_drop]
                rw [this, List.length_append]; omega
              rw [h5] at hl3
              simp only [textOf, List.length_append, List.length_cons, List.length_nil] at hl3 ⊢
              omega)
          rw [htext] at key
          refine .inl ⟨run_callFunc_enter Go.Proofs.Tryz.func50 (by kernel_rfl) rfl _ _, ?_⟩
          refine CallsIn.mono ((callsIn_wide (n := 0)).2 key) ?_
          rintro e w' ⟨rfl, bel⟩
          exact ⟨_, rfl, fun m' => .str _, bel⟩
end Go.Proofs.YtlbaphapjclkdaaGreatDoor.Ev.C

/- What stands for calls of law12: the row that looks for a byte, and the example. -/
import Derived.Test.YtgjcdpanabjcmaaGreatDoorCode
import Derived.Test.YtgjcdpanabjcmaaGreatDoorEvL3
import Derived.Lib.Join
import Derived.Test.YtgjcdpanabjcmaaGreatDoorEv31
import Derived.Lib.Bytealg
import Derived.Laws.StandIn
import Derived.Test.YtgjcdpanabjcmaaGreatDoorEv27
namespace Go.Proofs.YtgjcdpanabjcmaaGreatDoor.Ev.C
open Go Go.Proofs.YtgjcdpanabjcmaaGreatDoor.Ev
set_option linter.unusedSimpArgs false
set_option linter.unusedVariables false
abbrev nAwake : Nat := n_doormanlaw12_awake
/-- the program's words that may be no names -/
def keysL : List (List UInt8) := [[116, 121, 112, 101], [114, 101, 108], [105, 115], [116, 104, 105, 115]]
abbrev KStart (h : H) : Prop := StartG g_token_keys 4 (strCells keysL) h
/-- where a byte is in a text, from a place on; below 0: nowhere -/
def idxB : List UInt8 → UInt8 → Nat → Int
  | [], _, _ => -1
  | b :: l, c, k => if b = c then (k : Int) else idxB l c (k + 1)
theorem idxB_lib : ∀ (l : List UInt8) (c : UInt8) (k : Nat), idxB l c k = if Lib.indexByte l c = -1 then -1 else Lib.indexByte l c + k
  | [], c, k => rfl
  | b :: l, c, k => by
    simp only [idxB, Lib.indexByte]
    by_cases h : b = c
    · subst h; simp
    · rw [if_neg h, idxB_lib l c (k + 1)]
      have hb : (b == c) = false := by simpa using h
      have hge := Lib.indexByte_ge l c
      simp only [hb, Bool.false_eq_true, if_false, beq_iff_eq]
      by_cases h1 : Lib.indexByte l c = -1
      · simp [h1]
      · rw [if_neg h1, if_neg h1, if_neg (by omega)]; omega
def ibs : List AV → H → Option (AOut × H)
  | [.str s, .int .u8 c], h => some (.val (.int .i64 (idxB s (UInt8.ofNat c.toNat) 0)), h)
  | _, _ => none
/-- the runes below 161 that may stand in a name -/
def lettersL : List UInt8 := [97, 98, 99, 100, 101, 102, 103, 104, 105, 106, 107, 108, 109, 110, 111, 112, 113, 114, 115, 116, 117, 118, 119, 120, 121, 122, 65, 66, 67, 68, 69, 70, 71, 72, 73, 74, 75, 76, 77, 78, 79, 80, 81, 82, 83, 84, 85, 86, 87, 88, 89, 90, 48, 49, 50, 51, 52, 53, 54, 55, 56, 57, 95]
def letterB (n : Nat) : Bool := lettersL.any fun b => b.toNat == n
def crG : List AV → H → Option (AOut × H)
  | [.str s, .int .i32 c], h => if s = lettersL ∧ 0 ≤ c ∧ c < 161 then some (.val (.bool (letterB c.toNat)), h) else none
  | _, _ => none
/-- texts of cells -/
def strsOf : List AV → Option (List (List UInt8))
  | [] => some []
  | .str s :: r => (strsOf r).map (s :: ·)
  | _ :: _ => none
def joinG : List AV → H → Option (AOut × H)
  | [.slice o i len 1, .str sep], h => match h.firstCells 1 len (.slice o i len 1) with
    | some cs => match strsOf cs with
      | some l => if 1 ≤ l.length ∧ l.length ≤ 1000 ∧ (Lib.join l sep).length ≤ 1000000 then some (.val (.str (Lib.join l sep)), h) else none
      | none => none
    | none => none
  | _, _ => none
/-- how often a byte stands in a text -/
def countB : List UInt8 → UInt8 → Nat
  | [], _ => 0
  | b :: r, c => (if b = c then 1 else 0) + countB r c
def cntG : List AV → H → Option (AOut × H)
  | [.str s, .int .u8 c], h => some (.val (.int .i64 (countB s (UInt8.ofNat c.toNat) : Int)), h)
  | _, _ => none
def yes : List AV → H → Option (AOut × H) := fun args h => match args with | [] => if startB g_token_keys 4 (strCells keysL) h then some (.val (.bool true), h) else none | _ => none
def ov0 : Ovs := fun f => if f = n_bytealg_IndexByteString then some ibs else if f = n_strings_ContainsRune then some crG else if f = n_strings_Join then some joinG else if f = n_bytealg_CountString then some cntG else if f = nAwake then some yes else none
/-- what is stood for -/
def isOv (f : Nat) : Bool := f == n_bytealg_IndexByteString || f == n_strings_ContainsRune || f == n_strings_Join || f == n_bytealg_CountString || f == nAwake
noncomputable def E0 : Env := Env.mk (table PP) ov0 (tableD PP) (tableR PP)
/-- the program, with the row that looks for a byte; the example may stand for itself -/
structure Std (E : Env) : Prop where
  tT : ∀ {i : Nat} {a : AFunc}, table PP i = some a → E.T i = some a
  tD : ∀ {i : Nat} {a : ADef}, tableD PP i = some a → E.D i = some a
  tR : ∀ {i : Nat} {a : ARec}, tableR PP i = some a → E.R i = some a
  ov : ∀ f, isOv f = false → E.ov f = none
  ibs : E.ov n_bytealg_IndexByteString = some ibs
  cr : E.ov n_strings_ContainsRune = some crG
  join : E.ov n_strings_Join = some joinG
  count : E.ov n_bytealg_CountString = some cntG
theorem E0_ov (i : Nat) : E0.ov i = ov0 i := by unfold E0; rw [env_ov]
theorem std0 : Std E0 where
  tT := fun {i a} h => by unfold E0; rw [env_T]; exact h
  tD := fun {i a} h => by unfold E0; rw [env_D]; exact h
  tR := fun {i a} h => by unfold E0; rw [env_R]; exact h
  ov := fun f h => by
    simp only [isOv, Bool.or_eq_false_iff, beq_eq_false_iff_ne] at h
    rw [E0_ov]
    unfold ov0
    rw [if_neg h.1.1.1.1, if_neg h.1.1.1.2, if_neg h.1.1.2, if_neg h.1.2, if_neg h.2]
  ibs := by rw [E0_ov]; rfl
  cr := by rw [E0_ov]; rfl
  join := by rw [E0_ov]; rfl
  count := by rw [E0_ov]; rfl
def ov1 : Ovs := fun f => if f = n_bytealg_IndexByteString then some ibs else if f = n_strings_ContainsRune then some crG else if f = n_strings_Join then some joinG else if f = n_bytealg_CountString then some cntG else none
noncomputable def E1 : Env := Env.mk (table PP) ov1 (tableD PP) (tableR PP)
theorem E1_ov (i : Nat) : E1.ov i = ov1 i := by unfold E1; rw [env_ov]
theorem std1 : Std E1 where
  tT := fun {i a} h => by unfold E1; rw [env_T]; exact h
  tD := fun {i a} h => by unfold E1; rw [env_D]; exact h
  tR := fun {i a} h => by unfold E1; rw [env_R]; exact h
  ov := fun f h => by
    simp only [isOv, Bool.or_eq_false_iff, beq_eq_false_iff_ne] at h
    rw [E1_ov]
    unfold ov1
    rw [if_neg h.1.1.1.1, if_neg h.1.1.1.2, if_neg h.1.1.2, if_neg h.1.2]
  ibs := by rw [E1_ov]; rfl
  cr := by rw [E1_ov]; rfl
  join := by rw [E1_ov]; rfl
  count := by rw [E1_ov]; rfl
theorem tT {i : Nat} {a : AFunc} (h : table PP i = some a) : E0.T i = some a := std0.tT h
theorem ovn (f : Nat) (h : isOv f = false := by decide) : E0.ov f = none := std0.ov f h
theorem awake_call {h : H} (ks : KStart h) : WCall E0 nAwake [] h fun r h' => r = .val (.bool true) ∧ h' = h :=
  WCall_ov (g := yes) (by rw [E0_ov]; rfl) (by simp [yes, startB_of ks]) ⟨rfl, rfl⟩
theorem ibs_call {E : Env} (he : Std E) (s : List UInt8) (c : UInt8) (h : H) : WCall E n_bytealg_IndexByteString [.str s, .int .u8 (c.toNat : Int)] h fun r h' => r = .val (.int .i64 (idxB s c 0)) ∧ h' = h :=
  WCall_ov (g := ibs) he.ibs rfl ⟨by simp, rfl⟩
theorem cr_call {E : Env} (he : Std E) (c : Nat) (hc : c < 161) (h : H) : WCall E n_strings_ContainsRune [.str lettersL, .int .i32 (c : Int)] h fun r h' => r = .val (.bool (letterB c)) ∧ h' = h :=
  WCall_ov (g := crG) he.cr (by
    unfold crG
    simp only
    rw [if_pos ⟨trivial, by omega, by omega⟩, Int.toNat_natCast]) ⟨rfl, rfl⟩
end Go.Proofs.YtgjcdpanabjcmaaGreatDoor.Ev.C

/- The reader of tokens: what is next, what is passed. -/
namespace Go.Proofs.YtgjcdpanabjcmaaGreatDoor.Ev.C
open Go Go.Proofs.YtgjcdpanabjcmaaGreatDoor.Ev
set_option linter.unusedSimpArgs false
set_option linter.unusedVariables false

def isKey (s : List UInt8) : Bool := keysL.contains s
theorem index_str_spec {E : Env} (he : Std E) {v : AV} {l : List (List UInt8)} {s : List UInt8} {h : H} (b : Strs h v l) (hl : l.length < 4611686018427387904) :
    WCall E n_slices_Index_string_string [v, .str s] h fun r h' => h' = h ∧ ∃ z : Int, r = .val (.int .i64 z) ∧ (0 ≤ z ↔ s ∈ l) := by
  refine WCall_ws (he.ov _ rfl) (he.tT T_slices_Index_string_string) (by simp [slices_Index_string_string_a]) ?_
  refine WS_of_seq (WS_of_ops ?_)
  simp only [slices_Index_string_string_r0, go_sem, ↓reduceIte, Nat.reduceEqDiff]
  refine WS_of_seq (WS_of_seq (WS_of_ops ?_))
  simp only [slices_Index_string_string_r1, go_sem, ↓reduceIte, Nat.reduceEqDiff, enterS, List.getD_cons_zero, b.len]
  refine WS_of_block (WS_of_loop (fun m z g => g = h ∧ ∃ i, m = l.length - i ∧ i ≤ l.length ∧ s ∉ l.take i ∧ z 0 = v ∧ z 1 = .str s ∧ z 7 = .int .i64 (l.length : Int) ∧ z 8 = .int .i64 (i : Int)) ?_ l.length ?_)
  · rintro m z g ⟨rfl, i, rfl, hi, hno, z0, z1, z7, z8⟩
    show WS E slices_Index_string_string_l7 _ _ _ _
    refine WS_of_seq (WS_of_ops ?_)
    simp only [slices_Index_string_string_r2, go_sem, ↓reduceIte, Nat.reduceEqDiff, z7, z8]
    refine WS_of_seq (WS_of_cond ?_)
    simp only [go_sem, ↓reduceIte]
    by_cases hil : i < l.length
    case neg =>
      have hie : i = l.length := by omega
      subst hie
      simp only [Int.lt_irrefl, decide_false, Bool.false_eq_true, ↓reduceIte]
      refine WS_of_exit ?_
      simp only [go_sem, ↓reduceIte]
      refine WS_of_seq (WS_of_ops ?_)
      simp only [slices_Index_string_string_r8, go_sem, ↓reduceIte, Nat.reduceEqDiff]
      refine WS_of_ret ?_
      simp only [go_sem, slices_Index_string_string_a, ↓reduceIte, Nat.reduceEqDiff]
      rw [List.take_length] at hno
      exact ⟨trivial, -1, rfl, by simp [hno]⟩
    have hil' : (i : Int) < (l.length : Int) := by omega
    simp only [hil', decide_true, ↓reduceIte]
    refine WS_of_skip ?_
    simp only [go_sem]
    refine WS_of_seq (WS_of_block (WS_of_seq (WS_of_ops ?_)))
    simp only [slices_Index_string_string_r3, go_sem, ↓reduceIte, Nat.reduceEqDiff, z8]
    refine WS_of_seq (WS_of_ops ?_)
    obtain ⟨p, e1, e2⟩ := b.at hil .i64
    simp only [slices_Index_string_string_r4, go_sem, ↓reduceIte, Nat.reduceEqDiff, z0, z1, e1, e2]
    refine WS_of_cond ?_
    simp only [go_sem, ↓reduceIte]
    by_cases hs : s = l[i]
    · simp only [hs, decide_true, ↓reduceIte]
      refine WS_of_seq (WS_of_ops ?_)
      simp only [slices_Index_string_string_r5, go_sem, ↓reduceIte, Nat.reduceEqDiff]
      refine WS_of_ret ?_
      simp only [go_sem, slices_Index_string_string_a, ↓reduceIte, Nat.reduceEqDiff]
      exact ⟨trivial, i, rfl, by simp⟩
    · simp only [hs, decide_false, Bool.false_eq_true, ↓reduceIte]
      refine WS_of_skip ?_
      simp only [go_sem]
      refine WS_of_ops ?_
      simp only [slices_Index_string_string_r6, go_sem, ↓reduceIte, Nat.reduceEqDiff, z8]
      refine ⟨l.length - (i + 1), by omega, trivial, i + 1, rfl, by omega, ?_, z0, z1, z7, ?_⟩
      · rw [List.take_add_one]
        simp only [List.getElem?_eq_getElem hil, Option.toList_some, List.mem_append, List.mem_singleton, not_or]
        exact ⟨hno, hs⟩
      · have : IntKind.i64.wrap ((i : Int) + 1) = ((i + 1 : Nat) : Int) := by rw [show ((i : Int) + 1) = ((i + 1 : Nat) : Int) from rfl]; exact wrapI (by omega)
        rw [this]
  · exact ⟨rfl, 0, by simp, by omega, by simp, rfl, rfl, rfl, rfl⟩
theorem contains_str_spec {E : Env} (he : Std E) {v : AV} {l : List (List UInt8)} {s : List UInt8} {h : H} (b : Strs h v l) (hl : l.length < 4611686018427387904) :
    WCall E n_slices_Contains_string_string [v, .str s] h fun r h' => h' = h ∧ r = .val (.bool (l.contains s)) := by
  refine WCall_ws (he.ov _ rfl) (he.tT T_slices_Contains_string_string) (by simp [slices_Contains_string_string_a]) ?_
  refine WS_of_seq (WS_of_ops ?_)
  simp only [slices_Contains_string_string_r0, go_sem, ↓reduceIte, Nat.reduceEqDiff]
  refine WS_of_seq (WS_of_ops ?_)
  simp only [slices_Contains_string_string_r1, go_sem, ↓reduceIte, Nat.reduceEqDiff, enterS, List.getD_cons_zero, List.getD_cons_succ]
  refine (index_str_spec he b hl).mono ?_
  rintro r h' ⟨rfl, z, rfl, hz⟩
  simp only [go_sem, ↓reduceIte, Nat.reduceEqDiff]
  refine WS_of_ret ?_
  simp only [go_sem, slices_Contains_string_string_a, ↓reduceIte, Nat.reduceEqDiff]
  refine ⟨trivial, ?_⟩
  congr 2
  rw [Bool.eq_iff_iff]
  simp [hz]
theorem keys_load {h : H} (ks : KStart h) : loadA h false 1 (.gptr g_token_keys) = some (.slice 1 0 4 1) := by
  simp [loadA, ks.glob]
theorem keys_strs {h : H} (ks : KStart h) : Strs h (.slice 1 0 4 1) keysL := by
  refine ⟨rfl, ?_⟩
  have hr : h.row 1 = some (strCells keysL) := by unfold H.row; rw [ks.row]
  simp [H.firstCells, hr, strCells, keysL]
theorem key_spec {E : Env} (he : Std E) {s : List UInt8} {h : H} (ks : KStart h) : WCall E n_token_Key [.str s] h fun r h' => h' = h ∧ r = .val (.bool (isKey s)) := by
  refine WCall_ws (he.ov _ rfl) (he.tT T_token_Key) (by simp [token_Key_a]) ?_
  refine WS_of_seq (WS_of_ops ?_)
  simp only [token_Key_r0, go_sem, ↓reduceIte, Nat.reduceEqDiff]
  refine WS_of_seq (WS_of_ops ?_)
  simp only [token_Key_r1, go_sem, ↓reduceIte, Nat.reduceEqDiff, enterS, List.getD_cons_zero, keys_load ks]
  refine (contains_str_spec he (keys_strs ks) (by decide)).mono ?_
  rintro r h' ⟨rfl, rfl⟩
  simp only [go_sem, ↓reduceIte, Nat.reduceEqDiff]
  refine WS_of_ret ?_
  simp only [go_sem, token_Key_a, ↓reduceIte, Nat.reduceEqDiff]
  exact ⟨trivial, rfl⟩

/-! ### tokens -/
/-- a token: its kind, its text, its place -/
abbrev Tk := Nat × List UInt8 × Nat
def tkCells (t : Tk) : List AV := [.int .i64 (t.1 : Int), .str t.2.1, .int .i64 (t.2.2 : Int)]
abbrev Toks (h : H) (v : AV) (l : List Tk) : Prop := Sl h 3 v l.length (l.flatMap tkCells)
theorem tkCells_len (t : Tk) : (tkCells t).length = 3 := rfl
/-- the first token -/
theorem Toks.first {h : H} {v : AV} {t : Tk} {l : List Tk} (b : Toks h v (t :: l)) :
    ∃ o j, indexAddrA 3 v (.int .i64 0) = some (.ptr o j) ∧ loadA h false 1 (.ptr o (j + 0)) = some (.int .i64 (t.1 : Int)) ∧ loadA h false 1 (.ptr o (j + 1)) = some (.str t.2.1) ∧ loadA h false 1 (.ptr o (j + 2)) = some (.int .i64 (t.2.2 : Int)) := by
  obtain ⟨o, j, row, rfl, e, hrow, hle, hcs⟩ := b.addr (i := 0) (by simp) (by decide) .i64
  refine ⟨o, j, by simpa using e, ?_, ?_, ?_⟩
  all_goals
    simp only [loadA, hrow, Bool.false_eq_true, if_false]
    have hlen : j + 3 ≤ row.length := by simp at hle; omega
    have hget : ∀ k, k < 3 → row[j + k]? = (tkCells t)[k]? := by
      intro k hk
      have h1 : ((row.drop j).take ((t :: l).length * 3))[k]? = row[j + k]? := by
        rw [List.getElem?_take, if_pos (by simp; omega), List.getElem?_drop]
      rw [← h1, ← hcs, List.flatMap_cons, List.getElem?_append_left (by rw [tkCells_len]; exact hk)]
  · exact hget 0 (by decide)
  · exact hget 1 (by decide)
  · exact hget 2 (by decide)
/-- the tokens behind the first one -/
theorem Toks.rest {h : H} {v : AV} {t : Tk} {l : List Tk} (b : Toks h v (t :: l)) : ∃ v', sliceSA 3 (some (.int .i64 1)) none v = some v' ∧ Toks h v' l ∧ (∀ K, Slot K h v → Slot K h v') := by
  obtain ⟨v', e, s, k⟩ := b.cut (lo := 1) (hi := (t :: l).length) (by simp) (Nat.le_refl _) (some (.int .i64 1)) none (bounds_from (k := 1) (by simp) .i64)
  refine ⟨v', e, ?_, k⟩
  have e1 : (((t :: l).flatMap tkCells).drop (1 * 3)).take (((t :: l).length - 1) * 3) = l.flatMap tkCells := by
    rw [List.flatMap_cons, Nat.one_mul]
    have : (tkCells t).length = 3 := rfl
    rw [← this, List.drop_left]
    simp only [List.length_cons, Nat.add_sub_cancel]
    rw [List.take_of_length_le]
    rw [flat_len (es := 3) (fun x _ => tkCells_len x)]; simp [tkCells_len]
  rw [e1] at s
  simpa using s
/-- is a key, or a sign, next? -/
def isNext (l : List Tk) (s : List UInt8) : Bool := match l with | t :: _ => decide (t.2.1 = s) && (t.1 == 2 || isKey s) | [] => false
/-- is s next, before a token of the kind k and the text t? -/
def isAt (k : Int) (t s : List UInt8) : Bool := decide (t = s) && (decide (k = 2) || isKey s)
theorem is_core {E : Env} (he : Std E) {o i to tj : Nat} {l : AV} {k : Int} {t s : List UInt8} {h : H} (ks : KStart h) (hl : loadA h false 1 (.ptr o (i + 0)) = some l)
    (e1 : indexAddrA 3 l (.int .i64 0) = some (.ptr to tj)) (e2 : loadA h false 1 (.ptr to (tj + 0)) = some (.int .i64 k)) (e3 : loadA h false 1 (.ptr to (tj + 1)) = some (.str t)) :
    WCall E n_parse_reader_is [.ptr o i, .str s] h fun r h' => h' = h ∧ r = .val (.bool (isAt k t s)) := by
  refine WCall_ws (he.ov _ rfl) (he.tT T_parse_reader_is) (by simp [parse_reader_is_a]) ?_
  refine WS_of_seq (WS_of_ops ?_)
  simp only [parse_reader_is_r0, go_sem, ↓reduceIte, Nat.reduceEqDiff]
  refine WS_of_seq (WS_of_ops ?_)
  simp only [parse_reader_is_r1, go_sem, ↓reduceIte, Nat.reduceEqDiff, enterS, List.getD_cons_zero, List.getD_cons_succ, hl, e1, e2, e3, wanted]
  by_cases h1 : t = s
  · simp only [h1, decide_true, beq_self_eq_true, go_sem, ↓reduceIte, Nat.reduceEqDiff, hl, e1, e2]
    by_cases h2 : k = 2
    · simp only [h2, decide_true, beq_self_eq_true, Bool.true_eq_false, Bool.false_eq_true, reduceCtorEq, go_sem, ↓reduceIte, Nat.reduceEqDiff, pickA, show (true == false) = false from rfl]
      refine WS_of_ret ?_
      simp only [go_sem, parse_reader_is_a, ↓reduceIte, Nat.reduceEqDiff]
      exact ⟨trivial, by simp [isAt, h1, h2]⟩
    · simp only [h2, decide_false, beq_self_eq_true, go_sem, ↓reduceIte, Nat.reduceEqDiff, pickA]
      refine (key_spec he ks).mono ?_
      rintro r h' ⟨rfl, rfl⟩
      simp only [go_sem, ↓reduceIte, Nat.reduceEqDiff, pickA, wanted, beq_self_eq_true, Bool.false_eq_true]
      refine WS_of_ret ?_
      simp only [go_sem, parse_reader_is_a, ↓reduceIte, Nat.reduceEqDiff]
      exact ⟨trivial, by simp [isAt, h1, h2]⟩
  · simp only [h1, decide_false, go_sem, ↓reduceIte, Nat.reduceEqDiff, show (false == true) = false from rfl, Bool.false_eq_true, pickA, wanted, undefA]
    refine WS_of_ret ?_
    simp only [go_sem, parse_reader_is_a, ↓reduceIte, Nat.reduceEqDiff]
    exact ⟨trivial, by simp [isAt, h1]⟩
theorem is_spec {E : Env} (he : Std E) {o i : Nat} {l : AV} {ts : List Tk} {s : List UInt8} {h : H} (ks : KStart h) (hl : loadA h false 1 (.ptr o (i + 0)) = some l) (b : Toks h l ts) (hne : ts ≠ []) :
    WCall E n_parse_reader_is [.ptr o i, .str s] h fun r h' => h' = h ∧ r = .val (.bool (isNext ts s)) := by
  cases ts with
  | nil => exact absurd rfl hne
  | cons t ts =>
  obtain ⟨to, tj, e1, e2, e3, e4⟩ := b.first
  refine (is_core he ks hl e1 e2 e3).mono ?_
  rintro r h' ⟨rfl, rfl⟩
  refine ⟨rfl, ?_⟩
  congr 2
  unfold isAt isNext
  have : decide ((t.1 : Int) = 2) = (t.1 == 2) := by rw [Bool.eq_iff_iff]; simp; omega
  simp only [this]
/-- pass: what is next is passed, if it is s -/
theorem pass_core {E : Env} (he : Std E) {o i to tj : Nat} {l l' : AV} {k : Int} {t s : List UInt8} {h : H} (ks : KStart h) (hl : loadA h false 1 (.ptr o (i + 0)) = some l)
    (e1 : indexAddrA 3 l (.int .i64 0) = some (.ptr to tj)) (e2 : loadA h false 1 (.ptr to (tj + 0)) = some (.int .i64 k)) (e3 : loadA h false 1 (.ptr to (tj + 1)) = some (.str t))
    (e4 : isAt k t s = true → sliceSA 3 (some (.int .i64 1)) none l = some l' ∧ ∃ h', storeA h 1 (.ptr o (i + 0)) l' = some h') :
    WCall E n_parse_reader_pass [.ptr o i, .str s] h fun r h' => r = .val (.bool (isAt k t s)) ∧ if isAt k t s = true then storeA h 1 (.ptr o (i + 0)) l' = some h' else h' = h := by
  refine WCall_ws (he.ov _ rfl) (he.tT T_parse_reader_pass) (by simp [parse_reader_pass_a]) ?_
  refine WS_of_seq (WS_of_ops ?_)
  simp only [parse_reader_pass_r0, go_sem, ↓reduceIte, Nat.reduceEqDiff]
  refine WS_of_seq (WS_of_seq (WS_of_ops ?_))
  simp only [parse_reader_pass_r1, go_sem, ↓reduceIte, Nat.reduceEqDiff, enterS, List.getD_cons_zero, List.getD_cons_succ]
  refine (is_core he ks hl e1 e2 e3).mono ?_
  rintro r h' ⟨rfl, rfl⟩
  simp only [go_sem, ↓reduceIte, Nat.reduceEqDiff]
  refine WS_of_cond ?_
  cases hat : isAt k t s
  · simp only [go_sem, ↓reduceIte, Nat.reduceEqDiff, Bool.not_false]
    refine WS_of_seq (WS_of_ops ?_)
    simp only [parse_reader_pass_r2, go_sem, ↓reduceIte, Nat.reduceEqDiff]
    refine WS_of_ret ?_
    simp only [go_sem, parse_reader_pass_a, ↓reduceIte, Nat.reduceEqDiff]
    simp
  · obtain ⟨e5, h2, e6⟩ := e4 hat
    simp only [go_sem, ↓reduceIte, Nat.reduceEqDiff, Bool.not_true, Bool.false_eq_true]
    refine WS_of_skip ?_
    simp only [go_sem]
    refine WS_of_seq (WS_of_ops ?_)
    simp only [parse_reader_pass_r3, go_sem, ↓reduceIte, Nat.reduceEqDiff, hl, e5, e6]
    refine WS_of_seq (WS_of_ops ?_)
    simp only [parse_reader_pass_r4, go_sem, ↓reduceIte, Nat.reduceEqDiff]
    refine WS_of_ret ?_
    simp only [go_sem, parse_reader_pass_a, ↓reduceIte, Nat.reduceEqDiff]
    exact ⟨trivial, trivial⟩

/-! ### sign: a map of three signs is ranged over, in whichever order -/
def sgn (t : List UInt8) : Int := if t = [124] then 4 else if t = [38] then 5 else if t = [45] then 6 else 0
/-- what sign answers, in one step: two objects are made that nothing is told of -/
def signG : List AV → H → Option (AOut × H)
  | [.ptr o i], h => if (startB g_token_keys 4 (strCells keysL) h && decide (2 ≤ h.n ∧ o < h.n)) = true then match h.row o with
    | some cs => match cs[i]? with
      | some (.slice tl j len 3) => if len = 0 ∨ h.n ≤ tl then none else match h.row tl with
        | some ts => match ts[j]?, ts[j + 1]? with
          | some (.int .i64 k), some (.str t) =>
            let v := if k = 2 then sgn t else 0
            let h2 := (h.push .other).push .other
            if v = 0 then some (.val (.int .i64 0), h2) else ((h2.put o i [.slice tl (j + 3) (len - 1) 3]).map fun h3 => (.val (.int .i64 v), h3))
          | _, _ => none
        | none => none
      | _ => none
    | none => none
    else none
  | _, _ => none
def signEs : List (AV × AV × Nat) := [(.str [124], .int .i64 4, 0), (.str [38], .int .i64 5, 1), (.str [45], .int .i64 6, 2)]
theorem sgn_at (k : Int) (t w : List UInt8) (v : Int) (hw : (w = [124] ∧ v = 4) ∨ (w = [38] ∧ v = 5) ∨ (w = [45] ∧ v = 6)) : isAt k t w = true ↔ (if k = 2 then sgn t else 0) = v := by
  have hk : isKey w = false := by rcases hw with ⟨rfl, _⟩ | ⟨rfl, _⟩ | ⟨rfl, _⟩ <;> rfl
  unfold isAt sgn
  rw [hk]
  by_cases h2 : k = 2
  · subst h2
    simp only [decide_true, Bool.true_or, Bool.and_true, decide_eq_true_eq, if_true]
    rcases hw with ⟨rfl, rfl⟩ | ⟨rfl, rfl⟩ | ⟨rfl, rfl⟩
    · constructor
      · rintro rfl; rfl
      · intro h; split at h
        · assumption
        · split at h
          · cases h
          · split at h <;> cases h
    · constructor
      · rintro rfl; rfl
      · intro h; split at h
        · cases h
        · split at h
          · assumption
          · split at h <;> cases h
    · constructor
      · rintro rfl; rfl
      · intro h; split at h
        · cases h
        · split at h
          · cases h
          · split at h
            · assumption
            · cases h
  · simp only [h2, decide_false, Bool.or_false, Bool.and_false, Bool.false_eq_true, if_false, false_iff]
    rcases hw with ⟨_, rfl⟩ | ⟨_, rfl⟩ | ⟨_, rfl⟩ <;> decide
/-- a heap that has grown by two objects -/
structure Up2 (h g : H) : Prop where
  n : g.n = h.n + 2
  gr : ∀ i, g.gr.get i = h.gr.get i
  ob : ∀ o, o ≠ h.n → o ≠ h.n + 1 → g.get o = h.get o
  m1 : ∃ X, g.get h.n = some (.mem X)
  m2 : ∃ X, g.get (h.n + 1) = some (.mem X)
theorem Up2.get {h g : H} (u : Up2 h g) (o : Nat) (ho : o < h.n) : g.get o = h.get o := u.ob o (by omega) (by omega)
theorem Up2.weak {h g : H} (u : Up2 h g) : Weak h.n g ((h.push .other).push .other) := by
  refine ⟨by rw [u.n]; rfl, fun i => by rw [u.gr]; rfl, fun o => ?_⟩
  have h1 : (h.push .other).n = h.n + 1 := rfl
  rw [H.get_push, h1, H.get_push]
  by_cases e1 : o = h.n + 1
  · subst e1; exact .inr ⟨by omega, by simp, u.m2⟩
  · by_cases e2 : o = h.n
    · subst e2; exact .inr ⟨Nat.le_refl _, by simp, u.m1⟩
    · rw [if_neg e1, if_neg e2]; exact .inl (u.ob o e2 e1).symm
theorem Up2.row {h g : H} (u : Up2 h g) {o : Nat} (ho : o < h.n) : g.row o = h.row o := by
  unfold H.row; rw [u.get o ho]
  have : ∀ i, g.kill i = h.kill i := fun i => by unfold H.kill; rw [u.gr]
  simp only [this]
theorem Up2.load {h g : H} (u : Up2 h g) {o : Nat} (ho : o < h.n) (a : Bool) (n i : Nat) : loadA g a n (.ptr o i) = loadA h a n (.ptr o i) := by
  simp only [loadA, u.row ho]
theorem Up2.start {h g : H} (u : Up2 h g) (ks : KStart h) (h2 : 2 ≤ h.n) : KStart g := ⟨by rw [u.get 0 (by omega)]; exact ks.glob, by rw [u.get 1 (by omega)]; exact ks.row⟩
theorem sign_ok {E : Env} (he : Std E) {h h' : H} {o i : Nat} {r : AOut} (hg : signG [.ptr o i] h = some (r, h')) : WCall E n_parse_reader_sign [.ptr o i] h fun r1 h1 => r1 = r ∧ Weak h.n h1 h' := by
  unfold signG at hg
  simp only at hg
  split at hg
  case isFalse => cases hg
  rename_i hc
  simp only [Bool.and_eq_true, decide_eq_true_eq] at hc
  obtain ⟨hst, hn2, hon⟩ := hc
  have ks : KStart h := startB_ok hst
  split at hg
  case h_2 => cases hg
  rename_i cs hrow
  split at hg
  case h_2 => cases hg
  rename_i tl j len hcell
  split at hg
  case isTrue => cases hg
  rename_i hlen
  split at hg
  case h_2 => cases hg
  rename_i ts htrow
  split at hg
  case h_2 => cases hg
  rename_i k t hk ht
  have htn : tl < h.n := by omega
  have hl0 : 0 < len := by omega
  have L0 : loadA h false 1 (.ptr o (i + 0)) = some (.slice tl j len 3) := by simp [loadA, hrow, hcell]
  have L1 : indexAddrA 3 (.slice tl j len 3) (.int .i64 0) = some (.ptr tl j) := by simp [indexAddrA, hl0]
  have L2 : loadA h false 1 (.ptr tl (j + 0)) = some (.int .i64 k) := by simp [loadA, htrow, hk]
  have L3 : loadA h false 1 (.ptr tl (j + 1)) = some (.str t) := by simp [loadA, htrow, ht]
  have L4 : sliceSA 3 (some (.int .i64 1)) none (.slice tl j len 3) = some (.slice tl (j + 3) (len - 1) 3) := by
    have : (1 : Int) ≤ (len : Int) := by omega
    simp [sliceSA, bounds, this]
  refine WCall_ws (he.ov _ rfl) (he.tT T_parse_reader_sign) (by simp [parse_reader_sign_a]) ?_
  refine WS_of_seq (WS_of_ops ?_)
  simp only [parse_reader_sign_r0, go_sem, ↓reduceIte, Nat.reduceEqDiff, enterS]
  refine WS_of_seq (WS_of_seq (WS_of_ops ?_))
  simp only [parse_reader_sign_r1, go_sem, ↓reduceIte, Nat.reduceEqDiff, mapPutA, H.get_push, H.get_setMem, keyEq, idxM, beq_self_eq_true, Option.isSome_some, List.nil_append, List.cons_append, rangeMA,
    show ([38] == ([124] : List UInt8)) = false from rfl, show ([45] == ([124] : List UInt8)) = false from rfl, show ([45] == ([38] : List UInt8)) = false from rfl, Option.map_some, Option.map_none, List.getD_cons_zero]
  refine WS_of_block (WS_of_loop (fun m z g => Up2 h g ∧ MapAt g h.n signEs 3 ∧ ∃ seen, m = signEs.length - seen.length ∧ IterAt g (h.n + 1) h.n signEs 3 seen ∧ (∀ e ∈ signEs, e.2.2 ∈ seen → ∃ w, e.1 = .str w ∧ isAt k t w = false) ∧ z 0 = .ptr o i ∧ z 7 = .ptr (h.n + 1) 0) ?_ 3 ?_)
  · rintro m z g ⟨u, hm, seen, rfl, hi, hno, z0, z7⟩
    show WS E parse_reader_sign_l6 _ _ _ _
    refine WS_of_seq (WS_of_ops ?_)
    simp only [parse_reader_sign_r2, go_sem, ↓reduceIte, Nat.reduceEqDiff, z7]
    refine nextP_iter hm hi (by omega) ?_ ?_
    · intro hall
      have hv0 : (if k = 2 then sgn t else 0) = 0 := by
        have h1 : ∀ w v, (.str w, v) ∈ signEs.map (fun e => (e.1, e.2.1)) → isAt k t w = false := by
          intro w v hmem
          obtain ⟨e, he1, he2⟩ := List.mem_map.1 hmem
          obtain ⟨w', e3, e4⟩ := hno e he1 (hall e he1)
          simp only [Prod.mk.injEq] at he2
          rw [he2.1] at e3; cases e3; exact e4
        have a1 := h1 [124] _ (by simp [signEs]; rfl)
        have a2 := h1 [38] _ (by simp [signEs]; rfl)
        have a3 := h1 [45] _ (by simp [signEs]; rfl)
        have b1 := sgn_at k t [124] 4 (.inl ⟨rfl, rfl⟩)
        have b2 := sgn_at k t [38] 5 (.inr (.inl ⟨rfl, rfl⟩))
        have b3 := sgn_at k t [45] 6 (.inr (.inr ⟨rfl, rfl⟩))
        rw [a1] at b1; rw [a2] at b2; rw [a3] at b3
        by_cases hk2 : k = 2
        · simp only [hk2, if_true, Bool.false_eq_true, false_iff] at b1 b2 b3 ⊢
          unfold sgn at b1 b2 b3 ⊢
          split
          · rename_i ht1; simp [ht1] at b1
          · split
            · rename_i ht1 ht2; simp [ht2] at b2
            · split
              · rename_i ht1 ht2 ht3; simp [ht3] at b3
              · rfl
        · simp [hk2]
      rw [if_pos hv0] at hg
      cases hg
      simp only [go_sem, ↓reduceIte, Nat.reduceEqDiff, extractA, List.getElem?_cons_zero]
      refine WS_of_seq (WS_of_cond ?_)
      simp only [go_sem, ↓reduceIte, Bool.false_eq_true]
      refine WS_of_exit ?_
      simp only [go_sem, ↓reduceIte]
      refine WS_of_seq (WS_of_ops ?_)
      simp only [parse_reader_sign_r7, go_sem, ↓reduceIte, Nat.reduceEqDiff]
      refine WS_of_ret ?_
      simp only [go_sem, parse_reader_sign_a, ↓reduceIte, Nat.reduceEqDiff]
      exact ⟨trivial, u.weak⟩
    · rintro e hmem hns g' hg' hm' hi' hent hlt
      have u' : Up2 h g' := by
        subst hg'
        refine ⟨u.n, u.gr, fun o' h1 h2 => by rw [H.get_setMem, if_neg h2]; exact u.ob o' h1 h2, ?_, ?_⟩
        · rw [H.get_setMem, if_neg (by omega)]; exact u.m1
        · rw [H.get_setMem, if_pos rfl]; exact ⟨_, rfl⟩
      obtain ⟨w, v, hw1, hw2, hwv⟩ : ∃ w v, e.1 = .str w ∧ e.2.1 = .int .i64 v ∧ ((w = [124] ∧ v = 4) ∨ (w = [38] ∧ v = 5) ∨ (w = [45] ∧ v = 6)) := by
        simp only [signEs, List.mem_cons, List.not_mem_nil, or_false] at hmem
        rcases hmem with rfl | rfl | rfl
        · exact ⟨_, _, rfl, rfl, .inl ⟨rfl, rfl⟩⟩
        · exact ⟨_, _, rfl, rfl, .inr (.inl ⟨rfl, rfl⟩)⟩
        · exact ⟨_, _, rfl, rfl, .inr (.inr ⟨rfl, rfl⟩)⟩
      rw [hw1, hw2] at hent
      simp only [hw1, hw2, go_sem, ↓reduceIte, Nat.reduceEqDiff, extractA, List.getElem?_cons_zero]
      refine WS_of_seq (WS_of_cond ?_)
      simp only [go_sem, ↓reduceIte]
      refine WS_of_skip ?_
      simp only [go_sem]
      refine WS_of_block (WS_of_seq (WS_of_ops ?_))
      simp only [parse_reader_sign_r3, go_sem, ↓reduceIte, Nat.reduceEqDiff, z7, hent, extractA, List.getElem?_cons_zero, List.getElem?_cons_succ]
      refine WS_of_seq (WS_of_ops ?_)
      simp only [parse_reader_sign_r4, go_sem, ↓reduceIte, Nat.reduceEqDiff, z0]
      have hat := sgn_at k t w v hwv
      have hput : isAt k t w = true → ∃ g2, storeA g' 1 (.ptr o (i + 0)) (.slice tl (j + 3) (len - 1) 3) = some g2 ∧ r = .val (.int .i64 v) ∧ Weak h.n g2 h' := by
        intro ha
        have hv := hat.1 ha
        have hv0 : v ≠ 0 := by rcases hwv with ⟨_, rfl⟩ | ⟨_, rfl⟩ | ⟨_, rfl⟩ <;> decide
        rw [hv, if_neg hv0] at hg
        rw [Option.map_eq_some_iff] at hg
        obtain ⟨h3, hp, hr⟩ := hg
        cases hr
        obtain ⟨g2, hp2, hw2⟩ := u'.weak.put hp
        exact ⟨g2, by simpa [storeA, AV.cells, AV.one] using hp2, rfl, hw2⟩
      refine (pass_core he (l' := .slice tl (j + 3) (len - 1) 3) (u'.start ks hn2) (by rw [u'.load hon]; exact L0) L1 (by rw [u'.load htn]; exact L2) (by rw [u'.load htn]; exact L3) ?_).mono ?_
      · intro ha
        obtain ⟨g2, e1, _⟩ := hput ha
        exact ⟨L4, g2, e1⟩
      · rintro r1 g2 ⟨rfl, hif⟩
        simp only [go_sem, ↓reduceIte, Nat.reduceEqDiff]
        refine WS_of_cond ?_
        cases hat' : isAt k t w
        · rw [hat'] at hif
          simp only [Bool.false_eq_true, if_false] at hif
          subst hif
          simp only [go_sem, ↓reduceIte, Bool.false_eq_true]
          refine WS_of_skip ?_
          simp only [go_sem, ↓reduceIte, Nat.reduceEqDiff]
          refine ⟨_, hlt, u', hm', _, rfl, hi', ?_, z0, z7⟩
          intro e' he' hs'
          rcases List.mem_append.1 hs' with hs' | hs'
          · exact hno e' he' hs'
          · simp only [List.mem_singleton] at hs'
            have : e' = e := by
              simp only [signEs, List.mem_cons, List.not_mem_nil, or_false] at hmem he'
              rcases hmem with rfl | rfl | rfl <;> rcases he' with rfl | rfl | rfl <;> first | rfl | (simp at hs')
            subst this
            exact ⟨w, hw1, hat'⟩
        · rw [hat'] at hif
          simp only [if_true] at hif
          obtain ⟨g3, e1, e2, e3⟩ := hput hat'
          rw [e1] at hif; cases hif
          simp only [go_sem, ↓reduceIte]
          refine WS_of_seq (WS_of_ops ?_)
          simp only [parse_reader_sign_r5, go_sem, ↓reduceIte, Nat.reduceEqDiff]
          refine WS_of_ret ?_
          simp only [go_sem, parse_reader_sign_a, ↓reduceIte, Nat.reduceEqDiff]
          exact ⟨e2.symm, e3⟩
  · have g1 : ∀ (g : H) (n : Nat), g.n = n → ∀ X o', (g.push X).get o' = if o' = n then some X else g.get o' := by
      rintro g n rfl X o'; exact H.get_push _ _ _
    have gm : ∀ X1 X2 X3 X4 o', (((((h.push (.mem X1)).setMem h.n X2).setMem h.n X3).setMem h.n (.map signEs 3)).push (.mem X4)).get o' = if o' = h.n + 1 then some (.mem X4) else if o' = h.n then some (.mem (.map signEs 3)) else h.get o' := by
      intro X1 X2 X3 X4 o'
      rw [g1 _ (h.n + 1) rfl, H.get_setMem, H.get_setMem, H.get_setMem, H.get_push]
      by_cases e1 : o' = h.n + 1
      · rw [if_pos e1, if_pos e1]
      · rw [if_neg e1, if_neg e1]
        by_cases e2 : o' = h.n
        · rw [if_pos e2, if_pos e2]
        · simp only [e2, if_false]
    have hmap : ∀ X1 X2 X3 X4, (((((h.push (.mem X1)).setMem h.n X2).setMem h.n X3).setMem h.n (.map signEs 3)).push (.mem X4)).get h.n = some (.mem (.map signEs 3)) := by
      intro X1 X2 X3 X4; rw [gm, if_neg (by omega), if_pos rfl]
    have hit : ∀ X1 X2 X3 X4, (((((h.push (.mem X1)).setMem h.n X2).setMem h.n X3).setMem h.n (.map signEs 3)).push (.mem X4)).get (h.n + 1) = some (.mem X4) := by
      intro X1 X2 X3 X4; rw [gm, if_pos rfl]
    refine ⟨⟨rfl, fun _ => rfl, ?_, ⟨_, hmap _ _ _ _⟩, ⟨_, hit _ _ _ _⟩⟩, ⟨hmap _ _ _ _, by decide, by decide⟩, [], rfl, ⟨hit _ _ _ _, List.nodup_nil, by simp⟩, by simp, rfl, rfl⟩
    intro o' h1 h2
    refine (gm _ _ _ _ _).trans ?_
    rw [if_neg h2, if_neg h1]
end Go.Proofs.YtgjcdpanabjcmaaGreatDoor.Ev.C

/- Slices of cells of one kind: made, read, written. Slices of structs: their elements' cells. -/
namespace Go.Proofs.YtgjcdpanabjcmaaGreatDoor.Ev
set_option linter.unusedVariables false
set_option linter.unusedSimpArgs false

/-- a kind of cells -/
structure Cell1 {α : Type} (mk : α → AV) : Prop where
  cells : ∀ x, (mk x).cells = [mk x]
  one : ∀ x, AV.one (mk x) = true
abbrev natC (x : Nat) : AV := .int .i64 (x : Int)
abbrev intC (x : Int) : AV := .int .i64 x
theorem nat1 : Cell1 natC := ⟨fun _ => rfl, fun _ => rfl⟩
theorem int1 : Cell1 intC := ⟨fun _ => rfl, fun _ => rfl⟩
theorem bool1 : Cell1 AV.bool := ⟨fun _ => rfl, fun _ => rfl⟩
section
variable {α : Type} {mk : α → AV}
/-- a row of one's own of such cells -/
abbrev CBox (mk : α → AV) (r : Nat) (f : List α) (h : H) : Prop := Box r (f.map mk) h
theorem splice_one {f : List α} {i : Nat} (hi : i < f.length) (v : α) : splice (f.map mk) i [mk v] = (f.set i v).map mk := by
  rw [List.map_set]
  simp only [splice]
  rw [List.set_eq_take_append_cons_drop, if_pos (by simpa using hi)]
  simp
theorem CBox.at {r : Nat} {f : List α} {h : H} (b : CBox mk r f h) {i n : Nat} (hi : i < f.length) (hn : n = f.length) (kd : IntKind) :
    indexAddrA 1 (.slice r 0 n 1) (.int kd (i : Int)) = some (.ptr r i) ∧ loadA h false 1 (.ptr r i) = some (mk f[i]) := by
  subst hn
  refine ⟨?_, ?_⟩
  · simp only [indexAddrA]
    rw [if_pos ⟨trivial, by omega, by omega⟩]
    simp
  · rw [Box.load b]
    simp [hi]
theorem CBox.put (c1 : Cell1 mk) {r : Nat} {f : List α} {h : H} (wf : h.Wf) (b : CBox mk r f h) {i : Nat} (hi : i < f.length) (v : α) :
    ∃ h', storeA h 1 (.ptr r i) (mk v) = some h' ∧ CBox mk r (f.set i v) h' ∧ KeepA [r] h h' := by
  obtain ⟨h', e, b', k⟩ := Box.put wf b (i := i) (n := 1) (v := mk v) (by rw [c1.cells]; rfl) (by rw [c1.cells]; simp [c1.one]) (by simp only [List.length_map]; omega)
  refine ⟨h', e, ?_, k⟩
  rw [c1.cells, splice_one hi] at b'
  exact b'
theorem CBox.sl {r : Nat} {f : List α} {h : H} (b : CBox mk r f h) {n : Nat} (hn : n = f.length) : Sl h 1 (.slice r 0 n 1) n (f.map mk) := by
  subst hn
  refine ⟨rfl, ?_⟩
  simp only [H.firstCells, Box.row b]
  rw [if_pos ⟨trivial, Nat.le_refl _⟩, if_pos (by simp)]
  rw [Nat.mul_one, List.drop_zero, List.take_of_length_le (by simp)]
theorem CBox.make {h : H} (wf : h.Wf) {n bytes : Nat} {z : α} (hn : n ≤ 1000000) (hb : bytes ≤ 64) :
    makeSliceA h 1 bytes [mk z] (.int .i64 (n : Int)) (.int .i64 (n : Int)) = some (.slice h.n 0 n 1, h.new ((List.replicate n z).map mk)) := by
  have hz : zeros [mk z] (n * 1) = (List.replicate n z).map mk := by
    rw [Nat.mul_one, List.map_replicate]
    have : ∀ k, zeros [mk z] k = List.replicate k (mk z) := by
      intro k
      unfold zeros
      apply List.ext_getElem
      · simp
      · intro i h1 h2; simp [Nat.mod_one]
    exact this n
  unfold makeSliceA
  simp only
  have hb' : n * bytes ≤ 1000000 * 64 := Nat.mul_le_mul hn hb
  rw [if_pos ⟨by omega, Int.le_refl _, by omega, by
    have : ((n : Int) * (bytes : Int)) = ((n * bytes : Nat) : Int) := by simp
    omega⟩]
  rw [Int.toNat_natCast, hz]
end
/-- an element of a slice of structs: its address, its cells -/
theorem Sl.elem {β : Type} {f : β → List AV} {h : H} {v : AV} {es : Nat} {l : List β} (b : Sl h es v l.length (l.flatMap f)) (hf : ∀ x ∈ l, (f x).length = es) {i : Nat} (hi : i < l.length) (hes : 0 < es) (kd : IntKind) :
    ∃ o j, indexAddrA es v (.int kd (i : Int)) = some (.ptr o j) ∧ (∀ k, k < es → loadA h false 1 (.ptr o (j + k)) = (f l[i])[k]?) ∧ loadA h true es (.ptr o j) = some (.agg (f l[i])) := by
  obtain ⟨o, j, row, rfl, e, hrow, hle, hcs⟩ := b.addr hi hes kd
  have hm := mul_in (es := es) hi
  have hcut : (row.drop (j + i * es)).take es = f l[i] := by rw [← cut_in hi, ← hcs, flat_at hi hf]
  refine ⟨o, j + i * es, e, fun k hk => ?_, ?_⟩
  · simp only [loadA, hrow, Bool.false_eq_true, if_false]
    rw [← hcut, List.getElem?_take, if_pos hk, List.getElem?_drop]
  · simp only [loadA, hrow, if_true]
    rw [if_pos (by omega), hcut]
end Go.Proofs.YtgjcdpanabjcmaaGreatDoor.Ev

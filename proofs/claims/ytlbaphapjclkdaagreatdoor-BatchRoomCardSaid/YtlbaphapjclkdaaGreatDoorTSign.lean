/- The reader of tokens: what is next, what is passed. -/
import Derived.Test.YtlbaphapjclkdaaGreatDoorTBase
import Derived.Test.YtlbaphapjclkdaaGreatDoorRows
import Derived.Test.YtlbaphapjclkdaaGreatDoorTShow
import Derived.Lib.Bytealg
import Derived.Laws.StandIn
import Derived.Test.YtlbaphapjclkdaaGreatDoorEvL2
namespace Go.Proofs.YtlbaphapjclkdaaGreatDoor.Ev.C
open Go Go.Proofs.YtlbaphapjclkdaaGreatDoor.Ev
set_option linter.unusedSimpArgs false
set_option linter.unusedVariables false

def isKey (s : List UInt8) : Bool := keysL.contains s
theorem index_str_spec {E : Env} (he : Std E) {v : AV} {l : List (List UInt8)} {s : List UInt8} {h : H} (b : Strs h v l) (hl : l.length < 4611686018427387904) :
    WCall E n_slices_Index_string_string [v, .str s] h fun r h' => h' = h ∧ ∃ z : Int, r = .val (.int .i64 z) ∧ (0 ≤ z ↔ s ∈ l) := by
  refine WCall_ws (he.ov _ rfl) (he.tT T_slices_Index_string_string) (by simp [slices_Index_string_string_a]) ?_
  refine WS_of_seq (WS_of_ops ?_)
  simp only [slices_Index_string_string_r0, go_sem, ↓reduceIte, Nat.reduceEqDiff]
  refine WS_of_seq (WS_of_seq (WS_of_ops ?_))
  simp only [slices_Index_string_string_r1, go_sem, ↓reduceIte, Nat.reduceEqDiff, enterS, List.getD_cons_zero, b.len]
  refine WS_of_block (WS_of_loop (fun m z g => g = h ∧ ∃ i, m = l.length - i ∧ i ≤ l.length ∧ s ∉ l.take i ∧ z 0 = v ∧ z 1 = .str s ∧ z 7 = .int .i64 (l.length : Int) ∧ z 8 = .int .i64 (i : Int)) ?_ l.length ?_)
  · rintro m z g ⟨rfl, i, rfl, hi, hno, z0, z1, z7, z8⟩
    show WS E slices_Index_string_string_l7 _ _ _ _
    refine WS_of_seq (WS_of_ops ?_)
    simp only [slices_Index_string_string_r2, go_sem, ↓reduceIte, Nat.reduceEqDiff, z7, z8]
    refine WS_of_seq (WS_of_cond ?_)
    simp only [go_sem, ↓reduceIte]
    by_cases hil : i < l.length
    case neg =>
      have hie : i = l.length := by omega
      subst hie
      simp only [Int.lt_irrefl, decide_false, Bool.false_eq_true, ↓reduceIte]
      refine WS_of_exit ?_
      simp only [go_sem, ↓reduceIte]
      refine WS_of_seq (WS_of_ops ?_)
      simp only [slices_Index_string_string_r8, go_sem, ↓reduceIte, Nat.reduceEqDiff]
      refine WS_of_ret ?_
      simp only [go_sem, slices_Index_string_string_a, ↓reduceIte, Nat.reduceEqDiff]
      rw [List.take_length] at hno
      exact ⟨trivial, -1, rfl, by simp [hno]⟩
    have hil' : (i : Int) < (l.length : Int) := by omega
    simp only [hil', decide_true, ↓reduceIte]
    refine WS_of_skip ?_
    simp only [go_sem]
    refine WS_of_seq (WS_of_block (WS_of_seq (WS_of_ops ?_)))
    simp only [slices_Index_string_string_r3, go_sem, ↓reduceIte, Nat.reduceEqDiff, z8]
    refine WS_of_seq (WS_of_ops ?_)
    obtain ⟨p, e1, e2⟩ := b.at hil .i64
    simp only [slices_Index_string_string_r4, go_sem, ↓reduceIte, Nat.reduceEqDiff, z0, z1, e1, e2]
    refine WS_of_cond ?_
    simp only [go_sem, ↓reduceIte]
    by_cases hs : s = l[i]
    · simp only [hs, decide_true, ↓reduceIte]
      refine WS_of_seq (WS_of_ops ?_)
      simp only [slices_Index_string_string_r5, go_sem, ↓reduceIte, Nat.reduceEqDiff]
      refine WS_of_ret ?_
      simp only [go_sem, slices_Index_string_string_a, ↓reduceIte, Nat.reduceEqDiff]
      exact ⟨trivial, i, rfl, by simp⟩
    · simp only [hs, decide_false, Bool.false_eq_true, ↓reduceIte]
      refine WS_of_skip ?_
      simp only [go_sem]
      refine WS_of_ops ?_
      simp only [slices_Index_string_string_r6, go_sem, ↓reduceIte, Nat.reduceEqDiff, z8]
      refine ⟨l.length - (i + 1), by omega, trivial, i + 1, rfl, by omega, ?_, z0, z1, z7, ?_⟩
      · rw [List.take_add_one]
        simp only [List.getElem?_eq_getElem hil, Option.toList_some, List.mem_append, List.mem_singleton, not_or]
        exact ⟨hno, hs⟩
      · have : IntKind.i64.wrap ((i : Int) + 1) = ((i + 1 : Nat) : Int) := by rw [show ((i : Int) + 1) = ((i + 1 : Nat) : Int) from rfl]; exact wrapI (by omega)
        rw [this]
  · exact ⟨rfl, 0, by simp, by omega, by simp, rfl, rfl, rfl, rfl⟩
theorem contains_str_spec {E : Env} (he : Std E) {v : AV} {l : List (List UInt8)} {s : List UInt8} {h : H} (b : Strs h v l) (hl : l.length < 4611686018427387904) :
    WCall E n_slices_Contains_string_string [v, .str s] h fun r h' => h' = h ∧ r = .val (.bool (l.contains s)) := by
  refine WCall_ws (he.ov _ rfl) (he.tT T_slices_Contains_string_string) (by simp [slices_Contains_string_string_a]) ?_
  refine WS_of_seq (WS_of_ops ?_)
  simp only [slices_Contains_string_string_r0, go_sem, ↓reduceIte, Nat.reduceEqDiff]
  refine WS_of_seq (WS_of_ops ?_)
  simp only [slices_Contains_string_string_r1, go_sem, ↓reduceIte, Nat.reduceEqDiff, enterS, List.getD_cons_zero, List.getD_cons_succ]
  refine (index_str_spec he b hl).mono ?_
  rintro r h' ⟨rfl, z, rfl, hz⟩
  simp only [go_sem, ↓reduceIte, Nat.reduceEqDiff]
  refine WS_of_ret ?_
  simp only [go_sem, slices_Contains_string_string_a, ↓reduceIte, Nat.reduceEqDiff]
  refine ⟨trivial, ?_⟩
  congr 2
  rw [Bool.eq_iff_iff]
  simp [hz]
theorem keys_load {h : H} (ks : KStart h) : loadA h false 1 (.gptr g_token_keys) = some (.slice 1 0 4 1) := by
  simp [loadA, ks.glob]
theorem keys_strs {h : H} (ks : KStart h) : Strs h (.slice 1 0 4 1) keysL := by
  refine ⟨rfl, ?_⟩
  have hr : h.row 1 = some (strCells keysL) := by unfold H.row; rw [ks.row]
  simp [H.firstCells, hr, strCells, keysL]
theorem key_spec {E : Env} (he : Std E) {s : List UInt8} {h : H} (ks : KStart h) : WCall E n_token_Key [.str s] h fun r h' => h' = h ∧ r = .val (.bool (isKey s)) := by
  refine WCall_ws (he.ov _ rfl) (he.tT T_token_Key) (by simp [token_Key_a]) ?_
  refine WS_of_seq (WS_of_ops ?_)
  simp only [token_Key_r0, go_sem, ↓reduceIte, Nat.reduceEqDiff]
  refine WS_of_seq (WS_of_ops ?_)
  simp only [token_Key_r1, go_sem, ↓reduceIte, Nat.reduceEqDiff, enterS, List.getD_cons_zero, keys_load ks]
  refine (contains_str_spec he (keys_strs ks) (by decide)).mono ?_
  rintro r h' ⟨rfl, rfl⟩
  simp only [go_sem, ↓reduceIte, Nat.reduceEqDiff]
  refine WS_of_ret ?_
  simp only [go_sem, token_Key_a, ↓reduceIte, Nat.reduceEqDiff]
  exact ⟨trivial, rfl⟩

/-! ### tokens -/
/-- a token: its kind, its text, its place -/
abbrev Tk := Nat × List UInt8 × Nat
def tkCells (t : Tk) : List AV := [.int .i64 (t.1 : Int), .str t.2.1, .int .i64 (t.2.2 : Int)]
abbrev Toks (h : H) (v : AV) (l : List Tk) : Prop := Sl h 3 v l.length (l.flatMap tkCells)
theorem tkCells_len (t : Tk) : (tkCells t).length = 3 := rfl
/-- the first token -/
theorem Toks.first {h : H} {v : AV} {t : Tk} {l : List Tk} (b : Toks h v (t :: l)) :
    ∃ o j, indexAddrA 3 v (.int .i64 0) = some (.ptr o j) ∧ loadA h false 1 (.ptr o (j + 0)) = some (.int .i64 (t.1 : Int)) ∧ loadA h false 1 (.ptr o (j + 1)) = some (.str t.2.1) ∧ loadA h false 1 (.ptr o (j + 2)) = some (.int .i64 (t.2.2 : Int)) := by
  obtain ⟨o, j, row, rfl, e, hrow, hle, hcs⟩ := b.addr (i := 0) (by simp) (by decide) .i64
  refine ⟨o, j, by simpa using e, ?_, ?_, ?_⟩
  all_goals
    simp only [loadA, hrow, Bool.false_eq_true, if_false]
    have hlen : j + 3 ≤ row.length := by simp at hle; omega
    have hget : ∀ k, k < 3 → row[j + k]? = (tkCells t)[k]? := by
      intro k hk
      have h1 : ((row.drop j).take ((t :: l).length * 3))[k]? = row[j + k]? := by
        rw [List.getElem?_take, if_pos (by simp; omega), List.getElem?_drop]
      rw [← h1, ← hcs, List.flatMap_cons, List.getElem?_append_left (by rw [tkCells_len]; exact hk)]
  · exact hget 0 (by decide)
  · exact hget 1 (by decide)
  · exact hget 2 (by decide)
/-- the tokens behind the first one -/
theorem Toks.rest {h : H} {v : AV} {t : Tk} {l : List Tk} (b : Toks h v (t :: l)) : ∃ v', sliceSA 3 (some (.int .i64 1)) none v = some v' ∧ Toks h v' l ∧ (∀ K, Slot K h v → Slot K h v') := by
  obtain ⟨v', e, s, k⟩ := b.cut (lo := 1) (hi := (t :: l).length) (by simp) (Nat.le_refl _) (some (.int .i64 1)) none (bounds_from (k := 1) (by simp) .i64)
  refine ⟨v', e, ?_, k⟩
  have e1 : (((t :: l).flatMap tkCells).drop (1 * 3)).take (((t :: l).length - 1) * 3) = l.flatMap tkCells := by
    rw [List.flatMap_cons, Nat.one_mul]
    have : (tkCells t).length = 3 := rfl
    rw [← this, List.drop_left]
    simp only [List.length_cons, Nat.add_sub_cancel]
    rw [List.take_of_length_le]
    rw [flat_len (es := 3) (fun x _ => tkCells_len x)]; simp [tkCells_len]
  rw [e1] at s
  simpa using s
/-- is a key, or a sign, next? -/
def isNext (l : List Tk) (s : List UInt8) : Bool := match l with | t :: _ => decide (t.2.1 = s) && (t.1 == 2 || isKey s) | [] => false
/-- is s next, before a token of the kind k and the text t? -/
def isAt (k : Int) (t s : List UInt8) : Bool := decide (t = s) && (decide (k = 2) || isKey s)
theorem is_core {E : Env} (he : Std E) {o i to tj : Nat} {l : AV} {k : Int} {t s : List UInt8} {h : H} (ks : KStart h) (hl : loadA h false 1 (.ptr o (i + 0)) = some l)
    (e1 : indexAddrA 3 l (.int .i64 0) = some (.ptr to tj)) (e2 : loadA h false 1 (.ptr to (tj + 0)) = some (.int .i64 k)) (e3 : loadA h false 1 (.ptr to (tj + 1)) = some (.str t)) :
    WCall E n_parse_reader_is [.ptr o i, .str s] h fun r h' => h' = h ∧ r = .val (.bool (isAt k t s)) := by
  refine WCall_ws (he.ov _ rfl) (he.tT T_parse_reader_is) (by simp [parse_reader_is_a]) ?_
  refine WS_of_seq (WS_of_ops ?_)
  simp only [parse_reader_is_r0, go_sem, ↓reduceIte, Nat.reduceEqDiff]
  refine WS_of_seq (WS_of_ops ?_)
  simp only [parse_reader_is_r1, go_sem, ↓reduceIte, Nat.reduceEqDiff, enterS, List.getD_cons_zero, List.getD_cons_succ, hl, e1, e2, e3, wanted]
  by_cases h1 : t = s
  · simp only [h1, decide_true, beq_self_eq_true, go_sem, ↓reduceIte, Nat.reduceEqDiff, hl, e1, e2]
    by_cases h2 : k = 2
    · simp only [h2, decide_true, beq_self_eq_true, Bool.true_eq_false, Bool.false_eq_true, reduceCtorEq, go_sem, ↓reduceIte, Nat.reduceEqDiff, pickA, show (true == false) = false from rfl]
      refine WS_of_ret ?_
      simp only [go_sem, parse_reader_is_a, ↓reduceIte, Nat.reduceEqDiff]
      exact ⟨trivial, by simp [isAt, h1, h2]⟩
    · simp only [h2, decide_false, beq_self_eq_true, go_sem, ↓reduceIte, Nat.reduceEqDiff, pickA]
      refine (key_spec he ks).mono ?_
      rintro r h' ⟨rfl, rfl⟩
      simp only [go_sem, ↓reduceIte, Nat.reduceEqDiff, pickA, wanted, beq_self_eq_true, Bool.false_eq_true]
      refine WS_of_ret ?_
      simp only [go_sem, parse_reader_is_a, ↓reduceIte, Nat.reduceEqDiff]
      exact ⟨trivial, by simp [isAt, h1, h2]⟩
  · simp only [h1, decide_false, go_sem, ↓reduceIte, Nat.reduceEqDiff, show (false == true) = false from rfl, Bool.false_eq_true, pickA, wanted, undefA]
    refine WS_of_ret ?_
    simp only [go_sem, parse_reader_is_a, ↓reduceIte, Nat.reduceEqDiff]
    exact ⟨trivial, by simp [isAt, h1]⟩
theorem is_spec {E : Env} (he : Std E) {o i : Nat} {l : AV} {ts : List Tk} {s : List UInt8} {h : H} (ks : KStart h) (hl : loadA h false 1 (.ptr o (i + 0)) = some l) (b : Toks h l ts) (hne : ts ≠ []) :
    WCall E n_parse_reader_is [.ptr o i, .str s] h fun r h' => h' = h ∧ r = .val (.bool (isNext ts s)) := by
  cases ts with
  | nil => exact absurd rfl hne
  | cons t ts =>
  obtain ⟨to, tj, e1, e2, e3, e4⟩ := b.first
  refine (is_core he ks hl e1 e2 e3).mono ?_
  rintro r h' ⟨rfl, rfl⟩
  refine ⟨rfl, ?_⟩
  congr 2
  unfold isAt isNext
  have : decide ((t.1 : Int) = 2) = (t.1 == 2) := by rw [Bool.eq_iff_iff]; simp; omega
  simp only [this]
/-- pass: what is next is passed, if it is s -/
theorem pass_core {E : Env} (he : Std E) {o i to tj : Nat} {l l' : AV} {k : Int} {t s : List UInt8} {h : H} (ks : KStart h) (hl : loadA h false 1 (.ptr o (i + 0)) = some l)
    (e1 : indexAddrA 3 l (.int .i64 0) = some (.ptr to tj)) (e2 : loadA h false 1 (.ptr to (tj + 0)) = some (.int .i64 k)) (e3 : loadA h false 1 (.ptr to (tj + 1)) = some (.str t))
    (e4 : isAt k t s = true → sliceSA 3 (some (.int .i64 1)) none l = some l' ∧ ∃ h', storeA h 1 (.ptr o (i + 0)) l' = some h') :
    WCall E n_parse_reader_pass [.ptr o i, .str s] h fun r h' => r = .val (.bool (isAt k t s)) ∧ if isAt k t s = true then storeA h 1 (.ptr o (i + 0)) l' = some h' else h' = h := by
  refine WCall_ws (he.ov _ rfl) (he.tT T_parse_reader_pass) (by simp [parse_reader_pass_a]) ?_
  refine WS_of_seq (WS_of_ops ?_)
  simp only [parse_reader_pass_r0, go_sem, ↓reduceIte, Nat.reduceEqDiff]
  refine WS_of_seq (WS_of_seq (WS_of_ops ?_))
  simp only [parse_reader_pass_r1, go_sem, ↓reduceIte, Nat.reduceEqDiff, enterS, List.getD_cons_zero, List.getD_cons_succ]
  refine (is_core he ks hl e1 e2 e3).mono ?_
  rintro r h' ⟨rfl, rfl⟩
  simp only [go_sem, ↓reduceIte, Nat.reduceEqDiff]
  refine WS_of_cond ?_
  cases hat : isAt k t s
  · simp only [go_sem, ↓reduceIte, Nat.reduceEqDiff, Bool.not_false]
    refine WS_of_seq (WS_of_ops ?_)
    simp only [parse_reader_pass_r2, go_sem, ↓reduceIte, Nat.reduceEqDiff]
    refine WS_of_ret ?_
    simp only [go_sem, parse_reader_pass_a, ↓reduceIte, Nat.reduceEqDiff]
    simp
  · obtain ⟨e5, h2, e6⟩ := e4 hat
    simp only [go_sem, ↓reduceIte, Nat.reduceEqDiff, Bool.not_true, Bool.false_eq_true]
    refine WS_of_skip ?_
    simp only [go_sem]
    refine WS_of_seq (WS_of_ops ?_)
    simp only [parse_reader_pass_r3, go_sem, ↓reduceIte, Nat.reduceEqDiff, hl, e5, e6]
    refine WS_of_seq (WS_of_ops ?_)
    simp only [parse_reader_pass_r4, go_sem, ↓reduceIte, Nat.reduceEqDiff]
    refine WS_of_ret ?_
    simp only [go_sem, parse_reader_pass_a, ↓reduceIte, Nat.reduceEqDiff]
    exact ⟨trivial, trivial⟩

/-! ### sign: a map of three signs is ranged over, in whichever order -/
def sgn (t : List UInt8) : Int := if t = [124] then 4 else if t = [38] then 5 else if t = [45] then 6 else 0
/-- what sign answers, in one step: two objects are made that nothing is told of -/
def signG : List AV → H → Option (AOut × H)
  | [.ptr o i], h => if (startB g_token_keys 4 (strCells keysL) h && decide (2 ≤ h.n ∧ o < h.n)) = true then match h.row o with
    | some cs => match cs[i]? with
      | some (.slice tl j len 3) => if len = 0 ∨ h.n ≤ tl then none else match h.row tl with
        | some ts => match ts[j]?, ts[j + 1]? with
          | some (.int .i64 k), some (.str t) =>
            let v := if k = 2 then sgn t else 0
            let h2 := (h.push .other).push .other
            if v = 0 then some (.val (.int .i64 0), h2) else ((h2.put o i [.slice tl (j + 3) (len - 1) 3]).map fun h3 => (.val (.int .i64 v), h3))
          | _, _ => none
        | none => none
      | _ => none
    | none => none
    else none
  | _, _ => none
def signEs : List (AV × AV × Nat) := [(.str [124], .int .i64 4, 0), (.str [38], .int .i64 5, 1), (.str [45], .int .i64 6, 2)]
theorem sgn_at (k : Int) (t w : List UInt8) (v : Int) (hw : (w = [124] ∧ v = 4) ∨ (w = [38] ∧ v = 5) ∨ (w = [45] ∧ v = 6)) : isAt k t w = true ↔ (if k = 2 then sgn t else 0) = v := by
  have hk : isKey w = false := by rcases hw with ⟨rfl, _⟩ | ⟨rfl, _⟩ | ⟨rfl, _⟩ <;> rfl
  unfold isAt sgn
  rw [hk]
  by_cases h2 : k = 2
  · subst h2
    simp only [decide_true, Bool.true_or, Bool.and_true, decide_eq_true_eq, if_true]
    rcases hw with ⟨rfl, rfl⟩ | ⟨rfl, rfl⟩ | ⟨rfl, rfl⟩
    · constructor
      · rintro rfl; rfl
      · intro h; split at h
        · assumption
        · split at h
          · cases h
          · split at h <;> cases h
    · constructor
      · rintro rfl; rfl
      · intro h; split at h
        · cases h
        · split at h
          · assumption
          · split at h <;> cases h
    · constructor
      · rintro rfl; rfl
      · intro h; split at h
        · cases h
        · split at h
          · cases h
          · split at h
            · assumption
            · cases h
  · simp only [h2, decide_false, Bool.or_false, Bool.and_false, Bool.false_eq_true, if_false, false_iff]
    rcases hw with ⟨_, rfl⟩ | ⟨_, rfl⟩ | ⟨_, rfl⟩ <;> decide
/-- a heap that has grown by two objects -/
structure Up2 (h g : H) : Prop where
  n : g.n = h.n + 2
  gr : ∀ i, g.gr.get i = h.gr.get i
  ob : ∀ o, o ≠ h.n → o ≠ h.n + 1 → g.get o = h.get o
  m1 : ∃ X, g.get h.n = some (.mem X)
  m2 : ∃ X, g.get (h.n + 1) = some (.mem X)
theorem Up2.get {h g : H} (u : Up2 h g) (o : Nat) (ho : o < h.n) : g.get o = h.get o := u.ob o (by omega) (by omega)
theorem Up2.weak {h g : H} (u : Up2 h g) : Weak h.n g ((h.push .other).push .other) := by
  refine ⟨by rw [u.n]; rfl, fun i => by rw [u.gr]; rfl, fun o => ?_⟩
  have h1 : (h.push .other).n = h.n + 1 := rfl
  rw [H.get_push, h1, H.get_push]
  by_cases e1 : o = h.n + 1
  · subst e1; exact .inr ⟨by omega, by simp, u.m2⟩
  · by_cases e2 : o = h.n
    · subst e2; exact .inr ⟨Nat.le_refl _, by simp, u.m1⟩
    · rw [if_neg e1, if_neg e2]; exact .inl (u.ob o e2 e1).symm
theorem Up2.row {h g : H} (u : Up2 h g) {o : Nat} (ho : o < h.n) : g.row o = h.row o := by
  unfold H.row; rw [u.get o ho]
  have : ∀ i, g.kill i = h.kill i := fun i => by unfold H.kill; rw [u.gr]
  simp only [this]
theorem Up2.load {h g : H} (u : Up2 h g) {o : Nat} (ho : o < h.n) (a : Bool) (n i : Nat) : loadA g a n (.ptr o i) = loadA h a n (.ptr o i) := by
  simp only [loadA, u.row ho]
theorem Up2.start {h g : H} (u : Up2 h g) (ks : KStart h) (h2 : 2 ≤ h.n) : KStart g := ⟨by rw [u.get 0 (by omega)]; exact ks.glob, by rw [u.get 1 (by omega)]; exact ks.row⟩
theorem sign_ok {E : Env} (he : Std E) {h h' : H} {o i : Nat} {r : AOut} (hg : signG [.ptr o i] h = some (r, h')) : WCall E n_parse_reader_sign [.ptr o i] h fun r1 h1 => r1 = r ∧ Weak h.n h1 h' := by
  unfold signG at hg
  simp only at hg
  split at hg
  case isFalse => cases hg
  rename_i hc
  simp only [Bool.and_eq_true, decide_eq_true_eq] at hc
  obtain ⟨hst, hn2, hon⟩ := hc
  have ks : KStart h := startB_ok hst
  split at hg
  case h_2 => cases hg
  rename_i cs hrow
  split at hg
  case h_2 => cases hg
  rename_i tl j len hcell
  split at hg
  case isTrue => cases hg
  rename_i hlen
  split at hg
  case h_2 => cases hg
  rename_i ts htrow
  split at hg
  case h_2 => cases hg
  rename_i k t hk ht
  have htn : tl < h.n := by omega
  have hl0 : 0 < len := by omega
  have L0 : loadA h false 1 (.ptr o (i + 0)) = some (.slice tl j len 3) := by simp [loadA, hrow, hcell]
  have L1 : indexAddrA 3 (.slice tl j len 3) (.int .i64 0) = some (.ptr tl j) := by simp [indexAddrA, hl0]
  have L2 : loadA h false 1 (.ptr tl (j + 0)) = some (.int .i64 k) := by simp [loadA, htrow, hk]
  have L3 : loadA h false 1 (.ptr tl (j + 1)) = some (.str t) := by simp [loadA, htrow, ht]
  have L4 : sliceSA 3 (some (.int .i64 1)) none (.slice tl j len 3) = some (.slice tl (j + 3) (len - 1) 3) := by
    have : (1 : Int) ≤ (len : Int) := by omega
    simp [sliceSA, bounds, this]
  refine WCall_ws (he.ov _ rfl) (he.tT T_parse_reader_sign) (by simp [parse_reader_sign_a]) ?_
  refine WS_of_seq (WS_of_ops ?_)
  simp only [parse_reader_sign_r0, go_sem, ↓reduceIte, Nat.reduceEqDiff, enterS]
  refine WS_of_seq (WS_of_seq (WS_of_ops ?_))
  simp only [parse_reader_sign_r1, go_sem, ↓reduceIte, Nat.reduceEqDiff, mapPutA, H.get_push, H.get_setMem, keyEq, idxM, beq_self_eq_true, Option.isSome_some, List.nil_append, List.cons_append, rangeMA,
    show ([38] == ([124] : List UInt8)) = false from rfl, show ([45] == ([124] : List UInt8)) = false from rfl, show ([45] == ([38] : List UInt8)) = false from rfl, Option.map_some, Option.map_none, List.getD_cons_zero]
  refine WS_of_block (WS_of_loop (fun m z g => Up2 h g ∧ MapAt g h.n signEs 3 ∧ ∃ seen, m = signEs.length - seen.length ∧ IterAt g (h.n + 1) h.n signEs 3 seen ∧ (∀ e ∈ signEs, e.2.2 ∈ seen → ∃ w, e.1 = .str w ∧ isAt k t w = false) ∧ z 0 = .ptr o i ∧ z 7 = .ptr (h.n + 1) 0) ?_ 3 ?_)
  · rintro m z g ⟨u, hm, seen, rfl, hi, hno, z0, z7⟩
    show WS E parse_reader_sign_l6 _ _ _ _
    refine WS_of_seq (WS_of_ops ?_)
    simp only [parse_reader_sign_r2, go_sem, ↓reduceIte, Nat.reduceEqDiff, z7]
    refine nextP_iter hm hi (by omega) ?_ ?_
    · intro hall
      have hv0 : (if k = 2 then sgn t else 0) = 0 := by
        have h1 : ∀ w v, (.str w, v) ∈ signEs.map (fun e => (e.1, e.2.1)) → isAt k t w = false := by
          intro w v hmem
          obtain ⟨e, he1, he2⟩ := List.mem_map.1 hmem
          obtain ⟨w', e3, e4⟩ := hno e he1 (hall e he1)
          simp only [Prod.mk.injEq] at he2
          rw [he2.1] at e3; cases e3; exact e4
        have a1 := h1 [124] _ (by simp [signEs]; rfl)
        have a2 := h1 [38] _ (by simp [signEs]; rfl)
        have a3 := h1 [45] _ (by simp [signEs]; rfl)
        have b1 := sgn_at k t [124] 4 (.inl ⟨rfl, rfl⟩)
        have b2 := sgn_at k t [38] 5 (.inr (.inl ⟨rfl, rfl⟩))
        have b3 := sgn_at k t [45] 6 (.inr (.inr ⟨rfl, rfl⟩))
        rw [a1] at b1; rw [a2] at b2; rw [a3] at b3
        by_cases hk2 : k = 2
        · simp only [hk2, if_true, Bool.false_eq_true, false_iff] at b1 b2 b3 ⊢
          unfold sgn at b1 b2 b3 ⊢
          split
          · rename_i ht1; simp [ht1] at b1
          · split
            · rename_i ht1 ht2; simp [ht2] at b2
            · split
              · rename_i ht1 ht2 ht3; simp [ht3] at b3
              · rfl
        · simp [hk2]
      rw [if_pos hv0] at hg
      cases hg
      simp only [go_sem, ↓reduceIte, Nat.reduceEqDiff, extractA, List.getElem?_cons_zero]
      refine WS_of_seq (WS_of_cond ?_)
      simp only [go_sem, ↓reduceIte, Bool.false_eq_true]
      refine WS_of_exit ?_
      simp only [go_sem, ↓reduceIte]
      refine WS_of_seq (WS_of_ops ?_)
      simp only [parse_reader_sign_r7, go_sem, ↓reduceIte, Nat.reduceEqDiff]
      refine WS_of_ret ?_
      simp only [go_sem, parse_reader_sign_a, ↓reduceIte, Nat.reduceEqDiff]
      exact ⟨trivial, u.weak⟩
    · rintro e hmem hns g' hg' hm' hi' hent hlt
      have u' : Up2 h g' := by
        subst hg'
        refine ⟨u.n, u.gr, fun o' h1 h2 => by rw [H.get_setMem, if_neg h2]; exact u.ob o' h1 h2, ?_, ?_⟩
        · rw [H.get_setMem, if_neg (by omega)]; exact u.m1
        · rw [H.get_setMem, if_pos rfl]; exact ⟨_, rfl⟩
      obtain ⟨w, v, hw1, hw2, hwv⟩ : ∃ w v, e.1 = .str w ∧ e.2.1 = .int .i64 v ∧ ((w = [124] ∧ v = 4) ∨ (w = [38] ∧ v = 5) ∨ (w = [45] ∧ v = 6)) := by
        simp only [signEs, List.mem_cons, List.not_mem_nil, or_false] at hmem
        rcases hmem with rfl | rfl | rfl
        · exact ⟨_, _, rfl, rfl, .inl ⟨rfl, rfl⟩⟩
        · exact ⟨_, _, rfl, rfl, .inr (.inl ⟨rfl, rfl⟩)⟩
        · exact ⟨_, _, rfl, rfl, .inr (.inr ⟨rfl, rfl⟩)⟩
      rw [hw1, hw2] at hent
      simp only [hw1, hw2, go_sem, ↓reduceIte, Nat.reduceEqDiff, extractA, List.getElem?_cons_zero]
      refine WS_of_seq (WS_of_cond ?_)
      simp only [go_sem, ↓reduceIte]
      refine WS_of_skip ?_
      simp only [go_sem]
      refine WS_of_block (WS_of_seq (WS_of_ops ?_))
      simp only [parse_reader_sign_r3, go_sem, ↓reduceIte, Nat.reduceEqDiff, z7, hent, extractA, List.getElem?_cons_zero, List.getElem?_cons_succ]
      refine WS_of_seq (WS_of_ops ?_)
      simp only [parse_reader_sign_r4, go_sem, ↓reduceIte, Nat.reduceEqDiff, z0]
      have hat := sgn_at k t w v hwv
      have hput : isAt k t w = true → ∃ g2, storeA g' 1 (.ptr o (i + 0)) (.slice tl (j + 3) (len - 1) 3) = some g2 ∧ r = .val (.int .i64 v) ∧ Weak h.n g2 h' := by
        intro ha
        have hv := hat.1 ha
        have hv0 : v ≠ 0 := by rcases hwv with ⟨_, rfl⟩ | ⟨_, rfl⟩ | ⟨_, rfl⟩ <;> decide
        rw [hv, if_neg hv0] at hg
        rw [Option.map_eq_some_iff] at hg
        obtain ⟨h3, hp, hr⟩ := hg
        cases hr
        obtain ⟨g2, hp2, hw2⟩ := u'.weak.put hp
        exact ⟨g2, by simpa [storeA, AV.cells, AV.one] using hp2, rfl, hw2⟩
      refine (pass_core he (l' := .slice tl (j + 3) (len - 1) 3) (u'.start ks hn2) (by rw [u'.load hon]; exact L0) L1 (by rw [u'.load htn]; exact L2) (by rw [u'.load htn]; exact L3) ?_).mono ?_
      · intro ha
        obtain ⟨g2, e1, _⟩ := hput ha
        exact ⟨L4, g2, e1⟩
      · rintro r1 g2 ⟨rfl, hif⟩
        simp only [go_sem, ↓reduceIte, Nat.reduceEqDiff]
        refine WS_of_cond ?_
        cases hat' : isAt k t w
        · rw [hat'] at hif
          simp only [Bool.false_eq_true, if_false] at hif
          subst hif
          simp only [go_sem, ↓reduceIte, Bool.false_eq_true]
          refine WS_of_skip ?_
          simp only [go_sem, ↓reduceIte, Nat.reduceEqDiff]
          refine ⟨_, hlt, u', hm', _, rfl, hi', ?_, z0, z7⟩
          intro e' he' hs'
          rcases List.mem_append.1 hs' with hs' | hs'
          · exact hno e' he' hs'
          · simp only [List.mem_singleton] at hs'
            have : e' = e := by
              simp only [signEs, List.mem_cons, List.not_mem_nil, or_false] at hmem he'
              rcases hmem with rfl | rfl | rfl <;> rcases he' with rfl | rfl | rfl <;> first | rfl | (simp at hs')
            subst this
            exact ⟨w, hw1, hat'⟩
        · rw [hat'] at hif
          simp only [if_true] at hif
          obtain ⟨g3, e1, e2, e3⟩ := hput hat'
          rw [e1] at hif; cases hif
          simp only [go_sem, ↓reduceIte]
          refine WS_of_seq (WS_of_ops ?_)
          simp only [parse_reader_sign_r5, go_sem, ↓reduceIte, Nat.reduceEqDiff]
          refine WS_of_ret ?_
          simp only [go_sem, parse_reader_sign_a, ↓reduceIte, Nat.reduceEqDiff]
          exact ⟨e2.symm, e3⟩
  · have g1 : ∀ (g : H) (n : Nat), g.n = n → ∀ X o', (g.push X).get o' = if o' = n then some X else g.get o' := by
      rintro g n rfl X o'; exact H.get_push _ _ _
    have gm : ∀ X1 X2 X3 X4 o', (((((h.push (.mem X1)).setMem h.n X2).setMem h.n X3).setMem h.n (.map signEs 3)).push (.mem X4)).get o' = if o' = h.n + 1 then some (.mem X4) else if o' = h.n then some (.mem (.map signEs 3)) else h.get o' := by
      intro X1 X2 X3 X4 o'
      rw [g1 _ (h.n + 1) rfl, H.get_setMem, H.get_setMem, H.get_setMem, H.get_push]
      by_cases e1 : o' = h.n + 1
      · rw [if_pos e1, if_pos e1]
      · rw [if_neg e1, if_neg e1]
        by_cases e2 : o' = h.n
        · rw [if_pos e2, if_pos e2]
        · simp only [e2, if_false]
    have hmap : ∀ X1 X2 X3 X4, (((((h.push (.mem X1)).setMem h.n X2).setMem h.n X3).setMem h.n (.map signEs 3)).push (.mem X4)).get h.n = some (.mem (.map signEs 3)) := by
      intro X1 X2 X3 X4; rw [gm, if_neg (by omega), if_pos rfl]
    have hit : ∀ X1 X2 X3 X4, (((((h.push (.mem X1)).setMem h.n X2).setMem h.n X3).setMem h.n (.map signEs 3)).push (.mem X4)).get (h.n + 1) = some (.mem X4) := by
      intro X1 X2 X3 X4; rw [gm, if_pos rfl]
    refine ⟨⟨rfl, fun _ => rfl, ?_, ⟨_, hmap _ _ _ _⟩, ⟨_, hit _ _ _ _⟩⟩, ⟨hmap _ _ _ _, by decide, by decide⟩, [], rfl, ⟨hit _ _ _ _, List.nodup_nil, by simp⟩, by simp, rfl, rfl⟩
    intro o' h1 h2
    refine (gm _ _ _ _ _).trans ?_
    rw [if_neg h2, if_neg h1]
end Go.Proofs.YtlbaphapjclkdaaGreatDoor.Ev.C

/- What stands for calls of law12 is so. -/
namespace Go.Proofs.YtlbaphapjclkdaaGreatDoor.Ev.C
open Go Go.Proofs.YtlbaphapjclkdaaGreatDoor.Ev
set_option linter.unusedVariables false
set_option linter.unusedSimpArgs false

theorem mixed : PP.follows .mixedOrders = true := Go.Proofs.Tryz.checked.mixed
theorem idxB0 (l : List UInt8) (c : UInt8) : idxB l c 0 = Lib.indexByte l c := by
  rw [idxB_lib]
  split
  · rename_i h; rw [h]
  · omega
noncomputable def fnIbs : Func := (PP.funcs[n_bytealg_IndexByteString]?).getD (PP.funcs[0]!)
theorem fnIbs_get : PP.funcs[n_bytealg_IndexByteString]? = some fnIbs := by kernel_rfl
theorem ibs_ok {B : Nat} {args : List AV} {h h' : H} {r : AOut} (hg : ibs args h = some (r, h')) : FnOK PP B n_bytealg_IndexByteString args h (fun r1 h1 => r1 = r ∧ h1 = h') := by
  unfold ibs at hg
  split at hg
  case h_2 => cases hg
  rename_i s c
  cases hg
  intro m w cargs hr hv
  obtain rfl : cargs = [.string ⟨⟨s⟩⟩, .int .u8 c] := by
    cases hv with
    | cons h1 t =>
      cases h1
      cases t with
      | cons h2 t2 => cases h2; cases t2; rfl
  · refine .inr ⟨.int .i64 (Lib.indexByte s c.toNat.toUInt8), w, ?_, ?_⟩
    · rw [run_callFunc_indexByte fnIbs_get (by kernel_rfl) (by kernel_rfl) (by kernel_rfl) (by kernel_rfl)]
      rw [show ((⟨[Value.string ⟨⟨s⟩⟩, Value.int .u8 c]⟩ : Array Value)) = #[Value.string ⟨⟨s⟩⟩, Value.int .u8 c] from rfl, Lib.run_indexByteString]
      rfl
    · refine ⟨_, _, ⟨rfl, rfl⟩, m, ?_, hr, Fr.refl _ _ _ _⟩
      rw [idxB0]
      exact .val (.int _ _)
theorem countB_lib : ∀ (l : List UInt8) (c : UInt8), countB l c = l.count c
  | [], c => rfl
  | b :: l, c => by
    simp only [countB]
    rw [countB_lib l c, List.count_cons]
    by_cases h : b = c
    · simp [h]; omega
    · have : (b == c) = false := by simpa using h
      simp [h]
noncomputable def fnCnt : Func := (PP.funcs[n_bytealg_CountString]?).getD (PP.funcs[0]!)
theorem fnCnt_get : PP.funcs[n_bytealg_CountString]? = some fnCnt := by kernel_rfl
theorem count_ok {B : Nat} {args : List AV} {h h' : H} {r : AOut} (hg : cntG args h = some (r, h')) : FnOK PP B n_bytealg_CountString args h (fun r1 h1 => r1 = r ∧ h1 = h') := by
  unfold cntG at hg
  split at hg
  case h_2 => cases hg
  rename_i s c
  cases hg
  intro m w cargs hr hv
  obtain rfl : cargs = [.string ⟨⟨s⟩⟩, .int .u8 c] := by
    cases hv with
    | cons h1 t =>
      cases h1
      cases t with
      | cons h2 t2 => cases h2; cases t2; rfl
  · refine .inr ⟨.int .i64 (Lib.countByte s c.toNat.toUInt8), w, ?_, ?_⟩
    · rw [run_callFunc_extern fnCnt_get (by kernel_rfl) (by kernel_rfl) (by kernel_rfl) (e := Extern.BytealgCount.count) (by kernel_rfl)]
      rw [show ((⟨[Value.string ⟨⟨s⟩⟩, Value.int .u8 c]⟩ : Array Value)) = #[Value.string ⟨⟨s⟩⟩, Value.int .u8 c] from rfl, Lib.run_countString]
      rfl
    · refine ⟨_, _, ⟨rfl, rfl⟩, m, ?_, hr, Fr.refl _ _ _ _⟩
      rw [countB_lib]
      exact .val (.int _ _)
def ovI : Ovs := fun f => if f = n_bytealg_IndexByteString then some ibs else none
theorem ovI_ok : ∀ B, B ≠ 0 → OvOK PP B ovI := by
  intro B hB f g hf args h r h' hg
  unfold ovI at hf
  split at hf
  case isFalse => cases hf
  rename_i e; subst e; cases hf
  exact ibs_ok hg
/-- a call of ContainsRune over the letters answers so -/
def crIs (x : Option (AOut × H)) (b : Bool) : Bool := match x with | some (.val (.bool t), _) => t == b | _ => false
theorem crIs_run {x : Option (AOut × H)} {b : Bool} (h : crIs x b = true) : ∃ h1, x = some (.val (.bool b), h1) := by
  unfold crIs at h
  split at h
  · rename_i t h1; exact ⟨h1, by rw [beq_iff_eq.1 h]⟩
  · cases h
set_option maxRecDepth 1000000 in
theorem cr_run : ((List.range 161).all fun (c : Nat) => crIs ((ev (env PP ovI) 400).call (.fn n_strings_ContainsRune) [.str lettersL, .int .i32 (c : Int)] H0) (letterB c)) = true := by kernel_rfl
theorem cr_ok {B : Nat} (hB : B ≠ 0) {args : List AV} {h h' : H} {r : AOut} (hg : crG args h = some (r, h')) : FnOK PP B n_strings_ContainsRune args h (fun r1 h1 => r1 = r ∧ h1 = h') := by
  unfold crG at hg
  split at hg
  case h_2 => cases hg
  split at hg
  case isFalse => cases hg
  rename_i hc
  obtain ⟨rfl, h0, h1⟩ := hc
  cases hg
  rename_i c
  obtain ⟨n, rfl⟩ := Int.eq_ofNat_of_zero_le h0
  have := List.all_eq_true.1 cr_run n (List.mem_range.2 (by omega))
  obtain ⟨hx, hr⟩ := crIs_run this
  have := apart_ok (B0 := B) mixed (table_ok _ _) ovI_ok hB (table_plain _ _) rfl rfl hr h
  simpa using this
theorem ov1_ok : ∀ B, B ≠ 0 → OvOK PP B ov1 := by
  intro B hB f g hf args h r h' hg
  unfold ov1 at hf
  split at hf
  · rename_i e; subst e; cases hf
    exact ibs_ok hg
  split at hf
  · rename_i e; subst e; cases hf
    exact cr_ok hB hg
  split at hf
  · rename_i e; subst e; cases hf
    exact join_ok hB hg
  · split at hf
    case isFalse => cases hf
    rename_i e; subst e; cases hf
    exact count_ok hg
theorem sign_fn {B : Nat} (hB : B ≠ 0) {args : List AV} {h h' : H} {r : AOut} (hg : signG args h = some (r, h')) : FnOK PP B n_parse_reader_sign args h (fun r1 h1 => r1 = r ∧ h1 = h') := by
  have hg' := hg
  unfold signG at hg
  split at hg
  case h_2 => cases hg
  rename_i o i
  have hw := sign_ok std1 hg'
  have hok : FnOK PP B n_parse_reader_sign [.ptr o i] h (fun r1 h1 => r1 = r ∧ Weak h.n h1 h') := holds_ok (E := E1) mixed (table_ok PP ov1) (ov1_ok B hB) hw
  exact hok.weak fun r1 h1 q => ⟨h', q.2, q.1, rfl⟩
/-- what print.rel answers, by a run of its own -/
def ovB : Ovs := fun f => if f = n_bytealg_IndexByteString then some ibs else if f = n_strings_Join then some joinG else none
theorem ovB_ok : ∀ B, B ≠ 0 → OvOK PP B ovB := by
  intro B hB f g hf args h r h' hg
  unfold ovB at hf
  split at hf
  · rename_i e; subst e; cases hf
    exact ibs_ok hg
  · split at hf
    case isFalse => cases hf
    rename_i e; subst e; cases hf
    exact join_ok hB hg
noncomputable def relE (cs : List AV) (h : H) : Option (List UInt8) := match (ev (env PP ovB) 400).call (.fn n_print_rel) [.agg cs] h with | some (.val (.str t), _) => some t | _ => none
theorem relE_ok (cs : List AV) (h : H) (t : List UInt8) (e : relE cs h = some t) (B : Nat) (hB : B ≠ 0) : FnOK PP B n_print_rel [.agg cs] h (fun r1 _ => r1 = .val (.str t)) := by
  unfold relE at e
  split at e
  · rename_i t' h1 he
    cases e
    exact CallOK.imp (f := .fn n_print_rel) (fun r h q => q.1) (sound_call mixed (table_ok _ _) (ovB_ok B hB) (table_plain _ _) he)
  · cases e
noncomputable def ovA : Ovs := fun f => if f = n_bytealg_IndexByteString then some ibs else if f = n_parse_reader_sign then some signG else if f = n_strings_Join then some joinG else if f = n_bytealg_CountString then some cntG else if f = n_print_Show then some (showG relE) else none
theorem ovA_ok : ∀ B, B ≠ 0 → OvOK PP B ovA := by
  intro B hB f g hf args h r h' hg
  unfold ovA at hf
  split at hf
  · rename_i e; subst e; cases hf
    exact ibs_ok hg
  split at hf
  · rename_i e; subst e; cases hf
    exact sign_fn hB hg
  split at hf
  · rename_i e; subst e; cases hf
    exact join_ok hB hg
  split at hf
  · rename_i e; subst e; cases hf
    exact count_ok hg
  · split at hf
    case isFalse => cases hf
    rename_i e; subst e; cases hf
    exact show_ok relE_ok hB hg
def outIs (x : Option (AOut × H)) : Bool := match x with | some (.val (.bool true), _) => true | _ => false
theorem out_run {x : Option (AOut × H)} (h : outIs x = true) : ∃ h1, x = some (.val (.bool true), h1) := by
  unfold outIs at h
  split at h
  · exact ⟨_, rfl⟩
  · cases h
end Go.Proofs.YtlbaphapjclkdaaGreatDoor.Ev.C

/- Counting loops: a rule for the code that a range over a slice is turned to. -/
namespace Go.Proofs.YtlbaphapjclkdaaGreatDoor.Ev
set_option linter.unusedVariables false
set_option linter.unusedSimpArgs false
/-- a round's end: the round is over, or the loop is left -/
def roundP (E : Env) (J : Nat → S → H → Prop) (j b0 b1 : Nat) (k : List Fr1) (Q : Post) : Post := fun ex s h => match ex with
  | .normal => J (j + 1) s h
  | .exit id => if id = b1 then J (j + 1) s h else if id = b0 then WNext E k Q s h else WExit E id k Q s h
  | .ret => Q .ret s h
  | .panic v => Q (.panic v) s h
section
variable {E : Env} {k : List Fr1} {Q : Post}
theorem roundP_normal (J : Nat → S → H → Prop) (j b0 b1 : Nat) (s : S) (h : H) : roundP E J j b0 b1 k Q .normal s h = J (j + 1) s h := id rfl
theorem roundP_exit (J : Nat → S → H → Prop) (j b0 b1 id : Nat) (s : S) (h : H) : roundP E J j b0 b1 k Q (.exit id) s h = if id = b1 then J (j + 1) s h else if id = b0 then WNext E k Q s h else WExit E id k Q s h := _root_.id rfl
theorem roundP_ret (J : Nat → S → H → Prop) (j b0 b1 : Nat) (s : S) (h : H) : roundP E J j b0 b1 k Q .ret s h = Q .ret s h := id rfl
theorem roundP_panic (J : Nat → S → H → Prop) (j b0 b1 : Nat) (v : AV) (s : S) (h : H) : roundP E J j b0 b1 k Q (.panic v) s h = Q (.panic v) s h := id rfl
attribute [go_sem] roundP_normal roundP_exit roundP_ret roundP_panic
/-- a loop over the first n numbers: t: the count, n: how many, c: the test, x: the next count -/
theorem for_loop {b0 b1 ti tn tc tx : Nat} {body : ACode} {n : Nat} {s : S} {h : H} (hn : n < 4611686018427387904) (I : Nat → S → H → Prop)
    (ne : (ti ≠ tc ∧ tn ≠ tc ∧ tn ≠ tx ∧ ti ≠ tx ∧ tn ≠ ti) ∧ b0 ≠ b1)
    (hup : ∀ j s h t v, (t = tc ∨ t = tx ∨ t = ti) → I j s h → I j (upd s (some t) v) h)
    (hi : s ti = .int .i64 0) (hnn : s tn = .int .i64 (n : Int)) (h0 : I 0 s h)
    (step : ∀ j s h, j < n → I j s h → s ti = .int .i64 (j : Int) → s tn = .int .i64 (n : Int) → WS E body [] (roundP E (fun j' s h => I j' s h ∧ s ti = .int .i64 (j : Int) ∧ s tn = .int .i64 (n : Int)) j b0 b1 k Q) s h)
    (fini : ∀ s h, I n s h → WNext E k Q s h) :
    WS E (.block b0 (.loop (.seq (.ops [⟨some tc, .bin .lss (.tmp ti) (.tmp tn), none⟩]) (.seq (.cond (.tmp tc) .skip (.exit b0)) (.seq (.block b1 body) (.ops [⟨some tx, .bin .add (.tmp ti) (.con (.int .i64 1)), none⟩, ⟨some ti, .mov (.tmp tx), none⟩])))))) k Q s h := by
  obtain ⟨⟨n1, n2, n3, n4, n5⟩, n6⟩ := ne
  refine WS_of_block (WS_of_loop (fun m s h => ∃ j, m = n - j ∧ j ≤ n ∧ I j s h ∧ s ti = .int .i64 (j : Int) ∧ s tn = .int .i64 (n : Int)) ?_ n ?_)
  case refine_2 => exact ⟨0, rfl, Nat.zero_le _, h0, hi, hnn⟩
  rintro m s h ⟨j, rfl, hj, hI, z1, z2⟩
  refine WS_of_seq (WS_of_ops ?_)
  simp only [go_sem, ↓reduceIte, z1, z2]
  refine WS_of_seq (WS_of_cond ?_)
  simp only [go_sem, ↓reduceIte]
  by_cases hjl : j < n
  case neg =>
    have hjl' : ¬ (j : Int) < (n : Int) := by omega
    simp only [hjl', decide_false, Bool.false_eq_true, ↓reduceIte]
    refine WS_of_exit ?_
    simp only [go_sem, ↓reduceIte]
    have e : j = n := by omega
    subst e
    exact fini _ _ (hup _ _ _ _ _ (.inl rfl) hI)
  have hjl' : (j : Int) < (n : Int) := by omega
  simp only [hjl', decide_true, ↓reduceIte]
  refine WS_of_skip ?_
  simp only [go_sem]
  refine WS_of_seq (WS_of_block ?_)
  have w := step j (upd s (some tc) (.bool true)) h hjl (hup _ _ _ _ _ (.inl rfl) hI) (by simp only [go_sem, if_neg n1]; exact z1) (by simp only [go_sem, if_neg n2]; exact z2)
  refine WC.mono w ?_
  have a1 : IntKind.i64.wrap ((j : Int) + 1) = ((j + 1 : Nat) : Int) := by rw [show ((j : Int) + 1) = ((j + 1 : Nat) : Int) from rfl]; exact wrapI (by omega)
  have next : ∀ s h, (I (j + 1) s h ∧ s ti = .int .i64 (j : Int) ∧ s tn = .int .i64 (n : Int)) → WS E (.ops [⟨some tx, .bin .add (.tmp ti) (.con (.int .i64 1)), none⟩, ⟨some ti, .mov (.tmp tx), none⟩]) [] (fun ex s h => match ex with | .normal => ∃ m, m < n - j ∧ ∃ j, m = n - j ∧ j ≤ n ∧ I j s h ∧ s ti = .int .i64 (j : Int) ∧ s tn = .int .i64 (n : Int) | ex => fin E (.blk b0 :: k) Q ex s h) s h := by
    rintro s h ⟨hI, z1, z2⟩
    refine WS_of_ops ?_
    simp only [go_sem, ↓reduceIte, z1, a1]
    exact ⟨n - (j + 1), by omega, j + 1, rfl, by omega, hup _ _ _ _ _ (.inr (.inr rfl)) (hup _ _ _ _ _ (.inr (.inl rfl)) hI), rfl, by simp only [if_neg n5, if_neg n3]; exact z2⟩
  intro ex s h q
  cases ex with
  | normal => exact next s h q
  | ret => simp only [go_sem] at q; exact (fin_ret (E := E) (Q := Q) (s := s) (h := h) k).symm ▸ q
  | panic v => simp only [go_sem] at q; exact (fin_panic (E := E) (Q := Q) (s := s) (h := h) v k).symm ▸ q
  | exit id =>
    simp only [go_sem] at q
    show WExit E id [.blk b1, .code _] _ s h
    simp only [go_sem]
    by_cases e1 : id = b1
    · rw [if_pos e1] at q ⊢
      exact next s h q
    · rw [if_neg e1] at q ⊢
      exact q
/-- the test of a loop is over -/
def testP (T : S → H → Prop) : Post := fun ex s h => match ex with | .normal => T s h | _ => False
theorem testP_normal (T : S → H → Prop) (s : S) (h : H) : testP T .normal s h = T s h := id rfl
attribute [go_sem] testP_normal
/-- a loop from a number up to n, its test in code of its own: i: the count, c: the test, u, x: what the next count is reckoned in -/
theorem for2_loop {b0 b1 ti tc tu tx : Nat} {cd body : ACode} {n i0 : Nat} {s : S} {h : H} (hn : n < 4611686018427387904) (I : Nat → S → H → Prop)
    (ne : (ti ≠ tu ∧ ti ≠ tx ∧ tu ≠ tx) ∧ b0 ≠ b1)
    (hup : ∀ j s h t v, (t = tu ∨ t = tx ∨ t = ti) → I j s h → I j (upd s (some t) v) h)
    (hi : s ti = .int .i64 (i0 : Int)) (hin : i0 ≤ n) (h0 : I i0 s h)
    (test : ∀ j s h, j ≤ n → I j s h → s ti = .int .i64 (j : Int) → WS E cd [] (testP fun s' h' => I j s' h' ∧ s' ti = .int .i64 (j : Int) ∧ s' tc = .bool (decide (j < n))) s h)
    (step : ∀ j s h, j < n → I j s h → s ti = .int .i64 (j : Int) → WS E body [] (roundP E (fun j' s h => I j' s h ∧ s ti = .int .i64 (j : Int)) j b0 b1 k Q) s h)
    (fini : ∀ s h, I n s h → WNext E k Q s h) :
    WS E (.block b0 (.loop (.seq (.seq cd (.cond (.tmp tc) .skip (.exit b0))) (.seq (.block b1 body) (.ops [⟨some tu, .mov (.tmp ti), none⟩, ⟨some tx, .bin .add (.tmp tu) (.con (.int .i64 1)), none⟩, ⟨some ti, .mov (.tmp tx), none⟩]))))) k Q s h := by
  obtain ⟨⟨n1, n2, n3⟩, n6⟩ := ne
  refine WS_of_block (WS_of_loop (fun m s h => ∃ j, m = n - j ∧ j ≤ n ∧ I j s h ∧ s ti = .int .i64 (j : Int)) ?_ (n - i0) ?_)
  case refine_2 => exact ⟨i0, rfl, hin, h0, hi⟩
  rintro m s h ⟨j, rfl, hj, hI, z1⟩
  refine WS_of_seq (WS_of_seq ?_)
  refine WC.mono (test j s h hj hI z1) ?_
  intro ex s h q
  cases ex with
  | ret => exact q.elim
  | panic v => exact q.elim
  | exit id => exact q.elim
  | normal =>
  obtain ⟨hI, z1, zc⟩ := q
  refine WS_of_cond ?_
  simp only [go_sem, ↓reduceIte, zc]
  by_cases hjl : j < n
  case neg =>
    simp only [hjl, decide_false, Bool.false_eq_true, ↓reduceIte]
    refine WS_of_exit ?_
    simp only [go_sem, ↓reduceIte]
    have e : j = n := by omega
    subst e
    exact fini _ _ hI
  simp only [hjl, decide_true, ↓reduceIte]
  refine WS_of_skip ?_
  simp only [go_sem]
  refine WS_of_seq (WS_of_block ?_)
  have w := step j s h hjl hI z1
  refine WC.mono w ?_
  have a1 : IntKind.i64.wrap ((j : Int) + 1) = ((j + 1 : Nat) : Int) := by rw [show ((j : Int) + 1) = ((j + 1 : Nat) : Int) from rfl]; exact wrapI (by omega)
  have next : ∀ s h, (I (j + 1) s h ∧ s ti = .int .i64 (j : Int)) → WS E (.ops [⟨some tu, .mov (.tmp ti), none⟩, ⟨some tx, .bin .add (.tmp tu) (.con (.int .i64 1)), none⟩, ⟨some ti, .mov (.tmp tx), none⟩]) [] (fun ex s h => match ex with | .normal => ∃ m, m < n - j ∧ ∃ j, m = n - j ∧ j ≤ n ∧ I j s h ∧ s ti = .int .i64 (j : Int) | ex => fin E (.blk b0 :: k) Q ex s h) s h := by
    rintro s h ⟨hI, z1⟩
    refine WS_of_ops ?_
    simp only [go_sem, ↓reduceIte, z1, a1]
    exact ⟨n - (j + 1), by omega, j + 1, rfl, by omega, hup _ _ _ _ _ (.inr (.inr rfl)) (hup _ _ _ _ _ (.inr (.inl rfl)) (hup _ _ _ _ _ (.inl rfl) hI)), rfl⟩
  intro ex s h q
  cases ex with
  | normal => exact next s h q
  | ret => simp only [go_sem] at q; exact (fin_ret (E := E) (Q := Q) (s := s) (h := h) k).symm ▸ q
  | panic v => simp only [go_sem] at q; exact (fin_panic (E := E) (Q := Q) (s := s) (h := h) v k).symm ▸ q
  | exit id =>
    simp only [go_sem] at q
    show WExit E id [.blk b1, .code _] _ s h
    simp only [go_sem]
    by_cases e1 : id = b1
    · rw [if_pos e1] at q ⊢
      exact next s h q
    · rw [if_neg e1] at q ⊢
      exact q
end
end Go.Proofs.YtlbaphapjclkdaaGreatDoor.Ev

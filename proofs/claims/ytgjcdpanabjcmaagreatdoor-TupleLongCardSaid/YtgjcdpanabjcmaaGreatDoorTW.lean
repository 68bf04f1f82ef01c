/- Texts rune by rune: what glyph's functions come to. -/
import Derived.Test.YtgjcdpanabjcmaaGreatDoorTBase
import Derived.Test.YtgjcdpanabjcmaaGreatDoorEv33
namespace Go.Proofs.YtgjcdpanabjcmaaGreatDoor.Ev.C
open Go Go.Proofs.YtgjcdpanabjcmaaGreatDoor.Ev
set_option linter.unusedSimpArgs false
set_option linter.unusedVariables false
theorem Keep.pushX {N : Nat} {h : H} (hN : N ≤ h.n) (X : MObj) : Keep (Old N) h (h.push (.mem X)) where
  wf := fun w => by
    refine ⟨fun g p e => Nat.lt_succ_of_lt (w.gr g p e), fun o cs g e => ?_, fun o x e => ?_, w.kt, fun g hg => ?_⟩
    · rw [H.get_push] at e
      split at e
      · cases e
      · exact w.mem o cs g e
    · rw [H.get_push] at e
      split at e
      · rename_i h; rw [h]; exact Nat.lt_succ_self _
      · exact Nat.lt_succ_of_lt (w.ob o x e)
    · exact w.tl_push _ g hg
  n := Nat.le_succ _
  get := fun o ho => by rw [H.get_push, if_neg]; exact Nat.ne_of_lt (Nat.lt_of_lt_of_le ho hN)
  tip := fun _ _ => rfl
  kill := fun _ _ => rfl
theorem Keep.setX {N o : Nat} {h : H} (hN : N ≤ o) (ho : o < h.n) (X : MObj) : Keep (Old N) h (h.setMem o X) where
  wf := fun w => by
    refine ⟨w.gr, fun o' cs g e => ?_, fun o' x e => ?_, w.kt, w.tl⟩
    · rw [H.get_setMem] at e
      split at e
      · cases e
      · exact w.mem o' cs g e
    · rw [H.get_setMem] at e
      split at e
      · rename_i h; rw [h]; exact ho
      · exact w.ob o' x e
  n := Nat.le_refl _
  get := fun o' ho' => by rw [H.get_setMem, if_neg]; intro e; subst e; exact absurd ho' (Nat.not_lt.2 hN)
  tip := fun _ _ => rfl
  kill := fun _ _ => rfl
/-- the rune at a place, and how many bytes it has -/
def dec (s : List UInt8) (p : Nat) : Nat × Nat := Utf8.decode ⟨⟨s⟩⟩ p
theorem dec_pos (s : List UInt8) (p : Nat) : 0 < (dec s p).2 := by
  unfold dec Utf8.decode
  simp only
  repeat' split
  all_goals simp
def runesF : Nat → List UInt8 → Nat → List (Nat × Nat)
  | 0, _, _ => []
  | f + 1, s, p => if p < s.length then (p, (dec s p).1) :: runesF f s (p + (dec s p).2) else []
/-- a text's runes from a place on -/
def runes (s : List UInt8) (p : Nat) : List (Nat × Nat) := runesF (s.length - p) s p
theorem runesF_more (s : List UInt8) : ∀ (f p : Nat), s.length - p ≤ f → runesF f s p = runesF (s.length - p) s p := by
  intro f
  induction f using Nat.strongRecOn with
  | _ f ih =>
    intro p hf
    cases f with
    | zero => rw [Nat.le_zero.1 hf]
    | succ f =>
      by_cases hp : p < s.length
      · obtain ⟨q, hq⟩ : ∃ q, s.length - p = q + 1 := ⟨s.length - p - 1, by omega⟩
        rw [hq]
        simp only [runesF, if_pos hp]
        have h1 := dec_pos s p
        rw [ih f (by omega) _ (by omega), ih q (by omega) _ (by omega)]
      · have : s.length - p = 0 := by omega
        rw [this]
        simp only [runesF, if_neg hp]
theorem runes_step {s : List UInt8} {p : Nat} (hp : p < s.length) : runes s p = (p, (dec s p).1) :: runes s (p + (dec s p).2) := by
  unfold runes
  obtain ⟨q, hq⟩ : ∃ q, s.length - p = q + 1 := ⟨s.length - p - 1, by omega⟩
  rw [hq]
  simp only [runesF, if_pos hp]
  have h1 := dec_pos s p
  rw [runesF_more s q _ (by omega)]
theorem runes_end {s : List UInt8} {p : Nat} (hp : ¬ p < s.length) : runes s p = [] := by
  unfold runes
  have : s.length - p = 0 := by omega
  rw [this]; rfl
/-- no broken byte stands there -/
def wholeAt (s : List UInt8) (x : Nat × Nat) : Bool := !(x.2 == 65533) || ((s.drop x.1).take 3 == [239, 191, 189])
def validG (s : List UInt8) : Bool := (runes s 0).all (wholeAt s)
def countG (s : List UInt8) : Nat := (runes s 0).length
/-- a text that is ranged over -/
theorem nextT_at {h : H} {o p : Nat} {s : List UInt8} (hs : h.get o = some (.mem (.siter s p))) :
    nextTA h (.ptr o 0) = if p < s.length then some (.tup [.bool true, .int .i64 (p : Int), .int .i32 ((dec s p).1 : Int)], h.setMem o (.siter s (p + (dec s p).2))) else some (.tup [.bool false], h) := by
  simp only [nextTA, hs]; rfl

theorem dec_lt (s : List UInt8) (p : Nat) : (dec s p).1 < 2097152 := by
  unfold dec Utf8.decode
  simp only
  repeat' split
  all_goals first | (show _ < 2097152; omega) | (show Utf8.runeError < 2097152; decide)
/-- does a text begin so? -/
theorem prefix_spec {E : Env} (he : Std E) (s t : List UInt8) (h : H) (ht : t.length < 4611686018427387904) :
    WCall E n_strings_HasPrefix [.str s, .str t] h fun r h' => h' = h ∧ r = .val (.bool (s.take t.length == t)) := by
  refine WCall_ws (he.ov _ rfl) (he.tT T_strings_HasPrefix) (by simp [strings_HasPrefix_a]) ?_
  refine WS_of_seq (WS_of_ops ?_)
  simp only [strings_HasPrefix_r0, go_sem, ↓reduceIte, Nat.reduceEqDiff]
  refine WS_of_seq (WS_of_ops ?_)
  simp only [strings_HasPrefix_r1, go_sem, ↓reduceIte, Nat.reduceEqDiff, enterS, List.getD_cons_zero, List.getD_cons_succ]
  have key : WCall E n_stringslite_HasPrefix [.str s, .str t] h fun r h' => h' = h ∧ r = .val (.bool (s.take t.length == t)) := by
    refine WCall_ws (he.ov _ rfl) (he.tT T_stringslite_HasPrefix) (by simp [stringslite_HasPrefix_a]) ?_
    refine WS_of_seq (WS_of_ops ?_)
    simp only [stringslite_HasPrefix_r0, go_sem, ↓reduceIte, Nat.reduceEqDiff]
    refine WS_of_seq (WS_of_ops ?_)
    simp only [stringslite_HasPrefix_r1, go_sem, ↓reduceIte, Nat.reduceEqDiff, enterS, List.getD_cons_zero, List.getD_cons_succ, lenTA, Option.map_some]
    by_cases hle : t.length ≤ s.length
    · have hle' : (t.length : Int) ≤ (s.length : Int) := by omega
      simp only [hle', decide_true, wanted, beq_self_eq_true, go_sem, ↓reduceIte, Nat.reduceEqDiff, lenTA, Option.map_some, Option.map_none, sliceT_to hle, pickA]
      refine WS_of_ret ?_
      simp only [go_sem, stringslite_HasPrefix_a, ↓reduceIte, Nat.reduceEqDiff]
      exact ⟨trivial, by rw [Bool.eq_iff_iff.2 (by simp : (s.take t.length == t) = true ↔ decide (s.take t.length = t) = true)]⟩
    · have hle' : ¬ (t.length : Int) ≤ (s.length : Int) := by omega
      simp only [hle', decide_false, wanted, go_sem, ↓reduceIte, Nat.reduceEqDiff, show (false == true) = false from rfl, Bool.false_eq_true, pickA, undefA]
      refine WS_of_ret ?_
      simp only [go_sem, stringslite_HasPrefix_a, ↓reduceIte, Nat.reduceEqDiff]
      refine ⟨trivial, ?_⟩
      have : ¬ s.take t.length = t := by
        intro e
        have := congrArg List.length e
        simp at this; omega
      simp [this]
  refine key.mono ?_
  rintro r h' ⟨rfl, rfl⟩
  simp only [go_sem, ↓reduceIte, Nat.reduceEqDiff]
  refine WS_of_ret ?_
  simp only [go_sem, strings_HasPrefix_a, ↓reduceIte, Nat.reduceEqDiff]
  exact ⟨trivial, trivial⟩
theorem valid_spec {E : Env} (he : Std E) (s : List UInt8) (h : H) (hl : s.length < 4611686018427387904) :
    WCall E n_glyph_Valid [.str s] h fun r h' => Keep (Old h.n) h h' ∧ r = .val (.bool (validG s)) := by
  refine WCall_ws (he.ov _ rfl) (he.tT T_glyph_Valid) (by simp [glyph_Valid_a]) ?_
  refine WS_of_seq (WS_of_ops ?_)
  simp only [glyph_Valid_r0, go_sem, ↓reduceIte, Nat.reduceEqDiff]
  refine WS_of_seq (WS_of_seq (WS_of_ops ?_))
  simp only [glyph_Valid_r1, go_sem, ↓reduceIte, Nat.reduceEqDiff, enterS, List.getD_cons_zero, rangeTA]
  refine WS_of_block (WS_of_loop (fun m z g => Keep (Old h.n) h g ∧ ∃ p, m = s.length - p ∧ g.get h.n = some (.mem (.siter s p)) ∧ h.n < g.n ∧ validG s = (runes s p).all (wholeAt s) ∧ z 0 = .str s ∧ z 6 = .ptr h.n 0) ?_ s.length ?_)
  case refine_2 => exact ⟨Keep.pushX (Nat.le_refl _) _, 0, by simp, by rw [H.get_push, if_pos rfl], Nat.lt_succ_self _, rfl, rfl, rfl⟩
  rintro m z g ⟨kg, p, rfl, hit, hn, hv, z0, z6⟩
  show WS E glyph_Valid_l6 _ _ _ _
  refine WS_of_seq (WS_of_ops ?_)
  simp only [glyph_Valid_r2, go_sem, ↓reduceIte, Nat.reduceEqDiff, z6, nextT_at hit]
  by_cases hp : p < s.length
  case neg =>
    simp only [hp, ↓reduceIte, go_sem, Nat.reduceEqDiff, extractA, List.getElem?_cons_zero]
    refine WS_of_seq (WS_of_cond ?_)
    simp only [go_sem, ↓reduceIte, Bool.false_eq_true]
    refine WS_of_exit ?_
    simp only [go_sem, ↓reduceIte]
    refine WS_of_seq (WS_of_ops ?_)
    simp only [glyph_Valid_r7, go_sem, ↓reduceIte, Nat.reduceEqDiff]
    refine WS_of_ret ?_
    simp only [go_sem, glyph_Valid_a, ↓reduceIte, Nat.reduceEqDiff]
    rw [hv, runes_end hp]
    exact ⟨kg, rfl⟩
  simp only [hp, ↓reduceIte, go_sem, Nat.reduceEqDiff, extractA, List.getElem?_cons_zero]
  have hdp := dec_pos s p
  have kg' : Keep (Old h.n) h (g.setMem h.n (.siter s (p + (dec s p).2))) := kg.trans (Keep.setX (Nat.le_refl _) hn _)
  have hit' : (g.setMem h.n (.siter s (p + (dec s p).2))).get h.n = some (.mem (.siter s (p + (dec s p).2))) := by rw [H.get_setMem, if_pos rfl]
  have hn' : h.n < (g.setMem h.n (.siter s (p + (dec s p).2))).n := hn
  rw [runes_step hp, List.all_cons] at hv
  generalize g.setMem h.n (.siter s (p + (dec s p).2)) = g2 at kg' hit' hn'
  refine WS_of_seq (WS_of_cond ?_)
  simp only [go_sem, ↓reduceIte]
  refine WS_of_skip ?_
  simp only [go_sem]
  refine WS_of_block (WS_of_seq (WS_of_ops ?_))
  simp only [glyph_Valid_r3, go_sem, ↓reduceIte, Nat.reduceEqDiff, extractA, List.getElem?_cons_zero, List.getElem?_cons_succ]
  refine WS_of_seq (WS_of_ops ?_)
  simp only [glyph_Valid_r4, go_sem, ↓reduceIte, Nat.reduceEqDiff, wanted]
  by_cases hc : (dec s p).1 = 65533
  · have hc' : ((dec s p).1 : Int) = 65533 := by omega
    simp only [hc', decide_true, beq_self_eq_true, go_sem, ↓reduceIte, Nat.reduceEqDiff, z0, Option.map_some, Option.map_none, sliceT_from (Nat.le_of_lt hp)]
    refine (prefix_spec he _ _ _ (by decide)).mono ?_
    rintro r g3 ⟨rfl, rfl⟩
    simp only [go_sem, ↓reduceIte, Nat.reduceEqDiff, pickA, wanted, beq_self_eq_true, List.length_cons, List.length_nil, Nat.zero_add, Nat.reduceAdd]
    refine WS_of_cond ?_
    cases hw : (List.take 3 (List.drop p s) == [239, 191, 189])
    · simp only [go_sem, ↓reduceIte, Bool.not_false]
      refine WS_of_seq (WS_of_ops ?_)
      simp only [glyph_Valid_r5, go_sem, ↓reduceIte, Nat.reduceEqDiff]
      refine WS_of_ret ?_
      simp only [go_sem, glyph_Valid_a, ↓reduceIte, Nat.reduceEqDiff]
      rw [hv]
      simp only [wholeAt, hc, hw]
      exact ⟨kg', rfl⟩
    · simp only [go_sem, ↓reduceIte, Bool.not_true, Bool.false_eq_true]
      refine WS_of_skip ?_
      simp only [go_sem]
      refine ⟨s.length - (p + (dec s p).2), by omega, kg', _, rfl, hit', hn', ?_, z0, z6⟩
      rw [hv]; simp [wholeAt, hw]
  · have hc' : ¬ ((dec s p).1 : Int) = 65533 := by omega
    simp only [hc', decide_false, go_sem, ↓reduceIte, Nat.reduceEqDiff, show (false == true) = false from rfl, Bool.false_eq_true, pickA, undefA, wanted]
    refine WS_of_cond ?_
    simp only [go_sem, ↓reduceIte, Bool.false_eq_true]
    refine WS_of_skip ?_
    simp only [go_sem]
    refine ⟨s.length - (p + (dec s p).2), by omega, kg', _, rfl, hit', hn', ?_, z0, z6⟩
    rw [hv]; simp [wholeAt, hc]
theorem count_spec {E : Env} (he : Std E) (s : List UInt8) (h : H) (hl : s.length < 4611686018427387904) :
    WCall E n_glyph_Count [.str s] h fun r h' => Keep (Old h.n) h h' ∧ r = .val (.int .i64 (countG s : Int)) := by
  refine WCall_ws (he.ov _ rfl) (he.tT T_glyph_Count) (by simp [glyph_Count_a]) ?_
  refine WS_of_seq (WS_of_ops ?_)
  simp only [glyph_Count_r0, go_sem, ↓reduceIte, Nat.reduceEqDiff]
  refine WS_of_seq (WS_of_ops ?_)
  simp only [glyph_Count_r1, go_sem, ↓reduceIte, Nat.reduceEqDiff]
  refine WS_of_seq (WS_of_seq (WS_of_ops ?_))
  simp only [glyph_Count_r2, go_sem, ↓reduceIte, Nat.reduceEqDiff, enterS, List.getD_cons_zero, rangeTA]
  refine WS_of_block (WS_of_loop (fun m z g => Keep (Old h.n) h g ∧ ∃ p c, m = s.length - p ∧ c ≤ p ∧ p ≤ s.length + 4 ∧ g.get h.n = some (.mem (.siter s p)) ∧ h.n < g.n ∧ countG s = c + (runes s p).length ∧ z 5 = .ptr h.n 0 ∧ z 3 = .int .i64 (c : Int)) ?_ s.length ?_)
  case refine_2 => exact ⟨Keep.pushX (Nat.le_refl _) _, 0, 0, by simp, by simp, by omega, by rw [H.get_push, if_pos rfl], Nat.lt_succ_self _, by simp [countG], rfl, rfl⟩
  rintro m z g ⟨kg, p, c, rfl, hcp, hpl, hit, hn, hv, z5, z3⟩
  show WS E glyph_Count_l5 _ _ _ _
  refine WS_of_seq (WS_of_ops ?_)
  simp only [glyph_Count_r3, go_sem, ↓reduceIte, Nat.reduceEqDiff, z5, nextT_at hit]
  by_cases hp : p < s.length
  case neg =>
    simp only [hp, ↓reduceIte, go_sem, Nat.reduceEqDiff, extractA, List.getElem?_cons_zero]
    refine WS_of_seq (WS_of_cond ?_)
    simp only [go_sem, ↓reduceIte, Bool.false_eq_true]
    refine WS_of_exit ?_
    simp only [go_sem, ↓reduceIte]
    refine WS_of_seq (WS_of_ops ?_)
    simp only [glyph_Count_r6, go_sem, ↓reduceIte, Nat.reduceEqDiff, z3]
    refine WS_of_ret ?_
    simp only [go_sem, glyph_Count_a, ↓reduceIte, Nat.reduceEqDiff]
    rw [hv, runes_end hp]
    exact ⟨kg, rfl⟩
  simp only [hp, ↓reduceIte, go_sem, Nat.reduceEqDiff, extractA, List.getElem?_cons_zero]
  have hdp := dec_pos s p
  have hd4 : (dec s p).2 ≤ 4 := by
    unfold dec Utf8.decode
    simp only
    repeat' split
    all_goals simp
  have kg' : Keep (Old h.n) h (g.setMem h.n (.siter s (p + (dec s p).2))) := kg.trans (Keep.setX (Nat.le_refl _) hn _)
  have hit' : (g.setMem h.n (.siter s (p + (dec s p).2))).get h.n = some (.mem (.siter s (p + (dec s p).2))) := by rw [H.get_setMem, if_pos rfl]
  have hn' : h.n < (g.setMem h.n (.siter s (p + (dec s p).2))).n := hn
  rw [runes_step hp, List.length_cons] at hv
  generalize g.setMem h.n (.siter s (p + (dec s p).2)) = g2 at kg' hit' hn'
  refine WS_of_seq (WS_of_cond ?_)
  simp only [go_sem, ↓reduceIte]
  refine WS_of_skip ?_
  simp only [go_sem]
  refine WS_of_block (WS_of_ops ?_)
  simp only [glyph_Count_r4, go_sem, ↓reduceIte, Nat.reduceEqDiff, z3]
  refine ⟨s.length - (p + (dec s p).2), by omega, kg', _, c + 1, rfl, by omega, by omega, hit', hn', by omega, z5, ?_⟩
  rw [show ((c : Int) + 1) = ((c + 1 : Nat) : Int) from rfl, wrapI (by omega)]
/-- may a rune stand in a name? -/
def runeB (c : Nat) : Bool := decide (161 ≤ c) || letterB c
def nameG (s : List UInt8) : Bool := validG s && (!(s == []) && (decide (countG s ≤ 24) && (runes s 0).all fun x => runeB x.2))
theorem name_spec {E : Env} (he : Std E) (s : List UInt8) (h : H) (hl : s.length < 4611686018427387904) :
    WCall E n_glyph_Name [.str s] h fun r h' => Keep (Old h.n) h h' ∧ r = .val (.bool (nameG s)) := by
  refine WCall_ws (he.ov _ rfl) (he.tT T_glyph_Name) (by simp [glyph_Name_a]) ?_
  refine WS_of_seq (WS_of_ops ?_)
  simp only [glyph_Name_r0, go_sem, ↓reduceIte, Nat.reduceEqDiff]
  refine WS_of_seq (WS_of_seq (WS_of_ops ?_))
  simp only [glyph_Name_r1, go_sem, ↓reduceIte, Nat.reduceEqDiff, enterS, List.getD_cons_zero]
  refine (valid_spec he s h hl).mono ?_
  rintro _ g1 ⟨k1, rfl⟩
  cases hv : validG s
  case false =>
    simp only [go_sem, ↓reduceIte, Nat.reduceEqDiff, Bool.not_false, wanted, show (true == false) = false from rfl, Bool.false_eq_true, pickA]
    refine WS_of_cond ?_
    simp only [go_sem, ↓reduceIte]
    refine WS_of_seq (WS_of_ops ?_)
    simp only [glyph_Name_r2, go_sem, ↓reduceIte, Nat.reduceEqDiff]
    refine WS_of_ret ?_
    simp only [go_sem, glyph_Name_a, ↓reduceIte, Nat.reduceEqDiff]
    exact ⟨k1, by simp [nameG, hv]⟩
  simp only [go_sem, ↓reduceIte, Nat.reduceEqDiff, Bool.not_true, wanted, beq_self_eq_true, enterS, List.getD_cons_zero, pickA]
  by_cases h0 : s = []
  · simp only [h0, decide_true, go_sem, ↓reduceIte, Nat.reduceEqDiff, wanted, show (true == false) = false from rfl, Bool.false_eq_true, pickA]
    refine WS_of_cond ?_
    simp only [go_sem, ↓reduceIte]
    refine WS_of_seq (WS_of_ops ?_)
    simp only [glyph_Name_r2, go_sem, ↓reduceIte, Nat.reduceEqDiff]
    refine WS_of_ret ?_
    simp only [go_sem, glyph_Name_a, ↓reduceIte, Nat.reduceEqDiff]
    exact ⟨k1, by simp [nameG]⟩
  simp only [h0, decide_false, go_sem, ↓reduceIte, Nat.reduceEqDiff, wanted, beq_self_eq_true, Bool.false_eq_true, pickA, enterS, List.getD_cons_zero]
  refine (count_spec he s g1 hl).mono ?_
  rintro _ g2 ⟨k2, rfl⟩
  have k12 := k1.then (Nat.le_refl _) k2
  simp only [go_sem, ↓reduceIte, Nat.reduceEqDiff, pickA]
  by_cases hc : countG s ≤ 24
  case neg =>
    have hc' : (24 : Int) < (countG s : Int) := by omega
    simp only [hc', decide_true]
    refine WS_of_cond ?_
    simp only [go_sem, ↓reduceIte]
    refine WS_of_seq (WS_of_ops ?_)
    simp only [glyph_Name_r2, go_sem, ↓reduceIte, Nat.reduceEqDiff]
    refine WS_of_ret ?_
    simp only [go_sem, glyph_Name_a, ↓reduceIte, Nat.reduceEqDiff]
    exact ⟨k12, by simp [nameG, hc]⟩
  have hc' : ¬ (24 : Int) < (countG s : Int) := by omega
  simp only [hc', decide_false]
  refine WS_of_cond ?_
  simp only [go_sem, ↓reduceIte, Bool.false_eq_true]
  refine WS_of_skip ?_
  simp only [go_sem]
  have hN : nameG s = (runes s 0).all fun x => runeB x.2 := by simp [nameG, hv, h0, hc]
  rw [hN]
  refine WS_of_seq (WS_of_seq (WS_of_ops ?_))
  simp only [glyph_Name_r3, go_sem, ↓reduceIte, Nat.reduceEqDiff, enterS, List.getD_cons_zero, rangeTA]
  refine WS_of_block (WS_of_loop (fun m z g => Keep (Old h.n) h g ∧ ∃ p, m = s.length - p ∧ g.get g2.n = some (.mem (.siter s p)) ∧ g2.n < g.n ∧ ((runes s 0).all fun x => runeB x.2) = ((runes s p).all fun x => runeB x.2) ∧ z 18 = .ptr g2.n 0) ?_ s.length ?_)
  case refine_2 => exact ⟨k12.trans (Keep.pushX k12.n _), 0, by simp, by rw [H.get_push, if_pos rfl], Nat.lt_succ_self _, rfl, rfl⟩
  rintro m z g ⟨kg, p, rfl, hit, hn, hav, z18⟩
  show WS E glyph_Name_l8 _ _ _ _
  refine WS_of_seq (WS_of_ops ?_)
  simp only [glyph_Name_r4, go_sem, ↓reduceIte, Nat.reduceEqDiff, z18, nextT_at hit]
  by_cases hp : p < s.length
  case neg =>
    simp only [hp, ↓reduceIte, go_sem, Nat.reduceEqDiff, extractA, List.getElem?_cons_zero]
    refine WS_of_seq (WS_of_cond ?_)
    simp only [go_sem, ↓reduceIte, Bool.false_eq_true]
    refine WS_of_exit ?_
    simp only [go_sem, ↓reduceIte]
    refine WS_of_seq (WS_of_ops ?_)
    simp only [glyph_Name_r9, go_sem, ↓reduceIte, Nat.reduceEqDiff]
    refine WS_of_ret ?_
    simp only [go_sem, glyph_Name_a, ↓reduceIte, Nat.reduceEqDiff]
    rw [hav, runes_end hp]
    exact ⟨kg, rfl⟩
  simp only [hp, ↓reduceIte, go_sem, Nat.reduceEqDiff, extractA, List.getElem?_cons_zero]
  have hdp := dec_pos s p
  have hg2 : h.n ≤ g2.n := k12.n
  have kg' : Keep (Old h.n) h (g.setMem g2.n (.siter s (p + (dec s p).2))) := kg.trans (Keep.setX hg2 hn _)
  have hit' : (g.setMem g2.n (.siter s (p + (dec s p).2))).get g2.n = some (.mem (.siter s (p + (dec s p).2))) := by rw [H.get_setMem, if_pos rfl]
  have hn' : g2.n < (g.setMem g2.n (.siter s (p + (dec s p).2))).n := hn
  rw [runes_step hp, List.all_cons] at hav
  generalize g.setMem g2.n (.siter s (p + (dec s p).2)) = g3 at kg' hit' hn'
  refine WS_of_seq (WS_of_cond ?_)
  simp only [go_sem, ↓reduceIte]
  refine WS_of_skip ?_
  simp only [go_sem]
  refine WS_of_block (WS_of_seq (WS_of_ops ?_))
  simp only [glyph_Name_r5, go_sem, ↓reduceIte, Nat.reduceEqDiff, extractA, List.getElem?_cons_zero, List.getElem?_cons_succ]
  refine WS_of_seq (WS_of_ops ?_)
  have hR : glyph_Name_r6 = [⟨(some 22), (.mov (.tmp 4)), none⟩, ⟨(some 23), (.bin .lss (.tmp 22) (.con (.int .i32 161))), none⟩, ⟨(some 24), (.mov (.tmp 23)), none⟩, ⟨(some 25), (.mov (.tmp 4)), (some (24, true))⟩, ⟨(some 26), (.call (.con (.func n_strings_ContainsRune [])) [(.con (.str lettersL)), (.tmp 25)]), (some (24, true))⟩, ⟨(some 27), (.not (.tmp 26)), (some (24, true))⟩, ⟨(some 28), (.pick (.tmp 24) (.tmp 27) (.con (.bool false))), none⟩] := by unfold glyph_Name_r6 lettersL; rfl
  rw [hR]
  clear hR
  simp only [go_sem, ↓reduceIte, Nat.reduceEqDiff, wanted]
  have q3 : (dec s p).1 < 161 ∨ 161 ≤ (dec s p).1 := Nat.lt_or_ge _ _
  cases q3 with
  | inl hlt =>
    have hlt' : ((dec s p).1 : Int) < 161 := by omega
    simp only [hlt', decide_true, beq_self_eq_true, go_sem, ↓reduceIte, Nat.reduceEqDiff]
    refine (cr_call he _ hlt _).mono ?_
    rintro _ _ ⟨rfl, rfl⟩
    simp only [go_sem, ↓reduceIte, Nat.reduceEqDiff, pickA, wanted, beq_self_eq_true]
    refine WS_of_cond ?_
    cases hb : letterB (dec s p).1
    · simp only [go_sem, ↓reduceIte, Bool.not_false]
      refine WS_of_seq (WS_of_ops ?_)
      simp only [glyph_Name_r7, go_sem, ↓reduceIte, Nat.reduceEqDiff]
      refine WS_of_ret ?_
      simp only [go_sem, glyph_Name_a, ↓reduceIte, Nat.reduceEqDiff]
      rw [hav]
      have : runeB (dec s p).1 = false := by simp [runeB, hb]; omega
      simp only [this]
      exact ⟨kg', rfl⟩
    · simp only [go_sem, ↓reduceIte, Bool.not_true, Bool.false_eq_true]
      refine WS_of_skip ?_
      simp only [go_sem]
      refine ⟨s.length - (p + (dec s p).2), by omega, kg', _, rfl, hit', hn', ?_, z18⟩
      rw [hav]; simp [runeB, hb]
  | inr hlt =>
    have hlt' : ¬ ((dec s p).1 : Int) < 161 := by omega
    simp only [hlt', decide_false, go_sem, ↓reduceIte, Nat.reduceEqDiff, show (false == true) = false from rfl, Bool.false_eq_true, pickA, undefA, wanted]
    refine WS_of_cond ?_
    simp only [go_sem, ↓reduceIte, Bool.false_eq_true]
    refine WS_of_skip ?_
    simp only [go_sem]
    refine ⟨s.length - (p + (dec s p).2), by omega, kg', _, rfl, hit', hn', ?_, z18⟩
    rw [hav]
    have : runeB (dec s p).1 = true := by simp [runeB]; omega
    simp [this]
end Go.Proofs.YtgjcdpanabjcmaaGreatDoor.Ev.C

/- A rune's bytes, as the reference has them and as the model decodes them. -/
namespace Go.Proofs.YtgjcdpanabjcmaaGreatDoor.Ev.C
open Go Go.Proofs.YtgjcdpanabjcmaaGreatDoor.Ev
set_option linter.unusedSimpArgs false
set_option linter.unusedVariables false
/-- the model's decoding, over bytes -/
def decV (b0 b1 b2 b3 : Nat) (e1 e2 e3 : Prop) [Decidable e1] [Decidable e2] [Decidable e3] : Nat × Nat :=
  if b0 < 128 then (b0, 1)
  else if b0 / 32 = 6 ∧ e1 ∧ b1 / 64 = 2 then
    if 128 ≤ b0 % 32 * 64 + b1 % 64 then (b0 % 32 * 64 + b1 % 64, 2) else (65533, 1)
  else if (b0 / 16 = 14 ∧ e1 ∧ b1 / 64 = 2) ∧ e2 ∧ b2 / 64 = 2 then
    if 2048 ≤ b0 % 16 * 4096 + b1 % 64 * 64 + b2 % 64 ∧ (b0 % 16 * 4096 + b1 % 64 * 64 + b2 % 64 < 55296 ∨ 57344 ≤ b0 % 16 * 4096 + b1 % 64 * 64 + b2 % 64) then (b0 % 16 * 4096 + b1 % 64 * 64 + b2 % 64, 3) else (65533, 1)
  else if ((b0 / 8 = 30 ∧ e1 ∧ b1 / 64 = 2) ∧ e2 ∧ b2 / 64 = 2) ∧ e3 ∧ b3 / 64 = 2 then
    if 65536 ≤ b0 % 8 * 262144 + b1 % 64 * 4096 + b2 % 64 * 64 + b3 % 64 ∧ b0 % 8 * 262144 + b1 % 64 * 4096 + b2 % 64 * 64 + b3 % 64 ≤ 1114111 then (b0 % 8 * 262144 + b1 % 64 * 4096 + b2 % 64 * 64 + b3 % 64, 4) else (65533, 1)
  else (65533, 1)
def longV (b0 b1 b2 b3 : Nat) (e1 e2 e3 : Prop) [Decidable e1] [Decidable e2] [Decidable e3] : Nat :=
  if b0 < 128 then 1
  else if 194 ≤ b0 ∧ b0 ≤ 223 then (if e1 ∧ 128 ≤ b1 ∧ b1 ≤ 191 then 2 else 0)
  else if 224 ≤ b0 ∧ b0 ≤ 239 then
    (if (e1 ∧ (if b0 = 224 then 160 else 128) ≤ b1 ∧ b1 ≤ (if b0 = 237 then 159 else 191)) ∧ e2 ∧ 128 ≤ b2 ∧ b2 ≤ 191 then 3 else 0)
  else if 240 ≤ b0 ∧ b0 ≤ 244 then
    (if (e1 ∧ (if b0 = 240 then 144 else 128) ≤ b1 ∧ b1 ≤ (if b0 = 244 then 143 else 191)) ∧ (e2 ∧ 128 ≤ b2 ∧ b2 ≤ 191) ∧ e3 ∧ 128 ≤ b3 ∧ b3 ≤ 191 then 4 else 0)
  else 0
theorem decV_long (b0 b1 b2 b3 : Nat) (e1 e2 e3 : Prop) [Decidable e1] [Decidable e2] [Decidable e3] (h0 : b0 < 256) (h1 : b1 < 256) (h2 : b2 < 256) (h3 : b3 < 256) :
    (longV b0 b1 b2 b3 e1 e2 e3 = 0 ∧ decV b0 b1 b2 b3 e1 e2 e3 = (65533, 1)) ∨
    (longV b0 b1 b2 b3 e1 e2 e3 = 1 ∧ decV b0 b1 b2 b3 e1 e2 e3 = (b0, 1) ∧ b0 < 128) ∨
    (longV b0 b1 b2 b3 e1 e2 e3 = 2 ∧ decV b0 b1 b2 b3 e1 e2 e3 = (b0 % 32 * 64 + b1 % 64, 2) ∧ 194 ≤ b0 ∧ b0 ≤ 223 ∧ 128 ≤ b1 ∧ b1 ≤ 191 ∧ e1) ∨
    (longV b0 b1 b2 b3 e1 e2 e3 = 3 ∧ decV b0 b1 b2 b3 e1 e2 e3 = (b0 % 16 * 4096 + b1 % 64 * 64 + b2 % 64, 3) ∧ 2048 ≤ b0 % 16 * 4096 + b1 % 64 * 64 + b2 % 64 ∧ 224 ≤ b0 ∧ b0 ≤ 239 ∧ 128 ≤ b1 ∧ b1 ≤ 191 ∧ 128 ≤ b2 ∧ b2 ≤ 191 ∧ e2) ∨
    (longV b0 b1 b2 b3 e1 e2 e3 = 4 ∧ decV b0 b1 b2 b3 e1 e2 e3 = (b0 % 8 * 262144 + b1 % 64 * 4096 + b2 % 64 * 64 + b3 % 64, 4) ∧ 65536 ≤ b0 % 8 * 262144 + b1 % 64 * 4096 + b2 % 64 * 64 + b3 % 64 ∧ 240 ≤ b0 ∧ e3) := by
  by_cases c1 : b0 < 128
  · right; left
    simp only [longV, decV, c1, if_true, and_self]
  by_cases c2 : b0 < 194
  · left
    have q1 : ¬ (194 ≤ b0 ∧ b0 ≤ 223) := by omega
    have q2 : ¬ (224 ≤ b0 ∧ b0 ≤ 239) := by omega
    have q3 : ¬ (240 ≤ b0 ∧ b0 ≤ 244) := by omega
    have q4 : ¬ b0 / 16 = 14 := by omega
    have q5 : ¬ b0 / 8 = 30 := by omega
    refine ⟨by simp only [longV, c1, q1, q2, q3, if_false], ?_⟩
    simp only [decV, c1, q4, q5, false_and, if_false]
    split
    · rename_i h; rw [if_neg (by omega)]
    · rfl
  by_cases c3 : b0 ≤ 223
  · have q1 : 194 ≤ b0 ∧ b0 ≤ 223 := by omega
    have q6 : b0 / 32 = 6 := by omega
    have q4 : ¬ b0 / 16 = 14 := by omega
    have q5 : ¬ b0 / 8 = 30 := by omega
    by_cases k : e1 ∧ 128 ≤ b1 ∧ b1 ≤ 191
    · right; right; left
      have k' : e1 ∧ b1 / 64 = 2 := ⟨k.1, by omega⟩
      have k2 : 128 ≤ b0 % 32 * 64 + b1 % 64 := by omega
      exact ⟨by simp only [longV, c1, q1, k, if_false, if_true, and_self], by simp only [decV, c1, q6, k', k2, if_false, if_true, and_self, true_and], q1.1, q1.2, k.2.1, k.2.2, k.1⟩
    · left
      have k' : ¬ (e1 ∧ b1 / 64 = 2) := fun hh => k ⟨hh.1, by omega, by omega⟩
      exact ⟨by simp only [longV, c1, q1, k, if_false, if_true, and_self], by simp only [decV, c1, q4, q5, q6, k', if_false, if_true, false_and, true_and]⟩
  by_cases c4 : b0 ≤ 239
  · have q1 : ¬ (194 ≤ b0 ∧ b0 ≤ 223) := by omega
    have q2 : 224 ≤ b0 ∧ b0 ≤ 239 := by omega
    have q6 : ¬ b0 / 32 = 6 := by omega
    have q4 : b0 / 16 = 14 := by omega
    have q5 : ¬ b0 / 8 = 30 := by omega
    by_cases k : (e1 ∧ (if b0 = 224 then 160 else 128) ≤ b1 ∧ b1 ≤ (if b0 = 237 then 159 else 191)) ∧ e2 ∧ 128 ≤ b2 ∧ b2 ≤ 191
    · right; right; right; left
      have k3 : 128 ≤ b1 ∧ b1 ≤ 191 ∧ (b0 = 224 → 160 ≤ b1) ∧ (b0 = 237 → b1 ≤ 159) := by
        obtain ⟨⟨_, x, y⟩, _⟩ := k
        split at x <;> split at y <;> omega
      have k' : ((e1 ∧ b1 / 64 = 2) ∧ e2 ∧ b2 / 64 = 2) := ⟨⟨k.1.1, by omega⟩, k.2.1, by omega⟩
      have k2 : 2048 ≤ b0 % 16 * 4096 + b1 % 64 * 64 + b2 % 64 := by omega
      have k4 : b0 % 16 * 4096 + b1 % 64 * 64 + b2 % 64 < 55296 ∨ 57344 ≤ b0 % 16 * 4096 + b1 % 64 * 64 + b2 % 64 := by omega
      exact ⟨by simp only [longV, c1, q1, q2, k, if_false, if_true, and_self], by simp only [decV, c1, q4, q6, k', k2, k4, if_false, if_true, and_self, true_and, false_and], k2, q2.1, q2.2, k3.1, k3.2.1, k.2.2.1, k.2.2.2, k.2.1⟩
    · left
      refine ⟨by simp only [longV, c1, q1, q2, k, if_false, if_true, and_self], ?_⟩
      simp only [decV, c1, q4, q5, q6, if_false, if_true, false_and, true_and]
      split
      · rename_i h
        rw [if_neg]
        intro hh
        refine k ⟨⟨h.1.1, ?_, ?_⟩, h.2.1, by omega, by omega⟩
        · split <;> omega
        · split <;> omega
      · rfl
  have q1 : ¬ (194 ≤ b0 ∧ b0 ≤ 223) := by omega
  have q2 : ¬ (224 ≤ b0 ∧ b0 ≤ 239) := by omega
  have q6 : ¬ b0 / 32 = 6 := by omega
  have q4 : ¬ b0 / 16 = 14 := by omega
  by_cases c5 : b0 ≤ 244
  · have q3 : 240 ≤ b0 ∧ b0 ≤ 244 := by omega
    have q5 : b0 / 8 = 30 := by omega
    by_cases k : (e1 ∧ (if b0 = 240 then 144 else 128) ≤ b1 ∧ b1 ≤ (if b0 = 244 then 143 else 191)) ∧ (e2 ∧ 128 ≤ b2 ∧ b2 ≤ 191) ∧ e3 ∧ 128 ≤ b3 ∧ b3 ≤ 191
    · right; right; right; right
      have k3 : 128 ≤ b1 ∧ b1 ≤ 191 ∧ (b0 = 240 → 144 ≤ b1) ∧ (b0 = 244 → b1 ≤ 143) := by
        obtain ⟨⟨_, x, y⟩, _⟩ := k
        split at x <;> split at y <;> omega
      have k' : (((e1 ∧ b1 / 64 = 2) ∧ e2 ∧ b2 / 64 = 2) ∧ e3 ∧ b3 / 64 = 2) := ⟨⟨⟨k.1.1, by omega⟩, k.2.1.1, by omega⟩, k.2.2.1, by omega⟩
      have k2 : 65536 ≤ b0 % 8 * 262144 + b1 % 64 * 4096 + b2 % 64 * 64 + b3 % 64 := by omega
      have k4 : b0 % 8 * 262144 + b1 % 64 * 4096 + b2 % 64 * 64 + b3 % 64 ≤ 1114111 := by omega
      exact ⟨by simp only [longV, c1, q1, q2, q3, k, if_false, if_true, and_self], by simp only [decV, c1, q4, q5, q6, k', k2, k4, if_false, if_true, and_self, true_and, false_and], k2, q3.1, k.2.2.1⟩
    · left
      refine ⟨by simp only [longV, c1, q1, q2, q3, k, if_false, if_true, and_self], ?_⟩
      simp only [decV, c1, q4, q5, q6, if_false, if_true, false_and, true_and]
      split
      · rename_i h
        rw [if_neg]
        intro hh
        refine k ⟨⟨h.1.1.1, ?_, ?_⟩, ⟨h.1.2.1, by omega, by omega⟩, h.2.1, by omega, by omega⟩
        · split <;> omega
        · split <;> omega
      · rfl
  · left
    have q3 : ¬ (240 ≤ b0 ∧ b0 ≤ 244) := by omega
    refine ⟨by simp only [longV, c1, q1, q2, q3, if_false], ?_⟩
    simp only [decV, c1, q4, q6, if_false, false_and]
    split
    · rename_i h
      rw [if_neg]
      omega
    · rfl
def bt (s : List UInt8) (i : Nat) : Nat := (s.getD i 0).toNat
theorem bt_lt (s : List UInt8) (i : Nat) : bt s i < 256 := UInt8.toNat_lt _
/-- how many bytes the rune at a place has; 0: a broken byte stands there -/
def longR (s : List UInt8) (i : Nat) : Nat := longV (bt s i) (bt s (i + 1)) (bt s (i + 2)) (bt s (i + 3)) (i + 1 < s.length) (i + 2 < s.length) (i + 3 < s.length)
theorem get_bt (s : List UInt8) (i : Nat) : ((⟨⟨s⟩⟩ : ByteArray).get! i).toNat = bt s i := by
  unfold bt
  congr 1
  show (Array.mk s)[i]! = _
  rw [List.getD_eq_getElem?_getD]
  simp [Array.getElem!_eq_getD, Array.getD_eq_getD_getElem?]
  rfl
theorem size_bt (s : List UInt8) : (⟨⟨s⟩⟩ : ByteArray).size = s.length := rfl
theorem dec_decV (s : List UInt8) (p : Nat) : dec s p = decV (bt s p) (bt s (p + 1)) (bt s (p + 2)) (bt s (p + 3)) (p + 1 < s.length) (p + 2 < s.length) (p + 3 < s.length) := by
  have h0 := bt_lt s p
  have h1 := bt_lt s (p + 1)
  have h2 := bt_lt s (p + 2)
  have h3 := bt_lt s (p + 3)
  unfold dec Utf8.decode decV
  simp only [get_bt, size_bt, Nat.add_zero, Utf8.valid, Utf8.runeError, Bool.and_eq_true, Bool.or_eq_true, decide_eq_true_eq, beq_iff_eq, ge_iff_le]
  generalize bt s p = b0 at *
  generalize bt s (p + 1) = b1 at *
  generalize bt s (p + 2) = b2 at *
  generalize bt s (p + 3) = b3 at *
  have i1 : ∀ {a b : Prop} [Decidable a] [Decidable b] {x y : Nat × Nat}, (a ↔ b) → (if a then x else y) = if b then x else y := by
    intro a b _ _ x y hab
    by_cases ha : a
    · rw [if_pos ha, if_pos (hab.1 ha)]
    · rw [if_neg ha, if_neg (fun hb => ha (hab.2 hb))]
  by_cases c1 : b0 < 128
  · simp only [c1, if_true]
  simp only [c1, if_false]
  by_cases c2 : b0 / 32 = 6 ∧ p + 1 < s.length ∧ b1 / 64 = 2
  · simp only [c2, if_true, and_self]
  simp only [c2, if_false]
  by_cases c3 : (b0 / 16 = 14 ∧ p + 1 < s.length ∧ b1 / 64 = 2) ∧ p + 2 < s.length ∧ b2 / 64 = 2
  · simp only [c3, if_true, and_self]
    exact i1 (by omega)
  simp only [c3, if_false]
  by_cases c4 : ((b0 / 8 = 30 ∧ p + 1 < s.length ∧ b1 / 64 = 2) ∧ p + 2 < s.length ∧ b2 / 64 = 2) ∧ p + 3 < s.length ∧ b3 / 64 = 2
  · simp only [c4, if_true, and_self]
    exact i1 (by omega)
  simp only [c4, if_false]
/-- where the next rune begins -/
def stepR (s : List UInt8) (i : Nat) : Nat := if longR s i = 0 then i + 1 else i + longR s i
/-- may the rune at a place stand in a name? -/
def asciiR (c : Nat) : Bool := (c == 95) || ((decide (97 ≤ c) && decide (c ≤ 122)) || ((decide (65 ≤ c) && decide (c ≤ 90)) || (decide (48 ≤ c) && decide (c ≤ 57))))
def mayR (s : List UInt8) (i : Nat) : Bool :=
  if longR s i = 1 then asciiR (bt s i) else decide (1 < longR s i) && (!(bt s i == 194) || decide (160 < bt s (i + 1)))
theorem letter_ascii : ∀ c, c < 128 → letterB c = asciiR c := by decide +kernel
theorem letter_big {c : Nat} (h : 128 ≤ c) : letterB c = false := by
  unfold letterB
  rw [List.any_eq_false]
  intro b hb
  have : ∀ b ∈ lettersL, b.toNat < 128 := by decide +kernel
  have := this b hb
  simp; omega
theorem bt_take {s : List UInt8} {p : Nat} (h : (s.drop p).take 3 = [239, 191, 189]) : bt s p = 239 ∧ bt s (p + 1) = 191 ∧ bt s (p + 2) = 189 ∧ p + 2 < s.length := by
  have e : ∀ k, k < 3 → s[p + k]? = ([239, 191, 189] : List UInt8)[k]? := by
    intro k hk
    rw [← h, List.getElem?_take, if_pos hk, List.getElem?_drop]
  have e0 := e 0 (by decide)
  have e1 := e 1 (by decide)
  have e2 := e 2 (by decide)
  simp only [Nat.add_zero, List.getElem?_cons_zero, List.getElem?_cons_succ] at e0 e1 e2
  refine ⟨?_, ?_, ?_, (List.getElem?_eq_some_iff.1 e2).1⟩
  · unfold bt; rw [List.getD_eq_getElem?_getD, e0]; rfl
  · unfold bt; rw [List.getD_eq_getElem?_getD, e1]; rfl
  · unfold bt; rw [List.getD_eq_getElem?_getD, e2]; rfl
theorem take_bt {s : List UInt8} {p : Nat} (h0 : bt s p = 239) (h1 : bt s (p + 1) = 191) (h2 : bt s (p + 2) = 189) (hp : p + 2 < s.length) : (s.drop p).take 3 = [239, 191, 189] := by
  have g : ∀ k (hk : p + k < s.length), s[p + k] = UInt8.ofNat (bt s (p + k)) := by
    intro k hk
    unfold bt
    rw [List.getD_eq_getElem?_getD, List.getElem?_eq_getElem hk]
    simp
  have g0 := g 0 (by omega)
  have g1 := g 1 (by omega)
  have g2 := g 2 (by omega)
  simp only [Nat.add_zero] at g0
  rw [h0] at g0
  rw [h1] at g1
  rw [h2] at g2
  rw [List.drop_eq_getElem_cons (by omega), List.drop_eq_getElem_cons (by omega), List.drop_eq_getElem_cons (by omega)]
  simp only [List.take_succ_cons, List.take_zero]
  rw [g0, g1, show s[p + 1 + 1] = s[p + 2] from rfl, g2]
  rfl
theorem dec_step (s : List UInt8) (p : Nat) : p + (dec s p).2 = stepR s p := by
  have h := decV_long (bt s p) (bt s (p + 1)) (bt s (p + 2)) (bt s (p + 3)) (p + 1 < s.length) (p + 2 < s.length) (p + 3 < s.length) (bt_lt _ _) (bt_lt _ _) (bt_lt _ _) (bt_lt _ _)
  rw [← dec_decV] at h
  unfold stepR longR
  rcases h with ⟨h1, h2⟩ | ⟨h1, h2, _⟩ | ⟨h1, h2, _⟩ | ⟨h1, h2, _⟩ | ⟨h1, h2, _⟩ <;> rw [h1, h2] <;> simp
theorem rune_may (s : List UInt8) (p : Nat) : (wholeAt s (p, (dec s p).1) && runeB (dec s p).1) = mayR s p := by
  have h := decV_long (bt s p) (bt s (p + 1)) (bt s (p + 2)) (bt s (p + 3)) (p + 1 < s.length) (p + 2 < s.length) (p + 3 < s.length) (bt_lt _ _) (bt_lt _ _) (bt_lt _ _) (bt_lt _ _)
  rw [← dec_decV] at h
  have hL : longR s p = longV (bt s p) (bt s (p + 1)) (bt s (p + 2)) (bt s (p + 3)) (p + 1 < s.length) (p + 2 < s.length) (p + 3 < s.length) := rfl
  rw [← hL] at h
  unfold mayR wholeAt runeB
  rcases h with ⟨h1, h2⟩ | ⟨h1, h2, h3⟩ | ⟨h1, h2, h3, h4, h5, h6, _⟩ | ⟨h1, h2, h3, h4, h5, h6, h7, h8, h9, h10⟩ | ⟨h1, h2, h3, h4, _⟩
  · rw [h1, h2]
    have : ¬ (s.drop p).take 3 = [239, 191, 189] := by
      intro hh
      obtain ⟨q0, q1, q2, q3⟩ := bt_take hh
      have q4 : p + 1 < s.length := by omega
      rw [hL, q0, q1, q2] at h1
      simp [longV, q3, q4] at h1
    simp [this]
  · rw [h1, h2]
    have : ¬ bt s p = 65533 := by omega
    have h5 : ¬ 161 ≤ bt s p := by omega
    simp [this, h5, letter_ascii _ h3]
  · rw [h1, h2]
    have h7 : ¬ bt s p % 32 * 64 + bt s (p + 1) % 64 = 65533 := by omega
    have h8 : letterB (bt s p % 32 * 64 + bt s (p + 1) % 64) = false := letter_big (by omega)
    simp only [h7, h8]
    by_cases h9 : bt s p = 194
    · have : bt s p % 32 * 64 + bt s (p + 1) % 64 = bt s (p + 1) := by omega
      rw [this] at h7 ⊢
      have b1 : (bt s (p + 1) == 65533) = false := beq_eq_false_iff_ne.2 h7
      have b2 : decide (161 ≤ bt s (p + 1)) = decide (160 < bt s (p + 1)) := by rw [Bool.eq_iff_iff]; simp; omega
      simp [h9, b1, b2]
    · have : 161 ≤ bt s p % 32 * 64 + bt s (p + 1) % 64 := by omega
      have b1 := beq_eq_false_iff_ne.2 h7
      have b2 := beq_eq_false_iff_ne.2 h9
      simp [this, b1, b2]
  · rw [h1, h2]
    have q1 : 161 ≤ bt s p % 16 * 4096 + bt s (p + 1) % 64 * 64 + bt s (p + 2) % 64 := by omega
    have q2 : ¬ bt s p = 194 := by omega
    by_cases q3 : bt s p % 16 * 4096 + bt s (p + 1) % 64 * 64 + bt s (p + 2) % 64 = 65533
    · have := take_bt (s := s) (p := p) (by omega) (by omega) (by omega) h10
      simp [q1, q2, this]
    · have b1 := beq_eq_false_iff_ne.2 q3
      have b2 := beq_eq_false_iff_ne.2 q2
      simp [q1, b1, b2]
  · rw [h1, h2]
    have q1 : 161 ≤ bt s p % 8 * 262144 + bt s (p + 1) % 64 * 4096 + bt s (p + 2) % 64 * 64 + bt s (p + 3) % 64 := by omega
    have q2 : ¬ bt s p = 194 := by omega
    have q3 : ¬ bt s p % 8 * 262144 + bt s (p + 1) % 64 * 4096 + bt s (p + 2) % 64 * 64 + bt s (p + 3) % 64 = 65533 := by omega
    have b1 := beq_eq_false_iff_ne.2 q3
    have b2 := beq_eq_false_iff_ne.2 q2
    simp [q1, b1, b2]
theorem runes_mem (s : List UInt8) : ∀ (f p : Nat), ∀ x ∈ runesF f s p, x.2 = (dec s x.1).1
  | 0, p, x, h => by cases h
  | f + 1, p, x, h => by
    simp only [runesF] at h
    split at h
    · rcases List.mem_cons.1 h with rfl | h
      · rfl
      · exact runes_mem s f _ x h
    · cases h
/-- a name, as the reference has it -/
def nameR (s : List UInt8) : Bool := ((runes s 0).all fun x => mayR s x.1) && (decide (0 < countG s) && decide (countG s ≤ 24))
theorem name_same (s : List UInt8) : nameG s = nameR s := by
  have h1 : ((runes s 0).all fun x => mayR s x.1) = (validG s && (runes s 0).all fun x => runeB x.2) := by
    unfold validG
    have : ∀ l : List (Nat × Nat), (∀ x ∈ l, x.2 = (dec s x.1).1) → (l.all fun x => mayR s x.1) = (l.all (wholeAt s) && l.all fun x => runeB x.2) := by
      intro l
      induction l with
      | nil => intro _; rfl
      | cons a r ih =>
        intro h
        simp only [List.all_cons]
        rw [ih fun x hx => h x (List.mem_cons_of_mem _ hx)]
        have h2 := h a List.mem_cons_self
        rw [← rune_may, ← h2]
        cases wholeAt s (a.1, a.2) <;> cases runeB a.2 <;> simp
    exact this _ fun x hx => runes_mem s _ _ x hx
  have h2 : decide (0 < countG s) = !(s == []) := by
    unfold countG
    cases s with
    | nil => rfl
    | cons a r => rw [runes_step (by simp)]; simp
  unfold nameG nameR
  rw [h1, h2]
  cases validG s <;> cases (s == []) <;> simp
  cases decide (countG s ≤ 24) <;> cases (runes s 0).all fun x => runeB x.2 <;> simp
end Go.Proofs.YtgjcdpanabjcmaaGreatDoor.Ev.C

/- Texts: where a byte stands, the text cut there. -/
namespace Go.Proofs.YtgjcdpanabjcmaaGreatDoor.Ev.C
open Go Go.Proofs.YtgjcdpanabjcmaaGreatDoor.Ev
set_option linter.unusedSimpArgs false
set_option linter.unusedVariables false
/-- a text up to the first such byte, and behind it -/
def cutS : List UInt8 → UInt8 → List UInt8 × List UInt8 × Bool
  | [], _ => ([], [], false)
  | b :: r, c => if b = c then ([], r, true) else (b :: (cutS r c).1, (cutS r c).2.1, (cutS r c).2.2)
theorem cut_idx : ∀ (s : List UInt8) (c : UInt8) (k : Nat), (idxB s c k = -1 ∧ cutS s c = (s, [], false)) ∨ ∃ i, i < s.length ∧ idxB s c k = ((k + i : Nat) : Int) ∧ cutS s c = (s.take i, s.drop (i + 1), true)
  | [], c, k => .inl ⟨rfl, rfl⟩
  | b :: r, c, k => by
    by_cases h : b = c
    · right; exact ⟨0, by simp, by simp [idxB, h], by simp [cutS, h]⟩
    · rcases cut_idx r c (k + 1) with ⟨h1, h2⟩ | ⟨i, hi, h1, h2⟩
      · left; exact ⟨by simp only [idxB, if_neg h]; exact h1, by simp only [cutS, if_neg h, h2]⟩
      · right
        refine ⟨i + 1, by simp; omega, ?_, ?_⟩
        · simp only [idxB, if_neg h]; rw [h1]; congr 1; omega
        · simp only [cutS, if_neg h, h2]; rfl
theorem ixb_spec {E : Env} (he : Std E) (s : List UInt8) (c : UInt8) (h : H) : WCall E n_stringslite_IndexByte [.str s, .int .u8 (c.toNat : Int)] h fun r h' => h' = h ∧ r = .val (.int .i64 (idxB s c 0)) := by
  refine WCall_ws (he.ov _ rfl) (he.tT T_stringslite_IndexByte) (by simp [stringslite_IndexByte_a]) ?_
  refine WS_of_seq (WS_of_ops ?_)
  simp only [stringslite_IndexByte_r0, go_sem, ↓reduceIte, Nat.reduceEqDiff]
  refine WS_of_seq (WS_of_ops ?_)
  simp only [stringslite_IndexByte_r1, go_sem, ↓reduceIte, Nat.reduceEqDiff, enterS, List.getD_cons_zero, List.getD_cons_succ]
  refine (ibs_call he s c h).mono ?_
  rintro r h' ⟨rfl, rfl⟩
  simp only [go_sem, ↓reduceIte, Nat.reduceEqDiff]
  refine WS_of_ret ?_
  simp only [go_sem, stringslite_IndexByte_a, ↓reduceIte, Nat.reduceEqDiff]
  exact ⟨trivial, trivial⟩
theorem index1_spec {E : Env} (he : Std E) (s : List UInt8) (c : UInt8) (h : H) : WCall E n_stringslite_Index [.str s, .str [c]] h fun r h' => h' = h ∧ r = .val (.int .i64 (idxB s c 0)) := by
  refine WCall_ws (he.ov _ rfl) (he.tT T_stringslite_Index) (by simp [stringslite_Index_a]) ?_
  refine WS_of_seq (WS_of_ops ?_)
  simp only [stringslite_Index_r0, go_sem, ↓reduceIte, Nat.reduceEqDiff]
  refine WS_of_seq (WS_of_ops ?_)
  simp only [stringslite_Index_r1, go_sem, ↓reduceIte, Nat.reduceEqDiff, enterS, List.getD_cons_zero, List.getD_cons_succ, lenTA, Option.map_some]
  refine WS_of_seq (WS_of_block (WS_of_seq (WS_of_ops ?_)))
  simp only [stringslite_Index_r2, go_sem, ↓reduceIte, Nat.reduceEqDiff, enterS, List.getD_cons_zero, List.getD_cons_succ, List.length_cons, List.length_nil, Nat.zero_add, show ¬ (((1 : Nat) : Int) = 0) by decide, decide_false, wanted, beq_self_eq_true, pickA]
  refine WS_of_cond ?_
  simp only [go_sem]
  by_cases hs : ([c] : List UInt8) = s
  · simp only [hs, decide_true, ↓reduceIte]
    refine WS_of_seq (WS_of_ops ?_)
    simp only [stringslite_Index_r3, go_sem, ↓reduceIte, Nat.reduceEqDiff]
    refine WS_of_ret ?_
    simp only [go_sem, stringslite_Index_a, ↓reduceIte, Nat.reduceEqDiff]
    subst hs
    exact ⟨trivial, by simp [idxB]⟩
  simp only [hs, decide_false, Bool.false_eq_true, ↓reduceIte]
  refine WS_of_seq (WS_of_ops ?_)
  simp only [stringslite_Index_r4, go_sem, ↓reduceIte, Nat.reduceEqDiff, List.length_cons, List.length_nil, Nat.zero_add, show (((1 : Nat) : Int) = 1) by decide, decide_true]
  refine WS_of_cond ?_
  simp only [go_sem, ↓reduceIte]
  refine WS_of_seq (WS_of_ops ?_)
  have hi : indexStrA (.str [c]) (.int .i64 0) = some (.int .u8 (c.toNat : Int)) := by simp [indexStrA]
  simp only [stringslite_Index_r5, go_sem, ↓reduceIte, Nat.reduceEqDiff, enterS, List.getD_cons_zero, List.getD_cons_succ, hi]
  refine (ixb_spec he s c h).mono ?_
  rintro r h' ⟨rfl, rfl⟩
  simp only [go_sem, ↓reduceIte, Nat.reduceEqDiff]
  refine WS_of_ret ?_
  simp only [go_sem, stringslite_Index_a, ↓reduceIte, Nat.reduceEqDiff]
  exact ⟨trivial, trivial⟩
theorem cut_spec {E : Env} (he : Std E) (s : List UInt8) (c : UInt8) (h : H) (hl : s.length < 4611686018427387904) : WCall E n_strings_Cut [.str s, .str [c]] h fun r h' => h' = h ∧ r = .val (.tup [.str (cutS s c).1, .str (cutS s c).2.1, .bool (cutS s c).2.2]) := by
  refine WCall_ws (he.ov _ rfl) (he.tT T_strings_Cut) (by simp [strings_Cut_a]) ?_
  refine WS_of_seq (WS_of_ops ?_)
  simp only [strings_Cut_r0, go_sem, ↓reduceIte, Nat.reduceEqDiff]
  refine WS_of_seq (WS_of_ops ?_)
  simp only [strings_Cut_r1, go_sem, ↓reduceIte, Nat.reduceEqDiff, enterS, List.getD_cons_zero, List.getD_cons_succ]
  have key : WCall E n_stringslite_Cut [.str s, .str [c]] h fun r h' => h' = h ∧ r = .val (.tup [.str (cutS s c).1, .str (cutS s c).2.1, .bool (cutS s c).2.2]) := by
    refine WCall_ws (he.ov _ rfl) (he.tT T_stringslite_Cut) (by simp [stringslite_Cut_a]) ?_
    refine WS_of_seq (WS_of_ops ?_)
    simp only [stringslite_Cut_r0, go_sem, ↓reduceIte, Nat.reduceEqDiff]
    refine WS_of_seq (WS_of_seq (WS_of_ops ?_))
    simp only [stringslite_Cut_r1, go_sem, ↓reduceIte, Nat.reduceEqDiff, enterS, List.getD_cons_zero, List.getD_cons_succ]
    refine (index1_spec he s c h).mono ?_
    rintro r h' ⟨rfl, rfl⟩
    simp only [go_sem, ↓reduceIte, Nat.reduceEqDiff]
    refine WS_of_seq (WS_of_ops ?_)
    simp only [stringslite_Cut_r2, go_sem, ↓reduceIte, Nat.reduceEqDiff]
    refine WS_of_cond ?_
    simp only [go_sem]
    rcases cut_idx s c 0 with ⟨h1, h2⟩ | ⟨i, hi, h1, h2⟩
    · rw [h1, h2]
      simp only [show ¬ ((0 : Int) ≤ -1) by decide, decide_false, Bool.false_eq_true, ↓reduceIte]
      refine WS_of_skip ?_
      simp only [go_sem]
      refine WS_of_seq (WS_of_ops ?_)
      simp only [stringslite_Cut_r4, go_sem, ↓reduceIte, Nat.reduceEqDiff, enterS, List.getD_cons_zero]
      refine WS_of_ret ?_
      simp only [go_sem, stringslite_Cut_a, ↓reduceIte, Nat.reduceEqDiff]
      exact ⟨trivial, trivial⟩
    · rw [h1, h2, Nat.zero_add]
      have h0 : (0 : Int) ≤ (i : Int) := by omega
      simp only [h0, decide_true, ↓reduceIte]
      refine WS_of_seq (WS_of_draw ?_)
      have hw : IntKind.i64.wrap ((i : Int) + ((1 : Nat) : Int)) = ((i + 1 : Nat) : Int) := by rw [show ((i : Int) + ((1 : Nat) : Int)) = ((i + 1 : Nat) : Int) from rfl, wrapI (by omega)]
      have q1 := sliceT_to (t := s) (k := i) (by omega) .i64
      have q2 := sliceT_from (t := s) (k := i + 1) (by omega) .i64
      simp only [stringslite_Cut_r3, go_sem, ↓reduceIte, Nat.reduceEqDiff, wanted, enterS, List.getD_cons_zero, List.getD_cons_succ, lenTA, Option.map_some, Option.map_none, List.length_cons, List.length_nil, Nat.zero_add, h1, hw, q1, q2]
      refine ⟨trivial, WS_of_ret ?_⟩
      simp only [go_sem, stringslite_Cut_a, ↓reduceIte, Nat.reduceEqDiff]
      exact ⟨trivial, trivial⟩
  refine key.mono ?_
  rintro r h' ⟨rfl, rfl⟩
  simp only [go_sem, ↓reduceIte, Nat.reduceEqDiff, extractA, List.getElem?_cons_zero, List.getElem?_cons_succ]
  refine WS_of_ret ?_
  simp only [go_sem, strings_Cut_a, ↓reduceIte, Nat.reduceEqDiff]
  exact ⟨trivial, trivial⟩
end Go.Proofs.YtgjcdpanabjcmaaGreatDoor.Ev.C

/- The reference's names, byte by byte: what its functions answer. -/
namespace Go.Proofs.YtgjcdpanabjcmaaGreatDoor.Ev.C
open Go Go.Proofs.YtgjcdpanabjcmaaGreatDoor.Ev
set_option linter.unusedSimpArgs false
set_option linter.unusedVariables false
noncomputable def EL (L : List Ovr) : Env := Env.mk (table PP) (ovP ov1 L) (tableD PP) (tableR PP)
theorem EL_T {L : List Ovr} {i : Nat} {a : AFunc} (h : table PP i = some a) : (EL L).T i = some a := by unfold EL; rw [env_T]; exact h
theorem EL_ov (L : List Ovr) (f : Nat) : (EL L).ov f = ovP ov1 L f := by unfold EL; rw [env_ov]
theorem EL_table (L : List Ovr) : TableOK PP (EL L) := table_ok PP (ovP ov1 L)
/-- a call that a pure function stands for -/
theorem EL_call {L : List Ovr} {f : Nat} {F : List AV → Option AV} {args : List AV} {v : AV} {h : H} {R : AOut → H → Prop} (ho : ovP ov1 L f = some (pureO F)) (hF : F args = some v) (hR : R (.val v) h) : WCall (EL L) f args h R :=
  pure_call ((EL_ov L f).trans ho) hF hR
theorem bt_idx {s : List UInt8} {i : Nat} (hi : i < s.length) : indexStrA (.str s) (.int .i64 (i : Int)) = some (.int .u8 (bt s i : Int)) := by
  rw [indexStr_at hi]; simp [bt, List.getD_eq_getElem?_getD, List.getElem?_eq_getElem hi]
def inB (s : List UInt8) (i lo hi : Nat) : Bool := decide (i < s.length) && (decide (lo ≤ bt s i) && decide (bt s i ≤ hi))
def inF : List AV → Option AV
  | [.str s, .int .i64 i, .int .u8 lo, .int .u8 hi] => if 0 ≤ i ∧ 0 ≤ lo ∧ 0 ≤ hi then some (.bool (inB s i.toNat lo.toNat hi.toNat)) else none
  | _ => none
theorem in_walk (args : List AV) (v : AV) (e : inF args = some v) : plainV v = true ∧ ∀ h : H, h.Wf → WCall (EL []) n_doormanref02_in args h (fun r _ => r = .val v) := by
  unfold inF at e
  split at e
  case h_2 => cases e
  rename_i s i lo hi
  split at e
  case isFalse => cases e
  rename_i hc
  obtain ⟨hi0, hl0, hh0⟩ := hc
  cases e
  obtain ⟨n, rfl⟩ := Int.eq_ofNat_of_zero_le hi0
  obtain ⟨lo, rfl⟩ := Int.eq_ofNat_of_zero_le hl0
  obtain ⟨hi, rfl⟩ := Int.eq_ofNat_of_zero_le hh0
  refine ⟨rfl, fun h wf => ?_⟩
  simp only [Int.toNat_natCast]
  refine WCall_ws ((EL_ov _ _).trans rfl) (EL_T T_doormanref02_in) (by simp [doormanref02_in_a]) ?_
  refine WS_of_seq (WS_of_ops ?_)
  simp only [doormanref02_in_r0, go_sem, ↓reduceIte, Nat.reduceEqDiff]
  refine WS_of_seq (WS_of_ops ?_)
  by_cases hn : n < s.length
  · have hn' : (n : Int) < (s.length : Int) := by omega
    have hb := bt_idx hn
    by_cases h1 : lo ≤ bt s n
    · have h1' : (lo : Int) ≤ (bt s n : Int) := by omega
      simp only [doormanref02_in_r1, go_sem, ↓reduceIte, Nat.reduceEqDiff, enterS, List.getD_cons_zero, List.getD_cons_succ, lenTA, Option.map_some, hn', hb, wanted, decide_true, beq_self_eq_true, h1', pickA]
      refine WS_of_ret ?_
      simp only [go_sem, doormanref02_in_a, ↓reduceIte, Nat.reduceEqDiff]
      simp [inB, hn, h1]
    · have h1' : ¬ (lo : Int) ≤ (bt s n : Int) := by omega
      simp only [doormanref02_in_r1, go_sem, ↓reduceIte, Nat.reduceEqDiff, enterS, List.getD_cons_zero, List.getD_cons_succ, lenTA, Option.map_some, hn', hb, wanted, decide_true, decide_false, beq_self_eq_true, h1', pickA, show (false == true) = false from rfl, Bool.false_eq_true, undefA]
      refine WS_of_ret ?_
      simp only [go_sem, doormanref02_in_a, ↓reduceIte, Nat.reduceEqDiff]
      simp [inB, hn, h1]
  · have hn' : ¬ (n : Int) < (s.length : Int) := by omega
    simp only [doormanref02_in_r1, go_sem, ↓reduceIte, Nat.reduceEqDiff, enterS, List.getD_cons_zero, List.getD_cons_succ, lenTA, Option.map_some, hn', wanted, decide_true, decide_false, beq_self_eq_true, pickA, show (false == true) = false from rfl, Bool.false_eq_true, undefA]
    refine WS_of_ret ?_
    simp only [go_sem, doormanref02_in_a, ↓reduceIte, Nat.reduceEqDiff]
    simp [inB, hn]
def longB (s : List UInt8) (i : Nat) : Nat :=
  if bt s i < 128 then 1
  else if 194 ≤ bt s i ∧ bt s i ≤ 223 then (if inB s (i + 1) 128 191 = true then 2 else 0)
  else if 224 ≤ bt s i ∧ bt s i ≤ 239 then (if (if bt s i = 224 then inB s (i + 1) 160 191 else if bt s i = 237 then inB s (i + 1) 128 159 else inB s (i + 1) 128 191) = true ∧ inB s (i + 2) 128 191 = true then 3 else 0)
  else if 240 ≤ bt s i ∧ bt s i ≤ 244 then (if ((if bt s i = 240 then inB s (i + 1) 144 191 else if bt s i = 244 then inB s (i + 1) 128 143 else inB s (i + 1) 128 191) = true ∧ inB s (i + 2) 128 191 = true) ∧ inB s (i + 3) 128 191 = true then 4 else 0)
  else 0
theorem longB_eq (s : List UInt8) (i : Nat) : longB s i = longR s i := by
  have hin : ∀ j lo hi, inB s j lo hi = true ↔ (j < s.length ∧ lo ≤ bt s j ∧ bt s j ≤ hi) := by intro j lo hi; simp [inB]
  unfold longB longR longV
  simp only [hin]
  by_cases h1 : bt s i < 128
  · simp only [h1, if_true]
  simp only [h1, if_false]
  by_cases h2 : 194 ≤ bt s i ∧ bt s i ≤ 223
  · simp only [h2, and_self, if_true]
  simp only [h2, if_false]
  by_cases h3 : 224 ≤ bt s i ∧ bt s i ≤ 239
  · simp only [h3, and_self, if_true]
    by_cases h4 : bt s i = 224
    · simp only [h4, if_true, hin]; simp
    · by_cases h5 : bt s i = 237
      · simp only [h5, if_true, hin]; simp [hin]
      · simp only [h4, h5, if_false, hin]
  simp only [h3, if_false]
  by_cases h4 : 240 ≤ bt s i ∧ bt s i ≤ 244
  · simp only [h4, and_self, if_true]
    by_cases h5 : bt s i = 240
    · simp only [h5, if_true, hin]; simp [and_assoc]
    · by_cases h6 : bt s i = 244
      · simp only [h6, if_true, hin]; simp [hin, and_assoc]
      · simp only [h5, h6, if_false, hin, and_assoc]
  simp only [h4, if_false]
def L1 : List Ovr := [(n_doormanref02_in, pureO inF)]
theorem in_at {L : List Ovr} (ho : ovP ov1 L n_doormanref02_in = some (pureO inF)) (s : List UInt8) (i lo hi : Nat) {h : H} {R : AOut → H → Prop} (hR : R (.val (.bool (inB s i lo hi))) h) :
    WCall (EL L) n_doormanref02_in [.str s, .int .i64 (i : Int), .int .u8 (lo : Int), .int .u8 (hi : Int)] h R :=
  EL_call ho (by unfold inF; simp only; rw [if_pos ⟨by omega, by omega, by omega⟩]; simp only [Int.toNat_natCast]) hR
/-- how the temporaries stand in Long -/
def LZ (s : List UInt8) (i : Nat) (o : Bool) (z : S) : Prop := z 0 = .str s ∧ z 1 = .int .i64 (i : Int) ∧ z 5 = .int .u8 (bt s i : Int) ∧ z 6 = .bool o ∧ z 7 = .bool (inB s (i + 2) 128 191) ∧ z 8 = .bool (inB s (i + 3) 128 191)
theorem long_walk' (s : List UInt8) (i : Nat) (hi : i < s.length) (hl : s.length < 1000000000) (h : H) : WCall (EL L1) n_doormanref02_Long [.str s, .int .i64 (i : Int)] h fun r _ => r = .val (.int .i64 (longB s i : Int)) := by
  refine WCall_ws ((EL_ov _ _).trans rfl) (EL_T T_doormanref02_Long) (by simp [doormanref02_Long_a]) ?_
  refine WS_of_seq (WS_of_ops ?_)
  simp only [doormanref02_Long_r0, go_sem, ↓reduceIte, Nat.reduceEqDiff]
  refine WS_of_seq (WS_of_ops ?_)
  simp only [doormanref02_Long_r1, go_sem, ↓reduceIte, Nat.reduceEqDiff, enterS, List.getD_cons_zero, List.getD_cons_succ, bt_idx hi]
  have a1 : IntKind.i64.wrap ((i : Int) + 1) = ((i + 1 : Nat) : Int) := wrapI (n := i + 1) (by omega)
  have a2 : IntKind.i64.wrap ((i : Int) + 2) = ((i + 2 : Nat) : Int) := wrapI (n := i + 2) (by omega)
  have a3 : IntKind.i64.wrap ((i : Int) + 3) = ((i + 3 : Nat) : Int) := wrapI (n := i + 3) (by omega)
  have hb256 := bt_lt s i
  refine WS_of_seq (WS_of_ops ?_)
  simp only [doormanref02_Long_r2, go_sem, ↓reduceIte, Nat.reduceEqDiff, enterS, List.getD_cons_zero, List.getD_cons_succ, a1]
  refine in_at rfl s (i + 1) 128 191 ?_
  simp only [go_sem, ↓reduceIte, Nat.reduceEqDiff]
  refine WS_of_seq (WS_of_ops ?_)
  simp only [doormanref02_Long_r3, go_sem, ↓reduceIte, Nat.reduceEqDiff, enterS, List.getD_cons_zero, List.getD_cons_succ, a2]
  refine in_at rfl s (i + 2) 128 191 ?_
  simp only [go_sem, ↓reduceIte, Nat.reduceEqDiff]
  refine WS_of_seq (WS_of_ops ?_)
  simp only [doormanref02_Long_r4, go_sem, ↓reduceIte, Nat.reduceEqDiff, enterS, List.getD_cons_zero, List.getD_cons_succ, a3]
  refine in_at rfl s (i + 3) 128 191 ?_
  simp only [go_sem, ↓reduceIte, Nat.reduceEqDiff]
  refine WS_of_seq (WS_of_block (WS_mid (fun z g => h = g ∧ LZ s i (inB s (i + 1) 128 191) z ∧ z 24 = .bool (decide (bt s i < 128))) ?_ ?_))
  · refine WS_of_ops ?_
    simp only [doormanref02_Long_r5, go_sem, ↓reduceIte, Nat.reduceEqDiff]
    exact ⟨trivial, trivial, ⟨rfl, rfl, rfl, rfl, rfl, rfl⟩, by simp; omega⟩
  rintro z g ⟨rfl, ⟨z0, z1, z5, z6, z7, z8⟩, zc⟩
  refine WS_of_cond ?_
  simp only [go_sem, ↓reduceIte, Nat.reduceEqDiff, zc]
  by_cases c1 : bt s i < 128
  · simp only [c1, decide_true, ↓reduceIte]
    refine WS_of_seq (WS_of_ops ?_)
    simp only [doormanref02_Long_r6, go_sem, ↓reduceIte, Nat.reduceEqDiff]
    refine WS_of_ret ?_
    simp only [go_sem, ↓reduceIte, Nat.reduceEqDiff, doormanref02_Long_a]
    simp [longB, c1]
  simp only [c1, decide_false, ↓reduceIte, Bool.false_eq_true]
  refine WS_mid (fun z g => h = g ∧ LZ s i (inB s (i + 1) 128 191) z ∧ z 27 = .bool (decide (194 ≤ bt s i ∧ bt s i ≤ 223))) ?_ ?_
  · refine WS_of_ops ?_
    by_cases g1 : (194 : Int) ≤ (bt s i : Int)
    · by_cases g2 : (bt s i : Int) ≤ 223
      · simp only [doormanref02_Long_r7, go_sem, ↓reduceIte, Nat.reduceEqDiff, z5, g1, g2, wanted, decide_true, decide_false, beq_self_eq_true, pickA, show (false == true) = false from rfl, show (true == false) = false from rfl, Bool.false_eq_true, undefA]
        exact ⟨trivial, trivial, ⟨z0, z1, z5, z6, z7, z8⟩, by have e1 : 194 ≤ bt s i := (by omega); have e2 : bt s i ≤ 223 := (by omega); simp [e1, e2]⟩
      · simp only [doormanref02_Long_r7, go_sem, ↓reduceIte, Nat.reduceEqDiff, z5, g1, g2, wanted, decide_true, decide_false, beq_self_eq_true, pickA, show (false == true) = false from rfl, show (true == false) = false from rfl, Bool.false_eq_true, undefA]
        exact ⟨trivial, trivial, ⟨z0, z1, z5, z6, z7, z8⟩, by have e2 : ¬ bt s i ≤ 223 := (by omega); simp [e2]⟩
    · simp only [doormanref02_Long_r7, go_sem, ↓reduceIte, Nat.reduceEqDiff, z5, g1, wanted, decide_true, decide_false, beq_self_eq_true, pickA, show (false == true) = false from rfl, show (true == false) = false from rfl, Bool.false_eq_true, undefA]
      exact ⟨trivial, trivial, ⟨z0, z1, z5, z6, z7, z8⟩, by have e1 : ¬ 194 ≤ bt s i := (by omega); simp [e1]⟩
  rintro z g ⟨rfl, ⟨z0, z1, z5, z6, z7, z8⟩, zc⟩
  refine WS_of_cond ?_
  simp only [go_sem, ↓reduceIte, Nat.reduceEqDiff, zc]
  by_cases c2 : 194 ≤ bt s i ∧ bt s i ≤ 223
  · simp only [c2, and_self, decide_true, ↓reduceIte]
    refine WS_of_seq (WS_of_seq (WS_of_ops ?_))
    simp only [doormanref02_Long_r8, go_sem, ↓reduceIte, Nat.reduceEqDiff, z6]
    refine WS_of_cond ?_
    simp only [go_sem, ↓reduceIte, Nat.reduceEqDiff]
    cases o1 : inB s (i + 1) 128 191
    · simp only [Bool.false_eq_true, ↓reduceIte]
      refine WS_of_skip ?_
      simp only [go_sem]
      refine WS_of_seq (WS_of_ops ?_)
      simp only [doormanref02_Long_r10, go_sem, ↓reduceIte, Nat.reduceEqDiff]
      refine WS_of_ret ?_
      simp only [go_sem, ↓reduceIte, Nat.reduceEqDiff, doormanref02_Long_a]
      simp [longB, c1, c2, o1]
    · simp only [↓reduceIte]
      refine WS_of_seq (WS_of_ops ?_)
      simp only [doormanref02_Long_r9, go_sem, ↓reduceIte, Nat.reduceEqDiff]
      refine WS_of_ret ?_
      simp only [go_sem, ↓reduceIte, Nat.reduceEqDiff, doormanref02_Long_a]
      simp [longB, c1, c2, o1]
  simp only [c2, decide_false, ↓reduceIte, Bool.false_eq_true]
  refine WS_mid (fun z g => h = g ∧ LZ s i (inB s (i + 1) 128 191) z ∧ z 35 = .bool (decide (224 ≤ bt s i ∧ bt s i ≤ 239))) ?_ ?_
  · refine WS_of_ops ?_
    by_cases g1 : (224 : Int) ≤ (bt s i : Int)
    · by_cases g2 : (bt s i : Int) ≤ 239
      · simp only [doormanref02_Long_r11, go_sem, ↓reduceIte, Nat.reduceEqDiff, z5, g1, g2, wanted, decide_true, decide_false, beq_self_eq_true, pickA, show (false == true) = false from rfl, show (true == false) = false from rfl, Bool.false_eq_true, undefA]
        exact ⟨trivial, trivial, ⟨z0, z1, z5, z6, z7, z8⟩, by have e1 : 224 ≤ bt s i := (by omega); have e2 : bt s i ≤ 239 := (by omega); simp [e1, e2]⟩
      · simp only [doormanref02_Long_r11, go_sem, ↓reduceIte, Nat.reduceEqDiff, z5, g1, g2, wanted, decide_true, decide_false, beq_self_eq_true, pickA, show (false == true) = false from rfl, show (true == false) = false from rfl, Bool.false_eq_true, undefA]
        exact ⟨trivial, trivial, ⟨z0, z1, z5, z6, z7, z8⟩, by have e2 : ¬ bt s i ≤ 239 := (by omega); simp [e2]⟩
    · simp only [doormanref02_Long_r11, go_sem, ↓reduceIte, Nat.reduceEqDiff, z5, g1, wanted, decide_true, decide_false, beq_self_eq_true, pickA, show (false == true) = false from rfl, show (true == false) = false from rfl, Bool.false_eq_true, undefA]
      exact ⟨trivial, trivial, ⟨z0, z1, z5, z6, z7, z8⟩, by have e1 : ¬ 224 ≤ bt s i := (by omega); simp [e1]⟩
  rintro z g ⟨rfl, ⟨z0, z1, z5, z6, z7, z8⟩, zc⟩
  refine WS_of_cond ?_
  simp only [go_sem, ↓reduceIte, Nat.reduceEqDiff, zc]
  by_cases c3 : 224 ≤ bt s i ∧ bt s i ≤ 239
  · simp only [c3, and_self, decide_true, ↓reduceIte]
    refine WS_mid (fun z g => h = g ∧ LZ s i (if bt s i = 224 then inB s (i + 1) 160 191 else inB s (i + 1) 128 191) z) ?_ ?_
    · refine WS_of_seq (WS_of_ops ?_)
      by_cases g1 : bt s i = 224
      · have g1' : (bt s i : Int) = 224 := by omega
        simp only [doormanref02_Long_r12, go_sem, ↓reduceIte, Nat.reduceEqDiff, z5, g1', decide_true]
        refine WS_of_cond ?_
        simp only [go_sem, ↓reduceIte, Nat.reduceEqDiff]
        refine WS_of_ops ?_
        simp only [doormanref02_Long_r13, go_sem, ↓reduceIte, Nat.reduceEqDiff, z0, z1, enterS, List.getD_cons_zero, List.getD_cons_succ, a1]
        refine in_at rfl s (i + 1) 160 191 ?_
        simp only [go_sem, ↓reduceIte, Nat.reduceEqDiff]
        exact ⟨trivial, trivial, ⟨z0, z1, z5, by show AV.bool _ = _; simp [g1], z7, z8⟩⟩
      · have g1' : ¬ (bt s i : Int) = 224 := by omega
        simp only [doormanref02_Long_r12, go_sem, ↓reduceIte, Nat.reduceEqDiff, z5, g1', decide_false]
        refine WS_of_cond ?_
        simp only [go_sem, ↓reduceIte, Nat.reduceEqDiff, Bool.false_eq_true]
        refine WS_of_skip ?_
        simp only [go_sem, ↓reduceIte, Nat.reduceEqDiff]
        exact ⟨trivial, trivial, ⟨z0, z1, z5, by show z 6 = _; rw [z6]; simp [g1], z7, z8⟩⟩
    rintro z g ⟨rfl, z0, z1, z5, z6, z7, z8⟩
    refine WS_mid (fun z g => h = g ∧ LZ s i (if bt s i = 237 then inB s (i + 1) 128 159 else if bt s i = 224 then inB s (i + 1) 160 191 else inB s (i + 1) 128 191) z) ?_ ?_
    · refine WS_of_seq (WS_of_ops ?_)
      by_cases g1 : bt s i = 237
      · have g1' : (bt s i : Int) = 237 := by omega
        simp only [doormanref02_Long_r14, go_sem, ↓reduceIte, Nat.reduceEqDiff, z5, g1', decide_true]
        refine WS_of_cond ?_
        simp only [go_sem, ↓reduceIte, Nat.reduceEqDiff]
        refine WS_of_ops ?_
        simp only [doormanref02_Long_r15, go_sem, ↓reduceIte, Nat.reduceEqDiff, z0, z1, enterS, List.getD_cons_zero, List.getD_cons_succ, a1]
        refine in_at rfl s (i + 1) 128 159 ?_
        simp only [go_sem, ↓reduceIte, Nat.reduceEqDiff]
        exact ⟨trivial, trivial, ⟨z0, z1, z5, by show AV.bool _ = _; simp [g1], z7, z8⟩⟩
      · have g1' : ¬ (bt s i : Int) = 237 := by omega
        simp only [doormanref02_Long_r14, go_sem, ↓reduceIte, Nat.reduceEqDiff, z5, g1', decide_false]
        refine WS_of_cond ?_
        simp only [go_sem, ↓reduceIte, Nat.reduceEqDiff, Bool.false_eq_true]
        refine WS_of_skip ?_
        simp only [go_sem, ↓reduceIte, Nat.reduceEqDiff]
        exact ⟨trivial, trivial, ⟨z0, z1, z5, by show z 6 = _; rw [z6]; simp [g1], z7, z8⟩⟩
    rintro z g ⟨rfl, z0, z1, z5, z6, z7, z8⟩
    have oe : (if bt s i = 237 then inB s (i + 1) 128 159 else if bt s i = 224 then inB s (i + 1) 160 191 else inB s (i + 1) 128 191) = (if bt s i = 224 then inB s (i + 1) 160 191 else if bt s i = 237 then inB s (i + 1) 128 159 else inB s (i + 1) 128 191) := by
      by_cases e : bt s i = 237
      · simp [e]
      · simp [e]
    rw [oe] at z6
    refine WS_of_seq (WS_of_seq (WS_of_ops ?_))
    cases o1 : (if bt s i = 224 then inB s (i + 1) 160 191 else if bt s i = 237 then inB s (i + 1) 128 159 else inB s (i + 1) 128 191)
    · rw [o1] at z6
      simp only [doormanref02_Long_r16, go_sem, ↓reduceIte, Nat.reduceEqDiff, z6, z7, wanted, decide_true, decide_false, beq_self_eq_true, pickA, show (false == true) = false from rfl, show (true == false) = false from rfl, Bool.false_eq_true, undefA]
      refine WS_of_cond ?_
      simp only [go_sem, ↓reduceIte, Nat.reduceEqDiff, Bool.false_eq_true]
      refine WS_of_skip ?_
      simp only [go_sem]
      refine WS_of_seq (WS_of_ops ?_)
      simp only [doormanref02_Long_r18, go_sem, ↓reduceIte, Nat.reduceEqDiff]
      refine WS_of_ret ?_
      simp only [go_sem, ↓reduceIte, Nat.reduceEqDiff, doormanref02_Long_a]
      simp [longB, c1, c2, c3, o1]
    rw [o1] at z6
    simp only [doormanref02_Long_r16, go_sem, ↓reduceIte, Nat.reduceEqDiff, z6, z7, wanted, decide_true, decide_false, beq_self_eq_true, pickA, show (false == true) = false from rfl, show (true == false) = false from rfl, Bool.false_eq_true, undefA]
    refine WS_of_cond ?_
    simp only [go_sem, ↓reduceIte, Nat.reduceEqDiff]
    cases o2 : inB s (i + 2) 128 191
    · simp only [Bool.false_eq_true, ↓reduceIte]
      refine WS_of_skip ?_
      simp only [go_sem]
      refine WS_of_seq (WS_of_ops ?_)
      simp only [doormanref02_Long_r18, go_sem, ↓reduceIte, Nat.reduceEqDiff]
      refine WS_of_ret ?_
      simp only [go_sem, ↓reduceIte, Nat.reduceEqDiff, doormanref02_Long_a]
      simp [longB, c1, c2, c3, o1, o2]
    simp only [↓reduceIte]
    refine WS_of_seq (WS_of_ops ?_)
    simp only [doormanref02_Long_r17, go_sem, ↓reduceIte, Nat.reduceEqDiff]
    refine WS_of_ret ?_
    simp only [go_sem, ↓reduceIte, Nat.reduceEqDiff, doormanref02_Long_a]
    simp [longB, c1, c2, c3, o1, o2]
  simp only [c3, decide_false, ↓reduceIte, Bool.false_eq_true]
  refine WS_mid (fun z g => h = g ∧ LZ s i (inB s (i + 1) 128 191) z ∧ z 58 = .bool (decide (240 ≤ bt s i ∧ bt s i ≤ 244))) ?_ ?_
  · refine WS_of_ops ?_
    by_cases g1 : (240 : Int) ≤ (bt s i : Int)
    · by_cases g2 : (bt s i : Int) ≤ 244
      · simp only [doormanref02_Long_r19, go_sem, ↓reduceIte, Nat.reduceEqDiff, z5, g1, g2, wanted, decide_true, decide_false, beq_self_eq_true, pickA, show (false == true) = false from rfl, show (true == false) = false from rfl, Bool.false_eq_true, undefA]
        exact ⟨trivial, trivial, ⟨z0, z1, z5, z6, z7, z8⟩, by have e1 : 240 ≤ bt s i := (by omega); have e2 : bt s i ≤ 244 := (by omega); simp [e1, e2]⟩
      · simp only [doormanref02_Long_r19, go_sem, ↓reduceIte, Nat.reduceEqDiff, z5, g1, g2, wanted, decide_true, decide_false, beq_self_eq_true, pickA, show (false == true) = false from rfl, show (true == false) = false from rfl, Bool.false_eq_true, undefA]
        exact ⟨trivial, trivial, ⟨z0, z1, z5, z6, z7, z8⟩, by have e2 : ¬ bt s i ≤ 244 := (by omega); simp [e2]⟩
    · simp only [doormanref02_Long_r19, go_sem, ↓reduceIte, Nat.reduceEqDiff, z5, g1, wanted, decide_true, decide_false, beq_self_eq_true, pickA, show (false == true) = false from rfl, show (true == false) = false from rfl, Bool.false_eq_true, undefA]
      exact ⟨trivial, trivial, ⟨z0, z1, z5, z6, z7, z8⟩, by have e1 : ¬ 240 ≤ bt s i := (by omega); simp [e1]⟩
  rintro z g ⟨rfl, ⟨z0, z1, z5, z6, z7, z8⟩, zc⟩
  refine WS_of_cond ?_
  simp only [go_sem, ↓reduceIte, Nat.reduceEqDiff, zc]
  by_cases c4 : 240 ≤ bt s i ∧ bt s i ≤ 244
  · simp only [c4, and_self, decide_true, ↓reduceIte]
    refine WS_mid (fun z g => h = g ∧ LZ s i (if bt s i = 240 then inB s (i + 1) 144 191 else inB s (i + 1) 128 191) z) ?_ ?_
    · refine WS_of_seq (WS_of_ops ?_)
      by_cases g1 : bt s i = 240
      · have g1' : (bt s i : Int) = 240 := by omega
        simp only [doormanref02_Long_r20, go_sem, ↓reduceIte, Nat.reduceEqDiff, z5, g1', decide_true]
        refine WS_of_cond ?_
        simp only [go_sem, ↓reduceIte, Nat.reduceEqDiff]
        refine WS_of_ops ?_
        simp only [doormanref02_Long_r21, go_sem, ↓reduceIte, Nat.reduceEqDiff, z0, z1, enterS, List.getD_cons_zero, List.getD_cons_succ, a1]
        refine in_at rfl s (i + 1) 144 191 ?_
        simp only [go_sem, ↓reduceIte, Nat.reduceEqDiff]
        exact ⟨trivial, trivial, ⟨z0, z1, z5, by show AV.bool _ = _; simp [g1], z7, z8⟩⟩
      · have g1' : ¬ (bt s i : Int) = 240 := by omega
        simp only [doormanref02_Long_r20, go_sem, ↓reduceIte, Nat.reduceEqDiff, z5, g1', decide_false]
        refine WS_of_cond ?_
        simp only [go_sem, ↓reduceIte, Nat.reduceEqDiff, Bool.false_eq_true]
        refine WS_of_skip ?_
        simp only [go_sem, ↓reduceIte, Nat.reduceEqDiff]
        exact ⟨trivial, trivial, ⟨z0, z1, z5, by show z 6 = _; rw [z6]; simp [g1], z7, z8⟩⟩
    rintro z g ⟨rfl, z0, z1, z5, z6, z7, z8⟩
    refine WS_mid (fun z g => h = g ∧ LZ s i (if bt s i = 244 then inB s (i + 1) 128 143 else if bt s i = 240 then inB s (i + 1) 144 191 else inB s (i + 1) 128 191) z) ?_ ?_
    · refine WS_of_seq (WS_of_ops ?_)
      by_cases g1 : bt s i = 244
      · have g1' : (bt s i : Int) = 244 := by omega
        simp only [doormanref02_Long_r22, go_sem, ↓reduceIte, Nat.reduceEqDiff, z5, g1', decide_true]
        refine WS_of_cond ?_
        simp only [go_sem, ↓reduceIte, Nat.reduceEqDiff]
        refine WS_of_ops ?_
        simp only [doormanref02_Long_r23, go_sem, ↓reduceIte, Nat.reduceEqDiff, z0, z1, enterS, List.getD_cons_zero, List.getD_cons_succ, a1]
        refine in_at rfl s (i + 1) 128 143 ?_
        simp only [go_sem, ↓reduceIte, Nat.reduceEqDiff]
        exact ⟨trivial, trivial, ⟨z0, z1, z5, by show AV.bool _ = _; simp [g1], z7, z8⟩⟩
      · have g1' : ¬ (bt s i : Int) = 244 := by omega
        simp only [doormanref02_Long_r22, go_sem, ↓reduceIte, Nat.reduceEqDiff, z5, g1', decide_false]
        refine WS_of_cond ?_
        simp only [go_sem, ↓reduceIte, Nat.reduceEqDiff, Bool.false_eq_true]
        refine WS_of_skip ?_
        simp only [go_sem, ↓reduceIte, Nat.reduceEqDiff]
        exact ⟨trivial, trivial, ⟨z0, z1, z5, by show z 6 = _; rw [z6]; simp [g1], z7, z8⟩⟩
    rintro z g ⟨rfl, z0, z1, z5, z6, z7, z8⟩
    have oe : (if bt s i = 244 then inB s (i + 1) 128 143 else if bt s i = 240 then inB s (i + 1) 144 191 else inB s (i + 1) 128 191) = (if bt s i = 240 then inB s (i + 1) 144 191 else if bt s i = 244 then inB s (i + 1) 128 143 else inB s (i + 1) 128 191) := by
      by_cases e : bt s i = 244
      · simp [e]
      · simp [e]
    rw [oe] at z6
    refine WS_of_seq (WS_of_ops ?_)
    cases o1 : (if bt s i = 240 then inB s (i + 1) 144 191 else if bt s i = 244 then inB s (i + 1) 128 143 else inB s (i + 1) 128 191)
    · rw [o1] at z6
      simp only [doormanref02_Long_r24, go_sem, ↓reduceIte, Nat.reduceEqDiff, z6, z7, z8, wanted, decide_true, decide_false, beq_self_eq_true, pickA, show (false == true) = false from rfl, show (true == false) = false from rfl, Bool.false_eq_true, undefA]
      refine WS_of_cond ?_
      simp only [go_sem, ↓reduceIte, Nat.reduceEqDiff, Bool.false_eq_true]
      refine WS_of_skip ?_
      simp only [go_sem, ↓reduceIte, Nat.reduceEqDiff]
      refine WS_of_seq (WS_of_ops ?_)
      simp only [doormanref02_Long_r26, go_sem, ↓reduceIte, Nat.reduceEqDiff]
      refine WS_of_ret ?_
      simp only [go_sem, ↓reduceIte, Nat.reduceEqDiff, doormanref02_Long_a]
      simp [longB, c1, c2, c3, c4, o1]
    rw [o1] at z6
    cases o2 : inB s (i + 2) 128 191
    · rw [o2] at z7
      simp only [doormanref02_Long_r24, go_sem, ↓reduceIte, Nat.reduceEqDiff, z6, z7, z8, wanted, decide_true, decide_false, beq_self_eq_true, pickA, show (false == true) = false from rfl, show (true == false) = false from rfl, Bool.false_eq_true, undefA]
      refine WS_of_cond ?_
      simp only [go_sem, ↓reduceIte, Nat.reduceEqDiff, Bool.false_eq_true]
      refine WS_of_skip ?_
      simp only [go_sem, ↓reduceIte, Nat.reduceEqDiff]
      refine WS_of_seq (WS_of_ops ?_)
      simp only [doormanref02_Long_r26, go_sem, ↓reduceIte, Nat.reduceEqDiff]
      refine WS_of_ret ?_
      simp only [go_sem, ↓reduceIte, Nat.reduceEqDiff, doormanref02_Long_a]
      simp [longB, c1, c2, c3, c4, o1, o2]
    rw [o2] at z7
    simp only [doormanref02_Long_r24, go_sem, ↓reduceIte, Nat.reduceEqDiff, z6, z7, z8, wanted, decide_true, decide_false, beq_self_eq_true, pickA, show (false == true) = false from rfl, show (true == false) = false from rfl, Bool.false_eq_true, undefA]
    refine WS_of_cond ?_
    simp only [go_sem, ↓reduceIte, Nat.reduceEqDiff]
    cases o3 : inB s (i + 3) 128 191
    · simp only [Bool.false_eq_true, ↓reduceIte]
      refine WS_of_skip ?_
      simp only [go_sem, ↓reduceIte, Nat.reduceEqDiff]
      refine WS_of_seq (WS_of_ops ?_)
      simp only [doormanref02_Long_r26, go_sem, ↓reduceIte, Nat.reduceEqDiff]
      refine WS_of_ret ?_
      simp only [go_sem, ↓reduceIte, Nat.reduceEqDiff, doormanref02_Long_a]
      simp [longB, c1, c2, c3, c4, o1, o2, o3]
    simp only [↓reduceIte]
    refine WS_of_seq (WS_of_ops ?_)
    simp only [doormanref02_Long_r25, go_sem, ↓reduceIte, Nat.reduceEqDiff]
    refine WS_of_ret ?_
    simp only [go_sem, ↓reduceIte, Nat.reduceEqDiff, doormanref02_Long_a]
    simp [longB, c1, c2, c3, c4, o1, o2, o3]
  simp only [c4, decide_false, ↓reduceIte, Bool.false_eq_true]
  refine WS_of_skip ?_
  simp only [go_sem, ↓reduceIte, Nat.reduceEqDiff]
  refine WS_of_seq (WS_of_ops ?_)
  simp only [doormanref02_Long_r26, go_sem, ↓reduceIte, Nat.reduceEqDiff]
  refine WS_of_ret ?_
  simp only [go_sem, ↓reduceIte, Nat.reduceEqDiff, doormanref02_Long_a]
  simp [longB, c1, c2, c3, c4]
def longF : List AV → Option AV
  | [.str s, .int .i64 i] => if 0 ≤ i ∧ i.toNat < s.length ∧ s.length < 1000000000 then some (.int .i64 (longR s i.toNat : Int)) else none
  | _ => none
theorem long_walk (args : List AV) (v : AV) (e : longF args = some v) : plainV v = true ∧ ∀ h : H, h.Wf → WCall (EL L1) n_doormanref02_Long args h (fun r _ => r = .val v) := by
  unfold longF at e
  split at e
  case h_2 => cases e
  rename_i s i
  split at e
  case isFalse => cases e
  rename_i hc
  obtain ⟨h0, h1, h2⟩ := hc
  cases e
  obtain ⟨i, rfl⟩ := Int.eq_ofNat_of_zero_le h0
  simp only [Int.toNat_natCast] at h1 ⊢
  refine ⟨rfl, fun h wf => ?_⟩
  rw [← longB_eq]
  exact long_walk' s i h1 h2 h
def L2 : List Ovr := (n_doormanref02_Long, pureO longF) :: L1
theorem long_at {L : List Ovr} (ho : ovP ov1 L n_doormanref02_Long = some (pureO longF)) {s : List UInt8} {i : Nat} (hi : i < s.length) (hl : s.length < 1000000000) {h : H} {R : AOut → H → Prop} (hR : R (.val (.int .i64 (longR s i : Int))) h) :
    WCall (EL L) n_doormanref02_Long [.str s, .int .i64 (i : Int)] h R :=
  EL_call ho (by unfold longF; simp only; rw [if_pos ⟨by omega, by rw [Int.toNat_natCast]; exact hi, hl⟩]; simp only [Int.toNat_natCast]) hR
theorem longR_le (s : List UInt8) (i : Nat) : longR s i ≤ 4 := by
  rw [← longB_eq]; unfold longB
  repeat' split
  all_goals omega
/-- functions of a text and a place -/
def atF (F : List UInt8 → Nat → AV) : List AV → Option AV
  | [.str s, .int .i64 i] => if 0 ≤ i ∧ i.toNat < s.length ∧ s.length < 1000000000 then some (F s i.toNat) else none
  | _ => none
theorem atF_walk {L : List Ovr} {f : Nat} {F : List UInt8 → Nat → AV} (hp : ∀ s i, plainV (F s i) = true) (w : ∀ (s : List UInt8) (i : Nat), i < s.length → s.length < 1000000000 → ∀ h : H, WCall (EL L) f [.str s, .int .i64 (i : Int)] h fun r _ => r = .val (F s i))
    (args : List AV) (v : AV) (e : atF F args = some v) : plainV v = true ∧ ∀ h : H, h.Wf → WCall (EL L) f args h (fun r _ => r = .val v) := by
  unfold atF at e
  split at e
  case h_2 => cases e
  rename_i s i
  split at e
  case isFalse => cases e
  rename_i hc
  obtain ⟨h0, h1, h2⟩ := hc
  cases e
  obtain ⟨i, rfl⟩ := Int.eq_ofNat_of_zero_le h0
  simp only [Int.toNat_natCast] at h1 ⊢
  exact ⟨hp s i, fun h wf => w s i h1 h2 h⟩
theorem atF_at {L : List Ovr} {f : Nat} {F : List UInt8 → Nat → AV} (ho : ovP ov1 L f = some (pureO (atF F))) {s : List UInt8} {i : Nat} (hi : i < s.length) (hl : s.length < 1000000000) {h : H} {R : AOut → H → Prop} (hR : R (.val (F s i)) h) :
    WCall (EL L) f [.str s, .int .i64 (i : Int)] h R :=
  EL_call ho (by unfold atF; simp only; rw [if_pos ⟨by omega, by rw [Int.toNat_natCast]; exact hi, hl⟩]; simp only [Int.toNat_natCast]) hR
def stepF : List AV → Option AV := atF fun s i => .int .i64 (stepR s i : Int)
theorem step_walk' (s : List UInt8) (i : Nat) (hi : i < s.length) (hl : s.length < 1000000000) (h : H) : WCall (EL L2) n_doormanref02_Step [.str s, .int .i64 (i : Int)] h fun r _ => r = .val (.int .i64 (stepR s i : Int)) := by
  have hle := longR_le s i
  refine WCall_ws ((EL_ov _ _).trans rfl) (EL_T T_doormanref02_Step) (by simp [doormanref02_Step_a]) ?_
  refine WS_of_seq (WS_of_ops ?_)
  simp only [doormanref02_Step_r0, go_sem, ↓reduceIte, Nat.reduceEqDiff]
  refine WS_of_seq (WS_of_ops ?_)
  simp only [doormanref02_Step_r1, go_sem, ↓reduceIte, Nat.reduceEqDiff, enterS, List.getD_cons_zero, List.getD_cons_succ]
  refine long_at rfl hi hl ?_
  simp only [go_sem, ↓reduceIte, Nat.reduceEqDiff]
  refine WS_of_seq (WS_of_seq (WS_of_ops ?_))
  by_cases h0 : longR s i = 0
  · have h0' : (longR s i : Int) = 0 := by omega
    simp only [doormanref02_Step_r2, go_sem, ↓reduceIte, Nat.reduceEqDiff, h0', decide_true]
    refine WS_of_cond ?_
    simp only [go_sem, ↓reduceIte, Nat.reduceEqDiff]
    refine WS_of_seq (WS_of_ops ?_)
    simp only [doormanref02_Step_r3, go_sem, ↓reduceIte, Nat.reduceEqDiff, enterS, List.getD_cons_zero, List.getD_cons_succ]
    refine WS_of_ret ?_
    simp only [go_sem, ↓reduceIte, Nat.reduceEqDiff, doormanref02_Step_a]
    rw [show IntKind.i64.wrap ((i : Int) + 1) = ((i + 1 : Nat) : Int) from wrapI (n := i + 1) (by omega)]
    simp [stepR, h0]
  · have h0' : ¬ (longR s i : Int) = 0 := by omega
    simp only [doormanref02_Step_r2, go_sem, ↓reduceIte, Nat.reduceEqDiff, h0', decide_false]
    refine WS_of_cond ?_
    simp only [go_sem, ↓reduceIte, Nat.reduceEqDiff, Bool.false_eq_true]
    refine WS_of_skip ?_
    simp only [go_sem, ↓reduceIte, Nat.reduceEqDiff]
    refine WS_of_seq (WS_of_ops ?_)
    simp only [doormanref02_Step_r4, go_sem, ↓reduceIte, Nat.reduceEqDiff, enterS, List.getD_cons_zero, List.getD_cons_succ]
    refine WS_of_ret ?_
    simp only [go_sem, ↓reduceIte, Nat.reduceEqDiff, doormanref02_Step_a]
    rw [show IntKind.i64.wrap ((i : Int) + (longR s i : Int)) = ((i + longR s i : Nat) : Int) from wrapI (n := i + longR s i) (by omega)]
    simp [stepR, h0]
def mayF : List AV → Option AV := atF fun s i => .bool (mayR s i)
theorem may_walk' (s : List UInt8) (i : Nat) (hi : i < s.length) (hl : s.length < 1000000000) (h : H) : WCall (EL L2) n_doormanref02_May [.str s, .int .i64 (i : Int)] h fun r _ => r = .val (.bool (mayR s i)) := by
  have hle := longR_le s i
  refine WCall_ws ((EL_ov _ _).trans rfl) (EL_T T_doormanref02_May) (by simp [doormanref02_May_a]) ?_
  refine WS_of_seq (WS_of_ops ?_)
  simp only [doormanref02_May_r0, go_sem, ↓reduceIte, Nat.reduceEqDiff]
  refine WS_of_seq (WS_of_ops ?_)
  simp only [doormanref02_May_r1, go_sem, ↓reduceIte, Nat.reduceEqDiff, enterS, List.getD_cons_zero, List.getD_cons_succ, bt_idx hi]
  refine WS_of_seq (WS_of_ops ?_)
  simp only [doormanref02_May_r2, go_sem, ↓reduceIte, Nat.reduceEqDiff, enterS, List.getD_cons_zero, List.getD_cons_succ]
  refine long_at rfl hi hl ?_
  simp only [go_sem, ↓reduceIte, Nat.reduceEqDiff]
  refine WS_of_seq (WS_of_seq (WS_of_ops ?_))
  by_cases h1 : longR s i = 1
  · have h1' : (longR s i : Int) = 1 := by omega
    simp only [doormanref02_May_r3, go_sem, ↓reduceIte, Nat.reduceEqDiff, h1', decide_true]
    refine WS_of_cond ?_
    simp only [go_sem, ↓reduceIte, Nat.reduceEqDiff]
    refine WS_of_seq (WS_of_ops ?_)
    have hm : mayR s i = asciiR (bt s i) := by simp [mayR, h1]
    rw [hm]
    generalize bt s i = c
    have hcase : (c = 95) ∨ (97 ≤ c ∧ c ≤ 122) ∨ (122 < c) ∨ (65 ≤ c ∧ c ≤ 90) ∨ (90 < c ∧ c < 97 ∧ c ≠ 95) ∨ (48 ≤ c ∧ c ≤ 57) ∨ (57 < c ∧ c < 65) ∨ (c < 48) := by omega
    rcases hcase with q | q | q | q | q | q | q | q
    · have e95 : (c : Int) = 95 := by omega
      have e95n : c = 95 := by omega
      simp only [doormanref02_May_r4, go_sem, ↓reduceIte, Nat.reduceEqDiff, e95, wanted, decide_true, decide_false, beq_self_eq_true, pickA, show (false == true) = false from rfl, show (true == false) = false from rfl, Bool.false_eq_true, undefA, Bool.not_true, Bool.not_false]
      refine WS_of_ret ?_
      simp only [go_sem, ↓reduceIte, Nat.reduceEqDiff, doormanref02_May_a]
      simp [asciiR, e95n]
    · have e95 : ¬ (c : Int) = 95 := by omega
      have e95n : ¬ c = 95 := by omega
      have e97 : (97 : Int) ≤ (c : Int) := by omega
      have e97n : 97 ≤ c := by omega
      have e122 : (c : Int) ≤ 122 := by omega
      have e122n : c ≤ 122 := by omega
      simp only [doormanref02_May_r4, go_sem, ↓reduceIte, Nat.reduceEqDiff, e95, e97, e122, wanted, decide_true, decide_false, beq_self_eq_true, pickA, show (false == true) = false from rfl, show (true == false) = false from rfl, Bool.false_eq_true, undefA, Bool.not_true, Bool.not_false]
      refine WS_of_ret ?_
      simp only [go_sem, ↓reduceIte, Nat.reduceEqDiff, doormanref02_May_a]
      simp [asciiR, e95n, e97n, e122n]
    · have e95 : ¬ (c : Int) = 95 := by omega
      have e95n : ¬ c = 95 := by omega
      have e97 : (97 : Int) ≤ (c : Int) := by omega
      have e97n : 97 ≤ c := by omega
      have e122 : ¬ (c : Int) ≤ 122 := by omega
      have e122n : ¬ c ≤ 122 := by omega
      have e65 : (65 : Int) ≤ (c : Int) := by omega
      have e65n : 65 ≤ c := by omega
      have e90 : ¬ (c : Int) ≤ 90 := by omega
      have e90n : ¬ c ≤ 90 := by omega
      have e48 : (48 : Int) ≤ (c : Int) := by omega
      have e48n : 48 ≤ c := by omega
      have e57 : ¬ (c : Int) ≤ 57 := by omega
      have e57n : ¬ c ≤ 57 := by omega
      simp only [doormanref02_May_r4, go_sem, ↓reduceIte, Nat.reduceEqDiff, e95, e97, e122, e65, e90, e48, e57, wanted, decide_true, decide_false, beq_self_eq_true, pickA, show (false == true) = false from rfl, show (true == false) = false from rfl, Bool.false_eq_true, undefA, Bool.not_true, Bool.not_false]
      refine WS_of_ret ?_
      simp only [go_sem, ↓reduceIte, Nat.reduceEqDiff, doormanref02_May_a]
      simp [asciiR, e95n, e97n, e122n, e65n, e90n, e48n, e57n]
    · have e95 : ¬ (c : Int) = 95 := by omega
      have e95n : ¬ c = 95 := by omega
      have e97 : ¬ (97 : Int) ≤ (c : Int) := by omega
      have e97n : ¬ 97 ≤ c := by omega
      have e65 : (65 : Int) ≤ (c : Int) := by omega
      have e65n : 65 ≤ c := by omega
      have e90 : (c : Int) ≤ 90 := by omega
      have e90n : c ≤ 90 := by omega
      simp only [doormanref02_May_r4, go_sem, ↓reduceIte, Nat.reduceEqDiff, e95, e97, e65, e90, wanted, decide_true, decide_false, beq_self_eq_true, pickA, show (false == true) = false from rfl, show (true == false) = false from rfl, Bool.false_eq_true, undefA, Bool.not_true, Bool.not_false]
      refine WS_of_ret ?_
      simp only [go_sem, ↓reduceIte, Nat.reduceEqDiff, doormanref02_May_a]
      simp [asciiR, e95n, e97n, e65n, e90n]
    · have e95 : ¬ (c : Int) = 95 := by omega
      have e95n : ¬ c = 95 := by omega
      have e97 : ¬ (97 : Int) ≤ (c : Int) := by omega
      have e97n : ¬ 97 ≤ c := by omega
      have e65 : (65 : Int) ≤ (c : Int) := by omega
      have e65n : 65 ≤ c := by omega
      have e90 : ¬ (c : Int) ≤ 90 := by omega
      have e90n : ¬ c ≤ 90 := by omega
      have e48 : (48 : Int) ≤ (c : Int) := by omega
      have e48n : 48 ≤ c := by omega
      have e57 : ¬ (c : Int) ≤ 57 := by omega
      have e57n : ¬ c ≤ 57 := by omega
      simp only [doormanref02_May_r4, go_sem, ↓reduceIte, Nat.reduceEqDiff, e95, e97, e65, e90, e48, e57, wanted, decide_true, decide_false, beq_self_eq_true, pickA, show (false == true) = false from rfl, show (true == false) = false from rfl, Bool.false_eq_true, undefA, Bool.not_true, Bool.not_false]
      refine WS_of_ret ?_
      simp only [go_sem, ↓reduceIte, Nat.reduceEqDiff, doormanref02_May_a]
      simp [asciiR, e95n, e97n, e65n, e90n, e48n, e57n]
    · have e95 : ¬ (c : Int) = 95 := by omega
      have e95n : ¬ c = 95 := by omega
      have e97 : ¬ (97 : Int) ≤ (c : Int) := by omega
      have e97n : ¬ 97 ≤ c := by omega
      have e65 : ¬ (65 : Int) ≤ (c : Int) := by omega
      have e65n : ¬ 65 ≤ c := by omega
      have e48 : (48 : Int) ≤ (c : Int) := by omega
      have e48n : 48 ≤ c := by omega
      have e57 : (c : Int) ≤ 57 := by omega
      have e57n : c ≤ 57 := by omega
      simp only [doormanref02_May_r4, go_sem, ↓reduceIte, Nat.reduceEqDiff, e95, e97, e65, e48, e57, wanted, decide_true, decide_false, beq_self_eq_true, pickA, show (false == true) = false from rfl, show (true == false) = false from rfl, Bool.false_eq_true, undefA, Bool.not_true, Bool.not_false]
      refine WS_of_ret ?_
      simp only [go_sem, ↓reduceIte, Nat.reduceEqDiff, doormanref02_May_a]
      simp [asciiR, e95n, e97n, e65n, e48n, e57n]
    · have e95 : ¬ (c : Int) = 95 := by omega
      have e95n : ¬ c = 95 := by omega
      have e97 : ¬ (97 : Int) ≤ (c : Int) := by omega
      have e97n : ¬ 97 ≤ c := by omega
      have e65 : ¬ (65 : Int) ≤ (c : Int) := by omega
      have e65n : ¬ 65 ≤ c := by omega
      have e48 : (48 : Int) ≤ (c : Int) := by omega
      have e48n : 48 ≤ c := by omega
      have e57 : ¬ (c : Int) ≤ 57 := by omega
      have e57n : ¬ c ≤ 57 := by omega
      simp only [doormanref02_May_r4, go_sem, ↓reduceIte, Nat.reduceEqDiff, e95, e97, e65, e48, e57, wanted, decide_true, decide_false, beq_self_eq_true, pickA, show (false == true) = false from rfl, show (true == false) = false from rfl, Bool.false_eq_true, undefA, Bool.not_true, Bool.not_false]
      refine WS_of_ret ?_
      simp only [go_sem, ↓reduceIte, Nat.reduceEqDiff, doormanref02_May_a]
      simp [asciiR, e95n, e97n, e65n, e48n, e57n]
    · have e95 : ¬ (c : Int) = 95 := by omega
      have e95n : ¬ c = 95 := by omega
      have e97 : ¬ (97 : Int) ≤ (c : Int) := by omega
      have e97n : ¬ 97 ≤ c := by omega
      have e65 : ¬ (65 : Int) ≤ (c : Int) := by omega
      have e65n : ¬ 65 ≤ c := by omega
      have e48 : ¬ (48 : Int) ≤ (c : Int) := by omega
      have e48n : ¬ 48 ≤ c := by omega
      simp only [doormanref02_May_r4, go_sem, ↓reduceIte, Nat.reduceEqDiff, e95, e97, e65, e48, wanted, decide_true, decide_false, beq_self_eq_true, pickA, show (false == true) = false from rfl, show (true == false) = false from rfl, Bool.false_eq_true, undefA, Bool.not_true, Bool.not_false]
      refine WS_of_ret ?_
      simp only [go_sem, ↓reduceIte, Nat.reduceEqDiff, doormanref02_May_a]
      simp [asciiR, e95n, e97n, e65n, e48n]
  have h1' : ¬ (longR s i : Int) = 1 := by omega
  simp only [doormanref02_May_r3, go_sem, ↓reduceIte, Nat.reduceEqDiff, h1', decide_false]
  refine WS_of_cond ?_
  simp only [go_sem, ↓reduceIte, Nat.reduceEqDiff, Bool.false_eq_true]
  refine WS_of_skip ?_
  simp only [go_sem, ↓reduceIte, Nat.reduceEqDiff]
  refine WS_of_seq (WS_of_ops ?_)
  by_cases h2 : 1 < longR s i
  · have h2' : (1 : Int) < (longR s i : Int) := by omega
    by_cases h3 : bt s i = 194
    · have h3' : (bt s i : Int) = 194 := by omega
      have hi1 : i + 1 < s.length := by
        have := longB_eq s i
        unfold longB inB at this
        rw [h3] at this
        simp only [show ¬ (194 < 128) by decide, if_false, show (194 ≤ 194 ∧ 194 ≤ 223) by decide, and_self, if_true] at this
        split at this
        · rename_i hx; simp at hx; exact hx.1
        · omega
      have a1 : IntKind.i64.wrap ((i : Int) + 1) = ((i + 1 : Nat) : Int) := wrapI (n := i + 1) (by omega)
      simp only [doormanref02_May_r5, go_sem, ↓reduceIte, Nat.reduceEqDiff, h2', h3', wanted, decide_true, decide_false, beq_self_eq_true, pickA, show (false == true) = false from rfl, show (true == false) = false from rfl, Bool.false_eq_true, undefA, Bool.not_true, Bool.not_false, a1, bt_idx hi1, enterS, List.getD_cons_zero, List.getD_cons_succ]
      refine WS_of_ret ?_
      simp only [go_sem, ↓reduceIte, Nat.reduceEqDiff, doormanref02_May_a]
      have : decide ((160 : Int) < (bt s (i + 1) : Int)) = decide (160 < bt s (i + 1)) := by
        apply decide_eq_decide.2; omega
      simp [mayR, h1, h2, h3]
      try omega
    · have h3' : ¬ (bt s i : Int) = 194 := by omega
      simp only [doormanref02_May_r5, go_sem, ↓reduceIte, Nat.reduceEqDiff, h2', h3', wanted, decide_true, decide_false, beq_self_eq_true, pickA, show (false == true) = false from rfl, show (true == false) = false from rfl, Bool.false_eq_true, undefA, Bool.not_true, Bool.not_false]
      refine WS_of_ret ?_
      simp only [go_sem, ↓reduceIte, Nat.reduceEqDiff, doormanref02_May_a]
      simp [mayR, h1, h2, h3]
  · have h2' : ¬ (1 : Int) < (longR s i : Int) := by omega
    simp only [doormanref02_May_r5, go_sem, ↓reduceIte, Nat.reduceEqDiff, h2', wanted, decide_true, decide_false, beq_self_eq_true, pickA, show (false == true) = false from rfl, show (true == false) = false from rfl, Bool.false_eq_true, undefA, Bool.not_true, Bool.not_false]
    refine WS_of_ret ?_
    simp only [go_sem, ↓reduceIte, Nat.reduceEqDiff, doormanref02_May_a]
    simp [mayR, h1, h2]
def L3 : List Ovr := (n_doormanref02_Step, pureO stepF) :: (n_doormanref02_May, pureO mayF) :: L2
/-- functions of a text -/
def txF (F : List UInt8 → AV) : List AV → Option AV
  | [.str s] => if s.length < 1000000000 then some (F s) else none
  | _ => none
theorem txF_walk {L : List Ovr} {f : Nat} {F : List UInt8 → AV} (hp : ∀ s, plainV (F s) = true) (w : ∀ (s : List UInt8), s.length < 1000000000 → ∀ h : H, h.Wf → WCall (EL L) f [.str s] h fun r _ => r = .val (F s))
    (args : List AV) (v : AV) (e : txF F args = some v) : plainV v = true ∧ ∀ h : H, h.Wf → WCall (EL L) f args h (fun r _ => r = .val v) := by
  unfold txF at e
  split at e
  case h_2 => cases e
  rename_i s
  split at e
  case isFalse => cases e
  rename_i hc
  cases e
  exact ⟨hp s, fun h wf => w s hc h wf⟩
theorem txF_at {L : List Ovr} {f : Nat} {F : List UInt8 → AV} (ho : ovP ov1 L f = some (pureO (txF F))) {s : List UInt8} (hl : s.length < 1000000000) {h : H} {R : AOut → H → Prop} (hR : R (.val (F s)) h) : WCall (EL L) f [.str s] h R :=
  EL_call ho (by unfold txF; simp only; rw [if_pos hl]) hR
theorem stepR_gt (s : List UInt8) (i : Nat) : i < stepR s i ∧ stepR s i ≤ i + 4 := by
  have := longR_le s i
  unfold stepR; split <;> omega
theorem count02_walk (s : List UInt8) (hl : s.length < 1000000000) (h : H) (wf : h.Wf) : WCall (EL L3) n_doormanref02_Count [.str s] h fun r _ => r = .val (.int .i64 (countG s : Int)) := by
  refine WCall_ws ((EL_ov _ _).trans rfl) (EL_T T_doormanref02_Count) (by simp [doormanref02_Count_a]) ?_
  refine WS_of_seq (WS_of_ops ?_)
  simp only [doormanref02_Count_r0, go_sem, ↓reduceIte, Nat.reduceEqDiff]
  refine WS_of_seq (WS_of_ops ?_)
  simp only [doormanref02_Count_r1, go_sem, ↓reduceIte, Nat.reduceEqDiff]
  refine WS_of_seq (WS_of_seq (WS_of_ops ?_))
  simp only [doormanref02_Count_r2, go_sem, ↓reduceIte, Nat.reduceEqDiff]
  refine WS_of_block (WS_of_loop (fun m z g => h = g ∧ ∃ p c : Nat, m = s.length - p ∧ c ≤ p ∧ p ≤ s.length + 4 ∧ countG s = c + (runes s p).length ∧ z 0 = .str s ∧ z 4 = .int .i64 (p : Int) ∧ z 3 = .int .i64 (c : Int)) ?_ s.length ?_)
  case refine_2 => exact ⟨rfl, 0, 0, by simp, by simp, by omega, by simp [countG], rfl, rfl, rfl⟩
  rintro m z g ⟨rfl, p, c, rfl, hcp, hpl, hv, z0, z4, z3⟩
  show WS (EL L3) doormanref02_Count_l6 _ _ _ _
  refine WS_of_seq (WS_of_seq (WS_of_ops ?_))
  by_cases hp : p < s.length
  case neg =>
    have hp' : ¬ (p : Int) < (s.length : Int) := by omega
    simp only [doormanref02_Count_r3, go_sem, ↓reduceIte, Nat.reduceEqDiff, z0, z4, lenTA, Option.map_some, hp', decide_false]
    refine WS_of_cond ?_
    simp only [go_sem, ↓reduceIte, Nat.reduceEqDiff, Bool.false_eq_true]
    refine WS_of_exit ?_
    simp only [go_sem, ↓reduceIte, Nat.reduceEqDiff]
    refine WS_of_seq (WS_of_ops ?_)
    simp only [doormanref02_Count_r7, go_sem, ↓reduceIte, Nat.reduceEqDiff, z3]
    refine WS_of_ret ?_
    simp only [go_sem, ↓reduceIte, Nat.reduceEqDiff, doormanref02_Count_a]
    rw [hv, runes_end hp]; simp
  have hp' : (p : Int) < (s.length : Int) := by omega
  simp only [doormanref02_Count_r3, go_sem, ↓reduceIte, Nat.reduceEqDiff, z0, z4, lenTA, Option.map_some, hp', decide_true]
  refine WS_of_cond ?_
  simp only [go_sem, ↓reduceIte, Nat.reduceEqDiff]
  refine WS_of_skip ?_
  simp only [go_sem]
  refine WS_of_seq (WS_of_block (WS_of_ops ?_))
  have a1 : IntKind.i64.wrap ((c : Int) + 1) = ((c + 1 : Nat) : Int) := wrapI (n := c + 1) (by omega)
  simp only [doormanref02_Count_r4, go_sem, ↓reduceIte, Nat.reduceEqDiff, z3, a1]
  refine WS_of_ops ?_
  simp only [doormanref02_Count_r5, go_sem, ↓reduceIte, Nat.reduceEqDiff, z0, z4, enterS, List.getD_cons_zero, List.getD_cons_succ]
  refine atF_at (F := fun s i => .int .i64 (stepR s i : Int)) rfl hp hl ?_
  simp only [go_sem, ↓reduceIte, Nat.reduceEqDiff]
  have hs := stepR_gt s p
  rw [runes_step hp, dec_step, List.length_cons] at hv
  exact ⟨s.length - stepR s p, by omega, trivial, stepR s p, c + 1, rfl, by omega, by omega, by omega, z0, rfl, rfl⟩
def cntF : List AV → Option AV := txF fun s => .int .i64 (countG s : Int)
def L4 : List Ovr := (n_doormanref02_Count, pureO cntF) :: L3
theorem name02_walk (s : List UInt8) (hl : s.length < 1000000000) (h : H) (wf : h.Wf) : WCall (EL L4) n_doormanref02_Name [.str s] h fun r _ => r = .val (.bool (nameG s)) := by
  rw [name_same]
  refine WCall_ws ((EL_ov _ _).trans rfl) (EL_T T_doormanref02_Name) (by simp [doormanref02_Name_a]) ?_
  refine WS_of_seq (WS_of_ops ?_)
  simp only [doormanref02_Name_r0, go_sem, ↓reduceIte, Nat.reduceEqDiff]
  refine WS_of_seq (WS_of_seq (WS_of_ops ?_))
  simp only [doormanref02_Name_r1, go_sem, ↓reduceIte, Nat.reduceEqDiff]
  refine WS_of_block (WS_of_loop (fun m z g => h = g ∧ ∃ p : Nat, m = s.length - p ∧ p ≤ s.length + 4 ∧ (runes s 0).all (fun x => mayR s x.1) = (runes s p).all (fun x => mayR s x.1) ∧ z 0 = .str s ∧ z 3 = .int .i64 (p : Int)) ?_ s.length ?_)
  case refine_2 => exact ⟨rfl, 0, by simp, by omega, rfl, rfl, rfl⟩
  rintro m z g ⟨rfl, p, rfl, hpl, hv, z0, z3⟩
  show WS (EL L4) doormanref02_Name_l7 _ _ _ _
  refine WS_of_seq (WS_of_seq (WS_of_ops ?_))
  by_cases hp : p < s.length
  case neg =>
    have hp' : ¬ (p : Int) < (s.length : Int) := by omega
    simp only [doormanref02_Name_r2, go_sem, ↓reduceIte, Nat.reduceEqDiff, z0, z3, lenTA, Option.map_some, hp', decide_false]
    refine WS_of_cond ?_
    simp only [go_sem, ↓reduceIte, Nat.reduceEqDiff, Bool.false_eq_true]
    refine WS_of_exit ?_
    simp only [go_sem, ↓reduceIte, Nat.reduceEqDiff]
    refine WS_of_seq (WS_of_ops ?_)
    simp only [doormanref02_Name_r8, go_sem, ↓reduceIte, Nat.reduceEqDiff, z0, enterS, List.getD_cons_zero]
    refine txF_at (F := fun s => .int .i64 (countG s : Int)) rfl hl ?_
    simp only [go_sem, ↓reduceIte, Nat.reduceEqDiff]
    refine WS_of_seq (WS_of_ops ?_)
    rw [runes_end hp] at hv
    by_cases h0 : 0 < countG s
    · have h0' : (0 : Int) < (countG s : Int) := by omega
      simp only [doormanref02_Name_r9, go_sem, ↓reduceIte, Nat.reduceEqDiff, h0', wanted, decide_true, decide_false, beq_self_eq_true, pickA, show (false == true) = false from rfl, show (true == false) = false from rfl, Bool.false_eq_true, undefA, Bool.not_true, Bool.not_false]
      refine WS_of_ret ?_
      simp only [go_sem, ↓reduceIte, Nat.reduceEqDiff, doormanref02_Name_a]
      have : decide ((countG s : Int) ≤ 24) = decide (countG s ≤ 24) := by apply decide_eq_decide.2; omega
      simp [nameR, hv, h0]
      try omega
    · have h0' : ¬ (0 : Int) < (countG s : Int) := by omega
      simp only [doormanref02_Name_r9, go_sem, ↓reduceIte, Nat.reduceEqDiff, h0', wanted, decide_true, decide_false, beq_self_eq_true, pickA, show (false == true) = false from rfl, show (true == false) = false from rfl, Bool.false_eq_true, undefA, Bool.not_true, Bool.not_false]
      refine WS_of_ret ?_
      simp only [go_sem, ↓reduceIte, Nat.reduceEqDiff, doormanref02_Name_a]
      simp [nameR, h0]
  have hp' : (p : Int) < (s.length : Int) := by omega
  simp only [doormanref02_Name_r2, go_sem, ↓reduceIte, Nat.reduceEqDiff, z0, z3, lenTA, Option.map_some, hp', decide_true]
  refine WS_of_cond ?_
  simp only [go_sem, ↓reduceIte, Nat.reduceEqDiff]
  refine WS_of_skip ?_
  simp only [go_sem]
  refine WS_of_seq (WS_of_block (WS_of_seq (WS_of_ops ?_)))
  simp only [doormanref02_Name_r3, go_sem, ↓reduceIte, Nat.reduceEqDiff, z0, z3, enterS, List.getD_cons_zero, List.getD_cons_succ]
  refine atF_at (F := fun s i => .bool (mayR s i)) rfl hp hl ?_
  simp only [go_sem, ↓reduceIte, Nat.reduceEqDiff]
  refine WS_of_seq (WS_of_ops ?_)
  have hs := stepR_gt s p
  rw [runes_step hp, dec_step, List.all_cons] at hv
  cases hm : mayR s p
  · simp only [doormanref02_Name_r4, go_sem, ↓reduceIte, Nat.reduceEqDiff, Bool.not_false]
    refine WS_of_cond ?_
    simp only [go_sem, ↓reduceIte, Nat.reduceEqDiff]
    refine WS_of_seq (WS_of_ops ?_)
    simp only [doormanref02_Name_r5, go_sem, ↓reduceIte, Nat.reduceEqDiff]
    refine WS_of_ret ?_
    simp only [go_sem, ↓reduceIte, Nat.reduceEqDiff, doormanref02_Name_a]
    simp only [hm, Bool.false_and] at hv
    simp [nameR, hv]
  · simp only [doormanref02_Name_r4, go_sem, ↓reduceIte, Nat.reduceEqDiff, Bool.not_true]
    refine WS_of_cond ?_
    simp only [go_sem, ↓reduceIte, Nat.reduceEqDiff, Bool.false_eq_true]
    refine WS_of_skip ?_
    simp only [go_sem]
    refine WS_of_ops ?_
    simp only [doormanref02_Name_r6, go_sem, ↓reduceIte, Nat.reduceEqDiff, z0, z3, enterS, List.getD_cons_zero, List.getD_cons_succ]
    refine atF_at (F := fun s i => .int .i64 (stepR s i : Int)) rfl hp hl ?_
    simp only [go_sem, ↓reduceIte, Nat.reduceEqDiff]
    simp only [hm, Bool.true_and] at hv
    exact ⟨s.length - stepR s p, by omega, trivial, stepR s p, rfl, by omega, hv, z0, rfl⟩
def nmF : List AV → Option AV := txF fun s => .bool (nameG s)
end Go.Proofs.YtgjcdpanabjcmaaGreatDoor.Ev.C

/- Small functions of texts: cut, Compare, Index, Count. -/
namespace Go.Proofs.YtgjcdpanabjcmaaGreatDoor.Ev.C
open Go Go.Proofs.YtgjcdpanabjcmaaGreatDoor.Ev
set_option linter.unusedSimpArgs false
set_option linter.unusedVariables false
theorem E1_EL : E1 = EL [] := by
  unfold E1 EL
  congr 1
theorem std1' : Std (EL []) := E1_EL ▸ std1
def cutF : List AV → Option AV
  | [.str s, .str [c]] => if s.length < 1000000000 then some (.tup [.str (cutS s c).1, .str (cutS s c).2.1, .bool (cutS s c).2.2]) else none
  | _ => none
theorem cut_walk (args : List AV) (v : AV) (e : cutF args = some v) : plainV v = true ∧ ∀ h : H, h.Wf → WCall (EL []) n_strings_Cut args h (fun r _ => r = .val v) := by
  unfold cutF at e
  split at e
  case h_2 => cases e
  rename_i s c
  split at e
  case isFalse => cases e
  rename_i hc
  cases e
  exact ⟨rfl, fun h wf => (cut_spec std1' s c h (by omega)).mono fun r h' q => q.2⟩
theorem cut_at {L : List Ovr} (ho : ovP ov1 L n_strings_Cut = some (pureO cutF)) {s : List UInt8} {c : UInt8} (hl : s.length < 1000000000) {h : H} {R : AOut → H → Prop} (hR : R (.val (.tup [.str (cutS s c).1, .str (cutS s c).2.1, .bool (cutS s c).2.2])) h) : WCall (EL L) n_strings_Cut [.str s, .str [c]] h R :=
  EL_call ho (by unfold cutF; simp only; rw [if_pos hl]) hR
theorem gname_walk (s : List UInt8) (hl : s.length < 1000000000) (h : H) (wf : h.Wf) : WCall (EL []) n_glyph_Name [.str s] h fun r _ => r = .val (.bool (nameG s)) :=
  (name_spec std1' s h (by omega)).mono fun r h' q => q.2
def rcutF : List AV → Option AV
  | [.str s, .int .u8 c] => if s.length < 1000000000 ∧ 0 ≤ c ∧ c < 256 then some (.tup [.str (cutS s (UInt8.ofNat c.toNat)).1, .str (cutS s (UInt8.ofNat c.toNat)).2.1]) else none
  | _ => none
theorem rcut_walk' (s : List UInt8) (c : UInt8) (hl : s.length < 1000000000) (h : H) (wf : h.Wf) : WCall (EL []) n_doormanref12_cut [.str s, .int .u8 (c.toNat : Int)] h fun r _ => r = .val (.tup [.str (cutS s c).1, .str (cutS s c).2.1]) := by
  refine WCall_ws ((EL_ov _ _).trans rfl) (EL_T T_doormanref12_cut) (by simp [doormanref12_cut_a]) ?_
  refine WS_of_seq (WS_of_ops ?_)
  simp only [doormanref12_cut_r0, go_sem, ↓reduceIte, Nat.reduceEqDiff]
  refine WS_of_seq (WS_of_seq (WS_of_ops ?_))
  simp only [doormanref12_cut_r1, go_sem, ↓reduceIte, Nat.reduceEqDiff]
  refine WS_of_block (WS_of_loop (fun m z g => h = g ∧ ∃ p : Nat, m = s.length - p ∧ p ≤ s.length ∧ (cutS s c).1 = s.take p ++ (cutS (s.drop p) c).1 ∧ (cutS s c).2.1 = (cutS (s.drop p) c).2.1 ∧ z 0 = .str s ∧ z 1 = .int .u8 (c.toNat : Int) ∧ z 6 = .int .i64 (p : Int)) ?_ s.length ?_)
  case refine_2 => exact ⟨rfl, 0, by simp, by omega, by simp, by simp, rfl, rfl, rfl⟩
  rintro m z g ⟨rfl, p, rfl, hpl, hv1, hv2, z0, z1, z6⟩
  show WS (EL []) doormanref12_cut_l6 _ _ _ _
  refine WS_of_seq (WS_of_seq (WS_of_ops ?_))
  by_cases hp : p < s.length
  case neg =>
    have hp' : ¬ (p : Int) < (s.length : Int) := by omega
    simp only [doormanref12_cut_r2, go_sem, ↓reduceIte, Nat.reduceEqDiff, z0, z6, lenTA, Option.map_some, hp', decide_false]
    refine WS_of_cond ?_
    simp only [go_sem, ↓reduceIte, Nat.reduceEqDiff, Bool.false_eq_true]
    refine WS_of_exit ?_
    simp only [go_sem, ↓reduceIte, Nat.reduceEqDiff]
    refine WS_of_seq (WS_of_ops ?_)
    simp only [doormanref12_cut_r7, go_sem, ↓reduceIte, Nat.reduceEqDiff, z0]
    refine WS_of_ret ?_
    simp only [go_sem, ↓reduceIte, Nat.reduceEqDiff, doormanref12_cut_a]
    have : s.drop p = [] := List.drop_eq_nil_of_le (by omega)
    rw [hv1, hv2, this]
    have : s.take p = s := List.take_of_length_le (by omega)
    rw [this]; simp [cutS]
  have hp' : (p : Int) < (s.length : Int) := by omega
  simp only [doormanref12_cut_r2, go_sem, ↓reduceIte, Nat.reduceEqDiff, z0, z6, lenTA, Option.map_some, hp', decide_true]
  refine WS_of_cond ?_
  simp only [go_sem, ↓reduceIte, Nat.reduceEqDiff]
  refine WS_of_skip ?_
  simp only [go_sem]
  refine WS_of_seq (WS_of_block (WS_of_seq (WS_of_ops ?_)))
  have hd : s.drop p = s[p] :: s.drop (p + 1) := List.drop_eq_getElem_cons hp
  by_cases hc : s[p] = c
  · have hc' : (s[p].toNat : Int) = (c.toNat : Int) := by rw [hc]
    simp only [doormanref12_cut_r3, go_sem, ↓reduceIte, Nat.reduceEqDiff, z0, z6, z1, indexStr_at hp, hc', decide_true]
    refine WS_of_cond ?_
    simp only [go_sem, ↓reduceIte, Nat.reduceEqDiff]
    refine WS_of_seq (WS_of_draw ?_)
    have a1 : IntKind.i64.wrap ((p : Int) + 1) = ((p + 1 : Nat) : Int) := wrapI (n := p + 1) (by omega)
    have q1 := sliceT_to (t := s) (k := p) (by omega) .i64
    have q2 := sliceT_from (t := s) (k := p + 1) (by omega) .i64
    simp only [doormanref12_cut_r4, go_sem, ↓reduceIte, Nat.reduceEqDiff, wanted, enterS, List.getD_cons_zero, List.getD_cons_succ, Option.map_some, Option.map_none, z0, z6, a1, q1, q2, and_self, true_and, List.filter_cons, List.filter_nil, Nat.testBit, Nat.reduceShiftRight, Nat.reduceAnd, Nat.reduceBNe, Bool.not_false, Bool.not_true, Bool.false_eq_true, bne_self_eq_false]
    refine WS_of_ret ?_
    simp only [go_sem, ↓reduceIte, Nat.reduceEqDiff, doormanref12_cut_a]
    rw [hv1, hv2, hd]; simp [cutS, hc]
  · have hc' : ¬ (s[p].toNat : Int) = (c.toNat : Int) := by
      intro e; apply hc; exact UInt8.toNat_inj.1 (by omega)
    simp only [doormanref12_cut_r3, go_sem, ↓reduceIte, Nat.reduceEqDiff, z0, z6, z1, indexStr_at hp, hc', decide_false]
    refine WS_of_cond ?_
    simp only [go_sem, ↓reduceIte, Nat.reduceEqDiff, Bool.false_eq_true]
    refine WS_of_skip ?_
    simp only [go_sem]
    refine WS_of_ops ?_
    have a1 : IntKind.i64.wrap ((p : Int) + 1) = ((p + 1 : Nat) : Int) := wrapI (n := p + 1) (by omega)
    simp only [doormanref12_cut_r5, go_sem, ↓reduceIte, Nat.reduceEqDiff, z6, a1]
    rw [hd] at hv1 hv2
    simp only [cutS, if_neg hc] at hv1 hv2
    refine ⟨s.length - (p + 1), by omega, trivial, p + 1, rfl, by omega, ?_, hv2, z0, z1, rfl⟩
    rw [hv1, ← List.take_append_getElem hp, List.append_assoc]; rfl
theorem rcut_walk (args : List AV) (v : AV) (e : rcutF args = some v) : plainV v = true ∧ ∀ h : H, h.Wf → WCall (EL []) n_doormanref12_cut args h (fun r _ => r = .val v) := by
  unfold rcutF at e
  split at e
  case h_2 => cases e
  rename_i s c
  split at e
  case isFalse => cases e
  rename_i hc
  obtain ⟨h1, h2, h3⟩ := hc
  cases e
  obtain ⟨n, rfl⟩ := Int.eq_ofNat_of_zero_le h2
  refine ⟨rfl, fun h wf => ?_⟩
  have := rcut_walk' s (UInt8.ofNat n) h1 h wf
  rw [show ((UInt8.ofNat n).toNat : Int) = (n : Int) by simp; omega] at this
  exact this
theorem rcut_at {L : List Ovr} (ho : ovP ov1 L n_doormanref12_cut = some (pureO rcutF)) {s : List UInt8} (c : UInt8) (hl : s.length < 1000000000) {h : H} {R : AOut → H → Prop} (hR : R (.val (.tup [.str (cutS s c).1, .str (cutS s c).2.1])) h) : WCall (EL L) n_doormanref12_cut [.str s, .int .u8 (c.toNat : Int)] h R :=
  EL_call ho (by
    unfold rcutF; simp only
    have := UInt8.toNat_lt c
    rw [if_pos ⟨hl, by omega, by omega⟩]; simp) hR
/-- how two texts stand -/
def cmpS (a b : List UInt8) : Int := if Op.bytesLess a b = true then -1 else if (Op.bytesLess a b || a == b) = true then 0 else 1
def cmpF : List AV → Option AV
  | [.str a, .str b] => some (.int .i64 (cmpS a b))
  | _ => none
theorem cmp_walk (args : List AV) (v : AV) (e : cmpF args = some v) : plainV v = true ∧ ∀ h : H, h.Wf → WCall (EL []) n_cmp_Compare_string args h (fun r _ => r = .val v) := by
  unfold cmpF at e
  split at e
  case h_2 => cases e
  rename_i a b
  cases e
  refine ⟨rfl, fun h wf => ?_⟩
  have nan : ∀ (x : List UInt8), WCall (EL []) n_cmp_isNaN_string [.str x] h fun r h' => r = .val (.bool false) ∧ h' = h := by
    intro x
    refine WCall_ws ((EL_ov _ _).trans rfl) (EL_T T_cmp_isNaN_string) (by simp [cmp_isNaN_string_a]) ?_
    refine WS_of_seq (WS_of_ops ?_)
    simp only [cmp_isNaN_string_r0, go_sem, ↓reduceIte, Nat.reduceEqDiff]
    refine WS_of_seq (WS_of_ops ?_)
    simp only [cmp_isNaN_string_r1, go_sem, ↓reduceIte, Nat.reduceEqDiff, enterS, List.getD_cons_zero, List.getD_cons_succ]
    refine WS_of_ret ?_
    simp only [go_sem, ↓reduceIte, Nat.reduceEqDiff, cmp_isNaN_string_a]
    simp
  refine WCall_ws ((EL_ov _ _).trans rfl) (EL_T T_cmp_Compare_string) (by simp [cmp_Compare_string_a]) ?_
  refine WS_of_seq (WS_of_ops ?_)
  simp only [cmp_Compare_string_r0, go_sem, ↓reduceIte, Nat.reduceEqDiff]
  refine WS_of_seq (WS_of_ops ?_)
  simp only [cmp_Compare_string_r1, go_sem, ↓reduceIte, Nat.reduceEqDiff, enterS, List.getD_cons_zero, List.getD_cons_succ]
  refine (nan a).mono ?_
  rintro _ _ ⟨rfl, rfl⟩
  simp only [go_sem, ↓reduceIte, Nat.reduceEqDiff]
  refine WS_of_seq (WS_of_ops ?_)
  simp only [cmp_Compare_string_r2, go_sem, ↓reduceIte, Nat.reduceEqDiff, enterS, List.getD_cons_zero, List.getD_cons_succ]
  refine (nan b).mono ?_
  rintro _ _ ⟨rfl, rfl⟩
  simp only [go_sem, ↓reduceIte, Nat.reduceEqDiff]
  refine WS_of_seq (WS_of_seq (WS_of_ops ?_))
  simp only [cmp_Compare_string_r3, go_sem, ↓reduceIte, Nat.reduceEqDiff]
  refine WS_of_cond ?_
  simp only [go_sem, ↓reduceIte, Nat.reduceEqDiff, Bool.false_eq_true]
  refine WS_of_skip ?_
  simp only [go_sem]
  refine WS_of_seq (WS_of_seq (WS_of_ops ?_))
  simp only [cmp_Compare_string_r7, go_sem, ↓reduceIte, Nat.reduceEqDiff]
  refine WS_of_cond ?_
  simp only [go_sem, ↓reduceIte, Nat.reduceEqDiff, Bool.false_eq_true]
  refine WS_of_skip ?_
  simp only [go_sem]
  refine WS_of_seq (WS_of_seq (WS_of_ops ?_))
  simp only [cmp_Compare_string_r9, go_sem, ↓reduceIte, Nat.reduceEqDiff, enterS, List.getD_cons_zero, List.getD_cons_succ]
  refine WS_of_cond ?_
  simp only [go_sem, ↓reduceIte, Nat.reduceEqDiff]
  cases h1 : Op.bytesLess a b
  case true =>
    simp only [↓reduceIte]
    refine WS_of_seq (WS_of_ops ?_)
    simp only [cmp_Compare_string_r10, go_sem, ↓reduceIte, Nat.reduceEqDiff]
    refine WS_of_ret ?_
    simp only [go_sem, ↓reduceIte, Nat.reduceEqDiff, cmp_Compare_string_a]
    simp [cmpS, h1]
  simp only [Bool.false_eq_true, ↓reduceIte]
  refine WS_of_skip ?_
  simp only [go_sem]
  refine WS_of_seq (WS_of_seq (WS_of_ops ?_))
  simp only [cmp_Compare_string_r11, go_sem, ↓reduceIte, Nat.reduceEqDiff, enterS, List.getD_cons_zero, List.getD_cons_succ]
  refine WS_of_cond ?_
  simp only [go_sem, ↓reduceIte, Nat.reduceEqDiff, h1, Bool.false_or]
  cases h2 : (a == b)
  case false =>
    simp only [Bool.not_false, ↓reduceIte]
    refine WS_of_seq (WS_of_ops ?_)
    simp only [cmp_Compare_string_r12, go_sem, ↓reduceIte, Nat.reduceEqDiff]
    refine WS_of_ret ?_
    simp only [go_sem, ↓reduceIte, Nat.reduceEqDiff, cmp_Compare_string_a]
    simp only [cmpS, h1, h2]; simp
  simp only [Bool.not_true, Bool.false_eq_true, ↓reduceIte]
  refine WS_of_skip ?_
  simp only [go_sem]
  refine WS_of_seq (WS_of_ops ?_)
  simp only [cmp_Compare_string_r13, go_sem, ↓reduceIte, Nat.reduceEqDiff]
  refine WS_of_ret ?_
  simp only [go_sem, ↓reduceIte, Nat.reduceEqDiff, cmp_Compare_string_a]
  simp only [cmpS, h1, h2]; simp
def idxF : List AV → Option AV
  | [.str s, .str [c]] => some (.int .i64 (idxB s c 0))
  | _ => none
theorem idx_walk (args : List AV) (v : AV) (e : idxF args = some v) : plainV v = true ∧ ∀ h : H, h.Wf → WCall (EL []) n_strings_Index args h (fun r _ => r = .val v) := by
  unfold idxF at e
  split at e
  case h_2 => cases e
  rename_i s c
  cases e
  refine ⟨rfl, fun h wf => ?_⟩
  refine WCall_ws ((EL_ov _ _).trans rfl) (EL_T T_strings_Index) (by simp [strings_Index_a]) ?_
  refine WS_of_seq (WS_of_ops ?_)
  simp only [strings_Index_r0, go_sem, ↓reduceIte, Nat.reduceEqDiff]
  refine WS_of_seq (WS_of_ops ?_)
  simp only [strings_Index_r1, go_sem, ↓reduceIte, Nat.reduceEqDiff, enterS, List.getD_cons_zero, List.getD_cons_succ]
  refine (index1_spec std1' s c h).mono ?_
  rintro _ _ ⟨rfl, rfl⟩
  simp only [go_sem, ↓reduceIte, Nat.reduceEqDiff]
  refine WS_of_ret ?_
  simp only [go_sem, ↓reduceIte, Nat.reduceEqDiff, strings_Index_a]
def cntBF : List AV → Option AV
  | [.str s, .str [c]] => some (.int .i64 (countB s c : Int))
  | _ => none
theorem cntB_walk (args : List AV) (v : AV) (e : cntBF args = some v) : plainV v = true ∧ ∀ h : H, h.Wf → WCall (EL []) n_strings_Count args h (fun r _ => r = .val v) := by
  unfold cntBF at e
  split at e
  case h_2 => cases e
  rename_i s c
  cases e
  refine ⟨rfl, fun h wf => ?_⟩
  refine WCall_ws ((EL_ov _ _).trans rfl) (EL_T T_strings_Count) (by simp [strings_Count_a]) ?_
  refine WS_of_seq (WS_of_ops ?_)
  simp only [strings_Count_r0, go_sem, ↓reduceIte, Nat.reduceEqDiff]
  refine WS_of_seq (WS_of_seq (WS_of_ops ?_))
  simp only [strings_Count_r1, go_sem, ↓reduceIte, Nat.reduceEqDiff, enterS, List.getD_cons_zero, List.getD_cons_succ, lenTA, Option.map_some, List.length_cons, List.length_nil, Nat.zero_add, show ¬ (((1 : Nat) : Int) = 0) by decide, decide_false]
  refine WS_of_cond ?_
  simp only [go_sem, ↓reduceIte, Nat.reduceEqDiff, Bool.false_eq_true]
  refine WS_of_skip ?_
  simp only [go_sem]
  refine WS_of_seq (WS_of_seq (WS_of_ops ?_))
  simp only [strings_Count_r3, go_sem, ↓reduceIte, Nat.reduceEqDiff, enterS, List.getD_cons_zero, List.getD_cons_succ, lenTA, Option.map_some, List.length_cons, List.length_nil, Nat.zero_add, show (((1 : Nat) : Int) = 1) by decide, decide_true]
  refine WS_of_cond ?_
  simp only [go_sem, ↓reduceIte, Nat.reduceEqDiff]
  refine WS_of_seq (WS_of_ops ?_)
  have hi : indexStrA (.str [c]) (.int .i64 0) = some (.int .u8 (c.toNat : Int)) := by simp [indexStrA]
  simp only [strings_Count_r4, go_sem, ↓reduceIte, Nat.reduceEqDiff, enterS, List.getD_cons_zero, List.getD_cons_succ, hi]
  refine WCall_ov (g := cntG) std1'.count rfl ?_
  simp only [go_sem, ↓reduceIte, Nat.reduceEqDiff]
  refine WS_of_ret ?_
  simp only [go_sem, ↓reduceIte, Nat.reduceEqDiff, strings_Count_a]
  simp
def LA : List Ovr := (n_glyph_Name, pureO nmF) :: (n_strings_Cut, pureO cutF) :: (n_doormanref02_Name, pureO nmF) :: (n_doormanref12_cut, pureO rcutF) :: (n_cmp_Compare_string, pureO cmpF) :: (n_strings_Index, pureO idxF) :: (n_strings_Count, pureO cntBF) :: L4
end Go.Proofs.YtgjcdpanabjcmaaGreatDoor.Ev.C

/- Nodes and tuples: what is small of them. -/
namespace Go.Proofs.YtgjcdpanabjcmaaGreatDoor.Ev.C
open Go Go.Proofs.YtgjcdpanabjcmaaGreatDoor.Ev
set_option linter.unusedSimpArgs false
set_option linter.unusedVariables false
abbrev T8 := List UInt8
/-- functions of a node -/
def ndF (F : T8 → T8 → T8 → AV) : List AV → Option AV
  | [.agg [.str a, .str b, .str c]] => if a.length < 1000000 ∧ b.length < 1000000 ∧ c.length < 1000000 then some (F a b c) else none
  | _ => none
theorem ndF_walk {L : List Ovr} {f : Nat} {F : T8 → T8 → T8 → AV} (hp : ∀ a b c, plainV (F a b c) = true)
    (w : ∀ (a b c : T8), a.length < 1000000 → b.length < 1000000 → c.length < 1000000 → ∀ h : H, h.Wf → WCall (EL L) f [.agg [.str a, .str b, .str c]] h fun r _ => r = .val (F a b c))
    (args : List AV) (v : AV) (e : ndF F args = some v) : plainV v = true ∧ ∀ h : H, h.Wf → WCall (EL L) f args h (fun r _ => r = .val v) := by
  unfold ndF at e
  split at e
  case h_2 => cases e
  rename_i a b c
  split at e
  case isFalse => cases e
  rename_i hc
  cases e
  exact ⟨hp a b c, fun h wf => w a b c hc.1 hc.2.1 hc.2.2 h wf⟩
theorem ndF_at {L : List Ovr} {f : Nat} {F : T8 → T8 → T8 → AV} (ho : ovP ov1 L f = some (pureO (ndF F))) {a b c : T8} (ha : a.length < 1000000) (hb : b.length < 1000000) (hc : c.length < 1000000) {h : H} {R : AOut → H → Prop} (hR : R (.val (F a b c)) h) :
    WCall (EL L) f [.agg [.str a, .str b, .str c]] h R :=
  EL_call ho (by unfold ndF; simp only; rw [if_pos ⟨ha, hb, hc⟩]) hR
/-- functions of a tuple -/
def tpF (F : T8 → T8 → T8 → T8 → T8 → T8 → AV) : List AV → Option AV
  | [.agg [.str a, .str b, .str c, .str d, .str e, .str f]] => if (a.length < 1000000 ∧ b.length < 1000000 ∧ c.length < 1000000) ∧ d.length < 1000000 ∧ e.length < 1000000 ∧ f.length < 1000000 then some (F a b c d e f) else none
  | _ => none
theorem tpF_walk {L : List Ovr} {f : Nat} {F : T8 → T8 → T8 → T8 → T8 → T8 → AV} (hp : ∀ a b c d e f, plainV (F a b c d e f) = true)
    (w : ∀ (a b c d e g : T8), (a.length < 1000000 ∧ b.length < 1000000 ∧ c.length < 1000000) → (d.length < 1000000 ∧ e.length < 1000000 ∧ g.length < 1000000) → ∀ h : H, h.Wf → WCall (EL L) f [.agg [.str a, .str b, .str c, .str d, .str e, .str g]] h fun r _ => r = .val (F a b c d e g))
    (args : List AV) (v : AV) (e : tpF F args = some v) : plainV v = true ∧ ∀ h : H, h.Wf → WCall (EL L) f args h (fun r _ => r = .val v) := by
  unfold tpF at e
  split at e
  case h_2 => cases e
  rename_i a b c d e' g
  split at e
  case isFalse => cases e
  rename_i hc
  cases e
  exact ⟨hp _ _ _ _ _ _, fun h wf => w a b c d e' g hc.1 hc.2 h wf⟩
theorem tpF_at {L : List Ovr} {f : Nat} {F : T8 → T8 → T8 → T8 → T8 → T8 → AV} (ho : ovP ov1 L f = some (pureO (tpF F))) {a b c d e g : T8} (h1 : a.length < 1000000 ∧ b.length < 1000000 ∧ c.length < 1000000) (h2 : d.length < 1000000 ∧ e.length < 1000000 ∧ g.length < 1000000) {h : H} {R : AOut → H → Prop} (hR : R (.val (F a b c d e g)) h) :
    WCall (EL L) f [.agg [.str a, .str b, .str c, .str d, .str e, .str g]] h R :=
  EL_call ho (by unfold tpF; simp only; rw [if_pos ⟨h1, h2⟩]) hR
/-- a node as a text -/
def showN (a b c : T8) : T8 := a ++ [58] ++ b ++ (if c = [] then [] else 35 :: c)
def showF : List AV → Option AV := ndF fun a b c => .str (showN a b c)
theorem show_walk (a b c : T8) (ha : a.length < 1000000) (hb : b.length < 1000000) (hc : c.length < 1000000) (h : H) (wf : h.Wf) : WCall (EL LA) n_tuple_Show [.agg [.str a, .str b, .str c]] h fun r _ => r = .val (.str (showN a b c)) := by
  have bx := Box.new wf [.str a, .str b, .str c]
  have l0 : loadA (h.new [.str a, .str b, .str c]) false 1 (.ptr h.n 0) = some (.str a) := bx.load 1 0
  have l1 : loadA (h.new [.str a, .str b, .str c]) false 1 (.ptr h.n 1) = some (.str b) := bx.load 1 1
  have l2 : loadA (h.new [.str a, .str b, .str c]) false 1 (.ptr h.n 2) = some (.str c) := bx.load 1 2
  have e1 : a.length + ([58] : T8).length ≤ big := by simp [big]; omega
  have e2 : (a ++ [58]).length + b.length ≤ big := by simp [big]; omega
  have e3 : ([35] : T8).length + c.length ≤ big := by simp [big]; omega
  have e4 : (a ++ [58] ++ b).length + ([35] ++ c).length ≤ big := by simp [big]; omega
  refine WCall_ws ((EL_ov _ _).trans rfl) (EL_T T_tuple_Show) (by simp [tuple_Show_a]) ?_
  refine WS_of_seq (WS_of_ops ?_)
  simp only [tuple_Show_r0, go_sem, ↓reduceIte, Nat.reduceEqDiff, enterS, List.getD_cons_zero, List.getD_cons_succ]
  refine WS_of_seq (WS_of_ops ?_)
  simp only [AV.cells, tuple_Show_r1, go_sem, ↓reduceIte, Nat.reduceEqDiff, fieldAddrA, Nat.zero_add, Nat.reduceAdd, l0, l1, e1, e2]
  refine WS_of_seq (WS_of_seq (WS_of_ops ?_))
  simp only [tuple_Show_r2, go_sem, ↓reduceIte, Nat.reduceEqDiff, fieldAddrA, Nat.zero_add, Nat.reduceAdd, l2]
  refine WS_of_cond ?_
  simp only [go_sem, ↓reduceIte, Nat.reduceEqDiff]
  by_cases h0 : c = []
  · simp only [h0, decide_true, Bool.not_true, Bool.false_eq_true, ↓reduceIte]
    refine WS_of_skip ?_
    simp only [go_sem]
    refine WS_of_seq (WS_of_ops ?_)
    simp only [tuple_Show_r4, go_sem, ↓reduceIte, Nat.reduceEqDiff]
    refine WS_of_ret ?_
    simp only [go_sem, ↓reduceIte, Nat.reduceEqDiff, tuple_Show_a]
    simp [showN]
  · simp only [h0, decide_false, Bool.not_false, ↓reduceIte]
    refine WS_of_ops ?_
    simp only [tuple_Show_r3, go_sem, ↓reduceIte, Nat.reduceEqDiff, fieldAddrA, Nat.zero_add, Nat.reduceAdd, l2, e3, e4]
    refine WS_of_seq (WS_of_ops ?_)
    simp only [tuple_Show_r4, go_sem, ↓reduceIte, Nat.reduceEqDiff]
    refine WS_of_ret ?_
    simp only [go_sem, ↓reduceIte, Nat.reduceEqDiff, tuple_Show_a]
    simp [showN, h0]
theorem rshow_walk (a b c : T8) (ha : a.length < 1000000) (hb : b.length < 1000000) (hc : c.length < 1000000) (h : H) (wf : h.Wf) : WCall (EL LA) n_doormanref12_Show [.agg [.str a, .str b, .str c]] h fun r _ => r = .val (.str (showN a b c)) := by
  have bx := Box.new wf [.str a, .str b, .str c]
  have l0 : loadA (h.new [.str a, .str b, .str c]) false 1 (.ptr h.n 0) = some (.str a) := bx.load 1 0
  have l1 : loadA (h.new [.str a, .str b, .str c]) false 1 (.ptr h.n 1) = some (.str b) := bx.load 1 1
  have l2 : loadA (h.new [.str a, .str b, .str c]) false 1 (.ptr h.n 2) = some (.str c) := bx.load 1 2
  have e1 : a.length + ([58] : T8).length ≤ big := by simp [big]; omega
  have e2 : (a ++ [58]).length + b.length ≤ big := by simp [big]; omega
  have e3 : (a ++ [58] ++ b).length + ([35] : T8).length ≤ big := by simp [big]; omega
  have e4 : (a ++ [58] ++ b ++ [35]).length + c.length ≤ big := by simp [big]; omega
  refine WCall_ws ((EL_ov _ _).trans rfl) (EL_T T_doormanref12_Show) (by simp [doormanref12_Show_a]) ?_
  refine WS_of_seq (WS_of_ops ?_)
  simp only [doormanref12_Show_r0, go_sem, ↓reduceIte, Nat.reduceEqDiff, enterS, List.getD_cons_zero, List.getD_cons_succ]
  refine WS_of_seq (WS_of_seq (WS_of_ops ?_))
  simp only [AV.cells, doormanref12_Show_r1, go_sem, ↓reduceIte, Nat.reduceEqDiff, fieldAddrA, Nat.zero_add, Nat.reduceAdd, l2]
  refine WS_of_cond ?_
  simp only [go_sem, ↓reduceIte, Nat.reduceEqDiff]
  by_cases h0 : c = []
  · simp only [h0, decide_true, ↓reduceIte]
    subst h0
    refine WS_of_seq (WS_of_ops ?_)
    simp only [doormanref12_Show_r2, go_sem, ↓reduceIte, Nat.reduceEqDiff, fieldAddrA, Nat.zero_add, Nat.reduceAdd, l0, l1, e1, e2]
    refine WS_of_ret ?_
    simp only [go_sem, ↓reduceIte, Nat.reduceEqDiff, doormanref12_Show_a]
    simp [showN]
  · simp only [h0, decide_false, Bool.false_eq_true, ↓reduceIte]
    refine WS_of_skip ?_
    simp only [go_sem]
    refine WS_of_seq (WS_of_ops ?_)
    simp only [doormanref12_Show_r3, go_sem, ↓reduceIte, Nat.reduceEqDiff, fieldAddrA, Nat.zero_add, Nat.reduceAdd, l0, l1, l2, e1, e2, e3, e4]
    refine WS_of_ret ?_
    simp only [go_sem, ↓reduceIte, Nat.reduceEqDiff, doormanref12_Show_a]
    simp [showN, h0]
/-- is a node well formed? -/
def formedN (a b c : T8) : Bool := nameG a && (nameG b && (decide (c = []) || nameG c))
def formedF : List AV → Option AV := ndF fun a b c => .bool (formedN a b c)
theorem formed_walk (a b c : T8) (ha : a.length < 1000000) (hb : b.length < 1000000) (hc : c.length < 1000000) (h : H) (wf : h.Wf) : WCall (EL LA) n_tuple_formed [.agg [.str a, .str b, .str c]] h fun r _ => r = .val (.bool (formedN a b c)) := by
  have bx := Box.new wf [.str a, .str b, .str c]
  have l0 : loadA (h.new [.str a, .str b, .str c]) false 1 (.ptr h.n 0) = some (.str a) := bx.load 1 0
  have l1 : loadA (h.new [.str a, .str b, .str c]) false 1 (.ptr h.n 1) = some (.str b) := bx.load 1 1
  have l2 : loadA (h.new [.str a, .str b, .str c]) false 1 (.ptr h.n 2) = some (.str c) := bx.load 1 2
  refine WCall_ws ((EL_ov _ _).trans rfl) (EL_T T_tuple_formed) (by simp [tuple_formed_a]) ?_
  refine WS_of_seq (WS_of_ops ?_)
  simp only [tuple_formed_r0, go_sem, ↓reduceIte, Nat.reduceEqDiff, enterS, List.getD_cons_zero, List.getD_cons_succ]
  refine WS_of_seq (WS_of_ops ?_)
  simp only [AV.cells, tuple_formed_r1, go_sem, ↓reduceIte, Nat.reduceEqDiff, fieldAddrA, Nat.zero_add, Nat.reduceAdd, l0, enterS, List.getD_cons_zero, List.getD_cons_succ]
  refine txF_at (F := fun s => .bool (nameG s)) rfl (by omega) ?_
  simp only [go_sem, ↓reduceIte, Nat.reduceEqDiff]
  cases h1 : nameG a
  · simp only [go_sem, ↓reduceIte, Nat.reduceEqDiff, wanted, decide_true, decide_false, beq_self_eq_true, pickA, show (false == true) = false from rfl, show (true == false) = false from rfl, Bool.false_eq_true, undefA, Bool.not_true, Bool.not_false]
    refine WS_of_ret ?_
    simp only [go_sem, ↓reduceIte, Nat.reduceEqDiff, tuple_formed_a]
    simp [formedN, h1]
  simp only [go_sem, ↓reduceIte, Nat.reduceEqDiff, wanted, decide_true, decide_false, beq_self_eq_true, pickA, show (false == true) = false from rfl, show (true == false) = false from rfl, Bool.false_eq_true, undefA, Bool.not_true, Bool.not_false, fieldAddrA, Nat.zero_add, Nat.reduceAdd, l1, enterS, List.getD_cons_zero, List.getD_cons_succ]
  refine txF_at (F := fun s => .bool (nameG s)) rfl (by omega) ?_
  cases h2 : nameG b
  · simp only [go_sem, ↓reduceIte, Nat.reduceEqDiff, wanted, decide_true, decide_false, beq_self_eq_true, pickA, show (false == true) = false from rfl, show (true == false) = false from rfl, Bool.false_eq_true, undefA, Bool.not_true, Bool.not_false]
    refine WS_of_ret ?_
    simp only [go_sem, ↓reduceIte, Nat.reduceEqDiff, tuple_formed_a]
    simp [formedN, h1, h2]
  simp only [go_sem, ↓reduceIte, Nat.reduceEqDiff, wanted, decide_true, decide_false, beq_self_eq_true, pickA, show (false == true) = false from rfl, show (true == false) = false from rfl, Bool.false_eq_true, undefA, Bool.not_true, Bool.not_false, fieldAddrA, Nat.zero_add, Nat.reduceAdd, l2]
  by_cases h3 : c = []
  · simp only [h3, go_sem, ↓reduceIte, Nat.reduceEqDiff, wanted, decide_true, decide_false, beq_self_eq_true, pickA, show (false == true) = false from rfl, show (true == false) = false from rfl, Bool.false_eq_true, undefA, Bool.not_true, Bool.not_false]
    refine WS_of_ret ?_
    simp only [go_sem, ↓reduceIte, Nat.reduceEqDiff, tuple_formed_a]
    simp [formedN, h1, h2]
  simp only [h3, go_sem, ↓reduceIte, Nat.reduceEqDiff, wanted, decide_true, decide_false, beq_self_eq_true, pickA, show (false == true) = false from rfl, show (true == false) = false from rfl, Bool.false_eq_true, undefA, Bool.not_true, Bool.not_false, fieldAddrA, Nat.zero_add, Nat.reduceAdd, l2, enterS, List.getD_cons_zero, List.getD_cons_succ]
  refine txF_at (F := fun s => .bool (nameG s)) rfl (by omega) ?_
  simp only [go_sem, ↓reduceIte, Nat.reduceEqDiff, wanted, decide_true, decide_false, beq_self_eq_true, pickA, show (false == true) = false from rfl, show (true == false) = false from rfl, Bool.false_eq_true, undefA, Bool.not_true, Bool.not_false]
  refine WS_of_ret ?_
  simp only [go_sem, ↓reduceIte, Nat.reduceEqDiff, tuple_formed_a]
  simp [formedN, h1, h2, h3]
theorem rformed_walk (a b c : T8) (ha : a.length < 1000000) (hb : b.length < 1000000) (hc : c.length < 1000000) (h : H) (wf : h.Wf) : WCall (EL LA) n_doormanref12_Formed [.agg [.str a, .str b, .str c]] h fun r _ => r = .val (.bool (formedN a b c)) := by
  have bx := Box.new wf [.str a, .str b, .str c]
  have l0 : loadA (h.new [.str a, .str b, .str c]) false 1 (.ptr h.n 0) = some (.str a) := bx.load 1 0
  have l1 : loadA (h.new [.str a, .str b, .str c]) false 1 (.ptr h.n 1) = some (.str b) := bx.load 1 1
  have l2 : loadA (h.new [.str a, .str b, .str c]) false 1 (.ptr h.n 2) = some (.str c) := bx.load 1 2
  refine WCall_ws ((EL_ov _ _).trans rfl) (EL_T T_doormanref12_Formed) (by simp [doormanref12_Formed_a]) ?_
  refine WS_of_seq (WS_of_ops ?_)
  simp only [doormanref12_Formed_r0, go_sem, ↓reduceIte, Nat.reduceEqDiff, enterS, List.getD_cons_zero, List.getD_cons_succ]
  refine WS_of_seq (WS_of_ops ?_)
  simp only [AV.cells, doormanref12_Formed_r1, go_sem, ↓reduceIte, Nat.reduceEqDiff, fieldAddrA, Nat.zero_add, Nat.reduceAdd, l0, enterS, List.getD_cons_zero, List.getD_cons_succ]
  refine txF_at (F := fun s => .bool (nameG s)) rfl (by omega) ?_
  simp only [go_sem, ↓reduceIte, Nat.reduceEqDiff]
  refine WS_of_seq (WS_of_ops ?_)
  simp only [doormanref12_Formed_r2, go_sem, ↓reduceIte, Nat.reduceEqDiff, fieldAddrA, Nat.zero_add, Nat.reduceAdd, l1, enterS, List.getD_cons_zero, List.getD_cons_succ]
  refine txF_at (F := fun s => .bool (nameG s)) rfl (by omega) ?_
  simp only [go_sem, ↓reduceIte, Nat.reduceEqDiff]
  refine WS_of_seq (WS_of_ops ?_)
  simp only [doormanref12_Formed_r3, go_sem, ↓reduceIte, Nat.reduceEqDiff, fieldAddrA, Nat.zero_add, Nat.reduceAdd, l2, enterS, List.getD_cons_zero, List.getD_cons_succ]
  refine txF_at (F := fun s => .bool (nameG s)) rfl (by omega) ?_
  simp only [go_sem, ↓reduceIte, Nat.reduceEqDiff]
  refine WS_of_seq (WS_of_ops ?_)
  cases h1 : nameG a
  · simp only [doormanref12_Formed_r4, go_sem, ↓reduceIte, Nat.reduceEqDiff, wanted, decide_true, decide_false, beq_self_eq_true, pickA, show (false == true) = false from rfl, show (true == false) = false from rfl, Bool.false_eq_true, undefA, Bool.not_true, Bool.not_false]
    refine WS_of_ret ?_
    simp only [go_sem, ↓reduceIte, Nat.reduceEqDiff, doormanref12_Formed_a]
    simp [formedN, h1]
  cases h2 : nameG b
  · simp only [doormanref12_Formed_r4, go_sem, ↓reduceIte, Nat.reduceEqDiff, wanted, decide_true, decide_false, beq_self_eq_true, pickA, show (false == true) = false from rfl, show (true == false) = false from rfl, Bool.false_eq_true, undefA, Bool.not_true, Bool.not_false]
    refine WS_of_ret ?_
    simp only [go_sem, ↓reduceIte, Nat.reduceEqDiff, doormanref12_Formed_a]
    simp [formedN, h1, h2]
  cases h3 : nameG c
  · simp only [doormanref12_Formed_r4, go_sem, ↓reduceIte, Nat.reduceEqDiff, wanted, decide_true, decide_false, beq_self_eq_true, pickA, show (false == true) = false from rfl, show (true == false) = false from rfl, Bool.false_eq_true, undefA, Bool.not_true, Bool.not_false, fieldAddrA, Nat.zero_add, Nat.reduceAdd, l2]
    refine WS_of_ret ?_
    simp only [go_sem, ↓reduceIte, Nat.reduceEqDiff, doormanref12_Formed_a]
    simp [formedN, h1, h2, h3]
  · simp only [doormanref12_Formed_r4, go_sem, ↓reduceIte, Nat.reduceEqDiff, wanted, decide_true, decide_false, beq_self_eq_true, pickA, show (false == true) = false from rfl, show (true == false) = false from rfl, Bool.false_eq_true, undefA, Bool.not_true, Bool.not_false]
    refine WS_of_ret ?_
    simp only [go_sem, ↓reduceIte, Nat.reduceEqDiff, doormanref12_Formed_a]
    simp [formedN, h1, h2, h3]
end Go.Proofs.YtgjcdpanabjcmaaGreatDoor.Ev.C

/- Nodes and tuples as texts. -/
namespace Go.Proofs.YtgjcdpanabjcmaaGreatDoor.Ev.C
open Go Go.Proofs.YtgjcdpanabjcmaaGreatDoor.Ev
set_option linter.unusedSimpArgs false
set_option linter.unusedVariables false
def rformedF : List AV → Option AV := formedF
def LB : List Ovr := (n_tuple_Show, pureO showF) :: (n_doormanref12_Show, pureO showF) :: (n_tuple_formed, pureO formedF) :: (n_doormanref12_Formed, pureO formedF) :: LA
theorem cutS_len (s : T8) (c : UInt8) : (cutS s c).1.length ≤ s.length ∧ (cutS s c).2.1.length ≤ s.length := by
  rcases cut_idx s c 0 with ⟨_, h⟩ | ⟨i, hi, _, h⟩
  · rw [h]; simp
  · rw [h]; simp; omega
/-- functions of a text that is not too long -/
def tx6F (F : List UInt8 → AV) : List AV → Option AV
  | [.str s] => if s.length < 1000000 then some (F s) else none
  | _ => none
theorem tx6F_walk {L : List Ovr} {f : Nat} {F : List UInt8 → AV} (hp : ∀ s, plainV (F s) = true) (w : ∀ (s : List UInt8), s.length < 1000000 → ∀ h : H, h.Wf → WCall (EL L) f [.str s] h fun r _ => r = .val (F s))
    (args : List AV) (v : AV) (e : tx6F F args = some v) : plainV v = true ∧ ∀ h : H, h.Wf → WCall (EL L) f args h (fun r _ => r = .val v) := by
  unfold tx6F at e
  split at e
  case h_2 => cases e
  rename_i s
  split at e
  case isFalse => cases e
  rename_i hc
  cases e
  exact ⟨hp s, fun h wf => w s hc h wf⟩
theorem tx6F_at {L : List Ovr} {f : Nat} {F : List UInt8 → AV} (ho : ovP ov1 L f = some (pureO (tx6F F))) {s : List UInt8} (hl : s.length < 1000000) {h : H} {R : AOut → H → Prop} (hR : R (.val (F s)) h) : WCall (EL L) f [.str s] h R :=
  EL_call ho (by unfold tx6F; simp only; rw [if_pos hl]) hR
abbrev Nd := T8 × T8 × T8
def ndV (n : Nd) : AV := .agg [.str n.1, .str n.2.1, .str n.2.2]
/-- a text's node -/
def readN (s : T8) : Option Nd :=
  if formedN (cutS (cutS s 35).1 58).1 (cutS (cutS s 35).1 58).2.1 (cutS s 35).2.1 = true ∧ showN (cutS (cutS s 35).1 58).1 (cutS (cutS s 35).1 58).2.1 (cutS s 35).2.1 = s then
    some ((cutS (cutS s 35).1 58).1, (cutS (cutS s 35).1 58).2.1, (cutS s 35).2.1) else none
def readV (s : T8) : AV := match readN s with
  | some n => .tup [ndV n, .int .i64 0]
  | none => .tup [ndV ([], [], []), .int .i64 11]
theorem readV_plain (s : T8) : plainV (readV s) = true := by unfold readV; split <;> rfl
theorem afill3 (a b c : T8) : afill [AV.str [], .str [], .str []] [(0, 1, .str a), (1, 1, .str b), (2, 1, .str c)] = some [.str a, .str b, .str c] := rfl
theorem afill30 : afill [AV.str [], .str [], .str []] [] = some [.str [], .str [], .str []] := rfl
theorem afill6 (a b c d e f : T8) : afill [AV.str [], .str [], .str [], .str [], .str [], .str []] [(0, 3, .agg [.str a, .str b, .str c]), (3, 3, .agg [.str d, .str e, .str f])] = some [.str a, .str b, .str c, .str d, .str e, .str f] := rfl
theorem afill60 : afill [AV.str [], .str [], .str [], .str [], .str [], .str []] [] = some [.str [], .str [], .str [], .str [], .str [], .str []] := rfl
theorem afill66 (a b c d e f : T8) : afill [AV.str [], .str [], .str [], .str [], .str [], .str []] [(0, 1, .str a), (1, 1, .str b), (2, 1, .str c), (3, 1, .str d), (4, 1, .str e), (5, 1, .str f)] = some [.str a, .str b, .str c, .str d, .str e, .str f] := rfl
theorem read_walk (s : T8) (hl : s.length < 1000000) (h : H) (wf : h.Wf) : WCall (EL LB) n_tuple_Read [.str s] h fun r _ => r = .val (readV s) := by
  have k1 := cutS_len s 35
  have k2 := cutS_len (cutS s 35).1 58
  refine WCall_ws ((EL_ov _ _).trans rfl) (EL_T T_tuple_Read) (by simp [tuple_Read_a]) ?_
  refine WS_of_seq (WS_of_ops ?_)
  simp only [tuple_Read_r0, go_sem, ↓reduceIte, Nat.reduceEqDiff, enterS, List.getD_cons_zero, List.getD_cons_succ]
  have b1 := Box.new wf [.str [], .str [], .str []]
  have wf1 := wf.new [.str [], .str [], .str []]
  have hn1 : (h.new [.str [], .str [], .str []]).n = h.n + 1 := rfl
  generalize h.new [.str [], .str [], .str []] = g1 at b1 wf1 hn1
  refine WS_of_seq (WS_of_ops ?_)
  simp only [tuple_Read_r1, go_sem, ↓reduceIte, Nat.reduceEqDiff, enterS, List.getD_cons_zero, List.getD_cons_succ]
  refine cut_at rfl (by omega) ?_
  simp only [go_sem, ↓reduceIte, Nat.reduceEqDiff, extractA, List.getElem?_cons_zero, List.getElem?_cons_succ]
  refine WS_of_seq (WS_of_ops ?_)
  simp only [tuple_Read_r2, go_sem, ↓reduceIte, Nat.reduceEqDiff, enterS, List.getD_cons_zero, List.getD_cons_succ]
  refine cut_at rfl (by omega) ?_
  simp only [go_sem, ↓reduceIte, Nat.reduceEqDiff, extractA, List.getElem?_cons_zero, List.getElem?_cons_succ]
  have hN : readV s = match (if formedN (cutS (cutS s 35).1 58).1 (cutS (cutS s 35).1 58).2.1 (cutS s 35).2.1 = true ∧ showN (cutS (cutS s 35).1 58).1 (cutS (cutS s 35).1 58).2.1 (cutS s 35).2.1 = s then
    some ((cutS (cutS s 35).1 58).1, (cutS (cutS s 35).1 58).2.1, (cutS s 35).2.1) else none) with | some n => .tup [ndV n, .int .i64 0] | none => .tup [ndV ([], [], []), .int .i64 11] := rfl
  have ha : (cutS (cutS s 35).1 58).1.length < 1000000 := by omega
  have hb : (cutS (cutS s 35).1 58).2.1.length < 1000000 := by omega
  have hc : (cutS s 35).2.1.length < 1000000 := by omega
  generalize (cutS (cutS s 35).1 58).1 = a at hN ha
  generalize (cutS (cutS s 35).1 58).2.1 = b at hN hb
  generalize (cutS s 35).2.1 = c at hN hc
  have b2 := Box.new wf1 [.str [], .str [], .str []]
  have wf2 := wf1.new [.str [], .str [], .str []]
  have b12 : Box h.n [.str [], .str [], .str []] (g1.new [.str [], .str [], .str []]) := b1.keep (Keep.new (Nat.le_refl _) _) (b1.lt wf1)
  obtain ⟨g3, e3, b3, kk3⟩ := b2.putAll wf2 (n := 3) (vs := [.str a, .str b, .str c]) rfl rfl rfl
  have wf3 := kk3.wf wf2
  have b13 : Box h.n [.str [], .str [], .str []] g3 := b12.keepA wf2 kk3 (by simp; omega)
  refine WS_of_seq (WS_of_ops ?_)
  simp only [tuple_Read_r3, go_sem, ↓reduceIte, Nat.reduceEqDiff, parts, List.map_cons, List.map_nil, afill3, afill30, afill6, afill60, afill66, e3]
  have la : loadA g3 true 3 (.ptr g1.n 0) = some (.agg [.str a, .str b, .str c]) := b3.loadAgg rfl
  have h30 : ∀ (x y z : T8) (n : Int), ∃ g4, storeA g3 3 (.ptr h.n 0) (.agg [.str x, .str y, .str z]) = some g4 ∧ loadA g4 true 3 (.ptr h.n 0) = some (.agg [.str x, .str y, .str z]) := fun x y z n => by
    obtain ⟨g4, e4, b4, _⟩ := b13.putAll wf3 (n := 3) (vs := [.str x, .str y, .str z]) rfl rfl rfl
    exact ⟨g4, e4, b4.loadAgg rfl⟩
  refine WS_of_seq (WS_of_seq (WS_of_ops ?_))
  simp only [tuple_Read_r4, go_sem, ↓reduceIte, Nat.reduceEqDiff, la, enterS, List.getD_cons_zero, List.getD_cons_succ]
  refine ndF_at (F := fun a b c => .bool (formedN a b c)) rfl ha hb hc ?_
  cases h1 : formedN a b c
  · simp only [go_sem, ↓reduceIte, Nat.reduceEqDiff, wanted, decide_true, decide_false, beq_self_eq_true, pickA, show (false == true) = false from rfl, show (true == false) = false from rfl, Bool.false_eq_true, undefA, Bool.not_true, Bool.not_false]
    refine WS_of_cond ?_
    simp only [go_sem, ↓reduceIte, Nat.reduceEqDiff]
    refine WS_of_seq (WS_of_ops ?_)
    obtain ⟨g4, e4, l4⟩ := h30 [] [] [] 0
    simp only [tuple_Read_r5, go_sem, ↓reduceIte, Nat.reduceEqDiff, parts, List.map_cons, List.map_nil, afill3, afill30, afill6, afill60, afill66, e4]
    refine WS_of_ret ?_
    simp only [go_sem, ↓reduceIte, Nat.reduceEqDiff, tuple_Read_a, l4]
    rw [hN]; simp [h1, ndV]
  simp only [go_sem, ↓reduceIte, Nat.reduceEqDiff, wanted, decide_true, decide_false, beq_self_eq_true, pickA, show (false == true) = false from rfl, show (true == false) = false from rfl, Bool.false_eq_true, undefA, Bool.not_true, Bool.not_false, la, enterS, List.getD_cons_zero, List.getD_cons_succ]
  refine ndF_at (F := fun a b c => .str (showN a b c)) rfl ha hb hc ?_
  by_cases h2 : showN a b c = s
  · simp only [go_sem, ↓reduceIte, Nat.reduceEqDiff, wanted, decide_true, decide_false, beq_self_eq_true, pickA, show (false == true) = false from rfl, show (true == false) = false from rfl, Bool.false_eq_true, undefA, Bool.not_true, Bool.not_false, h2]
    refine WS_of_cond ?_
    simp only [go_sem, ↓reduceIte, Nat.reduceEqDiff, Bool.false_eq_true]
    refine WS_of_skip ?_
    simp only [go_sem]
    refine WS_of_seq (WS_of_ops ?_)
    obtain ⟨g4, e4, l4⟩ := h30 a b c 0
    simp only [tuple_Read_r6, go_sem, ↓reduceIte, Nat.reduceEqDiff, la, e4]
    refine WS_of_ret ?_
    simp only [go_sem, ↓reduceIte, Nat.reduceEqDiff, tuple_Read_a, l4]
    rw [hN]; simp [h1, h2, ndV]
  · simp only [go_sem, ↓reduceIte, Nat.reduceEqDiff, wanted, decide_true, decide_false, beq_self_eq_true, pickA, show (false == true) = false from rfl, show (true == false) = false from rfl, Bool.false_eq_true, undefA, Bool.not_true, Bool.not_false, h2]
    refine WS_of_cond ?_
    simp only [go_sem, ↓reduceIte, Nat.reduceEqDiff]
    refine WS_of_seq (WS_of_ops ?_)
    obtain ⟨g4, e4, l4⟩ := h30 [] [] [] 0
    simp only [tuple_Read_r5, go_sem, ↓reduceIte, Nat.reduceEqDiff, parts, List.map_cons, List.map_nil, afill3, afill30, afill6, afill60, afill66, e4]
    refine WS_of_ret ?_
    simp only [go_sem, ↓reduceIte, Nat.reduceEqDiff, tuple_Read_a, l4]
    rw [hN]; simp [h1, h2, ndV]
theorem rread_walk (s : T8) (hl : s.length < 1000000) (h : H) (wf : h.Wf) : WCall (EL LB) n_doormanref12_Read [.str s] h fun r _ => r = .val (readV s) := by
  have k1 := cutS_len s 35
  have k2 := cutS_len (cutS s 35).1 58
  refine WCall_ws ((EL_ov _ _).trans rfl) (EL_T T_doormanref12_Read) (by simp [doormanref12_Read_a]) ?_
  refine WS_of_seq (WS_of_ops ?_)
  simp only [doormanref12_Read_r0, go_sem, ↓reduceIte, Nat.reduceEqDiff, enterS, List.getD_cons_zero, List.getD_cons_succ]
  have b1 := Box.new wf [.str [], .str [], .str []]
  have wf1 := wf.new [.str [], .str [], .str []]
  have hn1 : (h.new [.str [], .str [], .str []]).n = h.n + 1 := rfl
  generalize h.new [.str [], .str [], .str []] = g1 at b1 wf1 hn1
  refine WS_of_seq (WS_of_ops ?_)
  simp only [doormanref12_Read_r1, go_sem, ↓reduceIte, Nat.reduceEqDiff, enterS, List.getD_cons_zero, List.getD_cons_succ]
  refine rcut_at rfl 35 (by omega) ?_
  simp only [go_sem, ↓reduceIte, Nat.reduceEqDiff, extractA, List.getElem?_cons_zero, List.getElem?_cons_succ]
  refine WS_of_seq (WS_of_ops ?_)
  simp only [doormanref12_Read_r2, go_sem, ↓reduceIte, Nat.reduceEqDiff, enterS, List.getD_cons_zero, List.getD_cons_succ]
  refine rcut_at rfl 58 (by omega) ?_
  simp only [go_sem, ↓reduceIte, Nat.reduceEqDiff, extractA, List.getElem?_cons_zero, List.getElem?_cons_succ]
  have hN : readV s = match (if formedN (cutS (cutS s 35).1 58).1 (cutS (cutS s 35).1 58).2.1 (cutS s 35).2.1 = true ∧ showN (cutS (cutS s 35).1 58).1 (cutS (cutS s 35).1 58).2.1 (cutS s 35).2.1 = s then
    some ((cutS (cutS s 35).1 58).1, (cutS (cutS s 35).1 58).2.1, (cutS s 35).2.1) else none) with | some n => .tup [ndV n, .int .i64 0] | none => .tup [ndV ([], [], []), .int .i64 11] := rfl
  have ha : (cutS (cutS s 35).1 58).1.length < 1000000 := by omega
  have hb : (cutS (cutS s 35).1 58).2.1.length < 1000000 := by omega
  have hc : (cutS s 35).2.1.length < 1000000 := by omega
  generalize (cutS (cutS s 35).1 58).1 = a at hN ha
  generalize (cutS (cutS s 35).1 58).2.1 = b at hN hb
  generalize (cutS s 35).2.1 = c at hN hc
  have b2 := Box.new wf1 [.str [], .str [], .str []]
  have wf2 := wf1.new [.str [], .str [], .str []]
  have b12 : Box h.n [.str [], .str [], .str []] (g1.new [.str [], .str [], .str []]) := b1.keep (Keep.new (Nat.le_refl _) _) (b1.lt wf1)
  obtain ⟨g3, e3, b3, kk3⟩ := b2.putAll wf2 (n := 3) (vs := [.str a, .str b, .str c]) rfl rfl rfl
  have wf3 := kk3.wf wf2
  have b13 : Box h.n [.str [], .str [], .str []] g3 := b12.keepA wf2 kk3 (by simp; omega)
  refine WS_of_seq (WS_of_ops ?_)
  simp only [doormanref12_Read_r3, go_sem, ↓reduceIte, Nat.reduceEqDiff, parts, List.map_cons, List.map_nil, afill3, afill30, afill6, afill60, afill66, e3]
  have la : loadA g3 true 3 (.ptr g1.n 0) = some (.agg [.str a, .str b, .str c]) := b3.loadAgg rfl
  have h30 : ∀ (x y z : T8) (n : Int), ∃ g4, storeA g3 3 (.ptr h.n 0) (.agg [.str x, .str y, .str z]) = some g4 ∧ loadA g4 true 3 (.ptr h.n 0) = some (.agg [.str x, .str y, .str z]) := fun x y z n => by
    obtain ⟨g4, e4, b4, _⟩ := b13.putAll wf3 (n := 3) (vs := [.str x, .str y, .str z]) rfl rfl rfl
    exact ⟨g4, e4, b4.loadAgg rfl⟩
  refine WS_of_seq (WS_of_ops ?_)
  simp only [doormanref12_Read_r4, go_sem, ↓reduceIte, Nat.reduceEqDiff, la, enterS, List.getD_cons_zero, List.getD_cons_succ]
  refine ndF_at (F := fun a b c => .bool (formedN a b c)) rfl ha hb hc ?_
  simp only [go_sem, ↓reduceIte, Nat.reduceEqDiff]
  refine WS_of_seq (WS_of_seq (WS_of_ops ?_))
  cases h1 : formedN a b c
  · simp only [doormanref12_Read_r5, go_sem, ↓reduceIte, Nat.reduceEqDiff, wanted, decide_true, decide_false, beq_self_eq_true, pickA, show (false == true) = false from rfl, show (true == false) = false from rfl, Bool.false_eq_true, undefA, Bool.not_true, Bool.not_false]
    refine WS_of_cond ?_
    simp only [go_sem, ↓reduceIte, Nat.reduceEqDiff]
    refine WS_of_seq (WS_of_ops ?_)
    obtain ⟨g4, e4, l4⟩ := h30 [] [] [] 0
    simp only [doormanref12_Read_r6, go_sem, ↓reduceIte, Nat.reduceEqDiff, parts, List.map_cons, List.map_nil, afill3, afill30, afill6, afill60, afill66, e4]
    refine WS_of_ret ?_
    simp only [go_sem, ↓reduceIte, Nat.reduceEqDiff, doormanref12_Read_a, l4]
    rw [hN]; simp [h1, ndV]
  simp only [doormanref12_Read_r5, go_sem, ↓reduceIte, Nat.reduceEqDiff, wanted, decide_true, decide_false, beq_self_eq_true, pickA, show (false == true) = false from rfl, show (true == false) = false from rfl, Bool.false_eq_true, undefA, Bool.not_true, Bool.not_false, la, enterS, List.getD_cons_zero, List.getD_cons_succ]
  refine ndF_at (F := fun a b c => .str (showN a b c)) rfl ha hb hc ?_
  by_cases h2 : showN a b c = s
  · simp only [go_sem, ↓reduceIte, Nat.reduceEqDiff, wanted, decide_true, decide_false, beq_self_eq_true, pickA, show (false == true) = false from rfl, show (true == false) = false from rfl, Bool.false_eq_true, undefA, Bool.not_true, Bool.not_false, h2]
    refine WS_of_cond ?_
    simp only [go_sem, ↓reduceIte, Nat.reduceEqDiff, Bool.false_eq_true]
    refine WS_of_skip ?_
    simp only [go_sem]
    refine WS_of_seq (WS_of_ops ?_)
    obtain ⟨g4, e4, l4⟩ := h30 a b c 0
    simp only [doormanref12_Read_r7, go_sem, ↓reduceIte, Nat.reduceEqDiff, la, e4]
    refine WS_of_ret ?_
    simp only [go_sem, ↓reduceIte, Nat.reduceEqDiff, doormanref12_Read_a, l4]
    rw [hN]; simp [h1, h2, ndV]
  · simp only [go_sem, ↓reduceIte, Nat.reduceEqDiff, wanted, decide_true, decide_false, beq_self_eq_true, pickA, show (false == true) = false from rfl, show (true == false) = false from rfl, Bool.false_eq_true, undefA, Bool.not_true, Bool.not_false, h2]
    refine WS_of_cond ?_
    simp only [go_sem, ↓reduceIte, Nat.reduceEqDiff]
    refine WS_of_seq (WS_of_ops ?_)
    obtain ⟨g4, e4, l4⟩ := h30 [] [] [] 0
    simp only [doormanref12_Read_r6, go_sem, ↓reduceIte, Nat.reduceEqDiff, parts, List.map_cons, List.map_nil, afill3, afill30, afill6, afill60, afill66, e4]
    refine WS_of_ret ?_
    simp only [go_sem, ↓reduceIte, Nat.reduceEqDiff, doormanref12_Read_a, l4]
    rw [hN]; simp [h1, h2, ndV]
theorem showN_len {a b c : T8} (ha : a.length < 1000000) (hb : b.length < 1000000) (hc : c.length < 1000000) : (showN a b c).length ≤ 3000003 := by
  unfold showN
  split <;> simp <;> omega
/-- a tuple as a text -/
def textT (a b c d e g : T8) : T8 := showN a b c ++ [64] ++ showN d e g
def textF : List AV → Option AV := tpF fun a b c d e g => .str (textT a b c d e g)
theorem text_walk (a b c d e g : T8) (h1 : a.length < 1000000 ∧ b.length < 1000000 ∧ c.length < 1000000) (h2 : d.length < 1000000 ∧ e.length < 1000000 ∧ g.length < 1000000) (h : H) (wf : h.Wf) :
    WCall (EL LB) n_tuple_Text [.agg [.str a, .str b, .str c, .str d, .str e, .str g]] h fun r _ => r = .val (.str (textT a b c d e g)) := by
  have bx := Box.new wf [.str a, .str b, .str c, .str d, .str e, .str g]
  have l0 : loadA (h.new [.str a, .str b, .str c, .str d, .str e, .str g]) true 3 (.ptr h.n 0) = some (.agg [.str a, .str b, .str c]) := by simp only [loadA, bx.row, if_true]; rfl
  have l3 : loadA (h.new [.str a, .str b, .str c, .str d, .str e, .str g]) true 3 (.ptr h.n 3) = some (.agg [.str d, .str e, .str g]) := by simp only [loadA, bx.row, if_true]; rfl
  have s1 : (showN a b c).length ≤ 3000003 := showN_len h1.1 h1.2.1 h1.2.2
  have s2 : (showN d e g).length ≤ 3000003 := showN_len h2.1 h2.2.1 h2.2.2
  have e1 : (showN a b c).length + ([64] : T8).length ≤ big := by simp [big]; omega
  have e2 : (showN a b c ++ [64]).length + (showN d e g).length ≤ big := by simp [big]; omega
  refine WCall_ws ((EL_ov _ _).trans rfl) (EL_T T_tuple_Text) (by simp [tuple_Text_a]) ?_
  refine WS_of_seq (WS_of_ops ?_)
  simp only [tuple_Text_r0, go_sem, ↓reduceIte, Nat.reduceEqDiff, enterS, List.getD_cons_zero, List.getD_cons_succ]
  refine WS_of_seq (WS_of_draw ?_)
  simp only [AV.cells, tuple_Text_r1, go_sem, ↓reduceIte, Nat.reduceEqDiff, fieldAddrA, Nat.zero_add, Nat.reduceAdd, l0, l3, enterS, List.getD_cons_zero, List.getD_cons_succ, wanted, and_self, true_and, List.filter_cons, List.filter_nil, Nat.testBit, Nat.reduceShiftRight, Nat.reduceAnd, Nat.reduceBNe, Bool.not_false, Bool.not_true, Bool.false_eq_true, bne_self_eq_false]
  refine ndF_at (F := fun a b c => .str (showN a b c)) rfl h1.1 h1.2.1 h1.2.2 ?_
  simp only [go_sem, ↓reduceIte, Nat.reduceEqDiff, e1, l0, l3, enterS, List.getD_cons_zero, List.getD_cons_succ, wanted, and_self, true_and, List.filter_cons, List.filter_nil, Nat.testBit, Nat.reduceShiftRight, Nat.reduceAnd, Nat.reduceBNe, Bool.not_false, Bool.not_true, Bool.false_eq_true, bne_self_eq_false]
  refine ndF_at (F := fun a b c => .str (showN a b c)) rfl h2.1 h2.2.1 h2.2.2 ?_
  simp only [go_sem, ↓reduceIte, Nat.reduceEqDiff, e2, l0, l3, enterS, List.getD_cons_zero, List.getD_cons_succ, wanted, and_self, true_and, List.filter_cons, List.filter_nil, Nat.testBit, Nat.reduceShiftRight, Nat.reduceAnd, Nat.reduceBNe, Bool.not_false, Bool.not_true, Bool.false_eq_true, bne_self_eq_false]
  refine WS_of_ret ?_
  simp only [go_sem, ↓reduceIte, Nat.reduceEqDiff, tuple_Text_a]
  rfl
theorem rtext_walk (a b c d e g : T8) (h1 : a.length < 1000000 ∧ b.length < 1000000 ∧ c.length < 1000000) (h2 : d.length < 1000000 ∧ e.length < 1000000 ∧ g.length < 1000000) (h : H) (wf : h.Wf) :
    WCall (EL LB) n_doormanref12_Text [.agg [.str a, .str b, .str c, .str d, .str e, .str g]] h fun r _ => r = .val (.str (textT a b c d e g)) := by
  have bx := Box.new wf [.str a, .str b, .str c, .str d, .str e, .str g]
  have l0 : loadA (h.new [.str a, .str b, .str c, .str d, .str e, .str g]) true 3 (.ptr h.n 0) = some (.agg [.str a, .str b, .str c]) := by simp only [loadA, bx.row, if_true]; rfl
  have l3 : loadA (h.new [.str a, .str b, .str c, .str d, .str e, .str g]) true 3 (.ptr h.n 3) = some (.agg [.str d, .str e, .str g]) := by simp only [loadA, bx.row, if_true]; rfl
  have s1 : (showN a b c).length ≤ 3000003 := showN_len h1.1 h1.2.1 h1.2.2
  have s2 : (showN d e g).length ≤ 3000003 := showN_len h2.1 h2.2.1 h2.2.2
  have e1 : (showN a b c).length + ([64] : T8).length ≤ big := by simp [big]; omega
  have e2 : (showN a b c ++ [64]).length + (showN d e g).length ≤ big := by simp [big]; omega
  refine WCall_ws ((EL_ov _ _).trans rfl) (EL_T T_doormanref12_Text) (by simp [doormanref12_Text_a]) ?_
  refine WS_of_seq (WS_of_ops ?_)
  simp only [doormanref12_Text_r0, go_sem, ↓reduceIte, Nat.reduceEqDiff, enterS, List.getD_cons_zero, List.getD_cons_succ]
  refine WS_of_seq (WS_of_draw ?_)
  simp only [AV.cells, doormanref12_Text_r1, go_sem, ↓reduceIte, Nat.reduceEqDiff, fieldAddrA, Nat.zero_add, Nat.reduceAdd, l0, l3, enterS, List.getD_cons_zero, List.getD_cons_succ, wanted, and_self, true_and, List.filter_cons, List.filter_nil, Nat.testBit, Nat.reduceShiftRight, Nat.reduceAnd, Nat.reduceBNe, Bool.not_false, Bool.not_true, Bool.false_eq_true, bne_self_eq_false]
  refine ndF_at (F := fun a b c => .str (showN a b c)) rfl h1.1 h1.2.1 h1.2.2 ?_
  simp only [go_sem, ↓reduceIte, Nat.reduceEqDiff, e1, l0, l3, enterS, List.getD_cons_zero, List.getD_cons_succ, wanted, and_self, true_and, List.filter_cons, List.filter_nil, Nat.testBit, Nat.reduceShiftRight, Nat.reduceAnd, Nat.reduceBNe, Bool.not_false, Bool.not_true, Bool.false_eq_true, bne_self_eq_false]
  refine ndF_at (F := fun a b c => .str (showN a b c)) rfl h2.1 h2.2.1 h2.2.2 ?_
  simp only [go_sem, ↓reduceIte, Nat.reduceEqDiff, e2, l0, l3, enterS, List.getD_cons_zero, List.getD_cons_succ, wanted, and_self, true_and, List.filter_cons, List.filter_nil, Nat.testBit, Nat.reduceShiftRight, Nat.reduceAnd, Nat.reduceBNe, Bool.not_false, Bool.not_true, Bool.false_eq_true, bne_self_eq_false]
  refine WS_of_ret ?_
  simp only [go_sem, ↓reduceIte, Nat.reduceEqDiff, doormanref12_Text_a]
  rfl
def readF : List AV → Option AV := tx6F readV
def LC : List Ovr := (n_tuple_Read, pureO readF) :: (n_doormanref12_Read, pureO readF) :: (n_tuple_Text, pureO textF) :: (n_doormanref12_Text, pureO textF) :: LB
end Go.Proofs.YtgjcdpanabjcmaaGreatDoor.Ev.C

/- Parse: a text's tuple. -/
namespace Go.Proofs.YtgjcdpanabjcmaaGreatDoor.Ev.C
open Go Go.Proofs.YtgjcdpanabjcmaaGreatDoor.Ev
set_option linter.unusedSimpArgs false
set_option linter.unusedVariables false
theorem Box.newPut {h : H} (wf : h.Wf) {z vs : List AV} {n : Nat} (hn : vs.length = n) (hz : n = z.length) (h1 : vs.all AV.one = true) :
    ∃ g, storeA (h.new z) n (.ptr h.n 0) (.agg vs) = some g ∧ Box h.n vs g ∧ g.Wf ∧ Keep (Old h.n) h g := by
  have b := Box.new wf z
  have wf1 := wf.new z
  obtain ⟨g, e, b', k⟩ := b.putAll wf1 (n := n) (vs := vs) hn h1 hz
  exact ⟨g, e, b', k.wf wf1, (Keep.new (Nat.le_refl _) _).trans (k.newbox wf1 (Nat.le_succ _) (Nat.le_refl _))⟩
theorem readV_parts (s : T8) (hs : s.length < 1000000) : ∃ (n : Nd) (e : Int), readV s = .tup [.agg [.str n.1, .str n.2.1, .str n.2.2], .int .i64 e] ∧ (n.1.length < 1000000 ∧ n.2.1.length < 1000000 ∧ n.2.2.length < 1000000) ∧ ((readN s = some n ∧ e = 0) ∨ (readN s = none ∧ n = ([], [], []) ∧ e = 11)) := by
  have k1 := cutS_len s 35
  have k2 := cutS_len (cutS s 35).1 58
  unfold readV
  cases hN : readN s with
  | none => exact ⟨([], [], []), 11, rfl, by simp, .inr ⟨rfl, rfl, rfl⟩⟩
  | some n =>
    refine ⟨n, 0, rfl, ?_, .inl ⟨rfl, rfl⟩⟩
    unfold readN at hN
    split at hN
    · cases hN; refine ⟨?_, ?_, ?_⟩ <;> simp only <;> omega
    · cases hN
abbrev Tp := Nd × Nd
def tpC (t : Tp) : List AV := [.str t.1.1, .str t.1.2.1, .str t.1.2.2, .str t.2.1, .str t.2.2.1, .str t.2.2.2]
def noT : Tp := (([], [], []), ([], [], []))
/-- a text's tuple -/
def parseN (s : T8) : Option Tp := match readN (cutS s 64).1, readN (cutS s 64).2.1 with
  | some n, some w => if n.2.2 = [] then none else some (n, w)
  | _, _ => none
def parseV (s : T8) : AV := match parseN s with
  | some t => .tup [.agg (tpC t), .int .i64 0]
  | none => .tup [.agg (tpC noT), .int .i64 11]
theorem parseV_plain (s : T8) : plainV (parseV s) = true := by unfold parseV; split <;> rfl
theorem parse_walk (s : T8) (hl : s.length < 1000000) (h : H) (wf : h.Wf) : WCall (EL LC) n_tuple_Parse [.str s] h fun r _ => r = .val (parseV s) := by
  have k1 := cutS_len s 64
  refine WCall_ws ((EL_ov _ _).trans rfl) (EL_T T_tuple_Parse) (by simp [tuple_Parse_a]) ?_
  refine WS_of_seq (WS_of_ops ?_)
  simp only [tuple_Parse_r0, go_sem, ↓reduceIte, Nat.reduceEqDiff, enterS, List.getD_cons_zero, List.getD_cons_succ]
  have b1 := Box.new wf [.str [], .str [], .str [], .str [], .str [], .str []]
  have wf1 := wf.new [.str [], .str [], .str [], .str [], .str [], .str []]
  generalize h.new [.str [], .str [], .str [], .str [], .str [], .str []] = g1 at b1 wf1
  refine WS_of_seq (WS_of_ops ?_)
  simp only [tuple_Parse_r1, go_sem, ↓reduceIte, Nat.reduceEqDiff, enterS, List.getD_cons_zero, List.getD_cons_succ]
  refine cut_at rfl (by omega) ?_
  simp only [go_sem, ↓reduceIte, Nat.reduceEqDiff, extractA, List.getElem?_cons_zero, List.getElem?_cons_succ]
  obtain ⟨n, e, en, ln, hn⟩ := readV_parts (cutS s 64).1 (by omega)
  obtain ⟨w, f, ew, lw, hw⟩ := readV_parts (cutS s 64).2.1 (by omega)
  have hV : parseV s = match (match readN (cutS s 64).1, readN (cutS s 64).2.1 with
    | some n, some w => if n.2.2 = [] then none else some (n, w)
    | _, _ => none) with | some t => .tup [.agg (tpC t), .int .i64 0] | none => .tup [.agg (tpC noT), .int .i64 11] := rfl
  obtain ⟨g2, e2, b2, wf2, q2⟩ := Box.newPut wf1 (z := [.str [], .str [], .str []]) (vs := [.str n.1, .str n.2.1, .str n.2.2]) (n := 3) rfl rfl rfl
  have b12 := b1.keep q2 (b1.lt wf1)
  refine WS_of_seq (WS_of_ops ?_)
  simp only [tuple_Parse_r2, go_sem, ↓reduceIte, Nat.reduceEqDiff, enterS, List.getD_cons_zero, List.getD_cons_succ]
  refine tx6F_at (F := readV) rfl (by omega) ?_
  rw [en]
  simp only [go_sem, ↓reduceIte, Nat.reduceEqDiff, extractA, List.getElem?_cons_zero, List.getElem?_cons_succ, e2]
  obtain ⟨g3, e3, b3, wf3, q3⟩ := Box.newPut wf2 (z := [.str [], .str [], .str []]) (vs := [.str w.1, .str w.2.1, .str w.2.2]) (n := 3) rfl rfl rfl
  have b13 := b12.keep q3 (b12.lt wf2)
  have b23 := b2.keep q3 (b2.lt wf2)
  refine WS_of_seq (WS_of_ops ?_)
  simp only [tuple_Parse_r3, go_sem, ↓reduceIte, Nat.reduceEqDiff, enterS, List.getD_cons_zero, List.getD_cons_succ]
  refine tx6F_at (F := readV) rfl (by omega) ?_
  rw [ew]
  simp only [go_sem, ↓reduceIte, Nat.reduceEqDiff, extractA, List.getElem?_cons_zero, List.getElem?_cons_succ, e3]
  have l2 : loadA g3 true 3 (.ptr g1.n 0) = some (.agg [.str n.1, .str n.2.1, .str n.2.2]) := b23.loadAgg rfl
  have l3 : loadA g3 true 3 (.ptr g2.n 0) = some (.agg [.str w.1, .str w.2.1, .str w.2.2]) := b3.loadAgg rfl
  obtain ⟨g4, e4, b4, wf4, q4⟩ := Box.newPut wf3 (z := [.str [], .str [], .str [], .str [], .str [], .str []]) (vs := tpC (n, w)) (n := 6) rfl rfl rfl
  have b14 := b13.keep q4 (b13.lt wf3)
  have b24 := b23.keep q4 (b23.lt wf3)
  have e4' : storeA (g3.new [.str [], .str [], .str [], .str [], .str [], .str []]) 6 (.ptr g3.n 0) (.agg [.str n.1, .str n.2.1, .str n.2.2, .str w.1, .str w.2.1, .str w.2.2]) = some g4 := e4
  refine WS_of_seq (WS_of_ops ?_)
  simp only [tuple_Parse_r4, go_sem, ↓reduceIte, Nat.reduceEqDiff, parts, List.map_cons, List.map_nil, afill3, afill30, afill6, afill60, afill66, l2, l3, e4']
  have l4 : loadA g4 true 6 (.ptr g3.n 0) = some (.agg (tpC (n, w))) := b4.loadAgg rfl
  have l24 : loadA g4 false 1 (.ptr g1.n 2) = some (.str n.2.2) := b24.load 1 2
  have fin : ∀ (t : Tp), ∃ g5, storeA g4 6 (.ptr h.n 0) (.agg (tpC t)) = some g5 ∧ loadA g5 true 6 (.ptr h.n 0) = some (.agg (tpC t)) := fun t => by
    obtain ⟨g5, e5, b5, _⟩ := b14.putAll wf4 (n := 6) (vs := tpC t) rfl rfl rfl
    exact ⟨g5, e5, b5.loadAgg rfl⟩
  have bad : parseV s = .tup [.agg (tpC noT), .int .i64 11] → ∀ z : S, z 2 = .ptr h.n 0 → WS (EL LC) (.seq (.ops tuple_Parse_r6) .ret) [.code (.seq (.ops tuple_Parse_r7) .ret)] (atEnd tuple_Parse_a.results fun r x => r = .val (parseV s)) z g4 := by
    intro hb z z2
    refine WS_of_seq (WS_of_ops ?_)
    obtain ⟨g5, e5, l5⟩ := fin noT
    have e5' : storeA g4 6 (.ptr h.n 0) (.agg [.str [], .str [], .str [], .str [], .str [], .str []]) = some g5 := e5
    simp only [tuple_Parse_r6, go_sem, ↓reduceIte, Nat.reduceEqDiff, parts, List.map_cons, List.map_nil, afill3, afill30, afill6, afill60, afill66, z2, e5']
    refine WS_of_ret ?_
    simp only [go_sem, ↓reduceIte, Nat.reduceEqDiff, tuple_Parse_a, z2, l5]
    rw [hb]
  refine WS_of_seq (WS_of_seq (WS_of_ops ?_))
  rcases hn with ⟨hn, rfl⟩ | ⟨hn, rfl, rfl⟩
  case inr =>
    simp only [tuple_Parse_r5, go_sem, ↓reduceIte, Nat.reduceEqDiff, wanted, decide_true, decide_false, beq_self_eq_true, pickA, show (false == true) = false from rfl, show (true == false) = false from rfl, Bool.false_eq_true, undefA, Bool.not_true, Bool.not_false, show ¬ ((11 : Int) = 0) by decide]
    refine WS_of_cond ?_
    simp only [go_sem, ↓reduceIte, Nat.reduceEqDiff]
    exact bad (by rw [hV, hn]) _ rfl
  rcases hw with ⟨hw, rfl⟩ | ⟨hw, rfl, rfl⟩
  case inr =>
    simp only [tuple_Parse_r5, go_sem, ↓reduceIte, Nat.reduceEqDiff, wanted, decide_true, decide_false, beq_self_eq_true, pickA, show (false == true) = false from rfl, show (true == false) = false from rfl, Bool.false_eq_true, undefA, Bool.not_true, Bool.not_false, show ¬ ((11 : Int) = 0) by decide]
    refine WS_of_cond ?_
    simp only [go_sem, ↓reduceIte, Nat.reduceEqDiff]
    exact bad (by rw [hV, hn, hw]) _ rfl
  by_cases h0 : n.2.2 = []
  · simp only [tuple_Parse_r5, go_sem, ↓reduceIte, Nat.reduceEqDiff, wanted, decide_true, decide_false, beq_self_eq_true, pickA, show (false == true) = false from rfl, show (true == false) = false from rfl, Bool.false_eq_true, undefA, Bool.not_true, Bool.not_false, fieldAddrA, Nat.zero_add, Nat.reduceAdd, l24, h0]
    refine WS_of_cond ?_
    simp only [go_sem, ↓reduceIte, Nat.reduceEqDiff]
    exact bad (by rw [hV, hn, hw]; simp [h0]) _ rfl
  simp only [tuple_Parse_r5, go_sem, ↓reduceIte, Nat.reduceEqDiff, wanted, decide_true, decide_false, beq_self_eq_true, pickA, show (false == true) = false from rfl, show (true == false) = false from rfl, Bool.false_eq_true, undefA, Bool.not_true, Bool.not_false, fieldAddrA, Nat.zero_add, Nat.reduceAdd, l24, h0]
  refine WS_of_cond ?_
  simp only [go_sem, ↓reduceIte, Nat.reduceEqDiff, Bool.false_eq_true]
  refine WS_of_skip ?_
  simp only [go_sem]
  refine WS_of_seq (WS_of_ops ?_)
  obtain ⟨g5, e5, l5⟩ := fin (n, w)
  simp only [tuple_Parse_r7, go_sem, ↓reduceIte, Nat.reduceEqDiff, l4, e5]
  refine WS_of_ret ?_
  simp only [go_sem, ↓reduceIte, Nat.reduceEqDiff, tuple_Parse_a, l5]
  rw [hV, hn, hw]; simp [h0]
theorem rparse_walk (s : T8) (hl : s.length < 1000000) (h : H) (wf : h.Wf) : WCall (EL LC) n_doormanref12_Parse [.str s] h fun r _ => r = .val (parseV s) := by
  have k1 := cutS_len s 64
  refine WCall_ws ((EL_ov _ _).trans rfl) (EL_T T_doormanref12_Parse) (by simp [doormanref12_Parse_a]) ?_
  refine WS_of_seq (WS_of_ops ?_)
  simp only [doormanref12_Parse_r0, go_sem, ↓reduceIte, Nat.reduceEqDiff, enterS, List.getD_cons_zero, List.getD_cons_succ]
  have b1 := Box.new wf [.str [], .str [], .str [], .str [], .str [], .str []]
  have wf1 := wf.new [.str [], .str [], .str [], .str [], .str [], .str []]
  generalize h.new [.str [], .str [], .str [], .str [], .str [], .str []] = g1 at b1 wf1
  refine WS_of_seq (WS_of_ops ?_)
  simp only [doormanref12_Parse_r1, go_sem, ↓reduceIte, Nat.reduceEqDiff, enterS, List.getD_cons_zero, List.getD_cons_succ]
  refine rcut_at rfl 64 (by omega) ?_
  simp only [go_sem, ↓reduceIte, Nat.reduceEqDiff, extractA, List.getElem?_cons_zero, List.getElem?_cons_succ]
  obtain ⟨n, e, en, ln, hn⟩ := readV_parts (cutS s 64).1 (by omega)
  obtain ⟨w, f, ew, lw, hw⟩ := readV_parts (cutS s 64).2.1 (by omega)
  have hV : parseV s = match (match readN (cutS s 64).1, readN (cutS s 64).2.1 with
    | some n, some w => if n.2.2 = [] then none else some (n, w)
    | _, _ => none) with | some t => .tup [.agg (tpC t), .int .i64 0] | none => .tup [.agg (tpC noT), .int .i64 11] := rfl
  obtain ⟨g2, e2, b2, wf2, q2⟩ := Box.newPut wf1 (z := [.str [], .str [], .str []]) (vs := [.str n.1, .str n.2.1, .str n.2.2]) (n := 3) rfl rfl rfl
  have b12 := b1.keep q2 (b1.lt wf1)
  refine WS_of_seq (WS_of_ops ?_)
  simp only [doormanref12_Parse_r2, go_sem, ↓reduceIte, Nat.reduceEqDiff, enterS, List.getD_cons_zero, List.getD_cons_succ]
  refine tx6F_at (F := readV) rfl (by omega) ?_
  rw [en]
  simp only [go_sem, ↓reduceIte, Nat.reduceEqDiff, extractA, List.getElem?_cons_zero, List.getElem?_cons_succ, e2]
  obtain ⟨g3, e3, b3, wf3, q3⟩ := Box.newPut wf2 (z := [.str [], .str [], .str []]) (vs := [.str w.1, .str w.2.1, .str w.2.2]) (n := 3) rfl rfl rfl
  have b13 := b12.keep q3 (b12.lt wf2)
  have b23 := b2.keep q3 (b2.lt wf2)
  refine WS_of_seq (WS_of_ops ?_)
  simp only [doormanref12_Parse_r3, go_sem, ↓reduceIte, Nat.reduceEqDiff, enterS, List.getD_cons_zero, List.getD_cons_succ]
  refine tx6F_at (F := readV) rfl (by omega) ?_
  rw [ew]
  simp only [go_sem, ↓reduceIte, Nat.reduceEqDiff, extractA, List.getElem?_cons_zero, List.getElem?_cons_succ, e3]
  have l2 : loadA g3 true 3 (.ptr g1.n 0) = some (.agg [.str n.1, .str n.2.1, .str n.2.2]) := b23.loadAgg rfl
  have l3 : loadA g3 true 3 (.ptr g2.n 0) = some (.agg [.str w.1, .str w.2.1, .str w.2.2]) := b3.loadAgg rfl
  have l22 : loadA g3 false 1 (.ptr g1.n 2) = some (.str n.2.2) := b23.load 1 2
  have fin : ∀ (t : Tp), ∃ g5, storeA g3 6 (.ptr h.n 0) (.agg (tpC t)) = some g5 ∧ loadA g5 true 6 (.ptr h.n 0) = some (.agg (tpC t)) := fun t => by
    obtain ⟨g5, e5, b5, _⟩ := b13.putAll wf3 (n := 6) (vs := tpC t) rfl rfl rfl
    exact ⟨g5, e5, b5.loadAgg rfl⟩
  have bad : parseV s = .tup [.agg (tpC noT), .int .i64 11] → ∀ z : S, z 2 = .ptr h.n 0 → WS (EL LC) (.seq (.ops doormanref12_Parse_r5) .ret) [.code (.seq (.ops doormanref12_Parse_r6) .ret)] (atEnd doormanref12_Parse_a.results fun r x => r = .val (parseV s)) z g3 := by
    intro hb z z2
    refine WS_of_seq (WS_of_ops ?_)
    obtain ⟨g5, e5, l5⟩ := fin noT
    have e5' : storeA g3 6 (.ptr h.n 0) (.agg [.str [], .str [], .str [], .str [], .str [], .str []]) = some g5 := e5
    simp only [doormanref12_Parse_r5, go_sem, ↓reduceIte, Nat.reduceEqDiff, parts, List.map_cons, List.map_nil, afill3, afill30, afill6, afill60, afill66, z2, e5']
    refine WS_of_ret ?_
    simp only [go_sem, ↓reduceIte, Nat.reduceEqDiff, doormanref12_Parse_a, z2, l5]
    rw [hb]
  refine WS_of_seq (WS_of_seq (WS_of_ops ?_))
  rcases hn with ⟨hn, rfl⟩ | ⟨hn, rfl, rfl⟩
  case inr =>
    simp only [doormanref12_Parse_r4, go_sem, ↓reduceIte, Nat.reduceEqDiff, wanted, decide_true, decide_false, beq_self_eq_true, pickA, show (false == true) = false from rfl, show (true == false) = false from rfl, Bool.false_eq_true, undefA, Bool.not_true, Bool.not_false, show ¬ ((11 : Int) = 0) by decide]
    refine WS_of_cond ?_
    simp only [go_sem, ↓reduceIte, Nat.reduceEqDiff]
    exact bad (by rw [hV, hn]) _ rfl
  rcases hw with ⟨hw, rfl⟩ | ⟨hw, rfl, rfl⟩
  case inr =>
    simp only [doormanref12_Parse_r4, go_sem, ↓reduceIte, Nat.reduceEqDiff, wanted, decide_true, decide_false, beq_self_eq_true, pickA, show (false == true) = false from rfl, show (true == false) = false from rfl, Bool.false_eq_true, undefA, Bool.not_true, Bool.not_false, show ¬ ((11 : Int) = 0) by decide]
    refine WS_of_cond ?_
    simp only [go_sem, ↓reduceIte, Nat.reduceEqDiff]
    exact bad (by rw [hV, hn, hw]) _ rfl
  by_cases h0 : n.2.2 = []
  · simp only [doormanref12_Parse_r4, go_sem, ↓reduceIte, Nat.reduceEqDiff, wanted, decide_true, decide_false, beq_self_eq_true, pickA, show (false == true) = false from rfl, show (true == false) = false from rfl, Bool.false_eq_true, undefA, Bool.not_true, Bool.not_false, fieldAddrA, Nat.zero_add, Nat.reduceAdd, l22, h0]
    refine WS_of_cond ?_
    simp only [go_sem, ↓reduceIte, Nat.reduceEqDiff]
    exact bad (by rw [hV, hn, hw]; simp [h0]) _ rfl
  simp only [doormanref12_Parse_r4, go_sem, ↓reduceIte, Nat.reduceEqDiff, wanted, decide_true, decide_false, beq_self_eq_true, pickA, show (false == true) = false from rfl, show (true == false) = false from rfl, Bool.false_eq_true, undefA, Bool.not_true, Bool.not_false, fieldAddrA, Nat.zero_add, Nat.reduceAdd, l22, h0]
  refine WS_of_cond ?_
  simp only [go_sem, ↓reduceIte, Nat.reduceEqDiff, Bool.false_eq_true]
  refine WS_of_skip ?_
  simp only [go_sem]
  refine WS_of_seq (WS_of_ops ?_)
  obtain ⟨g5, e5, l5⟩ := fin (n, w)
  have e5' : storeA g3 6 (.ptr h.n 0) (.agg [.str n.1, .str n.2.1, .str n.2.2, .str w.1, .str w.2.1, .str w.2.2]) = some g5 := e5
  simp only [doormanref12_Parse_r6, go_sem, ↓reduceIte, Nat.reduceEqDiff, parts, List.map_cons, List.map_nil, afill3, afill30, afill6, afill60, afill66, l2, l3, e5']
  refine WS_of_ret ?_
  simp only [go_sem, ↓reduceIte, Nat.reduceEqDiff, doormanref12_Parse_a, l5]
  rw [hV, hn, hw]; simp [h0]
def parseF : List AV → Option AV := tx6F parseV
def LD : List Ovr := (n_tuple_Parse, pureO parseF) :: (n_doormanref12_Parse, pureO parseF) :: LC
end Go.Proofs.YtgjcdpanabjcmaaGreatDoor.Ev.C

/- A tuple's names, and its key. -/
namespace Go.Proofs.YtgjcdpanabjcmaaGreatDoor.Ev.C
open Go Go.Proofs.YtgjcdpanabjcmaaGreatDoor.Ev
set_option linter.unusedSimpArgs false
set_option linter.unusedVariables false
abbrev six (a b c d e g : T8) : List AV := [.str a, .str b, .str c, .str d, .str e, .str g]
theorem box_strs {r : Nat} {l : List T8} {h : H} (b : Box r (strCells l) h) {n : Nat} (hn : n ≤ l.length) : Strs h (.slice r 0 n 1) (l.take n) := by
  have e : (l.take n).length = n := by simp; omega
  unfold Strs
  rw [e]
  refine ⟨rfl, ?_⟩
  simp only [H.firstCells, b.row]
  rw [if_pos ⟨trivial, Nat.le_refl _⟩, if_pos (by simp [strCells]; omega)]
  simp [strCells, List.map_take]
theorem box_arr {r : Nat} {cs : List AV} {h : H} (b : Box r cs h) (hl : cs.length = 6) : sliceAA h 1 6 none none (.ptr r 0) = some (.slice r 0 6 1) := by
  simp only [sliceAA, b.get]; rw [if_pos (by omega)]; simp [bounds]
theorem box_arr5 {r : Nat} {cs : List AV} {h : H} (b : Box r cs h) (hl : cs.length = 6) : sliceAA h 1 6 none (some (.int .i64 5)) (.ptr r 0) = some (.slice r 0 5 1) := by
  simp only [sliceAA, b.get]; rw [if_pos (by omega)]; simp [bounds]
def ofF : List AV → Option AV := tpF fun a b c d e g => .agg (six a b c d e g)
theorem of_walk (a b c d e g : T8) (h1 : a.length < 1000000 ∧ b.length < 1000000 ∧ c.length < 1000000) (h2 : d.length < 1000000 ∧ e.length < 1000000 ∧ g.length < 1000000) (h : H) (wf : h.Wf) :
    WCall (EL LD) n_tuple_of [.agg [.str a, .str b, .str c, .str d, .str e, .str g]] h fun r _ => r = .val (.agg (six a b c d e g)) := by
  refine WCall_ws ((EL_ov _ _).trans rfl) (EL_T T_tuple_of) (by simp [tuple_of_a]) ?_
  refine WS_of_seq (WS_of_ops ?_)
  simp only [tuple_of_r0, go_sem, ↓reduceIte, Nat.reduceEqDiff, enterS, List.getD_cons_zero, List.getD_cons_succ, AV.cells]
  have b1 := Box.new wf (six a b c d e g)
  have wf1 := wf.new (six a b c d e g)
  generalize h.new [.str a, .str b, .str c, .str d, .str e, .str g] = g1 at b1 wf1
  have b2 := Box.new wf1 (six [] [] [] [] [] [])
  have wf2 := wf1.new (six [] [] [] [] [] [])
  have b12 := b1.keep (Keep.new (Nat.le_refl _) (six [] [] [] [] [] [])) (b1.lt wf1)
  generalize g1.new [.str [], .str [], .str [], .str [], .str [], .str []] = g2 at b12 b2 wf2
  have l0 : loadA g2 false 1 (.ptr h.n 0) = some (.str a) := b12.load 1 0
  have l1 : loadA g2 false 1 (.ptr h.n 1) = some (.str b) := b12.load 1 1
  have l2 : loadA g2 false 1 (.ptr h.n 2) = some (.str c) := b12.load 1 2
  have l3 : loadA g2 false 1 (.ptr h.n 3) = some (.str d) := b12.load 1 3
  have l4 : loadA g2 false 1 (.ptr h.n 4) = some (.str e) := b12.load 1 4
  have l5 : loadA g2 false 1 (.ptr h.n 5) = some (.str g) := b12.load 1 5
  obtain ⟨g3, e3, b3, _⟩ := b2.putAll wf2 (n := 6) (vs := six a b c d e g) rfl rfl rfl
  have e3' : storeA g2 6 (.ptr g1.n 0) (.agg [.str a, .str b, .str c, .str d, .str e, .str g]) = some g3 := e3
  refine WS_of_seq (WS_of_ops ?_)
  simp only [tuple_of_r1, go_sem, ↓reduceIte, Nat.reduceEqDiff, fieldAddrA, Nat.zero_add, Nat.add_zero, Nat.reduceAdd, l0, l1, l2, l3, l4, l5, parts, List.map_cons, List.map_nil, afill3, afill30, afill6, afill60, afill66, e3']
  refine WS_of_ret ?_
  simp only [go_sem, ↓reduceIte, Nat.reduceEqDiff, tuple_of_a, b3.loadAgg (n := 6) rfl]
theorem indexArr6 (r : Nat) (k : Nat) (hk : k < 6) : indexArrA 1 6 (.ptr r 0) (.int .i64 (k : Int)) = some (.ptr r k) := by
  simp only [indexArrA]; rw [if_pos ⟨by omega, by omega⟩]; simp
theorem ntuple_walk (a b c d e g : T8) (h1 : a.length < 1000000 ∧ b.length < 1000000 ∧ c.length < 1000000) (h2 : d.length < 1000000 ∧ e.length < 1000000 ∧ g.length < 1000000) (h : H) (wf : h.Wf) :
    WCall (EL LD) n_tuple_names_tuple [.agg [.str a, .str b, .str c, .str d, .str e, .str g]] h fun r _ => r = .val (.agg (six a b c d e g)) := by
  refine WCall_ws ((EL_ov _ _).trans rfl) (EL_T T_tuple_names_tuple) (by simp [tuple_names_tuple_a]) ?_
  refine WS_of_seq (WS_of_ops ?_)
  simp only [tuple_names_tuple_r0, go_sem, ↓reduceIte, Nat.reduceEqDiff, enterS, List.getD_cons_zero, List.getD_cons_succ, AV.cells]
  have b1 := Box.new wf (six a b c d e g)
  have wf1 := wf.new (six a b c d e g)
  generalize h.new [.str a, .str b, .str c, .str d, .str e, .str g] = g1 at b1 wf1
  have b2 := Box.new wf1 (six [] [] [] [] [] [])
  have wf2 := wf1.new (six [] [] [] [] [] [])
  have b12 := b1.keep (Keep.new (Nat.le_refl _) (six [] [] [] [] [] [])) (b1.lt wf1)
  generalize g1.new [.str [], .str [], .str [], .str [], .str [], .str []] = g2 at b12 b2 wf2
  have l0 : loadA g2 false 1 (.ptr h.n 0) = some (.str a) := b12.load 1 0
  have l1 : loadA g2 false 1 (.ptr h.n 1) = some (.str b) := b12.load 1 1
  have l2 : loadA g2 false 1 (.ptr h.n 2) = some (.str c) := b12.load 1 2
  have l3 : loadA g2 false 1 (.ptr h.n 3) = some (.str d) := b12.load 1 3
  have l4 : loadA g2 false 1 (.ptr h.n 4) = some (.str e) := b12.load 1 4
  have l5 : loadA g2 false 1 (.ptr h.n 5) = some (.str g) := b12.load 1 5
  obtain ⟨g3, e3, b3, _⟩ := b2.putAll wf2 (n := 6) (vs := six a b c d e g) rfl rfl rfl
  have e3' : storeA g2 6 (.ptr g1.n 0) (.agg [.str a, .str b, .str c, .str d, .str e, .str g]) = some g3 := e3
  have i0 : indexArrA 1 6 (.ptr h.n 0) (.int .i64 0) = some (.ptr h.n 0) := indexArr6 h.n 0 (by omega)
  have i1 : indexArrA 1 6 (.ptr h.n 0) (.int .i64 1) = some (.ptr h.n 1) := indexArr6 h.n 1 (by omega)
  have i2 : indexArrA 1 6 (.ptr h.n 0) (.int .i64 2) = some (.ptr h.n 2) := indexArr6 h.n 2 (by omega)
  have i3 : indexArrA 1 6 (.ptr h.n 0) (.int .i64 3) = some (.ptr h.n 3) := indexArr6 h.n 3 (by omega)
  have i4 : indexArrA 1 6 (.ptr h.n 0) (.int .i64 4) = some (.ptr h.n 4) := indexArr6 h.n 4 (by omega)
  have i5 : indexArrA 1 6 (.ptr h.n 0) (.int .i64 5) = some (.ptr h.n 5) := indexArr6 h.n 5 (by omega)
  refine WS_of_seq (WS_of_ops ?_)
  simp only [tuple_names_tuple_r1, go_sem, ↓reduceIte, Nat.reduceEqDiff, fieldAddrA, Nat.zero_add, Nat.add_zero, Nat.reduceAdd, i0, i1, i2, i3, i4, i5, l0, l1, l2, l3, l4, l5, parts, List.map_cons, List.map_nil, afill3, afill30, afill6, afill60, afill66, e3']
  refine WS_of_ret ?_
  simp only [go_sem, ↓reduceIte, Nat.reduceEqDiff, tuple_names_tuple_a, b3.loadAgg (n := 6) rfl]
/-- are a tuple's names well formed? -/
def formed6 (a b c d e g : T8) : Bool := [a, b, c, d, e].all nameG && (decide (g = []) || nameG g)
def formed6F : List AV → Option AV := tpF fun a b c d e g => .bool (formed6 a b c d e g)
theorem nformed_walk (a b c d e g : T8) (h1 : a.length < 1000000 ∧ b.length < 1000000 ∧ c.length < 1000000) (h2 : d.length < 1000000 ∧ e.length < 1000000 ∧ g.length < 1000000) (h : H) (wf : h.Wf) :
    WCall (EL LD) n_tuple_names_formed [.agg [.str a, .str b, .str c, .str d, .str e, .str g]] h fun r _ => r = .val (.bool (formed6 a b c d e g)) := by
  refine WCall_ws ((EL_ov _ _).trans rfl) (EL_T T_tuple_names_formed) (by simp [tuple_names_formed_a]) ?_
  refine WS_of_seq (WS_of_ops ?_)
  simp only [tuple_names_formed_r0, go_sem, ↓reduceIte, Nat.reduceEqDiff, enterS, List.getD_cons_zero, List.getD_cons_succ, AV.cells]
  have b1 : Box h.n (strCells [a, b, c, d, e, g]) (h.new [.str a, .str b, .str c, .str d, .str e, .str g]) := Box.new wf (six a b c d e g)
  generalize h.new [.str a, .str b, .str c, .str d, .str e, .str g] = g1 at b1
  have st : Strs g1 (.slice h.n 0 5 1) [a, b, c, d, e] := box_strs b1 (n := 5) (by simp)
  have hlen : ∀ x ∈ [a, b, c, d, e], x.length < 1000000 := by simp; omega
  refine WS_of_seq (WS_of_seq (WS_of_ops ?_))
  simp only [tuple_names_formed_r1, go_sem, ↓reduceIte, Nat.reduceEqDiff, box_arr5 b1 rfl, lenSA, Option.map_some, Option.map_none]
  refine WS_of_block (WS_of_loop (fun m z q => g1 = q ∧ ∃ i : Nat, m = 5 - i ∧ i ≤ 5 ∧ ([a, b, c, d, e].take i).all nameG = true ∧ z 1 = .ptr h.n 0 ∧ z 5 = .slice h.n 0 5 1 ∧ z 6 = .int .i64 5 ∧ z 7 = .int .i64 (i : Int)) ?_ 5 ?_)
  case refine_2 => exact ⟨rfl, 0, by simp, by omega, rfl, rfl, rfl, rfl, rfl⟩
  rintro m z q ⟨rfl, i, rfl, hi, hv, z1, z5, z6, z7⟩
  show WS (EL LD) tuple_names_formed_l7 _ _ _ _
  refine WS_of_seq (WS_of_ops ?_)
  by_cases hp : i < 5
  case neg =>
    have hp' : ¬ (i : Int) < 5 := by omega
    have i5 : indexArrA 1 6 (.ptr h.n 0) (.int .i64 5) = some (.ptr h.n 5) := indexArr6 h.n 5 (by omega)
    have l5 : loadA g1 false 1 (.ptr h.n 5) = some (.str g) := b1.load 1 5
    have hv5 : [a, b, c, d, e].all nameG = true := by rw [List.take_of_length_le (by simp; omega)] at hv; exact hv
    simp only [tuple_names_formed_r2, go_sem, ↓reduceIte, Nat.reduceEqDiff, z6, z7, hp', decide_false]
    refine WS_of_seq (WS_of_cond ?_)
    simp only [go_sem, ↓reduceIte, Nat.reduceEqDiff, Bool.false_eq_true]
    refine WS_of_exit ?_
    simp only [go_sem, ↓reduceIte, Nat.reduceEqDiff]
    refine WS_of_seq (WS_of_ops ?_)
    by_cases h0 : g = []
    · simp only [tuple_names_formed_r8, go_sem, ↓reduceIte, Nat.reduceEqDiff, z1, i5, l5, h0, wanted, decide_true, decide_false, beq_self_eq_true, pickA, show (false == true) = false from rfl, show (true == false) = false from rfl, Bool.false_eq_true, undefA, Bool.not_true, Bool.not_false]
      refine WS_of_ret ?_
      simp only [go_sem, ↓reduceIte, Nat.reduceEqDiff, tuple_names_formed_a]
      subst h0
      simp [formed6, hv5]
    · simp only [tuple_names_formed_r8, go_sem, ↓reduceIte, Nat.reduceEqDiff, z1, i5, l5, h0, wanted, decide_true, decide_false, beq_self_eq_true, pickA, show (false == true) = false from rfl, show (true == false) = false from rfl, Bool.false_eq_true, undefA, Bool.not_true, Bool.not_false, enterS, List.getD_cons_zero, List.getD_cons_succ]
      refine txF_at (F := fun s => .bool (nameG s)) rfl (by omega) ?_
      simp only [go_sem, ↓reduceIte, Nat.reduceEqDiff, wanted, decide_true, decide_false, beq_self_eq_true, pickA, show (false == true) = false from rfl, show (true == false) = false from rfl, Bool.false_eq_true, undefA, Bool.not_true, Bool.not_false]
      refine WS_of_ret ?_
      simp only [go_sem, ↓reduceIte, Nat.reduceEqDiff, tuple_names_formed_a]
      simp [formed6, hv5, h0]
  have hp' : (i : Int) < 5 := by omega
  obtain ⟨p, x1, x2⟩ := st.at (i := i) (by simp; omega) .i64
  have hmem : [a, b, c, d, e][i]'(by simp; omega) ∈ [a, b, c, d, e] := List.getElem_mem _
  simp only [tuple_names_formed_r2, go_sem, ↓reduceIte, Nat.reduceEqDiff, z6, z7, hp', decide_true]
  refine WS_of_seq (WS_of_cond ?_)
  simp only [go_sem, ↓reduceIte, Nat.reduceEqDiff]
  refine WS_of_skip ?_
  simp only [go_sem]
  refine WS_of_seq (WS_of_block (WS_of_seq (WS_of_ops ?_)))
  simp only [tuple_names_formed_r3, go_sem, ↓reduceIte, Nat.reduceEqDiff, z5, z7, x1, x2]
  refine WS_of_seq (WS_of_ops ?_)
  have hst : ([a, b, c, d, e].take (i + 1)).all nameG = nameG ([a, b, c, d, e][i]'(by simp; omega)) := by
    rw [← List.take_append_getElem (by simp; omega), List.all_append, hv]; simp
  generalize [a, b, c, d, e][i]'(by simp; omega) = x at hmem hst
  simp only [tuple_names_formed_r4, go_sem, ↓reduceIte, Nat.reduceEqDiff, enterS, List.getD_cons_zero, List.getD_cons_succ]
  refine txF_at (F := fun s => .bool (nameG s)) rfl (by have := hlen x hmem; omega) ?_
  cases hx : nameG x
  · simp only [go_sem, ↓reduceIte, Nat.reduceEqDiff, Bool.not_false]
    refine WS_of_cond ?_
    simp only [go_sem, ↓reduceIte, Nat.reduceEqDiff]
    refine WS_of_seq (WS_of_ops ?_)
    simp only [tuple_names_formed_r5, go_sem, ↓reduceIte, Nat.reduceEqDiff]
    refine WS_of_ret ?_
    simp only [go_sem, ↓reduceIte, Nat.reduceEqDiff, tuple_names_formed_a]
    have : [a, b, c, d, e].all nameG = false := by
      rw [List.all_eq_false]; exact ⟨x, hmem, by simp [hx]⟩
    simp [formed6, this]
  · simp only [go_sem, ↓reduceIte, Nat.reduceEqDiff, Bool.not_true]
    refine WS_of_cond ?_
    simp only [go_sem, ↓reduceIte, Nat.reduceEqDiff, Bool.false_eq_true]
    refine WS_of_skip ?_
    simp only [go_sem]
    refine WS_of_ops ?_
    have a1 : IntKind.i64.wrap ((i : Int) + 1) = ((i + 1 : Nat) : Int) := wrapI (n := i + 1) (by omega)
    simp only [tuple_names_formed_r6, go_sem, ↓reduceIte, Nat.reduceEqDiff, z7, a1]
    exact ⟨5 - (i + 1), by omega, trivial, i + 1, rfl, by omega, by rw [hst, hx], z1, z5, z6, rfl⟩
def LE : List Ovr := (n_tuple_of, pureO ofF) :: (n_tuple_names_tuple, pureO ofF) :: (n_tuple_names_formed, pureO formed6F) :: LD
end Go.Proofs.YtgjcdpanabjcmaaGreatDoor.Ev.C

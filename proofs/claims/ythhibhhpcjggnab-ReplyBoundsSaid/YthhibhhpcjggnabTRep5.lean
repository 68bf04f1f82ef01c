/- Answers out of bytes: what Take answers, by plain definition. -/
import Derived.Test.YthhibhhpcjggnabTRep4
namespace Go.Proofs.Ythhibhhpcjggnab.Ev.C
open Go Go.Proofs.Ythhibhhpcjggnab.Ev
set_option linter.unusedSimpArgs false
set_option linter.unusedVariables false
/-- what is read of bytes, step by step -/
def Steps (bs : List UInt8) (R : Rep) (S : RS) : Prop := ∃ (n1 n2 n3 n4 : Nat) (s1 s2 s3 s4 s5 : RS) (L : List (List UInt8)) (T : List UInt8),
  rNum (bs, 0) = (n1, s1) ∧ rNum s1 = (n2, s2) ∧ rNum s2 = (n3, s3) ∧ rNum s3 = (n4, s4) ∧ rList 64 s4 = (L, s5) ∧ rText s5 = (T, S) ∧ R = ⟨smallN n1, smallN n2, smallN n3, decide (n4 = 1), L, T⟩
theorem steps_any (bs : List UInt8) : ∃ R S, Steps bs R S := by
  obtain ⟨n1, s1, e1⟩ : ∃ n s, rNum (bs, 0) = (n, s) := ⟨_, _, rfl⟩
  obtain ⟨n2, s2, e2⟩ : ∃ n s, rNum s1 = (n, s) := ⟨_, _, rfl⟩
  obtain ⟨n3, s3, e3⟩ : ∃ n s, rNum s2 = (n, s) := ⟨_, _, rfl⟩
  obtain ⟨n4, s4, e4⟩ : ∃ n s, rNum s3 = (n, s) := ⟨_, _, rfl⟩
  obtain ⟨L, s5, e5⟩ : ∃ n s, rList 64 s4 = (n, s) := ⟨_, _, rfl⟩
  obtain ⟨T, s6, e6⟩ : ∃ n s, rText s5 = (n, s) := ⟨_, _, rfl⟩
  exact ⟨_, s6, n1, n2, n3, n4, s1, s2, s3, s4, s5, L, T, e1, e2, e3, e4, e5, e6, rfl⟩
theorem steps_body {r : Rep} (h : mayR r = true) (hf : FewR 100000 r) (rest : List UInt8) : Steps (body r ++ rest) r (rest, 0) := by
  obtain ⟨⟨a1, a2⟩, ⟨b1, b2⟩, ⟨c1, c2⟩, d1, d2⟩ := mayR_iff.1 h
  have hi : isN r.is < 18446744073709551616 := by unfold isN; split <;> decide
  have hl : ∀ t ∈ r.list, t.length < 18446744073709551616 := fun t ht => by have := hf.1 t ht; omega
  have hm : r.more.length < 18446744073709551616 := by have := hf.2.1; omega
  have e1 : rNum (body r ++ rest, 0) = (r.code.toNat, (num r.rev.toNat ++ (num r.steps.toNat ++ (num (isN r.is) ++ (lst r.list ++ (txt r.more ++ rest)))), 0)) := by
    rw [show body r ++ rest = num r.code.toNat ++ (num r.rev.toNat ++ (num r.steps.toNat ++ (num (isN r.is) ++ (lst r.list ++ (txt r.more ++ rest))))) from by simp only [body, List.append_assoc]]
    exact rNum_num (by omega) _
  have e5 := rList_lst (l := r.list) (by omega) hl (txt r.more ++ rest) 64
  rw [if_neg (by omega)] at e5
  have e7 : decide (isN r.is = 1) = r.is := by unfold isN; cases r.is <;> rfl
  refine ⟨_, _, _, _, _, _, _, _, _, _, _, e1, rNum_num (by omega) _, rNum_num (by omega) _, rNum_num hi _, e5, rText_txt hm _, ?_⟩
  rw [small_id a1 a2, small_id b1 b2, small_id c1 c2, e7]
theorem steps_det {bs : List UInt8} {R R' : Rep} {S S' : RS} (a : Steps bs R S) (b : Steps bs R' S') : R = R' ∧ S = S' := by
  obtain ⟨n1, n2, n3, n4, s1, s2, s3, s4, s5, L, T, e1, e2, e3, e4, e5, e6, rfl⟩ := a
  obtain ⟨m1, m2, m3, m4, t1, t2, t3, t4, t5, L', T', f1, f2, f3, f4, f5, f6, rfl⟩ := b
  rw [e1] at f1; cases f1
  rw [e2] at f2; cases f2
  rw [e3] at f3; cases f3
  rw [e4] at f4; cases f4
  rw [e5] at f5; cases f5
  rw [e6] at f6; cases f6
  exact ⟨rfl, rfl⟩
theorem take_spec37 {h : H} {v : AV} {bs : List UInt8} {R : Rep} {S : RS} (st : Steps bs R S) (wf : h.Wf) (b : Bytes h v bs) (sl : Slot (Old h.n) h v) (hl : bs.length ≤ 100000) :
    WCall E0 37 [v] h fun x h' => ∃ r vl vm e, x = .val (.tup [.agg (repL r vl vm), .int .i64 e]) ∧ IsRep h' r vl vm ∧ FewR 100000 r ∧ Keep (Old h.n) h h' ∧ TakeR R S bs r e := by
  obtain ⟨n1, n2, n3, n4, s1, s2, s3, s4, s5, L, T, e1, e2, e3, e4, e5, e6, rfl⟩ := st
  exact take_rep e1 e2 e3 e4 e5 e6 wf b sl hl
/-- an answer's bytes are taken as it was -/
theorem take_back {r r' : Rep} {e : Int} {R : Rep} {S : RS} (h : mayR r = true) (hf : FewR 100000 r) (st : Steps (body r) R S) (t : TakeR R S (body r) r' e) : e = 0 ∧ r' = r := by
  have := steps_body h hf []
  rw [List.append_nil] at this
  obtain ⟨rfl, rfl⟩ := steps_det st this
  rcases t with ⟨h1, h2, _⟩ | ⟨_, _, h3⟩
  · exact ⟨h1, h2⟩
  · exact absurd ⟨rfl, h, by simp [putR, h]⟩ h3
/-- bytes of which a beginning, or more, is an answer's -/
theorem take_other {r r' : Rep} {a b bs : List UInt8} {e : Int} {R : Rep} {S : RS} (h : mayR r = true) (hf : FewR 100000 r) (hf' : FewR 100000 r') (hbs : bs ++ a = body r ++ b) (hab : a ≠ b) (t : TakeR R S bs r' e) : e ≠ 0 := by
  rintro rfl
  rcases t with ⟨_, rfl, h3, h4⟩ | ⟨h1, _⟩
  · have hb : body r' = bs := by rw [← h4]; simp [putR, h3]
    rw [← hb] at hbs
    exact hab (body_prefix h3 h (fun t ht => by have := hf'.1 t ht; omega) (by have := hf'.2.1; omega) (fun t ht => by have := hf.1 t ht; omega) (by have := hf.2.1; omega) hbs)
  · exact h1 rfl
end Go.Proofs.Ythhibhhpcjggnab.Ev.C

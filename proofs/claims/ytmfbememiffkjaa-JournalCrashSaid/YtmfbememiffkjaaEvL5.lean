/- Iterators whose arguments lie in memory; a box that is written within a loop. -/
import Derived.Test.YtmfbememiffkjaaEvL4
namespace Go.Proofs.Ytmfbememiffkjaa.Ev
set_option linter.unusedVariables false
set_option linter.unusedSimpArgs false
/-- a function that yields n times; X tells the arguments, and what lies behind them in memory -/
def IterX (E : Env) (f : Nat) (cs : List AV) (n : Nat) (X : (Nat → Prop) → Nat → List AV → H → Prop) (N : Nat) (Mem : H → Prop) : Prop :=
  ∀ (y : AV) (I : (Nat → Prop) → Nat → H → Prop) (R : (Nat → Prop) → H → Prop) (h : H), y.cells = [y] → h.n = N →
    (∀ G j h, I G j h → h.Wf ∧ Mem h) →
    (∀ G j h h', I G j h → Keep (Mine N G) h h' → I G j h') → (∀ G h h', R G h → Keep (Mine N G) h h' → R G h') →
    (∀ G j x, j < n → ∀ h, X G j x h → I G j h → Clean N G h → GIn N G h → WFun E y x h (YOut N G h (fun G' => I G' (j + 1)) R)) →
    (∀ G h, I G n h → R G h) → I (fun _ => False) 0 h → WCall E f (y :: cs) h fun out h' => out = .val (.tup []) ∧ ∃ G, R G h'
/-- a range over an iterator whose arguments lie in memory -/
theorem WS_of_rangeX {E : Env} {k : List Fr1} {Q : Post} {s : S} {h : H} {nt : Nat} {f : AOpd} {ps : List Nat} {assign body : ACode} {g : Nat} {cs : List AV} {n : Nat} {X : (Nat → Prop) → Nat → List AV → H → Prop} {Mem : H → Prop}
    (hf : f.ev s = .func g cs) (it : IterX E g cs n X (h.n + 1) Mem) (J : (Nat → Prop) → Nat → H → Prop) (F : (Nat → Prop) → Option (Option Nat) → H → Prop)
    (hl : ∀ G j x h1, X G j x h1 → x.length = ps.length)
    (J0 : J (fun _ => False) 0 h) (Jm : ∀ G j h1, J G j h1 → h1.Wf ∧ Mem h1) (Jst : ∀ G j h1 h2, (∀ k, G k → h.n < k) → J G j h1 → Keep (Mine h.n G) h1 h2 → J G j h2) (Fst : ∀ G p h1 h2, (∀ k, G k → h.n < k) → F G p h1 → Keep (Mine h.n G) h1 h2 → F G p h2)
    (round : ∀ G j x, j < n → ∀ h1, X G j x h1 → GIn (h.n + 1) G h1 → Clean h.n G h1 → J G j h1 → WC E assign (fun ex s1 h2 => ex = .normal ∧ Keep (Its h.n G h1) h1 h2 ∧ ∀ h2', h2'.n = h2.n → Keep (fun k => k ≠ h.n) h2 h2' → (∀ cs g, h2'.get h.n ≠ some (.cells cs g)) →
      WC E body (fun ex _ h3 => Keep (Its h.n G h1) h2' h3 ∧ match ex with | .normal => J (More G h1.n h3.n) (j + 1) h3 | .ret => F (More G h1.n h3.n) (some none) h3 | .exit id => F (More G h1.n h3.n) (some (some id)) h3 | .panic _ => False) s1 h2') (setPs s ps x) h1)
    (fin' : ∀ G h1, J G n h1 → F G none h1)
    (out : ∀ G p h1, F G p h1 → match p with | none => WNext E k Q s h1 | some none => Q .ret s h1 | some (some id) => WExit E id k Q s h1) :
    WS E (.range nt f ps assign body) k Q s h := by
  refine WC_range hf ?_
  have hL0 : (h.push (.loop ⟨0, none, nt, s, ps, assign, body⟩)).get h.n = some (.loop ⟨0, none, nt, s, ps, assign, body⟩) := by rw [H.get_push, if_pos rfl]
  have up : ∀ {G : Nat → Prop} {h1 h2 : H}, Keep (Mine (h.n + 1) G) h1 h2 → Keep (Mine h.n G) h1 h2 := fun k => k.weaken fun o ho => ho.imp (fun x => Nat.lt_succ_of_lt x) id
  refine (it (.yield h.n) (fun G j h1 => h1.get h.n = some (.loop ⟨0, none, nt, s, ps, assign, body⟩) ∧ (∀ k, G k → h.n < k) ∧ J G j h1)
    (fun G h1 => ∃ p L, h1.get h.n = some (.loop L) ∧ L.st ≠ 1 ∧ L.pend = p ∧ (∀ k, G k → h.n < k) ∧ F G p h1) _ rfl rfl ?_ ?_ ?_ ?_ ?_ ?_).mono ?_
  · intro G j h1 a
    exact Jm _ _ _ a.2.2
  · intro G j h1 h2 a kk
    exact ⟨by rw [kk.get _ (.inl (Nat.lt_succ_self _))]; exact a.1, a.2.1, Jst _ _ _ _ a.2.1 a.2.2 (up kk)⟩
  · rintro G h1 h2 ⟨p, L, a, b, c, e, d⟩ kk
    exact ⟨p, L, by rw [kk.get _ (.inl (Nat.lt_succ_self _))]; exact a, b, c, e, Fst _ _ _ _ e d (up kk)⟩
  · rintro G j x hx h1 hX ⟨hg, hG, hj⟩ hc hi
    rw [WFun_yield]
    refine WYield_round hg (hl _ _ _ _ hX) ?_
    have hn := hi.1
    have hc' : Clean h.n G h1 := fun k cs g e hk hkG => by
      by_cases hk' : k = h.n
      · subst hk'; rw [hg] at e; cases e
      · obtain ⟨a, b⟩ := hc k cs g e (by omega) hkG
        exact ⟨by omega, b⟩
    refine (round G j x hx h1 hX hi hc' hj).mono ?_
    rintro ex s1 h2 ⟨rfl, k1, w⟩
    have hnG : ¬ G h.n := fun x => Nat.lt_irrefl _ (hG _ x)
    have hg2 : h2.get h.n = some (.loop ⟨0, none, nt, s, ps, assign, body⟩) := by rw [k1.get _ ⟨Nat.le_refl _, by omega, hnG⟩]; exact hg
    refine ⟨rfl, _, hg2, rfl, ?_⟩
    have ks := Keep.setLoop (L' := ⟨1, none, nt, s, ps, assign, body⟩) hg2
    refine (w (h2.setLoop h.n ⟨1, none, nt, s, ps, assign, body⟩) rfl ks (fun cs g e => by rw [H.get_setLoop, if_pos rfl] at e; cases e)).mono ?_
    intro ex s2 h3 ⟨k3, q⟩
    have hn2 : h.n + 1 ≤ h2.n := Nat.le_trans hn k1.n
    have hg3 : h3.get h.n = some (.loop ⟨1, none, nt, s, ps, assign, body⟩) := by
      rw [k3.get _ ⟨Nat.le_refl _, by omega, hnG⟩, H.get_setLoop, if_pos rfl]
    have kk : ∀ L', Keep (Its (h.n + 1) G h1) h1 (h3.setLoop h.n L') := by
      intro L'
      have a1 : Keep (Its (h.n + 1) G h1) h1 h2 := k1.weaken fun o ho => ⟨by have := ho.1; omega, ho.2⟩
      have a2 : Keep (Its (h.n + 1) G h1) h2 (h2.setLoop h.n ⟨1, none, nt, s, ps, assign, body⟩) := ks.weaken fun o ho => by have := ho.1; omega
      have a3 : Keep (Its (h.n + 1) G h1) (h2.setLoop h.n ⟨1, none, nt, s, ps, assign, body⟩) h3 := k3.weaken fun o ho => ⟨by have := ho.1; omega, ho.2⟩
      have a4 : Keep (Its (h.n + 1) G h1) h3 (h3.setLoop h.n L') := (Keep.setLoop hg3).weaken fun o ho => by have := ho.1; omega
      exact ((a1.trans a2).trans a3).trans a4
    have hG3 : ∀ k, More G h1.n h3.n k → h.n < k := fun k hk => by
      rcases hk with hk | hk
      · exact hG k hk
      · omega
    have ko : ∀ L', Keep (Mine h.n (More G h1.n h3.n)) h3 (h3.setLoop h.n L') := fun L' => (Keep.setLoop hg3).weaken fun o ho => by
      rcases ho with ho | ho
      · exact Nat.ne_of_lt ho
      · exact Ne.symm (Nat.ne_of_lt (hG3 o ho))
    have hn3 : ∀ L', (h3.setLoop h.n L').n = h3.n := fun _ => rfl
    refine ⟨_, hg3, ?_⟩
    cases ex with
    | normal => exact ⟨kk _, .inl ⟨rfl, by rw [H.get_setLoop, if_pos rfl], hG3, Jst _ _ _ _ hG3 q (ko _)⟩⟩
    | ret => exact ⟨kk _, .inr ⟨rfl, some none, _, by rw [H.get_setLoop, if_pos rfl], by simp, rfl, hG3, Fst _ (some none) _ _ hG3 q (ko _)⟩⟩
    | exit id => exact ⟨kk _, .inr ⟨rfl, some (some id), _, by rw [H.get_setLoop, if_pos rfl], by simp, rfl, hG3, Fst _ (some (some id)) _ _ hG3 q (ko _)⟩⟩
    | panic v => exact q.elim
  · rintro G h1 ⟨a, b, c⟩
    exact ⟨none, _, a, by simp, rfl, b, fin' _ _ c⟩
  · exact ⟨hL0, fun k hk => hk.elim, Jst _ _ _ _ (fun k hk => hk.elim) J0 ((Keep.pushLoop (Nat.le_refl _) _).weaken fun o ho => ho.elim id fun x => x.elim)⟩
  · rintro r h1 ⟨rfl, G, p, L, hg, hst, hp, hG, hF⟩
    refine ⟨L, hg, hst, ?_⟩
    have hq := out _ _ _ (Fst _ _ _ _ hG hF ((Keep.setLoop (L' := { L with st := 3 }) hg).weaken fun o ho => by
      rcases ho with ho | ho
      · exact Nat.ne_of_lt ho
      · exact Ne.symm (Nat.ne_of_lt (hG o ho))))
    subst hp
    revert hq
    cases L.pend with
    | none => exact id
    | some j => cases j with
      | none => intro hq; rw [fin_ret]; exact hq
      | some id => exact _root_.id
theorem storeA_n {h h' : H} {n : Nat} {x v : AV} (e : storeA h n x v = some h') : h'.n = h.n := by
  unfold storeA at e
  split at e
  · split at e
    · unfold H.put at e
      split at e
      · split at e
        · cases e
          show (if _ then _ else _ : H).n = _
          split <;> rfl
        · cases e
      · cases e
    · cases e
  · cases e
/-- what is the iterator's is apart from what is the caller's -/
theorem its_apart {N : Nat} {G : Nat → Prop} {h : H} (c : Clean N G h) {gs : List Nat} (hg : ∀ g ∈ gs, Mine N G g) {v : AV} (s : Slot (Its N G h) h v) : Slot (Apart gs h) h v :=
  s.mono fun o ho => ⟨ho.2.1, fun hm => by
    rcases hg _ hm with x | x
    · have := ho.1; omega
    · exact ho.2.2 x, fun cs g e hm => by
    obtain ⟨a, b⟩ := c o cs g e ho.1 ho.2.2
    rcases hg _ hm with x | x
    · omega
    · exact b x⟩
/-- a box that is written: no other row -/
theorem Box.only {r : Nat} {cs : List AV} {h h' : H} (wf : h.Wf) (b : Box r cs h) (k : KeepA [r] h h') : Keep (fun q => q < h.n ∧ q ≠ r) h h' :=
  k.weaken fun q hq => ⟨hq.1, by simpa using hq.2, fun cs g e hm => by
    simp only [List.mem_cons, List.not_mem_nil, or_false] at hm
    subst hm
    have := wf.mem _ _ _ e
    rw [b.tip] at this
    exact hq.2 (by omega)⟩
end Go.Proofs.Ytmfbememiffkjaa.Ev

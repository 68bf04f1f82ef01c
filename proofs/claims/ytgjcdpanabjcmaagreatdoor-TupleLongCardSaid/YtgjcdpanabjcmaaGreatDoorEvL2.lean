/- Ranges over functions: what an iterator is, and a rule for the loop over it. -/
import Derived.Test.YtgjcdpanabjcmaaGreatDoorEv29
namespace Go.Proofs.YtgjcdpanabjcmaaGreatDoor.Ev
set_option linter.unusedVariables false
set_option linter.unusedSimpArgs false

theorem Keep.pushLoop {N : Nat} {h : H} (hN : N ≤ h.n) (L : LoopRec) : Keep (Old N) h (h.push (.loop L)) where
  wf := fun w => by
    refine ⟨fun g p e => Nat.lt_succ_of_lt (w.gr g p e), fun o cs g e => ?_, fun o x e => ?_, w.kt, w.tl_push _⟩
    · rw [H.get_push] at e
      split at e
      · cases e
      · exact w.mem o cs g e
    · rw [H.get_push] at e
      split at e
      · rename_i e'; subst e'; exact Nat.lt_succ_self _
      · exact Nat.lt_succ_of_lt (w.ob o x e)
  n := Nat.le_succ _
  get := fun o ho => by rw [H.get_push, if_neg]; exact Nat.ne_of_lt (Nat.lt_of_lt_of_le ho hN)
  tip := fun _ _ => rfl
  kill := fun _ _ => rfl
theorem H.get_setLoop (h : H) (o : Nat) (L : LoopRec) (j : Nat) : (h.setLoop o L).get j = if j = o then some (.loop L) else h.get j := Tr.get_set _ _ _ _
theorem Keep.setLoop {h : H} {o : Nat} {L L' : LoopRec} (hg : h.get o = some (.loop L)) : Keep (fun j => j ≠ o) h (h.setLoop o L') where
  wf := fun w => by
    refine ⟨w.gr, fun j cs g e => ?_, fun j x e => ?_, w.kt, w.tl⟩
    · rw [H.get_setLoop] at e
      split at e
      · cases e
      · exact w.mem j cs g e
    · rw [H.get_setLoop] at e
      split at e
      · rename_i e'; subst e'; exact w.ob _ _ hg
      · exact w.ob j x e
  n := Nat.le_refl _
  get := fun j hj => by rw [H.get_setLoop, if_neg hj]
  tip := fun _ _ => rfl
  kill := fun _ _ => rfl

/-- rows that are new are in groups that are new -/
theorem fresh_group {h h' : H} (k : Keep (Old h.n) h h') (wf : h.Wf) (wf' : h'.Wf) {o : Nat} {cs : List AV} {g : Nat} (e : h'.get o = some (.cells cs (some g))) (ho : h.n ≤ o) : h.n ≤ g := by
  by_cases hg : g < h.n
  · have h1 := (wf'.mem _ _ _ e).2
    rw [k.tip g hg] at h1
    have := wf.tl g hg
    omega
  · omega

/-! ### whose rows are whose: those of the caller (ahead of N, and G: what came of its rounds), those of the iterator -/
abbrev Mine (N : Nat) (G : Nat → Prop) : Nat → Prop := fun k => k < N ∨ G k
abbrev Its (N : Nat) (G : Nat → Prop) (h : H) : Nat → Prop := fun k => N ≤ k ∧ k < h.n ∧ ¬ G k
/-- none of the iterator's rows is in a group of the caller's -/
def Clean (N : Nat) (G : Nat → Prop) (h : H) : Prop := ∀ k cs g, h.get k = some (.cells cs (some g)) → N ≤ k → ¬ G k → N ≤ g ∧ ¬ G g
/-- what came of a round is the caller's -/
def More (G : Nat → Prop) (a b : Nat) : Nat → Prop := fun k => G k ∨ (a ≤ k ∧ k < b)
def GIn (N : Nat) (G : Nat → Prop) (h : H) : Prop := N ≤ h.n ∧ ∀ k, G k → N ≤ k ∧ k < h.n
theorem GIn.up {N : Nat} {G : Nat → Prop} {h h' : H} (a : GIn N G h) (hn : h.n ≤ h'.n) : GIn N G h' := ⟨Nat.le_trans a.1 hn, fun k hk => ⟨(a.2 k hk).1, Nat.lt_of_lt_of_le (a.2 k hk).2 hn⟩⟩
theorem GIn.more {N : Nat} {G : Nat → Prop} {h h' : H} (a : GIn N G h) (hn : h.n ≤ h'.n) : GIn N (More G h.n h'.n) h' := ⟨Nat.le_trans a.1 hn, fun k hk => by
  rcases hk with hk | hk
  · exact (a.up hn).2 k hk
  · exact ⟨Nat.le_trans a.1 hk.1, hk.2⟩⟩
theorem GIn.weaken {N : Nat} {G : Nat → Prop} {h : H} (a : GIn (N + 1) G h) : GIn N G h := ⟨by have := a.1; omega, fun k hk => ⟨by have := (a.2 k hk).1; omega, (a.2 k hk).2⟩⟩
theorem GIn.none (h : H) : GIn h.n (fun _ => False) h := ⟨Nat.le_refl _, fun k hk => hk.elim⟩
theorem Clean.start {h : H} (wf : h.Wf) : Clean h.n (fun _ => False) h := fun k cs g e hk _ => by have := wf.ob _ _ e; omega
theorem Clean.fresh {N : Nat} {G : Nat → Prop} {h h' : H} (c : Clean N G h) (gi : GIn N G h) (k : Keep (Old h.n) h h') (wf : h.Wf) : Clean N G h' := by
  intro o cs g e ho hG
  by_cases hlt : o < h.n
  · rw [k.get o hlt] at e; exact c o cs g e ho hG
  · have := fresh_group k wf (k.wf wf) e (by omega)
    exact ⟨Nat.le_trans gi.1 this, fun hg => by have := (gi.2 g hg).2; omega⟩
theorem Clean.box {N : Nat} {G : Nat → Prop} {h h' : H} (c : Clean N G h) {r : Nat} {cs cs' : List AV} (wf : h.Wf) (b : Box r cs h) (k : KeepA [r] h h') (b' : Box r cs' h') (hn : h'.n = h.n) : Clean N G h' := by
  intro o cs1 g e ho hG
  by_cases hr : o = r
  · subst hr
    rw [b'.get] at e; cases e
    exact ⟨ho, hG⟩
  · have hlt : o < h.n := by rw [← hn]; exact (k.wf wf).ob _ _ e
    have hap : Apart [r] h o := ⟨hlt, by simpa using hr, fun cs2 g2 e2 hm => by
      simp only [List.mem_cons, List.not_mem_nil, or_false] at hm
      subst hm
      have := wf.mem _ _ _ e2
      rw [b.tip] at this
      omega⟩
    rw [k.get o hap] at e
    exact c o cs1 g e ho hG
/-- a loop's record that is written, or anything else that is no row -/
theorem Clean.same {N : Nat} {G : Nat → Prop} {h h' : H} (c : Clean N G h) (hs : ∀ o cs g, h'.get o = some (.cells cs (some g)) → h.get o = some (.cells cs (some g))) : Clean N G h' :=
  fun o cs g e ho hG => c o cs g (hs o cs g e) ho hG
theorem Clean.setLoop {N : Nat} {G : Nat → Prop} {h : H} (c : Clean N G h) (o : Nat) (L : LoopRec) : Clean N G (h.setLoop o L) :=
  c.same fun q cs g e => by
    rw [H.get_setLoop] at e
    split at e
    · cases e
    · exact e
theorem Clean.pushLoop {N : Nat} {G : Nat → Prop} {h : H} (c : Clean N G h) (L : LoopRec) : Clean N G (h.push (.loop L)) :=
  c.same fun q cs g e => by
    rw [H.get_push] at e
    split at e
    · cases e
    · exact e
/-- behind a round -/
theorem Clean.round {N : Nat} {G : Nat → Prop} {h h' : H} (c : Clean N G h) (gi : GIn N G h) (wf' : h'.Wf) (k : Keep (Its N G h) h h') : Clean N (More G h.n h'.n) h' := by
  intro o cs g e ho hG
  have hlt : o < h.n := by
    have h1 := wf'.ob _ _ e
    by_cases hl : o < h.n
    · exact hl
    · exact absurd (.inr ⟨by omega, h1⟩) hG
  have hG' : ¬ G o := fun x => hG (.inl x)
  have e0 := e
  rw [k.get o ⟨ho, hlt, hG'⟩] at e
  obtain ⟨a, b⟩ := c o cs g e ho hG'
  refine ⟨a, fun hm => ?_⟩
  rcases hm with hm | hm
  · exact b hm
  · have := (wf'.mem _ _ _ e0).1
    omega
/-- what a caller changes of its own rows leaves the iterator's -/
theorem its_of_groups {N : Nat} {G : Nat → Prop} {h h' : H} (c : Clean N G h) {gs : List Nat} (hg : ∀ g ∈ gs, Mine N G g) (k : KeepA gs h h') : Keep (Its N G h) h h' :=
  k.weaken fun o ho => ⟨ho.2.1, fun hm => by
    rcases hg _ hm with x | x
    · have := ho.1; omega
    · exact ho.2.2 x, fun cs g e hm => by
    obtain ⟨a, b⟩ := c o cs g e ho.1 ho.2.2
    rcases hg _ hm with x | x
    · omega
    · exact b x⟩

/-- what a call of yield leaves: on, or no more -/
def YOut (N : Nat) (G : Nat → Prop) (h : H) (On Off : (Nat → Prop) → H → Prop) : AOut → H → Prop := fun out h' =>
  Keep (Its N G h) h h' ∧ (out = .val (.bool true) ∧ On (More G h.n h'.n) h' ∨ out = .val (.bool false) ∧ Off (More G h.n h'.n) h')
/-- a function that yields these, one after the other; Mem: what must be there for it -/
def IterSpec (E : Env) (f : Nat) (cs : List AV) (xs : List (List AV)) (N : Nat) (Mem : H → Prop) : Prop :=
  ∀ (y : AV) (I : (Nat → Prop) → Nat → H → Prop) (R : (Nat → Prop) → H → Prop) (h : H), y.cells = [y] → h.n = N →
    (∀ G j h, I G j h → h.Wf ∧ Mem h) →
    (∀ G j h h', I G j h → Keep (Mine N G) h h' → I G j h') → (∀ G h h', R G h → Keep (Mine N G) h h' → R G h') →
    (∀ G j x, xs[j]? = some x → ∀ h, I G j h → Clean N G h → GIn N G h → WFun E y x h (YOut N G h (fun G' => I G' (j + 1)) R)) →
    (∀ G h, I G xs.length h → R G h) → I (fun _ => False) 0 h → WCall E f (y :: cs) h fun out h' => out = .val (.tup []) ∧ ∃ G, R G h'

theorem WFun.mono {E : Env} {f : AV} {args : List AV} {h : H} {R R' : AOut → H → Prop} (w : WFun E f args h R) (hr : ∀ r h, R r h → R' r h) : WFun E f args h R' := by
  unfold WFun WFunG at w ⊢
  split at w
  · exact Holds.monoC w hr
  · exact Holds.monoC w hr
  · exact Holds.monoC w hr
  · exact w.elim

/-- a range over an iterator -/
theorem WS_of_range {E : Env} {k : List Fr1} {Q : Post} {s : S} {h : H} {nt : Nat} {f : AOpd} {ps : List Nat} {assign body : ACode} {g : Nat} {cs : List AV} {xs : List (List AV)} {Mem : H → Prop}
    (hf : f.ev s = .func g cs) (hg : (E.T g).isSome = true) (it : IterSpec E g cs xs (h.n + 1) Mem) (J : (Nat → Prop) → Nat → H → Prop) (F : (Nat → Prop) → Option (Option Nat) → H → Prop)
    (hl : ∀ x ∈ xs, x.length = ps.length)
    (J0 : J (fun _ => False) 0 h) (Jm : ∀ G j h1, J G j h1 → h1.Wf ∧ Mem h1) (Jst : ∀ G j h1 h2, (∀ k, G k → h.n < k) → J G j h1 → Keep (Mine h.n G) h1 h2 → J G j h2) (Fst : ∀ G p h1 h2, (∀ k, G k → h.n < k) → F G p h1 → Keep (Mine h.n G) h1 h2 → F G p h2)
    (round : ∀ G j x, xs[j]? = some x → ∀ h1, GIn (h.n + 1) G h1 → Clean h.n G h1 → J G j h1 → WC E assign (fun ex s1 h2 => ex = .normal ∧ Keep (Its h.n G h1) h1 h2 ∧ ∀ h2', h2'.n = h2.n → Keep (fun k => k ≠ h.n) h2 h2' → (∀ cs g, h2'.get h.n ≠ some (.cells cs g)) →
      WC E body (fun ex _ h3 => Keep (Its h.n G h1) h2' h3 ∧ match ex with | .normal => J (More G h1.n h3.n) (j + 1) h3 | .ret => F (More G h1.n h3.n) (some none) h3 | .exit id => F (More G h1.n h3.n) (some (some id)) h3 | .panic _ => False) s1 h2') (setPs s ps x) h1)
    (fin' : ∀ G h1, J G xs.length h1 → F G none h1)
    (out : ∀ G p h1, F G p h1 → match p with | none => WNext E k Q s h1 | some none => Q .ret s h1 | some (some id) => WExit E id k Q s h1) :
    WS E (.range nt f ps assign body) k Q s h := by
  refine WC_range hf hg ?_
  have hL0 : (h.push (.loop ⟨0, none, nt, s, ps, assign, body⟩)).get h.n = some (.loop ⟨0, none, nt, s, ps, assign, body⟩) := by rw [H.get_push, if_pos rfl]
  have up : ∀ {G : Nat → Prop} {h1 h2 : H}, Keep (Mine (h.n + 1) G) h1 h2 → Keep (Mine h.n G) h1 h2 := fun k => k.weaken fun o ho => ho.imp (fun x => Nat.lt_succ_of_lt x) id
  refine (it (.yield h.n) (fun G j h1 => h1.get h.n = some (.loop ⟨0, none, nt, s, ps, assign, body⟩) ∧ (∀ k, G k → h.n < k) ∧ J G j h1)
    (fun G h1 => ∃ p L, h1.get h.n = some (.loop L) ∧ L.st ≠ 1 ∧ L.pend = p ∧ (∀ k, G k → h.n < k) ∧ F G p h1) _ rfl rfl ?_ ?_ ?_ ?_ ?_ ?_).mono ?_
  · intro G j h1 a
    exact Jm _ _ _ a.2.2
  · intro G j h1 h2 a kk
    exact ⟨by rw [kk.get _ (.inl (Nat.lt_succ_self _))]; exact a.1, a.2.1, Jst _ _ _ _ a.2.1 a.2.2 (up kk)⟩
  · rintro G h1 h2 ⟨p, L, a, b, c, e, d⟩ kk
    exact ⟨p, L, by rw [kk.get _ (.inl (Nat.lt_succ_self _))]; exact a, b, c, e, Fst _ _ _ _ e d (up kk)⟩
  · rintro G j x hx h1 ⟨hg, hG, hj⟩ hc hi
    rw [WFun_yield]
    refine WYield_round hg (hl x (List.mem_of_getElem? hx)) ?_
    have hn := hi.1
    have hc' : Clean h.n G h1 := fun k cs g e hk hkG => by
      by_cases hk' : k = h.n
      · subst hk'; rw [hg] at e; cases e
      · obtain ⟨a, b⟩ := hc k cs g e (by omega) hkG
        exact ⟨by omega, b⟩
    refine (round G j x hx h1 hi hc' hj).mono ?_
    rintro ex s1 h2 ⟨rfl, k1, w⟩
    have hnG : ¬ G h.n := fun x => Nat.lt_irrefl _ (hG _ x)
    have hg2 : h2.get h.n = some (.loop ⟨0, none, nt, s, ps, assign, body⟩) := by rw [k1.get _ ⟨Nat.le_refl _, by omega, hnG⟩]; exact hg
    refine ⟨rfl, _, hg2, rfl, ?_⟩
    have ks := Keep.setLoop (L' := ⟨1, none, nt, s, ps, assign, body⟩) hg2
    refine (w (h2.setLoop h.n ⟨1, none, nt, s, ps, assign, body⟩) rfl ks (fun cs g e => by rw [H.get_setLoop, if_pos rfl] at e; cases e)).mono ?_
    intro ex s2 h3 ⟨k3, q⟩
    have hn2 : h.n + 1 ≤ h2.n := Nat.le_trans hn k1.n
    have hg3 : h3.get h.n = some (.loop ⟨1, none, nt, s, ps, assign, body⟩) := by
      rw [k3.get _ ⟨Nat.le_refl _, by omega, hnG⟩, H.get_setLoop, if_pos rfl]
    have kk : ∀ L', Keep (Its (h.n + 1) G h1) h1 (h3.setLoop h.n L') := by
      intro L'
      have a1 : Keep (Its (h.n + 1) G h1) h1 h2 := k1.weaken fun o ho => ⟨by have := ho.1; omega, ho.2⟩
      have a2 : Keep (Its (h.n + 1) G h1) h2 (h2.setLoop h.n ⟨1, none, nt, s, ps, assign, body⟩) := ks.weaken fun o ho => by have := ho.1; omega
      have a3 : Keep (Its (h.n + 1) G h1) (h2.setLoop h.n ⟨1, none, nt, s, ps, assign, body⟩) h3 := k3.weaken fun o ho => ⟨by have := ho.1; omega, ho.2⟩
      have a4 : Keep (Its (h.n + 1) G h1) h3 (h3.setLoop h.n L') := (Keep.setLoop hg3).weaken fun o ho => by have := ho.1; omega
      exact ((a1.trans a2).trans a3).trans a4
    have hG3 : ∀ k, More G h1.n h3.n k → h.n < k := fun k hk => by
      rcases hk with hk | hk
      · exact hG k hk
      · omega
    have ko : ∀ L', Keep (Mine h.n (More G h1.n h3.n)) h3 (h3.setLoop h.n L') := fun L' => (Keep.setLoop hg3).weaken fun o ho => by
      rcases ho with ho | ho
      · exact Nat.ne_of_lt ho
      · exact Ne.symm (Nat.ne_of_lt (hG3 o ho))
    have hn3 : ∀ L', (h3.setLoop h.n L').n = h3.n := fun _ => rfl
    refine ⟨_, hg3, ?_⟩
    cases ex with
    | normal => exact ⟨kk _, .inl ⟨rfl, by rw [H.get_setLoop, if_pos rfl], hG3, Jst _ _ _ _ hG3 q (ko _)⟩⟩
    | ret => exact ⟨kk _, .inr ⟨rfl, some none, _, by rw [H.get_setLoop, if_pos rfl], by simp, rfl, hG3, Fst _ (some none) _ _ hG3 q (ko _)⟩⟩
    | exit id => exact ⟨kk _, .inr ⟨rfl, some (some id), _, by rw [H.get_setLoop, if_pos rfl], by simp, rfl, hG3, Fst _ (some (some id)) _ _ hG3 q (ko _)⟩⟩
    | panic v => exact q.elim
  · rintro G h1 ⟨a, b, c⟩
    exact ⟨none, _, a, by simp, rfl, b, fin' _ _ c⟩
  · exact ⟨hL0, fun k hk => hk.elim, Jst _ _ _ _ (fun k hk => hk.elim) J0 ((Keep.pushLoop (Nat.le_refl _) _).weaken fun o ho => ho.elim id fun x => x.elim)⟩
  · rintro r h1 ⟨rfl, G, p, L, hg, hst, hp, hG, hF⟩
    refine ⟨L, hg, hst, ?_⟩
    have hq := out _ _ _ (Fst _ _ _ _ hG hF ((Keep.setLoop (L' := { L with st := 3 }) hg).weaken fun o ho => by
      rcases ho with ho | ho
      · exact Nat.ne_of_lt ho
      · exact Ne.symm (Nat.ne_of_lt (hG o ho))))
    subst hp
    revert hq
    cases L.pend with
    | none => exact id
    | some j => cases j with
      | none => intro hq; rw [fin_ret]; exact hq
      | some id => exact _root_.id
end Go.Proofs.YtgjcdpanabjcmaaGreatDoor.Ev

/- Ranges over functions: what an iterator is, and a rule for the loop over it. -/
import Derived.Test.YtlbaphapjclkdaaGreatDoorEv24
import Derived.Test.YtlbaphapjclkdaaGreatDoorEv19
namespace Go.Proofs.YtlbaphapjclkdaaGreatDoor.Ev
set_option linter.unusedVariables false
set_option linter.unusedSimpArgs false

theorem Keep.pushLoop {N : Nat} {h : H} (hN : N ≤ h.n) (L : LoopRec) : Keep (Old N) h (h.push (.loop L)) where
  wf := fun w => by
    refine ⟨fun g p e => Nat.lt_succ_of_lt (w.gr g p e), fun o cs g e => ?_, fun o x e => ?_, w.kt, w.tl_push _⟩
    · rw [H.get_push] at e
      split at e
      · cases e
      · exact w.mem o cs g e
    · rw [H.get_push] at e
      split at e
      · rename_i e'; subst e'; exact Nat.lt_succ_self _
      · exact Nat.lt_succ_of_lt (w.ob o x e)
  n := Nat.le_succ _
  get := fun o ho => by rw [H.get_push, if_neg]; exact Nat.ne_of_lt (Nat.lt_of_lt_of_le ho hN)
  tip := fun _ _ => rfl
  kill := fun _ _ => rfl
theorem H.get_setLoop (h : H) (o : Nat) (L : LoopRec) (j : Nat) : (h.setLoop o L).get j = if j = o then some (.loop L) else h.get j := Tr.get_set _ _ _ _
theorem Keep.setLoop {h : H} {o : Nat} {L L' : LoopRec} (hg : h.get o = some (.loop L)) : Keep (fun j => j ≠ o) h (h.setLoop o L') where
  wf := fun w => by
    refine ⟨w.gr, fun j cs g e => ?_, fun j x e => ?_, w.kt, w.tl⟩
    · rw [H.get_setLoop] at e
      split at e
      · cases e
      · exact w.mem j cs g e
    · rw [H.get_setLoop] at e
      split at e
      · rename_i e'; subst e'; exact w.ob _ _ hg
      · exact w.ob j x e
  n := Nat.le_refl _
  get := fun j hj => by rw [H.get_setLoop, if_neg hj]
  tip := fun _ _ => rfl
  kill := fun _ _ => rfl

/-- rows that are new are in groups that are new -/
theorem fresh_group {h h' : H} (k : Keep (Old h.n) h h') (wf : h.Wf) (wf' : h'.Wf) {o : Nat} {cs : List AV} {g : Nat} (e : h'.get o = some (.cells cs (some g))) (ho : h.n ≤ o) : h.n ≤ g := by
  by_cases hg : g < h.n
  · have h1 := (wf'.mem _ _ _ e).2
    rw [k.tip g hg] at h1
    have := wf.tl g hg
    omega
  · omega

/-! ### whose rows are whose: those of the caller (ahead of N, and G: what came of its rounds), those of the iterator -/
abbrev Mine (N : Nat) (G : Nat → Prop) : Nat → Prop := fun k => k < N ∨ G k
abbrev Its (N : Nat) (G : Nat → Prop) (h : H) : Nat → Prop := fun k => N ≤ k ∧ k < h.n ∧ ¬ G k
/-- none of the iterator's rows is in a group of the caller's -/
def Clean (N : Nat) (G : Nat → Prop) (h : H) : Prop := ∀ k cs g, h.get k = some (.cells cs (some g)) → N ≤ k → ¬ G k → N ≤ g ∧ ¬ G g
/-- what came of a round is the caller's -/
def More (G : Nat → Prop) (a b : Nat) : Nat → Prop := fun k => G k ∨ (a ≤ k ∧ k < b)
def GIn (N : Nat) (G : Nat → Prop) (h : H) : Prop := N ≤ h.n ∧ ∀ k, G k → N ≤ k ∧ k < h.n
theorem GIn.up {N : Nat} {G : Nat → Prop} {h h' : H} (a : GIn N G h) (hn : h.n ≤ h'.n) : GIn N G h' := ⟨Nat.le_trans a.1 hn, fun k hk => ⟨(a.2 k hk).1, Nat.lt_of_lt_of_le (a.2 k hk).2 hn⟩⟩
theorem GIn.more {N : Nat} {G : Nat → Prop} {h h' : H} (a : GIn N G h) (hn : h.n ≤ h'.n) : GIn N (More G h.n h'.n) h' := ⟨Nat.le_trans a.1 hn, fun k hk => by
  rcases hk with hk | hk
  · exact (a.up hn).2 k hk
  · exact ⟨Nat.le_trans a.1 hk.1, hk.2⟩⟩
theorem GIn.weaken {N : Nat} {G : Nat → Prop} {h : H} (a : GIn (N + 1) G h) : GIn N G h := ⟨by have := a.1; omega, fun k hk => ⟨by have := (a.2 k hk).1; omega, (a.2 k hk).2⟩⟩
theorem GIn.none (h : H) : GIn h.n (fun _ => False) h := ⟨Nat.le_refl _, fun k hk => hk.elim⟩
theorem Clean.start {h : H} (wf : h.Wf) : Clean h.n (fun _ => False) h := fun k cs g e hk _ => by have := wf.ob _ _ e; omega
theorem Clean.fresh {N : Nat} {G : Nat → Prop} {h h' : H} (c : Clean N G h) (gi : GIn N G h) (k : Keep (Old h.n) h h') (wf : h.Wf) : Clean N G h' := by
  intro o cs g e ho hG
  by_cases hlt : o < h.n
  · rw [k.get o hlt] at e; exact c o cs g e ho hG
  · have := fresh_group k wf (k.wf wf) e (by omega)
    exact ⟨Nat.le_trans gi.1 this, fun hg => by have := (gi.2 g hg).2; omega⟩
theorem Clean.box {N : Nat} {G : Nat → Prop} {h h' : H} (c : Clean N G h) {r : Nat} {cs cs' : List AV} (wf : h.Wf) (b : Box r cs h) (k : KeepA [r] h h') (b' : Box r cs' h') (hn : h'.n = h.n) : Clean N G h' := by
  intro o cs1 g e ho hG
  by_cases hr : o = r
  · subst hr
    rw [b'.get] at e; cases e
    exact ⟨ho, hG⟩
  · have hlt : o < h.n := by rw [← hn]; exact (k.wf wf).ob _ _ e
    have hap : Apart [r] h o := ⟨hlt, by simpa using hr, fun cs2 g2 e2 hm => by
      simp only [List.mem_cons, List.not_mem_nil, or_false] at hm
      subst hm
      have := wf.mem _ _ _ e2
      rw [b.tip] at this
      omega⟩
    rw [k.get o hap] at e
    exact c o cs1 g e ho hG
/-- a loop's record that is written, or anything else that is no row -/
theorem Clean.same {N : Nat} {G : Nat → Prop} {h h' : H} (c : Clean N G h) (hs : ∀ o cs g, h'.get o = some (.cells cs (some g)) → h.get o = some (.cells cs (some g))) : Clean N G h' :=
  fun o cs g e ho hG => c o cs g (hs o cs g e) ho hG
theorem Clean.setLoop {N : Nat} {G : Nat → Prop} {h : H} (c : Clean N G h) (o : Nat) (L : LoopRec) : Clean N G (h.setLoop o L) :=
  c.same fun q cs g e => by
    rw [H.get_setLoop] at e
    split at e
    · cases e
    · exact e
theorem Clean.pushLoop {N : Nat} {G : Nat → Prop} {h : H} (c : Clean N G h) (L : LoopRec) : Clean N G (h.push (.loop L)) :=
  c.same fun q cs g e => by
    rw [H.get_push] at e
    split at e
    · cases e
    · exact e
/-- behind a round -/
theorem Clean.round {N : Nat} {G : Nat → Prop} {h h' : H} (c : Clean N G h) (gi : GIn N G h) (wf' : h'.Wf) (k : Keep (Its N G h) h h') : Clean N (More G h.n h'.n) h' := by
  intro o cs g e ho hG
  have hlt : o < h.n := by
    have h1 := wf'.ob _ _ e
    by_cases hl : o < h.n
    · exact hl
    · exact absurd (.inr ⟨by omega, h1⟩) hG
  have hG' : ¬ G o := fun x => hG (.inl x)
  have e0 := e
  rw [k.get o ⟨ho, hlt, hG'⟩] at e
  obtain ⟨a, b⟩ := c o cs g e ho hG'
  refine ⟨a, fun hm => ?_⟩
  rcases hm with hm | hm
  · exact b hm
  · have := (wf'.mem _ _ _ e0).1
    omega
/-- what a caller changes of its own rows leaves the iterator's -/
theorem its_of_groups {N : Nat} {G : Nat → Prop} {h h' : H} (c : Clean N G h) {gs : List Nat} (hg : ∀ g ∈ gs, Mine N G g) (k : KeepA gs h h') : Keep (Its N G h) h h' :=
  k.weaken fun o ho => ⟨ho.2.1, fun hm => by
    rcases hg _ hm with x | x
    · have := ho.1; omega
    · exact ho.2.2 x, fun cs g e hm => by
    obtain ⟨a, b⟩ := c o cs g e ho.1 ho.2.2
    rcases hg _ hm with x | x
    · omega
    · exact b x⟩

/-- what a call of yield leaves: on, or no more -/
def YOut (N : Nat) (G : Nat → Prop) (h : H) (On Off : (Nat → Prop) → H → Prop) : AOut → H → Prop := fun out h' =>
  Keep (Its N G h) h h' ∧ (out = .val (.bool true) ∧ On (More G h.n h'.n) h' ∨ out = .val (.bool false) ∧ Off (More G h.n h'.n) h')
/-- a function that yields these, one after the other; Mem: what must be there for it -/
def IterSpec (E : Env) (f : Nat) (cs : List AV) (xs : List (List AV)) (N : Nat) (Mem : H → Prop) : Prop :=
  ∀ (y : AV) (I : (Nat → Prop) → Nat → H → Prop) (R : (Nat → Prop) → H → Prop) (h : H), y.cells = [y] → h.n = N →
    (∀ G j h, I G j h → h.Wf ∧ Mem h) →
    (∀ G j h h', I G j h → Keep (Mine N G) h h' → I G j h') → (∀ G h h', R G h → Keep (Mine N G) h h' → R G h') →
    (∀ G j x, xs[j]? = some x → ∀ h, I G j h → Clean N G h → GIn N G h → WFun E y x h (YOut N G h (fun G' => I G' (j + 1)) R)) →
    (∀ G h, I G xs.length h → R G h) → I (fun _ => False) 0 h → WCall E f (y :: cs) h fun out h' => out = .val (.tup []) ∧ ∃ G, R G h'

theorem WFun.mono {E : Env} {f : AV} {args : List AV} {h : H} {R R' : AOut → H → Prop} (w : WFun E f args h R) (hr : ∀ r h, R r h → R' r h) : WFun E f args h R' := by
  unfold WFun WFunG at w ⊢
  split at w
  · exact Holds.monoC w hr
  · exact Holds.monoC w hr
  · exact Holds.monoC w hr
  · exact w.elim

/-- a range over an iterator -/
theorem WS_of_range {E : Env} {k : List Fr1} {Q : Post} {s : S} {h : H} {nt : Nat} {f : AOpd} {ps : List Nat} {assign body : ACode} {g : Nat} {cs : List AV} {xs : List (List AV)} {Mem : H → Prop}
    (hf : f.ev s = .func g cs) (hg : (E.T g).isSome = true) (it : IterSpec E g cs xs (h.n + 1) Mem) (J : (Nat → Prop) → Nat → H → Prop) (F : (Nat → Prop) → Option (Option Nat) → H → Prop)
    (hl : ∀ x ∈ xs, x.length = ps.length)
    (J0 : J (fun _ => False) 0 h) (Jm : ∀ G j h1, J G j h1 → h1.Wf ∧ Mem h1) (Jst : ∀ G j h1 h2, (∀ k, G k → h.n < k) → J G j h1 → Keep (Mine h.n G) h1 h2 → J G j h2) (Fst : ∀ G p h1 h2, (∀ k, G k → h.n < k) → F G p h1 → Keep (Mine h.n G) h1 h2 → F G p h2)
    (round : ∀ G j x, xs[j]? = some x → ∀ h1, GIn (h.n + 1) G h1 → Clean h.n G h1 → J G j h1 → WC E assign (fun ex s1 h2 => ex = .normal ∧ Keep (Its h.n G h1) h1 h2 ∧ ∀ h2', h2'.n = h2.n → Keep (fun k => k ≠ h.n) h2 h2' → (∀ cs g, h2'.get h.n ≠ some (.cells cs g)) →
      WC E body (fun ex _ h3 => Keep (Its h.n G h1) h2' h3 ∧ match ex with | .normal => J (More G h1.n h3.n) (j + 1) h3 | .ret => F (More G h1.n h3.n) (some none) h3 | .exit id => F (More G h1.n h3.n) (some (some id)) h3 | .panic _ => False) s1 h2') (setPs s ps x) h1)
    (fin' : ∀ G h1, J G xs.length h1 → F G none h1)
    (out : ∀ G p h1, F G p h1 → match p with | none => WNext E k Q s h1 | some none => Q .ret s h1 | some (some id) => WExit E id k Q s h1) :
    WS E (.range nt f ps assign body) k Q s h := by
  refine WC_range hf hg ?_
  have hL0 : (h.push (.loop ⟨0, none, nt, s, ps, assign, body⟩)).get h.n = some (.loop ⟨0, none, nt, s, ps, assign, body⟩) := by rw [H.get_push, if_pos rfl]
  have up : ∀ {G : Nat → Prop} {h1 h2 : H}, Keep (Mine (h.n + 1) G) h1 h2 → Keep (Mine h.n G) h1 h2 := fun k => k.weaken fun o ho => ho.imp (fun x => Nat.lt_succ_of_lt x) id
  refine (it (.yield h.n) (fun G j h1 => h1.get h.n = some (.loop ⟨0, none, nt, s, ps, assign, body⟩) ∧ (∀ k, G k → h.n < k) ∧ J G j h1)
    (fun G h1 => ∃ p L, h1.get h.n = some (.loop L) ∧ L.st ≠ 1 ∧ L.pend = p ∧ (∀ k, G k → h.n < k) ∧ F G p h1) _ rfl rfl ?_ ?_ ?_ ?_ ?_ ?_).mono ?_
  · intro G j h1 a
    exact Jm _ _ _ a.2.2
  · intro G j h1 h2 a kk
    exact ⟨by rw [kk.get _ (.inl (Nat.lt_succ_self _))]; exact a.1, a.2.1, Jst _ _ _ _ a.2.1 a.2.2 (up kk)⟩
  · rintro G h1 h2 ⟨p, L, a, b, c, e, d⟩ kk
    exact ⟨p, L, by rw [kk.get _ (.inl (Nat.lt_succ_self _))]; exact a, b, c, e, Fst _ _ _ _ e d (up kk)⟩
  · rintro G j x hx h1 ⟨hg, hG, hj⟩ hc hi
    rw [WFun_yield]
    refine WYield_round hg (hl x (List.mem_of_getElem? hx)) ?_
    have hn := hi.1
    have hc' : Clean h.n G h1 := fun k cs g e hk hkG => by
      by_cases hk' : k = h.n
      · subst hk'; rw [hg] at e; cases e
      · obtain ⟨a, b⟩ := hc k cs g e (by omega) hkG
        exact ⟨by omega, b⟩
    refine (round G j x hx h1 hi hc' hj).mono ?_
    rintro ex s1 h2 ⟨rfl, k1, w⟩
    have hnG : ¬ G h.n := fun x => Nat.lt_irrefl _ (hG _ x)
    have hg2 : h2.get h.n = some (.loop ⟨0, none, nt, s, ps, assign, body⟩) := by rw [k1.get _ ⟨Nat.le_refl _, by omega, hnG⟩]; exact hg
    refine ⟨rfl, _, hg2, rfl, ?_⟩
    have ks := Keep.setLoop (L' := ⟨1, none, nt, s, ps, assign, body⟩) hg2
    refine (w (h2.setLoop h.n ⟨1, none, nt, s, ps, assign, body⟩) rfl ks (fun cs g e => by rw [H.get_setLoop, if_pos rfl] at e; cases e)).mono ?_
    intro ex s2 h3 ⟨k3, q⟩
    have hn2 : h.n + 1 ≤ h2.n := Nat.le_trans hn k1.n
    have hg3 : h3.get h.n = some (.loop ⟨1, none, nt, s, ps, assign, body⟩) := by
      rw [k3.get _ ⟨Nat.le_refl _, by omega, hnG⟩, H.get_setLoop, if_pos rfl]
    have kk : ∀ L', Keep (Its (h.n + 1) G h1) h1 (h3.setLoop h.n L') := by
      intro L'
      have a1 : Keep (Its (h.n + 1) G h1) h1 h2 := k1.weaken fun o ho => ⟨by have := ho.1; omega, ho.2⟩
      have a2 : Keep (Its (h.n + 1) G h1) h2 (h2.setLoop h.n ⟨1, none, nt, s, ps, assign, body⟩) := ks.weaken fun o ho => by have := ho.1; omega
      have a3 : Keep (Its (h.n + 1) G h1) (h2.setLoop h.n ⟨1, none, nt, s, ps, assign, body⟩) h3 := k3.weaken fun o ho => ⟨by have := ho.1; omega, ho.2⟩
      have a4 : Keep (Its (h.n + 1) G h1) h3 (h3.setLoop h.n L') := (Keep.setLoop hg3).weaken fun o ho => by have := ho.1; omega
      exact ((a1.trans a2).trans a3).trans a4
    have hG3 : ∀ k, More G h1.n h3.n k → h.n < k := fun k hk => by
      rcases hk with hk | hk
      · exact hG k hk
      · omega
    have ko : ∀ L', Keep (Mine h.n (More G h1.n h3.n)) h3 (h3.setLoop h.n L') := fun L' => (Keep.setLoop hg3).weaken fun o ho => by
      rcases ho with ho | ho
      · exact Nat.ne_of_lt ho
      · exact Ne.symm (Nat.ne_of_lt (hG3 o ho))
    have hn3 : ∀ L', (h3.setLoop h.n L').n = h3.n := fun _ => rfl
    refine ⟨_, hg3, ?_⟩
    cases ex with
    | normal => exact ⟨kk _, .inl ⟨rfl, by rw [H.get_setLoop, if_pos rfl], hG3, Jst _ _ _ _ hG3 q (ko _)⟩⟩
    | ret => exact ⟨kk _, .inr ⟨rfl, some none, _, by rw [H.get_setLoop, if_pos rfl], by simp, rfl, hG3, Fst _ (some none) _ _ hG3 q (ko _)⟩⟩
    | exit id => exact ⟨kk _, .inr ⟨rfl, some (some id), _, by rw [H.get_setLoop, if_pos rfl], by simp, rfl, hG3, Fst _ (some (some id)) _ _ hG3 q (ko _)⟩⟩
    | panic v => exact q.elim
  · rintro G h1 ⟨a, b, c⟩
    exact ⟨none, _, a, by simp, rfl, b, fin' _ _ c⟩
  · exact ⟨hL0, fun k hk => hk.elim, Jst _ _ _ _ (fun k hk => hk.elim) J0 ((Keep.pushLoop (Nat.le_refl _) _).weaken fun o ho => ho.elim id fun x => x.elim)⟩
  · rintro r h1 ⟨rfl, G, p, L, hg, hst, hp, hG, hF⟩
    refine ⟨L, hg, hst, ?_⟩
    have hq := out _ _ _ (Fst _ _ _ _ hG hF ((Keep.setLoop (L' := { L with st := 3 }) hg).weaken fun o ho => by
      rcases ho with ho | ho
      · exact Nat.ne_of_lt ho
      · exact Ne.symm (Nat.ne_of_lt (hG o ho))))
    subst hp
    revert hq
    cases L.pend with
    | none => exact id
    | some j => cases j with
      | none => intro hq; rw [fin_ret]; exact hq
      | some id => exact _root_.id
end Go.Proofs.YtlbaphapjclkdaaGreatDoor.Ev

/- Slices whose elements have several cells: an element read, cut out, and written. -/
namespace Go.Proofs.YtlbaphapjclkdaaGreatDoor.Ev
set_option linter.unusedVariables false
set_option linter.unusedSimpArgs false

theorem flat_len {α : Type} {f : α → List AV} {es : Nat} : ∀ {l : List α}, (∀ x ∈ l, (f x).length = es) → (l.flatMap f).length = l.length * es
  | [], _ => by simp
  | x :: l, h => by
    rw [List.flatMap_cons, List.length_append, flat_len (fun y hy => h y (by simp [hy])), h x (by simp), List.length_cons, Nat.add_mul]
    omega
theorem flat_at {α : Type} {f : α → List AV} {es : Nat} : ∀ {l : List α} {i : Nat} (hi : i < l.length), (∀ x ∈ l, (f x).length = es) → ((l.flatMap f).drop (i * es)).take es = f l[i]
  | [], i, hi, _ => by simp at hi
  | x :: l, 0, hi, h => by
    rw [List.flatMap_cons, Nat.zero_mul, List.drop_zero, List.take_append_of_le_length (by rw [h x (by simp)]; exact Nat.le_refl _), List.take_of_length_le (by rw [h x (by simp)]; exact Nat.le_refl _)]
    rfl
  | x :: l, i + 1, hi, h => by
    have hx := h x (by simp)
    have e : (i + 1) * es = (f x).length + i * es := by rw [hx, Nat.add_mul]; omega
    rw [List.flatMap_cons, e, ← List.drop_drop, List.drop_append_of_le_length (Nat.le_refl _), List.drop_length, List.nil_append]
    have := flat_at (l := l) (i := i) (by simpa using hi) (fun y hy => h y (by simp [hy]))
    simpa using this
theorem flat_set {α : Type} {f : α → List AV} {es : Nat} : ∀ {l : List α} {i : Nat} (y : α), i < l.length → (∀ x ∈ l, (f x).length = es) → (f y).length = es → splice (l.flatMap f) (i * es) (f y) = (l.set i y).flatMap f
  | [], i, y, hi, _, _ => by simp at hi
  | x :: l, 0, y, hi, h, hy => by
    have hx := h x (by simp)
    simp only [splice, Nat.zero_mul, List.take_zero, List.nil_append, Nat.zero_add, List.flatMap_cons, List.set_cons_zero]
    rw [hy, ← hx, List.drop_append_of_le_length (Nat.le_refl _), List.drop_length, List.nil_append]
  | x :: l, i + 1, y, hi, h, hy => by
    have hx := h x (by simp)
    have ih := flat_set (l := l) (i := i) y (by simpa using hi) (fun z hz => h z (by simp [hz])) hy
    simp only [splice, List.flatMap_cons, List.set_cons_succ] at ih ⊢
    rw [← ih]
    have e : (i + 1) * es = (f x).length + i * es := by rw [hx, Nat.add_mul]; omega
    rw [e, List.take_length_add_append, Nat.add_assoc, ← List.drop_drop, List.drop_append_of_le_length (Nat.le_refl _), List.drop_length, List.nil_append]
    simp only [List.append_assoc]

/-- an element of a slice: its address, the row behind it -/
theorem Sl.addr {h : H} {v : AV} {es n : Nat} {cs : List AV} (a : Sl h es v n cs) {i : Nat} (hi : i < n) (hes : 0 < es) (k : IntKind) :
    ∃ o j row, v = .slice o j n es ∧ indexAddrA es v (.int k (i : Int)) = some (.ptr o (j + i * es)) ∧ h.row o = some row ∧ j + n * es ≤ row.length ∧ cs = (row.drop j).take (n * es) := by
  obtain ⟨h1, h2⟩ := a
  cases v <;> simp only [lenSA] at h1 <;> (try (cases h1; done))
  case nils => cases h1; omega
  case slice o j len es' =>
    cases h1
    simp only [H.firstCells] at h2
    split at h2
    case isFalse => cases h2
    rename_i hc
    obtain ⟨rfl, _⟩ := hc
    split at h2
    · rename_i row hrow
      split at h2
      case isFalse => cases h2
      rename_i hle
      cases h2
      refine ⟨o, j, row, rfl, ?_, hrow, hle, rfl⟩
      simp only [indexAddrA]
      rw [if_pos ⟨trivial, by omega, by omega⟩]
      simp
    · split at h2
      · rename_i h0
        have : 0 < n * es' := Nat.mul_pos (by omega) hes
        omega
      · cases h2
theorem mul_in {i n es : Nat} (hi : i < n) : i * es + es ≤ n * es := by
  have : (i + 1) * es ≤ n * es := Nat.mul_le_mul_right _ hi
  rw [Nat.add_mul] at this
  omega
theorem cut_in {row : List AV} {j i n es : Nat} (hi : i < n) : ((((row.drop j).take (n * es)).drop (i * es)).take es) = ((row.drop (j + i * es)).take es) := by
  have := mul_in (es := es) hi
  rw [List.drop_take, List.take_take, List.drop_drop]
  congr 1
  omega
theorem Sl.atAgg {h : H} {v : AV} {es n : Nat} {cs : List AV} (a : Sl h es v n cs) {i : Nat} (hi : i < n) (hes : 0 < es) (k : IntKind) :
    ∃ p, indexAddrA es v (.int k (i : Int)) = some p ∧ loadA h true es p = some (.agg ((cs.drop (i * es)).take es)) := by
  obtain ⟨o, j, row, rfl, e, hrow, hle, rfl⟩ := a.addr hi hes k
  refine ⟨_, e, ?_⟩
  have := mul_in (es := es) hi
  simp only [loadA, hrow, if_true]
  rw [if_pos (by omega), cut_in hi]
/-- an array that is an element, as a slice -/
theorem Sl.atCut {h : H} {v : AV} {es n : Nat} {cs : List AV} (a : Sl h es v n cs) {i : Nat} (hi : i < n) (hes : 0 < es) (k : IntKind) :
    ∃ p v', indexAddrA es v (.int k (i : Int)) = some p ∧ sliceAA h 1 es none none p = some v' ∧ Sl h 1 v' es ((cs.drop (i * es)).take es) ∧ (∀ K, Slot K h v → Slot K h v') := by
  obtain ⟨o, j, row, rfl, e, hrow, hle, rfl⟩ := a.addr hi hes k
  have hm := mul_in (es := es) hi
  have hget : ∃ g, h.get o = some (.cells row g) := by
    unfold H.row at hrow
    cases hx : h.get o with
    | none => rw [hx] at hrow; cases hrow
    | some x =>
      rw [hx] at hrow
      cases x with
      | other => cases hrow
      | loop L => cases hrow
      | mem X => cases hrow
      | glob g v => cases hrow
      | cells cs g =>
        cases g with
        | none => cases hrow; exact ⟨_, rfl⟩
        | some g =>
          simp only at hrow
          split at hrow
          · cases hrow; exact ⟨_, rfl⟩
          · cases hrow
  obtain ⟨g, hg⟩ := hget
  refine ⟨_, .slice o (j + i * es) es 1, e, ?_, ⟨rfl, ?_⟩, fun K s => s⟩
  · simp only [sliceAA, hg]
    rw [if_pos (by omega)]
    simp [bounds]
  · simp only [H.firstCells, hrow]
    rw [if_pos ⟨trivial, Nat.le_refl _⟩, if_pos (by omega), Nat.mul_one, cut_in hi]

/-- a row of one's own group is written -/
theorem Grp.put {g : Nat} {h : H} (wf : h.Wf) {v : AV} {es n : Nat} {cs : List AV} (a : Sl h es v n cs) (o : Grp g h v) {i : Nat} (hi : i < n) (hes : 0 < es) (k : IntKind) {new : List AV} (hn : new.length = es) (h1 : new.all AV.one = true) :
    ∃ p, indexAddrA es v (.int k (i : Int)) = some p ∧ ∀ x : AV, x.cells = new → ∃ h', storeA h es p x = some h' ∧ Sl h' es v n (splice cs (i * es) new) ∧ Grp g h' v ∧ KeepA [g] h h' := by
  obtain ⟨ob, j, row, rfl, e, hrow, hle, rfl⟩ := a.addr hi hes k
  have hm := mul_in (es := es) hi
  obtain ⟨cs', hg, htip, hkill, hlen, root, hroot⟩ := o
  have hcs : cs' = row := by
    unfold H.row at hrow; rw [hg] at hrow; simp only at hrow
    rw [if_pos hkill] at hrow; cases hrow; rfl
  subst hcs
  have hon := wf.ob _ _ hg
  have hgo := (wf.mem _ _ _ hg).1
  have hsl : (splice cs' (j + i * es) new).length = cs'.length := by simp [splice]; omega
  refine ⟨_, e, fun x hx => ?_⟩
  -- the heap behind it
  let h' : H := if g = ob then { h with ob := h.ob.set ob (.cells (splice cs' (j + i * es) new) (some g)) } else { h with ob := h.ob.set ob (.cells (splice cs' (j + i * es) new) (some g)), gr := h.gr.set g (ob, ob) }
  have hget : ∀ q, h'.get q = if q = ob then some (.cells (splice cs' (j + i * es) new) (some g)) else h.get q := by
    intro q
    show (if g = ob then _ else _ : H).get q = _
    split <;> exact Tr.get_set _ _ _ _
  have htip' : ∀ q, h'.tip q = h.tip q := by
    intro q
    show (if g = ob then _ else _ : H).tip q = _
    split
    · rfl
    · unfold H.tip
      show (match (h.gr.set g (ob, ob)).get q with | some p => p.1 | none => q) = _
      rw [Tr.get_set]
      by_cases eq : q = g
      · rw [if_pos eq, eq]
        exact htip.symm
      · rw [if_neg eq]; rfl
  have hkill' : ∀ q, q ≠ g → h'.kill q = h.kill q := by
    intro q hq
    show (if g = ob then _ else _ : H).kill q = _
    split
    · rfl
    · unfold H.kill
      rw [Tr.get_set, if_neg hq]
  have hkillg : h'.kill g ≤ ob := by
    show (if g = ob then _ else _ : H).kill g ≤ _
    split
    · exact hkill
    · unfold H.kill
      rw [Tr.get_set, if_pos rfl]
      exact Nat.le_refl _
  have hnn : h'.n = h.n := by
    show (if g = ob then _ else _ : H).n = _
    split <;> rfl
  have hwf : h'.Wf := by
    refine ⟨fun q p hp => ?_, fun q c g' hq => ?_, fun q y hq => ?_, fun q p hp => ?_, fun q hq => by rw [hnn] at hq ⊢; rw [htip']; exact wf.tl q hq⟩
    · rw [hnn]
      by_cases hgb : g = ob
      · have : h'.gr = h.gr := by show (if g = ob then _ else _ : H).gr = _; rw [if_pos hgb]
        rw [this] at hp; exact wf.gr _ _ hp
      · have : h'.gr = h.gr.set g (ob, ob) := by show (if g = ob then _ else _ : H).gr = _; rw [if_neg hgb]
        rw [this, Tr.get_set] at hp
        split at hp
        · rename_i eq; subst eq; omega
        · exact wf.gr _ _ hp
    · rw [htip']
      rw [hget] at hq
      split at hq
      · rename_i eq; subst eq; cases hq; exact ⟨hgo, Nat.le_of_eq htip.symm⟩
      · exact wf.mem _ _ _ hq
    · rw [hnn]
      rw [hget] at hq
      split at hq
      · rename_i eq; subst eq; exact hon
      · exact wf.ob _ _ hq
    · by_cases hgb : g = ob
      · have : h'.gr = h.gr := by show (if g = ob then _ else _ : H).gr = _; rw [if_pos hgb]
        rw [this] at hp; exact wf.kt _ _ hp
      · have : h'.gr = h.gr.set g (ob, ob) := by show (if g = ob then _ else _ : H).gr = _; rw [if_neg hgb]
        rw [this, Tr.get_set] at hp
        split at hp
        · cases hp; exact Nat.le_refl _
        · exact wf.kt _ _ hp
  refine ⟨h', ?_, ⟨rfl, ?_⟩, ⟨splice cs' (j + i * es) new, ?_, ?_, hkillg, ?_, ?_⟩, ⟨fun _ => hwf, Nat.le_of_eq hnn.symm, ?_, ?_, ?_⟩⟩
  · simp only [storeA, hx]
    rw [if_pos ⟨hn, h1⟩]
    simp only [H.put, hg]
    rw [if_pos ⟨htip, by omega⟩]
  · simp only [H.firstCells]
    rw [if_pos ⟨trivial, Nat.le_refl _⟩]
    have : h'.row ob = some (splice cs' (j + i * es) new) := by
      unfold H.row; rw [hget, if_pos rfl]; simp only; rw [if_pos hkillg]
    rw [this]
    simp only
    rw [if_pos (by omega)]
    congr 1
    simp only [splice]
    have e0 : (cs'.drop j).length = cs'.length - j := by simp
    apply List.ext_getElem?
    intro q
    simp only [List.getElem?_take, List.getElem?_drop, List.getElem?_append, List.length_take, List.length_append, List.length_drop]
    by_cases hq : q < n * es
    · rw [if_pos hq]
      by_cases c1 : q < i * es
      · repeat rw [if_pos (by omega)]
      · by_cases c2 : q < i * es + es
        · rw [if_pos (by omega), if_neg (by omega), if_pos (by omega), if_neg (by omega)]
          congr 1
          omega
        · rw [if_neg (by omega), if_neg (by omega), if_pos (by omega)]
          congr 1
          omega
    · rw [if_neg hq, if_neg (by omega), if_neg (by omega)]
  · rw [hget, if_pos rfl]
  · rw [htip']; exact htip
  · rw [hsl]; exact hlen
  · rw [hget]
    split
    · exact ⟨_, rfl⟩
    · exact ⟨_, hroot⟩
  · intro q hq
    rw [hget, if_neg]
    rintro rfl
    exact hq.2.2 _ _ hg (by simp)
  · intro q hq; exact htip' q
  · intro q hq; exact hkill' q (fun e => hq.2.1 (by simp [e]))
end Go.Proofs.YtlbaphapjclkdaaGreatDoor.Ev

/- An answer's heap may be told with fewer objects: what is within the model's memory alone is left out. -/
namespace Go.Proofs.YtlbaphapjclkdaaGreatDoor.Ev
set_option linter.unusedVariables false
set_option linter.unusedSimpArgs false

/-- the same heap, but from an object on maps and the like are told no more -/
structure Weak (n0 : Nat) (h1 h2 : H) : Prop where
  n : h2.n = h1.n
  gr : ∀ g, h2.gr.get g = h1.gr.get g
  ob : ∀ o, h2.get o = h1.get o ∨ (n0 ≤ o ∧ h2.get o = some .other ∧ ∃ X, h1.get o = some (.mem X))
theorem Weak.tip {n0 : Nat} {h1 h2 : H} (k : Weak n0 h1 h2) (g : Nat) : h2.tip g = h1.tip g := by unfold H.tip; rw [k.gr]
theorem Weak.kill {n0 : Nat} {h1 h2 : H} (k : Weak n0 h1 h2) (g : Nat) : h2.kill g = h1.kill g := by unfold H.kill; rw [k.gr]
theorem Weak.get {n0 : Nat} {h1 h2 : H} (k : Weak n0 h1 h2) {o : Nat} {x : AObj} (e : h2.get o = some x) (hx : x ≠ .other) : h1.get o = some x := by
  rcases k.ob o with h | ⟨_, h, _⟩
  · rw [← h]; exact e
  · rw [h] at e; cases e; exact absurd rfl hx
theorem Weak.cells {n0 : Nat} {h1 h2 : H} (k : Weak n0 h1 h2) {o : Nat} {cs : List AV} {g : Option Nat} (e : h1.get o = some (.cells cs g)) : h2.get o = some (.cells cs g) := by
  rcases k.ob o with h | ⟨_, h, X, hX⟩
  · rw [h]; exact e
  · rw [hX] at e; cases e
theorem Weak.row {n0 : Nat} {h1 h2 : H} (k : Weak n0 h1 h2) {o : Nat} {cs : List AV} (e : h2.row o = some cs) : h1.row o = some cs := by
  unfold H.row at e ⊢
  split at e
  · rename_i cs' h; rw [k.get h (by simp)]; exact e
  · rename_i cs' g h; rw [k.get h (by simp)]; rw [k.kill] at e; exact e
  · cases e
theorem Weak.put {n0 : Nat} {g h2 h' : H} {o i : Nat} {vs : List AV} (k : Weak n0 g h2) (e : h2.put o i vs = some h') : ∃ g', g.put o i vs = some g' ∧ Weak n0 g' h' := by
  unfold H.put at e ⊢
  split at e
  case h_2 => cases e
  rename_i cs gr hget
  rw [k.get hget (by simp)]
  simp only [k.tip] at e ⊢
  split at e
  case isFalse => cases e
  rename_i hc
  rw [if_pos hc]
  cases e
  refine ⟨_, rfl, ?_⟩
  by_cases hgo : gr = o
  · rw [if_pos hgo, if_pos hgo]
    refine ⟨k.n, k.gr, fun o' => ?_⟩
    show Tr.get (Tr.set _ _ _) _ = Tr.get (Tr.set _ _ _) _ ∨ _ ∧ Tr.get (Tr.set _ _ _) _ = _ ∧ ∃ X, Tr.get (Tr.set _ _ _) _ = _
    simp only [Tr.get_set]
    by_cases ho : o' = o
    · simp [ho]
    · simp only [ho, if_false]; exact k.ob o'
  · rw [if_neg hgo, if_neg hgo]
    refine ⟨k.n, fun g1 => ?_, fun o' => ?_⟩
    · show Tr.get (Tr.set _ _ _) _ = Tr.get (Tr.set _ _ _) _
      simp only [Tr.get_set, k.gr]
    · show Tr.get (Tr.set _ _ _) _ = Tr.get (Tr.set _ _ _) _ ∨ _ ∧ Tr.get (Tr.set _ _ _) _ = _ ∧ ∃ X, Tr.get (Tr.set _ _ _) _ = _
      simp only [Tr.get_set]
      by_cases ho : o' = o
      · simp [ho]
      · simp only [ho, if_false]; exact k.ob o'
section
variable {P : Program} {B0 : Nat}
theorem Rel.weak {m : M} {h1 h2 : H} {w : World} {n0 : Nat} (r : Rel P B0 m h1 w) (k : Weak n0 h1 h2) : Rel P B0 m h2 w where
  base := r.base
  lt := fun o x h => by rw [k.n]; exact r.lt o x h
  row := fun h1' h2' => r.row (k.get h1' (by simp)) h2'
  val := fun h1' h2' => r.val (k.row h1') h2'
  own := fun h1' h2' => r.own (k.get h1' (by simp)) h2'
  ro := fun h1' h2' => r.ro (k.get h1' (by simp)) h2'
  sep := fun h1' h2' h3 h4 => by
    obtain ⟨g, c1, c2, e1, e2⟩ := r.sep h1' h2' h3 h4
    exact ⟨g, c1, c2, k.cells e1, k.cells e2⟩
  ord := fun h1' h2' h3 h4 h5 h6 => r.ord h1' (k.get h2' (by simp)) (k.get h3 (by simp)) (by rw [← k.kill]; exact h4) h5 h6
  blk := r.blk
  any := fun h1' => by
    obtain ⟨ob, e⟩ := r.any h1'
    rcases k.ob _ with h | ⟨_, h, _⟩
    · exact ⟨ob, by rw [h]; exact e⟩
    · exact ⟨_, h⟩
  lp := fun h1' h2' => r.lp (k.get h1' (by simp)) h2'
  mm := fun h1' h2' => r.mm (k.get h1' (by simp)) h2'
  gb := fun h1' => r.gb (k.get h1' (by simp))
  wf := {
    gr := fun g p h => by rw [k.n]; exact r.wf.gr g p (by rw [← k.gr]; exact h)
    mem := fun o cs g h => by rw [k.tip]; exact r.wf.mem o cs g (k.get h (by simp))
    ob := fun o x h => by
      rw [k.n]
      rcases k.ob o with h' | ⟨_, _, X, h'⟩
      · exact r.wf.ob o x (by rw [← h']; exact h)
      · exact r.wf.ob o _ h'
    kt := fun g p h => r.wf.kt g p (by rw [← k.gr]; exact h)
    tl := fun g h => by rw [k.n, k.tip]; rw [k.n] at h; exact r.wf.tl g h }
theorem FnOK.weak {f : Nat} {args : List AV} {h : H} {R R' : AOut → H → Prop} (c : FnOK P B0 f args h R) (hr : ∀ r h1, R r h1 → ∃ h2, Weak h.n h1 h2 ∧ R' r h2) : FnOK P B0 f args h R' := by
  intro m w cargs h1 h2
  refine (c m w cargs h1 h2).mono ?_
  rintro e w' ⟨r, h', q, m', he, hrel, hf⟩
  obtain ⟨h2', k, q'⟩ := hr r h' q
  refine ⟨r, h2', q', m', he, hrel.weak k, { hf with n := by rw [k.n]; exact hf.n, keep := fun o ho hm => ?_ }⟩
  refine ⟨?_, (hf.keep o ho hm).2⟩
  rcases k.ob o with h | ⟨hn, _, _⟩
  · rw [h]; exact (hf.keep o ho hm).1
  · omega
end

/-- code, then code: what is between them -/
theorem WS_mid {E : Env} {k : List Fr1} {Q : Post} {s : S} {h : H} {a b : ACode} (M : S → H → Prop) (w : WS E a [] (fun ex s h => ex = .normal ∧ M s h) s h) (kk : ∀ s h, M s h → WS E b k Q s h) : WS E (.seq a b) k Q s h := by
  refine WS_of_seq ?_
  have w' : WC E a (fun ex s h => ex = .normal ∧ M s h) s h := w
  refine w'.mono ?_
  rintro ex s' h' ⟨rfl, m⟩
  exact kk s' h' m
/-- code, then what is left of a block or the like -/
theorem WS_midK {E : Env} {k : List Fr1} {Q : Post} {s : S} {h : H} {a : ACode} (M : S → H → Prop) (w : WS E a [] (fun ex s h => ex = .normal ∧ M s h) s h) (kk : ∀ s h, M s h → WNext E k Q s h) : WS E a k Q s h := by
  have w' : WC E a (fun ex s h => ex = .normal ∧ M s h) s h := w
  refine w'.mono ?_
  rintro ex s' h' ⟨rfl, m⟩
  exact kk s' h' m

/-! ### a map that is ranged over, unchanged -/
theorem H.get_setMem (h : H) (o : Nat) (X : MObj) (j : Nat) : (h.setMem o X).get j = if j = o then some (.mem X) else h.get j := Tr.get_set _ _ _ _
/-- a map whose entries' stamps are in order -/
structure MapAt (h : H) (mo : Nat) (es : List (AV × AV × Nat)) (c : Nat) : Prop where
  get : h.get mo = some (.mem (.map es c))
  lt : ∀ e ∈ es, e.2.2 < c
  nd : (es.map (·.2.2)).Nodup
/-- the entries that were met -/
structure IterAt (h : H) (o mo : Nat) (es : List (AV × AV × Nat)) (c : Nat) (seen : List Nat) : Prop where
  get : h.get o = some (.mem (.miter (some mo) c seen c))
  nd : seen.Nodup
  sub : ∀ x ∈ seen, x ∈ es.map (·.2.2)
theorem nodup_sub_len : ∀ {l m : List Nat}, l.Nodup → (∀ x ∈ l, x ∈ m) → l.length ≤ m.length
  | [], m, _, _ => Nat.zero_le _
  | a :: r, m, hn, hs => by
    rw [List.nodup_cons] at hn
    have ha : a ∈ m := hs a List.mem_cons_self
    have h1 := nodup_sub_len (l := r) (m := m.erase a) hn.2 fun x hx => (List.mem_erase_of_ne (by rintro rfl; exact hn.1 hx)).2 (hs x (List.mem_cons_of_mem _ hx))
    rw [List.length_erase_of_mem ha] at h1
    have := List.length_pos_of_mem ha
    simp only [List.length_cons]; omega
theorem nextP_iter {h : H} {o mo : Nat} {es : List (AV × AV × Nat)} {c : Nat} {seen : List Nat} {K : AV → H → Prop} (hm : MapAt h mo es c) (hi : IterAt h o mo es c seen) (hne : mo ≠ o)
    (hend : (∀ e ∈ es, e.2.2 ∈ seen) → K (.tup [.bool false]) h)
    (hnext : ∀ e ∈ es, e.2.2 ∉ seen → ∀ h', h' = h.setMem o (.miter (some mo) c (seen ++ [e.2.2]) c) → MapAt h' mo es c → IterAt h' o mo es c (seen ++ [e.2.2]) → entryMA h' (.ptr o 0) = some (.tup [e.1, e.2.1]) →
      es.length - (seen ++ [e.2.2]).length < es.length - seen.length → K (.tup [.bool true, e.1, e.2.1]) h') :
    nextP h K (.ptr o 0) := by
  unfold nextP
  simp only [hi.get, hm.get]
  refine ⟨?_, ?_, ?_⟩
  · cases es with
    | nil => exact .inr (.inl rfl)
    | cons e r => exact .inr (.inr ⟨e, List.mem_cons_self, hm.lt e List.mem_cons_self⟩)
  · intro hall
    refine hend fun e he => ?_
    refine Decidable.byContradiction fun hn => ?_
    have := hall e he (by simpa using hn)
    have := hm.lt e he
    omega
  · intro e he hs
    have hs' : e.2.2 ∉ seen := by simpa using hs
    have hm' : MapAt (h.setMem o (.miter (some mo) c (seen ++ [e.2.2]) c)) mo es c := ⟨by rw [H.get_setMem, if_neg hne]; exact hm.get, hm.lt, hm.nd⟩
    have hi' : IterAt (h.setMem o (.miter (some mo) c (seen ++ [e.2.2]) c)) o mo es c (seen ++ [e.2.2]) := by
      refine ⟨by rw [H.get_setMem, if_pos rfl], ?_, ?_⟩
      · rw [List.nodup_append]
        refine ⟨hi.nd, by simp, ?_⟩
        intro a ha b hb; simp only [List.mem_singleton] at hb; subst hb
        intro e'; subst e'; exact hs' ha
      · intro x hx
        rcases List.mem_append.1 hx with hx | hx
        · exact hi.sub x hx
        · simp only [List.mem_singleton] at hx; subst hx; exact List.mem_map.2 ⟨e, he, rfl⟩
    refine hnext e he hs' _ rfl hm' hi' ?_ ?_
    · unfold entryMA
      simp only [hi'.get, hm'.get, List.getLast?_append, List.getLast?_singleton, Option.some_or, if_true]
      have hf : es.find? (fun x => x.2.2 == e.2.2) = some e := by
        have : ∀ (l : List (AV × AV × Nat)), (l.map (·.2.2)).Nodup → e ∈ l → l.find? (fun x => x.2.2 == e.2.2) = some e := by
          intro l
          induction l with
          | nil => intro _ h; cases h
          | cons a r ih =>
            intro hnd hmem
            simp only [List.map_cons, List.nodup_cons] at hnd
            rcases List.mem_cons.1 hmem with rfl | hmem
            · simp
            · have hne' : (a.2.2 == e.2.2) = false := by
                rw [beq_eq_false_iff_ne]
                intro e'; exact hnd.1 (by rw [e']; exact List.mem_map.2 ⟨e, hmem, rfl⟩)
              rw [List.find?_cons, hne']
              exact ih hnd.2 hmem
        exact this es hm.nd he
      rw [hf]; rfl
    · have hle : (seen ++ [e.2.2]).length ≤ (es.map (·.2.2)).length := nodup_sub_len hi'.nd hi'.sub
      rw [List.length_map] at hle
      simp only [List.length_append, List.length_singleton] at hle ⊢
      omega
end Go.Proofs.YtlbaphapjclkdaaGreatDoor.Ev

/- Whatever the interpreter answers for code and for calls, the model answers. -/
import Derived.Test.YtmfbememiffkjaaEvL1
namespace Go.Proofs.Ytmfbememiffkjaa.Ev
set_option linter.unusedVariables false
set_option linter.unusedSimpArgs false

section
variable {B0 : Nat} {P : Program}

/-! ### the marks that loops leave among the deferred calls -/
/-- the blocks for rounds' deferred calls: empty, and no object lies in them; they were laid between lo and hi, the newest first -/
def Marks (lo : Nat) (m : M) (w : World) : Nat → List Deferred → Prop
  | _, [] => True
  | hi, d :: ds => ∃ D, d = { target := .collected D, args := #[] } ∧ lo ≤ D ∧ D < hi ∧ w.heap[D]? = some (.deferred (some [])) ∧ (∀ o base sz, m o ≠ some (D, base, sz)) ∧ Marks lo m w D ds
theorem Marks.up {lo : Nat} {m : M} {w : World} {hi hi' : Nat} (h : hi ≤ hi') : ∀ {ds : List Deferred}, Marks lo m w hi ds → Marks lo m w hi' ds
  | [], _ => trivial
  | d :: ds, ⟨D, h1, h2, h3, h4⟩ => ⟨D, h1, h2, Nat.lt_of_lt_of_le h3 h, h4⟩
theorem Marks.low {lo lo' : Nat} {m : M} {w : World} (h : lo' ≤ lo) : ∀ {hi : Nat} {ds : List Deferred}, Marks lo m w hi ds → Marks lo' m w hi ds
  | _, [], _ => trivial
  | _, d :: ds, ⟨D, h1, h2, h3, h4, h5, h6⟩ => ⟨D, h1, Nat.le_trans h h2, h3, h4, h5, h6.low h⟩
theorem Fr.far {m m' : M} {h h' : H} {w w' : World} (f : Fr B0 m m' h h' w w') {D : Nat} (hD : D < w.heap.size) (hu : ∀ o base sz, m o ≠ some (D, base, sz)) : ∀ o base sz, m' o ≠ some (D, base, sz) := by
  intro o base sz hm
  cases hmo : m o with
  | some x => have := f.le o x hmo; rw [this] at hm; cases hm; exact hu _ _ _ hmo
  | none =>
    rcases f.img o D base sz hm hmo with hs | ⟨o0, b0, s0, h0⟩
    · omega
    · exact hu _ _ _ h0
theorem Marks.frame {lo : Nat} {m m' : M} {h h' : H} {w w' : World} (f : Fr B0 m m' h h' w w') : ∀ {hi : Nat} {ds : List Deferred}, hi ≤ w.heap.size → Marks lo m w hi ds → Marks lo m' w' hi ds
  | _, [], _, _ => trivial
  | hi, d :: ds, hs, ⟨D, h1, h2, h3, h4, h5, h6⟩ =>
    ⟨D, h1, h2, h3, by rw [f.blk D (by omega) (.inr fun o base sz => h5 o base sz)]; exact h4, f.far (by omega) h5, h6.frame f (by omega)⟩
theorem Marks.append {lo lo2 : Nat} {m : M} {w : World} {ms1 : List Deferred} (hl : lo ≤ lo2) (h1 : Marks lo m w lo2 ms1) : ∀ {hi : Nat} {ms2 : List Deferred}, lo2 ≤ hi → Marks lo2 m w hi ms2 → Marks lo m w hi (ms2 ++ ms1)
  | _, [], h, _ => h1.up h
  | hi, d :: ds, h, ⟨D, q1, q2, q3, q4, q5, q6⟩ => ⟨D, q1, by omega, q3, q4, q5, h1.append hl q2 q6⟩
theorem Marks.put {lo : Nat} {m : M} {w : World} {X : Nat} {ob : Obj} : ∀ {hi : Nat} {ds : List Deferred}, hi ≤ X → Marks lo m w hi ds → Marks lo m (w.putObj X ob) hi ds
  | _, [], _, _ => trivial
  | hi, d :: ds, hs, ⟨D, h1, h2, h3, h4, h5, h6⟩ => ⟨D, h1, h2, h3, by rw [World.putObj_heap_other (by omega)]; exact h4, h5, h6.put (by omega)⟩
theorem Fr.putFar {m m' : M} {h h' : H} {w w' : World} (f : Fr B0 m m' h h' w w') {D : Nat} {ob : Obj} (hD : w.heap.size ≤ D) : Fr B0 m m' h h' w (w'.putObj D ob) where
  le := f.le
  os := f.os
  tape := f.tape
  output := f.output
  size := by rw [World.putObj_size]; exact f.size
  blk := fun b hb hc => by rw [World.putObj_heap_other (by omega)]; exact f.blk b hb hc
  n := f.n
  keep := f.keep
  img := f.img
/-- code's end, with the marks that its loops left -/
def CPostM (P : Program) (B0 : Nat) (m : M) (h : H) (w : World) (nt : Nat) (ds : List Deferred) (ex : AEx) (s' : S) (h' : H) (e : Exit) (a' : Act) (w' : World) : Prop :=
  ∃ m', XRel m' ex e ∧ Rel P B0 m' h' w' ∧ Fr B0 m m' h h' w w' ∧ ARel m' nt s' a' ∧ ∃ ms, a'.defers = ms ++ ds ∧ Marks w.heap.size m' w' w'.heap.size ms
theorem CPost.marks {m : M} {h : H} {w : World} {nt : Nat} {ds : List Deferred} {ex : AEx} {s' : S} {h' : H} {e : Exit} {a' : Act} {w' : World} (c : CPost P B0 m h w nt ds ex s' h' e a' w') : CPostM P B0 m h w nt ds ex s' h' e a' w' := by
  obtain ⟨m', x, r, f, a, d⟩ := c
  exact ⟨m', x, r, f, a, [], by rw [d]; rfl, trivial⟩
theorem CPostM.trans {m m1 : M} {h h1 h' : H} {w w1 : World} {nt : Nat} {ds ms1 : List Deferred} {ex : AEx} {s' : S} (f : Fr B0 m m1 h h1 w w1) (hms : Marks w.heap.size m1 w1 w1.heap.size ms1) {e : Exit} {a' : Act} {w' : World}
    (c : CPostM P B0 m1 h1 w1 nt (ms1 ++ ds) ex s' h' e a' w') : CPostM P B0 m h w nt ds ex s' h' e a' w' := by
  obtain ⟨m', x, r, f', a, ms, d, hm⟩ := c
  exact ⟨m', x, r, f.trans f', a, ms ++ ms1, by rw [d, List.append_assoc], (hms.frame f' (Nat.le_refl _)).append f.size f'.size hm⟩
/-- a function that holds loops leaves -/
theorem leaves_marks {fn : Func} {tmps : Array Value} {R : Ending → World → Prop} {m0 : M} {h0 : H} {w0 : World} {m : M} {h : H} {u : FrameMode} (hu : u ≠ .run) :
    ∀ {ms : List Deferred} {w : World} {hi : Nat}, Rel P B0 m h w → Fr B0 m0 m h0 h w0 w → Marks w0.heap.size m w hi ms → hi ≤ w.heap.size →
      (∀ w', Rel P B0 m h w' → Fr B0 m0 m h0 h w0 w' → LeavesIn (FW none) 0 P fn tmps R [] u w') → LeavesInM (FW none) 0 P fn tmps R ms u w
  | [], w, hi, r, f, _, _, k => k w r f
  | d :: ms, w, hi, r, f, ⟨D, q1, q2, q3, q4, q5, q6⟩, hs, k =>
    ⟨hu, .inl ⟨D, _, by rw [q1], run_takeDeferred q4, leaves_marks hu (r.putFar q5) (f.putFar q2) (q6.put (Nat.le_refl _)) (by rw [World.putObj_size]; omega) k⟩⟩

/-! ### a round -/
theorem setPs_rel {m : M} {nt : Nat} : ∀ {ps : List Nat} {args : List AV} {cargs : List Value} {s : S} {a : Act}, (∀ p ∈ ps, p < nt) → VRels m args cargs → ARel m nt s a →
    ARel m nt (setPs s ps args) { a with tmps := (ps.zip cargs).foldl (fun t p => t.setIfInBounds p.1 p.2) a.tmps }
  | [], _, _, s, a, _, _, hA => hA
  | p :: ps, _, _, s, a, _, .nil, hA => hA
  | p :: ps, _, _, s, a, hp, .cons (v := v) h t, hA => by
    have hA1 : ARel m nt (upd s (some p) _) (a.put (some p) v) := hA.put (some p) (fun x hx => by cases hx; exact hp p (by simp)) h
    have := setPs_rel (ps := ps) (fun q hq => hp q (by simp [hq])) t hA1
    exact ⟨this.size, this.tmp⟩

def CodeOK (P : Program) (B0 : Nat) (T : Nat → Option AFunc) (ov : Ovs) (k : Nat) : Prop :=
  ∀ {ro : Option Nat} {nt : Nat} (c : Code) (ac : ACode), trCode P nt c = some ac → ∀ {m : M} {h : H} {w : World} {s : S} {a : Act} {ex : AEx} {s' : S} {h' : H} {Q : Exit → Act → World → Prop},
    (ro = none ∨ ac.flat = true) → Rel P B0 m h w → ARel m nt s a → (ev T ov k).code ac s h = some (ex, s', h') → (∀ e a' w', CPostM P B0 m h w nt a.defers ex s' h' e a' w' → Q e a' w') → c.wpIn (FW ro) 0 P Q a w
def RoundsOK (P : Program) (B0 : Nat) (T : Nat → Option AFunc) (ov : Ovs) (k : Nat) : Prop :=
  ∀ {ro : Option Nat} {nt : Nat} (c : Code) (ac : ACode), trCode P nt c = some ac → ∀ {m : M} {h : H} {w : World} {s : S} {a : Act} {ex : AEx} {s' : S} {h' : H} {Q : Exit → Act → World → Prop},
    (ro = none ∨ ac.flat = true) → Rel P B0 m h w → ARel m nt s a → (ev T ov k).code (.loop ac) s h = some (ex, s', h') → (∀ e a' w', CPostM P B0 m h w nt a.defers ex s' h' e a' w' → Q e a' w') → Code.roundsIn (FW ro) 0 P c Q k a w
def CallsOK (P : Program) (B0 : Nat) (T : Nat → Option AFunc) (ov : Ovs) (k : Nat) : Prop :=
  ∀ f args h r h', (ev T ov k).call f args h = some (r, h') → CallOK P B0 f args h r h'

/-- what is asked of the table of functions -/
def TableOK (P : Program) (T : Nat → Option AFunc) : Prop :=
  ∀ f af, T f = some af → ∃ fn, P.funcs[f]? = some fn ∧ (fn.name == "runtime.NumGoroutine") = false ∧ trFunc P fn = some af
/-- what is asked of the overrides -/
def OvOK (P : Program) (B0 : Nat) (ov : Ovs) : Prop :=
  ∀ f g, ov f = some g → ∀ args h r h', g args h = some (r, h') → FnOK P B0 f args h r h'

theorem stOf_busy {n : Nat} (h : n ≠ 1) : stOf n ≠ .busy := by
  unfold stOf
  split <;> simp_all
theorem range_ok {T : Nat → Option AFunc} {ov : Ovs} {k nt : Nat} (il : CallsOK P B0 T ov k) {f : Operand} {ps : Array Tmp} {x y : Code} {af : AOpd} {ax ay : ACode}
    (hf : trOpd f = some af) (hx : trCode P nt x = some ax) (hy : trCode P nt y = some ay) (hfl : (ax.flat && ay.flat && ps.all (· < nt)) = true)
    {m : M} {h : H} {w : World} {s : S} {a : Act} {ex : AEx} {s' : S} {h' : H} {Q : Exit → Act → World → Prop} (hr : Rel P B0 m h w) (hA : ARel m nt s a)
    (he : (ev T ov (k + 1)).code (.range nt af ps.toList ax ay) s h = some (ex, s', h')) (hq : ∀ e a' w', CPostM P B0 m h w nt a.defers ex s' h' e a' w' → Q e a' w') :
    (Code.rangeFunc f ps x y).wpIn (FW none) 0 P Q a w := by
  simp only [ev, stepCode] at he
  have hfv := hA.ev hf
  generalize hfa : af.ev s = fa at he hfv
  generalize hfc : a.eval f = fc at hfv
  cases hfv <;> simp only at he <;> (try (cases he; done))
  case func g cs cs' hcs =>
  split at he
  case h_2 => cases he
  rename_i v h1 hc1
  refine wpIn_rangeFunc fun fn _ => ?_
  have hl : LRel P m ⟨0, none, nt, s, ps.toList, ax, ay⟩ { state := .ready, pending := none, fn, tmps := a.tmps, params := ps, assign := x, body := y, defers := w.heap.size } := by
    simp only [Bool.and_eq_true, Array.all_eq_true'] at hfl
    exact ⟨rfl, rfl, hA.size, hA.tmp, rfl, hx, hy, by simp [hfl.1.1, hfl.1.2], fun p hp => by simpa using hfl.2 p (by simpa using hp)⟩
  obtain ⟨r1, f1⟩ := hr.pushLoop (ob := .deferred (some [])) hl
  have hm1 : (m.set h.n (w.heap.size + 1, 0, 0)) h.n = some (w.heap.size + 1, 0, 0) := by simp [M.set]
  obtain ⟨hrun, hci⟩ := il _ _ _ _ _ hc1 _ _ (.func (.yield (w.heap.size + 1)) #[] #[] :: cs') r1 (.cons (.yield hm1) (hcs.mono f1.le))
  have hmark : Marks w.heap.size (m.set h.n (w.heap.size + 1, 0, 0)) ((w.alloc (.deferred (some []))).alloc (.loop { state := .ready, pending := none, fn, tmps := a.tmps, params := ps, assign := x, body := y, defers := w.heap.size }))
      ((w.alloc (.deferred (some []))).alloc (.loop { state := .ready, pending := none, fn, tmps := a.tmps, params := ps, assign := x, body := y, defers := w.heap.size })).heap.size [{ target := .collected w.heap.size, args := #[] }] := by
    refine ⟨w.heap.size, rfl, Nat.le_refl _, by simp; omega, ?_, ?_, trivial⟩
    · rw [heap_alloc_eq, if_neg (by simp), heap_alloc_eq, if_pos rfl]
    · intro o base sz ho
      unfold M.set at ho
      split at ho
      · simp only [Option.some.injEq, Prod.mk.injEq] at ho; omega
      · have := hr.blk ho; omega
  refine ⟨_, _, _, { target := .fn (.func g) ⟨cs'⟩, args := #[.func (.yield (w.heap.size + 1)) #[] #[]] }, (w.alloc (.deferred (some []))).alloc (.loop { state := .ready, pending := none, fn, tmps := a.tmps, params := ps, assign := x, body := y, defers := w.heap.size }), g, ⟨.func (.yield (w.heap.size + 1)) #[] #[] :: cs'⟩, _, run_enterLoop_outer fn a.tmps ps x y, ?_, fun _ _ => trivial, ?_, by simp [FW, Fence.wide], CallsIn.mono (F := FW none) hci ?_⟩
  · simp only [resolve, rangeCall, hfc, Deferred.ofValue]
    simp [Act.eval]
  · simp only [invoke]
    have e1 : (#[.func (.yield (w.heap.size + 1)) #[] #[]] : Array Value) ++ (⟨cs'⟩ : Array Value) = ⟨.func (.yield (w.heap.size + 1)) #[] #[] :: cs'⟩ := by apply Array.ext'; simp
    rw [e1]; exact hrun
  rintro e w3 ⟨m3, hE, r3, f3⟩
  cases hE with
  | val hv =>
    unfold endLoopA at he
    split at he
    case h_2 => cases he
    rename_i L hL
    obtain ⟨hB, rec, hb, q⟩ := r3.lp hL (f3.le _ _ hm1)
    split at he
    case isTrue => cases he
    rename_i hst
    have hend := run_endLoop (P := P) hb (by rw [q.st]; exact stOf_busy hst)
    have q' : LRel P m3 { L with st := 3 } { rec with state := .exhausted } := ⟨rfl, q.pend, q.size, q.tmp, q.ps, q.assign, q.body, q.flat, q.lt⟩
    obtain ⟨r4, f4⟩ := r3.setLoop hL (f3.le _ _ hm1) q'
    have f5 := (f1.trans f3).trans f4
    have hA' : ARel m3 nt s { a with defers := [{ target := .collected w.heap.size, args := #[] }] ++ a.defers } := ⟨hA.size, fun j => (hA.tmp j).mono f5.le⟩
    have hk : Marks w.heap.size m3 (w3.putObj (w.heap.size + 1) (.loop { rec with state := .exhausted })) (w3.putObj (w.heap.size + 1) (.loop { rec with state := .exhausted })).heap.size [{ target := .collected w.heap.size, args := #[] }] :=
      (hmark.frame (f3.trans f4) (Nat.le_refl _)).up (by have := (f3.trans f4).size; exact this)
    refine ⟨_, _, hend, ?_⟩
    obtain ⟨lst, lpend, lnt, ls, lps, lassign, lbody⟩ := L
    obtain ⟨rst, rpend, rfn, rtmps, rparams, rassign, rbody, rdefers⟩ := rec
    have hpd : rpend = lpend.map jumpOf := q.pend
    subst hpd
    cases lpend with
    | none =>
      simp only [Option.some.injEq, Prod.mk.injEq] at he
      obtain ⟨rfl, rfl, rfl⟩ := he
      exact hq _ _ _ ⟨m3, .normal, r4, f5, hA', _, rfl, hk⟩
    | some j =>
      cases j with
      | none =>
        simp only [Option.some.injEq, Prod.mk.injEq] at he
        obtain ⟨rfl, rfl, rfl⟩ := he
        exact wpIn_ret (hq _ _ _ ⟨m3, .ret, r4, f5, hA', _, rfl, hk⟩)
      | some id =>
        simp only [Option.some.injEq, Prod.mk.injEq] at he
        obtain ⟨rfl, rfl, rfl⟩ := he
        exact wpIn_exit (hq _ _ _ ⟨m3, .exit id, r4, f5, hA', _, rfl, hk⟩)

theorem code_step {T : Nat → Option AFunc} {ov : Ovs} {k : Nat} (hm : P.follows .mixedOrders = true) (ic : CodeOK P B0 T ov k) (il : CallsOK P B0 T ov k) (ir : RoundsOK P B0 T ov (k + 1)) : CodeOK P B0 T ov (k + 1) := by
  intro ro nt c ac ht m h w s a ex s' h' Q hfl hr hA he hq
  cases c with
  | skip =>
    cases ht
    simp only [ev, stepCode, Option.some.injEq, Prod.mk.injEq] at he
    obtain ⟨rfl, rfl, rfl⟩ := he
    exact wpIn_skip (hq _ _ _ (CPost.marks ⟨m, .normal, hr, Fr.refl _ _ _ _, hA, rfl⟩))
  | region id ops draw =>
    simp only [trCode] at ht
    split at ht
    · rename_i hd
      obtain ⟨l, hl, rfl⟩ := Option.map_eq_some_iff.1 ht
      subst hd
      simp only [ev, stepCode] at he
      obtain ⟨q, h1, h2⟩ := Option.map_eq_some_iff.1 he
      cases h2
      exact sound_draw hm hl il hr hA h1 (fun e a' w' c => hq e a' w' c.marks)
    · rename_i hd
      obtain ⟨l, hl, rfl⟩ := Option.map_eq_some_iff.1 ht
      have hd' : draw = false := by simpa using hd
      subst hd'
      simp only [ev, stepCode] at he
      exact wpIn_region_list (sound_ops il _ l hl hr hA he (fun e a' w' c => hq e a' w' c.marks))
  | seq x y =>
    simp only [trCode] at ht
    split at ht
    case h_2 => cases ht
    rename_i ax ay hx hy
    cases ht
    have hf2 : (ro = none ∨ ax.flat = true) ∧ (ro = none ∨ ay.flat = true) := by
      rcases hfl with e | e
      · exact ⟨.inl e, .inl e⟩
      · simp only [ACode.flat, Bool.and_eq_true] at e; exact ⟨.inr e.1, .inr e.2⟩
    simp only [ev, stepCode] at he
    split at he
    · rename_i s1 h1 e1
      refine wpIn_seq (ic x ax hx hf2.1 hr hA e1 ?_)
      rintro e a' w' ⟨m1, hX, r1, f1, A1, ms1, d1, k1⟩
      cases hX
      exact ic y ay hy hf2.2 r1 A1 he (fun e a2 w2 hc => hq e a2 w2 (.trans f1 k1 (by rw [d1] at hc; exact hc)))
    · rename_i hne
      refine wpIn_seq (ic x ax hx hf2.1 hr hA he ?_)
      rintro e a' w' hc
      have hc' := hc
      obtain ⟨m1, hX, r1, f1, A1, ms1, d1, k1⟩ := hc'
      cases hX with
      | normal => exact absurd he (hne _ _)
      | ret => exact hq _ _ _ hc
      | exit id => exact hq _ _ _ hc
      | panic hv => exact hq _ _ _ hc
  | cond c x y =>
    simp only [trCode] at ht
    split at ht
    case h_2 => cases ht
    rename_i ac ax ay hc hx hy
    cases ht
    have hf2 : (ro = none ∨ ax.flat = true) ∧ (ro = none ∨ ay.flat = true) := by
      rcases hfl with e | e
      · exact ⟨.inl e, .inl e⟩
      · simp only [ACode.flat, Bool.and_eq_true] at e; exact ⟨.inr e.1, .inr e.2⟩
    simp only [ev, stepCode] at he
    have hv := hA.ev hc
    generalize hvv : a.eval c = vc at hv
    generalize ac.ev s = va at he hv
    cases hv <;> simp only at he <;> (try (cases he; done))
    case bool t =>
      refine wpIn_cond hvv ?_
      cases t
      · exact ic y ay hy hf2.2 hr hA he hq
      · exact ic x ax hx hf2.1 hr hA he hq
  | block id c =>
    simp only [trCode] at ht
    obtain ⟨ac, hc, rfl⟩ := Option.map_eq_some_iff.1 ht
    have hf2 : ro = none ∨ ac.flat = true := hfl
    simp only [ev, stepCode] at he
    split at he
    · rename_i id' s1 h1 e1
      refine wpIn_block (ic c ac hc hf2 hr hA e1 ?_)
      rintro e a' w' ⟨m1, hX, r1, f1, A1, ms1, d1, k1⟩
      cases hX
      simp only [Option.some.injEq, Prod.mk.injEq] at he
      obtain ⟨rfl, rfl, rfl⟩ := he
      by_cases hid : id' = id
      · simp only [Exit.inBlock, hid, if_true] at hq ⊢
        exact hq _ _ _ ⟨m1, .normal, r1, f1, A1, ms1, d1, k1⟩
      · simp only [Exit.inBlock, hid, if_false] at hq ⊢
        exact hq _ _ _ ⟨m1, .exit _, r1, f1, A1, ms1, d1, k1⟩
    · rename_i hne
      refine wpIn_block (ic c ac hc hf2 hr hA he ?_)
      rintro e a' w' hc
      have hc' := hc
      obtain ⟨m1, hX, r1, f1, A1, ms1, d1, k1⟩ := hc'
      cases hX with
      | normal => exact hq _ _ _ hc
      | ret => exact hq _ _ _ hc
      | exit id => exact absurd he (hne _ _ _)
      | panic hv => exact hq _ _ _ hc
  | loop c =>
    simp only [trCode] at ht
    obtain ⟨ac, hc, rfl⟩ := Option.map_eq_some_iff.1 ht
    have hf2 : ro = none ∨ ac.flat = true := hfl
    exact wpIn_loop_rounds (k + 1) (ir c ac hc hf2 hr hA he hq)
  | exit id =>
    cases ht
    simp only [ev, stepCode, Option.some.injEq, Prod.mk.injEq] at he
    obtain ⟨rfl, rfl, rfl⟩ := he
    exact wpIn_exit (hq _ _ _ (CPost.marks ⟨m, .exit _, hr, Fr.refl _ _ _ _, hA, rfl⟩))
  | ret =>
    cases ht
    simp only [ev, stepCode, Option.some.injEq, Prod.mk.injEq] at he
    obtain ⟨rfl, rfl, rfl⟩ := he
    exact wpIn_ret (hq _ _ _ (CPost.marks ⟨m, .ret, hr, Fr.refl _ _ _ _, hA, rfl⟩))
  | rangeFunc f ps x y =>
    simp only [trCode] at ht
    split at ht
    case h_2 => cases ht
    rename_i af ax ay hf hx hy
    split at ht
    case isFalse => cases ht
    rename_i hps
    cases ht
    have hro : ro = none := by
      rcases hfl with e | e
      · exact e
      · simp [ACode.flat] at e
    subst hro
    exact range_ok il hf hx hy hps hr hA he hq
  | _ => cases ht

theorem rounds_step {T : Nat → Option AFunc} {ov : Ovs} {k : Nat} (ic : CodeOK P B0 T ov k) (ir : RoundsOK P B0 T ov k) : RoundsOK P B0 T ov (k + 1) := by
  intro ro nt c ac ht m h w s a ex s' h' Q hfl hr hA he hq
  rw [roundsIn_succ]
  simp only [ev, stepCode] at he
  split at he
  · rename_i s1 h1 e1
    refine ic c ac ht hfl hr hA e1 ?_
    rintro e a' w' ⟨m1, hX, r1, f1, A1, ms1, d1, k1⟩
    cases hX
    exact ir c ac ht hfl r1 A1 he (fun e a2 w2 hc => hq e a2 w2 (.trans f1 k1 (by rw [d1] at hc; exact hc)))
  · rename_i hne
    refine ic c ac ht hfl hr hA he ?_
    rintro e a' w' hc
    have hc' := hc
    obtain ⟨m1, hX, r1, f1, A1, ms1, d1, k1⟩ := hc'
    cases hX with
    | normal => exact absurd he (hne _ _)
    | ret => exact hq _ _ _ hc
    | exit id => exact hq _ _ _ hc
    | panic hv => exact hq _ _ _ hc

theorem run_callFunc_enter {f : Nat} {fn : Func} (hf : P.funcs[f]? = some fn) (hn : (fn.name == "runtime.NumGoroutine") = false) {c : Code} (hb : fn.body = some c) (args : Array Value) (w : World) :
    (callFunc f args).run P w = .ok (.enter f args) w := by
  have hn' : fn.name ≠ "runtime.NumGoroutine" := by simpa using hn
  simp [callFunc, go_sem, hf, hn', hb]

theorem fn_step {T : Nat → Option AFunc} {ov : Ovs} {k : Nat} (hT : TableOK P T) (hO : OvOK P B0 ov) (ic : CodeOK P B0 T ov k) {f : Nat} {args : List AV} {h : H} {r : AOut} {h' : H}
    (he : (ev T ov (k + 1)).call (.fn f) args h = some (r, h')) : FnOK P B0 f args h r h' := by
  simp only [ev, stepCall] at he
  split at he
  · rename_i g hg; exact hO f g hg args h r h' he
  split at he
  · cases he
  rename_i af haf
  obtain ⟨fn, hf, hn, htr⟩ := hT f af haf
  unfold trFunc at htr
  split at htr
  · cases htr
  rename_i c hb
  split at htr
  case h_2 => cases htr
  rename_i ac ar hc hrs
  cases htr
  split at he
  case isFalse => cases he
  rename_i hlen
  simp only at hlen
  intro m w cargs hr hargs
  refine ⟨run_callFunc_enter hf hn hb _ _, ?_⟩
  refine callsIn_of_wp_marks hf hb trivial ?_ rfl
  have hcl : cargs.length = args.length := hargs.len.symm
  have hA : ARel m fn.ntmps (enterS args) { tmps := (⟨cargs⟩ : Array Value) ++ Array.replicate (fn.ntmps - (⟨cargs⟩ : Array Value).size) undef, defers := [] } := by
    refine ⟨?_, fun j => ?_⟩
    · simp; omega
    · unfold enterS
      simp only [Array.getD_eq_getD_getElem?, Array.getElem?_append, List.getD_eq_getElem?_getD]
      by_cases hj : j < cargs.length
      · rw [if_pos (by simpa using hj)]
        obtain ⟨v, h1, h2⟩ := hargs.get j (args[j]'(by omega)) (by simp)
        rw [show args[j]? = some (args[j]'(by omega)) by simp]
        rw [show (⟨cargs⟩ : Array Value)[j]? = some v by simpa using h1]
        exact h2
      · rw [if_neg (by simpa using hj), List.getElem?_eq_none (by omega)]
        have : ((Array.replicate (fn.ntmps - (⟨cargs⟩ : Array Value).size) undef)[j - (⟨cargs⟩ : Array Value).size]?).getD undef = undef := by
          rw [Array.getElem?_replicate]; split <;> rfl
        rw [this]; exact undef_rel
  simp only at he
  split at he
  · rename_i s1 h1 e1
    obtain ⟨v, hv, hrh⟩ := Option.map_eq_some_iff.1 he
    cases hrh
    refine ic c ac hc (.inl rfl) hr hA e1 ?_
    rintro e a' w' ⟨m1, hX, r1, f1, A1, ms1, d1, k1⟩
    cases hX
    rw [List.append_nil] at d1
    show LeavesInM _ _ _ _ _ _ a'.defers _ _
    rw [d1]
    refine leaves_marks (by simp) r1 f1 k1 (Nat.le_refl _) fun w2 r2 f2 => ?_
    obtain ⟨v', hvr, hres⟩ := results_ok r2 A1 hrs hv
    exact ⟨v', hres, m1, .val hvr, r2, f2⟩
  · rename_i s1 h1 e1
    obtain ⟨v, hv, hrh⟩ := Option.map_eq_some_iff.1 he
    cases hrh
    refine ic c ac hc (.inl rfl) hr hA e1 ?_
    rintro e a' w' ⟨m1, hX, r1, f1, A1, ms1, d1, k1⟩
    cases hX
    rw [List.append_nil] at d1
    show LeavesInM _ _ _ _ _ _ a'.defers _ _
    rw [d1]
    refine leaves_marks (by simp) r1 f1 k1 (Nat.le_refl _) fun w2 r2 f2 => ?_
    obtain ⟨v', hvr, hres⟩ := results_ok r2 A1 hrs hv
    exact ⟨v', hres, m1, .val hvr, r2, f2⟩
  · rename_i v s1 h1 e1
    cases he
    refine ic c ac hc (.inl rfl) hr hA e1 ?_
    rintro e a' w' ⟨m1, hX, r1, f1, A1, ms1, d1, k1⟩
    cases hX with
    | panic hv =>
      rw [List.append_nil] at d1
      show LeavesInM _ _ _ _ _ _ a'.defers _ _
      rw [d1]
      exact leaves_marks (by simp) r1 f1 k1 (Nat.le_refl _) fun w2 r2 f2 => ⟨m1, .panic hv, r2, f2⟩
  · cases he

theorem endRound_ok {m0 m : M} {h0 h : H} {w0 w : World} {o b : Nat} (r1 : Rel P B0 m h w) (f1 : Fr B0 m0 m h0 h w0 w) (hm : m o = some (b, 0, 0)) {jump : Option (Option Nat)} {r : AOut} {h' : H} (he : endRoundA h o jump = some (r, h')) :
    ∃ v w', (Instr.endRound b (jump.map jumpOf)).run P w = .ok v w' ∧ CallPost P B0 m0 h0 w0 r h' (.returned v) w' := by
  unfold endRoundA at he
  split at he
  case h_2 => cases he
  rename_i L hL
  simp only [Option.some.injEq, Prod.mk.injEq] at he
  obtain ⟨rfl, rfl⟩ := he
  obtain ⟨hB, rec, hb, q⟩ := r1.lp hL hm
  refine ⟨_, _, run_endRound _ hb, ?_⟩
  have q' : LRel P m { L with st := if jump.isNone then 0 else 2, pend := jump } { rec with state := if (jump.map jumpOf).isNone then .ready else .done, pending := jump.map jumpOf } :=
    ⟨by cases jump <;> rfl, rfl, q.size, q.tmp, q.ps, q.assign, q.body, q.flat, q.lt⟩
  obtain ⟨r4, f4⟩ := r1.setLoop hL hm q'
  refine ⟨m, ?_, r4, f1.trans f4⟩
  have : (jump.map jumpOf).isNone = jump.isNone := by cases jump <;> rfl
  rw [this]
  exact .val (.bool _)
theorem yld_step {T : Nat → Option AFunc} {ov : Ovs} {k : Nat} (ic : CodeOK P B0 T ov k) {o : Nat} {args : List AV} {h : H} {r : AOut} {h' : H} (he : (ev T ov (k + 1)).call (.yld o) args h = some (r, h')) : YieldOK P B0 o args h r h' := by
  simp only [ev, stepCall, stepYield] at he
  split at he
  case h_2 => cases he
  rename_i L hL
  split at he
  case isFalse => cases he
  rename_i hlen
  intro m w cargs b hr hm hargs
  obtain ⟨hB, rec, hb, q⟩ := hr.lp hL hm
  have hsz : (⟨cargs⟩ : Array Value).size = rec.params.size := by
    have e1 := hargs.len
    have e2 : rec.params.size = L.ps.length := by rw [← q.ps]; simp
    simp only [List.size_toArray]; omega
  refine ⟨_, _, _, _, run_yield hb hsz, roundIn_of_wpIn (F := FW none) trivial ?_⟩
  have hfl := q.flat
  simp only [Bool.and_eq_true] at hfl
  split at he
  case h_2 => cases he
  rename_i s1 h1 e1
  have hA0 : ARel m L.nt L.s { tmps := rec.tmps, defers := [] } := ⟨q.size, q.tmp⟩
  have hA : ARel m L.nt (setPs L.s L.ps args) { tmps := (rec.params.zip (⟨cargs⟩ : Array Value)).foldl (fun tmps (p : Tmp × Value) => tmps.setIfInBounds p.1 p.2) rec.tmps, defers := [] } := by
    have := setPs_rel q.lt hargs hA0
    rw [← q.ps] at this
    rw [← Array.foldl_toList, Array.toList_zip]
    rw [q.ps] at this ⊢
    exact this
  refine ic (ro := some b) rec.assign L.assign q.assign (.inr hfl.1) hr hA e1 ?_
  rintro e a1 w1 ⟨m1, hX, r1, f1, A1, ms1, d1, k1⟩
  cases hX
  split at he
  case h_2 => cases he
  rename_i L1 hL1
  split at he
  case isFalse => cases he
  rename_i hst
  have hm1 : m1 o = some (b, 0, 0) := f1.le _ _ hm
  obtain ⟨hB1, rec1, hb1, q1⟩ := r1.lp hL1 hm1
  refine ⟨_, run_beginRound hb1 (by rw [q1.st, hst]; rfl), ?_⟩
  have q2 : LRel P m1 { L1 with st := 1 } { rec1 with state := .busy } := ⟨rfl, q1.pend, q1.size, q1.tmp, q1.ps, q1.assign, q1.body, q1.flat, q1.lt⟩
  obtain ⟨r2, f2⟩ := r1.setLoop hL1 hm1 q2
  have A2 : ARel m1 L.nt s1 a1 := A1
  split at he
  · rename_i s2 h2 e2
    refine ic (ro := some b) rec.body L.body q.body (.inr hfl.2) r2 A2 e2 ?_
    rintro e a3 w3 ⟨m3, hX, r3, f3, A3, ms3, d3, k3⟩
    cases hX
    exact endRound_ok r3 ((f1.trans f2).trans f3) (f3.le _ _ hm1) he
  · rename_i s2 h2 e2
    refine ic (ro := some b) rec.body L.body q.body (.inr hfl.2) r2 A2 e2 ?_
    rintro e a3 w3 ⟨m3, hX, r3, f3, A3, ms3, d3, k3⟩
    cases hX
    exact endRound_ok r3 ((f1.trans f2).trans f3) (f3.le _ _ hm1) he
  · rename_i id s2 h2 e2
    refine ic (ro := some b) rec.body L.body q.body (.inr hfl.2) r2 A2 e2 ?_
    rintro e a3 w3 ⟨m3, hX, r3, f3, A3, ms3, d3, k3⟩
    cases hX
    exact endRound_ok r3 ((f1.trans f2).trans f3) (f3.le _ _ hm1) he
  · cases he

theorem calls_step {T : Nat → Option AFunc} {ov : Ovs} {k : Nat} (hT : TableOK P T) (hO : OvOK P B0 ov) (ic : CodeOK P B0 T ov k) : CallsOK P B0 T ov (k + 1) := by
  intro f args h r h' he
  cases f with
  | fn f => exact fn_step hT hO ic he
  | yld o => exact yld_step ic he

theorem ev_ok {T : Nat → Option AFunc} {ov : Ovs} (hm : P.follows .mixedOrders = true) (hT : TableOK P T) (hO : OvOK P B0 ov) (k : Nat) : CodeOK P B0 T ov k ∧ RoundsOK P B0 T ov k ∧ CallsOK P B0 T ov k := by
  induction k with
  | zero =>
    refine ⟨?_, ?_, ?_⟩
    · intro ro nt c ac ht m h w s a ex s' h' Q _ _ _ he; cases he
    · intro ro nt c ac ht m h w s a ex s' h' Q _ _ _ he; cases he
    · intro f args h r h' he; cases he
  | succ k ih =>
    obtain ⟨i1, i2, i3⟩ := ih
    have r : RoundsOK P B0 T ov (k + 1) := rounds_step i1 i2
    have c : CallsOK P B0 T ov (k + 1) := calls_step hT hO i1
    have d : CodeOK P B0 T ov (k + 1) := code_step hm i1 i3 r
    exact And.intro d (And.intro r c)

/-- what the interpreter answers for a call, the model answers -/
theorem sound_call {T : Nat → Option AFunc} {ov : Ovs} (hm : P.follows .mixedOrders = true) (hT : TableOK P T) (hO : OvOK P B0 ov) {k f : Nat} {args : List AV} {h h' : H} {r : AOut} (he : (ev T ov k).call (.fn f) args h = some (r, h')) : FnOK P B0 f args h r h' :=
  (ev_ok hm hT hO k).2.2 (.fn f) args h r h' he
end
end Go.Proofs.Ytmfbememiffkjaa.Ev

/- Whatever the interpreter answers for code and for calls, the model answers. -/
import Derived.Test.YtlbaphapjclkdaaGreatDoorEvD5
namespace Go.Proofs.YtlbaphapjclkdaaGreatDoor.Ev
set_option linter.unusedVariables false
set_option linter.unusedSimpArgs false

section
variable {B0 : Nat} {P : Program}

/-! ### the marks that loops leave among the deferred calls -/
/-- the blocks for rounds' deferred calls: empty, and no object lies in them; they were laid between lo and hi, the newest first -/
def Marks (lo : Nat) (m : M) (w : World) : Nat → List Deferred → Prop
  | _, [] => True
  | hi, d :: ds => ∃ D, d = { target := .collected D, args := #[] } ∧ lo ≤ D ∧ D < hi ∧ w.heap[D]? = some (.deferred (some [])) ∧ (∀ o base sz, m o ≠ some (D, base, sz)) ∧ Marks lo m w D ds
theorem Marks.up {lo : Nat} {m : M} {w : World} {hi hi' : Nat} (h : hi ≤ hi') : ∀ {ds : List Deferred}, Marks lo m w hi ds → Marks lo m w hi' ds
  | [], _ => trivial
  | d :: ds, ⟨D, h1, h2, h3, h4⟩ => ⟨D, h1, h2, Nat.lt_of_lt_of_le h3 h, h4⟩
theorem Marks.low {lo lo' : Nat} {m : M} {w : World} (h : lo' ≤ lo) : ∀ {hi : Nat} {ds : List Deferred}, Marks lo m w hi ds → Marks lo' m w hi ds
  | _, [], _ => trivial
  | _, d :: ds, ⟨D, h1, h2, h3, h4, h5, h6⟩ => ⟨D, h1, Nat.le_trans h h2, h3, h4, h5, h6.low h⟩
theorem Fr.far {m m' : M} {h h' : H} {w w' : World} (f : Fr B0 m m' h h' w w') {D : Nat} (hD : D < w.heap.size) (hu : ∀ o base sz, m o ≠ some (D, base, sz)) : ∀ o base sz, m' o ≠ some (D, base, sz) := by
  intro o base sz hm
  cases hmo : m o with
  | some x => have := f.le o x hmo; rw [this] at hm; cases hm; exact hu _ _ _ hmo
  | none =>
    rcases f.img o D base sz hm hmo with hs | ⟨o0, b0, s0, h0⟩
    · omega
    · exact hu _ _ _ h0
theorem Marks.frame {lo : Nat} {m m' : M} {h h' : H} {w w' : World} (f : Fr B0 m m' h h' w w') : ∀ {hi : Nat} {ds : List Deferred}, hi ≤ w.heap.size → Marks lo m w hi ds → Marks lo m' w' hi ds
  | _, [], _, _ => trivial
  | hi, d :: ds, hs, ⟨D, h1, h2, h3, h4, h5, h6⟩ =>
    ⟨D, h1, h2, h3, by rw [f.blk D (by omega) (.inr fun o base sz => h5 o base sz)]; exact h4, f.far (by omega) h5, h6.frame f (by omega)⟩
theorem Marks.append {lo lo2 : Nat} {m : M} {w : World} {ms1 : List Deferred} (hl : lo ≤ lo2) (h1 : Marks lo m w lo2 ms1) : ∀ {hi : Nat} {ms2 : List Deferred}, lo2 ≤ hi → Marks lo2 m w hi ms2 → Marks lo m w hi (ms2 ++ ms1)
  | _, [], h, _ => h1.up h
  | hi, d :: ds, h, ⟨D, q1, q2, q3, q4, q5, q6⟩ => ⟨D, q1, by omega, q3, q4, q5, h1.append hl q2 q6⟩
theorem Marks.put {lo : Nat} {m : M} {w : World} {X : Nat} {ob : Obj} : ∀ {hi : Nat} {ds : List Deferred}, hi ≤ X → Marks lo m w hi ds → Marks lo m (w.putObj X ob) hi ds
  | _, [], _, _ => trivial
  | hi, d :: ds, hs, ⟨D, h1, h2, h3, h4, h5, h6⟩ => ⟨D, h1, h2, h3, by rw [World.putObj_heap_other (by omega)]; exact h4, h5, h6.put (by omega)⟩
theorem Fr.putFar {m m' : M} {h h' : H} {w w' : World} (f : Fr B0 m m' h h' w w') {D : Nat} {ob : Obj} (hD : w.heap.size ≤ D) : Fr B0 m m' h h' w (w'.putObj D ob) where
  le := f.le
  os := f.os
  tape := f.tape
  output := f.output
  size := by rw [World.putObj_size]; exact f.size
  blk := fun b hb hc => by rw [World.putObj_heap_other (by omega)]; exact f.blk b hb hc
  n := f.n
  keep := f.keep
  img := f.img
  dr := f.dr
/-- code's end, with the marks that its loops left; fl: there are none -/
def CPostM (P : Program) (B0 : Nat) (m : M) (h : H) (w : World) (nt : Nat) (ds : List Deferred) (fl : Bool) (ex : AEx) (s' : S) (h' : H) (e : Exit) (a' : Act) (w' : World) : Prop :=
  ∃ m', XRel m' ex e ∧ Rel P B0 m' h' w' ∧ Fr B0 m m' h h' w w' ∧ ARel m' nt s' a' ∧ ∃ ms, a'.defers = ms ++ ds ∧ Marks w.heap.size m' w' w'.heap.size ms ∧ (fl = true → ms = [])
theorem CPost.marks {m : M} {h : H} {w : World} {nt : Nat} {ds : List Deferred} {fl : Bool} {ex : AEx} {s' : S} {h' : H} {e : Exit} {a' : Act} {w' : World} (c : CPost P B0 m h w nt ds ex s' h' e a' w') : CPostM P B0 m h w nt ds fl ex s' h' e a' w' := by
  obtain ⟨m', x, r, f, a, d⟩ := c
  exact ⟨m', x, r, f, a, [], by rw [d]; rfl, trivial, fun _ => rfl⟩
theorem CPostM.trans {m m1 : M} {h h1 h' : H} {w w1 : World} {nt : Nat} {ds ms1 : List Deferred} {fl : Bool} {ex : AEx} {s' : S} (f : Fr B0 m m1 h h1 w w1) (hms : Marks w.heap.size m1 w1 w1.heap.size ms1) (hfl : fl = true → ms1 = []) {e : Exit} {a' : Act} {w' : World}
    (c : CPostM P B0 m1 h1 w1 nt (ms1 ++ ds) fl ex s' h' e a' w') : CPostM P B0 m h w nt ds fl ex s' h' e a' w' := by
  obtain ⟨m', x, r, f', a, ms, d, hm, hf2⟩ := c
  exact ⟨m', x, r, f.trans f', a, ms ++ ms1, by rw [d, List.append_assoc], (hms.frame f' (Nat.le_refl _)).append f.size f'.size hm, fun h => by rw [hf2 h, hfl h]; rfl⟩
/-- a function that holds loops leaves -/
theorem leaves_marks {fn : Func} {tmps : Array Value} {R : Ending → World → Prop} {m0 : M} {h0 : H} {w0 : World} {m : M} {h : H} {u : FrameMode} {rest : List Deferred} (hB : B0 ≤ w0.heap.size) (hu : u ≠ .run) :
    ∀ {ms : List Deferred} {w : World} {hi : Nat}, Rel P B0 m h w → Fr B0 m0 m h0 h w0 w → Marks w0.heap.size m w hi ms → hi ≤ w.heap.size →
      (∀ w', Rel P B0 m h w' → Fr B0 m0 m h0 h w0 w' → LeavesInM (FW none) 0 P fn tmps R rest u w') → LeavesInM (FW none) 0 P fn tmps R (ms ++ rest) u w
  | [], w, hi, r, f, _, _, k => k w r f
  | d :: ms, w, hi, r, f, ⟨D, q1, q2, q3, q4, q5, q6⟩, hs, k =>
    ⟨hu, .inl ⟨D, _, by rw [q1], run_takeDeferred q4, leaves_marks hB hu (r.putFar (Nat.le_trans hB q2) q5) (f.putFar q2) (q6.put (Nat.le_refl _)) (by rw [World.putObj_size]; omega) k⟩⟩

/-! ### a round -/
theorem setPs_rel {m : M} {nt : Nat} : ∀ {ps : List Nat} {args : List AV} {cargs : List Value} {s : S} {a : Act}, (∀ p ∈ ps, p < nt) → VRels m args cargs → ARel m nt s a →
    ARel m nt (setPs s ps args) { a with tmps := (ps.zip cargs).foldl (fun t p => t.setIfInBounds p.1 p.2) a.tmps }
  | [], _, _, s, a, _, _, hA => hA
  | p :: ps, _, _, s, a, _, .nil, hA => hA
  | p :: ps, _, _, s, a, hp, .cons (v := v) h t, hA => by
    have hA1 : ARel m nt (upd s (some p) _) (a.put (some p) v) := hA.put (some p) (fun x hx => by cases hx; exact hp p (by simp)) h
    have := setPs_rel (ps := ps) (fun q hq => hp q (by simp [hq])) t hA1
    exact ⟨this.size, this.tmp⟩

/-! ### loops, scopes -/
/-- a loop, from a round's beginning on -/
def LoopsIn (F : Fence) (n : Nat) (P : Program) (c : Code) (Q : Exit → Act → World → Prop) (a : Act) (w : World) : Prop :=
  ∀ (b : Frame) (k : List Item) (cs : List Frame), b.roundOf = F.round → F.fn b.fn → F.room (cs.length + 1 + n) →
    ∃ e a' w', Q e a' w' ∧ ArrivesIn (Machine.fenced P F) P (lone (b.atR a (.code c :: .inLoop c :: k)) cs w) b k cs e a' w'
theorem LoopsIn.step {F : Fence} {n : Nat} {c : Code} {Q : Exit → Act → World → Prop} {a : Act} {w : World} (h : c.wpIn F n P (Exit.then (LoopsIn F n P c Q) Q) a w) : LoopsIn F n P c Q a w := by
  intro b k cs hro hb hr
  obtain ⟨e, a₁, w₁, hq, harr⟩ := h b (.inLoop c :: k) cs hro hb hr
  cases e with
  | normal =>
    obtain ⟨e₂, a₂, w₂, hq₂, harr₂⟩ := hq b k cs hro hb hr
    exact ⟨e₂, a₂, w₂, hq₂, .of_steps (StepsIn.trans harr (.one (fenced_calm hb hr rfl) stepR_inLoop)) harr₂⟩
  | exit id => exact ⟨_, a₁, w₁, hq, .pass (x := .inLoop c) rfl (fun _ _ => .inl (by simp)) harr⟩
  | goto l => exact ⟨_, a₁, w₁, hq, .pass (x := .inLoop c) rfl (fun _ _ => .inl (by simp)) harr⟩
  | ret => exact ⟨_, a₁, w₁, hq, .pass (x := .inLoop c) rfl (fun _ _ => .inl (by simp)) harr⟩
  | panic ch => exact ⟨_, a₁, w₁, hq, .pass (x := .inLoop c) rfl (fun _ _ => .inl (by simp)) harr⟩
  | outgrown => exact ⟨_, a₁, w₁, hq, .pass (x := .inLoop c) rfl (fun _ _ => .inl (by simp)) harr⟩
theorem LoopsIn.wp {F : Fence} {n : Nat} {c : Code} {Q : Exit → Act → World → Prop} {a : Act} {w : World} (h : LoopsIn F n P c Q a w) : (Code.loop c).wpIn F n P Q a w := by
  intro b k cs hro hb hr
  obtain ⟨e, a', w', hq, harr⟩ := h b k cs hro hb hr
  exact ⟨e, a', w', hq, .of_steps (.one (fenced_calm hb hr rfl) stepR_loop) harr⟩
theorem LoopsIn.mono {F : Fence} {n : Nat} {c : Code} {Q Q' : Exit → Act → World → Prop} {a : Act} {w : World} (h : LoopsIn F n P c Q a w) (hq : ∀ e a w, Q e a w → Q' e a w) : LoopsIn F n P c Q' a w := by
  intro b k cs hro hb hr
  obtain ⟨e, a', w', q, harr⟩ := h b k cs hro hb hr
  exact ⟨e, a', w', hq _ _ _ q, harr⟩
theorem stepR_scope {b : Frame} {a : Act} {k : List Item} {cs : List Frame} {w : World} {c : Code} : step P (lone (b.atR a (.code (.scope c) :: k)) cs w) = .next (lone (b.atR a (.code c :: .inScope c :: k)) cs w) :=
  step_lone_go (by simp [stepG, stepG.exec, Frame.atR])
theorem stepR_inScope {b : Frame} {a : Act} {k : List Item} {cs : List Frame} {w : World} {c : Code} : step P (lone (b.atR a (.inScope c :: k)) cs w) = .next (lone (b.atR a k) cs w) :=
  step_lone_go (by simp [stepG, stepG.exec, Frame.atR])
theorem wpIn_scope {F : Fence} {n : Nat} {c : Code} {Q : Exit → Act → World → Prop} {a : Act} {w : World} (h : c.wpIn F n P Q a w) (hg : ∀ l a w, ¬ Q (.goto l) a w) : (Code.scope c).wpIn F n P Q a w := by
  intro b k cs hro hb hr
  have h0 : (lone (b.atR a (.code (.scope c) :: k)) cs w).fenced P F := fenced_calm hb hr rfl
  obtain ⟨e, a₁, w₁, hq, harr⟩ := h b (.inScope c :: k) cs hro hb hr
  have hx : ∀ id, exitTo id (.inScope c :: k) = exitTo id k := fun id => by simp [exitTo]
  cases e with
  | normal => exact ⟨.normal, a₁, w₁, hq, .head h0 stepR_scope (StepsIn.trans harr (.one (fenced_calm hb hr rfl) stepR_inScope))⟩
  | exit id =>
    exact ⟨.exit id, a₁, w₁, hq, fun k' hk => .head h0 stepR_scope (harr.1 k' (by rw [hx]; exact hk)),
      fun hr' hk => let ⟨k₁, h1, h2⟩ := harr.2 hr' (by rw [hx]; exact hk); ⟨k₁, h1, .head h0 stepR_scope h2⟩⟩
  | goto l => exact absurd hq (hg _ _ _)
  | ret => exact ⟨_, a₁, w₁, hq, .of_steps (.one h0 stepR_scope) harr⟩
  | panic ch => exact ⟨_, a₁, w₁, hq, .of_steps (.one h0 stepR_scope) harr⟩
  | outgrown => exact ⟨_, a₁, w₁, hq, .of_steps (.one h0 stepR_scope) harr⟩

/-- what is asked of the tables of functions -/
structure TableOK (P : Program) (E : Env) : Prop where
  T : ∀ f af, E.T f = some af → ∃ fn, P.funcs[f]? = some fn ∧ (fn.name == "runtime.NumGoroutine") = false ∧ trFunc P fn = some af
  D : ∀ f af, E.D f = some af → ∃ fn, P.funcs[f]? = some fn ∧ (fn.name == "runtime.NumGoroutine") = false ∧ trFuncD P fn = some af
  R : ∀ f af, E.R f = some af → ∃ fn, P.funcs[f]? = some fn ∧ (fn.name == "runtime.NumGoroutine") = false ∧ trFuncR P fn = some af
/-- what is asked of the overrides -/
def OvOK (P : Program) (B0 : Nat) (ov : Ovs) : Prop :=
  ∀ f g, ov f = some g → ∀ args h r h', g args h = some (r, h') → FnOK P B0 f args h (fun r1 h1 => r1 = r ∧ h1 = h')

theorem stOf_busy {n : Nat} (h : n ≠ 1) : stOf n ≠ .busy := by
  unfold stOf
  split <;> simp_all
theorem run_callFunc_enter {f : Nat} {fn : Func} (hf : P.funcs[f]? = some fn) (hn : (fn.name == "runtime.NumGoroutine") = false) {c : Code} (hb : fn.body = some c) (args : Array Value) (w : World) :
    (callFunc f args).run P w = .ok (.enter f args) w := by
  have hn' : fn.name ≠ "runtime.NumGoroutine" := by simpa using hn
  simp [callFunc, go_sem, hf, hn', hb]


theorem runs_enter {f : Nat} {fn : Func} (hf : P.funcs[f]? = some fn) (hn : (fn.name == "runtime.NumGoroutine") = false) {c : Code} (hb : fn.body = some c) {args : Array Value} {w : World} {Q : Ending → World → Prop} (r : Runs P f args w Q) :
    (callFunc f args).run P w = .ok (.enter f args) w ∧ CallsIn (FW none) 0 P f args w Q := by
  rcases r with r | ⟨v, w', h1, _⟩
  · exact r
  · rw [run_callFunc_enter hf hn hb] at h1; cases h1

/-- code comes to so much; a loop: from a round's beginning on -/
def CodeGo (F : Fence) (P : Program) (Q : Exit → Act → World → Prop) (a : Act) (w : World) : Code → Prop
  | .loop d => LoopsIn F 0 P d Q a w
  | cc => cc.wpIn F 0 P Q a w
theorem CodeGo.wp {F : Fence} {Q : Exit → Act → World → Prop} {a : Act} {w : World} {cc : Code} (g : CodeGo F P Q a w cc) : cc.wpIn F 0 P Q a w := by
  cases cc <;> first | exact g | exact LoopsIn.wp g
/-- the mode of a frame whose deferred call is made -/
inductive URel (m : M) : Option AV → FrameMode → Prop
  | none : URel m none .returning
  | some {v : AV} {v' : Value} (h : VRel m v v') : URel m (some v) (.panicking [{ v := v', recovered := false }])
def JobOK (P : Program) (B0 : Nat) : Job → Prop
  | .code c s h Q => ∀ {ro : Option Nat} {nt : Nat} {fl : Bool} (cc : Code), trCode P nt cc = some c → (ro = none ∨ c.flat = true) → (fl = true → c.flat = true) → ∀ {m : M} {w : World} {a : Act} {Qc : Exit → Act → World → Prop}, Rel P B0 m h w → ARel m nt s a →
      (∀ ex s' h' e a' w', Q ex s' h' → CPostM P B0 m h w nt a.defers fl ex s' h' e a' w' → Qc e a' w') → CodeGo (FW ro) P Qc a w cc
  | .call f args h R => CallOK P B0 f args h R
  | .dcode d rs s h R => ∀ (cc : Code) (fn : Func), trDef P fn.ntmps cc = some d → trRess P fn.results.toList = some rs → ∀ {m0 : M} {h0 : H} {w0 : World} {m : M} {w : World} {a : Act}, Rel P B0 m h w → Fr B0 m0 m h0 h w0 w → B0 ≤ w0.heap.size →
      ARel m fn.ntmps s a → Marks w0.heap.size m w w.heap.size a.defers → cc.wpIn (FW none) 0 P (bodyPostM (FW none) 0 P fn (CallR P B0 m0 h0 w0 R)) a w
  | .rcv f u h R => ∀ (m : M) (w : World) (g : Nat) (cs : List AV) (cs' : List Value) (uc : FrameMode), f = .func g cs → VRels m cs cs' → URel m u uc → Rel P B0 m h w →
      (callFunc g ⟨cs'⟩).run P w = .ok (.enter g ⟨cs'⟩) w ∧ CallsDIn (FW none) 0 P g ⟨cs'⟩ uc w (fun e u' w' => (∃ v, e = .returned v) ∧ settle u' = .returning ∧ ∃ m' h', R h' ∧ Rel P B0 m' h' w' ∧ Fr B0 m m' h h' w w')

/-! ### the rules, one by one -/
theorem enter_rel {m : M} {nt : Nat} {args : List AV} {cargs : List Value} (hargs : VRels m args cargs) (hlen : args.length ≤ nt) :
    ARel m nt (enterS args) { tmps := (⟨cargs⟩ : Array Value) ++ Array.replicate (nt - (⟨cargs⟩ : Array Value).size) undef, defers := [] } := by
  have hcl : cargs.length = args.length := hargs.len.symm
  refine ⟨?_, fun j => ?_⟩
  · simp; omega
  · unfold enterS
    simp only [Array.getD_eq_getD_getElem?, Array.getElem?_append, List.getD_eq_getElem?_getD]
    by_cases hj : j < cargs.length
    · rw [if_pos (by simpa using hj)]
      obtain ⟨v, h1, h2⟩ := hargs.get j (args[j]'(by omega)) (by simp)
      rw [show args[j]? = some (args[j]'(by omega)) by simp]
      rw [show (⟨cargs⟩ : Array Value)[j]? = some v by simpa using h1]
      exact h2
    · rw [if_neg (by simpa using hj), List.getElem?_eq_none (by omega)]
      have : ((Array.replicate (nt - (⟨cargs⟩ : Array Value).size) undef)[j - (⟨cargs⟩ : Array Value).size]?).getD undef = undef := by
        rw [Array.getElem?_replicate]; split <;> rfl
      rw [this]; exact undef_rel
theorem bodyPostM_goto {fn : Func} {R : Ending → World → Prop} (l : Nat) (a : Act) (w : World) : ¬ bodyPostM (FW none) 0 P fn R (.goto l) a w := fun h => h
/-- a body's end, behind its marks -/
theorem body_end {fn : Func} {rs : List ARes} (hrs : trRess P fn.results.toList = some rs) {R : AOut → H → Prop} {m0 : M} {h0 : H} {w0 : World} (hB : B0 ≤ w0.heap.size) {ex : AEx} {s' : S} {h' : H} {e : Exit} {a' : Act} {w' : World} (hq : atEnd rs R ex s' h')
    {m1 : M} (hX : XRel m1 ex e) (r1 : Rel P B0 m1 h' w') (f1 : Fr B0 m0 m1 h0 h' w0 w') (A1 : ARel m1 fn.ntmps s' a') (k1 : Marks w0.heap.size m1 w' w'.heap.size a'.defers) : bodyPostM (FW none) 0 P fn (CallR P B0 m0 h0 w0 R) e a' w' := by
  have hval : (atEnd rs R .normal s' h') → LeavesInM (FW none) 0 P fn a'.tmps (CallR P B0 m0 h0 w0 R) a'.defers .returning w' := by
    intro hq
    obtain ⟨v, h2, hv, hR⟩ := WX.get hq
    obtain ⟨v', hv', e2⟩ := Option.map_eq_some_iff.1 hv
    cases e2
    have := leaves_marks (rest := []) hB (by simp) r1 f1 k1 (Nat.le_refl _) (fn := fn) (tmps := a'.tmps) (R := CallR P B0 m0 h0 w0 R) (u := .returning) fun w2 r2 f2 => by
      obtain ⟨v2, hvr, hres⟩ := results_ok r2 A1 hrs hv'
      exact ⟨v2, hres, _, _, hR, m1, .val hvr, r2, f2⟩
    rw [List.append_nil] at this
    exact this
  cases hX with
  | normal => exact hval hq
  | ret => exact hval hq
  | exit id => exact hq.elim
  | panic hv =>
    have := leaves_marks (rest := []) hB (by simp) r1 f1 k1 (Nat.le_refl _) (fn := fn) (tmps := a'.tmps) (R := CallR P B0 m0 h0 w0 R) (u := .panicking [{ v := _, recovered := false }]) fun w2 r2 f2 => ⟨_, _, hq, m1, .panic hv, r2, f2⟩
    rw [List.append_nil] at this
    exact this

theorem range_ok {E : Env} (hT : TableOK P E) {nt : Nat} {f : Operand} {ps : Array Tmp} {x y : Code} {af : AOpd} {ax ay : ACode}
    (hf : trOpd f = some af) (hx : trCode P nt x = some ax) (hy : trCode P nt y = some ay) (hfl : (ax.flat && ay.flat && ps.all (· < nt)) = true)
    {m : M} {h : H} {w : World} {s : S} {a : Act} {Qa : Post} {Q : Exit → Act → World → Prop} (hr : Rel P B0 m h w) (hA : ARel m nt s a) {g : Nat} {cs : List AV} (hfa : af.ev s = .func g cs) (hg : (E.T g).isSome = true)
    (he : CallOK P B0 (.fn g) (.yield h.n :: cs) (h.push (.loop ⟨0, none, nt, s, ps.toList, ax, ay⟩)) (loopEnd Qa s h.n)) (hq : ∀ ex s' h' e a' w', Qa ex s' h' → CPostM P B0 m h w nt a.defers false ex s' h' e a' w' → Q e a' w') :
    (Code.rangeFunc f ps x y).wpIn (FW none) 0 P Q a w := by
  have hfv := hA.ev hf
  generalize hfc : a.eval f = fc at hfv
  rw [hfa] at hfv
  cases hfv with
  | func _ hcs =>
  rename_i cs'
  refine wpIn_rangeFunc fun fn _ => ?_
  have hl : LRel P m ⟨0, none, nt, s, ps.toList, ax, ay⟩ { state := .ready, pending := none, fn, tmps := a.tmps, params := ps, assign := x, body := y, defers := w.heap.size } := by
    simp only [Bool.and_eq_true, Array.all_eq_true'] at hfl
    exact ⟨rfl, rfl, hA.size, hA.tmp, rfl, hx, hy, by simp [hfl.1.1, hfl.1.2], fun p hp => by simpa using hfl.2 p (by simpa using hp)⟩
  obtain ⟨r1, f1⟩ := hr.pushLoop (ob := .deferred (some [])) hl
  have hm1 : (m.set h.n (w.heap.size + 1, 0, 0)) h.n = some (w.heap.size + 1, 0, 0) := by simp [M.set]
  obtain ⟨faf, hfaf⟩ := Option.isSome_iff_exists.1 hg
  obtain ⟨gfn, hgf, hgn, hgtr⟩ := hT.T g faf hfaf
  have hgb : ∃ c, gfn.body = some c := by
    unfold trFunc at hgtr
    split at hgtr
    · cases hgtr
    · exact ⟨_, by assumption⟩
  obtain ⟨gc, hgc⟩ := hgb
  obtain ⟨hrun, hci⟩ := runs_enter hgf hgn hgc (he _ _ (.func (.yield (w.heap.size + 1)) #[] #[] :: cs') r1 (.cons (.yield hm1) (hcs.mono f1.le)))
  have hmark : Marks w.heap.size (m.set h.n (w.heap.size + 1, 0, 0)) ((w.alloc (.deferred (some []))).alloc (.loop { state := .ready, pending := none, fn, tmps := a.tmps, params := ps, assign := x, body := y, defers := w.heap.size }))
      ((w.alloc (.deferred (some []))).alloc (.loop { state := .ready, pending := none, fn, tmps := a.tmps, params := ps, assign := x, body := y, defers := w.heap.size })).heap.size [{ target := .collected w.heap.size, args := #[] }] := by
    refine ⟨w.heap.size, rfl, Nat.le_refl _, by simp; omega, ?_, ?_, trivial⟩
    · rw [heap_alloc_eq, if_neg (by simp), heap_alloc_eq, if_pos rfl]
    · intro o base sz ho
      unfold M.set at ho
      split at ho
      · simp only [Option.some.injEq, Prod.mk.injEq] at ho; omega
      · have := hr.blk ho; omega
  refine ⟨_, _, _, { target := .fn (.func g) ⟨cs'⟩, args := #[.func (.yield (w.heap.size + 1)) #[] #[]] }, (w.alloc (.deferred (some []))).alloc (.loop { state := .ready, pending := none, fn, tmps := a.tmps, params := ps, assign := x, body := y, defers := w.heap.size }), g, ⟨.func (.yield (w.heap.size + 1)) #[] #[] :: cs'⟩, _, run_enterLoop_outer fn a.tmps ps x y, ?_, fun _ _ => trivial, ?_, by simp [FW, Fence.wide], CallsIn.mono (F := FW none) hci ?_⟩
  · simp only [resolve, rangeCall, hfc, Deferred.ofValue]
    simp [Act.eval]
  · simp only [invoke]
    have e1 : (#[.func (.yield (w.heap.size + 1)) #[] #[]] : Array Value) ++ (⟨cs'⟩ : Array Value) = ⟨.func (.yield (w.heap.size + 1)) #[] #[] :: cs'⟩ := by apply Array.ext'; simp
    rw [e1]; exact hrun
  rintro e w3 ⟨r, h1, hR, m3, hE, r3, f3⟩
  cases hE with
  | panic hv => exact hR.elim
  | val hv =>
    obtain ⟨L, hL, hst, hR⟩ := hR
    obtain ⟨hB, rec, hb, q⟩ := r3.lp hL (f3.le _ _ hm1)
    have hend := run_endLoop (P := P) hb (by rw [q.st]; exact stOf_busy hst)
    have q' : LRel P m3 { L with st := 3 } { rec with state := .exhausted } := ⟨rfl, q.pend, q.size, q.tmp, q.ps, q.assign, q.body, q.flat, q.lt⟩
    obtain ⟨r4, f4⟩ := r3.setLoop hL (f3.le _ _ hm1) q'
    have f5 := (f1.trans f3).trans f4
    have hA' : ARel m3 nt s { a with defers := [{ target := .collected w.heap.size, args := #[] }] ++ a.defers } := ⟨hA.size, fun j => (hA.tmp j).mono f5.le⟩
    have hk : Marks w.heap.size m3 (w3.putObj (w.heap.size + 1) (.loop { rec with state := .exhausted })) (w3.putObj (w.heap.size + 1) (.loop { rec with state := .exhausted })).heap.size [{ target := .collected w.heap.size, args := #[] }] :=
      (hmark.frame (f3.trans f4) (Nat.le_refl _)).up (by have := (f3.trans f4).size; exact this)
    refine ⟨_, _, hend, ?_⟩
    obtain ⟨lst, lpend, lnt, ls, lps, lassign, lbody⟩ := L
    obtain ⟨rst, rpend, rfn, rtmps, rparams, rassign, rbody, rdefers⟩ := rec
    have hpd : rpend = lpend.map jumpOf := q.pend
    subst hpd
    cases lpend with
    | none => exact hq _ _ _ _ _ _ hR ⟨m3, .normal, r4, f5, hA', _, rfl, hk, fun h => by cases h⟩
    | some j =>
      cases j with
      | none => exact wpIn_ret (hq _ _ _ _ _ _ hR ⟨m3, .ret, r4, f5, hA', _, rfl, hk, fun h => by cases h⟩)
      | some id => exact wpIn_exit (hq _ _ _ _ _ _ hR ⟨m3, .exit id, r4, f5, hA', _, rfl, hk, fun h => by cases h⟩)

theorem endRound_ok {m0 m : M} {h0 h : H} {w0 w : World} {o b : Nat} (r1 : Rel P B0 m h w) (f1 : Fr B0 m0 m h0 h w0 w) (hm : m o = some (b, 0, 0)) {ex : AEx} {s : S} {R : AOut → H → Prop} (he : roundEnd R o ex s h) {jump : Option (Option Nat)}
    (hj : match ex with | .normal => jump = none | .ret => jump = some none | .exit id => jump = some (some id) | .panic _ => False) :
    ∃ v w', (Instr.endRound b (jump.map jumpOf)).run P w = .ok v w' ∧ CallR P B0 m0 h0 w0 R (.returned v) w' := by
  obtain ⟨L, hL, hR⟩ := he
  obtain ⟨hB, rec, hb, q⟩ := r1.lp hL hm
  refine ⟨_, _, run_endRound _ hb, ?_⟩
  have q' : LRel P m { L with st := if jump.isNone then 0 else 2, pend := jump } { rec with state := if (jump.map jumpOf).isNone then .ready else .done, pending := jump.map jumpOf } :=
    ⟨by cases jump <;> rfl, rfl, q.size, q.tmp, q.ps, q.assign, q.body, q.flat, q.lt⟩
  obtain ⟨r4, f4⟩ := r1.setLoop hL hm q'
  cases ex with
  | normal => subst hj; exact ⟨_, _, hR, m, .val (.bool _), r4, f1.trans f4⟩
  | ret => subst hj; exact ⟨_, _, hR, m, .val (.bool _), r4, f1.trans f4⟩
  | exit id => subst hj; exact ⟨_, _, hR, m, .val (.bool _), r4, f1.trans f4⟩
  | panic v => exact hj.elim

/-! ### deferred calls -/
theorem wpListIn_append {F : Fence} {n : Nat} {ops : Array Oper} {Q : Exit → Act → World → Prop} : ∀ {l1 l2 : List Oper} {a : Act} {w : World}, wpListIn F n P ops (Exit.then (wpListIn F n P ops Q l2) Q) l1 a w → wpListIn F n P ops Q (l1 ++ l2) a w
  | [], l2, a, w, h => h
  | o :: l1, l2, a, w, h => by
    simp only [wpListIn, List.cons_append] at h ⊢
    split at h
    · rename_i hw
      rw [if_pos hw]
      refine ⟨h.1, ?_⟩
      have h2 := h.2
      unfold Oper.uponIn at h2 ⊢
      split at h2
      · exact wpListIn_append h2
      · exact wpListIn_append h2
      · exact wpListIn_append h2
      · refine ⟨h2.1, h2.2.mono ?_⟩
        intro e w' q
        cases e with
        | returned v => exact wpListIn_append q
        | panicked c => exact q
        | outgrown => obtain ⟨a, w, q⟩ := q; exact ⟨a, w, q⟩
      · exact ⟨h2.1, h2.2.mono fun v w' q => wpListIn_append q⟩
      · refine ⟨h2.1, h2.2.mono ?_⟩
        intro e w' q
        cases e with
        | returned v => exact wpListIn_append q
        | panicked c => exact q
        | outgrown => obtain ⟨a, w, q⟩ := q; exact ⟨a, w, q⟩
      · exact h2
      · exact h2.elim
    · rename_i hw
      rw [if_neg hw]
      exact ⟨h.1, wpListIn_append h.2⟩
end
end Go.Proofs.YtlbaphapjclkdaaGreatDoor.Ev

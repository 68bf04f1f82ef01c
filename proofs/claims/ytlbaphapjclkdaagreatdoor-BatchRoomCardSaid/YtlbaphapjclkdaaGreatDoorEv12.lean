/- Whatever the interpreter answers for code and for calls, the model answers. -/
import Derived.Test.YtlbaphapjclkdaaGreatDoorEv11
import Derived.TacticsIn
import Derived.WalkSmall
import Derived.LoopNIn
import Derived.Laws.Sem
namespace Go.Proofs.YtlbaphapjclkdaaGreatDoor.Ev
set_option linter.unusedVariables false
set_option linter.unusedSimpArgs false

/-- the fence that lets all in, in a round or not -/
def FW (ro : Option Nat) : Fence := { Fence.wide with round := ro }

inductive ERel (m : M) : AOut → Ending → Prop
  | val {v : AV} {v' : Value} (h : VRel m v v') : ERel m (.val v) (.returned v')
  | panic {v : AV} {v' : Value} (h : VRel m v v') : ERel m (.panic v) (.panicked [{ v := v', recovered := false }])
def CallPost (P : Program) (B0 : Nat) (m : M) (h : H) (w : World) (r : AOut) (h' : H) (e : Ending) (w' : World) : Prop :=
  ∃ m', ERel m' r e ∧ Rel P B0 m' h' w' ∧ Fr B0 m m' h h' w w'
/-- a call's end, of which so much is said -/
def CallR (P : Program) (B0 : Nat) (m : M) (h : H) (w : World) (R : AOut → H → Prop) (e : Ending) (w' : World) : Prop := ∃ r h', R r h' ∧ CallPost P B0 m h w r h' e w'
/-- a call: it is entered, or it is a row's, that answers at once -/
def Runs (P : Program) (f : Nat) (cargs : Array Value) (w : World) (Q : Ending → World → Prop) : Prop :=
  ((callFunc f cargs).run P w = .ok (.enter f cargs) w ∧ CallsIn (FW none) 0 P f cargs w Q) ∨ ∃ v w', (callFunc f cargs).run P w = .ok (.value v) w' ∧ Q (.returned v) w'
theorem Runs.mono {P : Program} {f : Nat} {cargs : Array Value} {w : World} {Q Q' : Ending → World → Prop} (r : Runs P f cargs w Q) (hq : ∀ e w', Q e w' → Q' e w') : Runs P f cargs w Q' := by
  rcases r with ⟨h1, h2⟩ | ⟨v, w', h1, h2⟩
  · exact .inl ⟨h1, h2.mono hq⟩
  · exact .inr ⟨v, w', h1, hq _ _ h2⟩
/-- what a call of a function does -/
def FnOK (P : Program) (B0 : Nat) (f : Nat) (args : List AV) (h : H) (R : AOut → H → Prop) : Prop :=
  ∀ (m : M) (w : World) (cargs : List Value), Rel P B0 m h w → VRels m args cargs → Runs P f ⟨cargs⟩ w (CallR P B0 m h w R)
/-- what a call of a loop's yield does -/
def YieldOK (P : Program) (B0 : Nat) (o : Nat) (args : List AV) (h : H) (R : AOut → H → Prop) : Prop :=
  ∀ (m : M) (w : World) (cargs : List Value) (b : Nat), Rel P B0 m h w → m o = some (b, 0, 0) → VRels m args cargs →
    ∃ fn tmps assign body, (Instr.yield b ⟨cargs⟩).run P w = .ok (.round b fn tmps assign body) w ∧ RoundIn (FW none) 0 P b fn tmps assign body w (CallR P B0 m h w R)
def CallOK (P : Program) (B0 : Nat) : CallP
  | .fn f => FnOK P B0 f
  | .yld o => YieldOK P B0 o
theorem CallR.imp {P : Program} {B0 : Nat} {m : M} {h : H} {w : World} {R R' : AOut → H → Prop} (hr : ∀ r h, R r h → R' r h) {e : Ending} {w' : World} : CallR P B0 m h w R e w' → CallR P B0 m h w R' e w' := by
  rintro ⟨r, h', q, c⟩; exact ⟨r, h', hr _ _ q, c⟩
theorem CallOK.imp {P : Program} {B0 : Nat} {f : Fn} {args : List AV} {h : H} {R R' : AOut → H → Prop} (hr : ∀ r h, R r h → R' r h) (c : CallOK P B0 f args h R) : CallOK P B0 f args h R' := by
  cases f with
  | fn f => exact fun m w cargs h1 h2 => (c m w cargs h1 h2).mono fun e w' => CallR.imp hr
  | yld o =>
    intro m w cargs b h1 h2 h3
    obtain ⟨fn, tmps, assign, body, e, q⟩ := c m w cargs b h1 h2 h3
    exact ⟨fn, tmps, assign, body, e, q.mono fun e w' => CallR.imp hr⟩
inductive XRel (m : M) : AEx → Exit → Prop
  | normal : XRel m .normal .normal
  | ret : XRel m .ret .ret
  | exit (id : Nat) : XRel m (.exit id) (.exit id)
  | panic {v : AV} {v' : Value} (h : VRel m v v') : XRel m (.panic v) (.panic [{ v := v', recovered := false }])
def CPost (P : Program) (B0 : Nat) (m : M) (h : H) (w : World) (nt : Nat) (ds : List Deferred) (ex : AEx) (s' : S) (h' : H) (e : Exit) (a' : Act) (w' : World) : Prop :=
  ∃ m', XRel m' ex e ∧ Rel P B0 m' h' w' ∧ Fr B0 m m' h h' w w' ∧ ARel m' nt s' a' ∧ a'.defers = ds

section
variable {B0 : Nat} {P : Program}

theorem CPost.trans {m m1 : M} {h h1 h' : H} {w w1 : World} {nt : Nat} {ds : List Deferred} {ex : AEx} {s' : S} (f : Fr B0 m m1 h h1 w w1) {e : Exit} {a' : Act} {w' : World}
    (c : CPost P B0 m1 h1 w1 nt ds ex s' h' e a' w') : CPost P B0 m h w nt ds ex s' h' e a' w' := by
  obtain ⟨m', x, r, f', a, d⟩ := c
  exact ⟨m', x, r, f.trans f', a, d⟩

theorem wanted_rel {m : M} {nt : Nat} {s : S} {a : Act} (hA : ARel m nt s a) {ops : Array Oper} {o : Oper} {g : Option (Nat × Bool)} (hg : trGuard nt ops.toList o.guard = some g) :
    Region.wanted o (yielded ops a.tmps) = wanted g s := by
  unfold Region.wanted
  cases ho : o.guard with
  | none => rw [ho] at hg; cases hg; rfl
  | some jb =>
    obtain ⟨j, b⟩ := jb
    rw [ho] at hg
    simp only [trGuard] at hg
    split at hg
    case h_2 => cases hg
    rename_i d hd
    split at hg
    case isFalse => cases hg
    rename_i hlt
    cases hg
    have hd' : (ops[j]?).bind (·.dst) = some d := by simpa using hd
    have ht := hA.tmp d
    have hlt' : d < a.tmps.size := by rw [hA.size]; exact hlt
    have e1 : a.tmps.getD d undef = a.tmps[d] := by simp [Array.getD, hlt']
    have e2 : a.tmps[d]? = some a.tmps[d] := by simp [hlt']
    simp only [wanted, yielded, hd', Option.bind_some, e2]
    rw [e1] at ht
    generalize s d = q at ht
    generalize a.tmps[d] = q' at ht
    cases ht <;> rfl

theorem put_defers (a : Act) (d : Option Nat) (v : Value) : (a.put d v).defers = a.defers := by cases d <;> rfl
theorem trBuiltin_plain {b : Builtin} {xs : List Operand} {ts : List TypeId} {ao : AOp} (h : trBuiltin P b xs ts = some ao) : ao.plain = true := by
  unfold trBuiltin at h
  repeat' (split at h)
  all_goals first | (cases h; done) | (cases h; rfl) | (obtain ⟨kk, _, rfl⟩ := Option.map_eq_some_iff.1 h; rfl)
theorem trOp_call {op : Op} {f : AOpd} {xs : List AOpd} (h : trOp P op = some (.call f xs)) : ∃ c x, op = .call c ∧ c.callee = .value x ∧ trOpd x = some f ∧ trOpds c.args.toList = some xs := by
  cases op
  case call c =>
    simp only [trOp] at h
    split at h
    · rename_i x hx
      split at h
      · rename_i h1 h2; cases h; exact ⟨c, x, rfl, hx, h1, h2⟩
      · cases h
    · have := trBuiltin_plain h; cases this
    · cases h
  case makeFunc fn a b =>
    cases fn <;> simp only [trOp] at h <;> (try (cases h; done))
    split at h
    · simp [Option.map_eq_some_iff] at h
    · split at h
      · simp [Option.map_eq_some_iff] at h
      · cases h
  case makeMap t r => cases r <;> simp [trOp] at h
  case next y b => cases b <;> simp [trOp, Option.map_eq_some_iff] at h
  all_goals (simp only [trOp] at h)
  all_goals (try (repeat' (split at h)))
  all_goals (try (simp [Option.bind_eq_some_iff, Option.map_eq_some_iff] at h; done))
  all_goals (obtain ⟨_, _, h⟩ := Option.bind_eq_some_iff.1 h; split at h <;> cases h)
theorem trOp_panic {op : Op} {x : AOpd} (h : trOp P op = some (.panic x)) : ∃ y, op = .panic y ∧ trOpd y = some x := by
  cases op
  case panic y =>
    simp only [trOp] at h
    obtain ⟨z, h1, h2⟩ := Option.map_eq_some_iff.1 h
    cases h2; exact ⟨y, rfl, h1⟩
  case call c =>
    simp only [trOp] at h
    split at h
    · split at h <;> cases h
    · have := trBuiltin_plain h; cases this
    · cases h
  case makeFunc fn a b =>
    cases fn <;> simp only [trOp] at h <;> (try (cases h; done))
    split at h
    · simp [Option.map_eq_some_iff] at h
    · split at h
      · simp [Option.map_eq_some_iff] at h
      · cases h
  case makeMap t r => cases r <;> simp [trOp] at h
  case next y b => cases b <;> simp [trOp, Option.map_eq_some_iff] at h
  all_goals (simp only [trOp] at h)
  all_goals (try (repeat' (split at h)))
  all_goals (try (simp [Option.bind_eq_some_iff, Option.map_eq_some_iff] at h; done))
  all_goals (obtain ⟨_, _, h⟩ := Option.bind_eq_some_iff.1 h; split at h <;> cases h)
theorem trOp_nextM {op : Op} {x : AOpd} (h : trOp P op = some (.nextM x)) : ∃ y, op = .next y false ∧ trOpd y = some x := by
  cases op
  case next y b =>
    cases b with
    | true => simp only [trOp] at h; obtain ⟨z, h1, h2⟩ := Option.map_eq_some_iff.1 h; cases h2
    | false =>
      simp only [trOp] at h
      obtain ⟨z, h1, h2⟩ := Option.map_eq_some_iff.1 h
      cases h2; exact ⟨y, rfl, h1⟩
  case call c =>
    simp only [trOp] at h
    split at h
    · split at h <;> cases h
    · have := trBuiltin_plain h; cases this
    · cases h
  case makeFunc fn a b =>
    cases fn <;> simp only [trOp] at h <;> (try (cases h; done))
    split at h
    · simp [Option.map_eq_some_iff] at h
    · split at h
      · simp [Option.map_eq_some_iff] at h
      · cases h
  case makeMap t r => cases r <;> simp [trOp] at h
  all_goals (simp only [trOp] at h)
  all_goals (try (repeat' (split at h)))
  all_goals (try (simp [Option.bind_eq_some_iff, Option.map_eq_some_iff] at h; done))
  all_goals (obtain ⟨_, _, h⟩ := Option.bind_eq_some_iff.1 h; split at h <;> cases h)
theorem about_ok (ro : Option Nat) (w : World) (o : Oper) (ρ : Operand → Value) : ∀ f, o.about P w ρ = some f → (FW ro).fn f := fun _ _ => trivial

/-- the operations of a region, in the order of the text -/
theorem sound_ops {ro : Option Nat} {nt : Nat} {ops : Array Oper} {Qa : Post} {Q : Exit → Act → World → Prop} :
    ∀ (rest : List Oper) (l : List AStep), trSteps P nt ops.toList rest = some l → ∀ {m : M} {h : H} {w : World} {s : S} {a : Act}, Rel P B0 m h w → ARel m nt s a →
      WOpsG (CallOK P B0) l Qa s h → (∀ ex s' h' e a' w', Qa ex s' h' → CPost P B0 m h w nt a.defers ex s' h' e a' w' → Q e a' w') → wpListIn (FW ro) 0 P ops Q rest a w
  | [], l, ht, m, h, w, s, a, hr, hA, he, hq => by
    cases ht
    exact hq _ _ _ _ _ _ he ⟨m, .normal, hr, Fr.refl _ _ _ _, hA, rfl⟩
  | o :: rest, l, ht, m, h, w, s, a, hr, hA, he, hq => by
    simp only [trSteps] at ht
    split at ht
    case h_2 => cases ht
    rename_i st l' hst hl'
    cases ht
    unfold trStep at hst
    split at hst
    case h_2 => cases hst
    rename_i ao g hop hg
    have hst' : st = ⟨o.dst, ao, g⟩ ∧ ∀ x, o.dst = some x → x < nt := by
      cases hd : o.dst with
      | none => rw [hd] at hst; cases hst; exact ⟨rfl, fun x hx => by cases hx⟩
      | some d =>
        rw [hd] at hst
        simp only at hst
        split at hst
        · rename_i hlt; cases hst; exact ⟨rfl, fun x hx => by cases hx; exact hlt⟩
        · cases hst
    obtain ⟨rfl, hdst⟩ := hst'
    have hwant := wanted_rel hA (ops := ops) hg
    simp only [WOpsG] at he
    cases hwg : wanted g s with
    | false =>
      rw [hwg] at he hwant
      simp only [Bool.false_eq_true, if_false] at he
      simp only [wpListIn, hwant, Bool.false_eq_true, if_false]
      exact ⟨about_ok ro w o _, sound_ops rest l' hl' hr (hA.put o.dst hdst undef_rel) he (fun ex s' h' e a' w' hqa hc => hq ex s' h' e a' w' hqa (by rw [put_defers] at hc; exact hc))⟩
    | true =>
      rw [hwg] at he hwant
      simp only [if_true] at he
      simp only [wpListIn, hwant, if_true]
      refine ⟨about_ok ro w o _, ?_⟩
      have hdd : ∀ v, (a.put o.dst v).defers = a.defers := put_defers a o.dst
      have hnext : ∀ {v : AV} {h1 : H} {m1 : M} {w1 : World} {v' : Value}, WOpsG (CallOK P B0) l' Qa (upd s o.dst v) h1 → VRel m1 v v' → Rel P B0 m1 h1 w1 → Fr B0 m m1 h h1 w w1 → wpListIn (FW ro) 0 P ops Q rest (a.put o.dst v') w1 := by
        intro v h1 m1 w1 v' hw hv r1 f1
        exact sound_ops rest l' hl' r1 ((hA.mono f1.le).put o.dst hdst hv) hw (fun ex s' h' e a' w' hqa hc => hq ex s' h' e a' w' hqa (.trans f1 (by rw [hdd] at hc; exact hc)))
      have hpan : ∀ {v : AV} {h1 : H} {m1 : M} {w1 : World} {v' : Value}, Qa (.panic v) s h1 → VRel m1 v v' → Rel P B0 m1 h1 w1 → Fr B0 m m1 h h1 w w1 → Q (.panic [{ v := v', recovered := false }]) a w1 := by
        intro v h1 m1 w1 v' hw hv r1 f1
        exact hq _ _ _ _ _ _ hw ⟨m1, .panic hv, r1, f1, hA.mono f1.le, rfl⟩
      by_cases hpl : ao.plain = true
      · -- no call
        rw [WOpG_plain hpl] at he
        obtain ⟨v, h1, hex, he⟩ := he.get
        obtain ⟨_, m1, w1, v', hrun, d⟩ := sound_exec hr hA hop hex
        have hnd : ∀ c, o.op ≠ .defer c := by
          intro c hc; rw [hc] at hop; simp [trOp] at hop
        rw [Oper.semAt_eq _ _ _ hnd]
        have hrest := hnext he d.val d.rel d.fr
        rcases hrun with hrun | ⟨hrun, rfl⟩
        · rw [hrun]; exact hrest
        · rw [hrun]; exact hrest
      · cases ao <;> simp only [AOp.plain, not_true_eq_false] at hpl
        case call fo args =>
          simp only [WOpG] at he
          obtain ⟨c, x, hoc, hcx, hx, hxs⟩ := trOp_call hop
          have hnd : ∀ c, o.op ≠ .defer c := by intro c hc; rw [hc] at hoc; cases hoc
          rw [Oper.semAt_eq _ _ _ hnd]
          have hf := hA.ev hx
          have hargs := hA.evs hxs
          generalize hfv : fo.ev s = fv at he hf
          generalize hfc : a.eval x = fc at hf
          have hrunF : ∀ {fn : Nat} {vs : List AV} {cvs : List Value}, VRels m vs cvs → FnOK P B0 fn vs h (onOut (fun v h => WOpsG (CallOK P B0) l' Qa (upd s o.dst v) h) (fun v h => Qa (.panic v) s h)) →
              (execOp a.eval o).run P w = (callFunc fn ⟨cvs⟩).run P w → o.uponIn (FW ro) 0 P a (wpListIn (FW ro) 0 P ops Q rest) Q ((execOp a.eval o).run P w) := by
            intro fn vs cvs hvs hok hexe
            rw [hexe]
            rcases hok m w _ hr hvs with ⟨hrun, hci⟩ | ⟨v, w', hrun, r, h1, hR, m1, hE, r1, f1⟩
            · rw [hrun]
              refine ⟨by simp [FW, Fence.wide], ?_⟩
              refine CallsIn.mono (F := FW none) hci ?_
              rintro e w1 ⟨r, h1, hR, m1, hE, r1, f1⟩
              cases hE with
              | val hv => exact hnext hR hv r1 f1
              | panic hv => exact hpan hR hv r1 f1
            · rw [hrun]
              cases hE with
              | val hv => exact hnext hR hv r1 f1
          cases hf <;> simp only [WFunG] at he <;> (try (exact he.elim))
          case func f cs cs' hcs =>
            refine hrunF (hargs.append hcs) he ?_
            have e1 : c.args.map a.eval ++ (⟨cs'⟩ : Array Value) = ⟨c.args.toList.map a.eval ++ cs'⟩ := by apply Array.ext'; simp
            simp only [execOp, hoc, resolve, hcx, hfc, Deferred.ofValue, Sem.run_bind, Sem.run_pure, Result.andThen_ok, invoke]
            rw [show (#[] : Array Value) ++ c.args.map a.eval = c.args.map a.eval from by simp, e1]
          case meth f v v' hv =>
            refine hrunF (.cons hv hargs) he ?_
            have e1 : #[v'] ++ c.args.map a.eval ++ (#[] : Array Value) = ⟨v' :: c.args.toList.map a.eval⟩ := by apply Array.ext'; simp
            simp only [execOp, hoc, resolve, hcx, hfc, Deferred.ofValue, Sem.run_bind, Sem.run_pure, Result.andThen_ok, invoke]
            rw [e1]
          case yield yo b hb =>
            have hexe : (execOp a.eval o).run P w = (Instr.yield b ⟨c.args.toList.map a.eval⟩).run P w := by
              have e1 : c.args.map a.eval = (⟨c.args.toList.map a.eval⟩ : Array Value) := by apply Array.ext'; simp
              simp only [execOp, hoc, resolve, hcx, hfc, Deferred.ofValue, Sem.run_bind, Sem.run_pure, Result.andThen_ok, invoke]
              rw [show (#[] : Array Value) ++ c.args.map a.eval = c.args.map a.eval from by simp, e1]
            rw [hexe]
            obtain ⟨fn, tmps, assign, body, hrun, hround⟩ := he m w _ b hr hb hargs
            rw [hrun]
            refine ⟨by simp [FW, Fence.wide], ?_⟩
            refine RoundIn.mono (F := FW none) hround ?_
            rintro e w1 ⟨r, h1, hR, m1, hE, r1, f1⟩
            cases hE with
            | val hv => exact hnext hR hv r1 f1
            | panic hv => exact hpan hR hv r1 f1
        case panic x =>
          simp only [WOpG] at he
          obtain ⟨y, hoy, hy⟩ := trOp_panic hop
          have hnd : ∀ c, o.op ≠ .defer c := by intro c hc; rw [hc] at hoy; cases hoy
          rw [Oper.semAt_eq _ _ _ hnd]
          have hv := hA.ev hy
          generalize x.ev s = xv at he hv
          generalize hxc : a.eval y = xc at hv
          cases hv <;> simp only at he <;> (try (exact he.elim))
          case iface ty v v' hvv =>
            have hexe : (execOp a.eval o).run P w = .halt (.panic (.iface ty v')) w := by
              simp only [execOp, hoy, hxc, Sem.run_bind, Go.run_panic_iface]
              rfl
            rw [hexe]
            exact hpan he (.iface ty hvv) hr (Fr.refl _ _ _ _)
        case nextM x =>
          simp only [WOpG] at he
          obtain ⟨y, hoy, hy⟩ := trOp_nextM hop
          have hnd : ∀ c, o.op ≠ .defer c := by intro c hc; rw [hc] at hoy; cases hoy
          rw [Oper.semAt_eq _ _ _ hnd]
          obtain ⟨v, h1, hK, m1, w1, v', hrun, d⟩ := sound_nextM (ty := o.type) hr (hA.ev hy) he
          have hexe : (execOp a.eval o).run P w = .ok (.value v') w1 := by
            simp only [execOp, hoy, Sem.run_bind, hrun, Result.andThen_ok]
            rfl
          rw [hexe]
          exact hnext hK d.val d.rel d.fr
end
end Go.Proofs.YtlbaphapjclkdaaGreatDoor.Ev

/- Whatever the interpreter answers for code and for calls, the model answers. -/
namespace Go.Proofs.YtlbaphapjclkdaaGreatDoor.Ev
set_option linter.unusedVariables false
set_option linter.unusedSimpArgs false

section
variable {B0 : Nat} {P : Program}

/-! ### results -/
def resOne (tmps : Array Value) : ResultVar → Sem Value
  | .tmp t => pure (tmps.getD t undef)
  | .cell a t => do loadVar t (← asAddr (tmps.getD a undef))
theorem result1_ok {m : M} {h : H} {w : World} (r : Rel P B0 m h w) {nt : Nat} {s : S} {a : Act} (hA : ARel m nt s a) {rv : ResultVar} {ar : ARes} (ht : trRes P rv = some ar) {v : AV}
    (he : result1 s h ar = some v) : ∃ v', VRel m v v' ∧ (resOne a.tmps rv).run P w = .ok v' w := by
  cases rv with
  | tmp t =>
    cases ht
    simp only [result1, Option.some.injEq] at he
    subst he
    exact ⟨_, hA.tmp t, rfl⟩
  | cell x t =>
    simp only [trRes] at ht
    split at ht
    · rename_i b n h1 h2
      cases ht
      obtain ⟨_, ad, hx, v', hl, hv⟩ := sound_load r h1 h2 (hA.tmp x) he
      refine ⟨v', hv, ?_⟩
      simp only [resOne, Sem.run_bind]
      rw [hx]
      exact hl
    · cases ht

theorem results_list {m : M} {h : H} {w : World} (r : Rel P B0 m h w) {nt : Nat} {s : S} {a : Act} (hA : ARel m nt s a) : ∀ {l : List ResultVar} {k : List ARes} {vs : List AV}, trRess P l = some k →
    resultsL s h k = some vs → ∃ vs', VRels m vs vs' ∧ (l.mapM (resOne a.tmps)).run P w = .ok vs' w
  | [], k, vs, ht, he => by cases ht; cases he; exact ⟨[], .nil, rfl⟩
  | rv :: l, k, vs, ht, he => by
    simp only [trRess] at ht
    split at ht
    case h_2 => cases ht
    rename_i a1 b1 h1 h2
    cases ht
    simp only [resultsL] at he
    split at he
    case h_2 => cases he
    rename_i v vs0 h3 h4
    cases he
    obtain ⟨v', hv, e1⟩ := result1_ok r hA h1 h3
    obtain ⟨vs', hvs, e2⟩ := results_list r hA h2 h4
    refine ⟨v' :: vs', .cons hv hvs, ?_⟩
    rw [List.mapM_cons]
    simp only [Sem.run_bind]
    rw [e1]
    simp only [Result.andThen_ok]
    rw [e2]
    rfl

theorem results_ok {m : M} {h : H} {w : World} (r : Rel P B0 m h w) {nt : Nat} {s : S} {a : Act} (hA : ARel m nt s a) {fn : Func} {k : List ARes} (ht : trRess P fn.results.toList = some k) {v : AV}
    (he : resultsA k s h = some v) : ∃ v', VRel m v v' ∧ (results fn a.tmps).run P w = .ok v' w := by
  unfold resultsA at he
  obtain ⟨vs, h1, h2⟩ := Option.map_eq_some_iff.1 he
  obtain ⟨vs', hvs, e⟩ := results_list r hA ht h1
  have key : (results fn a.tmps).run P w = .ok (if h : (⟨vs'⟩ : Array Value).size = 1 then (⟨vs'⟩ : Array Value)[0] else .tuple ⟨vs'⟩) w := by
    show (do let vs ← fn.results.mapM (resOne a.tmps); pure (if h : vs.size = 1 then vs[0] else .tuple vs) : Sem Value).run P w = _
    rw [Array.mapM_eq_mapM_toList]
    simp only [Sem.run_bind, map_eq_pure_bind]
    rw [e]
    rfl
  refine ⟨_, ?_, key⟩
  subst h2
  cases hvs with
  | nil => exact .tup .nil
  | cons h0 t =>
    cases t with
    | nil => exact h0
    | cons h3 t => exact .tup (.cons h0 (.cons h3 t))
end
end Go.Proofs.YtlbaphapjclkdaaGreatDoor.Ev

/- For regions that draw their order: what an operation reads, what it leaves alone, rows that are made late. -/
namespace Go.Proofs.YtlbaphapjclkdaaGreatDoor.Ev
set_option linter.unusedVariables false
set_option linter.unusedSimpArgs false

/-! ### an operation reads its operands alone -/
theorem AOpd.ev_congr {s s' : S} {x : AOpd} (h : ∀ t ∈ x.tmps, s t = s' t) : x.ev s = x.ev s' := by
  cases x with
  | tmp t => exact h t (by simp [AOpd.tmps])
  | con v => rfl
theorem parts_congr {s s' : S} {ps : List (Nat × Nat × AOpd)} (h : ∀ p ∈ ps, p.2.2.ev s = p.2.2.ev s') : parts s ps = parts s' ps := by
  unfold parts
  exact List.map_congr_left (fun p hp => by rw [h p hp])
theorem opt_congr {s s' : S} {o : Option AOpd} (h : ∀ x ∈ o.toList, x.ev s = x.ev s') : o.map (·.ev s) = o.map (·.ev s') := by
  cases o with
  | none => rfl
  | some x => simp [h x (by simp)]
theorem list_congr {s s' : S} {l : List AOpd} (h : ∀ x ∈ l, x.ev s = x.ev s') : l.map (·.ev s) = l.map (·.ev s') := List.map_congr_left (fun p hp => h p hp)
theorem opds_of_reads {s s' : S} {op : AOp} (h : ∀ t ∈ op.opds.flatMap AOpd.tmps, s t = s' t) : ∀ x ∈ op.opds, x.ev s = x.ev s' := fun x hx =>
  AOpd.ev_congr fun t ht => h t (List.mem_flatMap.2 ⟨x, hx, ht⟩)

theorem exec_congr {s s' : S} (op : AOp) (h : H) (hc : ∀ x ∈ op.opds, x.ev s = x.ev s') : exec op s h = exec op s' h := by
  cases op
  case build z ps =>
    have := parts_congr (s := s) (s' := s') (ps := ps) (fun p hp => hc p.2.2 (by simp [AOp.opds]; exact ⟨p.1, p.2.1, hp⟩))
    simp only [exec, this]
  case buildSlice a b z ps =>
    have := parts_congr (s := s) (s' := s') (ps := ps) (fun p hp => hc p.2.2 (by simp [AOp.opds]; exact ⟨p.1, p.2.1, hp⟩))
    simp only [exec, this]
  case sliceS es x lo hi =>
    have e1 := hc x (by simp [AOp.opds])
    have e2 := opt_congr (s := s) (s' := s') (o := lo) (fun y hy => hc y (by simp only [AOp.opds, List.mem_cons, List.mem_append]; exact .inr (.inl hy)))
    have e3 := opt_congr (s := s) (s' := s') (o := hi) (fun y hy => hc y (by simp only [AOp.opds, List.mem_cons, List.mem_append]; exact .inr (.inr hy)))
    simp only [exec, e1, e2, e3]
  case slice3 es x lo hi mx =>
    have e1 := hc x (by simp [AOp.opds])
    have e2 := opt_congr (s := s) (s' := s') (o := lo) (fun y hy => hc y (by simp only [AOp.opds, List.mem_cons]; exact .inr (.inr (.inr hy))))
    have e3 := hc hi (by simp [AOp.opds])
    have e4 := hc mx (by simp [AOp.opds])
    simp only [exec, e1, e2, e3, e4]
  case sliceT x lo hi =>
    have e1 := hc x (by simp [AOp.opds])
    have e2 := opt_congr (s := s) (s' := s') (o := lo) (fun y hy => hc y (by simp only [AOp.opds, List.mem_cons, List.mem_append]; exact .inr (.inl hy)))
    have e3 := opt_congr (s := s) (s' := s') (o := hi) (fun y hy => hc y (by simp only [AOp.opds, List.mem_cons, List.mem_append]; exact .inr (.inr hy)))
    simp only [exec, e1, e2, e3]
  case sliceA es n x lo hi =>
    have e1 := hc x (by simp [AOp.opds])
    have e2 := opt_congr (s := s) (s' := s') (o := lo) (fun y hy => hc y (by simp only [AOp.opds, List.mem_cons, List.mem_append]; exact .inr (.inl hy)))
    have e3 := opt_congr (s := s) (s' := s') (o := hi) (fun y hy => hc y (by simp only [AOp.opds, List.mem_cons, List.mem_append]; exact .inr (.inr hy)))
    simp only [exec, e1, e2, e3]
  case makeFunc f cs =>
    have := list_congr (s := s) (s' := s') (l := cs) (fun y hy => hc y hy)
    simp only [exec, this]
  all_goals (simp only [AOp.opds, List.mem_cons, List.not_mem_nil, or_false, forall_eq_or_imp, forall_eq, false_imp_iff, implies_true] at hc)
  all_goals first | rfl | (simp only [exec, hc]; done)

theorem WOpG_congr {C : CallP} {s s' : S} (op : AOp) (h : H) (K Pn : AV → H → Prop) (hc : ∀ x ∈ op.opds, x.ev s = x.ev s') : WOpG C op s h K Pn = WOpG C op s' h K Pn := by
  by_cases hp : op.plain = true
  · rw [WOpG_plain hp, WOpG_plain hp, exec_congr op h hc]
  · cases op <;> simp only [AOp.plain, not_true_eq_false] at hp
    case call f cs =>
      have e1 := hc f (by simp [AOp.opds])
      have e2 := list_congr (s := s) (s' := s') (l := cs) (fun y hy => hc y (by simp [AOp.opds, hy]))
      simp only [WOpG, e1, e2]
    case panic x => simp only [WOpG, hc x (by simp [AOp.opds])]
    case nextM x => simp only [WOpG, hc x (by simp [AOp.opds])]

/-! ### what it leaves alone -/
theorem exec_pure {op : AOp} (hk : op.kind = .pure) {s : S} {h h' : H} {v : AV} (he : exec op s h = some (v, h')) : ∀ h2, exec op s h2 = some (v, h2) := by
  intro h2
  cases op <;> simp only [AOp.kind, reduceCtorEq] at hk
  all_goals (simp only [exec] at he ⊢)
  all_goals first
    | (cases he; rfl)
    | (obtain ⟨u, h3, h4⟩ := Option.map_eq_some_iff.1 he; cases h4; rw [h3]; rfl)
theorem exec_read {op : AOp} (hk : op.kind = .read) {s : S} {h h' : H} {v : AV} (he : exec op s h = some (v, h')) : h' = h := by
  cases op <;> simp only [AOp.kind, reduceCtorEq] at hk
  all_goals (simp only [exec] at he; obtain ⟨u, h3, h4⟩ := Option.map_eq_some_iff.1 he; cases h4; rfl)

/-! ### makers of rows -/
def makeOf (op : AOp) (s : S) : Option ((Nat → AV) × List AV) :=
  match op with
  | .alloc z => some (fun o => .ptr o 0, z)
  | .box x => some (fun o => .ptr o 0, (x.ev s).cells)
  | .buildSlice es len z ps => (afill (zeros z (len * es)) (parts s ps)).map fun cs => (fun o => .slice o 0 len es, cs)
  | .cvS2B x => match x.ev s with | .str t => some (fun o => .slice o 0 t.length 1, byteCells t) | _ => none
  | .makeSlice es bytes z l c => match l.ev s, c.ev s with
    | .int _ l, .int _ c => if 0 ≤ l ∧ l ≤ c ∧ c < 4294967296 ∧ c * bytes ≤ 281474976710656 then some (fun o => .slice o 0 l.toNat es, zeros z (c.toNat * es)) else none
    | _, _ => none
  | _ => none
theorem exec_make {op : AOp} (hk : op.kind = .make) (s : S) (h : H) : exec op s h = (makeOf op s).map fun p => (p.1 h.n, h.new p.2) := by
  cases op <;> simp only [AOp.kind, reduceCtorEq] at hk
  case alloc z => rfl
  case box x => rfl
  case buildSlice es len z ps => simp only [exec, makeOf, Option.map_map]; rfl
  case cvS2B x => simp only [exec, makeOf]; cases x.ev s <;> rfl
  case makeSlice es bytes z l c =>
    simp only [exec, makeOf]
    cases l.ev s <;> cases c.ev s <;> simp only [makeSliceA, Option.map_none]
    split <;> rfl
theorem makeOf_congr {s s' : S} (op : AOp) (hc : ∀ x ∈ op.opds, x.ev s = x.ev s') : makeOf op s = makeOf op s' := by
  cases op
  case buildSlice a b z ps =>
    have := parts_congr (s := s) (s' := s') (ps := ps) (fun p hp => hc p.2.2 (by simp [AOp.opds]; exact ⟨p.1, p.2.1, hp⟩))
    simp only [makeOf, this]
  all_goals first | rfl | skip
  all_goals (simp only [AOp.opds, List.mem_cons, List.not_mem_nil, or_false, forall_eq_or_imp, forall_eq, false_imp_iff, implies_true] at hc)
  all_goals (simp only [makeOf, hc]; done)

section
variable {B0 : Nat} {P : Program}
theorem OpMake {m : M} {w : World} {k : Nat → AV} {vs : List AV} {x : Sem Value} (q : MakeOK m w k vs (fun v' w' => x.run P w = .ok v' w')) :
    MakeOK m w k vs (fun v' w' => (do let r ← x; Pure.pure (Next.value r) : Sem Next).run P w = .ok (.value v') w') := q.mono fun v w h => by simp [h]

theorem make_run {m : M} {w : World} {nt : Nat} {s : S} {a : Act} (hA : ARel m nt s a) {o : Oper} {ao : AOp} (ht : trOp P o.op = some ao) (hk : ao.kind = .make) {p : (Nat → AV) × List AV} (he : makeOf ao s = some p) :
    MakeOK m w p.1 p.2 (fun v' w' => (execOp a.eval o).run P w = .ok (.value v') w') := by
  cases hop : o.op <;> rw [hop] at ht <;> simp only [trOp] at ht <;> (try (cases ht; done))
  case alloc e =>
    obtain ⟨z, hz, rfl⟩ := Option.map_eq_some_iff.1 ht
    cases he
    obtain ⟨i, zv, hi, hzv, hzr⟩ := zeroP_eq hz
    refine (make_new (P := P) m w e (hzr m) (fun n => .ptr n 0) (fun b => .pointer (some ⟨b, 0, none⟩)) (fun o => VRel.new_ptr _ _ _ 0 _)).mono fun v' w' h1 => ?_
    simp only [execOp, hop, Instr.alloc, Sem.run_bind, run_zero hi hzv, Result.andThen_ok, newVar]
    simp only [Sem.run_bind, newRow, run_newObj, Result.andThen_ok, Sem.run_pure, Result.ok.injEq] at h1 ⊢
    simp [h1]
  case box e x =>
    obtain ⟨y, hy, rfl⟩ := Option.map_eq_some_iff.1 ht
    cases he
    refine (make_new (P := P) m w e (hA.ev hy).cells (fun n => .ptr n 0) (fun b => .pointer (some ⟨b, 0, none⟩)) (fun o => VRel.new_ptr _ _ _ 0 _)).mono fun v' w' h1 => ?_
    simp only [execOp, hop, Instr.box, Sem.run_bind, newVar]
    simp only [Sem.run_bind, newRow, run_newObj, Result.andThen_ok, Sem.run_pure, Result.ok.injEq] at h1 ⊢
    simp [h1]
  case buildSlice t len ps =>
    split at ht
    case h_2 => cases ht
    rename_i e hu
    split at ht
    · rename_i n z hn hz
      split at ht
      case isFalse => cases ht
      rename_i hc
      obtain ⟨q, hq, rfl⟩ := Option.map_eq_some_iff.1 ht
      obtain ⟨cs, h3, h4⟩ := Option.map_eq_some_iff.1 he
      cases h4
      obtain ⟨hn1, hn2⟩ := isSize_eq hn
      have := OpMake (make_buildSlice m w hA hu hn1 hn2 hz hc.2 hc.1 hq h3)
      simp only [execOp, hop]; exact this
    · cases ht
  case convert t d x =>
    split at ht
    · cases ht; cases hk
    · cases ht; cases hk
    · cases ht; cases hk
    · rename_i e x' hs hd hx
      split at ht
      case isFalse => cases ht
      rename_i hu8; cases ht
      have hv := hA.ev hx
      simp only [execOp, hop]
      simp only [makeOf] at he
      generalize x'.ev s = q at he hv
      generalize a.eval x = q' at hv
      cases hv <;> simp only at he <;> (try (cases he; done))
      case str s0 =>
        cases he
        exact OpMake (make_S2B m w hs hd hu8 s0)
    · split at ht
      case isFalse => cases ht
      cases ht; cases hk
    · split at ht
      case isFalse => cases ht
      cases ht; cases hk
    · cases ht
  case makeSlice t l c =>
    split at ht
    case h_2 => cases ht
    rename_i e hu
    split at ht
    · rename_i i z l' c' hi hz hl hc
      split at ht
      case isFalse => cases ht
      rename_i h0; cases ht
      simp only [execOp, hop]
      have hlv := hA.ev hl
      have hcv := hA.ev hc
      simp only [makeOf] at he
      generalize l'.ev s = q at he hlv
      generalize a.eval l = q' at hlv
      generalize c'.ev s = z1 at he hcv
      generalize a.eval c = z1' at hcv
      cases hlv <;> (try (cases he; done))
      cases hcv <;> (try (cases he; done))
      simp only at he
      split at he
      case isFalse => cases he
      rename_i hcc
      cases he
      exact OpMake (make_makeSlice m w hu hi h0.1 hz h0.2 _ _ _ _ hcc)
    · cases ht
  case makeFunc fn first cs =>
    cases fn with
    | func f =>
      simp only at ht
      split at ht
      · obtain ⟨z, hz, rfl⟩ := Option.map_eq_some_iff.1 ht; cases hk
      · split at ht
        · obtain ⟨z, hz, rfl⟩ := Option.map_eq_some_iff.1 ht; cases hk
        · cases ht
    | _ => cases ht
  case makeMap t rs => cases rs with
    | some x => cases ht
    | none => cases ht; cases hk
  case next x b => cases b <;> (obtain ⟨z, hz, rfl⟩ := Option.map_eq_some_iff.1 ht; cases hk)
  case call c =>
    split at ht
    · split at ht
      · cases ht; cases hk
      · cases ht
    · rename_i b hb
      have : ao.kind ≠ .make := by
        unfold trBuiltin at ht
        repeat' (split at ht)
        all_goals first | (cases ht; done) | (cases ht; intro h; cases h; done) | (obtain ⟨kk, _, rfl⟩ := Option.map_eq_some_iff.1 ht; intro h; cases h)
      exact absurd hk this
    · cases ht
  all_goals (try (repeat' (split at ht)))
  all_goals (try (cases ht; done))
  all_goals (try (cases ht; cases hk; done))
  all_goals (try (obtain ⟨z, hz, rfl⟩ := Option.map_eq_some_iff.1 ht; cases hk; done))
  all_goals (obtain ⟨z, hz, ht⟩ := Option.bind_eq_some_iff.1 ht)
  all_goals (try (cases ht; done))
  all_goals (try (cases ht; cases hk; done))
  all_goals (try (obtain ⟨z, hz, rfl⟩ := Option.map_eq_some_iff.1 ht; cases hk; done))
  all_goals (split at ht)
  all_goals (try (cases ht; done))
  all_goals (try (cases ht; cases hk; done))

/-! ### rows that are told of before they are there -/
theorem Rel.reserve {m : M} {h : H} {w : World} (r : Rel P B0 m h w) (vs : List AV) : Rel P B0 m (h.new vs) w ∧ Fr B0 m m h (h.new vs) w w := by
  have hne : ∀ {o x}, m o = some x → o ≠ h.n := fun {o x} hm e => absurd (r.lt o x hm) (by omega)
  have hget : ∀ o, (h.new vs).get o = if o = h.n then some (.cells vs (some h.n)) else h.get o := fun o => H.get_push _ _ _
  refine ⟨⟨r.base, fun o x hx => Nat.lt_succ_of_lt (r.lt o x hx), ?_, ?_, ?_, ?_, ?_, ?_, r.blk, ?_, ?_, ?_, ?_, r.wf.new vs⟩, ⟨M.le_refl m, rfl, rfl, rfl, Nat.le_refl _, fun _ _ _ => rfl, Nat.le_succ _, ?_, ?_, fun _ => Nat.le_refl _⟩⟩
  · intro o cs g b base sz hg hm; rw [hget, if_neg (hne hm)] at hg; exact r.row hg hm
  · intro o cs b base sz hg hm; exact r.val (by rw [← hg]; exact (H.row_push (hne hm)).symm) hm
  · intro o cs g b base sz hg hm; rw [hget, if_neg (hne hm)] at hg; exact r.own hg hm
  · intro o cs b base sz hg hm; rw [hget, if_neg (hne hm)] at hg; exact r.ro hg hm
  · intro o o' b base sz base' sz' hm hm' hn hb
    obtain ⟨g, cs, cs', e1, e2⟩ := r.sep hm hm' hn hb
    exact ⟨g, cs, cs', by rw [hget, if_neg (hne hm)]; exact e1, by rw [hget, if_neg (hne hm')]; exact e2⟩
  · intro o o' g cs cs' b base sz base' sz' hlt hg hg' hk hm hm'
    rw [hget, if_neg (hne hm)] at hg
    rw [hget, if_neg (hne hm')] at hg'
    exact r.ord hlt hg hg' hk hm hm'
  · intro o x hx
    obtain ⟨ob, hob⟩ := r.any hx
    exact ⟨ob, by rw [hget, if_neg (hne hx)]; exact hob⟩
  · intro o L b base sz hg hm; rw [hget, if_neg (hne hm)] at hg; exact r.lp hg hm
  · intro o X b base sz hg hm; rw [hget, if_neg (hne hm)] at hg; exact r.mm hg hm
  · intro o g v hg
    rw [hget] at hg
    split at hg
    · cases hg
    · exact r.gb hg
  · intro o ho hm
    exact ⟨by rw [hget, if_neg (by omega)], hm⟩
  · intro o b base sz hx hn; rw [hn] at hx; cases hx

theorem Rel.fill {m : M} {h : H} {w : World} (r : Rel P B0 m h w) {o0 : Nat} (hm0 : m o0 = none) {vs : List AV} (hg0 : h.get o0 = some (.cells vs (some o0))) (CS : Array Value) (e : Nat) (fr : Nat × Nat)
    (hv : ∀ (i : Nat) (a : AV), vs[i]? = some a → ∃ v, CS[i]? = some v ∧ VRel m a v) (hl : vs.length ≤ CS.size) (hf : ∀ i, i < CS.size → fr.1 = fr.2 ∨ i < fr.1) :
    Rel P B0 (m.set o0 (w.heap.size, 0, CS.size)) h (w.alloc (.cells CS e fr)) := by
  have hle : M.le m (m.set o0 (w.heap.size, 0, CS.size)) := M.set_le _ hm0
  have hnew : ∀ o b base sz, (m.set o0 (w.heap.size, 0, CS.size)) o = some (b, base, sz) → (o = o0 ∧ b = w.heap.size ∧ base = 0 ∧ sz = CS.size) ∨ (o ≠ o0 ∧ m o = some (b, base, sz) ∧ b < w.heap.size) := by
    intro o b base sz ho
    unfold M.set at ho
    split at ho
    · rename_i e; cases ho; exact .inl ⟨e, rfl, rfl, rfl⟩
    · rename_i e; exact .inr ⟨e, ho, r.blk ho⟩
  have ho0 : o0 < h.n := r.wf.ob _ _ hg0
  refine ⟨?_, ?_, ?_, ?_, ?_, ?_, ?_, ?_, ?_, ?_, ?_, ?_, ?_, r.wf⟩
  · have := r.base; simp; omega
  · intro o x hx
    obtain ⟨b, base, sz⟩ := x
    rcases hnew o b base sz hx with ⟨rfl, _⟩ | ⟨_, hm, _⟩
    · exact ho0
    · exact r.lt _ _ hm
  · intro o cs g b base sz hg hx
    rcases hnew o b base sz hx with ⟨rfl, rfl, rfl, rfl⟩ | ⟨hne, hm, hb⟩
    · rw [hg0] at hg; cases hg
      exact ⟨by simpa using hl, CS, e, fr, by rw [heap_alloc_eq, if_pos rfl], rfl⟩
    · obtain ⟨h1, CS', e', fr', h2, h3⟩ := r.row hg hm
      exact ⟨h1, CS', e', fr', by rw [heap_alloc_eq, if_neg (Nat.ne_of_lt hb)]; exact h2, h3⟩
  · intro o cs b base sz hg hx i a hi
    rcases hnew o b base sz hx with ⟨rfl, rfl, rfl, rfl⟩ | ⟨hne, hm, hb⟩
    · have hcs : cs = vs := by
        unfold H.row at hg; rw [hg0] at hg
        simp only at hg
        split at hg
        · cases hg; rfl
        · cases hg
      subst hcs
      obtain ⟨v, h1, h2⟩ := hv i a hi
      exact ⟨v, by rw [Nat.zero_add, cell?_alloc_cells]; exact h1, h2.mono hle⟩
    · obtain ⟨v, h1, h2⟩ := r.val hg hm i a hi
      exact ⟨v, by rw [cell?_alloc_of_lt _ _ _ hb]; exact h1, h2.mono hle⟩
  · intro o cs g b base sz hg hx
    rcases hnew o b base sz hx with ⟨rfl, rfl, rfl, rfl⟩ | ⟨hne, hm, hb⟩
    · refine ⟨r.base, fun i hi => ?_⟩
      intro CS' e' fr' hb'
      rw [heap_alloc_eq, if_pos rfl] at hb'
      cases hb'; exact hf i hi
    · obtain ⟨h1, h2⟩ := r.own hg hm
      exact ⟨h1, fun i hi => by exact unf_alloc hb (h2 i hi)⟩
  · intro o cs b base sz hg hx
    rcases hnew o b base sz hx with ⟨rfl, rfl, rfl, rfl⟩ | ⟨hne, hm, hb⟩
    · rw [hg0] at hg; cases hg
    · exact r.ro hg hm
  · intro o o' b base sz base' sz' hx hx' hne hb
    rcases hnew o b base sz hx with ⟨rfl, rfl, rfl, rfl⟩ | ⟨h1, hm, hb1⟩
    · rcases hnew o' _ base' sz' hx' with ⟨rfl, _⟩ | ⟨_, _, hb2⟩
      · exact absurd rfl hne
      · omega
    · rcases hnew o' _ base' sz' hx' with ⟨_, rfl, _⟩ | ⟨h2, hm', _⟩
      · omega
      · exact r.sep hm hm' hne hb
  · intro o o' g cs cs' b base sz base' sz' hlt hg hg' hk hx hx'
    rcases hnew o b base sz hx with ⟨rfl, rfl, rfl, rfl⟩ | ⟨h1, hm, hb1⟩
    · rcases hnew o' _ base' sz' hx' with ⟨rfl, _⟩ | ⟨_, _, hb2⟩
      · omega
      · omega
    · rcases hnew o' _ base' sz' hx' with ⟨_, rfl, _⟩ | ⟨h2, hm', _⟩
      · omega
      · exact r.ord hlt hg hg' hk hm hm'
  · intro o b base sz hx
    rcases hnew o b base sz hx with ⟨rfl, rfl, rfl, rfl⟩ | ⟨h1, hm, hb1⟩
    · simp
    · simp; omega
  · intro o x hx
    obtain ⟨b, base, sz⟩ := x
    rcases hnew o b base sz hx with ⟨rfl, _⟩ | ⟨h1, hm, _⟩
    · exact ⟨_, hg0⟩
    · exact r.any hm
  · intro o L b base sz hg hx
    rcases hnew o b base sz hx with ⟨rfl, _⟩ | ⟨h1, hm, hb1⟩
    · rw [hg0] at hg; cases hg
    · obtain ⟨q1, rec, q2, q3⟩ := r.lp hg hm
      exact ⟨q1, rec, by rw [heap_alloc_eq, if_neg (Nat.ne_of_lt hb1)]; exact q2, q3.mono hle⟩
  · intro o X b base sz hg hx
    rcases hnew o b base sz hx with ⟨rfl, _⟩ | ⟨h1, hm, hb1⟩
    · rw [hg0] at hg; cases hg
    · obtain ⟨q1, q0, rec, q2, q3⟩ := r.mm hg hm
      exact ⟨q1, q0, rec, by rw [heap_alloc_eq, if_neg (Nat.ne_of_lt hb1)]; exact q2, q3.mono hle⟩
  · intro o g v hg
    obtain ⟨q1, v', q2, q3⟩ := r.gb hg
    exact ⟨q1, v', by rw [cell?_alloc_of_lt _ _ _ (by have := r.base; omega)]; exact q2, q3.mono hle⟩

theorem Fr.fill {m0 m : M} {h0 h : H} {w0 w : World} (f : Fr B0 m0 m h0 h w0 w) {o0 : Nat} (ho : h0.n ≤ o0) (hm0 : m o0 = none) (sz : Nat) (ob : Obj) :
    Fr B0 m0 (m.set o0 (w.heap.size, 0, sz)) h0 h w0 (w.alloc ob) where
  le := M.le_trans f.le (M.set_le _ hm0)
  os := f.os
  tape := f.tape
  output := f.output
  size := by have := f.size; simp; omega
  blk := fun b hb hc => by
    have := f.size
    rw [heap_alloc_eq, if_neg (by omega)]; exact f.blk b hb hc
  n := f.n
  keep := fun o ho' hm => by
    obtain ⟨e1, e2⟩ := f.keep o ho' hm
    refine ⟨e1, ?_⟩
    unfold M.set; rw [if_neg (by omega)]; exact e2
  img := fun o b base sz' hx hn => by
    unfold M.set at hx
    split at hx
    · cases hx; exact .inl f.size
    · exact f.img o b base sz' hx hn
  dr := f.dr
theorem Fr.drew_right {m0 m : M} {h0 h : H} {w0 w : World} (f : Fr B0 m0 m h0 h w0 w) : Fr B0 m0 m h0 h w0 w.drew := ⟨f.le, f.os, f.tape, f.output, f.size, f.blk, f.n, f.keep, f.img, fun h => Nat.le_succ_of_le (f.dr h)⟩

end
end Go.Proofs.YtlbaphapjclkdaaGreatDoor.Ev

/- Whatever the interpreter answers for code and for calls, the model answers. -/
import Derived.Test.YtgjcdpanabjcmaaGreatDoorEvW
import Derived.TacticsIn
import Derived.WalkSmall
namespace Go.Proofs.YtgjcdpanabjcmaaGreatDoor.Ev
set_option linter.unusedVariables false
set_option linter.unusedSimpArgs false

/-- the fence that lets all in, in a round or not -/
def FW (ro : Option Nat) : Fence := { Fence.wide with round := ro }

inductive ERel (m : M) : AOut → Ending → Prop
  | val {v : AV} {v' : Value} (h : VRel m v v') : ERel m (.val v) (.returned v')
  | panic {v : AV} {v' : Value} (h : VRel m v v') : ERel m (.panic v) (.panicked [{ v := v', recovered := false }])
def CallPost (P : Program) (B0 : Nat) (m : M) (h : H) (w : World) (r : AOut) (h' : H) (e : Ending) (w' : World) : Prop :=
  ∃ m', ERel m' r e ∧ Rel P B0 m' h' w' ∧ Fr B0 m m' h h' w w'
/-- a call's end, of which so much is said -/
def CallR (P : Program) (B0 : Nat) (m : M) (h : H) (w : World) (R : AOut → H → Prop) (e : Ending) (w' : World) : Prop := ∃ r h', R r h' ∧ CallPost P B0 m h w r h' e w'
/-- a call: it is entered, or it is a row's, that answers at once -/
def Runs (P : Program) (f : Nat) (cargs : Array Value) (w : World) (Q : Ending → World → Prop) : Prop :=
  ((callFunc f cargs).run P w = .ok (.enter f cargs) w ∧ CallsIn (FW none) 0 P f cargs w Q) ∨ ∃ v w', (callFunc f cargs).run P w = .ok (.value v) w' ∧ Q (.returned v) w'
theorem Runs.mono {P : Program} {f : Nat} {cargs : Array Value} {w : World} {Q Q' : Ending → World → Prop} (r : Runs P f cargs w Q) (hq : ∀ e w', Q e w' → Q' e w') : Runs P f cargs w Q' := by
  rcases r with ⟨h1, h2⟩ | ⟨v, w', h1, h2⟩
  · exact .inl ⟨h1, h2.mono hq⟩
  · exact .inr ⟨v, w', h1, hq _ _ h2⟩
/-- what a call of a function does -/
def FnOK (P : Program) (B0 : Nat) (f : Nat) (args : List AV) (h : H) (R : AOut → H → Prop) : Prop :=
  ∀ (m : M) (w : World) (cargs : List Value), Rel P B0 m h w → VRels m args cargs → Runs P f ⟨cargs⟩ w (CallR P B0 m h w R)
/-- what a call of a loop's yield does -/
def YieldOK (P : Program) (B0 : Nat) (o : Nat) (args : List AV) (h : H) (R : AOut → H → Prop) : Prop :=
  ∀ (m : M) (w : World) (cargs : List Value) (b : Nat), Rel P B0 m h w → m o = some (b, 0, 0) → VRels m args cargs →
    ∃ fn tmps assign body, (Instr.yield b ⟨cargs⟩).run P w = .ok (.round b fn tmps assign body) w ∧ RoundIn (FW none) 0 P b fn tmps assign body w (CallR P B0 m h w R)
def CallOK (P : Program) (B0 : Nat) : CallP
  | .fn f => FnOK P B0 f
  | .yld o => YieldOK P B0 o
theorem CallR.imp {P : Program} {B0 : Nat} {m : M} {h : H} {w : World} {R R' : AOut → H → Prop} (hr : ∀ r h, R r h → R' r h) {e : Ending} {w' : World} : CallR P B0 m h w R e w' → CallR P B0 m h w R' e w' := by
  rintro ⟨r, h', q, c⟩; exact ⟨r, h', hr _ _ q, c⟩
theorem CallOK.imp {P : Program} {B0 : Nat} {f : Fn} {args : List AV} {h : H} {R R' : AOut → H → Prop} (hr : ∀ r h, R r h → R' r h) (c : CallOK P B0 f args h R) : CallOK P B0 f args h R' := by
  cases f with
  | fn f => exact fun m w cargs h1 h2 => (c m w cargs h1 h2).mono fun e w' => CallR.imp hr
  | yld o =>
    intro m w cargs b h1 h2 h3
    obtain ⟨fn, tmps, assign, body, e, q⟩ := c m w cargs b h1 h2 h3
    exact ⟨fn, tmps, assign, body, e, q.mono fun e w' => CallR.imp hr⟩
inductive XRel (m : M) : AEx → Exit → Prop
  | normal : XRel m .normal .normal
  | ret : XRel m .ret .ret
  | exit (id : Nat) : XRel m (.exit id) (.exit id)
  | panic {v : AV} {v' : Value} (h : VRel m v v') : XRel m (.panic v) (.panic [{ v := v', recovered := false }])
def CPost (P : Program) (B0 : Nat) (m : M) (h : H) (w : World) (nt : Nat) (ds : List Deferred) (ex : AEx) (s' : S) (h' : H) (e : Exit) (a' : Act) (w' : World) : Prop :=
  ∃ m', XRel m' ex e ∧ Rel P B0 m' h' w' ∧ Fr B0 m m' h h' w w' ∧ ARel m' nt s' a' ∧ a'.defers = ds

section
variable {B0 : Nat} {P : Program}

theorem CPost.trans {m m1 : M} {h h1 h' : H} {w w1 : World} {nt : Nat} {ds : List Deferred} {ex : AEx} {s' : S} (f : Fr B0 m m1 h h1 w w1) {e : Exit} {a' : Act} {w' : World}
    (c : CPost P B0 m1 h1 w1 nt ds ex s' h' e a' w') : CPost P B0 m h w nt ds ex s' h' e a' w' := by
  obtain ⟨m', x, r, f', a, d⟩ := c
  exact ⟨m', x, r, f.trans f', a, d⟩

theorem wanted_rel {m : M} {nt : Nat} {s : S} {a : Act} (hA : ARel m nt s a) {ops : Array Oper} {o : Oper} {g : Option (Nat × Bool)} (hg : trGuard nt ops.toList o.guard = some g) :
    Region.wanted o (yielded ops a.tmps) = wanted g s := by
  unfold Region.wanted
  cases ho : o.guard with
  | none => rw [ho] at hg; cases hg; rfl
  | some jb =>
    obtain ⟨j, b⟩ := jb
    rw [ho] at hg
    simp only [trGuard] at hg
    split at hg
    case h_2 => cases hg
    rename_i d hd
    split at hg
    case isFalse => cases hg
    rename_i hlt
    cases hg
    have hd' : (ops[j]?).bind (·.dst) = some d := by simpa using hd
    have ht := hA.tmp d
    have hlt' : d < a.tmps.size := by rw [hA.size]; exact hlt
    have e1 : a.tmps.getD d undef = a.tmps[d] := by simp [Array.getD, hlt']
    have e2 : a.tmps[d]? = some a.tmps[d] := by simp [hlt']
    simp only [wanted, yielded, hd', Option.bind_some, e2]
    rw [e1] at ht
    generalize s d = q at ht
    generalize a.tmps[d] = q' at ht
    cases ht <;> rfl

theorem put_defers (a : Act) (d : Option Nat) (v : Value) : (a.put d v).defers = a.defers := by cases d <;> rfl
theorem trBuiltin_plain {b : Builtin} {xs : List Operand} {ts : List TypeId} {ao : AOp} (h : trBuiltin P b xs ts = some ao) : ao.plain = true := by
  unfold trBuiltin at h
  repeat' (split at h)
  all_goals first | (cases h; done) | (cases h; rfl) | (obtain ⟨kk, _, rfl⟩ := Option.map_eq_some_iff.1 h; rfl)
theorem trOp_call {op : Op} {f : AOpd} {xs : List AOpd} (h : trOp P op = some (.call f xs)) : ∃ c x, op = .call c ∧ c.callee = .value x ∧ trOpd x = some f ∧ trOpds c.args.toList = some xs := by
  cases op
  case call c =>
    simp only [trOp] at h
    split at h
    · rename_i x hx
      split at h
      · rename_i h1 h2; cases h; exact ⟨c, x, rfl, hx, h1, h2⟩
      · cases h
    · have := trBuiltin_plain h; cases this
    · cases h
  case makeFunc fn a b =>
    cases fn <;> simp only [trOp] at h <;> (try (cases h; done))
    split at h
    · simp [Option.map_eq_some_iff] at h
    · split at h
      · simp [Option.map_eq_some_iff] at h
      · cases h
  case makeMap t r => cases r <;> simp [trOp] at h
  case next y b => cases b <;> simp [trOp, Option.map_eq_some_iff] at h
  all_goals (simp only [trOp] at h)
  all_goals (try (repeat' (split at h)))
  all_goals (try (simp [Option.bind_eq_some_iff, Option.map_eq_some_iff] at h; done))
  all_goals (obtain ⟨_, _, h⟩ := Option.bind_eq_some_iff.1 h; split at h <;> cases h)
theorem trOp_panic {op : Op} {x : AOpd} (h : trOp P op = some (.panic x)) : ∃ y, op = .panic y ∧ trOpd y = some x := by
  cases op
  case panic y =>
    simp only [trOp] at h
    obtain ⟨z, h1, h2⟩ := Option.map_eq_some_iff.1 h
    cases h2; exact ⟨y, rfl, h1⟩
  case call c =>
    simp only [trOp] at h
    split at h
    · split at h <;> cases h
    · have := trBuiltin_plain h; cases this
    · cases h
  case makeFunc fn a b =>
    cases fn <;> simp only [trOp] at h <;> (try (cases h; done))
    split at h
    · simp [Option.map_eq_some_iff] at h
    · split at h
      · simp [Option.map_eq_some_iff] at h
      · cases h
  case makeMap t r => cases r <;> simp [trOp] at h
  case next y b => cases b <;> simp [trOp, Option.map_eq_some_iff] at h
  all_goals (simp only [trOp] at h)
  all_goals (try (repeat' (split at h)))
  all_goals (try (simp [Option.bind_eq_some_iff, Option.map_eq_some_iff] at h; done))
  all_goals (obtain ⟨_, _, h⟩ := Option.bind_eq_some_iff.1 h; split at h <;> cases h)
theorem trOp_nextM {op : Op} {x : AOpd} (h : trOp P op = some (.nextM x)) : ∃ y, op = .next y false ∧ trOpd y = some x := by
  cases op
  case next y b =>
    cases b with
    | true => simp only [trOp] at h; obtain ⟨z, h1, h2⟩ := Option.map_eq_some_iff.1 h; cases h2
    | false =>
      simp only [trOp] at h
      obtain ⟨z, h1, h2⟩ := Option.map_eq_some_iff.1 h
      cases h2; exact ⟨y, rfl, h1⟩
  case call c =>
    simp only [trOp] at h
    split at h
    · split at h <;> cases h
    · have := trBuiltin_plain h; cases this
    · cases h
  case makeFunc fn a b =>
    cases fn <;> simp only [trOp] at h <;> (try (cases h; done))
    split at h
    · simp [Option.map_eq_some_iff] at h
    · split at h
      · simp [Option.map_eq_some_iff] at h
      · cases h
  case makeMap t r => cases r <;> simp [trOp] at h
  all_goals (simp only [trOp] at h)
  all_goals (try (repeat' (split at h)))
  all_goals (try (simp [Option.bind_eq_some_iff, Option.map_eq_some_iff] at h; done))
  all_goals (obtain ⟨_, _, h⟩ := Option.bind_eq_some_iff.1 h; split at h <;> cases h)
theorem about_ok (ro : Option Nat) (w : World) (o : Oper) (ρ : Operand → Value) : ∀ f, o.about P w ρ = some f → (FW ro).fn f := fun _ _ => trivial

/-- the operations of a region, in the order of the text -/
theorem sound_ops {ro : Option Nat} {nt : Nat} {ops : Array Oper} {Qa : Post} {Q : Exit → Act → World → Prop} :
    ∀ (rest : List Oper) (l : List AStep), trSteps P nt ops.toList rest = some l → ∀ {m : M} {h : H} {w : World} {s : S} {a : Act}, Rel P B0 m h w → ARel m nt s a →
      WOpsG (CallOK P B0) l Qa s h → (∀ ex s' h' e a' w', Qa ex s' h' → CPost P B0 m h w nt a.defers ex s' h' e a' w' → Q e a' w') → wpListIn (FW ro) 0 P ops Q rest a w
  | [], l, ht, m, h, w, s, a, hr, hA, he, hq => by
    cases ht
    exact hq _ _ _ _ _ _ he ⟨m, .normal, hr, Fr.refl _ _ _ _, hA, rfl⟩
  | o :: rest, l, ht, m, h, w, s, a, hr, hA, he, hq => by
    simp only [trSteps] at ht
    split at ht
    case h_2 => cases ht
    rename_i st l' hst hl'
    cases ht
    unfold trStep at hst
    split at hst
    case h_2 => cases hst
    rename_i ao g hop hg
    have hst' : st = ⟨o.dst, ao, g⟩ ∧ ∀ x, o.dst = some x → x < nt := by
      cases hd : o.dst with
      | none => rw [hd] at hst; cases hst; exact ⟨rfl, fun x hx => by cases hx⟩
      | some d =>
        rw [hd] at hst
        simp only at hst
        split at hst
        · rename_i hlt; cases hst; exact ⟨rfl, fun x hx => by cases hx; exact hlt⟩
        · cases hst
    obtain ⟨rfl, hdst⟩ := hst'
    have hwant := wanted_rel hA (ops := ops) hg
    simp only [WOpsG] at he
    cases hwg : wanted g s with
    | false =>
      rw [hwg] at he hwant
      simp only [Bool.false_eq_true, if_false] at he
      simp only [wpListIn, hwant, Bool.false_eq_true, if_false]
      exact ⟨about_ok ro w o _, sound_ops rest l' hl' hr (hA.put o.dst hdst undef_rel) he (fun ex s' h' e a' w' hqa hc => hq ex s' h' e a' w' hqa (by rw [put_defers] at hc; exact hc))⟩
    | true =>
      rw [hwg] at he hwant
      simp only [if_true] at he
      simp only [wpListIn, hwant, if_true]
      refine ⟨about_ok ro w o _, ?_⟩
      have hdd : ∀ v, (a.put o.dst v).defers = a.defers := put_defers a o.dst
      have hnext : ∀ {v : AV} {h1 : H} {m1 : M} {w1 : World} {v' : Value}, WOpsG (CallOK P B0) l' Qa (upd s o.dst v) h1 → VRel m1 v v' → Rel P B0 m1 h1 w1 → Fr B0 m m1 h h1 w w1 → wpListIn (FW ro) 0 P ops Q rest (a.put o.dst v') w1 := by
        intro v h1 m1 w1 v' hw hv r1 f1
        exact sound_ops rest l' hl' r1 ((hA.mono f1.le).put o.dst hdst hv) hw (fun ex s' h' e a' w' hqa hc => hq ex s' h' e a' w' hqa (.trans f1 (by rw [hdd] at hc; exact hc)))
      have hpan : ∀ {v : AV} {h1 : H} {m1 : M} {w1 : World} {v' : Value}, Qa (.panic v) s h1 → VRel m1 v v' → Rel P B0 m1 h1 w1 → Fr B0 m m1 h h1 w w1 → Q (.panic [{ v := v', recovered := false }]) a w1 := by
        intro v h1 m1 w1 v' hw hv r1 f1
        exact hq _ _ _ _ _ _ hw ⟨m1, .panic hv, r1, f1, hA.mono f1.le, rfl⟩
      by_cases hpl : ao.plain = true
      · -- no call
        rw [WOpG_plain hpl] at he
        obtain ⟨v, h1, hex, he⟩ := he.get
        obtain ⟨_, m1, w1, v', hrun, d⟩ := sound_exec hr hA hop hex
        have hnd : ∀ c, o.op ≠ .defer c := by
          intro c hc; rw [hc] at hop; simp [trOp] at hop
        rw [Oper.semAt_eq _ _ _ hnd]
        have hrest := hnext he d.val d.rel d.fr
        rcases hrun with hrun | ⟨hrun, rfl⟩
        · rw [hrun]; exact hrest
        · rw [hrun]; exact hrest
      · cases ao <;> simp only [AOp.plain, not_true_eq_false] at hpl
        case call fo args =>
          simp only [WOpG] at he
          obtain ⟨c, x, hoc, hcx, hx, hxs⟩ := trOp_call hop
          have hnd : ∀ c, o.op ≠ .defer c := by intro c hc; rw [hc] at hoc; cases hoc
          rw [Oper.semAt_eq _ _ _ hnd]
          have hf := hA.ev hx
          have hargs := hA.evs hxs
          generalize hfv : fo.ev s = fv at he hf
          generalize hfc : a.eval x = fc at hf
          have hrunF : ∀ {fn : Nat} {vs : List AV} {cvs : List Value}, VRels m vs cvs → FnOK P B0 fn vs h (onOut (fun v h => WOpsG (CallOK P B0) l' Qa (upd s o.dst v) h) (fun v h => Qa (.panic v) s h)) →
              (execOp a.eval o).run P w = (callFunc fn ⟨cvs⟩).run P w → o.uponIn (FW ro) 0 P a (wpListIn (FW ro) 0 P ops Q rest) Q ((execOp a.eval o).run P w) := by
            intro fn vs cvs hvs hok hexe
            rw [hexe]
            rcases hok m w _ hr hvs with ⟨hrun, hci⟩ | ⟨v, w', hrun, r, h1, hR, m1, hE, r1, f1⟩
            · rw [hrun]
              refine ⟨by simp [FW, Fence.wide], ?_⟩
              refine CallsIn.mono (F := FW none) hci ?_
              rintro e w1 ⟨r, h1, hR, m1, hE, r1, f1⟩
              cases hE with
              | val hv => exact hnext hR hv r1 f1
              | panic hv => exact hpan hR hv r1 f1
            · rw [hrun]
              cases hE with
              | val hv => exact hnext hR hv r1 f1
          cases hf <;> simp only [WFunG] at he <;> (try (exact he.elim))
          case func f cs cs' hcs =>
            refine hrunF (hargs.append hcs) he ?_
            have e1 : c.args.map a.eval ++ (⟨cs'⟩ : Array Value) = ⟨c.args.toList.map a.eval ++ cs'⟩ := by apply Array.ext'; simp
            simp only [execOp, hoc, resolve, hcx, hfc, Deferred.ofValue, Sem.run_bind, Sem.run_pure, Result.andThen_ok, invoke]
            rw [show (#[] : Array Value) ++ c.args.map a.eval = c.args.map a.eval from by simp, e1]
          case meth f v v' hv =>
            refine hrunF (.cons hv hargs) he ?_
            have e1 : #[v'] ++ c.args.map a.eval ++ (#[] : Array Value) = ⟨v' :: c.args.toList.map a.eval⟩ := by apply Array.ext'; simp
            simp only [execOp, hoc, resolve, hcx, hfc, Deferred.ofValue, Sem.run_bind, Sem.run_pure, Result.andThen_ok, invoke]
            rw [e1]
          case yield yo b hb =>
            have hexe : (execOp a.eval o).run P w = (Instr.yield b ⟨c.args.toList.map a.eval⟩).run P w := by
              have e1 : c.args.map a.eval = (⟨c.args.toList.map a.eval⟩ : Array Value) := by apply Array.ext'; simp
              simp only [execOp, hoc, resolve, hcx, hfc, Deferred.ofValue, Sem.run_bind, Sem.run_pure, Result.andThen_ok, invoke]
              rw [show (#[] : Array Value) ++ c.args.map a.eval = c.args.map a.eval from by simp, e1]
            rw [hexe]
            obtain ⟨fn, tmps, assign, body, hrun, hround⟩ := he m w _ b hr hb hargs
            rw [hrun]
            refine ⟨by simp [FW, Fence.wide], ?_⟩
            refine RoundIn.mono (F := FW none) hround ?_
            rintro e w1 ⟨r, h1, hR, m1, hE, r1, f1⟩
            cases hE with
            | val hv => exact hnext hR hv r1 f1
            | panic hv => exact hpan hR hv r1 f1
        case panic x =>
          simp only [WOpG] at he
          obtain ⟨y, hoy, hy⟩ := trOp_panic hop
          have hnd : ∀ c, o.op ≠ .defer c := by intro c hc; rw [hc] at hoy; cases hoy
          rw [Oper.semAt_eq _ _ _ hnd]
          have hv := hA.ev hy
          generalize x.ev s = xv at he hv
          generalize hxc : a.eval y = xc at hv
          cases hv <;> simp only at he <;> (try (exact he.elim))
          case iface ty v v' hvv =>
            have hexe : (execOp a.eval o).run P w = .halt (.panic (.iface ty v')) w := by
              simp only [execOp, hoy, hxc, Sem.run_bind, Go.run_panic_iface]
              rfl
            rw [hexe]
            exact hpan he (.iface ty hvv) hr (Fr.refl _ _ _ _)
        case nextM x =>
          simp only [WOpG] at he
          obtain ⟨y, hoy, hy⟩ := trOp_nextM hop
          have hnd : ∀ c, o.op ≠ .defer c := by intro c hc; rw [hc] at hoy; cases hoy
          rw [Oper.semAt_eq _ _ _ hnd]
          obtain ⟨v, h1, hK, m1, w1, v', hrun, d⟩ := sound_nextM (ty := o.type) hr (hA.ev hy) he
          have hexe : (execOp a.eval o).run P w = .ok (.value v') w1 := by
            simp only [execOp, hoy, Sem.run_bind, hrun, Result.andThen_ok]
            rfl
          rw [hexe]
          exact hnext hK d.val d.rel d.fr
end
end Go.Proofs.YtgjcdpanabjcmaaGreatDoor.Ev

/- Whatever the interpreter answers for code and for calls, the model answers. -/
import Derived.Test.YthhibhhpcjggnabEvD5
namespace Go.Proofs.Ythhibhhpcjggnab.Ev
set_option linter.unusedVariables false
set_option linter.unusedSimpArgs false

section
variable {B0 : Nat} {P : Program}

def CodeOK (P : Program) (B0 : Nat) (T : Nat → Option AFunc) (ov : Ovs) (k : Nat) : Prop :=
  ∀ {ro : Option Nat} {nt : Nat} (c : Code) (ac : ACode), trCode P nt c = some ac → ∀ {m : M} {h : H} {w : World} {s : S} {a : Act} {ex : AEx} {s' : S} {h' : H} {Q : Exit → Act → World → Prop},
    Rel B0 m h w → ARel m nt s a → (ev T ov k).code ac s h = some (ex, s', h') → (∀ e a' w', CPost B0 m h w nt a.defers ex s' h' e a' w' → Q e a' w') → c.wpIn (FW ro) 0 P Q a w
def RoundsOK (P : Program) (B0 : Nat) (T : Nat → Option AFunc) (ov : Ovs) (k : Nat) : Prop :=
  ∀ {ro : Option Nat} {nt : Nat} (c : Code) (ac : ACode), trCode P nt c = some ac → ∀ {m : M} {h : H} {w : World} {s : S} {a : Act} {ex : AEx} {s' : S} {h' : H} {Q : Exit → Act → World → Prop},
    Rel B0 m h w → ARel m nt s a → (ev T ov k).code (.loop ac) s h = some (ex, s', h') → (∀ e a' w', CPost B0 m h w nt a.defers ex s' h' e a' w' → Q e a' w') → Code.roundsIn (FW ro) 0 P c Q k a w
def CallsOK (P : Program) (B0 : Nat) (T : Nat → Option AFunc) (ov : Ovs) (k : Nat) : Prop :=
  ∀ f args h r h', (ev T ov k).call f args h = some (r, h') → CallOK P B0 f args h r h'

/-- what is asked of the table of functions -/
def TableOK (P : Program) (T : Nat → Option AFunc) : Prop :=
  ∀ f af, T f = some af → ∃ fn, P.funcs[f]? = some fn ∧ (fn.name == "runtime.NumGoroutine") = false ∧ trFunc P fn = some af
/-- what is asked of the overrides -/
def OvOK (P : Program) (B0 : Nat) (ov : Ovs) : Prop :=
  ∀ f g, ov f = some g → ∀ args h r h', g args h = some (r, h') → CallOK P B0 f args h r h'

theorem code_step {T : Nat → Option AFunc} {ov : Ovs} {k : Nat} (hm : P.follows .mixedOrders = true) (ic : CodeOK P B0 T ov k) (il : CallsOK P B0 T ov k) (ir : RoundsOK P B0 T ov (k + 1)) : CodeOK P B0 T ov (k + 1) := by
  intro ro nt c ac ht m h w s a ex s' h' Q hr hA he hq
  cases c with
  | skip =>
    cases ht
    simp only [ev, stepCode, Option.some.injEq, Prod.mk.injEq] at he
    obtain ⟨rfl, rfl, rfl⟩ := he
    exact wpIn_skip (hq _ _ _ ⟨m, .normal, hr, Fr.refl _ _ _ _, hA, rfl⟩)
  | region id ops draw =>
    simp only [trCode] at ht
    split at ht
    · rename_i hd
      obtain ⟨l, hl, rfl⟩ := Option.map_eq_some_iff.1 ht
      subst hd
      simp only [ev, stepCode] at he
      obtain ⟨q, h1, h2⟩ := Option.map_eq_some_iff.1 he
      cases h2
      exact sound_draw hm hl il hr hA h1 hq
    · rename_i hd
      obtain ⟨l, hl, rfl⟩ := Option.map_eq_some_iff.1 ht
      have hd' : draw = false := by simpa using hd
      subst hd'
      simp only [ev, stepCode] at he
      exact wpIn_region_list (sound_ops il _ l hl hr hA he hq)
  | seq x y =>
    simp only [trCode] at ht
    split at ht
    case h_2 => cases ht
    rename_i ax ay hx hy
    cases ht
    simp only [ev, stepCode] at he
    split at he
    · rename_i s1 h1 e1
      refine wpIn_seq (ic x ax hx hr hA e1 ?_)
      rintro e a' w' ⟨m1, hX, r1, f1, A1, d1⟩
      cases hX
      exact ic y ay hy r1 A1 he (fun e a2 w2 hc => hq e a2 w2 (.trans f1 (by rw [d1] at hc; exact hc)))
    · rename_i hne
      refine wpIn_seq (ic x ax hx hr hA he ?_)
      rintro e a' w' hc
      have hc' := hc
      obtain ⟨m1, hX, r1, f1, A1, d1⟩ := hc'
      cases hX with
      | normal => exact absurd he (hne _ _)
      | ret => exact hq _ _ _ hc
      | exit id => exact hq _ _ _ hc
      | panic hv => exact hq _ _ _ hc
  | cond c x y =>
    simp only [trCode] at ht
    split at ht
    case h_2 => cases ht
    rename_i ac ax ay hc hx hy
    cases ht
    simp only [ev, stepCode] at he
    have hv := hA.ev hc
    generalize hvv : a.eval c = vc at hv
    generalize ac.ev s = va at he hv
    cases hv <;> simp only at he <;> (try (cases he; done))
    case bool t =>
      refine wpIn_cond hvv ?_
      cases t
      · exact ic y ay hy hr hA he hq
      · exact ic x ax hx hr hA he hq
  | block id c =>
    simp only [trCode] at ht
    obtain ⟨ac, hc, rfl⟩ := Option.map_eq_some_iff.1 ht
    simp only [ev, stepCode] at he
    split at he
    · rename_i id' s1 h1 e1
      refine wpIn_block (ic c ac hc hr hA e1 ?_)
      rintro e a' w' ⟨m1, hX, r1, f1, A1, d1⟩
      cases hX
      simp only [Option.some.injEq, Prod.mk.injEq] at he
      obtain ⟨rfl, rfl, rfl⟩ := he
      by_cases hid : id' = id
      · simp only [Exit.inBlock, hid, if_true] at hq ⊢
        exact hq _ _ _ ⟨m1, .normal, r1, f1, A1, d1⟩
      · simp only [Exit.inBlock, hid, if_false] at hq ⊢
        exact hq _ _ _ ⟨m1, .exit _, r1, f1, A1, d1⟩
    · rename_i hne
      refine wpIn_block (ic c ac hc hr hA he ?_)
      rintro e a' w' hc
      have hc' := hc
      obtain ⟨m1, hX, r1, f1, A1, d1⟩ := hc'
      cases hX with
      | normal => exact hq _ _ _ hc
      | ret => exact hq _ _ _ hc
      | exit id => exact absurd he (hne _ _ _)
      | panic hv => exact hq _ _ _ hc
  | loop c =>
    simp only [trCode] at ht
    obtain ⟨ac, hc, rfl⟩ := Option.map_eq_some_iff.1 ht
    exact wpIn_loop_rounds (k + 1) (ir c ac hc hr hA he hq)
  | exit id =>
    cases ht
    simp only [ev, stepCode, Option.some.injEq, Prod.mk.injEq] at he
    obtain ⟨rfl, rfl, rfl⟩ := he
    exact wpIn_exit (hq _ _ _ ⟨m, .exit _, hr, Fr.refl _ _ _ _, hA, rfl⟩)
  | ret =>
    cases ht
    simp only [ev, stepCode, Option.some.injEq, Prod.mk.injEq] at he
    obtain ⟨rfl, rfl, rfl⟩ := he
    exact wpIn_ret (hq _ _ _ ⟨m, .ret, hr, Fr.refl _ _ _ _, hA, rfl⟩)
  | _ => cases ht

theorem rounds_step {T : Nat → Option AFunc} {ov : Ovs} {k : Nat} (ic : CodeOK P B0 T ov k) (ir : RoundsOK P B0 T ov k) : RoundsOK P B0 T ov (k + 1) := by
  intro ro nt c ac ht m h w s a ex s' h' Q hr hA he hq
  rw [roundsIn_succ]
  simp only [ev, stepCode] at he
  split at he
  · rename_i s1 h1 e1
    refine ic c ac ht hr hA e1 ?_
    rintro e a' w' ⟨m1, hX, r1, f1, A1, d1⟩
    cases hX
    exact ir c ac ht r1 A1 he (fun e a2 w2 hc => hq e a2 w2 (.trans f1 (by rw [d1] at hc; exact hc)))
  · rename_i hne
    refine ic c ac ht hr hA he ?_
    rintro e a' w' hc
    have hc' := hc
    obtain ⟨m1, hX, r1, f1, A1, d1⟩ := hc'
    cases hX with
    | normal => exact absurd he (hne _ _)
    | ret => exact hq _ _ _ hc
    | exit id => exact hq _ _ _ hc
    | panic hv => exact hq _ _ _ hc

theorem run_callFunc_enter {f : Nat} {fn : Func} (hf : P.funcs[f]? = some fn) (hn : (fn.name == "runtime.NumGoroutine") = false) {c : Code} (hb : fn.body = some c) (args : Array Value) (w : World) :
    (callFunc f args).run P w = .ok (.enter f args) w := by
  have hn' : fn.name ≠ "runtime.NumGoroutine" := by simpa using hn
  simp [callFunc, go_sem, hf, hn', hb]

theorem calls_step {T : Nat → Option AFunc} {ov : Ovs} {k : Nat} (hT : TableOK P T) (hO : OvOK P B0 ov) (ic : CodeOK P B0 T ov k) : CallsOK P B0 T ov (k + 1) := by
  intro f args h r h' he
  simp only [ev, stepCall] at he
  split at he
  · rename_i g hg; exact hO f g hg args h r h' he
  split at he
  · cases he
  rename_i af haf
  obtain ⟨fn, hf, hn, htr⟩ := hT f af haf
  unfold trFunc at htr
  split at htr
  · cases htr
  rename_i c hb
  split at htr
  case h_2 => cases htr
  rename_i ac ar hc hrs
  cases htr
  split at he
  case isFalse => cases he
  rename_i hlen
  simp only at hlen
  intro m w cargs hr hargs
  refine .inl ⟨run_callFunc_enter hf hn hb _ _, ?_⟩
  refine callsIn_of_wp hf hb trivial ?_ rfl
  have hcl : cargs.length = args.length := hargs.len.symm
  have hA : ARel m fn.ntmps (enterS args) { tmps := (⟨cargs⟩ : Array Value) ++ Array.replicate (fn.ntmps - (⟨cargs⟩ : Array Value).size) undef, defers := [] } := by
    refine ⟨?_, fun j => ?_⟩
    · simp; omega
    · unfold enterS
      simp only [Array.getD_eq_getD_getElem?, Array.getElem?_append, List.getD_eq_getElem?_getD]
      by_cases hj : j < cargs.length
      · rw [if_pos (by simpa using hj)]
        obtain ⟨v, h1, h2⟩ := hargs.get j (args[j]'(by omega)) (by simp)
        rw [show args[j]? = some (args[j]'(by omega)) by simp]
        rw [show (⟨cargs⟩ : Array Value)[j]? = some v by simpa using h1]
        exact h2
      · rw [if_neg (by simpa using hj), List.getElem?_eq_none (by omega)]
        have : ((Array.replicate (fn.ntmps - (⟨cargs⟩ : Array Value).size) undef)[j - (⟨cargs⟩ : Array Value).size]?).getD undef = undef := by
          rw [Array.getElem?_replicate]; split <;> rfl
        rw [this]; exact undef_rel
  simp only at he
  split at he
  · rename_i s1 h1 e1
    obtain ⟨v, hv, hrh⟩ := Option.map_eq_some_iff.1 he
    cases hrh
    refine ic c ac hc hr hA e1 ?_
    rintro e a' w' ⟨m1, hX, r1, f1, A1, d1⟩
    cases hX
    obtain ⟨v', hvr, hres⟩ := results_ok r1 A1 hrs hv
    exact ⟨d1, v', hres, m1, .val hvr, r1, f1⟩
  · rename_i s1 h1 e1
    obtain ⟨v, hv, hrh⟩ := Option.map_eq_some_iff.1 he
    cases hrh
    refine ic c ac hc hr hA e1 ?_
    rintro e a' w' ⟨m1, hX, r1, f1, A1, d1⟩
    cases hX
    obtain ⟨v', hvr, hres⟩ := results_ok r1 A1 hrs hv
    exact ⟨d1, v', hres, m1, .val hvr, r1, f1⟩
  · rename_i v s1 h1 e1
    cases he
    refine ic c ac hc hr hA e1 ?_
    rintro e a' w' ⟨m1, hX, r1, f1, A1, d1⟩
    cases hX with
    | panic hv => exact ⟨d1, m1, .panic hv, r1, f1⟩
  · cases he

theorem ev_ok {T : Nat → Option AFunc} {ov : Ovs} (hm : P.follows .mixedOrders = true) (hT : TableOK P T) (hO : OvOK P B0 ov) (k : Nat) : CodeOK P B0 T ov k ∧ RoundsOK P B0 T ov k ∧ CallsOK P B0 T ov k := by
  induction k with
  | zero =>
    refine ⟨?_, ?_, ?_⟩
    · intro ro nt c ac ht m h w s a ex s' h' Q _ _ he; cases he
    · intro ro nt c ac ht m h w s a ex s' h' Q _ _ he; cases he
    · intro f args h r h' he; cases he
  | succ k ih =>
    obtain ⟨i1, i2, i3⟩ := ih
    have r : RoundsOK P B0 T ov (k + 1) := rounds_step i1 i2
    have c : CallsOK P B0 T ov (k + 1) := calls_step hT hO i1
    have d : CodeOK P B0 T ov (k + 1) := code_step hm i1 i3 r
    exact And.intro d (And.intro r c)

/-- what the interpreter answers for a call, the model answers -/
theorem sound_call {T : Nat → Option AFunc} {ov : Ovs} (hm : P.follows .mixedOrders = true) (hT : TableOK P T) (hO : OvOK P B0 ov) {k f : Nat} {args : List AV} {h h' : H} {r : AOut} (he : (ev T ov k).call f args h = some (r, h')) : CallOK P B0 f args h r h' :=
  (ev_ok hm hT hO k).2.2 f args h r h' he
end
end Go.Proofs.Ythhibhhpcjggnab.Ev

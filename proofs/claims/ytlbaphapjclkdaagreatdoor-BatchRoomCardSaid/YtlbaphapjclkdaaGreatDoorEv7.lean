/- What one operation answers over the abstract heap, the model's operation answers: the rest. -/
import Derived.Test.YtlbaphapjclkdaaGreatDoorEv6
import Derived.Laws.BytesString
import Derived.Laws.BytesArg
import Derived.Laws.Concat
import Derived.Laws.Append
import Derived.Laws.StructEq
namespace Go.Proofs.YtlbaphapjclkdaaGreatDoor.Ev
set_option linter.unusedVariables false
set_option linter.unusedSimpArgs false

section
variable {B0 : Nat} {P : Program} {m : M} {h h' : H} {w : World}

theorem drawn_freeze (w : World) (a : Addr) (n : Nat) : (w.freeze a n).drawn = w.drawn := by
  unfold World.freeze; split <;> rfl
theorem str_mk (s : List UInt8) : (⟨⟨s⟩⟩ : ByteArray).toList = s := by rw [ByteArray.toList_eq]
theorem str_size (s : List UInt8) : (⟨⟨s⟩⟩ : ByteArray).size = s.length := rfl
theorem big_le (n : Nat) (h : n ≤ big) : ¬ ((9223372036854775807 : Int) < (n : Int)) := by unfold big at h; omega

theorem sound_bin {t : TypeId} {op : BinOp} {x y : AV} {x' y' : Value} (hx : VRel m x x') (hy : VRel m y y') {v : AV} (he : binA op x y = some v) :
    ∃ v', VRel m v v' ∧ (binOp op t x' y').run P w = .ok v' w ∧ ∀ (a b : Operand), (eqGuard op t a b x' y').run P w = .ok () w := by
  cases hx <;> try (simp [binA] at he; done)
  case int k a =>
    cases hy <;> try (simp [binA] at he; done)
    case int k' b =>
      simp only [binA] at he
      have hg : ∀ (p q : Operand), (eqGuard op t p q (.int k a) (.int k' b)).run P w = .ok () w := by intro p q; unfold eqGuard; split <;> rfl
      cases op <;> simp only [isShift, Bool.false_eq_true, if_false, if_true] at he
      case shl =>
        simp only [shiftBin] at he
        split at he
        · cases he
        · rename_i hb
          cases he
          exact ⟨_, .int _ _, by simp [binOp, Op.shift, hb], hg⟩
      case shr =>
        simp only [shiftBin] at he
        split at he
        · cases he
        · rename_i hb
          cases he
          exact ⟨_, .int _ _, by simp [binOp, Op.shift, hb], hg⟩
      all_goals
        split at he
        case isFalse => cases he
        rename_i hk
        subst hk
        simp only [intBin] at he
      case quo | rem =>
        split at he
        · cases he
        · rename_i hb
          cases he
          exact ⟨_, .int _ _, by simp [binOp, Op.intDiv, hb], hg⟩
      all_goals first
        | (cases he; exact ⟨_, .int _ _, by simp [binOp, Op.intArith, Op.intBits], hg⟩)
        | (cases he; exact ⟨_, .bool _, by simp [binOp, Op.intCmp], hg⟩)
        | cases he
  case str s =>
    cases hy <;> try (simp [binA] at he; done)
    case str u =>
      simp only [binA] at he
      have hg : ∀ (p q : Operand), (eqGuard op t p q (.string ⟨⟨s⟩⟩) (.string ⟨⟨u⟩⟩)).run P w = .ok () w := by intro p q; unfold eqGuard; split <;> rfl
      cases op <;> simp only [strBin] at he
      case add =>
        split at he
        · rename_i hb
          cases he
          refine ⟨_, .str _, ?_, hg⟩
          have := run_string_add_sum (P := P) w (⟨⟨s⟩⟩ : ByteArray) (⟨⟨u⟩⟩ : ByteArray) (by have := big_le _ hb; rw [str_size, str_size]; omega)
          show (Op.stringOp .add _ _).run P w = _
          rw [this]
          exact congrArg (fun z => Result.ok (Value.string z) w) (ByteArray.mk_append_mk s u)
        · cases he
      all_goals first
        | (cases he; refine ⟨_, .bool _, ?_, hg⟩; simp [binOp, Op.stringOp, str_mk]; done)
        | cases he

theorem equal_unf (t : TypeId) (x y : Value) : Op.equal t x y = Op.equalIn (9999 + 1) t x y := rfl
theorem binOp_eql (t : TypeId) {x y : Value} {b : Bool} (hx : (∀ k n, x ≠ .int k n) ∧ (∀ s, x ≠ .string s) ∧ (∀ k n, x ≠ .float k n) ∧ (∀ k n u, x ≠ .complex k n u)) (h : (Op.equal t x y).run P w = .ok b w) :
    (binOp .eql t x y).run P w = .ok (.bool b) w ∧ (binOp .neq t x y).run P w = .ok (.bool (!b)) w := by
  obtain ⟨h1, h2, h3, h4⟩ := hx
  constructor
  · cases x <;> first | (exact absurd rfl (h1 _ _)) | (exact absurd rfl (h2 _)) | (exact absurd rfl (h3 _ _)) | (exact absurd rfl (h4 _ _ _)) | (cases y <;> simp only [binOp, Sem.run_bind, h, Result.andThen_ok] <;> rfl)
  · cases x <;> first | (exact absurd rfl (h1 _ _)) | (exact absurd rfl (h2 _)) | (exact absurd rfl (h3 _ _)) | (exact absurd rfl (h4 _ _ _)) | (cases y <;> simp only [binOp, Sem.run_bind, h, Result.andThen_ok] <;> rfl)
def EqTy (P : Program) (t : TypeId) : AEq → Prop
  | .bool => P.underlying t = some .bool
  | .ptr => ∃ e, P.underlying t = some (.pointer e)
  | .slice => ∃ e, P.underlying t = some (.slice e)
  | .map => ∃ a e, P.underlying t = some (.map a e)
  | .func => ∃ a e z, P.underlying t = some (.func a e z)
  | .iface => ∃ a, P.underlying t = some (.interface a)
  | .nilI => ∃ a, P.underlying t = some (.interface a)
  | .flat n => ∃ fs, P.underlying t = some (.struct fs) ∧ flatTy P t fs = true ∧ n = fs.size
  | .flatK ks => aggOf P t = some true ∧ flatKTy P t = some ks
theorem drop_cons {α : Type} {l : List α} {i : Nat} {v : α} {r : List α} (h : l.drop i = v :: r) : l[i]? = some v ∧ l.drop (i + 1) = r := by
  constructor
  · have := congrArg (·[0]?) h
    simpa using this
  · have := congrArg List.tail h
    simpa using this
theorem eqFields_flat (d : Nat) {X Y : List Value} : ∀ (fs : List Field) (i : Nat) (x y : List AV) (b : Bool), x.length = fs.length → y.length = fs.length → VRels m x (X.drop i) → VRels m y (Y.drop i) → flatEq x y = some b →
    (∀ (j : Nat) (f : Field), fs[j]? = some f → f.name ≠ "_" ∧ f.offset = i + j ∧ ∃ k, P.underlying f.type = some (.int k)) → (Op.eqFields (d + 1) ⟨X⟩ ⟨Y⟩ fs).run P w = .ok b w
  | [], i, x, y, b, hx, hy, _, _, he, _ => by
    cases x with
    | cons a x => simp at hx
    | nil =>
      cases y with
      | cons a y => simp at hy
      | nil => cases he; rfl
  | f :: fs, i, [], y, b, hx, _, _, _, _, _ => by simp at hx
  | f :: fs, i, _ :: _, [], b, _, hy, _, _, _, _ => by simp at hy
  | f :: fs, i, a :: x, c :: y, b, hx, hy, vx, vy, he, hf => by
    obtain ⟨hn, ho, k0, hk⟩ := hf 0 f rfl
    generalize hX : X.drop i = xs at vx
    generalize hY : Y.drop i = ys at vy
    cases vx with
    | cons va vx =>
    cases vy with
    | cons vc vy =>
    obtain ⟨x1, x2⟩ := drop_cons hX
    obtain ⟨y1, y2⟩ := drop_cons hY
    cases a <;> cases c <;> simp only [flatEq] at he <;> try (cases he; done)
    rename_i k p k' q
    split at he
    case isFalse => cases he
    rename_i ek
    subst ek
    obtain ⟨r, hr, hb⟩ := Option.map_eq_some_iff.1 he
    cases va
    cases vc
    have ih := eqFields_flat d fs (i + 1) x y r (by simpa using hx) (by simpa using hy) (by rw [x2]; exact vx) (by rw [y2]; exact vy) hr (fun j g hg => by
      obtain ⟨z1, z2, z3⟩ := hf (j + 1) g (by simpa using hg)
      exact ⟨z1, by omega, z3⟩)
    have hag : aggOf P f.type = some false := by unfold aggOf; rw [hk]
    have o1 : f.offset = i := by omega
    have p1 : (part f.type ⟨X⟩ f.offset).run P w = .ok (.int k p) w := by
      have : (⟨X⟩ : Array Value)[i]? = some (.int k p) := by simpa using x1
      simp [part, run_isAgg hag, o1, this]
    have p2 : (part f.type ⟨Y⟩ f.offset).run P w = .ok (.int k q) w := by
      have : (⟨Y⟩ : Array Value)[i]? = some (.int k q) := by simpa using y1
      simp [part, run_isAgg hag, o1, this]
    unfold Op.eqFields
    rw [if_pos hn]
    simp only [Sem.run_bind, p1, p2, Result.andThen_ok, run_equalIn_int w d f.type k k0 p q hk]
    by_cases e : p = q
    · subst e
      simp only [beq_self_eq_true, Bool.true_and] at hb ⊢
      subst hb
      simpa using ih
    · have e' : (p == q) = false := by simpa using e
      rw [e'] at hb ⊢
      simp only [Bool.false_and] at hb
      subst hb
      rfl
theorem flatTy_of {t : TypeId} {fs : Array Field} (h : flatTy P t fs = true) : (∀ (j : Nat) (f : Field), fs.toList[j]? = some f → f.name ≠ "_" ∧ f.offset = 0 + j ∧ ∃ k, P.underlying f.type = some (.int k)) ∧ P.stoodInHeld t = false ∧ P.eqGuardType P.depth t = false := by
  unfold flatTy at h
  simp only [Bool.and_eq_true, Bool.not_eq_true'] at h
  obtain ⟨⟨h1, h2⟩, h3⟩ := h
  refine ⟨fun j f hj => ?_, h2, h3⟩
  rw [List.all_eq_true] at h1
  have := h1 (f, j) (List.mem_zipIdx_iff_getElem?.2 hj)
  simp only [Bool.and_eq_true, bne_iff_ne, ne_eq, beq_iff_eq] at this
  obtain ⟨⟨a, b⟩, c⟩ := this
  refine ⟨a, by omega, ?_⟩
  split at c
  · rename_i k hk; exact ⟨k, hk⟩
  · cases c
theorem guard_nil {t : TypeId} (o : BinOp) (p q : Operand) (hc : (isConst p || isConst q) = true) : (eqGuard o t p q .nilIface .nilIface).run P w = .ok () w := by
  cases p <;> cases q <;> first | (simp [isConst] at hc; done) | (unfold eqGuard; split <;> rfl)
theorem eqA_nilI {x y : AV} {b : Bool} (h : eqA .nilI x y = some b) : (x = .nili ∧ y = .nili ∧ b = true) ∨ (∃ t v, x = .nili ∧ y = .iface t v ∧ b = false) ∨ (∃ t v, x = .iface t v ∧ y = .nili ∧ b = false) := by
  cases x <;> first
    | (cases y <;> simp only [eqA, Option.some.injEq, reduceCtorEq] at h <;> subst h <;> first | exact .inl ⟨rfl, rfl, rfl⟩ | exact .inr (.inl ⟨_, _, rfl, rfl, rfl⟩) | exact .inr (.inr ⟨_, _, rfl, rfl, rfl⟩))
    | (exfalso; revert h; unfold eqA; intro h; split at h <;> simp_all)
theorem eqA_iface {x y : AV} {b : Bool} (h : eqA .iface x y = some b) : (∃ t v, x = .nili ∧ y = .iface t v ∧ b = false) ∨ (∃ t v, x = .iface t v ∧ y = .nili ∧ b = false) := by
  cases x <;> first
    | (cases y <;> simp only [eqA, Option.some.injEq, reduceCtorEq] at h <;> subst h <;> first | exact .inl ⟨_, _, rfl, rfl, rfl⟩ | exact .inr ⟨_, _, rfl, rfl, rfl⟩)
    | (exfalso; revert h; unfold eqA; intro h; split at h <;> simp_all)
theorem sound_eq {t : TypeId} {k : AEq} {neg : Bool} {x y : AV} {x' y' : Value} (hx : VRel m x x') (hy : VRel m y y') {b : Bool} (he : eqA k x y = some b)
    (hk : EqTy P t k) (op : BinOp) (ho : op = .eql ∧ neg = false ∨ op = .neq ∧ neg = true) :
    (binOp op t x' y').run P w = .ok (.bool (if neg then !b else b)) w ∧ ∀ (p q : Operand), (k = .nilI → (isConst p || isConst q) = true) → (eqGuard op t p q x' y').run P w = .ok () w := by
  have key : ((∀ k n, x' ≠ .int k n) ∧ (∀ s, x' ≠ .string s) ∧ (∀ k n, x' ≠ .float k n) ∧ (∀ k n u, x' ≠ .complex k n u)) ∧ (Op.equal t x' y').run P w = .ok b w ∧ ∀ (o : BinOp) (p q : Operand), (k = .nilI → (isConst p || isConst q) = true) → (eqGuard o t p q x' y').run P w = .ok () w := by
    rw [equal_unf]
    cases k <;> simp only [EqTy] at hk
    case bool =>
      cases hx <;> try (simp [eqA] at he; done)
      cases hy <;> try (simp [eqA] at he; done)
      simp only [eqA, Option.some.injEq] at he; subst he
      refine ⟨by simp, ?_, by intro o p q _; unfold eqGuard; split <;> rfl⟩
      unfold Op.equalIn; simp only [Sem.run_bind, run_underlying hk, Result.andThen_ok]; rfl
    case ptr =>
      obtain ⟨e, hk⟩ := hk
      cases hx <;> cases hy <;> (try (cases he; done)) <;> (simp only [eqA, Option.some.injEq] at he; subst he) <;>
        (refine ⟨by simp, ?_, by intro o p q _; unfold eqGuard; split <;> rfl⟩; unfold Op.equalIn; simp only [Sem.run_bind, run_underlying hk, Result.andThen_ok]; rfl)
    case slice =>
      obtain ⟨e, hk⟩ := hk
      cases hx <;> cases hy <;> (try (cases he; done)) <;> (simp only [eqA, Option.some.injEq] at he; subst he) <;>
        (refine ⟨by simp, ?_, by intro o p q _; unfold eqGuard; split <;> rfl⟩; unfold Op.equalIn; simp only [Sem.run_bind, run_underlying hk, Result.andThen_ok]; rfl)
    case map =>
      obtain ⟨a, e, hk⟩ := hk
      cases hx <;> cases hy <;> (try (cases he; done)) <;> (simp only [eqA, Option.some.injEq] at he; subst he) <;>
        (refine ⟨by simp, ?_, by intro o p q _; unfold eqGuard; split <;> rfl⟩; unfold Op.equalIn; simp only [Sem.run_bind, run_underlying hk, Result.andThen_ok]; rfl)
    case func =>
      obtain ⟨a, e, z, hk⟩ := hk
      cases hx <;> cases hy <;> (try (cases he; done)) <;> (simp only [eqA, Option.some.injEq] at he; subst he) <;>
        (refine ⟨by simp, ?_, by intro o p q _; unfold eqGuard; split <;> rfl⟩; unfold Op.equalIn; simp only [Sem.run_bind, run_underlying hk, Result.andThen_ok]; rfl)
    case flat n =>
      obtain ⟨fs, hk, hfl, rfl⟩ := hk
      obtain ⟨h1, h2, h3⟩ := flatTy_of hfl
      cases hx <;> try (simp [eqA] at he; done)
      cases hy <;> try (simp [eqA] at he; done)
      rename_i x xs vx y ys vy
      simp only [eqA] at he
      split at he
      case isFalse => cases he
      rename_i hl
      have hfo : P.fieldsOf t = fs := by unfold Program.fieldsOf; rw [hk]
      refine ⟨by simp, ?_, fun o p q _ => run_eqGuard_agg w o t p q _ _ h3⟩
      rw [run_equalIn_struct w 9999 t _ _ (by rw [hfo]; exact hk) h2, hfo]
      exact eqFields_flat 9998 fs.toList 0 x y b (by simpa using hl.1) (by simpa using hl.2) vx vy he h1
    case flatK ks =>
      obtain ⟨hag, hfl⟩ := hk
      obtain ⟨h1, h3⟩ := flatKTy_of hfl
      cases hx <;> try (simp [eqA] at he; done)
      cases hy <;> try (simp [eqA] at he; done)
      rename_i x xs vx y ys vy
      simp only [eqA] at he
      refine ⟨by simp, ?_, fun o p q _ => run_eqGuard_agg w o t p q _ _ h3⟩
      exact equalIn_deep 64 t ks h1 10000 (by decide) m w x y xs ys b _ _ vx vy he (.inl ⟨hag, rfl⟩) (.inl ⟨hag, rfl⟩)
    case nilI =>
      obtain ⟨a, hk⟩ := hk
      rcases eqA_nilI he with ⟨rfl, rfl, rfl⟩ | ⟨t1, v1, rfl, rfl, rfl⟩ | ⟨t1, v1, rfl, rfl, rfl⟩
      · cases hx; cases hy
        exact ⟨by simp, by unfold Op.equalIn; simp only [Sem.run_bind, run_underlying hk, Result.andThen_ok]; rfl, fun o p q hc => guard_nil o p q (hc rfl)⟩
      all_goals
        cases hx; cases hy
        refine ⟨by simp, ?_, by intro o p q _; unfold eqGuard; split <;> rfl⟩
        unfold Op.equalIn; simp only [Sem.run_bind, run_underlying hk, Result.andThen_ok]; rfl
    case iface =>
      obtain ⟨a, hk⟩ := hk
      rcases eqA_iface he with ⟨t1, v1, rfl, rfl, rfl⟩ | ⟨t1, v1, rfl, rfl, rfl⟩
      all_goals
        cases hx; cases hy
        refine ⟨by simp, ?_, by intro o p q _; unfold eqGuard; split <;> rfl⟩
        unfold Op.equalIn; simp only [Sem.run_bind, run_underlying hk, Result.andThen_ok]; rfl
  obtain ⟨k1, k2, k3⟩ := key
  obtain ⟨q1, q2⟩ := binOp_eql t k1 k2
  rcases ho with ⟨rfl, rfl⟩ | ⟨rfl, rfl⟩
  · exact ⟨q1, k3 _⟩
  · exact ⟨q2, k3 _⟩

/-! ### texts and bytes -/
theorem bytesOf_rel : ∀ {cs : List AV} {l : List UInt8} {vs : List Value}, bytesOf cs = some l → VRels m cs vs → ∃ ns : List Int, vs = ns.map (Value.int .u8) ∧ l = ns.map (fun n => UInt8.ofNat n.toNat)
  | [], l, vs, h, hv => by cases h; cases hv; exact ⟨[], rfl, rfl⟩
  | .int k n :: cs, l, vs, h, hv => by
    cases k <;> try (simp [bytesOf] at h; done)
    simp only [bytesOf] at h
    obtain ⟨r, h1, h2⟩ := Option.map_eq_some_iff.1 h
    cases hv with
    | cons ha ht =>
      cases ha
      obtain ⟨ns, e1, e2⟩ := bytesOf_rel h1 ht
      exact ⟨n :: ns, by simp [e1], by rw [← h2, e2]; simp⟩
  | .bool _ :: _, l, vs, h, hv => by simp [bytesOf] at h
  | .str _ :: _, l, vs, h, hv => by simp [bytesOf] at h
  | .nilp :: _, l, vs, h, hv => by simp [bytesOf] at h
  | .ptr _ _ :: _, l, vs, h, hv => by simp [bytesOf] at h
  | .nils :: _, l, vs, h, hv => by simp [bytesOf] at h
  | .slice _ _ _ _ :: _, l, vs, h, hv => by simp [bytesOf] at h
  | .nilm :: _, l, vs, h, hv => by simp [bytesOf] at h
  | .map _ :: _, l, vs, h, hv => by simp [bytesOf] at h
  | .nilf :: _, l, vs, h, hv => by simp [bytesOf] at h
  | .func _ _ :: _, l, vs, h, hv => by simp [bytesOf] at h
  | .yield _ :: _, l, vs, h, hv => by simp [bytesOf] at h
  | .nili :: _, l, vs, h, hv => by simp [bytesOf] at h
  | .iface _ _ :: _, l, vs, h, hv => by simp [bytesOf] at h
  | .agg _ :: _, l, vs, h, hv => by simp [bytesOf] at h
  | .tup _ :: _, l, vs, h, hv => by simp [bytesOf] at h
theorem foldl_push (ns : List Int) : ∀ (r : List UInt8), ns.foldl (fun (r : ByteArray) n => r.push (UInt8.ofNat n.toNat)) ⟨⟨r⟩⟩ = ⟨⟨r ++ ns.map (fun n => UInt8.ofNat n.toNat)⟩⟩ := by
  induction ns with
  | nil => intro r; simp
  | cons n ns ih =>
    intro r
    simp only [List.foldl_cons, List.map_cons]
    have : (⟨⟨r⟩⟩ : ByteArray).push (UInt8.ofNat n.toNat) = ⟨⟨r ++ [UInt8.ofNat n.toNat]⟩⟩ := by simp [ByteArray.push]
    rw [this, ih]; simp
theorem byteCells_rel (m : M) (s : List UInt8) : VRels m (byteCells s) (s.map fun c => Value.int .u8 c.toNat) := VRels.map_ev _ _ s (fun c _ => .int _ _)

/-- a slice's first cells, read -/
theorem sound_first (r : Rel P B0 m h w) {es k : Nat} {y : AV} {y' : Value} (hy : VRel m y y') {new : List AV} (he : h.firstCells es k y = some new) :
    ∃ vs, VRels m new vs ∧ (Builtin.firstCells es k y').run P w = .ok ⟨vs⟩ w ∧ new.length = k * es := by
  cases hy with
  | nils =>
    simp only [H.firstCells] at he
    split at he
    · rename_i hk; cases he; subst hk; exact ⟨[], .nil, rfl, by simp⟩
    · cases he
  | @slice o b base sz i len es' cap hm hl hs =>
    simp only [H.firstCells] at he
    split at he
    · rename_i hc
      obtain ⟨rfl, hk⟩ := hc
      cases hr : h.row o with
      | some cs =>
        rw [hr] at he; simp only at he
        split at he
        · rename_i hfit
          cases he
          obtain ⟨vs, h1, h2, h3⟩ := r.cells hr hm i (k * es') hfit
          exact ⟨vs, h1, by simp [Builtin.firstCells, run_cells w _ vs _ h2 h3], by simp; omega⟩
        · cases he
      | none =>
        rw [hr] at he; simp only at he
        split at he
        · rename_i hz; cases he
          refine ⟨[], .nil, ?_, by simp [hz]⟩
          have := run_cells (P := P) w (⟨b, base + i, none⟩ : Addr) [] (k * es') (by simp [hz]) (by simp)
          simp [Builtin.firstCells, this]
        · cases he
    · cases he
  | @slice0 o i es' a x hm =>
    simp only [H.firstCells] at he
    split at he
    · rename_i hc
      obtain ⟨rfl, hk⟩ := hc
      have hk0 : k = 0 := by omega
      subst hk0
      have hnew : new = [] := by
        split at he
        · split at he
          · cases he; simp
          · cases he
        · simp at he; exact he
      subst hnew
      refine ⟨[], .nil, ?_, by simp⟩
      have := run_cells (P := P) w a [] (0 * es') (by simp) (by simp)
      simp [Builtin.firstCells] at this ⊢
      simp [this]
    · cases he
  | str s =>
    simp only [H.firstCells] at he
    split at he
    · rename_i hc
      obtain ⟨rfl, hk⟩ := hc
      cases he
      refine ⟨_, byteCells_rel m _, ?_, by simp [byteCells]; omega⟩
      have hx : ((⟨⟨s⟩⟩ : ByteArray).extract 0 k).data = ⟨s.take k⟩ := by simp [ByteArray.data_extract]
      simp [Builtin.firstCells, hx]
    · cases he
  | _ => simp [H.firstCells] at he
theorem sound_lenOf {y : AV} {y' : Value} (hy : VRel m y y') {k : Nat} (he : lenA y = some k) : (Builtin.lenOf y').run P w = .ok k w := by
  cases hy <;> simp only [lenA] at he <;> first | (cases he; done) | (cases he; simp [Builtin.lenOf, str_size])

theorem sound_B2S (r : Rel P B0 m h w) {src dst e : TypeId} (hs : P.underlying src = some (.slice e)) (hd : P.underlying dst = some .string) (hu : isU8 P e = true) {x v : AV} {x' : Value} (hx : VRel m x x') (he : cvB2SA h x = some v) :
    SemOK P B0 m h w v h ((convert src dst x').run P w) := by
  have hue : P.underlying e = some (.int .u8) := by
    unfold isU8 at hu; split at hu
    · assumption
    · cases hu
  cases hx <;> try (simp [cvB2SA] at he; done)
  case nils =>
    simp only [cvB2SA, Option.some.injEq] at he; subst he
    refine .same r (.str []) ?_
    rw [run_convert_bytes_string w src dst e none 0 0 hs hue hd]
    rfl
  all_goals
    simp only [cvB2SA] at he
    split at he
    case isFalse => cases he
    rename_i hes
    subst hes
    obtain ⟨l, h1, rfl⟩ := Option.map_eq_some_iff.1 he
    obtain ⟨cs, h2, h3⟩ := Option.bind_eq_some_iff.1 h1
    refine .same r (.str l) ?_
  case slice o b base sz i len cap hm hl hs' =>
    obtain ⟨vs, h4, h5, h6⟩ := sound_first (P := P) r (.slice i len 1 cap hm hl hs') h2
    obtain ⟨ns, e1, e2⟩ := bytesOf_rel h3 h4
    rw [run_convert_bytes_string w src dst e _ len cap hs hue hd]
    have h7 : (loadCells (⟨b, base + i, none⟩ : Addr) len).run P w = .ok (ns.map (Value.int .u8)).toArray w := by
      simp only [Builtin.firstCells, Nat.mul_one] at h5; rw [h5, e1]
    rw [run_bytesToString w _ len cap ns h7]
    rw [show ByteArray.empty = (⟨⟨[]⟩⟩ : ByteArray) from rfl, foldl_push, e2]; simp
  case slice0 o i a x hm =>
    obtain ⟨vs, h4, h5, h6⟩ := sound_first (P := P) r (.slice0 i 1 a x hm) h2
    obtain ⟨ns, e1, e2⟩ := bytesOf_rel h3 h4
    rw [run_convert_bytes_string w src dst e _ 0 0 hs hue hd]
    have h7 : (loadCells a 0).run P w = .ok (ns.map (Value.int .u8)).toArray w := by
      simp only [Builtin.firstCells, Nat.mul_one] at h5; rw [h5, e1]
    rw [run_bytesToString w _ 0 0 ns h7]
    rw [show ByteArray.empty = (⟨⟨[]⟩⟩ : ByteArray) from rfl, foldl_push, e2]; simp

theorem freeze_new (w : World) (CS : Array Value) (e : TypeId) : (w.alloc (.cells CS e)).freeze { block := w.heap.size, off := CS.size } 1 = w.alloc (.cells CS e (CS.size, CS.size + 1)) := by
  simp only [World.freeze, World.alloc]
  rw [if_neg (by decide)]
  congr 1
  apply Array.ext_getElem?
  intro j
  rw [Array.getElem?_modify]
  by_cases e0 : w.heap.size = j
  · subst e0
    rw [if_pos rfl, Array.getElem?_push_size, Array.getElem?_push_size]
    simp
  · rw [if_neg e0, Array.getElem?_push, Array.getElem?_push, if_neg (fun x => e0 x.symm), if_neg (fun x => e0 x.symm)]
theorem make_S2B (m : M) (w : World) {src dst e : TypeId} (hs : P.underlying src = some .string) (hd : P.underlying dst = some (.slice e)) (hu : isU8 P e = true) (s : List UInt8) :
    MakeOK m w (fun o => .slice o 0 s.length 1) (byteCells s) (fun v' w' => (convert src dst (.string ⟨⟨s⟩⟩)).run P w = .ok v' w') := by
  have hue : P.underlying e = some (.int .u8) := by
    unfold isU8 at hu; split at hu
    · assumption
    · cases hu
  · have hcut : ∀ t, s.length ≤ (Question.appendCap s.length 0 e).cut t := fun t => Nat.le_add_right _ _
    generalize hcap : (Question.appendCap s.length 0 e).cut (w.tape w.drawn (.appendCap s.length 0 e)) = cap
    have hle : s.length ≤ cap := by rw [← hcap]; exact hcut _
    let CS : Array Value := ⟨(s.map fun c => Value.int .u8 c.toNat) ++ List.replicate (cap - s.length) (.int .u8 0)⟩
    have hsz : CS.size = cap := by simp [CS]; omega
    have hvals : ∀ (i : Nat) (a : AV), (byteCells s)[i]? = some a → ∃ u, CS[i]? = some u ∧ VRel m a u := (fun i a hi => by
        obtain ⟨v, h1, h2⟩ := (byteCells_rel m s).get i a hi
        refine ⟨v, ?_, h2⟩
        have hi2 : i < (s.map fun c => Value.int .u8 (c.toNat : Int)).length := by
          rcases Nat.lt_or_ge i (s.map fun c => Value.int .u8 (c.toNat : Int)).length with hx | hx
          · exact hx
          · rw [List.getElem?_eq_none hx] at h1; cases h1
        show (List.toArray _)[i]? = _
        rw [List.getElem?_toArray, List.getElem?_append_left hi2]; exact h1)
    refine ⟨w.drew, CS, e, (CS.size, CS.size + 1), .slice (some ⟨w.heap.size, 0, none⟩) s.length cap, .inr rfl, ?_, hvals, by rw [hsz]; simpa [byteCells] using hle, by intro i hi; simp; omega, fun o => VRel.new_slice m o w.heap.size CS.size s.length 1 cap hle (by omega)⟩
    have hdd : (s.map fun c => Value.int .u8 (c.toNat : Int)).toArray ++ Array.replicate (cap - s.length) (.int .u8 0) = CS := by
      apply Array.ext'; simp [CS]
    have hconv : (convert src dst (.string ⟨⟨s⟩⟩)).run P w = (Conv.stringToBytes e ⟨⟨s⟩⟩).run P w := by
      simp [convert, run_underlying hs, run_underlying hd, run_underlying hue]
    rw [hconv]
    have hfz := freeze_new w.drew CS e
    have hmap : (⟨⟨s⟩⟩ : ByteArray).data.map (fun b => Value.int .u8 b.toNat) = (s.map fun c => Value.int .u8 (c.toNat : Int)).toArray := by simp
    simp only [Conv.stringToBytes, Sem.run_bind, run_choose, str_size, Question.forced, Bool.false_eq_true, if_false, Result.andThen_ok, hmap, hcap, hdd, newRow, run_newObj, Sem.run_pure, markStringish, run_shape,
      World.drew_eq, World.alloc_eq]
    have hsh : (w.drew.alloc (.cells CS e)).shape? w.drew.heap.size = some (e, CS.size) := by
      unfold World.shape?; rw [heap_alloc_eq, if_pos rfl]
    simp only [hsh, run_freeze, Result.andThen_ok, hfz]
    rfl
/-- a mark behind a row -/
theorem Rel.freeze {m : M} {h : H} {w : World} (r : Rel P B0 m h w) {b n : Nat} (hn : ∀ CS e fr, w.heap[b]? = some (.cells CS e fr) → CS.size ≤ n) (hb : B0 ≤ b) {o base sz : Nat} (hm : m o = some (b, base, sz)) :
    Rel P B0 m h (w.freeze ⟨b, n, none⟩ 1) ∧ Fr B0 m m h h w (w.freeze ⟨b, n, none⟩ 1) := by
  have hh : ∀ k, (w.freeze ⟨b, n, none⟩ 1).heap[k]? = if b = k then (w.heap[k]?).map (fun x => match x with | .cells c t (lo, hi) => .cells c t (if lo == hi then (n, n + 1) else (min lo n, max hi (n + 1))) | x => x) else w.heap[k]? := by
    intro k
    show (if 1 = 0 then w else _).heap[k]? = _
    rw [if_neg (by decide)]
    simp only [Array.getElem?_modify]
    rfl
  have hsz : (w.freeze ⟨b, n, none⟩ 1).heap.size = w.heap.size := by
    show (if 1 = 0 then w else _).heap.size = _
    rw [if_neg (by decide)]
    simp
  have hcs : ∀ {k : Nat} {CS : Array Value} {e : TypeId} {fr : Nat × Nat}, w.heap[k]? = some (Obj.cells CS e fr) → ∃ fr', (w.freeze ⟨b, n, none⟩ 1).heap[k]? = some (Obj.cells CS e fr') := by
    intro k CS e fr hk
    rw [hh, hk]
    by_cases hbk : b = k
    · rw [if_pos hbk]; exact ⟨_, rfl⟩
    · rw [if_neg hbk]; exact ⟨_, rfl⟩
  have hcell : ∀ k i, (w.freeze ⟨b, n, none⟩ 1).cell? ⟨k, i, none⟩ = w.cell? ⟨k, i, none⟩ := by
    intro k i
    unfold World.cell?
    simp only [hh]
    by_cases hbk : b = k
    · subst hbk
      rw [if_pos rfl]
      cases hx : w.heap[b]? with
      | none => rfl
      | some x => cases x <;> rfl
    · rw [if_neg hbk]
  refine ⟨⟨by rw [hsz]; exact r.base, r.lt, ?_, ?_, ?_, r.ro, r.sep, r.ord, fun hq => by rw [hsz]; exact r.blk hq, r.any, ?_, ?_, ?_, r.wf⟩, ⟨M.le_refl m, ?_, ?_, ?_, by rw [hsz]; exact Nat.le_refl _, ?_, Nat.le_refl _, fun _ _ hq => ⟨rfl, hq⟩, fun o b base sz hs hn => (by rw [hn] at hs; cases hs), fun _ => Nat.le_of_eq (drawn_freeze w _ _).symm⟩⟩
  · intro q cs g k base' sz' hg hq
    obtain ⟨h1, CS, e, fr, h2, h3⟩ := r.row hg hq
    obtain ⟨fr', h4⟩ := hcs h2
    exact ⟨h1, CS, e, fr', h4, h3⟩
  · intro q cs k base' sz' hg hq i a hi
    rw [hcell]
    exact r.val hg hq i a hi
  · intro q cs g k base' sz' hg hq
    obtain ⟨h1, h2⟩ := r.own hg hq
    refine ⟨h1, fun i hi CS e fr hk => ?_⟩
    obtain ⟨_, CS', e', fr', h5, h6⟩ := r.row hg hq
    rw [hh] at hk
    by_cases hbk : b = k
    · subst hbk
      rw [if_pos rfl, h5] at hk
      have hle := hn _ _ _ h5
      have hu := h2 i hi _ _ _ h5
      simp only [Option.map_some, Option.some.injEq, Obj.cells.injEq] at hk
      obtain ⟨rfl, rfl, rfl⟩ := hk
      simp only at hu ⊢
      by_cases hlh : fr'.1 = fr'.2
      · rw [if_pos (by simpa using hlh)]
        right; simp only; omega
      · rw [if_neg (by simpa using hlh)]
        rcases hu with hu | hu
        · exact absurd hu hlh
        · right; simp only; omega
    · rw [if_neg hbk] at hk
      exact h2 i hi _ _ _ hk
  · intro q L k base' sz' hg hq
    obtain ⟨q1, rec, q2, q3⟩ := r.lp hg hq
    refine ⟨q1, rec, ?_, q3⟩
    rw [hh, q2]
    split <;> rfl
  · intro q X k base' sz' hg hq
    obtain ⟨q1, q0, rec, q2, q3⟩ := r.mm hg hq
    refine ⟨q1, q0, rec, ?_, q3⟩
    rw [hh, q2]
    cases q3 <;> (split <;> rfl)
  · intro q g' v hg
    obtain ⟨q1, v', q2, q3⟩ := r.gb hg
    exact ⟨q1, v', by rw [hcell]; exact q2, q3⟩
  · show (if 1 = 0 then w else _).os = _
    rw [if_neg (by decide)]
  · show (if 1 = 0 then w else _).tape = _
    rw [if_neg (by decide)]
  · show (if 1 = 0 then w else _).output = _
    rw [if_neg (by decide)]
  · intro k hk hc
    rw [hh, if_neg]
    rintro rfl
    rcases hc with hc | hc
    · omega
    · exact hc _ _ _ hm
theorem sound_B2B (r : Rel P B0 m h w) {src e : TypeId} (hs : P.underlying src = some (.slice e)) (hu : isU8 P e = true) {x v : AV} {x' : Value} (hx : VRel m x x') (he : cvB2BA h x = some v) :
    SemOK P B0 m h w v h ((convert src src x').run P w) := by
  have hue : P.underlying e = some (.int .u8) := by
    unfold isU8 at hu
    split at hu
    · assumption
    · cases hu
  have fin : ∀ {o i len es b base sz : Nat} {y : Value}, h.get o = h.get o → cvB2BA h (.slice o i len es) = some v → m o = some (b, base, sz) → (∃ off cap, y = .slice (some ⟨b, off, none⟩) len cap) → VRel m (.slice o i len es) y → SemOK P B0 m h w v h ((convert src src y).run P w) := by
    intro o i len es b base sz y _ he hm hy hv
    obtain ⟨off, cap, rfl⟩ := hy
    simp only [cvB2BA] at he
    split at he
    case isTrue => cases he
    split at he
    case h_2 => cases he
    rename_i cs g hg
    cases he
    obtain ⟨hB, _⟩ := r.own hg hm
    obtain ⟨_, CS, t, fr, hb, hsz⟩ := r.row hg hm
    obtain ⟨r', f'⟩ := r.freeze (b := b) (n := CS.size) (fun CS' e' fr' h' => by rw [hb] at h'; cases h'; exact Nat.le_refl _) hB hm
    refine ⟨m, _, _, ?_, r', f', hv⟩
    have hsh : w.shape? b = some (t, CS.size) := by unfold World.shape?; rw [hb]
    simp [convert, run_underlying hs, run_underlying hue, markStringish, hsh]
  cases hx with
  | @slice o b base sz i len es cap hm hl hs' => exact fin rfl he hm ⟨_, _, rfl⟩ (.slice i len es cap hm hl hs')
  | _ => simp [cvB2BA] at he
theorem sound_S2B (r : Rel P B0 m h w) {src dst e : TypeId} (hs : P.underlying src = some .string) (hd : P.underlying dst = some (.slice e)) (hu : isU8 P e = true) {x v : AV} {x' : Value} (hx : VRel m x x') (he : cvS2BA h x = some (v, h')) :
    SemOK P B0 m h w v h' ((convert src dst x').run P w) := by
  cases hx with
  | str s =>
    simp only [cvS2BA, Option.some.injEq, Prod.mk.injEq] at he
    obtain ⟨rfl, rfl⟩ := he
    exact SemOK.of_make (k := fun o => .slice o 0 s.length 1) r (make_S2B m w hs hd hu s)
  | _ => simp [cvS2BA] at he
end
end Go.Proofs.YtlbaphapjclkdaaGreatDoor.Ev

/- Operations, one by one, for symbolic runs. -/
import Derived.Test.YtlbaphapjclkdaaGreatDoorEv20
namespace Go.Proofs.YtlbaphapjclkdaaGreatDoor.Ev
set_option linter.unusedVariables false
set_option linter.unusedSimpArgs false

theorem beq_eq_decide (a b : List UInt8) : (a == b) = decide (a = b) := by
  by_cases h : a = b <;> simp [h]
def WV (x : Option AV) (K : AV → Prop) : Prop := match x with | some v => K v | none => False
@[go_sem] theorem WV_some (v : AV) (K : AV → Prop) : WV (some v) K = K v := id rfl
@[go_sem] theorem WV_none (K : AV → Prop) : WV none K = False := id rfl
@[go_sem] theorem WV_ite (c : Prop) [Decidable c] (x : Option AV) (K : AV → Prop) : WV (if c then x else none) K = (c ∧ WV x K) := by
  by_cases h : c <;> simp [h, WV]
@[go_sem] theorem WV_ite' (c : Prop) [Decidable c] (x : Option AV) (K : AV → Prop) : WV (if c then none else x) K = (¬ c ∧ WV x K) := by
  by_cases h : c <;> simp [h, WV]
theorem WX_pair (x : Option AV) (h : H) (K : AV → H → Prop) : WX (x.map (·, h)) K = WV x fun v => K v h := by cases x <;> rfl
theorem WV_of {x : Option AV} {v : AV} {K : AV → Prop} (e : x = some v) (k : K v) : WV x K := by rw [e]; exact k
theorem WX_of {x : Option (AV × H)} {v : AV} {h : H} {K : AV → H → Prop} (e : x = some (v, h)) (k : K v h) : WX x K := by rw [e]; exact k

section
variable (E : Env) (s : S) (h : H) (K : AV → H → Prop) (Pn : AV → H → Prop)
@[go_sem] theorem WOp_mov (x : AOpd) : WOp E (.mov x) s h K Pn = K (x.ev s) h := id rfl
@[go_sem] theorem WOp_pick (c a b : AOpd) : WOp E (.pick c a b) s h K Pn = WV (pickA (c.ev s) (a.ev s) (b.ev s)) fun v => K v h := WX_pair _ _ _
@[go_sem] theorem WOp_alloc (z : List AV) : WOp E (.alloc z) s h K Pn = K (.ptr h.n 0) (h.new z) := id rfl
@[go_sem] theorem WOp_box (x : AOpd) : WOp E (.box x) s h K Pn = K (.ptr h.n 0) (h.new (x.ev s).cells) := id rfl
@[go_sem] theorem WOp_build (z : List AV) (ps : List (Nat × Nat × AOpd)) : WOp E (.build z ps) s h K Pn = WV ((afill z (parts s ps)).map AV.agg) fun v => K v h := by
  simp only [WOp, WOpG, exec]; cases afill z (parts s ps) <;> rfl
@[go_sem] theorem WOp_buildSlice (es n : Nat) (z : List AV) (ps : List (Nat × Nat × AOpd)) : WOp E (.buildSlice es n z ps) s h K Pn = match afill (zeros z (n * es)) (parts s ps) with | some cs => K (.slice h.n 0 n es) (h.new cs) | none => False := by
  simp only [WOp, WOpG, exec]; cases afill (zeros z (n * es)) (parts s ps) <;> rfl
@[go_sem] theorem WOp_load (agg : Bool) (n : Nat) (x : AOpd) : WOp E (.load agg n x) s h K Pn = WV (loadA h agg n (x.ev s)) fun v => K v h := WX_pair _ _ _
@[go_sem] theorem WOp_store (n : Nat) (x v : AOpd) : WOp E (.store n x v) s h K Pn = match storeA h n (x.ev s) (v.ev s) with | some h' => K undefA h' | none => False := by
  simp only [WOp, WOpG, exec]; cases storeA h n (x.ev s) (v.ev s) <;> rfl
@[go_sem] theorem WOp_nilCheck (x : AOpd) : WOp E (.nilCheck x) s h K Pn = WV (nilCheckA (x.ev s)) fun v => K v h := WX_pair _ _ _
@[go_sem] theorem WOp_bin (op : BinOp) (x y : AOpd) : WOp E (.bin op x y) s h K Pn = WV (binA op (x.ev s) (y.ev s)) fun v => K v h := WX_pair _ _ _
@[go_sem] theorem WOp_eq (k : AEq) (neg : Bool) (x y : AOpd) : WOp E (.eq k neg x y) s h K Pn = WV ((eqA k (x.ev s) (y.ev s)).map fun b => .bool (if neg then !b else b)) fun v => K v h := by
  simp only [WOp, WOpG, exec]; cases eqA k (x.ev s) (y.ev s) <;> rfl
@[go_sem] theorem WOp_not (x : AOpd) : WOp E (.not x) s h K Pn = WV (notA (x.ev s)) fun v => K v h := WX_pair _ _ _
@[go_sem] theorem WOp_neg (x : AOpd) : WOp E (.neg x) s h K Pn = WV (negA (x.ev s)) fun v => K v h := WX_pair _ _ _
@[go_sem] theorem WOp_cvInt (k : IntKind) (x : AOpd) : WOp E (.cvInt k x) s h K Pn = WV (cvIntA k (x.ev s)) fun v => K v h := WX_pair _ _ _
@[go_sem] theorem WOp_cvSame (x : AOpd) : WOp E (.cvSame x) s h K Pn = WV (cvSameA (x.ev s)) fun v => K v h := WX_pair _ _ _
@[go_sem] theorem WOp_cvS2B (x : AOpd) : WOp E (.cvS2B x) s h K Pn = WX (cvS2BA h (x.ev s)) K := id rfl
@[go_sem] theorem WOp_cvB2S (x : AOpd) : WOp E (.cvB2S x) s h K Pn = WV (cvB2SA h (x.ev s)) fun v => K v h := WX_pair _ _ _
@[go_sem] theorem WOp_cvB2B (x : AOpd) : WOp E (.cvB2B x) s h K Pn = WV (cvB2BA h (x.ev s)) fun v => K v h := WX_pair _ _ _
@[go_sem] theorem WOp_sliceS (es : Nat) (x : AOpd) (lo hi : Option AOpd) : WOp E (.sliceS es x lo hi) s h K Pn = WV (sliceSA es (lo.map (·.ev s)) (hi.map (·.ev s)) (x.ev s)) fun v => K v h := WX_pair _ _ _
@[go_sem] theorem WOp_slice3 (es : Nat) (x : AOpd) (lo : Option AOpd) (hi mx : AOpd) : WOp E (.slice3 es x lo hi mx) s h K Pn = WV (slice3A es (lo.map (·.ev s)) (hi.ev s) (mx.ev s) (x.ev s)) fun v => K v h := WX_pair _ _ _
@[go_sem] theorem WOp_sliceT (x : AOpd) (lo hi : Option AOpd) : WOp E (.sliceT x lo hi) s h K Pn = WV (sliceTA (lo.map (·.ev s)) (hi.map (·.ev s)) (x.ev s)) fun v => K v h := WX_pair _ _ _
@[go_sem] theorem WOp_sliceA (es n : Nat) (x : AOpd) (lo hi : Option AOpd) : WOp E (.sliceA es n x lo hi) s h K Pn = WV (sliceAA h es n (lo.map (·.ev s)) (hi.map (·.ev s)) (x.ev s)) fun v => K v h := WX_pair _ _ _
@[go_sem] theorem WOp_fieldAddr (off : Nat) (x : AOpd) : WOp E (.fieldAddr off x) s h K Pn = WV (fieldAddrA off (x.ev s)) fun v => K v h := WX_pair _ _ _
@[go_sem] theorem WOp_field (agg : Bool) (off n : Nat) (x : AOpd) : WOp E (.field agg off n x) s h K Pn = WV (fieldA agg off n (x.ev s)) fun v => K v h := WX_pair _ _ _
@[go_sem] theorem WOp_indexAddr (es : Nat) (x i : AOpd) : WOp E (.indexAddr es x i) s h K Pn = WV (indexAddrA es (x.ev s) (i.ev s)) fun v => K v h := WX_pair _ _ _
@[go_sem] theorem WOp_indexArr (es k : Nat) (x i : AOpd) : WOp E (.indexArr es k x i) s h K Pn = WV (indexArrA es k (x.ev s) (i.ev s)) fun v => K v h := WX_pair _ _ _
@[go_sem] theorem WOp_indexStr (x i : AOpd) : WOp E (.indexStr x i) s h K Pn = WV (indexStrA (x.ev s) (i.ev s)) fun v => K v h := WX_pair _ _ _
@[go_sem] theorem WOp_indexAgg (agg : Bool) (es k : Nat) (x i : AOpd) : WOp E (.indexAgg agg es k x i) s h K Pn = WV (indexAggA agg es k (x.ev s) (i.ev s)) fun v => K v h := WX_pair _ _ _
@[go_sem] theorem WOp_extract (x : AOpd) (i : Nat) : WOp E (.extract x i) s h K Pn = WV (extractA i (x.ev s)) fun v => K v h := WX_pair _ _ _
@[go_sem] theorem WOp_len (x : AOpd) : WOp E (.len x) s h K Pn = WV ((lenSA (x.ev s)).map fun (n : Nat) => .int .i64 (n : Int)) fun v => K v h := by
  simp only [WOp, WOpG, exec]; cases lenSA (x.ev s) <;> rfl
@[go_sem] theorem WOp_lenT (x : AOpd) : WOp E (.lenT x) s h K Pn = WV ((lenTA (x.ev s)).map fun (n : Nat) => .int .i64 (n : Int)) fun v => K v h := by
  simp only [WOp, WOpG, exec]; cases lenTA (x.ev s) <;> rfl
@[go_sem] theorem WOp_lenC (n : Nat) : WOp E (.lenC n) s h K Pn = K (.int .i64 n) h := id rfl
@[go_sem] theorem WOp_append (es : Nat) (x y : AOpd) : WOp E (.append es x y) s h K Pn = WX (appendA h es (x.ev s) (y.ev s)) K := id rfl
@[go_sem] theorem WOp_copy (es : Nat) (x y : AOpd) : WOp E (.copy es x y) s h K Pn = WX (copyA h es (x.ev s) (y.ev s)) K := id rfl
@[go_sem] theorem WOp_min (x y : AOpd) : WOp E (.min x y) s h K Pn = WV (minA (x.ev s) (y.ev s)) fun v => K v h := WX_pair _ _ _
@[go_sem] theorem WOp_max (x y : AOpd) : WOp E (.max x y) s h K Pn = WV (maxA (x.ev s) (y.ev s)) fun v => K v h := WX_pair _ _ _
@[go_sem] theorem WOp_makeFunc (f : Nat) (cs : List AOpd) : WOp E (.makeFunc f cs) s h K Pn = K (.func f (cs.map (·.ev s))) h := id rfl
@[go_sem] theorem WOp_makeSlice (es bytes : Nat) (z : List AV) (l c : AOpd) : WOp E (.makeSlice es bytes z l c) s h K Pn = WX (makeSliceA h es bytes z (l.ev s) (c.ev s)) K := id rfl
@[go_sem] theorem WOp_makeIface (t : Nat) (x : AOpd) : WOp E (.makeIface t x) s h K Pn = K (.iface t (x.ev s)) h := id rfl
@[go_sem] theorem WOp_makeMeth (f : Nat) (x : AOpd) : WOp E (.makeMeth f x) s h K Pn = K (.meth f (x.ev s)) h := id rfl
@[go_sem] theorem WOp_makeMap : WOp E .makeMap s h K Pn = K (.map h.n) (h.push (.mem (.map [] 0))) := id rfl
@[go_sem] theorem WOp_mapPut (kk : KTy) (m k v : AOpd) : WOp E (.mapPut kk m k v) s h K Pn = WX ((mapPutA h kk (k.ev s) (v.ev s) (m.ev s)).map (undefA, ·)) K := id rfl
@[go_sem] theorem WOp_mapDel (kk : KTy) (m k : AOpd) : WOp E (.mapDel kk m k) s h K Pn = WX ((mapDelA h kk (k.ev s) (m.ev s)).map (.tup [], ·)) K := id rfl
@[go_sem] theorem WOp_mapGet (kk : KTy) (ok : Bool) (z : AV) (m k : AOpd) : WOp E (.mapGet kk ok z m k) s h K Pn = WV (mapGetA h kk ok z (k.ev s) (m.ev s)) fun v => K v h := WX_pair _ _ _
@[go_sem] theorem WOp_lenM (x : AOpd) : WOp E (.lenM x) s h K Pn = WV ((lenMA h (x.ev s)).map fun (n : Nat) => .int .i64 (n : Int)) fun v => K v h := by
  simp only [WOp, WOpG, exec]; cases lenMA h (x.ev s) <;> rfl
@[go_sem] theorem WOp_rangeT (x : AOpd) : WOp E (.rangeT x) s h K Pn = WX (rangeTA h (x.ev s)) K := id rfl
@[go_sem] theorem WOp_nextT (x : AOpd) : WOp E (.nextT x) s h K Pn = WX (nextTA h (x.ev s)) K := id rfl
@[go_sem] theorem WOp_rangeM (x : AOpd) : WOp E (.rangeM x) s h K Pn = WX (rangeMA h (x.ev s)) K := id rfl
@[go_sem] theorem WOp_nextM (x : AOpd) : WOp E (.nextM x) s h K Pn = nextP h K (x.ev s) := id rfl
@[go_sem] theorem WOp_entryM (x : AOpd) : WOp E (.entryM x) s h K Pn = WV (entryMA h (x.ev s)) fun v => K v h := WX_pair _ _ _
@[go_sem] theorem WOp_assert (t : Nat) (z : AV) (ok : Bool) (x : AOpd) : WOp E (.assert t z ok x) s h K Pn = WV (assertA t z ok (x.ev s)) fun v => K v h := WX_pair _ _ _
@[go_sem] theorem WOp_cvR2S (x : AOpd) : WOp E (.cvR2S x) s h K Pn = WV (cvR2SA (x.ev s)) fun v => K v h := WX_pair _ _ _
@[go_sem] theorem WOp_clear (es : Nat) (z : List AV) (x : AOpd) : WOp E (.clear es z x) s h K Pn = WX ((clearA h es z (x.ev s)).map (.tup [], ·)) K := id rfl
end
def WFun (E : Env) (f : AV) (args : List AV) (h : H) (R : AOut → H → Prop) : Prop := WFunG (CallE E) f args h R
@[go_sem] theorem WOp_call (E : Env) (s : S) (h : H) (K Pn : AV → H → Prop) (f : AOpd) (args : List AOpd) : WOp E (.call f args) s h K Pn = WFun E (f.ev s) (args.map (·.ev s)) h (onOut K Pn) := id rfl
@[go_sem] theorem WFun_func (E : Env) (g : Nat) (cs args : List AV) (h : H) (R : AOut → H → Prop) : WFun E (.func g cs) args h R = WCall E g (args ++ cs) h R := id rfl
@[go_sem] theorem WFun_yield (E : Env) (o : Nat) (args : List AV) (h : H) (R : AOut → H → Prop) : WFun E (.yield o) args h R = WYield E o args h R := id rfl
@[go_sem] theorem WFun_meth (E : Env) (g : Nat) (v : AV) (args : List AV) (h : H) (R : AOut → H → Prop) : WFun E (.meth g v) args h R = WCall E g (v :: args) h R := id rfl

/-! ### values -/
@[go_sem] theorem ev_tmp (s : S) (t : Nat) : AOpd.ev s (.tmp t) = s t := id rfl
@[go_sem] theorem ev_con (s : S) (v : AV) : AOpd.ev s (.con v) = v := id rfl
@[go_sem] theorem upd_at (s : S) (d : Nat) (v : AV) (t : Nat) : upd s (some d) v t = if t = d then v else s t := id rfl
@[go_sem] theorem upd_no (s : S) (v : AV) : upd s none v = s := id rfl
@[go_sem] theorem wanted_none (s : S) : wanted none s = true := id rfl
theorem wanted_some (s : S) (t : Nat) (b : Bool) : wanted (some (t, b)) s = match s t with | .bool c => c == b | _ => false := rfl
@[go_sem] theorem wanted_true (s : S) (t : Nat) : (wanted (some (t, true)) s = true) = (s t = .bool true) := by
  simp only [wanted]; cases s t <;> simp
@[go_sem] theorem wanted_false (s : S) (t : Nat) : (wanted (some (t, false)) s = true) = (s t = .bool false) := by
  simp only [wanted]; cases s t <;> simp
@[go_sem] theorem enterS_zero (a : AV) (l : List AV) : enterS (a :: l) 0 = a := id rfl
@[go_sem] theorem enterS_succ (a : AV) (l : List AV) (n : Nat) : enterS (a :: l) (n + 1) = enterS l n := id rfl
@[go_sem] theorem pick_bool (b : Bool) (x y : AV) : pickA (.bool b) x y = some (if b then x else y) := id rfl
@[go_sem] theorem bin_add (k : IntKind) (a b : Int) : binA .add (.int k a) (.int k b) = some (.int k (k.wrap (a + b))) := by simp [binA, isShift, intBin]
@[go_sem] theorem bin_sub (k : IntKind) (a b : Int) : binA .sub (.int k a) (.int k b) = some (.int k (k.wrap (a - b))) := by simp [binA, isShift, intBin]
@[go_sem] theorem bin_mul (k : IntKind) (a b : Int) : binA .mul (.int k a) (.int k b) = some (.int k (k.wrap (a * b))) := by simp [binA, isShift, intBin]
@[go_sem] theorem bin_quo (k : IntKind) (a b : Int) : binA .quo (.int k a) (.int k b) = if b = 0 then none else some (.int k (k.wrap (a.tdiv b))) := by simp [binA, isShift, intBin]
@[go_sem] theorem bin_rem (k : IntKind) (a b : Int) : binA .rem (.int k a) (.int k b) = if b = 0 then none else some (.int k (a.tmod b)) := by simp [binA, isShift, intBin]
@[go_sem] theorem bin_eql (k : IntKind) (a b : Int) : binA .eql (.int k a) (.int k b) = some (.bool (decide (a = b))) := by simp [binA, isShift, intBin]; rfl
@[go_sem] theorem bin_neq (k : IntKind) (a b : Int) : binA .neq (.int k a) (.int k b) = some (.bool (!decide (a = b))) := by simp [binA, isShift, intBin]; rfl
@[go_sem] theorem bin_lss (k : IntKind) (a b : Int) : binA .lss (.int k a) (.int k b) = some (.bool (decide (a < b))) := by simp [binA, isShift, intBin]
@[go_sem] theorem bin_leq (k : IntKind) (a b : Int) : binA .leq (.int k a) (.int k b) = some (.bool (decide (a ≤ b))) := by simp [binA, isShift, intBin]
@[go_sem] theorem bin_gtr (k : IntKind) (a b : Int) : binA .gtr (.int k a) (.int k b) = some (.bool (decide (b < a))) := by simp [binA, isShift, intBin]
@[go_sem] theorem bin_geq (k : IntKind) (a b : Int) : binA .geq (.int k a) (.int k b) = some (.bool (decide (b ≤ a))) := by simp [binA, isShift, intBin]
@[go_sem] theorem bin_or (k : IntKind) (a b : Int) : binA .or (.int k a) (.int k b) = some (.int k (k.wrap (BitVec.ofInt k.bits a ||| BitVec.ofInt k.bits b).toNat)) := by simp [binA, isShift, intBin]
@[go_sem] theorem bin_and (k : IntKind) (a b : Int) : binA .and (.int k a) (.int k b) = some (.int k (k.wrap (BitVec.ofInt k.bits a &&& BitVec.ofInt k.bits b).toNat)) := by simp [binA, isShift, intBin]
@[go_sem] theorem bin_xor (k : IntKind) (a b : Int) : binA .xor (.int k a) (.int k b) = some (.int k (k.wrap (BitVec.ofInt k.bits a ^^^ BitVec.ofInt k.bits b).toNat)) := by simp [binA, isShift, intBin]
@[go_sem] theorem bin_shl (k k' : IntKind) (a b : Int) : binA .shl (.int k a) (.int k' b) = if b < 0 then none else some (.int k (k.wrap (a * 2 ^ (Nat.min b.toNat k.bits)))) := by simp [binA, isShift, shiftBin]
@[go_sem] theorem bin_shr (k k' : IntKind) (a b : Int) : binA .shr (.int k a) (.int k' b) = if b < 0 then none else some (.int k (a.fdiv (2 ^ (Nat.min b.toNat k.bits)))) := by simp [binA, isShift, shiftBin]
@[go_sem] theorem bin_sadd (a b : List UInt8) : binA .add (.str a) (.str b) = if a.length + b.length ≤ big then some (.str (a ++ b)) else none := id rfl
@[go_sem] theorem bin_seql (a b : List UInt8) : binA .eql (.str a) (.str b) = some (.bool (decide (a = b))) := by simp [binA, strBin]; exact beq_eq_decide a b
@[go_sem] theorem bin_sneq (a b : List UInt8) : binA .neq (.str a) (.str b) = some (.bool (!decide (a = b))) := by simp [binA, strBin]; exact beq_eq_decide a b
@[go_sem] theorem bin_slss (a b : List UInt8) : binA .lss (.str a) (.str b) = some (.bool (Op.bytesLess a b)) := id rfl
@[go_sem] theorem not_bool (b : Bool) : notA (.bool b) = some (.bool (!b)) := id rfl
@[go_sem] theorem neg_int (k : IntKind) (n : Int) : negA (.int k n) = some (.int k (k.wrap (0 - n))) := id rfl
@[go_sem] theorem cv_int (k j : IntKind) (n : Int) : cvIntA k (.int j n) = some (.int k (k.wrap n)) := id rfl
@[go_sem] theorem cv_same (t : List UInt8) : cvSameA (.str t) = some (.str t) := id rfl
@[go_sem] theorem cv_s2b (h : H) (t : List UInt8) : cvS2BA h (.str t) = some (.slice h.n 0 t.length 1, h.new (byteCells t)) := id rfl
@[go_sem] theorem len_str (t : List UInt8) : lenTA (.str t) = some t.length := id rfl
@[go_sem] theorem ex_tup (i : Nat) (vs : List AV) : extractA i (.tup vs) = vs[i]? := id rfl
@[go_sem] theorem min_int (k : IntKind) (a b : Int) : minA (.int k a) (.int k b) = some (.int k (if b < a then b else a)) := id rfl
@[go_sem] theorem max_int (k : IntKind) (a b : Int) : maxA (.int k a) (.int k b) = some (.int k (if b > a then b else a)) := id rfl
@[go_sem] theorem field_ptr (off o i : Nat) : fieldAddrA off (.ptr o i) = some (.ptr o (i + off)) := id rfl
@[go_sem] theorem nilCheck_ptr (o i : Nat) : nilCheckA (.ptr o i) = some (.ptr o i) := id rfl

@[go_sem] theorem parts_nil (s : S) : parts s [] = [] := id rfl
@[go_sem] theorem parts_cons (s : S) (p : Nat × Nat × AOpd) (l : List (Nat × Nat × AOpd)) : parts s (p :: l) = (p.1, p.2.1, p.2.2.ev s) :: parts s l := id rfl
@[go_sem] theorem afill_int (z : AV) (k : IntKind) (n : Int) : afill (zeros [z] (1 * 1)) [(0, 1, .int k n)] = some [.int k n] := id rfl
@[go_sem] theorem afill_str (z : AV) (t : List UInt8) : afill (zeros [z] (1 * 1)) [(0, 1, .str t)] = some [.str t] := id rfl

/-! ### numbers that fit -/
theorem wrap_i64 {n : Int} (h1 : -9223372036854775808 ≤ n) (h2 : n < 9223372036854775808) : IntKind.i64.wrap n = n := by
  unfold IntKind.wrap IntKind.bits IntKind.signed
  simp
  omega
theorem wrap_u64 {n : Int} (h1 : 0 ≤ n) (h2 : n < 18446744073709551616) : IntKind.u64.wrap n = n := by
  unfold IntKind.wrap IntKind.bits IntKind.signed
  simp only
  simp
  omega
theorem wrap_u8 {n : Int} (h1 : 0 ≤ n) (h2 : n < 256) : IntKind.u8.wrap n = n := by
  unfold IntKind.wrap IntKind.bits IntKind.signed
  simp
  omega
end Go.Proofs.YtlbaphapjclkdaaGreatDoor.Ev

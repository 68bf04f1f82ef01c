/- Two memories side by side: one whose numbers are tagged and whose objects are numbered otherwise. -/
import Derived.Test.YtlbaphapjclkdaaGreatDoorEv20
namespace Go.Proofs.YtlbaphapjclkdaaGreatDoor.Ev
set_option linter.unusedVariables false
set_option linter.unusedSimpArgs false
/-- ρ: an object's number there; δ: how many cells stand ahead of its own there; σ: a number there -/
structure Tau where
  ρ : Nat → Nat
  δ : Nat → Nat
  σ : IntKind → Int → Int
mutual
def AV.tau (t : Tau) : AV → AV
  | .int k n => .int k (t.σ k n)
  | .ptr o i => .ptr (t.ρ o) (t.δ o + i)
  | .slice o i len es => .slice (t.ρ o) (t.δ o + i) len es
  | .map o => .map (t.ρ o)
  | .func f cs => .func f (AV.taus t cs)
  | .yield l => .yield (t.ρ l)
  | .meth f v => .meth f (AV.tau t v)
  | .iface ty v => .iface ty (AV.tau t v)
  | .agg cs => .agg (AV.taus t cs)
  | .tup vs => .tup (AV.taus t vs)
  | .bool b => .bool b
  | .str s => .str s
  | .nilp => .nilp
  | .nils => .nils
  | .nilm => .nilm
  | .nilf => .nilf
  | .gptr g => .gptr g
  | .nili => .nili
def AV.taus (t : Tau) : List AV → List AV
  | [] => []
  | v :: l => AV.tau t v :: AV.taus t l
end
@[simp] theorem taus_map (t : Tau) : ∀ l : List AV, AV.taus t l = l.map (AV.tau t)
  | [] => by simp [AV.taus]
  | v :: l => by simp [AV.taus, taus_map t l]
def fixI (n : Int) : Bool := Nat.ble n.natAbs 1099511627775
theorem fixI_nat {n : Nat} (h : n < 1000000000) : fixI (n : Int) = true := by unfold fixI; rw [Int.natAbs_natCast]; rw [Nat.ble_eq]; omega
mutual
/-- a value without objects, and without numbers that are tagged -/
def fixV : AV → Bool
  | .int _ n => fixI n
  | .ptr _ _ => false
  | .slice _ _ _ _ => false
  | .map _ => false
  | .func _ cs => fixVs cs
  | .yield _ => false
  | .meth _ v => fixV v
  | .iface _ v => fixV v
  | .agg cs => fixVs cs
  | .tup vs => fixVs vs
  | .bool _ | .str _ | .nilp | .nils | .nilm | .nilf | .gptr _ | .nili => true
def fixVs : List AV → Bool
  | [] => true
  | v :: l => fixV v && fixVs l
end
structure TauOK (t : Tau) : Prop where
  fix : ∀ k n, fixI n = true → t.σ k n = n
  mono : ∀ a b, a < b → t.ρ a < t.ρ b
  z : t.ρ 0 = 0
section
variable {t : Tau}
theorem TauOK.inj (tk : TauOK t) {a b : Nat} (h : t.ρ a = t.ρ b) : a = b := by
  rcases Nat.lt_trichotomy a b with q | q | q
  · have := tk.mono _ _ q; omega
  · exact q
  · have := tk.mono _ _ q; omega
theorem TauOK.iff (tk : TauOK t) {a b : Nat} : t.ρ a = t.ρ b ↔ a = b := ⟨tk.inj, fun h => by rw [h]⟩
theorem TauOK.le (tk : TauOK t) {a b : Nat} (h : a ≤ b) : t.ρ a ≤ t.ρ b := by
  rcases Nat.lt_or_eq_of_le h with q | q
  · exact Nat.le_of_lt (tk.mono _ _ q)
  · rw [q]; exact Nat.le_refl _
mutual
theorem TauOK.fixV (tk : TauOK t) : ∀ {v : AV}, fixV v = true → v.tau t = v
  | .int k n, h => by rw [Go.Proofs.YtlbaphapjclkdaaGreatDoor.Ev.fixV] at h; rw [AV.tau, tk.fix _ _ h]
  | .ptr _ _, h => by rw [Go.Proofs.YtlbaphapjclkdaaGreatDoor.Ev.fixV] at h; cases h
  | .slice _ _ _ _, h => by rw [Go.Proofs.YtlbaphapjclkdaaGreatDoor.Ev.fixV] at h; cases h
  | .map _, h => by rw [Go.Proofs.YtlbaphapjclkdaaGreatDoor.Ev.fixV] at h; cases h
  | .yield _, h => by rw [Go.Proofs.YtlbaphapjclkdaaGreatDoor.Ev.fixV] at h; cases h
  | .func f cs, h => by rw [Go.Proofs.YtlbaphapjclkdaaGreatDoor.Ev.fixV] at h; rw [AV.tau, tk.fixVs h]
  | .meth f v, h => by rw [Go.Proofs.YtlbaphapjclkdaaGreatDoor.Ev.fixV] at h; rw [AV.tau, tk.fixV h]
  | .iface f v, h => by rw [Go.Proofs.YtlbaphapjclkdaaGreatDoor.Ev.fixV] at h; rw [AV.tau, tk.fixV h]
  | .agg cs, h => by rw [Go.Proofs.YtlbaphapjclkdaaGreatDoor.Ev.fixV] at h; rw [AV.tau, tk.fixVs h]
  | .tup cs, h => by rw [Go.Proofs.YtlbaphapjclkdaaGreatDoor.Ev.fixV] at h; rw [AV.tau, tk.fixVs h]
  | .bool _, _ | .str _, _ | .nilp, _ | .nils, _ | .nilm, _ | .nilf, _ | .gptr _, _ | .nili, _ => by rw [AV.tau]
theorem TauOK.fixVs (tk : TauOK t) : ∀ {l : List AV}, fixVs l = true → AV.taus t l = l
  | [], _ => by rw [AV.taus]
  | v :: l, h => by
    rw [Go.Proofs.YtlbaphapjclkdaaGreatDoor.Ev.fixVs, Bool.and_eq_true] at h
    rw [AV.taus, tk.fixV h.1, tk.fixVs h.2]
end
theorem TauOK.fixs (tk : TauOK t) : ∀ {l : List AV}, l.all Go.Proofs.YtlbaphapjclkdaaGreatDoor.Ev.fixV = true → l.map (AV.tau t) = l
  | [], _ => rfl
  | v :: l, h => by
    rw [List.all_cons, Bool.and_eq_true] at h
    rw [List.map_cons, tk.fixV h.1, tk.fixs h.2]
theorem tau_cells (v : AV) : (v.tau t).cells = v.cells.map (AV.tau t) := by cases v <;> simp [AV.tau, AV.cells]
theorem tau_one (v : AV) : (v.tau t).one = v.one := by cases v <;> simp [AV.tau, AV.one]
theorem taus_one : ∀ l : List AV, (l.map (AV.tau t)).all AV.one = l.all AV.one
  | [] => rfl
  | v :: l => by rw [List.map_cons, List.all_cons, List.all_cons, tau_one, taus_one l]
theorem tau_undef : undefA.tau t = undefA := by simp [undefA, AV.tau]
/-- what is not known -/
def unkA : AV := .meth 0 (.tup [])
def known : AV → Bool
  | .meth _ (.tup []) => false
  | _ => true
def SR (t : Tau) (s0 s : S) : Prop := ∀ j, s0 j = unkA ∨ s j = (s0 j).tau t
def LR (t : Tau) (L0 L : LoopRec) : Prop := L.st = L0.st ∧ L.pend = L0.pend ∧ L.nt = L0.nt ∧ SR t L0.s L.s ∧ L.ps = L0.ps ∧ L.assign = L0.assign ∧ L.body = L0.body
def MObj.tau (t : Tau) : MObj → MObj
  | .map es c => .map (es.map fun e => (e.1.tau t, e.2.1.tau t, e.2.2)) c
  | .siter s p => .siter s p
  | .miter o a b c => .miter (o.map t.ρ) a b c
def ObjR (t : Tau) (o : Nat) : Option AObj → Option AObj → Prop
  | some (.cells cs g), y => ∃ P : List AV, P.length = t.δ o ∧ y = some (.cells (P ++ cs.map (AV.tau t)) (g.map t.ρ))
  | some (.loop L), y => ∃ L', y = some (.loop L') ∧ LR t L L'
  | some (.mem X), y => t.δ o = 0 ∧ y = some (.mem (X.tau t))
  | some (.glob g v), y => y = some (.glob g (v.tau t))
  | some .other, _ => True
  | none, _ => True
structure HS (t : Tau) (h0 h : H) : Prop where
  n : h.n = t.ρ h0.n
  fr : ∀ o, h0.n ≤ o → t.ρ (o + 1) = t.ρ o + 1 ∧ t.δ o = 0
  get : ∀ o, ObjR t o (h0.get o) (h.get (t.ρ o))
  tip : ∀ g, h.tip (t.ρ g) = t.ρ (h0.tip g)
  kill : ∀ g o, h0.kill g ≤ o → h.kill (t.ρ g) ≤ t.ρ o
variable {h0 h h1 : H}
theorem HS.cells (hs : HS t h0 h) {o : Nat} {cs : List AV} {g : Option Nat} (e : h0.get o = some (.cells cs g)) : ∃ P : List AV, P.length = t.δ o ∧ h.get (t.ρ o) = some (.cells (P ++ cs.map (AV.tau t)) (g.map t.ρ)) := by
  have := hs.get o; rw [e] at this; exact this
theorem HS.mem (hs : HS t h0 h) {o : Nat} {X : MObj} (e : h0.get o = some (.mem X)) : t.δ o = 0 ∧ h.get (t.ρ o) = some (.mem (X.tau t)) := by
  have := hs.get o; rw [e] at this; exact this
theorem HS.row (hs : HS t h0 h) {o : Nat} {cs : List AV} (e : h0.row o = some cs) : ∃ P : List AV, P.length = t.δ o ∧ h.row (t.ρ o) = some (P ++ cs.map (AV.tau t)) := by
  unfold H.row at e
  split at e
  · rename_i cs' hg
    cases e
    obtain ⟨P, hP, hr⟩ := hs.cells hg
    exact ⟨P, hP, by unfold H.row; rw [hr]; rfl⟩
  · rename_i cs' g hg
    split at e
    case isFalse => cases e
    rename_i hk
    cases e
    obtain ⟨P, hP, hr⟩ := hs.cells hg
    exact ⟨P, hP, by unfold H.row; rw [hr]; simp only [Option.map_some]; rw [if_pos (hs.kill _ _ hk)]⟩
  · cases e
theorem HS.push (tk : TauOK t) (hs : HS t h0 h) {x y : AObj} (hx : ObjR t h0.n (some x) (some y)) : HS t (h0.push x) (h.push y) where
  n := by rw [H.n_push, H.n_push, hs.n, (hs.fr _ (Nat.le_refl _)).1]
  fr o ho := hs.fr o (by rw [H.n_push] at ho; omega)
  get o := by
    rw [H.get_push, H.get_push]
    by_cases q : o = h0.n
    · rw [if_pos q, if_pos (by rw [q, hs.n])]; rw [q]; exact hx
    · rw [if_neg q, if_neg (by rw [hs.n, tk.iff]; exact q)]; exact hs.get o
  tip g := by rw [H.tip_push, H.tip_push]; exact hs.tip g
  kill g o hk := by rw [H.kill_push] at hk ⊢; exact hs.kill g o hk
theorem HS.new (tk : TauOK t) (hs : HS t h0 h) (cs : List AV) : HS t (h0.new cs) (h.new (cs.map (AV.tau t))) := by
  unfold H.new
  exact hs.push tk ⟨[], by rw [(hs.fr _ (Nat.le_refl _)).2]; rfl, by simp [hs.n]⟩
theorem HS.newP (tk : TauOK t) (hs : HS t h0 h) : (AV.ptr h0.n 0).tau t = .ptr h.n 0 := by rw [AV.tau, hs.n, (hs.fr _ (Nat.le_refl _)).2]
theorem HS.newS (hs : HS t h0 h) (len es : Nat) : (AV.slice h0.n 0 len es).tau t = .slice h.n 0 len es := by rw [AV.tau, hs.n, (hs.fr _ (Nat.le_refl _)).2]
/-- one object is another one -/
theorem HS.set (tk : TauOK t) (hs : HS t h0 h) {o : Nat} {x y : AObj} (hx : ObjR t o (some x) (some y)) : HS t { h0 with ob := h0.ob.set o x } { h with ob := h.ob.set (t.ρ o) y } where
  n := hs.n
  fr := hs.fr
  get p := by
    show ObjR t p ((h0.ob.set o x).get p) ((h.ob.set (t.ρ o) y).get (t.ρ p))
    rw [Tr.get_set, Tr.get_set]
    by_cases q : p = o
    · rw [if_pos q, if_pos (by rw [q]), q]; exact hx
    · rw [if_neg q, if_neg (by rw [tk.iff]; exact q)]; exact hs.get p
  tip := hs.tip
  kill := hs.kill
/-- a group is another one -/
theorem HS.setGr (tk : TauOK t) (hs : HS t h0 h) {g : Nat} {p q : Nat × Nat} (h1 : q.1 = t.ρ p.1) (h2 : ∀ o, p.2 ≤ o → q.2 ≤ t.ρ o) : HS t (h0.setGr g p) (h.setGr (t.ρ g) q) where
  n := hs.n
  fr := hs.fr
  get := hs.get
  tip g' := by
    show (match (h.gr.set (t.ρ g) q).get (t.ρ g') with | some p => p.1 | none => t.ρ g') = t.ρ (match (h0.gr.set g p).get g' with | some p => p.1 | none => g')
    rw [Tr.get_set, Tr.get_set]
    by_cases e : g' = g
    · rw [if_pos e, if_pos (by rw [e])]; exact h1
    · rw [if_neg e, if_neg (by rw [tk.iff]; exact e)]; exact hs.tip g'
  kill g' o hk := by
    show (match (h.gr.set (t.ρ g) q).get (t.ρ g') with | some p => p.2 | none => 0) ≤ t.ρ o
    have hk' : (match (h0.gr.set g p).get g' with | some p => p.2 | none => 0) ≤ o := hk
    rw [Tr.get_set] at hk' ⊢
    by_cases e : g' = g
    · rw [if_pos e] at hk'; rw [if_pos (by rw [e])]; exact h2 o hk'
    · rw [if_neg e] at hk'; rw [if_neg (by rw [tk.iff]; exact e)]; exact hs.kill g' o hk'
theorem splice_pre (P cs vs : List AV) (i : Nat) : splice (P ++ cs) (P.length + i) vs = P ++ splice cs i vs := by
  unfold splice
  rw [List.take_append, List.drop_append, List.take_of_length_le (by omega), List.drop_of_length_le (by omega : P.length ≤ P.length + i + vs.length)]
  simp only [Nat.add_sub_cancel_left, List.append_assoc, List.nil_append, show P.length + i + vs.length - P.length = i + vs.length by omega]
theorem splice_map (cs vs : List AV) (i : Nat) : splice (cs.map (AV.tau t)) i (vs.map (AV.tau t)) = (splice cs i vs).map (AV.tau t) := by
  unfold splice
  simp only [List.map_append, List.map_take, List.map_drop, List.length_map]
theorem HS.put (tk : TauOK t) (hs : HS t h0 h) {o i : Nat} {vs : List AV} (e : h0.put o i vs = some h1) : ∃ h2, h.put (t.ρ o) (t.δ o + i) (vs.map (AV.tau t)) = some h2 ∧ HS t h1 h2 := by
  unfold H.put at e
  split at e
  case h_2 => cases e
  rename_i cs g hg
  split at e
  case isFalse => cases e
  rename_i hc
  obtain ⟨P, hP, hr⟩ := hs.cells hg
  have hx : ObjR t o (some (.cells (splice cs i vs) (some g))) (some (.cells (splice (P ++ cs.map (AV.tau t)) (t.δ o + i) (vs.map (AV.tau t))) (some (t.ρ g)))) :=
    ⟨P, hP, by rw [← hP, splice_pre, splice_map]; rfl⟩
  have hset := hs.set tk hx
  unfold H.put
  rw [hr]
  simp only [Option.map_some]
  rw [if_pos ⟨by rw [hs.tip, hc.1], by simp only [List.length_append, List.length_map]; omega⟩]
  refine ⟨_, rfl, ?_⟩
  cases e
  by_cases q : g = o
  · rw [if_pos q, if_pos (by rw [q])]; exact hset
  · rw [if_neg q, if_neg (by rw [tk.iff]; exact q)]
    exact hset.setGr tk (g := g) (p := (o, o)) (q := (t.ρ o, t.ρ o)) rfl fun o' ho' => tk.le ho'
def rowOK (h : H) : AV → Bool
  | .slice o _ _ _ => (h.row o).isSome
  | _ => true
theorem HS.firstCells (tk : TauOK t) (hs : HS t h0 h) {es k : Nat} {x : AV} {cs : List AV} (hro : rowOK h0 x = true) (e : h0.firstCells es k x = some cs) : h.firstCells es k (x.tau t) = some (cs.map (AV.tau t)) := by
  unfold H.firstCells at e
  split at e
  · split at e
    · cases e; rename_i q; simp [AV.tau, H.firstCells, q]
    · cases e
  · rename_i o i len es'
    split at e
    case isFalse => cases e
    rename_i hc
    rw [AV.tau]
    unfold H.firstCells
    simp only
    rw [if_pos hc]
    split at e
    · rename_i cs' hr
      split at e
      case isFalse => cases e
      rename_i hl
      cases e
      obtain ⟨P, hP, hr'⟩ := hs.row hr
      rw [hr']
      simp only
      rw [if_pos (by simp only [List.length_append, List.length_map]; omega), ← hP, List.drop_append, List.drop_of_length_le (by omega), List.nil_append, Nat.add_sub_cancel_left, List.map_take, List.map_drop]
    · rename_i hr
      rw [rowOK, hr] at hro; cases hro
  · split at e
    case isFalse => cases e
    rename_i hc
    cases e
    rw [AV.tau]; unfold H.firstCells; simp only
    rw [if_pos hc]
    congr 1
    unfold byteCells
    rw [List.map_map]
    refine List.map_congr_left fun c _ => ?_
    simp only [Function.comp, AV.tau]
    rw [tk.fix _ _ (fixI_nat (by have := c.toNat_lt; omega))]
  · cases e
theorem HS.child (tk : TauOK t) (hs : HS t h0 h) {o g e : Nat} {cs new P : List AV} (hg : h0.get o = some (.cells cs (some g))) (hP : P.length = t.δ o) (he : e ≤ cs.length) :
    HS t (h0.child o g e cs new) (h.child (t.ρ o) (t.ρ g) (t.δ o + e) (P ++ cs.map (AV.tau t)) (new.map (AV.tau t))) := by
  have hnew : ObjR t h0.n (some (.cells new (some g))) (some (.cells (new.map (AV.tau t)) (some (t.ρ g)))) := ⟨[], by rw [(hs.fr _ (Nat.le_refl _)).2]; rfl, by simp⟩
  have hk : ∀ o', h0.kill g ≤ o' → h.kill (t.ρ g) ≤ t.ρ o' := hs.kill g
  unfold H.child
  by_cases q : e = cs.length
  · rw [if_pos q, if_pos (by simp only [List.length_append, List.length_map]; omega)]
    have := (hs.push tk hnew).setGr tk (g := g) (p := (h0.n, h0.kill g)) (q := (h.n, h.kill (t.ρ g))) hs.n hk
    exact this
  · rw [if_neg q, if_neg (by simp only [List.length_append, List.length_map]; omega)]
    have hcut : ObjR t o (some (.cells (cs.take e) (some g))) (some (.cells ((P ++ cs.map (AV.tau t)).take (t.δ o + e)) (some (t.ρ g)))) :=
      ⟨P, hP, by rw [← hP, List.take_append, List.take_of_length_le (by omega), Nat.add_sub_cancel_left, List.map_take]; rfl⟩
    have := ((hs.set tk hcut).push tk hnew).setGr tk (g := g) (p := (h0.n, o)) (q := (h.n, t.ρ o)) hs.n (fun o' ho' => tk.le ho')
    exact this
theorem HS.app (tk : TauOK t) (hs : HS t h0 h) {x v : AV} {es k : Nat} {new : List AV} (e : h0.app x es k new = some (v, h1)) : ∃ h2, h.app (x.tau t) es k (new.map (AV.tau t)) = some (v.tau t, h2) ∧ HS t h1 h2 := by
  unfold H.app at e ⊢
  by_cases hk : k = 0
  · rw [if_pos hk] at e ⊢
    split at e
    · cases e; exact ⟨h, by simp only [AV.tau], hs⟩
    · split at e
      · rename_i q; cases e; exact ⟨h, by simp only [AV.tau, q, if_true], hs⟩
      · cases e
    · cases e
  · rw [if_neg hk] at e ⊢
    split at e
    · split at e
      · rename_i q
        cases e
        exact ⟨_, by simp only [AV.tau, q, if_true]; rw [hs.n, (hs.fr _ (Nat.le_refl _)).2], hs.new tk new⟩
      · cases e
    · rename_i o i len es'
      split at e
      case h_2 => cases e
      rename_i cs g hg
      split at e
      case isFalse => cases e
      rename_i hc
      cases e
      obtain ⟨P, hP, hr⟩ := hs.cells hg
      obtain ⟨c1, c2, c3, c4, c5, c6⟩ := hc
      simp only [AV.tau, hr, Option.map_some]
      rw [if_pos ⟨by rw [hs.tip, c1], c2, by simp only [List.length_append, List.length_map]; omega, c4, hs.kill _ _ c5, by rw [taus_one]; exact c6⟩]
      refine ⟨_, by rw [hs.n, (hs.fr _ (Nat.le_refl _)).2], ?_⟩
      have := hs.child tk (new := (cs.drop i).take (len * es) ++ new) (e := i + len * es) hg hP c3
      have e1 : (P ++ cs.map (AV.tau t)).drop (t.δ o + i) = (cs.map (AV.tau t)).drop i := by rw [← hP, List.drop_append, List.drop_of_length_le (l := P) (by omega), List.nil_append, Nat.add_sub_cancel_left]
      rw [e1, Nat.add_assoc]
      simpa only [List.map_append, List.map_take, List.map_drop] using this
    · cases e
end
end Go.Proofs.YtlbaphapjclkdaaGreatDoor.Ev

/- One operation, run on two memories side by side. -/
namespace Go.Proofs.YtlbaphapjclkdaaGreatDoor.Ev
set_option linter.unusedVariables false
set_option linter.unusedSimpArgs false
/-- what is asked of numbers that are tagged: of two that are reckoned with, and of one that is made another kind -/
structure Tags where
  bin : BinOp → IntKind → IntKind → Int → Int → AV → Bool
  cv : IntKind → IntKind → Int → AV → Bool
  mx : Bool → IntKind → IntKind → Int → Int → AV → Bool
def opdOK (s : S) : AOpd → Bool
  | .tmp j => known (s j)
  | .con v => fixV v
def fixO (s : S) : Option AOpd → Bool
  | none => true
  | some x => fixV (x.ev s)
def keysFix (h : H) : AV → Bool
  | .map o => match h.get o with | some (.mem (.map es _)) => es.all fun e => fixV e.1 | _ => true
  | _ => true
def binOK (G : Tags) (op : BinOp) (v : AV) : AV → AV → Bool
  | .int k a, .int k' b => (fixI a && fixI b && fixV v) || G.bin op k k' a b v
  | _, _ => true
def cvOK (G : Tags) (k : IntKind) (v : AV) : AV → Bool
  | .int k' a => (fixI a && fixV v) || G.cv k k' a v
  | _ => true
def mxOK (G : Tags) (m : Bool) (v : AV) : AV → AV → Bool
  | .int k a, .int k' b => (fixI a && fixI b && fixV v) || G.mx m k k' a b v
  | _, _ => true
def opSafe (G : Tags) (s : S) (h : H) (v : AV) : AOp → Bool
  | .bin op x y => binOK G op v (x.ev s) (y.ev s)
  | .eq k _ x y => match k with | .flat _ | .flatK _ => fixV (x.ev s) && fixV (y.ev s) | _ => true
  | .cvInt k x => cvOK G k v (x.ev s)
  | .min x y => mxOK G false v (x.ev s) (y.ev s)
  | .max x y => mxOK G true v (x.ev s) (y.ev s)
  | .sliceS _ _ lo hi | .sliceT _ lo hi | .sliceA _ _ _ lo hi => fixO s lo && fixO s hi
  | .slice3 _ _ lo hi mx => fixO s lo && fixV (hi.ev s) && fixV (mx.ev s)
  | .indexAddr _ _ i | .indexArr _ _ _ i | .indexAgg _ _ _ _ i => fixV (i.ev s)
  | .indexStr _ i => fixV (i.ev s) && fixV v
  | .makeSlice _ _ z l c => z.all fixV && fixV (l.ev s) && fixV (c.ev s)
  | .alloc z | .build z _ | .buildSlice _ _ z _ => z.all fixV
  | .cvB2S x => rowOK h (x.ev s) && (match x.ev s with | .slice o i len es => (match h.firstCells 1 len (.slice o i len 1) with | some cs => cs.all fixV | none => false) | _ => true)
  | .mapGet _ _ z m k => fixV z && fixV (k.ev s) && keysFix h (m.ev s)
  | .mapPut _ m k _ | .mapDel _ m k => fixV (k.ev s) && keysFix h (m.ev s)
  | .assert _ z _ _ => fixV z
  | .clear _ z _ => z.all fixV
  | .append _ _ y => rowOK h (y.ev s)
  | .copy _ _ y => rowOK h (y.ev s) && fixV v
  | .lenC _ | .len _ | .lenT _ | .lenM _ | .nextT _ => fixV v
  | .cvB2B _ | .neg _ | .cvR2S _ | .entryM _ => false
  | _ => true
structure TagsOK (G : Tags) (t : Tau) : Prop where
  bin : ∀ {op k k' a b v}, G.bin op k k' a b v = true → binA op (.int k a) (.int k' b) = some v → binA op (.int k (t.σ k a)) (.int k' (t.σ k' b)) = some (v.tau t)
  mx : ∀ {m k k' a b v}, G.mx m k k' a b v = true → (if m then maxA else minA) (.int k a) (.int k' b) = some v → (if m then maxA else minA) (.int k (t.σ k a)) (.int k' (t.σ k' b)) = some (v.tau t)
  cv : ∀ {k k' a v}, G.cv k k' a v = true → cvIntA k (.int k' a) = some v → cvIntA k (.int k' (t.σ k' a)) = some (v.tau t)
section
variable {t : Tau} {G : Tags} {h0 h h1 : H} {s0 s : S}
theorem opd_tau (tk : TauOK t) (sr : SR t s0 s) {x : AOpd} (ho : opdOK s0 x = true) : x.ev s = (x.ev s0).tau t := by
  cases x with
  | con v => exact (tk.fixV ho).symm
  | tmp j =>
    rcases sr j with q | q
    · simp [opdOK, q, unkA, known] at ho
    · exact q
theorem fixO_tau (tk : TauOK t) (sr : SR t s0 s) {x : Option AOpd} (ho : (x.toList).all (opdOK s0) = true) (hf : fixO s0 x = true) : x.map (·.ev s) = x.map (·.ev s0) := by
  cases x with
  | none => rfl
  | some x =>
    simp only [Option.toList, List.all_cons, List.all_nil, Bool.and_true] at ho
    simp only [Option.map_some]
    rw [opd_tau tk sr ho, tk.fixV hf]
theorem same_tau (hs : HS t h0 h) {x y : Option AV} {v : AV} (e : x.map (·, h0) = some (v, h1)) (k : ∀ u, x = some u → y = some (u.tau t)) : ∃ h2, y.map (·, h) = some (v.tau t, h2) ∧ HS t h1 h2 := by
  obtain ⟨u, e1, e2⟩ := Option.map_eq_some_iff.1 e
  cases e2
  exact ⟨h, by rw [k _ e1]; rfl, hs⟩
theorem afill_tau : ∀ {ps : List (Nat × Nat × AV)} {cs r : List AV}, afill cs ps = some r → afill (cs.map (AV.tau t)) (ps.map fun p => (p.1, p.2.1, p.2.2.tau t)) = some (r.map (AV.tau t))
  | [], cs, r, e => by cases e; rfl
  | (off, size, v) :: ps, cs, r, e => by
    simp only [afill] at e
    split at e
    case isFalse => cases e
    rename_i hc
    simp only [List.map_cons, afill, tau_cells, List.length_map]
    rw [if_pos hc, splice_map]
    exact afill_tau e
theorem parts_tau (tk : TauOK t) (sr : SR t s0 s) : ∀ {ps : List (Nat × Nat × AOpd)}, (ps.map (·.2.2)).all (opdOK s0) = true → parts s ps = (parts s0 ps).map fun p => (p.1, p.2.1, p.2.2.tau t)
  | [], _ => rfl
  | p :: ps, ho => by
    simp only [List.map_cons, List.all_cons, Bool.and_eq_true] at ho
    have := parts_tau tk sr (ps := ps) ho.2
    unfold parts at this ⊢
    simp only [List.map_cons]
    rw [this, opd_tau tk sr ho.1]
theorem zeros_tau (tk : TauOK t) {z : List AV} (hz : z.all fixV = true) (n : Nat) : (zeros z n).map (AV.tau t) = zeros z n := by
  refine tk.fixs ?_
  unfold zeros
  rw [List.all_map, List.all_eq_true]
  intro j _
  simp only [Function.comp]
  rw [List.getD_eq_getElem?_getD]
  cases q : z[j % z.length]? with
  | none => rfl
  | some a => exact List.all_eq_true.1 hz a (List.mem_of_getElem? q)
theorem opds_tau (tk : TauOK t) (sr : SR t s0 s) : ∀ {l : List AOpd}, l.all (opdOK s0) = true → l.map (·.ev s) = (l.map (·.ev s0)).map (AV.tau t)
  | [], _ => rfl
  | x :: l, ho => by
    simp only [List.all_cons, Bool.and_eq_true] at ho
    simp only [List.map_cons]
    rw [opds_tau tk sr ho.2, opd_tau tk sr ho.1]
theorem loadA_tau (tk : TauOK t) (hs : HS t h0 h) {agg : Bool} {n : Nat} {x u : AV} (e : loadA h0 agg n x = some u) : loadA h agg n (x.tau t) = some (u.tau t) := by
  unfold loadA at e
  split at e
  · rename_i o i
    split at e
    case h_2 => cases e
    rename_i cs hr
    obtain ⟨P, hP, hr'⟩ := hs.row hr
    rw [AV.tau]; unfold loadA; simp only
    rw [hr']; simp only
    split at e
    · rename_i ha
      split at e
      case isFalse => cases e
      cases e
      rename_i hl
      rw [if_pos ha, if_pos (by simp only [List.length_append, List.length_map]; omega), ← hP, List.drop_append, List.drop_of_length_le (by omega), List.nil_append, Nat.add_sub_cancel_left, AV.tau, taus_map, List.map_take, List.map_drop]
    · rename_i ha
      rw [if_neg ha, ← hP, List.getElem?_append_right (by omega), Nat.add_sub_cancel_left, List.getElem?_map, e]; rfl
  · rename_i g
    split at e
    case h_2 => cases e
    rename_i g' v hg
    split at e
    case isFalse => cases e
    rename_i hc
    cases e
    have := hs.get 0
    rw [hg, tk.z] at this
    rw [AV.tau]; unfold loadA; simp only
    rw [show h.get 0 = _ from this]; simp only
    rw [if_pos hc]
  · cases e
theorem keyEq_ok {kk : KTy} {k : AV} (tk : TauOK t) : ∀ {es : List (AV × AV × Nat)}, (es.all fun e => fixV e.1) = true → idxM kk k (es.map fun e => (e.1.tau t, e.2.1.tau t, e.2.2)) = idxM kk k es
  | [], _ => rfl
  | e :: es, hf => by
    rw [List.all_cons, Bool.and_eq_true] at hf
    simp only [List.map_cons, idxM, tk.fixV hf.1]
    rw [keyEq_ok tk hf.2]
theorem eqA_tau {k : AEq} {x y : AV} {b : Bool} (tk : TauOK t) (hf : (match k with | .flat _ | .flatK _ => fixV x && fixV y | _ => true) = true) (e : eqA k x y = some b) : eqA k (x.tau t) (y.tau t) = some b := by
  unfold eqA at e
  split at e
  all_goals first | (cases e; done) | (simp only [AV.tau, eqA]; exact e) | (simp only [Bool.and_eq_true] at hf; rw [tk.fixV hf.1, tk.fixV hf.2]; exact e)
theorem sliceSA_tau {es : Nat} {lo hi : Option AV} {x u : AV} (e : sliceSA es lo hi x = some u) : sliceSA es lo hi (x.tau t) = some (u.tau t) := by
  unfold sliceSA at e
  split at e
  · obtain ⟨p, e1, e2⟩ := Option.map_eq_some_iff.1 e
    cases e2
    simp only [AV.tau, sliceSA]; rw [e1]; rfl
  · split at e
    case isFalse => cases e
    rename_i hc
    obtain ⟨p, e1, e2⟩ := Option.map_eq_some_iff.1 e
    cases e2
    simp only [AV.tau, sliceSA]; rw [if_pos hc, e1]; simp only [Option.map_some, Nat.add_assoc]
  · cases e
theorem lenSA_tau (x : AV) : lenSA (x.tau t) = lenSA x := by cases x <;> simp [AV.tau, lenSA]
theorem lenA_tau (x : AV) : lenA (x.tau t) = lenA x := by cases x <;> simp [AV.tau, lenA]
theorem partA_tau {agg : Bool} {off n : Nat} {cs : List AV} {u : AV} (e : partA agg off n cs = some u) : partA agg off n (cs.map (AV.tau t)) = some (u.tau t) := by
  unfold partA at e ⊢
  split at e
  · split at e
    case isFalse => cases e
    rename_i ha hl
    cases e
    rw [if_pos ha, if_pos (by rw [List.length_map]; exact hl), AV.tau, taus_map, List.map_take, List.map_drop]
  · rename_i ha; rw [if_neg ha, List.getElem?_map, e]; rfl
theorem storeA_tau (tk : TauOK t) (hs : HS t h0 h) {n : Nat} {x v : AV} (e : storeA h0 n x v = some h1) : ∃ h2, storeA h n (x.tau t) (v.tau t) = some h2 ∧ HS t h1 h2 := by
  unfold storeA at e
  split at e
  case h_2 => cases e
  split at e
  case isFalse => cases e
  rename_i hc
  obtain ⟨h2, e2, hs2⟩ := hs.put tk e
  refine ⟨h2, ?_, hs2⟩
  simp only [AV.tau, storeA]
  rw [if_pos (by rw [tau_cells, List.length_map, taus_one]; exact hc), tau_cells]
  exact e2
theorem bytesOf_tau (tk : TauOK t) {cs : List AV} (hf : cs.all fixV = true) : bytesOf (cs.map (AV.tau t)) = bytesOf cs := by rw [tk.fixs hf]
theorem mapGet_tau (tk : TauOK t) (hs : HS t h0 h) {kk : KTy} {ok : Bool} {z k m u : AV} (hz : fixV z = true) (hk : keysFix h0 m = true) (e : mapGetA h0 kk ok z k m = some u) : mapGetA h kk ok z k (m.tau t) = some (u.tau t) := by
  unfold mapGetA at e
  split at e
  · split at e
    case isFalse => cases e
    rename_i hc
    cases e
    simp only [AV.tau, mapGetA]; rw [if_pos hc]
    congr 1
    split
    · simp only [AV.tau, AV.taus, tk.fixV hz]
    · rw [tk.fixV hz]
  · rename_i o
    split at e
    case h_2 => cases e
    rename_i es c hg
    obtain ⟨_, hg'⟩ := hs.mem hg
    have hk' : (es.all fun e => fixV e.1) = true := by unfold keysFix at hk; simp only [hg] at hk; exact hk
    simp only [AV.tau, mapGetA, hg', MObj.tau, keyEq_ok tk hk']
    split at e
    case isFalse => cases e
    rename_i hc
    rw [if_pos hc]
    split at e
    · cases e
      congr 1
      split
      · simp only [AV.tau, AV.taus, tk.fixV hz]
      · rw [tk.fixV hz]
    · rename_i i hi
      simp only [List.getElem?_map]
      split at e
      · rename_i e' he'
        cases e
        simp only [he', Option.map_some]
        split <;> simp [AV.tau]
      · cases e
    · cases e
  · cases e
theorem HS.setMem (tk : TauOK t) (hs : HS t h0 h) {o : Nat} {X : MObj} (hd : t.δ o = 0) : HS t (h0.setMem o X) (h.setMem (t.ρ o) (X.tau t)) := hs.set tk ⟨hd, rfl⟩
theorem mapPut_tau (tk : TauOK t) (hs : HS t h0 h) {kk : KTy} {k v m : AV} (hkf : fixV k = true) (hk : keysFix h0 m = true) (e : mapPutA h0 kk k v m = some h1) : ∃ h2, mapPutA h kk k (v.tau t) (m.tau t) = some h2 ∧ HS t h1 h2 := by
  unfold mapPutA at e
  split at e
  case h_2 => cases e
  rename_i o
  split at e
  case h_2 => cases e
  rename_i es c hg
  obtain ⟨hd, hg'⟩ := hs.mem hg
  have hk' : (es.all fun e => fixV e.1) = true := by unfold keysFix at hk; simp only [hg] at hk; exact hk
  simp only [AV.tau, mapPutA, hg', MObj.tau, keyEq_ok tk hk']
  split at e
  case isFalse => cases e
  rename_i hc
  rw [if_pos hc]
  split at e
  · cases e
    refine ⟨_, rfl, ?_⟩
    have := hs.setMem tk (o := o) (X := .map (es ++ [(k, v, c)]) (c + 1)) hd
    simpa only [MObj.tau, List.map_append, List.map_cons, List.map_nil, tk.fixV hkf] using this
  · rename_i i hi
    simp only [List.getElem?_map]
    split at e
    · rename_i e' he'
      cases e
      simp only [he', Option.map_some]
      refine ⟨_, rfl, ?_⟩
      have := hs.setMem tk (o := o) (X := .map (es.set i (e'.1, v, e'.2.2)) c) hd
      simpa only [MObj.tau, List.map_set] using this
    · cases e
  · cases e
theorem map_eraseIdx' {α β : Type} (f : α → β) : ∀ (l : List α) (i : Nat), (l.eraseIdx i).map f = (l.map f).eraseIdx i
  | [], i => rfl
  | a :: l, 0 => rfl
  | a :: l, i + 1 => by simp only [List.eraseIdx_cons_succ, List.map_cons, map_eraseIdx' f l i]
theorem mapDel_tau (tk : TauOK t) (hs : HS t h0 h) {kk : KTy} {k m : AV} (hk : keysFix h0 m = true) (e : mapDelA h0 kk k m = some h1) : ∃ h2, mapDelA h kk k (m.tau t) = some h2 ∧ HS t h1 h2 := by
  unfold mapDelA at e
  split at e
  · split at e
    case isFalse => cases e
    rename_i hc
    cases e
    exact ⟨h, by simp only [AV.tau, mapDelA]; rw [if_pos hc], hs⟩
  · rename_i o
    split at e
    case h_2 => cases e
    rename_i es c hg
    obtain ⟨hd, hg'⟩ := hs.mem hg
    have hk' : (es.all fun e => fixV e.1) = true := by unfold keysFix at hk; simp only [hg] at hk; exact hk
    simp only [AV.tau, mapDelA, hg', MObj.tau, keyEq_ok tk hk']
    split at e
    case isFalse => cases e
    rename_i hc
    rw [if_pos hc]
    split at e
    · cases e
      exact ⟨_, rfl, by simpa only [MObj.tau] using hs.setMem tk (o := o) (X := .map es c) hd⟩
    · rename_i i hi
      cases e
      refine ⟨_, rfl, ?_⟩
      have := hs.setMem tk (o := o) (X := .map (es.eraseIdx i) c) hd
      simpa only [MObj.tau, map_eraseIdx'] using this
    · cases e
  · cases e
end
end Go.Proofs.YtlbaphapjclkdaaGreatDoor.Ev

/- A memory that is read alone: what a call makes there is behind it. -/
import Derived.Test.YtgjcdpanabjcmaaGreatDoorEv32
import Derived.Below
namespace Go.Proofs.YtgjcdpanabjcmaaGreatDoor.Ev
open Go Go.RowKit
set_option linter.unusedVariables false

def Tr.mapI {α : Type} (f : Nat → α → α) : (Nat → Nat) → Tr α → Tr α
  | _, .nil => .nil
  | p, .node v l r => .node (v.map (f (p 0))) (Tr.mapI f (fun i => p (2 * i + 1)) l) (Tr.mapI f (fun i => p (2 * i + 2)) r)
theorem Tr.get_mapI {α : Type} (f : Nat → α → α) : ∀ (t : Tr α) (p : Nat → Nat) (i : Nat), (Tr.mapI f p t).get i = (t.get i).map (f (p i))
  | .nil, p, i => rfl
  | .node v l r, p, i => by
    simp only [Tr.mapI, Tr.get]
    by_cases h0 : i = 0
    · subst h0; simp
    · rw [if_neg h0, if_neg h0]
      by_cases h1 : i % 2 = 1
      · rw [if_pos h1, if_pos h1, Tr.get_mapI f l]
        rw [show 2 * (i / 2) + 1 = i by omega]
      · rw [if_neg h1, if_neg h1, Tr.get_mapI f r]
        rw [show 2 * (i / 2 - 1) + 2 = i by omega]
/-- all that may be read is read alone; all else is told no more -/
def H.roX (h : H) (o : Nat) : AObj → AObj
  | .cells cs none => .cells cs none
  | .cells cs (some g) => if h.kill g ≤ o then .cells cs none else .other
  | .glob g v => .glob g v
  | _ => .other
def H.ro (h : H) : H := { n := h.n, gr := .nil, ob := Tr.mapI h.roX (fun i => i) h.ob }
theorem H.ro_n (h : H) : h.ro.n = h.n := rfl
theorem H.ro_get (h : H) (o : Nat) : h.ro.get o = (h.get o).map (h.roX o) := Tr.get_mapI _ _ _ _
theorem H.ro_cells {h : H} {o : Nat} {cs : List AV} {g : Option Nat} (e : h.ro.get o = some (.cells cs g)) : g = none ∧ h.row o = some cs := by
  rw [H.ro_get] at e
  obtain ⟨x, hx, he⟩ := Option.map_eq_some_iff.1 e
  unfold H.roX at he
  split at he
  · cases he; refine ⟨rfl, ?_⟩; unfold H.row; rw [hx]
  · split at he
    · rename_i hk; cases he; refine ⟨rfl, ?_⟩; unfold H.row; rw [hx]; simp [hk]
    · cases he
  · cases he
  · cases he
theorem H.ro_row {h : H} {o : Nat} {cs : List AV} (e : h.row o = some cs) : h.ro.get o = some (.cells cs none) := by
  rw [H.ro_get]
  unfold H.row at e
  split at e
  · rename_i c hx; cases e; rw [hx]; rfl
  · rename_i c g hx
    split at e
    · rename_i hk; cases e; rw [hx]; simp [H.roX, hk]
    · cases e
  · cases e
theorem H.row_ro (h : H) (o : Nat) : h.ro.row o = h.row o := by
  cases e : h.row o with
  | some cs =>
    have := H.ro_row e
    show (match h.ro.get o with | some (.cells cs none) => some cs | some (.cells cs (some g)) => if h.ro.kill g ≤ o then some cs else none | _ => none) = _
    rw [this]
  | none =>
    cases e2 : h.ro.row o with
    | none => rfl
    | some cs =>
      unfold H.row at e2
      split at e2
      · rename_i c hx; have := (H.ro_cells hx).2; rw [e] at this; cases this
      · rename_i c g hx; have := (H.ro_cells hx).1; cases this
      · cases e2
theorem H.ro_glob {h : H} {o g : Nat} {v : AV} (e : h.ro.get o = some (.glob g v)) : h.get o = some (.glob g v) := by
  rw [H.ro_get] at e
  obtain ⟨x, hx, he⟩ := Option.map_eq_some_iff.1 e
  unfold H.roX at he
  split at he
  · cases he
  · split at he <;> cases he
  · cases he; exact hx
  · cases he
theorem H.glob_ro {h : H} {o g : Nat} {v : AV} (e : h.get o = some (.glob g v)) : h.ro.get o = some (.glob g v) := by
  rw [H.ro_get, e]; rfl
theorem H.ro_no {h : H} {o : Nat} {x : AObj} (e : h.ro.get o = some x) : (∀ L, x ≠ .loop L) ∧ (∀ X, x ≠ .mem X) := by
  rw [H.ro_get] at e
  obtain ⟨y, hy, he⟩ := Option.map_eq_some_iff.1 e
  unfold H.roX at he
  split at he
  · cases he; exact ⟨fun _ => nofun, fun _ => nofun⟩
  · split at he <;> cases he <;> exact ⟨fun _ => nofun, fun _ => nofun⟩
  · cases he; exact ⟨fun _ => nofun, fun _ => nofun⟩
  · cases he; exact ⟨fun _ => nofun, fun _ => nofun⟩
/-! a value that points nowhere -/
mutual
def plainV : AV → Bool
  | .bool _ | .int _ _ | .str _ => true
  | .agg cs => plainVs cs
  | .tup cs => plainVs cs
  | _ => false
def plainVs : List AV → Bool
  | [] => true
  | a :: r => plainV a && plainVs r
end
mutual
theorem VRel.plain_any {m m' : M} : ∀ {a : AV} {v : Value}, VRel m a v → plainV a = true → VRel m' a v
  | _, _, .bool b, _ => .bool b
  | _, _, .int k n, _ => .int k n
  | _, _, .str s, _ => .str s
  | _, _, .agg h, hp => .agg (VRels.plain_any h hp)
  | _, _, .tup h, hp => .tup (VRels.plain_any h hp)
theorem VRels.plain_any {m m' : M} : ∀ {l : List AV} {l' : List Value}, VRels m l l' → plainVs l = true → VRels m' l l'
  | _, _, .nil, _ => .nil
  | _, _, .cons h t, hp => by
    simp only [plainVs, Bool.and_eq_true] at hp
    exact .cons (VRel.plain_any h hp.1) (VRels.plain_any t hp.2)
end
section
variable {B0 : Nat} {P : Program}
theorem Rel.toRo {m : M} {h : H} {w : World} (r : Rel P B0 m h w) : Rel P w.heap.size m h.ro w where
  base := Nat.le_refl _
  lt := r.lt
  row := fun {o cs g b base sz} e hm => by
    obtain ⟨_, hr⟩ := H.ro_cells e
    unfold H.row at hr
    split at hr
    · rename_i hx; cases hr; exact r.row hx hm
    · rename_i hx
      split at hr
      · cases hr; exact r.row hx hm
      · cases hr
    · cases hr
  val := fun e hm => r.val (by rw [← H.row_ro]; exact e) hm
  own := fun e hm => by have := (H.ro_cells e).1; cases this
  ro := fun e hm => r.blk hm
  sep := fun h1 _ _ hb => absurd (r.blk h1) (by omega)
  ord := fun _ e _ _ _ _ => by have := (H.ro_cells e).1; cases this
  blk := r.blk
  any := fun {o x} hm => by
    obtain ⟨ob, e⟩ := r.any hm
    rw [H.ro_get, e]; exact ⟨_, rfl⟩
  lp := fun e _ => absurd rfl ((H.ro_no e).1 _)
  mm := fun e _ => absurd rfl ((H.ro_no e).2 _)
  gb := fun e => by
    obtain ⟨h1, v', h2, h3⟩ := r.gb (H.ro_glob e)
    exact ⟨Nat.lt_of_lt_of_le h1 r.base, v', h2, h3⟩
  wf := {
    gr := fun g p h => by cases h
    mem := fun o cs g e => by have := (H.ro_cells e).1; cases this
    ob := fun o x e => by
      rw [H.ro_get] at e
      obtain ⟨y, hy, _⟩ := Option.map_eq_some_iff.1 e
      exact r.wf.ob o y hy
    kt := fun g p h => by cases h
    tl := fun g h => h }
/-- a call on memory that is read alone: behind it all is as it was -/
theorem FnOK.apart {f : Nat} {args : List AV} {h : H} {v : AV} (hv : plainV v = true) (c : ∀ B, FnOK P B f args h.ro (fun r1 _ => r1 = .val v)) {m : M} {w : World} (hr : Rel P B0 m h w) {cargs : List Value} (ha : VRels m args cargs) :
    Runs P f ⟨cargs⟩ w (fun e w' => ∃ v', e = .returned v' ∧ (∀ m', VRel m' v v') ∧ Below w.heap.size w w') := by
  refine (c w.heap.size m w cargs hr.toRo ha).mono ?_
  rintro e w' ⟨r1, h2, rfl, m1, hE, r1, f1⟩
  cases hE with
  | val hvr =>
    exact ⟨_, rfl, fun m' => hvr.plain_any hv, f1.os, f1.tape, f1.output, f1.size, fun b hb => f1.blk b hb (.inl hb)⟩
/-- .. and so it stands for itself -/
theorem FnOK.same {f : Nat} {args : List AV} {h : H} {v : AV} (c : ∀ (m : M) (w : World) (cargs : List Value), Rel P B0 m h w → VRels m args cargs → Runs P f ⟨cargs⟩ w (fun e w' => ∃ v', e = .returned v' ∧ (∀ m', VRel m' v v') ∧ Below w.heap.size w w')) :
    FnOK P B0 f args h (fun r1 h1 => r1 = .val v ∧ h1 = h) := by
  intro m w cargs hr ha
  refine (c m w cargs hr ha).mono ?_
  rintro e w' ⟨v', rfl, hv, bel⟩
  have hsame : ∀ b, b < w.heap.size → w'.heap[b]? = w.heap[b]? := fun b hb => bel.block b hb
  exact ⟨.val v, h, ⟨rfl, rfl⟩, m, .val (hv _), hr.same bel.size hsame, ⟨M.le_refl m, bel.os, bel.tape, bel.output, bel.size, fun b hb _ => hsame b hb, Nat.le_refl _, fun o _ hmo => ⟨rfl, hmo⟩, fun o b base sz h1 h2 => by rw [h2] at h1; cases h1⟩⟩
/-- what a walk says of a call that points nowhere, the call does, and leaves memory as it was -/
theorem FnOK.pure {E : Env} (hmix : P.follows .mixedOrders = true) (hT : TableOK P E) (hO : ∀ B, OvOK P B E.ov) {f : Nat} {args : List AV} {v : AV} (hv : plainV v = true) (hw : ∀ h : H, h.Wf → WCall E f args h (fun r _ => r = .val v)) (h : H) :
    FnOK P B0 f args h (fun r1 h1 => r1 = .val v ∧ h1 = h) :=
  FnOK.same fun m w cargs hr ha => FnOK.apart hv (fun B m' w' cargs' hr' ha' => holds_ok hmix hT (hO B) (hw h.ro hr'.wf) m' w' cargs' hr' ha') hr ha
abbrev Ovr := Nat × (List AV → H → Option (AOut × H))
/-- functions that stand for themselves, ahead of others -/
def ovP (b : Ovs) (L : List Ovr) : Ovs := fun f => match L.find? (·.1 == f) with | some p => some p.2 | none => b f
theorem ovP_ok {b : Ovs} {L : List Ovr} {B : Nat} (hb : OvOK P B b) (hL : ∀ p ∈ L, ∀ args h r h', p.2 args h = some (r, h') → FnOK P B p.1 args h (fun r1 h1 => r1 = r ∧ h1 = h')) : OvOK P B (ovP b L) := by
  intro f g hf args h r h' hg
  unfold ovP at hf
  split at hf
  · rename_i p hp
    cases hf
    have h1 := List.mem_of_find?_eq_some hp
    have h2 := List.find?_some hp
    simp only [beq_iff_eq] at h2
    have := hL p h1 args h r h' hg
    rw [h2] at this
    exact this
  · exact hb f g hf args h r h' hg
/-- a function of what points nowhere -/
def pureO (F : List AV → Option AV) : List AV → H → Option (AOut × H) := fun args h => (F args).map fun v => (.val v, h)
theorem pureO_ok {E : Env} (hmix : P.follows .mixedOrders = true) (hT : TableOK P E) (hO : ∀ B, OvOK P B E.ov) {f : Nat} {F : List AV → Option AV} (hw : ∀ args v, F args = some v → plainV v = true ∧ ∀ h : H, h.Wf → WCall E f args h (fun r _ => r = .val v))
    {B : Nat} {args : List AV} {h h' : H} {r : AOut} (hg : pureO F args h = some (r, h')) : FnOK P B f args h (fun r1 h1 => r1 = r ∧ h1 = h') := by
  obtain ⟨v, hv, e⟩ := Option.map_eq_some_iff.1 hg
  cases e
  exact FnOK.pure hmix hT hO (hw args v hv).1 (hw args v hv).2 h
theorem pure_call {E : Env} {f : Nat} {F : List AV → Option AV} {args : List AV} {v : AV} {h : H} {R : AOut → H → Prop} (ho : E.ov f = some (pureO F)) (hF : F args = some v) (hR : R (.val v) h) : WCall E f args h R :=
  WCall_ov ho (by simp [pureO, hF]) hR
end
end Go.Proofs.YtgjcdpanabjcmaaGreatDoor.Ev

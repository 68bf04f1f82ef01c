/- What stands for calls of law10 is so. -/
import Derived.Test.YtaahagjaldgmoaaDoorRows
import Derived.Test.YtaahagjaldgmoaaDoorTBase
import Derived.Lib.Bytealg
import Derived.Laws.StandIn
import Derived.Test.YtaahagjaldgmoaaDoorTLevels
import Derived.Test.YtaahagjaldgmoaaDoorEv32
namespace Go.Proofs.YtaahagjaldgmoaaDoor.Ev.C
open Go Go.Proofs.YtaahagjaldgmoaaDoor.Ev
set_option linter.unusedVariables false
set_option linter.unusedSimpArgs false

theorem mixed : PP.follows .mixedOrders = true := Go.Proofs.Tryd.checked.mixed
theorem idxB0 (l : List UInt8) (c : UInt8) : idxB l c 0 = Lib.indexByte l c := by
  rw [idxB_lib]
  split
  · rename_i h; rw [h]
  · omega
noncomputable def fnIbs : Func := (PP.funcs[n_bytealg_IndexByteString]?).getD (PP.funcs[0]!)
theorem fnIbs_get : PP.funcs[n_bytealg_IndexByteString]? = some fnIbs := by kernel_rfl
theorem ibs_ok {B : Nat} {args : List AV} {h h' : H} {r : AOut} (hg : ibs args h = some (r, h')) : FnOK PP B n_bytealg_IndexByteString args h (fun r1 h1 => r1 = r ∧ h1 = h') := by
  unfold ibs at hg
  split at hg
  case h_2 => cases hg
  rename_i s c
  cases hg
  intro m w cargs hr hv
  obtain rfl : cargs = [.string ⟨⟨s⟩⟩, .int .u8 c] := by
    cases hv with
    | cons h1 t =>
      cases h1
      cases t with
      | cons h2 t2 => cases h2; cases t2; rfl
  · refine .inr ⟨.int .i64 (Lib.indexByte s c.toNat.toUInt8), w, ?_, ?_⟩
    · rw [run_callFunc_indexByte fnIbs_get (by kernel_rfl) (by kernel_rfl) (by kernel_rfl) (by kernel_rfl)]
      rw [show ((⟨[Value.string ⟨⟨s⟩⟩, Value.int .u8 c]⟩ : Array Value)) = #[Value.string ⟨⟨s⟩⟩, Value.int .u8 c] from rfl, Lib.run_indexByteString]
      rfl
    · refine ⟨_, _, ⟨rfl, rfl⟩, m, ?_, hr, Fr.refl _ _ _ _⟩
      rw [idxB0]
      exact .val (.int _ _)
theorem ov1_ok : ∀ B, OvOK PP B ov1 := by
  intro B f g hf args h r h' hg
  unfold ov1 at hf
  split at hf
  case isFalse => cases hf
  rename_i e; subst e; cases hf
  exact ibs_ok hg
theorem sign_fn {B : Nat} {args : List AV} {h h' : H} {r : AOut} (hg : signG args h = some (r, h')) : FnOK PP B n_parse_reader_sign args h (fun r1 h1 => r1 = r ∧ h1 = h') := by
  have hg' := hg
  unfold signG at hg
  split at hg
  case h_2 => cases hg
  rename_i o i
  have hw := sign_ok std1 hg'
  have hok : FnOK PP B n_parse_reader_sign [.ptr o i] h (fun r1 h1 => r1 = r ∧ Weak h.n h1 h') := holds_ok (E := E1) mixed (table_ok PP ov1) (ov1_ok B) hw
  exact hok.weak fun r1 h1 q => ⟨h', q.2, q.1, rfl⟩
def ovA : Ovs := fun f => if f = n_bytealg_IndexByteString then some ibs else if f = n_parse_reader_sign then some signG else none
theorem ovA_ok : ∀ B, OvOK PP B ovA := by
  intro B f g hf args h r h' hg
  unfold ovA at hf
  split at hf
  · rename_i e; subst e; cases hf
    exact ibs_ok hg
  · split at hf
    case isFalse => cases hf
    rename_i e; subst e; cases hf
    exact sign_fn hg
def outIs (x : Option (AOut × H)) : Bool := match x with | some (.val (.bool true), _) => true | _ => false
theorem out_run {x : Option (AOut × H)} (h : outIs x = true) : ∃ h1, x = some (.val (.bool true), h1) := by
  unfold outIs at h
  split at h
  · exact ⟨_, rfl⟩
  · cases h
set_option maxRecDepth 1000000 in
theorem awake_run : outIs ((ev (env PP ovA) 3000).call (.fn nAwake) [] (HG g_token_keys 4 (strCells keysL))) = true := by kernel_rfl
theorem ov0_ok : ∀ B, OvOK PP B ov0 := by
  intro B f g hf args h r h' hg
  unfold ov0 at hf
  split at hf
  · rename_i e; subst e; cases hf
    exact ibs_ok hg
  · split at hf
    case isFalse => cases hf
    rename_i e; subst e; cases hf
    obtain ⟨h1, e1⟩ := out_run awake_run
    unfold yes at hg
    split at hg
    case h_2 => cases hg
    split at hg
    case isFalse => cases hg
    rename_i hb
    cases hg
    exact apart_okG mixed (table_ok _ _) ovA_ok (table_plain _ _) rfl rfl (by decide) rfl e1 (startB_ok hb)
end Go.Proofs.YtaahagjaldgmoaaDoor.Ev.C

/- Edges as arguments. -/
namespace Go.Proofs.YtaahagjaldgmoaaDoor.Ev.C
open Go Go.Proofs.YtaahagjaldgmoaaDoor.Ev
theorem E0_env : E0 = env PP ov0 := by unfold E0 env; rfl
end Go.Proofs.YtaahagjaldgmoaaDoor.Ev.C
namespace Go.Proofs.YtaahagjaldgmoaaDoor
open Go Go.Proofs.YtaahagjaldgmoaaDoor.Ev
set_option linter.unusedVariables false
theorem opensEdge : Opens Tryd.prog 35 3 (fun _ us (e : C.Ed) => us = C.edC e) :=
  (Opens.struct Tryd.underlying35 (OpensF.cons (Opens.int Tryd.underlying3) rfl rfl (by kernel_rfl) (OpensF.cons (Opens.int Tryd.underlying3) rfl rfl (by kernel_rfl) (OpensF.cons (Opens.bool Tryd.underlying4) rfl rfl (by kernel_rfl) (OpensF.nil _)))) (by kernel_rfl)).imp
    _ (fun _ _ _ _ r _ => r) (fun h us a r => by
      obtain ⟨u1, u2, rfl, _, ⟨rfl, _⟩, u3, u4, rfl, _, ⟨rfl, _⟩, u5, u6, rfl, _, rfl, rfl⟩ := r
      exact ⟨(a.1, a.2.1, a.2.2.1), rfl⟩)
end Go.Proofs.YtaahagjaldgmoaaDoor

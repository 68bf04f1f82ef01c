/- What stands for calls of law12 is so. -/
import Derived.Test.YtgjcdpanabjcmaaGreatDoorRows
import Derived.Test.YtgjcdpanabjcmaaGreatDoorTBase
import Derived.Test.YtgjcdpanabjcmaaGreatDoorTShow
import Derived.Lib.Bytealg
import Derived.Laws.StandIn
import Derived.Test.YtgjcdpanabjcmaaGreatDoorTV
import Derived.Test.YtgjcdpanabjcmaaGreatDoorEv32
namespace Go.Proofs.YtgjcdpanabjcmaaGreatDoor.Ev.C
open Go Go.Proofs.YtgjcdpanabjcmaaGreatDoor.Ev
set_option linter.unusedVariables false
set_option linter.unusedSimpArgs false

theorem mixed : PP.follows .mixedOrders = true := Go.Proofs.Tryz.checked.mixed
theorem idxB0 (l : List UInt8) (c : UInt8) : idxB l c 0 = Lib.indexByte l c := by
  rw [idxB_lib]
  split
  · rename_i h; rw [h]
  · omega
noncomputable def fnIbs : Func := (PP.funcs[n_bytealg_IndexByteString]?).getD (PP.funcs[0]!)
theorem fnIbs_get : PP.funcs[n_bytealg_IndexByteString]? = some fnIbs := by kernel_rfl
theorem ibs_ok {B : Nat} {args : List AV} {h h' : H} {r : AOut} (hg : ibs args h = some (r, h')) : FnOK PP B n_bytealg_IndexByteString args h (fun r1 h1 => r1 = r ∧ h1 = h') := by
  unfold ibs at hg
  split at hg
  case h_2 => cases hg
  rename_i s c
  cases hg
  intro m w cargs hr hv
  obtain rfl : cargs = [.string ⟨⟨s⟩⟩, .int .u8 c] := by
    cases hv with
    | cons h1 t =>
      cases h1
      cases t with
      | cons h2 t2 => cases h2; cases t2; rfl
  · refine .inr ⟨.int .i64 (Lib.indexByte s c.toNat.toUInt8), w, ?_, ?_⟩
    · rw [run_callFunc_indexByte fnIbs_get (by kernel_rfl) (by kernel_rfl) (by kernel_rfl) (by kernel_rfl)]
      rw [show ((⟨[Value.string ⟨⟨s⟩⟩, Value.int .u8 c]⟩ : Array Value)) = #[Value.string ⟨⟨s⟩⟩, Value.int .u8 c] from rfl, Lib.run_indexByteString]
      rfl
    · refine ⟨_, _, ⟨rfl, rfl⟩, m, ?_, hr, Fr.refl _ _ _ _⟩
      rw [idxB0]
      exact .val (.int _ _)
theorem countB_lib : ∀ (l : List UInt8) (c : UInt8), countB l c = l.count c
  | [], c => rfl
  | b :: l, c => by
    simp only [countB]
    rw [countB_lib l c, List.count_cons]
    by_cases h : b = c
    · simp [h]; omega
    · have : (b == c) = false := by simpa using h
      simp [h]
noncomputable def fnCnt : Func := (PP.funcs[n_bytealg_CountString]?).getD (PP.funcs[0]!)
theorem fnCnt_get : PP.funcs[n_bytealg_CountString]? = some fnCnt := by kernel_rfl
theorem count_ok {B : Nat} {args : List AV} {h h' : H} {r : AOut} (hg : cntG args h = some (r, h')) : FnOK PP B n_bytealg_CountString args h (fun r1 h1 => r1 = r ∧ h1 = h') := by
  unfold cntG at hg
  split at hg
  case h_2 => cases hg
  rename_i s c
  cases hg
  intro m w cargs hr hv
  obtain rfl : cargs = [.string ⟨⟨s⟩⟩, .int .u8 c] := by
    cases hv with
    | cons h1 t =>
      cases h1
      cases t with
      | cons h2 t2 => cases h2; cases t2; rfl
  · refine .inr ⟨.int .i64 (Lib.countByte s c.toNat.toUInt8), w, ?_, ?_⟩
    · rw [run_callFunc_extern fnCnt_get (by kernel_rfl) (by kernel_rfl) (by kernel_rfl) (e := Extern.BytealgCount.count) (by kernel_rfl)]
      rw [show ((⟨[Value.string ⟨⟨s⟩⟩, Value.int .u8 c]⟩ : Array Value)) = #[Value.string ⟨⟨s⟩⟩, Value.int .u8 c] from rfl, Lib.run_countString]
      rfl
    · refine ⟨_, _, ⟨rfl, rfl⟩, m, ?_, hr, Fr.refl _ _ _ _⟩
      rw [countB_lib]
      exact .val (.int _ _)
def ovI : Ovs := fun f => if f = n_bytealg_IndexByteString then some ibs else none
theorem ovI_ok : ∀ B, OvOK PP B ovI := by
  intro B f g hf args h r h' hg
  unfold ovI at hf
  split at hf
  case isFalse => cases hf
  rename_i e; subst e; cases hf
  exact ibs_ok hg
/-- a call of ContainsRune over the letters answers so -/
def crIs (x : Option (AOut × H)) (b : Bool) : Bool := match x with | some (.val (.bool t), _) => t == b | _ => false
theorem crIs_run {x : Option (AOut × H)} {b : Bool} (h : crIs x b = true) : ∃ h1, x = some (.val (.bool b), h1) := by
  unfold crIs at h
  split at h
  · rename_i t h1; exact ⟨h1, by rw [beq_iff_eq.1 h]⟩
  · cases h
set_option maxRecDepth 1000000 in
theorem cr_run : ((List.range 161).all fun (c : Nat) => crIs ((ev (env PP ovI) 400).call (.fn n_strings_ContainsRune) [.str lettersL, .int .i32 (c : Int)] H0) (letterB c)) = true := by kernel_rfl
theorem cr_ok {B : Nat} {args : List AV} {h h' : H} {r : AOut} (hg : crG args h = some (r, h')) : FnOK PP B n_strings_ContainsRune args h (fun r1 h1 => r1 = r ∧ h1 = h') := by
  unfold crG at hg
  split at hg
  case h_2 => cases hg
  split at hg
  case isFalse => cases hg
  rename_i hc
  obtain ⟨rfl, h0, h1⟩ := hc
  cases hg
  rename_i c
  obtain ⟨n, rfl⟩ := Int.eq_ofNat_of_zero_le h0
  have := List.all_eq_true.1 cr_run n (List.mem_range.2 (by omega))
  obtain ⟨hx, hr⟩ := crIs_run this
  have := apart_ok (B0 := B) mixed (table_ok _ _) ovI_ok (table_plain _ _) rfl rfl hr h
  simpa using this
theorem ov1_ok : ∀ B, OvOK PP B ov1 := by
  intro B f g hf args h r h' hg
  unfold ov1 at hf
  split at hf
  · rename_i e; subst e; cases hf
    exact ibs_ok hg
  split at hf
  · rename_i e; subst e; cases hf
    exact cr_ok hg
  split at hf
  · rename_i e; subst e; cases hf
    exact join_ok hg
  · split at hf
    case isFalse => cases hf
    rename_i e; subst e; cases hf
    exact count_ok hg
theorem sign_fn {B : Nat} {args : List AV} {h h' : H} {r : AOut} (hg : signG args h = some (r, h')) : FnOK PP B n_parse_reader_sign args h (fun r1 h1 => r1 = r ∧ h1 = h') := by
  have hg' := hg
  unfold signG at hg
  split at hg
  case h_2 => cases hg
  rename_i o i
  have hw := sign_ok std1 hg'
  have hok : FnOK PP B n_parse_reader_sign [.ptr o i] h (fun r1 h1 => r1 = r ∧ Weak h.n h1 h') := holds_ok (E := E1) mixed (table_ok PP ov1) (ov1_ok B) hw
  exact hok.weak fun r1 h1 q => ⟨h', q.2, q.1, rfl⟩
/-- what print.rel answers, by a run of its own -/
def ovB : Ovs := fun f => if f = n_bytealg_IndexByteString then some ibs else if f = n_strings_Join then some joinG else none
theorem ovB_ok : ∀ B, OvOK PP B ovB := by
  intro B f g hf args h r h' hg
  unfold ovB at hf
  split at hf
  · rename_i e; subst e; cases hf
    exact ibs_ok hg
  · split at hf
    case isFalse => cases hf
    rename_i e; subst e; cases hf
    exact join_ok hg
noncomputable def relE (cs : List AV) (h : H) : Option (List UInt8) := match (ev (env PP ovB) 400).call (.fn n_print_rel) [.agg cs] h with | some (.val (.str t), _) => some t | _ => none
theorem relE_ok (cs : List AV) (h : H) (t : List UInt8) (e : relE cs h = some t) (B : Nat) : FnOK PP B n_print_rel [.agg cs] h (fun r1 _ => r1 = .val (.str t)) := by
  unfold relE at e
  split at e
  · rename_i t' h1 he
    cases e
    exact CallOK.imp (f := .fn n_print_rel) (fun r h q => q.1) (sound_call mixed (table_ok _ _) (ovB_ok B) (table_plain _ _) he)
  · cases e
noncomputable def ovA : Ovs := fun f => if f = n_bytealg_IndexByteString then some ibs else if f = n_parse_reader_sign then some signG else if f = n_strings_Join then some joinG else if f = n_bytealg_CountString then some cntG else if f = n_print_Show then some (showG relE) else none
theorem ovA_ok : ∀ B, OvOK PP B ovA := by
  intro B f g hf args h r h' hg
  unfold ovA at hf
  split at hf
  · rename_i e; subst e; cases hf
    exact ibs_ok hg
  split at hf
  · rename_i e; subst e; cases hf
    exact sign_fn hg
  split at hf
  · rename_i e; subst e; cases hf
    exact join_ok hg
  split at hf
  · rename_i e; subst e; cases hf
    exact count_ok hg
  · split at hf
    case isFalse => cases hf
    rename_i e; subst e; cases hf
    exact show_ok relE_ok hg
def outIs (x : Option (AOut × H)) : Bool := match x with | some (.val (.bool true), _) => true | _ => false
theorem out_run {x : Option (AOut × H)} (h : outIs x = true) : ∃ h1, x = some (.val (.bool true), h1) := by
  unfold outIs at h
  split at h
  · exact ⟨_, rfl⟩
  · cases h
set_option maxRecDepth 1000000 in
theorem awake_run : outIs ((ev (env PP ovA) 1500).call (.fn nAwake) [] (HG g_token_keys 4 (strCells keysL))) = true := by kernel_rfl
theorem ov0_ok : ∀ B, OvOK PP B ov0 := by
  intro B f g hf args h r h' hg
  unfold ov0 at hf
  split at hf
  · rename_i e; subst e; cases hf
    exact ibs_ok hg
  split at hf
  · rename_i e; subst e; cases hf
    exact cr_ok hg
  split at hf
  · rename_i e; subst e; cases hf
    exact join_ok hg
  split at hf
  · rename_i e; subst e; cases hf
    exact count_ok hg
  · split at hf
    case isFalse => cases hf
    rename_i e; subst e; cases hf
    obtain ⟨h1, e1⟩ := out_run awake_run
    unfold yes at hg
    split at hg
    case h_2 => cases hg
    split at hg
    case isFalse => cases hg
    rename_i hb
    cases hg
    exact apart_okG mixed (table_ok _ _) ovA_ok (table_plain _ _) rfl rfl (by decide) rfl e1 (startB_ok hb)
end Go.Proofs.YtgjcdpanabjcmaaGreatDoor.Ev.C

/- What stands for calls in law12's statements is so. -/
namespace Go.Proofs.YtgjcdpanabjcmaaGreatDoor.Ev.C
open Go Go.Proofs.YtgjcdpanabjcmaaGreatDoor.Ev
set_option linter.unusedVariables false
/-- each stands for itself -/
def OvAll (L : List Ovr) : Prop := ∀ p ∈ L, ∀ (B : Nat) args h r h', p.2 args h = some (r, h') → FnOK PP B p.1 args h (fun r1 h1 => r1 = r ∧ h1 = h')
theorem OvAll.nil : OvAll [] := fun p hp => by cases hp
theorem OvAll.ok {L : List Ovr} (a : OvAll L) (B : Nat) : OvOK PP B (ovP ov1 L) := ovP_ok (ov1_ok B) fun p hp args h r h' => a p hp B args h r h'
theorem OvAll.add {L M : List Ovr} (a : OvAll L) (m : OvAll M) {f : Nat} {F : List AV → Option AV} (hw : ∀ args v, F args = some v → plainV v = true ∧ ∀ h : H, h.Wf → WCall (EL M) f args h (fun r _ => r = .val v)) : OvAll ((f, pureO F) :: L) := by
  intro p hp
  rcases List.mem_cons.1 hp with rfl | hp
  · exact fun B args h r h' hg => pureO_ok (E := EL M) mixed (EL_table M) (fun B => m.ok B) hw hg
  · exact a p hp
theorem all0 : OvAll [] := OvAll.nil
theorem all1 : OvAll L1 := all0.add all0 in_walk
theorem all2 : OvAll L2 := all1.add all1 long_walk
theorem all3 : OvAll L3 := (all2.add all2 (atF_walk (fun _ _ => rfl) may_walk')).add all2 (atF_walk (fun _ _ => rfl) step_walk')
theorem all4 : OvAll L4 := all3.add all3 (txF_walk (fun _ => rfl) count02_walk)
theorem allA : OvAll LA := ((((((all4.add all0 cntB_walk).add all0 idx_walk).add all0 cmp_walk).add all0 rcut_walk).add all4 (txF_walk (fun _ => rfl) name02_walk)).add all0 cut_walk).add all0 (txF_walk (fun _ => rfl) gname_walk)
theorem allB : OvAll LB := (((allA.add allA (ndF_walk (fun _ _ _ => rfl) rformed_walk)).add allA (ndF_walk (fun _ _ _ => rfl) formed_walk)).add allA (ndF_walk (fun _ _ _ => rfl) rshow_walk)).add allA (ndF_walk (fun _ _ _ => rfl) show_walk)
theorem allC : OvAll LC := (((allB.add allB (tpF_walk (fun _ _ _ _ _ _ => rfl) rtext_walk)).add allB (tpF_walk (fun _ _ _ _ _ _ => rfl) text_walk)).add allB (tx6F_walk readV_plain rread_walk)).add allB (tx6F_walk readV_plain read_walk)
theorem allD : OvAll LD := (allC.add allC (tx6F_walk parseV_plain rparse_walk)).add allC (tx6F_walk parseV_plain parse_walk)
theorem allE : OvAll LE := ((allD.add allD (tpF_walk (fun _ _ _ _ _ _ => rfl) nformed_walk)).add allD (tpF_walk (fun _ _ _ _ _ _ => rfl) ntuple_walk)).add allD (tpF_walk (fun _ _ _ _ _ _ => rfl) of_walk)
theorem allF : OvAll LF := ((allE.add allE few_walk).add allE rkey_walk).add allE key_walk
theorem allG : OvAll LG := (allF.add allF rcomp_walk).add allF comp_walk
theorem allH : OvAll LH := (allG.add allG (tx5F_walk rfromV_plain rfrom_walk)).add allG (tx5F_walk fromV_plain from_walk)
theorem allZ : OvAll LAll := by
  intro p hp
  rcases List.mem_cons.1 hp with rfl | hp
  · exact fun B args h r h' hg => ov0_ok B nAwake yes rfl args h r h' hg
  · exact allH p hp
def ovZ : Ovs := ovP ov1 LAll
theorem ovZ_ok : ∀ B, OvOK PP B ovZ := fun B => allZ.ok B
theorem EL_env : EL LAll = env PP ovZ := by unfold EL env ovZ; rfl
end Go.Proofs.YtgjcdpanabjcmaaGreatDoor.Ev.C

/- Nodes and tuples as arguments. -/
namespace Go.Proofs.YtgjcdpanabjcmaaGreatDoor
open Go Go.Proofs.YtgjcdpanabjcmaaGreatDoor.Ev
set_option linter.unusedVariables false
theorem opensNode : Opens Tryz.prog 23 3 (fun _ us (n : C.Nd) => us = [.str n.1, .str n.2.1, .str n.2.2]) :=
  (Opens.struct Tryz.underlying23 (OpensF.cons (Opens.str Tryz.underlying9) rfl rfl (by kernel_rfl) (OpensF.cons (Opens.str Tryz.underlying9) rfl rfl (by kernel_rfl) (OpensF.cons (Opens.str Tryz.underlying9) rfl rfl (by kernel_rfl) (OpensF.nil _)))) (by kernel_rfl)).imp
    _ (fun _ _ _ _ r _ => r) (fun h us a r => by
      obtain ⟨u1, u2, rfl, _, ⟨rfl, _⟩, u3, u4, rfl, _, ⟨rfl, _⟩, u5, u6, rfl, _, ⟨rfl, _⟩, rfl⟩ := r
      exact ⟨(a.1, a.2.1, a.2.2.1), rfl⟩)
theorem opensTuple : Opens Tryz.prog 25 6 (fun _ us (t : C.Tp) => us = C.tpC t) :=
  (Opens.struct Tryz.underlying25 (OpensF.cons opensNode rfl rfl (by kernel_rfl) (OpensF.cons opensNode rfl rfl (by kernel_rfl) (OpensF.nil _))) (by kernel_rfl)).imp
    _ (fun _ _ _ _ r _ => r) (fun h us a r => by
      obtain ⟨u1, u2, rfl, _, rfl, u3, u4, rfl, _, rfl, rfl⟩ := r
      exact ⟨(a.1, a.2.1), rfl⟩)
end Go.Proofs.YtgjcdpanabjcmaaGreatDoor

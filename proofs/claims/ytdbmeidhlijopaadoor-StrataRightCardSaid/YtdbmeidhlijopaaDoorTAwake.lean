/- What stands for calls of law10 is so. -/
import Derived.Test.YtdbmeidhlijopaaDoorRows
import Derived.Test.YtdbmeidhlijopaaDoorTBase
import Derived.Lib.Bytealg
import Derived.Laws.StandIn
import Derived.Test.YtdbmeidhlijopaaDoorTX
namespace Go.Proofs.YtdbmeidhlijopaaDoor.Ev.C
open Go Go.Proofs.YtdbmeidhlijopaaDoor.Ev
set_option linter.unusedVariables false
set_option linter.unusedSimpArgs false

theorem mixed:PP.follows .mixedOrders=true:=Go.Proofs.Tryd.checked.mixed
theorem idxB0 (l:List UInt8) (c:UInt8):idxB l c 0=Lib.indexByte l c:=by
 rw [idxB_lib]
 split
 · rename_i h;rw [h]
 · omega
noncomputable def fnIbs:Func:=(PP.funcs[n_bytealg_IndexByteString]?).getD (PP.funcs[0]!)
theorem fnIbs_get:PP.funcs[n_bytealg_IndexByteString]? = some fnIbs:=by kernel_rfl
theorem ibs_ok {B:Nat} {args:List AV} {h h':H} {r:AOut} (hg:ibs args h=some (r,h')):FnOK PP B n_bytealg_IndexByteString args h (fun r1 h1=>r1=r∧h1=h'):=by
 unfold ibs at hg
 split at hg
 case h_2=>cases hg
 rename_i s c
 cases hg
 intro m w cargs hr hv
 obtain rfl:cargs = [.string ⟨⟨s⟩⟩,.int .u8 c]:=by
  cases hv with
  | cons h1 t =>
   cases h1
   cases t with
   | cons h2 t2=>cases h2;cases t2;rfl
 · refine .inr ⟨.int .i64 (Lib.indexByte s c.toNat.toUInt8),w,?_,?_⟩
   · rw [run_callFunc_indexByte fnIbs_get (by kernel_rfl) (by kernel_rfl) (by kernel_rfl) (by kernel_rfl)]
     rw [show ((⟨[Value.string ⟨⟨s⟩⟩,Value.int .u8 c]⟩:Array Value)) = #[Value.string ⟨⟨s⟩⟩,Value.int .u8 c] from rfl,Lib.run_indexByteString]
     rfl
   · refine ⟨_,_,⟨rfl,rfl⟩,m,?_,hr,Fr.refl _ _ _ _⟩
     rw [idxB0]
     exact .val (.int _ _)
def ovI:Ovs:=fun f=>if f=n_bytealg_IndexByteString then some ibs else none
theorem ovI_ok : ∀ B,B≠0→OvOK PP B ovI:=by
 intro B hB f g hf args h r h' hg
 unfold ovI at hf
 split at hf
 case isFalse=>cases hf
 rename_i e;subst e;cases hf
 exact ibs_ok hg
/-- a call of ContainsRune over the letters answers so -/
def crIs (x:Option (AOut×H)) (b:Bool):Bool:=match x with | some (.val (.bool t),_)=>t==b | _=>false
theorem crIs_run {x:Option (AOut×H)} {b:Bool} (h:crIs x b=true) : ∃ h1,x=some (.val (.bool b),h1):=by
 unfold crIs at h
 split at h
 · rename_i t h1;exact ⟨h1,by rw [beq_iff_eq.1 h]⟩
 · cases h
set_option maxRecDepth 1000000 in
theorem cr_run:((List.range 161).all fun (c:Nat)=>crIs ((ev (env PP ovI) 400).call (.fn n_strings_ContainsRune) [.str lettersL,.int .i32 (c:Int)] H0) (letterB c))=true:=by kernel_rfl
theorem cr_ok {B:Nat} (hB:B≠0) {args:List AV} {h h':H} {r:AOut} (hg:crG args h=some (r,h')):FnOK PP B n_strings_ContainsRune args h (fun r1 h1=>r1=r∧h1=h'):=by
 unfold crG at hg
 split at hg
 case h_2=>cases hg
 split at hg
 case isFalse=>cases hg
 rename_i hc
 obtain ⟨rfl,h0,h1⟩:=hc
 cases hg
 rename_i c
 obtain ⟨n,rfl⟩:=Int.eq_ofNat_of_zero_le h0
 have:=List.all_eq_true.1 cr_run n (List.mem_range.2 (by omega))
 obtain ⟨hx,hr⟩:=crIs_run this
 have:=apart_ok (B0:=B) mixed (table_ok _ _) ovI_ok hB (table_plain _ _) rfl rfl hr h
 simpa using this
theorem ov1_ok : ∀ B,B≠0→OvOK PP B ov1:=by
 intro B hB f g hf args h r h' hg
 unfold ov1 at hf
 split at hf
 · rename_i e;subst e;cases hf
   exact ibs_ok hg
 · split at hf
   case isFalse=>cases hf
   rename_i e;subst e;cases hf
   exact cr_ok hB hg
theorem sign_fn {B:Nat} (hB:B≠0) {args:List AV} {h h':H} {r:AOut} (hg:signG args h=some (r,h')):FnOK PP B n_parse_reader_sign args h (fun r1 h1=>r1=r∧h1=h'):=by
 have hg':=hg
 unfold signG at hg
 split at hg
 case h_2=>cases hg
 rename_i o i
 have hw:=sign_ok std1 hg'
 have hok:FnOK PP B n_parse_reader_sign [.ptr o i] h (fun r1 h1=>r1=r∧Weak h.n h1 h'):=holds_ok (E:=E1) mixed (table_ok PP ov1) (ov1_ok B hB) hw
 exact hok.weak fun r1 h1 q=>⟨h',q.2,q.1,rfl⟩
def ovA:Ovs:=fun f=>if f=n_bytealg_IndexByteString then some ibs else if f=n_parse_reader_sign then some signG else none
theorem ovA_ok : ∀ B,B≠0→OvOK PP B ovA:=by
 intro B hB f g hf args h r h' hg
 unfold ovA at hf
 split at hf
 · rename_i e;subst e;cases hf
   exact ibs_ok hg
 · split at hf
   case isFalse=>cases hf
   rename_i e;subst e;cases hf
   exact sign_fn hB hg
def outIs (x:Option (AOut×H)):Bool:=match x with | some (.val (.bool true),_)=>true | _=>false
theorem out_run {x:Option (AOut×H)} (h:outIs x=true) : ∃ h1,x=some (.val (.bool true),h1):=by
 unfold outIs at h
 split at h
 · exact ⟨_,rfl⟩
 · cases h
set_option maxRecDepth 1000000 in
theorem awake_run:outIs ((ev (env PP ovA) 3000).call (.fn nAwake) [] (HG g_token_keys 4 (strCells keysL)))=true:=by kernel_rfl
theorem ov0_ok : ∀ B,B≠0→OvOK PP B ov0:=by
 intro B hB f g hf args h r h' hg
 unfold ov0 at hf
 split at hf
 · rename_i e;subst e;cases hf
   exact ibs_ok hg
 split at hf
 · rename_i e;subst e;cases hf
   exact cr_ok hB hg
 · split at hf
   case isFalse=>cases hf
   rename_i e;subst e;cases hf
   obtain ⟨h1,e1⟩:=out_run awake_run
   unfold yes at hg
   split at hg
   case h_2=>cases hg
   split at hg
   case isFalse=>cases hg
   rename_i hb
   cases hg
   exact apart_okG mixed (table_ok _ _) ovA_ok hB (table_plain _ _) rfl rfl (by decide) rfl e1 (startB_ok hb)
end Go.Proofs.YtdbmeidhlijopaaDoor.Ev.C

/- What stands for calls while schemas are read is so. -/
namespace Go.Proofs.YtdbmeidhlijopaaDoor.Ev.C
open Go Go.Proofs.YtdbmeidhlijopaaDoor.Ev
set_option linter.unusedVariables false
/-- each stands for itself -/
def OvAll (L:List Ovr):Prop := ∀ p∈L,∀ (B:Nat),B≠0 → ∀ args h r h',p.2 args h=some (r,h')→FnOK PP B p.1 args h (fun r1 h1=>r1=r∧h1=h')
theorem OvAll.nil:OvAll []:=fun p hp=>by cases hp
theorem OvAll.ok {L:List Ovr} (a:OvAll L) (B:Nat) (hB:B≠0):OvOK PP B (ovP ov1 L):=ovP_ok (ov1_ok B hB) fun p hp args h r h'=>a p hp B hB args h r h'
theorem OvAll.add {L M:List Ovr} (a:OvAll L) (m:OvAll M) {f:Nat} {F:List AV→Option AV} (hw : ∀ args v,F args=some v→plainV v=true ∧ ∀ h:H,h.Wf→WCall (EL M) f args h (fun r _=>r = .val v)):OvAll ((f,pureO F)::L):=by
 intro p hp
 rcases List.mem_cons.1 hp with rfl | hp
 · exact fun B hB args h r h' hg=>pureO_ok (E:=EL M) mixed (EL_table M) (fun B hB=>m.ok B hB) hw hB hg
 · exact a p hp
theorem all0:OvAll []:=OvAll.nil
theorem allT0:OvAll LT0:=(((all0.add all0 cut_walk).add all0 gcut_walk).add all0 (txF_walk (fun _=>rfl) gvalid_walk)).add all0 (txF_walk (fun _=>rfl) gname_walk)
theorem allX:OvAll LX:=by
 intro p hp
 rcases List.mem_cons.1 hp with rfl | hp
 · exact fun B hB args h r h' hg=>ov0_ok B hB nAwake yes rfl args h r h' hg
 rcases List.mem_cons.1 hp with rfl | hp
 · exact fun B hB args h r h' hg=>sortE_ok hg
 exact ((allT0.add all0 pref_walk).add allT0 (txF_walk (fun _=>rfl) broken_walk)) p hp
def ovZ:Ovs:=ovP ov1 LX
theorem ovZ_ok : ∀ B,B≠0→OvOK PP B ovZ:=fun B hB=>allX.ok B hB
theorem EL_env:EL LX=env PP ovZ:=by unfold EL env ovZ;rfl
end Go.Proofs.YtdbmeidhlijopaaDoor.Ev.C

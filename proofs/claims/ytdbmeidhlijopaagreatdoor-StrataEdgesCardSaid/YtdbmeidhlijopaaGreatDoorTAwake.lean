/- What stands for calls of law10 is so. -/
import Derived.Test.YtdbmeidhlijopaaGreatDoorRows
import Derived.Test.YtdbmeidhlijopaaGreatDoorTBase
import Derived.Lib.Bytealg
import Derived.Laws.StandIn
import Derived.Test.YtdbmeidhlijopaaGreatDoorTX
namespace Go.Proofs.YtdbmeidhlijopaaGreatDoor.Ev.C
open Go Go.Proofs.YtdbmeidhlijopaaGreatDoor.Ev
set_option linter.unusedVariables false
set_option linter.unusedSimpArgs false

theorem mixed:PP.follows .mixedOrders=true:=Go.Proofs.Tryz.checked.mixed
theorem idxB0 (l:List UInt8) (c:UInt8):idxB l c 0=Lib.indexByte l c:=by
 rw [aXE]
 split
 · rename_i h;rw [h]
 · omega
noncomputable def fnIbs:Func:=(PP.funcs[aAT]?).getD (PP.funcs[0]!)
theorem aZ4:PP.funcs[aAT]? = some fnIbs:=by kernel_rfl
theorem ibs_ok {B:Nat} {args:List AV} {h h':H} {r:AOut} (hg:ibs args h=some (r,h')):FnOK PP B aAT args h (fun r1 h1=>r1=r∧h1=h'):=by
 unfold ibs at hg
 split at hg
 case h_2=>cases hg
 rename_i s c
 cases hg
 intro m w cargs hr hv
 obtain rfl:cargs = [.string ⟨⟨s⟩⟩,.int .u8 c]:=by
  cases hv with
  | cons h1 t =>
   cases h1
   cases t with
   | cons h2 t2=>cases h2;cases t2;rfl
 · refine .inr ⟨.int .i64 (Lib.indexByte s c.toNat.toUInt8),w,?_,?_⟩
   · rw [run_callFunc_indexByte aZ4 (by kernel_rfl) (by kernel_rfl) (by kernel_rfl) (by kernel_rfl)]
     rw [show ((⟨[Value.string ⟨⟨s⟩⟩,Value.int .u8 c]⟩:Array Value)) = #[Value.string ⟨⟨s⟩⟩,Value.int .u8 c] from rfl,Lib.run_indexByteString]
     rfl
   · refine ⟨_,_,⟨rfl,rfl⟩,m,?_,hr,Fr.refl _ _ _ _⟩
     rw [idxB0]
     exact .val (.int _ _)
def ovI:Ovs:=fun f=>if f=aAT then some ibs else none
theorem ovI_ok : ∀ B,B≠0→OvOK PP B ovI:=by
 intro B hB f g hf args h r h' hg
 unfold ovI at hf
 split at hf
 case isFalse=>cases hf
 rename_i e;subst e;cases hf
 exact ibs_ok hg
/-- a call of ContainsRune over the letters answers so -/
def crIs (x:Option (AOut×H)) (b:Bool):Bool:=match x with | some (.val (.bool t),_)=>t==b | _=>false
theorem a1c {x:Option (AOut×H)} {b:Bool} (h:crIs x b=true) : ∃ h1,x=some (.val (.bool b),h1):=by
 unfold crIs at h
 split at h
 · rename_i t h1;exact ⟨h1,by rw [beq_iff_eq.1 h]⟩
 · cases h
set_option maxRecDepth 1000000 in
theorem cr_run:((List.range 161).all fun (c:Nat)=>crIs ((ev (env PP ovI) 400).call (.fn aA3) [.str lettersL,.int .i32 (c:Int)] H0) (aFj c))=true:=by kernel_rfl
theorem cr_ok {B:Nat} (hB:B≠0) {args:List AV} {h h':H} {r:AOut} (hg:crG args h=some (r,h')):FnOK PP B aA3 args h (fun r1 h1=>r1=r∧h1=h'):=by
 unfold crG at hg
 split at hg
 case h_2=>cases hg
 split at hg
 case isFalse=>cases hg
 rename_i hc
 obtain ⟨rfl,h0,h1⟩:=hc
 cases hg
 rename_i c
 obtain ⟨n,rfl⟩:=Int.eq_ofNat_of_zero_le h0
 have:=List.all_eq_true.1 cr_run n (List.mem_range.2 (by omega))
 obtain ⟨hx,hr⟩:=a1c this
 have:=a0u (B0:=B) mixed (aHC _ _) ovI_ok hB (aSu _ _) rfl rfl hr h
 simpa using this
theorem ov1_ok : ∀ B,B≠0→OvOK PP B ov1:=by
 intro B hB f g hf args h r h' hg
 unfold ov1 at hf
 split at hf
 · rename_i e;subst e;cases hf
   exact ibs_ok hg
 · split at hf
   case isFalse=>cases hf
   rename_i e;subst e;cases hf
   exact cr_ok hB hg
theorem a2h {B:Nat} (hB:B≠0) {args:List AV} {h h':H} {r:AOut} (hg:signG args h=some (r,h')):FnOK PP B aAc args h (fun r1 h1=>r1=r∧h1=h'):=by
 have hg':=hg
 unfold signG at hg
 split at hg
 case h_2=>cases hg
 rename_i o i
 have hw:=a24 std1 hg'
 have hok:FnOK PP B aAc [.ptr o i] h (fun r1 h1=>r1=r∧Weak h.n h1 h'):=aLr (E:=E1) mixed (aHC PP ov1) (ov1_ok B hB) hw
 exact hok.weak fun r1 h1 q=>⟨h',q.2,q.1,rfl⟩
def ovA:Ovs:=fun f=>if f=aAT then some ibs else if f=aAc then some signG else none
theorem ovA_ok : ∀ B,B≠0→OvOK PP B ovA:=by
 intro B hB f g hf args h r h' hg
 unfold ovA at hf
 split at hf
 · rename_i e;subst e;cases hf
   exact ibs_ok hg
 · split at hf
   case isFalse=>cases hf
   rename_i e;subst e;cases hf
   exact a2h hB hg
def outIs (x:Option (AOut×H)):Bool:=match x with | some (.val (.bool true),_)=>true | _=>false
theorem a3L {x:Option (AOut×H)} (h:outIs x=true) : ∃ h1,x=some (.val (.bool true),h1):=by
 unfold outIs at h
 split at h
 · exact ⟨_,rfl⟩
 · cases h
set_option maxRecDepth 1000000 in
theorem aZ5:outIs ((ev (env PP ovA) 3000).call (.fn nAwake) [] (HG g_token_keys 4 (aBU keysL)))=true:=by kernel_rfl
theorem ov0_ok : ∀ B,B≠0→OvOK PP B ov0:=by
 intro B hB f g hf args h r h' hg
 unfold ov0 at hf
 split at hf
 · rename_i e;subst e;cases hf
   exact ibs_ok hg
 split at hf
 · rename_i e;subst e;cases hf
   exact cr_ok hB hg
 · split at hf
   case isFalse=>cases hf
   rename_i e;subst e;cases hf
   obtain ⟨h1,e1⟩:=a3L aZ5
   unfold yes at hg
   split at hg
   case h_2=>cases hg
   split at hg
   case isFalse=>cases hg
   rename_i hb
   cases hg
   exact aZf mixed (aHC _ _) ovA_ok hB (aSu _ _) rfl rfl (by decide) rfl e1 (aR5 hb)
end Go.Proofs.YtdbmeidhlijopaaGreatDoor.Ev.C

/- What stands for calls while schemas are read is so. -/
namespace Go.Proofs.YtdbmeidhlijopaaGreatDoor.Ev.C
open Go Go.Proofs.YtdbmeidhlijopaaGreatDoor.Ev
set_option linter.unusedVariables false
/-- each stands for itself -/
def OvAll (L:List Ovr):Prop := ∀ p∈L,∀ (B:Nat),B≠0 → ∀ args h r h',p.2 args h=some (r,h')→FnOK PP B p.1 args h (fun r1 h1=>r1=r∧h1=h')
theorem OvAll.nil:OvAll []:=fun p hp=>by cases hp
theorem OvAll.ok {L:List Ovr} (a:OvAll L) (B:Nat) (hB:B≠0):OvOK PP B (ovP ov1 L):=ovP_ok (ov1_ok B hB) fun p hp args h r h'=>a p hp B hB args h r h'
theorem OvAll.add {L M:List Ovr} (a:OvAll L) (m:OvAll M) {f:Nat} {F:List AV→Option AV} (hw : ∀ args v,F args=some v→plainV v=true ∧ ∀ h:H,h.Wf→WCall (EL M) f args h (fun r _=>r = .val v)):OvAll ((f,pureO F)::L):=by
 intro p hp
 rcases List.mem_cons.1 hp with rfl | hp
 · exact fun B hB args h r h' hg=>a0r (E:=EL M) mixed (a0s M) (fun B hB=>m.ok B hB) hw hB hg
 · exact a p hp
theorem all0:OvAll []:=OvAll.nil
theorem allT0:OvAll LT0:=(((all0.add all0 a0j).add all0 aZR).add all0 (aTd (fun _=>rfl) aXi)).add all0 (aTd (fun _=>rfl) aYh)
theorem allX:OvAll LX:=by
 intro p hp
 rcases List.mem_cons.1 hp with rfl | hp
 · exact fun B hB args h r h' hg=>ov0_ok B hB nAwake yes rfl args h r h' hg
 rcases List.mem_cons.1 hp with rfl | hp
 · exact fun B hB args h r h' hg=>a1I hg
 exact ((allT0.add all0 aZY).add allT0 (aTd (fun _=>rfl) aXq)) p hp
def ovZ:Ovs:=ovP ov1 LX
theorem ovZ_ok : ∀ B,B≠0→OvOK PP B ovZ:=fun B hB=>allX.ok B hB
theorem EL_env:EL LX=env PP ovZ:=by unfold EL env ovZ;rfl
end Go.Proofs.YtdbmeidhlijopaaGreatDoor.Ev.C

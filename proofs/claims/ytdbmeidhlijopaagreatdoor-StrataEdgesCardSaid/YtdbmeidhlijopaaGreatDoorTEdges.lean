/- The answer of the law StrataEdges, for every input: over the interpreter. -/
import Derived.Test.YtdbmeidhlijopaaGreatDoorTWEdges
import Derived.Test.YtdbmeidhlijopaaGreatDoorTAwake
import Derived.Test.YtdbmeidhlijopaaGreatDoorCards
import Derived.Test.YtdbmeidhlijopaaGreatDoorTie
import Derived.WalkKit
import Derived.ProofKit
import Derived.OpenShut
import Derived.ShutString
import Derived.ChangeOld
import Derived.Below
import Derived.SizedLaws
import Derived.Deep.DeepHandedRow
import Derived.Deep.DeepWitnessRowRef
import Derived.Lib.LaidTab
namespace Go.Proofs.YtdbmeidhlijopaaGreatDoor
open Go Go.Proofs.YtdbmeidhlijopaaGreatDoor.Ev
set_option linter.unusedVariables false
theorem aRf {h:H} (a0:ByteArray) (ks:C.KStart h) (wf:h.Wf) (w0:a0.size≤140737488351232) :
 WCall (env C.PP C.ovZ) C.aDA [.str a0.data.toList] h fun r _=>r = .val (.bool true):=by
 rw [← C.EL_env]
 exact C.aWl ks wf _ (by rw [Array.length_toList];exact Nat.lt_of_le_of_lt w0 (by decide))
end Go.Proofs.YtdbmeidhlijopaaGreatDoor

/- The law StrataEdges holds for every input: its call returns true, on every tape. Conditions: none but those of the given statement itself (arguments of the types of its parameters). -/
namespace Go.Proofs.YtdbmeidhlijopaaGreatDoor.strataEdges
open Go.ChangeShapes Go.WideShapes Go.ChangeAt Go.RowKit Go.Proofs.YtdbmeidhlijopaaGreatDoor.Ev
open Go.ChangeMaps (open_string shut_string)
set_option linter.unusedVariables false
theorem own:ownKnob Tryz.prog.godebug=none:=by kernel_rfl
theorem gKeys : Tryz.prog.globalNamed "doorman/token.keys" = some Go.Proofs.YtdbmeidhlijopaaGreatDoor.Ev.C.g_token_keys := by kernel_rfl
theorem gType:(Tryz.prog.globals[Go.Proofs.YtdbmeidhlijopaaGreatDoor.Ev.C.g_token_keys]?).map (·.type)=some 46:=by kernel_rfl
/-- a world that holds the list -/
noncomputable def aMY (os:Os):World :=
 let N:=(World.settled Tryz.prog os).heap.size
 let w0:=World.holding Tryz.prog os ⟨#[.cells #[.string ⟨#[116,121,112,101]⟩,.string ⟨#[114,101,108]⟩,.string ⟨#[105,115]⟩,.string ⟨#[116,104,105,115]⟩] 9],#[],[]⟩
 { w0 with heap:=w0.heap.modify Go.Proofs.YtdbmeidhlijopaaGreatDoor.Ev.C.g_token_keys fun
  | .cells _ t frozen => .cells #[.slice (some ⟨N,0,none⟩) 4 4] t frozen
  | o=>o }
set_option maxRecDepth 100000 in
theorem a0b (os:Os):laidMet Tryz.prog Rows.strataEdgesRow.laid ((aMY os).forCall (fun _ _=>0) ⟨#[],#[.string ByteArray.empty],[]⟩).memory :=
 laidMet_of_run' 8 (by kernel_rfl) (by kernel_rfl)
set_option maxRecDepth 100000 in
theorem reads (os:Os) {H:Type} (enc:TypeId×Value→H) : ∃ places,DataW.whole enc Tryz.prog ((aMY os).forCall (fun _ _=>0) ⟨#[],#[.string ByteArray.empty],[]⟩).memory Tryz.f3.params.toList Rows.strataEdgesSpec.vars false (#[.string ByteArray.empty]:Array Value).toList 8=some ([.lit (.string [])],[],places):=by
 have hw:(DataW.whole enc Tryz.prog ((aMY os).forCall (fun _ _=>0) ⟨#[],#[.string ByteArray.empty],[]⟩).memory Tryz.f3.params.toList Rows.strataEdgesSpec.vars false (#[.string ByteArray.empty]:Array Value).toList 8).map (fun x=>(x.1,x.2.1))=some ([.lit (.string [])],[]):=by kernel_rfl
 obtain ⟨⟨x1,x2,x3⟩,hx,hx1⟩:=Option.map_eq_some_iff.1 hw
 simp only [Prod.mk.injEq] at hx1
 obtain ⟨rfl,rfl⟩:=hx1
 exact ⟨x3,hx⟩
set_option maxRecDepth 100000 in
theorem lifted (os:Os) (started:os.Started) (H:Type) (enc:TypeId×Value→H) (F:Stop.Interp) :
 ReturnsInHanded {} Tryz.checked os 3 .any ((OpenSpec.ofChange Rows.strataEdgesSpec).preRow enc Tryz.prog Tryz.f3 Rows.strataEdgesRow.domain false Rows.strataEdgesRow.laid) (((OpenSpec.ofChange Rows.strataEdgesSpec).at F).post enc Tryz.prog Tryz.f3 false true false false):=by
 obtain ⟨places,hx⟩:=reads os enc
 refine returnsInHanded_of_row (C:=Tryz.checked) (s:=OpenSpec.ofChange Rows.strataEdgesSpec) own started (by kernel_rfl) Tryz.func3
  (witness_row_atRef (enc:=enc) (C:=Tryz.checked) false (aMY os) #[.string ByteArray.empty] rfl (by kernel_rfl) (by kernel_rfl) (by kernel_rfl)
   (OpenSpec.preRow_of_cond 8 hx (by kernel_rfl) (fun k hk=>by cases hk) (by kernel_rfl) (a0b os))) ?_
 intro W base args ds gs before hval0 hW hcnd _ hsz0 hL _ _
 have hsz:(DataW.weightsEach Tryz.prog (Tryz.f3.params.toList++Rows.strataEdgesSpec.plain.varTypes Tryz.prog) (ds++gs)).all (· ≤ reachBytes)=true:=hsz0
 have hval : ∀ (j:Nat) t v,Tryz.f3.params[j]? = some t→args[j]? = some v→Value.okWide Tryz.prog W .any base t v:=hval0
 have hW':=hW
 obtain ⟨p,q,hA0,hV,rfl,hfz,hnd⟩:=hW
 have hA:DataW.TrodAll enc Tryz.prog W 0 (fun _=>true) true Tryz.f3.params.toList args.toList ds p:=hA0
 rw [Tryz.params3] at hA hval hsz
 obtain ⟨v0,vs0,d0,ds0,p0,q0,hargs,rfl,rfl,h0,r0⟩:=trodAll_cons hA
 obtain ⟨rfl,rfl,rfl⟩:=trodAll_nil r0
 obtain rfl:args = #[v0]:=by cases args;simp_all
 obtain ⟨rfl,rfl⟩:=trodVars_none hV
 obtain ⟨m0,hp0,R0,ks0⟩ : ∃ m h,Rel Tryz.prog W.heap.size m h W∧Go.Proofs.YtdbmeidhlijopaaGreatDoor.Ev.C.KStart h:=by
  obtain ⟨mS, hr⟩ := aYa (P := Tryz.prog) (W := W) (name := "doorman/token.keys") (l := Go.Proofs.YtdbmeidhlijopaaGreatDoor.Ev.C.keysL) (rest := []) hL gKeys gType Tryz.underlying46 (Tryz.underlying9) (by kernel_rfl) (by decide)
  exact ⟨mS,_,hr,StartG.hg _ _ _⟩
 have hpos:0<W.heap.size:=Nat.lt_of_le_of_lt (Nat.zero_le _) (R0.gb ks0.glob).1
 obtain ⟨a0,rfl,rfl,rfl,y0⟩:=open_string Tryz.underlying9 (hval 0 9 v0 rfl rfl) h0
 have w0:a0.size≤140737488351232:=by
  have z:=sized_string hsz (j:=0) (t:=9) rfl rfl
  rw [Array.length_toList] at z
  exact z
 clear hA0 hval0 hsz0 hsz
 refine (a0C (P:=Tryz.prog) (ov:=Go.Proofs.YtdbmeidhlijopaaGreatDoor.Ev.C.ovZ) (Tryz.checked).mixed Go.Proofs.YtdbmeidhlijopaaGreatDoor.Ev.C.ovZ_ok Tryz.func3 (by decide +kernel) (by kernel_rfl) (Nat.pos_iff_ne_zero.1 hpos) R0 (.cons (VRel.of_string a0) .nil) (aRf a0 ks0 R0.wf w0)).mono fun e W' ⟨he,bel⟩ => ?_
 subst he
 exact ⟨_,rfl,_,_,_,[],_,[],hW',trodAll_mk1 (shut_bool Tryz.underlying4 _),(trodAll_cons_mk (shut_string Tryz.underlying9 y0) trodAll_mk0),rfl,bel.frame _,fun h=>by cases h⟩
theorem said:Rows.StrataEdgesSaid :=
 OpenClaim.holds_of_cond 3 Tryz.f3 rfl rfl rfl rfl rfl rfl rfl ⟨rfl,rfl,rfl,rfl,rfl⟩ rfl rfl rfl rfl rfl (by kernel_rfl) Tryz.func3 (by kernel_rfl)
  (of_decide_eq_true (by kernel_rfl)) (by unfold Func.isWrapper;first | (rw [if_pos (by decide +kernel)];kernel_rfl) | (rw [if_neg (by decide +kernel)];exact ⟨rfl,rfl⟩))
  (fun os started H enc _ F=>by rw [OpenClaim.pre_eq_preRow];exact lifted os started H enc F)
theorem plain (f : FuncId) (fn : Func) (hf : Tryz.pinned.checked.prog.funcNamed "doorman/doormanlaw10.StrataEdges" = some f) (hfn : Tryz.pinned.checked.prog.funcs[f]? = some fn) :
 true=Tryz.pinned.checked.prog.looks [] ∧ ∀ (j:Nat) t,fn.params[j]? = some t→Tryz.pinned.checked.prog.wantsStandIn t=false:=by
 obtain rfl : f = 3 := Option.some.inj ((show Tryz.prog.funcNamed "doorman/doormanlaw10.StrataEdges" = some 3 by kernel_rfl).symm.trans hf) |>.symm
 obtain rfl:fn=Tryz.f3:=(Option.some.inj (Tryz.func3.symm.trans hfn)).symm
 refine ⟨by kernel_rfl,fun j t ht => ?_⟩
 rw [Tryz.params3] at ht
 have hm:t ∈ #[9]:=Array.mem_of_getElem? ht
 simp only [List.mem_toArray,List.mem_cons,List.not_mem_nil,or_false] at hm
 rcases hm with rfl
 · exact (show Tryz.prog.wantsStandIn 9=false by kernel_rfl)
theorem card:Rows.StrataEdgesCardSaid :=
 Claim7.holds_tied_plain_at .later [] _ _ _ _ said (fun _ h=>by cases h) (by kernel_rfl) (fun _ h=>by cases h) strataEdges_row_tie rfl ⟨rfl,rfl⟩ (by kernel_rfl) rfl plain (by kernel_rfl)
end Go.Proofs.YtdbmeidhlijopaaGreatDoor.strataEdges
namespace Go.Proofs.YtdbmeidhlijopaaGreatDoor
theorem strataEdges_holds:Rows.StrataEdgesCardSaid:=strataEdges.card
end Go.Proofs.YtdbmeidhlijopaaGreatDoor


/- The answer of the law StrataRight, for every input: over the interpreter. -/
import Derived.Test.YtdbmeidhlijopaaDoorTWRight
import Derived.Test.YtdbmeidhlijopaaDoorTAwake
import Derived.Test.YtdbmeidhlijopaaDoorCards
import Derived.Test.YtdbmeidhlijopaaDoorTie
import Derived.WalkKit
import Derived.ProofKit
import Derived.OpenShut
import Derived.ShutString
import Derived.ChangeOld
import Derived.Below
import Derived.SizedLaws
import Derived.Deep.DeepHandedRow
import Derived.Deep.DeepWitnessRowRef
import Derived.Lib.LaidTab
namespace Go.Proofs.YtdbmeidhlijopaaDoor
open Go Go.Proofs.YtdbmeidhlijopaaDoor.Ev
set_option linter.unusedVariables false
theorem strataRight_answer {h:H} (a0:ByteArray) (ks:C.KStart h) (wf:h.Wf) (w0:a0.size≤140737488351232) :
 WCall (env C.PP C.ovZ) C.n_doormanlaw10_StrataRight [.str a0.data.toList] h fun r _=>r = .val (.bool true):=by
 rw [← C.EL_env]
 exact C.right_answer ks wf _ (by rw [Array.length_toList];exact Nat.lt_of_le_of_lt w0 (by decide))
end Go.Proofs.YtdbmeidhlijopaaDoor

/- The law StrataRight holds for every input: its call returns true, on every tape. Conditions: none but those of the given statement itself (arguments of the types of its parameters). -/
namespace Go.Proofs.YtdbmeidhlijopaaDoor.strataRight
open Go.ChangeShapes Go.WideShapes Go.ChangeAt Go.RowKit Go.Proofs.YtdbmeidhlijopaaDoor.Ev
open Go.ChangeMaps (open_string shut_string)
set_option linter.unusedVariables false
theorem own:ownKnob Tryd.prog.godebug=none:=by kernel_rfl
theorem gKeys : Tryd.prog.globalNamed "doorman/token.keys" = some Go.Proofs.YtdbmeidhlijopaaDoor.Ev.C.g_token_keys := by kernel_rfl
theorem gType:(Tryd.prog.globals[Go.Proofs.YtdbmeidhlijopaaDoor.Ev.C.g_token_keys]?).map (·.type)=some 100:=by kernel_rfl
/-- a world that holds the list -/
noncomputable def laidWorld (os:Os):World :=
 let N:=(World.settled Tryd.prog os).heap.size
 let w0:=World.holding Tryd.prog os ⟨#[.cells #[.string ⟨#[116,121,112,101]⟩,.string ⟨#[114,101,108]⟩,.string ⟨#[105,115]⟩,.string ⟨#[116,104,105,115]⟩] 9],#[],[]⟩
 { w0 with heap:=w0.heap.modify Go.Proofs.YtdbmeidhlijopaaDoor.Ev.C.g_token_keys fun
  | .cells _ t frozen => .cells #[.slice (some ⟨N,0,none⟩) 4 4] t frozen
  | o=>o }
set_option maxRecDepth 100000 in
theorem laid_met (os:Os):laidMet Tryd.prog Rows.strataRightRow.laid ((laidWorld os).forCall (fun _ _=>0) ⟨#[],#[.string ByteArray.empty],[]⟩).memory :=
 laidMet_of_run' 8 (by kernel_rfl) (by kernel_rfl)
set_option maxRecDepth 100000 in
theorem reads (os:Os) {H:Type} (enc:TypeId×Value→H) : ∃ places,DataW.whole enc Tryd.prog ((laidWorld os).forCall (fun _ _=>0) ⟨#[],#[.string ByteArray.empty],[]⟩).memory Tryd.f3.params.toList Rows.strataRightSpec.vars false (#[.string ByteArray.empty]:Array Value).toList 8=some ([.lit (.string [])],[],places):=by
 have hw:(DataW.whole enc Tryd.prog ((laidWorld os).forCall (fun _ _=>0) ⟨#[],#[.string ByteArray.empty],[]⟩).memory Tryd.f3.params.toList Rows.strataRightSpec.vars false (#[.string ByteArray.empty]:Array Value).toList 8).map (fun x=>(x.1,x.2.1))=some ([.lit (.string [])],[]):=by kernel_rfl
 obtain ⟨⟨x1,x2,x3⟩,hx,hx1⟩:=Option.map_eq_some_iff.1 hw
 simp only [Prod.mk.injEq] at hx1
 obtain ⟨rfl,rfl⟩:=hx1
 exact ⟨x3,hx⟩
set_option maxRecDepth 100000 in
theorem lifted (os:Os) (started:os.Started) (H:Type) (enc:TypeId×Value→H) (F:Stop.Interp) :
 ReturnsInHanded {} Tryd.checked os 3 .any ((OpenSpec.ofChange Rows.strataRightSpec).preRow enc Tryd.prog Tryd.f3 Rows.strataRightRow.domain false Rows.strataRightRow.laid) (((OpenSpec.ofChange Rows.strataRightSpec).at F).post enc Tryd.prog Tryd.f3 false true false false):=by
 obtain ⟨places,hx⟩:=reads os enc
 refine returnsInHanded_of_row (C:=Tryd.checked) (s:=OpenSpec.ofChange Rows.strataRightSpec) own started (by kernel_rfl) Tryd.func3
  (witness_row_atRef (enc:=enc) (C:=Tryd.checked) false (laidWorld os) #[.string ByteArray.empty] rfl (by kernel_rfl) (by kernel_rfl) (by kernel_rfl)
   (OpenSpec.preRow_of_cond 8 hx (by kernel_rfl) (fun k hk=>by cases hk) (by kernel_rfl) (laid_met os))) ?_
 intro W base args ds gs before hval0 hW hcnd _ hsz0 hL _ _
 have hsz:(DataW.weightsEach Tryd.prog (Tryd.f3.params.toList++Rows.strataRightSpec.plain.varTypes Tryd.prog) (ds++gs)).all (· ≤ reachBytes)=true:=hsz0
 have hval : ∀ (j:Nat) t v,Tryd.f3.params[j]? = some t→args[j]? = some v→Value.okWide Tryd.prog W .any base t v:=hval0
 have hW':=hW
 obtain ⟨p,q,hA0,hV,rfl,hfz,hnd⟩:=hW
 have hA:DataW.TrodAll enc Tryd.prog W 0 (fun _=>true) true Tryd.f3.params.toList args.toList ds p:=hA0
 rw [Tryd.params3] at hA hval hsz
 obtain ⟨v0,vs0,d0,ds0,p0,q0,hargs,rfl,rfl,h0,r0⟩:=trodAll_cons hA
 obtain ⟨rfl,rfl,rfl⟩:=trodAll_nil r0
 obtain rfl:args = #[v0]:=by cases args;simp_all
 obtain ⟨rfl,rfl⟩:=trodVars_none hV
 obtain ⟨m0,hp0,R0,ks0⟩ : ∃ m h,Rel Tryd.prog W.heap.size m h W∧Go.Proofs.YtdbmeidhlijopaaDoor.Ev.C.KStart h:=by
  obtain ⟨mS, hr⟩ := start_laid (P := Tryd.prog) (W := W) (name := "doorman/token.keys") (l := Go.Proofs.YtdbmeidhlijopaaDoor.Ev.C.keysL) (rest := []) hL gKeys gType Tryd.underlying100 (Tryd.underlying9) (by kernel_rfl) (by decide)
  exact ⟨mS,_,hr,StartG.hg _ _ _⟩
 have hpos:0<W.heap.size:=Nat.lt_of_le_of_lt (Nat.zero_le _) (R0.gb ks0.glob).1
 obtain ⟨a0,rfl,rfl,rfl,y0⟩:=open_string Tryd.underlying9 (hval 0 9 v0 rfl rfl) h0
 have w0:a0.size≤140737488351232:=by
  have z:=sized_string hsz (j:=0) (t:=9) rfl rfl
  rw [Array.length_toList] at z
  exact z
 clear hA0 hval0 hsz0 hsz
 refine (law_calls (P:=Tryd.prog) (ov:=Go.Proofs.YtdbmeidhlijopaaDoor.Ev.C.ovZ) (Tryd.checked).mixed Go.Proofs.YtdbmeidhlijopaaDoor.Ev.C.ovZ_ok Tryd.func3 (by decide +kernel) (by kernel_rfl) (Nat.pos_iff_ne_zero.1 hpos) R0 (.cons (VRel.of_string a0) .nil) (strataRight_answer a0 ks0 R0.wf w0)).mono fun e W' ⟨he,bel⟩ => ?_
 subst he
 exact ⟨_,rfl,_,_,_,[],_,[],hW',trodAll_mk1 (shut_bool Tryd.underlying4 _),(trodAll_cons_mk (shut_string Tryd.underlying9 y0) trodAll_mk0),rfl,bel.frame _,fun h=>by cases h⟩
theorem said:Rows.StrataRightSaid :=
 OpenClaim.holds_of_cond 3 Tryd.f3 rfl rfl rfl rfl rfl rfl rfl ⟨rfl,rfl,rfl,rfl,rfl⟩ rfl rfl rfl rfl rfl (by kernel_rfl) Tryd.func3 (by kernel_rfl)
  (of_decide_eq_true (by kernel_rfl)) (by unfold Func.isWrapper;first | (rw [if_pos (by decide +kernel)];kernel_rfl) | (rw [if_neg (by decide +kernel)];exact ⟨rfl,rfl⟩))
  (fun os started H enc _ F=>by rw [OpenClaim.pre_eq_preRow];exact lifted os started H enc F)
theorem plain (f : FuncId) (fn : Func) (hf : Tryd.pinned.checked.prog.funcNamed "doorman/doormanlaw10.StrataRight" = some f) (hfn : Tryd.pinned.checked.prog.funcs[f]? = some fn) :
 true=Tryd.pinned.checked.prog.looks [] ∧ ∀ (j:Nat) t,fn.params[j]? = some t→Tryd.pinned.checked.prog.wantsStandIn t=false:=by
 obtain rfl : f = 3 := Option.some.inj ((show Tryd.prog.funcNamed "doorman/doormanlaw10.StrataRight" = some 3 by kernel_rfl).symm.trans hf) |>.symm
 obtain rfl:fn=Tryd.f3:=(Option.some.inj (Tryd.func3.symm.trans hfn)).symm
 refine ⟨by kernel_rfl,fun j t ht => ?_⟩
 rw [Tryd.params3] at ht
 have hm:t ∈ #[9]:=Array.mem_of_getElem? ht
 simp only [List.mem_toArray,List.mem_cons,List.not_mem_nil,or_false] at hm
 rcases hm with rfl
 · exact (show Tryd.prog.wantsStandIn 9=false by kernel_rfl)
theorem card:Rows.StrataRightCardSaid :=
 Claim7.holds_tied_plain_at .later [] _ _ _ _ said (fun _ h=>by cases h) (by kernel_rfl) (fun _ h=>by cases h) strataRight_row_tie rfl ⟨rfl,rfl⟩ (by kernel_rfl) rfl plain (by kernel_rfl)
end Go.Proofs.YtdbmeidhlijopaaDoor.strataRight
namespace Go.Proofs.YtdbmeidhlijopaaDoor
theorem strataRight_holds:Rows.StrataRightCardSaid:=strataRight.card
end Go.Proofs.YtdbmeidhlijopaaDoor


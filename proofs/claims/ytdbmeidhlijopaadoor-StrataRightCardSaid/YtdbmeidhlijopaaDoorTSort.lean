/- How two edges stand: strata.compare, with no function stood for. -/
import Derived.Test.YtdbmeidhlijopaaDoorTLevels
import Derived.Test.YtdbmeidhlijopaaDoorTD
import Derived.Test.YtdbmeidhlijopaaDoorProg
import Derived.Shelf.SlSortCmp.NoneTotal
import Derived.Shelf.SlGeneric
import Derived.Ground.SlsfProg
import Derived.Test.YtdbmeidhlijopaaDoorEv34
import Derived.Test.YtdbmeidhlijopaaDoorRows
namespace Go.Proofs.YtdbmeidhlijopaaDoor.Ev.C
open Go Go.Proofs.YtdbmeidhlijopaaDoor.Ev
set_option linter.unusedSimpArgs false
set_option linter.unusedVariables false
noncomputable def EZ:Env:=env PP (fun _=>none)
theorem EZ_T {i:Nat} {a:AFunc} (h:table PP i=some a):EZ.T i=some a:=by unfold EZ env;rw [env_T];exact h
theorem EZ_ov (f:Nat):EZ.ov f=none:=by unfold EZ env;rw [env_ov]
def cmpI (a b:Int):Int:=if a<b then -1 else if b<a then 1 else 0
theorem isNaN_spec (a:Int) (h:H):WCall EZ n_cmp_isNaN_int [.int .i64 a] h fun r h'=>r = .val (.bool false)∧h'=h:=by
 refine WCall_ws (EZ_ov _) (EZ_T T_cmp_isNaN_int) (by simp [cmp_isNaN_int_a]) ?_
 refine WS_of_seq (WS_of_ops ?_)
 simp only [cmp_isNaN_int_r0,go_sem,↓reduceIte,Nat.reduceEqDiff]
 refine WS_of_seq (WS_of_ops ?_)
 simp only [cmp_isNaN_int_r1,go_sem,↓reduceIte,Nat.reduceEqDiff,enterS,List.getD_cons_zero,List.getD_cons_succ,decide_true,Bool.not_true]
 refine WS_of_ret ?_
 simp only [cmp_isNaN_int_a,go_sem,↓reduceIte,Nat.reduceEqDiff]
 exact ⟨trivial,trivial⟩
theorem cmpInt_spec (a b:Int) (h:H):WCall EZ n_cmp_Compare_int [.int .i64 a,.int .i64 b] h fun r h'=>r = .val (.int .i64 (cmpI a b))∧h'=h:=by
 refine WCall_ws (EZ_ov _) (EZ_T T_cmp_Compare_int) (by simp [cmp_Compare_int_a]) ?_
 refine WS_of_seq (WS_of_ops ?_)
 simp only [cmp_Compare_int_r0,go_sem,↓reduceIte,Nat.reduceEqDiff]
 refine WS_of_seq (WS_of_ops ?_)
 simp only [cmp_Compare_int_r1,go_sem,↓reduceIte,Nat.reduceEqDiff,enterS,List.getD_cons_zero,List.getD_cons_succ]
 refine (isNaN_spec a h).mono ?_
 rintro _ h ⟨rfl,rfl⟩
 simp only [go_sem,↓reduceIte,Nat.reduceEqDiff]
 refine WS_of_seq (WS_of_ops ?_)
 simp only [cmp_Compare_int_r2,go_sem,↓reduceIte,Nat.reduceEqDiff,enterS,List.getD_cons_zero,List.getD_cons_succ]
 refine (isNaN_spec b h).mono ?_
 rintro _ h ⟨rfl,rfl⟩
 simp only [go_sem,↓reduceIte,Nat.reduceEqDiff]
 refine WS_of_seq (WS_of_seq (WS_of_ops ?_))
 simp only [cmp_Compare_int_r3,go_sem,↓reduceIte,Nat.reduceEqDiff]
 refine WS_of_cond ?_
 simp only [go_sem,↓reduceIte,Nat.reduceEqDiff,Bool.false_eq_true]
 refine WS_of_skip ?_
 simp only [go_sem,↓reduceIte,Nat.reduceEqDiff]
 refine WS_of_seq (WS_of_seq (WS_of_ops ?_))
 simp only [cmp_Compare_int_r7,go_sem,↓reduceIte,Nat.reduceEqDiff]
 refine WS_of_cond ?_
 simp only [go_sem,↓reduceIte,Nat.reduceEqDiff,Bool.false_eq_true]
 refine WS_of_skip ?_
 simp only [go_sem,↓reduceIte,Nat.reduceEqDiff]
 refine WS_of_seq (WS_of_seq (WS_of_ops ?_))
 simp only [cmp_Compare_int_r9,go_sem,↓reduceIte,Nat.reduceEqDiff,enterS,List.getD_cons_zero,List.getD_cons_succ]
 refine WS_of_cond ?_
 by_cases h1:a<b
 · simp only [go_sem,↓reduceIte,Nat.reduceEqDiff,h1,decide_true]
   refine WS_of_seq (WS_of_ops ?_)
   simp only [cmp_Compare_int_r10,go_sem,↓reduceIte,Nat.reduceEqDiff]
   refine WS_of_ret ?_
   simp only [cmp_Compare_int_a,go_sem,↓reduceIte,Nat.reduceEqDiff]
   exact ⟨by simp [cmpI,h1],trivial⟩
 simp only [go_sem,↓reduceIte,Nat.reduceEqDiff,h1,decide_false,Bool.false_eq_true]
 refine WS_of_skip ?_
 simp only [go_sem,↓reduceIte,Nat.reduceEqDiff]
 refine WS_of_seq (WS_of_seq (WS_of_ops ?_))
 simp only [cmp_Compare_int_r11,go_sem,↓reduceIte,Nat.reduceEqDiff,enterS,List.getD_cons_zero,List.getD_cons_succ]
 refine WS_of_cond ?_
 by_cases h2:b<a
 · simp only [go_sem,↓reduceIte,Nat.reduceEqDiff,h2,decide_true]
   refine WS_of_seq (WS_of_ops ?_)
   simp only [cmp_Compare_int_r12,go_sem,↓reduceIte,Nat.reduceEqDiff]
   refine WS_of_ret ?_
   simp only [cmp_Compare_int_a,go_sem,↓reduceIte,Nat.reduceEqDiff]
   exact ⟨by simp [cmpI,h1,h2],trivial⟩
 simp only [go_sem,↓reduceIte,Nat.reduceEqDiff,h2,decide_false,Bool.false_eq_true]
 refine WS_of_skip ?_
 simp only [go_sem,↓reduceIte,Nat.reduceEqDiff]
 refine WS_of_seq (WS_of_ops ?_)
 simp only [cmp_Compare_int_r13,go_sem,↓reduceIte,Nat.reduceEqDiff]
 refine WS_of_ret ?_
 simp only [cmp_Compare_int_a,go_sem,↓reduceIte,Nat.reduceEqDiff]
 exact ⟨by simp [cmpI,h1,h2],trivial⟩
theorem worth_spec (e:Ed) (h:H) (wf:h.Wf):WCall EZ n_strata_compare_1 [.agg (edC e)] h fun r h'=>r = .val (.int .i64 (wt e.2.2:Int))∧Keep (Old h.n) h h':=by
 obtain ⟨h1,hg1,b1,k1,w1,n1⟩:=new_box wf (edC e)
 have m:loadA h1 false 1 (.ptr h.n 2)=some (.bool e.2.2):=b1.load 1 2
 refine WCall_ws (EZ_ov _) (EZ_T T_strata_compare_1) (by simp [strata_compare_1_a]) ?_
 refine WS_of_seq (WS_of_ops ?_)
 simp only [strata_compare_1_r0,go_sem,↓reduceIte,Nat.reduceEqDiff,enterS,List.getD_cons_zero,List.getD_cons_succ,AV.cells,hg1]
 refine WS_of_seq (WS_of_seq (WS_of_ops ?_))
 simp only [strata_compare_1_r1,go_sem,↓reduceIte,Nat.reduceEqDiff,fieldAddrA,Nat.zero_add,Nat.add_zero,Nat.reduceAdd,m]
 refine WS_of_cond ?_
 cases hb:e.2.2
 · simp only [go_sem,↓reduceIte,Nat.reduceEqDiff,Bool.false_eq_true]
   refine WS_of_skip ?_
   simp only [go_sem,↓reduceIte,Nat.reduceEqDiff]
   refine WS_of_seq (WS_of_ops ?_)
   simp only [strata_compare_1_r3,go_sem,↓reduceIte,Nat.reduceEqDiff]
   refine WS_of_ret ?_
   simp only [strata_compare_1_a,go_sem,↓reduceIte,Nat.reduceEqDiff]
   exact ⟨rfl,k1⟩
 · simp only [go_sem,↓reduceIte,Nat.reduceEqDiff]
   refine WS_of_seq (WS_of_ops ?_)
   simp only [strata_compare_1_r2,go_sem,↓reduceIte,Nat.reduceEqDiff]
   refine WS_of_ret ?_
   simp only [strata_compare_1_a,go_sem,↓reduceIte,Nat.reduceEqDiff]
   exact ⟨rfl,k1⟩
def orI:List Int→Int
 | []=>0
 | a::l=>if a=0 then orI l else a
theorem orInt_spec {v:AV} {l:List Int} {h:H} (b:Sl h 1 v l.length (l.map intC)) (hl:l.length<4611686018427387904):WCall EZ n_cmp_Or_int [v] h fun r h'=>r = .val (.int .i64 (orI l))∧h'=h:=by
 refine WCall_ws (EZ_ov _) (EZ_T T_cmp_Or_int) (by simp [cmp_Or_int_a]) ?_
 refine WS_of_seq (WS_of_ops ?_)
 simp only [cmp_Or_int_r0,go_sem,↓reduceIte,Nat.reduceEqDiff]
 refine WS_of_seq (WS_of_ops ?_)
 simp only [cmp_Or_int_r1,go_sem,↓reduceIte,Nat.reduceEqDiff]
 refine WS_of_seq (WS_of_seq (WS_of_ops ?_))
 simp only [cmp_Or_int_r2,go_sem,↓reduceIte,Nat.reduceEqDiff,enterS,List.getD_cons_zero,List.getD_cons_succ,b.len]
 refine for_loop hl (fun j s g=>g=h∧orI (l.drop j)=orI l∧s 0=v∧s 6=v∧s 3 = .int .i64 0) (by decide) ?_ rfl rfl ⟨rfl,rfl,rfl,rfl,rfl⟩ ?_ ?_
 · rintro j s g t v (rfl | rfl | rfl) ⟨a,b,c,d,e⟩ <;> exact ⟨a,b,c,d,e⟩
 · rintro j s g hj ⟨rfl,y1,y0,y6,y3⟩ z1 z2
   obtain ⟨p,e1,e2⟩:=b.at hj .i64
   rw [List.getElem?_map,List.getElem?_eq_getElem hj,Option.map_some] at e2
   rw [List.drop_eq_getElem_cons hj] at y1
   simp only [orI] at y1
   refine WS_of_seq (WS_of_ops ?_)
   simp only [cmp_Or_int_r4,go_sem,↓reduceIte,Nat.reduceEqDiff,y6,z1,e1,e2]
   refine WS_of_seq (WS_of_ops ?_)
   simp only [cmp_Or_int_r5,go_sem,↓reduceIte,Nat.reduceEqDiff,y3,intC]
   refine WS_of_cond ?_
   by_cases h0:l[j]=0
   · simp only [go_sem,↓reduceIte,Nat.reduceEqDiff,h0,decide_true,Bool.not_true,Bool.false_eq_true]
     refine WS_of_skip ?_
     simp only [go_sem,↓reduceIte,Nat.reduceEqDiff]
     rw [if_pos h0] at y1
     exact ⟨⟨trivial,y1,y0,y6,y3⟩,z1,z2⟩
   · simp only [go_sem,↓reduceIte,Nat.reduceEqDiff,h0,decide_false,Bool.not_false]
     refine WS_of_seq (WS_of_ops ?_)
     simp only [cmp_Or_int_r6,go_sem,↓reduceIte,Nat.reduceEqDiff]
     refine WS_of_ret ?_
     simp only [cmp_Or_int_a,go_sem,↓reduceIte,Nat.reduceEqDiff]
     rw [if_neg h0] at y1
     exact ⟨by rw [y1],trivial⟩
 · rintro s g ⟨rfl,y1,y0,y6,y3⟩
   simp only [go_sem,↓reduceIte,Nat.reduceEqDiff]
   refine WS_of_seq (WS_of_ops ?_)
   simp only [cmp_Or_int_r9,go_sem,↓reduceIte,Nat.reduceEqDiff,y3]
   refine WS_of_ret ?_
   simp only [cmp_Or_int_a,go_sem,↓reduceIte,Nat.reduceEqDiff]
   rw [List.drop_length] at y1
   exact ⟨by rw [← y1];rfl,trivial⟩
def cmpE (a b:Ed):Int:=orI [cmpI a.1 b.1,cmpI a.2.1 b.2.1,cmpI (wt a.2.2:Int) (wt b.2.2:Int)]
theorem afill3i (a b c:Int):afill (zeros [AV.int .i64 0] (3*1)) [(0,1,.int .i64 a),(1,1,.int .i64 b),(2,1,.int .i64 c)]=some [.int .i64 a,.int .i64 b,.int .i64 c]:=rfl
theorem compare_spec (x y:Ed) (h:H) (wf:h.Wf):WCall EZ n_strata_compare [.agg (edC x),.agg (edC y)] h fun r _=>r = .val (.int .i64 (cmpE x y)):=by
 obtain ⟨h1,hg1,b1,k1,w1,n1⟩:=new_box wf (edC x)
 obtain ⟨h2,hg2,b2,k2,w2,n2⟩:=new_box w1 (edC y)
 have b12:=b1.keep k2 (b1.lt w1)
 have m0:loadA h2 false 1 (.ptr h.n 0)=some (.int .i64 x.1):=b12.load 1 0
 have m1:loadA h2 false 1 (.ptr h.n 1)=some (.int .i64 x.2.1):=b12.load 1 1
 have m2:loadA h2 true 3 (.ptr h.n 0)=some (.agg (edC x)):=b12.loadAgg rfl
 have q0:loadA h2 false 1 (.ptr h1.n 0)=some (.int .i64 y.1):=b2.load 1 0
 have q1:loadA h2 false 1 (.ptr h1.n 1)=some (.int .i64 y.2.1):=b2.load 1 1
 have q2:loadA h2 true 3 (.ptr h1.n 0)=some (.agg (edC y)):=b2.loadAgg rfl
 refine WCall_ws (EZ_ov _) (EZ_T T_strata_compare) (by simp [strata_compare_a]) ?_
 refine WS_of_seq (WS_of_ops ?_)
 simp only [strata_compare_r0,go_sem,↓reduceIte,Nat.reduceEqDiff,enterS,List.getD_cons_zero,List.getD_cons_succ,AV.cells,hg1,hg2]
 refine WS_of_seq (WS_of_ops ?_)
 simp only [strata_compare_r1,go_sem,↓reduceIte,Nat.reduceEqDiff]
 refine WS_of_seq (WS_of_draw ?_)
 simp only [strata_compare_r2,go_sem,↓reduceIte,Nat.reduceEqDiff,fieldAddrA,Nat.zero_add,Nat.add_zero,Nat.reduceAdd,m0,m1,m2,q0,q1,q2,and_self,true_and,List.filter_cons,List.filter_nil,Nat.testBit,Nat.reduceShiftRight,Nat.reduceAnd,Nat.reduceBNe,Bool.not_false,Bool.not_true,Bool.false_eq_true,bne_self_eq_false,WV]
 refine (cmpInt_spec _ _ _).mono ?_
 rintro _ g ⟨rfl,rfl⟩
 simp only [go_sem,↓reduceIte,Nat.reduceEqDiff,fieldAddrA,Nat.zero_add,Nat.add_zero,Nat.reduceAdd,m0,m1,m2,q0,q1,q2,and_self,true_and,List.filter_cons,List.filter_nil,Nat.testBit,Nat.reduceShiftRight,Nat.reduceAnd,Nat.reduceBNe,Bool.not_false,Bool.not_true,Bool.false_eq_true,bne_self_eq_false,WV]
 refine (cmpInt_spec _ _ _).mono ?_
 rintro _ g ⟨rfl,rfl⟩
 simp only [go_sem,↓reduceIte,Nat.reduceEqDiff,fieldAddrA,Nat.zero_add,Nat.add_zero,Nat.reduceAdd,m0,m1,m2,q0,q1,q2,and_self,true_and,List.filter_cons,List.filter_nil,Nat.testBit,Nat.reduceShiftRight,Nat.reduceAnd,Nat.reduceBNe,Bool.not_false,Bool.not_true,Bool.false_eq_true,bne_self_eq_false,WV]
 refine (worth_spec x _ w2).mono ?_
 rintro _ g3 ⟨rfl,k3⟩
 have w3:=k3.wf w2
 have b3:=b2.keep k3 (b2.lt w2)
 have q2':loadA g3 true 3 (.ptr h1.n 0)=some (.agg (edC y)):=b3.loadAgg rfl
 simp only [go_sem,↓reduceIte,Nat.reduceEqDiff,fieldAddrA,Nat.zero_add,Nat.add_zero,Nat.reduceAdd,m0,m1,m2,q0,q1,q2',and_self,true_and,List.filter_cons,List.filter_nil,Nat.testBit,Nat.reduceShiftRight,Nat.reduceAnd,Nat.reduceBNe,Bool.not_false,Bool.not_true,Bool.false_eq_true,bne_self_eq_false,WV]
 refine (worth_spec y _ w3).mono ?_
 rintro _ g4 ⟨rfl,k4⟩
 have w4:=k4.wf w3
 simp only [go_sem,↓reduceIte,Nat.reduceEqDiff,fieldAddrA,Nat.zero_add,Nat.add_zero,Nat.reduceAdd,and_self,true_and,List.filter_cons,List.filter_nil,Nat.testBit,Nat.reduceShiftRight,Nat.reduceAnd,Nat.reduceBNe,Bool.not_false,Bool.not_true,Bool.false_eq_true,bne_self_eq_false,WV]
 refine (cmpInt_spec _ _ _).mono ?_
 rintro _ g5 ⟨rfl,rfl⟩
 simp only [go_sem,↓reduceIte,Nat.reduceEqDiff,fieldAddrA,Nat.zero_add,Nat.add_zero,Nat.reduceAdd,and_self,true_and,List.filter_cons,List.filter_nil,Nat.testBit,Nat.reduceShiftRight,Nat.reduceAnd,Nat.reduceBNe,Bool.not_false,Bool.not_true,Bool.false_eq_true,bne_self_eq_false,WV,afill3i]
 refine (orInt_spec (l := [cmpI x.1 y.1,cmpI x.2.1 y.2.1,cmpI (wt x.2.2:Int) (wt y.2.2:Int)]) ?_ (by simp)).mono ?_
 · exact Sl.new w4 (n:=3) (es:=1) (Nat.le_refl _)
 rintro _ g6 ⟨rfl,rfl⟩
 simp only [go_sem,↓reduceIte,Nat.reduceEqDiff,and_self,true_and,List.filter_cons,List.filter_nil,Nat.testBit,Nat.reduceShiftRight,Nat.reduceAnd,Nat.reduceBNe,Bool.not_false,Bool.not_true,Bool.false_eq_true,bne_self_eq_false]
 refine WS_of_ret ?_
 simp only [strata_compare_a,go_sem,↓reduceIte,Nat.reduceEqDiff]
 rfl
end Go.Proofs.YtdbmeidhlijopaaDoor.Ev.C

/-
  DERIVED: THE SHELF's CONTRACTS AT THIS DUMP, IN PLAIN WORDS (tools/lay-plain.mjs out of 'TrydSort.lean', which tools/lay-shelf.mjs wrote): THE SAME DECLARATIONS UNDER THE SAME NAMES: 'import', 'namespace', 'open', 'def', 'theorem' AND NOTHING ELSE: no command of the shelf's: FOR A HAND-IN. Each laying: the table of numbers ('.._ren') and one theorem, a field a fact of the dump's own or the kernel's comparison; each contract: ONE APPLICATION.
-/
namespace Go.Proofs
open Go.Shelf
def Tryd.sortEd_ren:Go.Shelf.Ren:=⟨fun | 6=>20 | 15=>44 | 14=>43 | 28=>73 | 29=>74 | 20=>65 | 21=>66 | 22=>67 | 23=>68 | 24=>69 | 25=>70 | 26=>71 | 27=>72 | 46=>84 | 47=>85 | 48=>86 | 49=>87 | 50=>88 | 57=>92 | n=>n,fun | 22=>34 | 24=>37 | 25=>72 | 3=>3 | 39=>104 | 0=>0 | 53=>130 | 55=>132 | 4=>4 | 46=>124 | 45=>123 | 50=>70 | 5=>5 | 9=>9 | 66=>138 | 70=>142 | 76=>148 | 77=>149 | n=>n,fun | n=>n⟩
theorem Tryd.sortEd:Go.Proofs.SlLaysF0.n6 Tryd.prog Tryd.sortEd_ren:={
 mixed:=by kernel_rfl
 f6:=⟨Tryd.f20.name,by decide,Tryd.func20.trans (congrArg some (by kernel_rfl))⟩
 f14:=⟨Tryd.f43.name,by decide,Tryd.func43.trans (congrArg some (by kernel_rfl))⟩
 f15:=Tryd.func44.trans (congrArg some (by kernel_rfl))
 f20:=⟨Tryd.f65.name,by decide,Tryd.func65.trans (congrArg some (by kernel_rfl))⟩
 f21:=⟨Tryd.f66.name,by decide,Tryd.func66.trans (congrArg some (by kernel_rfl))⟩
 f22:=⟨Tryd.f67.name,by decide,Tryd.func67.trans (congrArg some (by kernel_rfl))⟩
 f23:=⟨Tryd.f68.name,by decide,Tryd.func68.trans (congrArg some (by kernel_rfl))⟩
 f24:=⟨Tryd.f69.name,by decide,Tryd.func69.trans (congrArg some (by kernel_rfl))⟩
 f25:=⟨Tryd.f70.name,by decide,Tryd.func70.trans (congrArg some (by kernel_rfl))⟩
 f26:=⟨Tryd.f71.name,by decide,Tryd.func71.trans (congrArg some (by kernel_rfl))⟩
 f27:=⟨Tryd.f72.name,by decide,Tryd.func72.trans (congrArg some (by kernel_rfl))⟩
 f28:=Tryd.func73.trans (congrArg some (by kernel_rfl))
 f29:=Tryd.func74.trans (congrArg some (by kernel_rfl))
 f46:=⟨Tryd.f84.name,by decide,Tryd.func84.trans (congrArg some (by kernel_rfl))⟩
 f47:=Tryd.func85.trans (congrArg some (by kernel_rfl))
 f48:=Tryd.func86.trans (congrArg some (by kernel_rfl))
 f49:=⟨Tryd.f87.name,by decide,Tryd.func87.trans (congrArg some (by kernel_rfl))⟩
 f50:=⟨Tryd.f88.name,by decide,Tryd.func88.trans (congrArg some (by kernel_rfl))⟩
 f57:=⟨Tryd.f92.name,by decide,Tryd.func92.trans (congrArg some (by kernel_rfl))⟩
 t0:=Tryd.underlying0
 a0:=Tryd.isAgg0
 z0:=Tryd.sizeOf0
 v0:=Tryd.zeroValue0
 t3:=Tryd.underlying3
 a3:=Tryd.isAgg3
 z3:=Tryd.sizeOf3
 v3:=Tryd.zeroValue3
 t4:=Tryd.underlying4
 a4:=Tryd.isAgg4
 z4:=Tryd.sizeOf4
 v4:=Tryd.zeroValue4
 t5:=Tryd.underlying5
 a5:=Tryd.isAgg5
 z5:=Tryd.sizeOf5
 v5:=Tryd.zeroValue5
 t9:=Tryd.underlying9
 a9:=Tryd.isAgg9
 z9:=Tryd.sizeOf9
 v9:=Tryd.zeroValue9
 t22:=Tryd.underlying34
 a22:=Tryd.isAgg34
 z22:=Tryd.sizeOf34
 v22:=Tryd.zeroValue34
 t25:=Tryd.underlying72
 a25:=Tryd.isAgg72
 z25:=Tryd.sizeOf72
 v25:=Tryd.zeroValue72
 t39:=Tryd.underlying104
 a39:=Tryd.isAgg104
 z39:=Tryd.sizeOf104
 v39:=Tryd.zeroValue104
 t45:=Tryd.underlying123
 a45:=Tryd.isAgg123
 z45:=Tryd.sizeOf123
 v45:=Tryd.zeroValue123
 t46:=Tryd.underlying124
 a46:=Tryd.isAgg124
 z46:=Tryd.sizeOf124
 v46:=Tryd.zeroValue124
 t50:=Tryd.underlying70
 a50:=Tryd.isAgg70
 z50:=Tryd.sizeOf70
 v50:=Tryd.zeroValue70
 t53:=Tryd.underlying130
 a53:=Tryd.isAgg130
 z53:=Tryd.sizeOf130
 v53:=Tryd.zeroValue130
 t55:=Tryd.underlying132
 a55:=Tryd.isAgg132
 z55:=Tryd.sizeOf132
 v55:=Tryd.zeroValue132
 t66:=Tryd.underlying138
 a66:=Tryd.isAgg138
 z66:=Tryd.sizeOf138
 v66:=Tryd.zeroValue138
 t70:=Tryd.underlying142
 a70:=Tryd.isAgg142
 z70:=Tryd.sizeOf142
 v70:=Tryd.zeroValue142
 t76:=Tryd.underlying148
 a76:=Tryd.isAgg148
 z76:=Tryd.sizeOf148
 v76:=Tryd.zeroValue148
 t77:=Tryd.underlying149
 a77:=Tryd.isAgg149
 z77:=Tryd.sizeOf149
 v77:=Tryd.zeroValue149 }
end Go.Proofs

/- slices.SortFunc over edges stands for itself. -/
namespace Go.Proofs.YtdbmeidhlijopaaDoor.Ev.C
open Go Go.Proofs.YtdbmeidhlijopaaDoor.Ev Go.Sort Go.Lib Go.Proofs
set_option linter.unusedSimpArgs false
set_option linter.unusedVariables false
def encE (x:Ed):List Value := [.int .i64 x.1,.int .i64 x.2.1,.bool x.2.2]
def decE:List AV→Option (List Ed)
 | []=>some []
 | .int .i64 a :: .int .i64 b :: .bool c::r=>(decE r).map ((a,b,c) :: ·)
 | _=>none
theorem decE_flat : ∀ l:List Ed,decE (l.flatMap edC)=some l
 | []=>rfl
 | x::l=>by
  rw [List.flatMap_cons]
  show (decE (l.flatMap edC)).map _=_
  rw [decE_flat l];rfl
theorem decE_ok : ∀ (cs:List AV) (l:List Ed),decE cs=some l→cs=l.flatMap edC:=by
 intro cs
 induction cs using decE.induct with
 | case1=>intro l h;cases h;rfl
 | case2 a b c r ih =>
  intro l h
  simp only [decE] at h
  obtain ⟨l',h1,rfl⟩:=Option.map_eq_some_iff.1 h
  rw [ih _ h1];rfl
 | case3 t h1 h2=>intro l h;unfold decE at h;split at h <;> first | (cases h;done) | (rename_i e;exact absurd rfl (h1)) | skip;all_goals (rename_i e;exact absurd rfl (h2 _ _ _ _))
def ltE (x y:Ed):Bool:=decide (x.1<y.1∨x.1=y.1∧(x.2.1<y.2.1∨x.2.1=y.2.1∧wt x.2.2<wt y.2.2))
theorem lt_cmpE (x y:Ed):ltOf cmpE x y=ltE x y:=by
 have e0:ltOf cmpE x y=true↔cmpE x y<0:=by unfold ltOf;exact decide_eq_true_iff
 rw [Bool.eq_iff_iff,e0]
 unfold ltE
 rw [decide_eq_true_iff]
 simp only [cmpE,orI,cmpI]
 rcases Int.lt_trichotomy x.1 y.1 with h | h | h
 · simp [h]
 · rcases Int.lt_trichotomy x.2.1 y.2.1 with h2 | h2 | h2
   · simp [h,h2]
   · simp only [h,h2,Int.lt_irrefl,if_false,if_true,true_and,false_or]
     rcases Nat.lt_trichotomy (wt x.2.2) (wt y.2.2) with h3 | h3 | h3
     · have:((wt x.2.2:Nat):Int)<(wt y.2.2:Int):=by omega
       simp [h3,this]
     · simp [h3]
     · have a1:((wt y.2.2:Nat):Int)<(wt x.2.2:Int):=by omega
       have a2 : ¬ ((wt x.2.2:Nat):Int)<(wt y.2.2:Int):=by omega
       have a3 : ¬ wt x.2.2<wt y.2.2:=by omega
       simp [a1,a2,a3]
   · have a2 : ¬ x.2.1<y.2.1:=by omega
     have a3 : ¬ x.2.1=y.2.1:=by omega
     simp [h,h2,a2,a3]
 · have a2 : ¬ x.1<y.1:=by omega
   have a3 : ¬ x.1=y.1:=by omega
   simp [h,a2,a3]
theorem swoE:SWO (ltOf cmpE) where
 irrefl x:=by rw [lt_cmpE];unfold ltE;rw [decide_eq_false_iff_not];omega
 trans x y z h1 h2:=by
  rw [lt_cmpE] at *;unfold ltE at *;rw [decide_eq_true_iff] at *;omega
 ntrans x y z h1 h2:=by
  rw [lt_cmpE] at *;unfold ltE at *;rw [decide_eq_false_iff_not] at *;omega
theorem wt_inj {a b:Bool} (h:wt a=wt b):a=b:=by cases a <;> cases b <;> first | rfl | cases h
theorem totE (x y:Ed) (h1:ltOf cmpE x y=false) (h2:ltOf cmpE y x=false):x=y:=by
 rw [lt_cmpE] at *;unfold ltE at *;rw [decide_eq_false_iff_not] at *
 obtain ⟨a,b,c⟩:=x
 obtain ⟨a',b',c'⟩:=y
 simp only at h1 h2
 have e1:a=a':=by omega
 have e2:b=b':=by omega
 have e3:wt c=wt c':=by omega
 rw [e1,e2,wt_inj e3]
/-- how the edges stand behind the sorting -/
def sortE (l:List Ed):List Ed:=l.mergeSort fun x y => !(ltOf cmpE) y x
def sortEG:List AV→H→Option (AOut×H):=sortG 3 n_strata_compare decE edC (fun x y => !(ltOf cmpE) y x)
noncomputable def fnCmp:Func:=(PP.funcs[n_strata_compare]?).getD (PP.funcs[0]!)
theorem fnCmp_get:PP.funcs[n_strata_compare]? = some fnCmp:=by kernel_rfl
noncomputable def fnSrt:Func:=(PP.funcs[n_slices_SortFunc_strata_Edge_strata_Edge]?).getD (PP.funcs[0]!)
theorem fnSrt_get:PP.funcs[n_slices_SortFunc_strata_Edge_strata_Edge]? = some fnSrt:=by kernel_rfl
theorem sortE_ok {B:Nat} {args:List AV} {h h':H} {r:AOut} (hg:sortEG args h=some (r,h')):FnOK PP B n_slices_SortFunc_strata_Edge_strata_Edge args h (fun r1 h1=>r1=r∧h1=h'):=by
 have hb:fnCmp.body.isSome=true:=by kernel_rfl
 obtain ⟨c,hc⟩:=Option.isSome_iff_exists.1 hb
 have hb2:fnSrt.body.isSome=true:=by kernel_rfl
 obtain ⟨c2,hc2⟩:=Option.isSome_iff_exists.1 hb2
 exact sortG_ok (ρ:=Go.Proofs.Tryd.sortEd_ren) (E:=EZ) (α:=Ed) Go.Proofs.Tryd.checked.mixed (table_ok PP _) (by intro f g h;rw [EZ_ov] at h;cases h) fnCmp_get (by kernel_rfl) hb
  (fun args w=>run_callFunc_enter fnCmp_get (by kernel_rfl) hc _ _) (fun args w=>run_callFunc_enter fnSrt_get (by kernel_rfl) hc2 _ _)
  (encA:=edC) (enc:=encE) (k:=3) (by decide) (fun _=>rfl) (fun x v hv=>by simp only [encE,List.mem_cons,List.not_mem_nil,or_false] at hv;rcases hv with rfl | rfl | rfl <;> rfl)
  (fun m x => .cons (.int _ _) (.cons (.int _ _) (.cons (.bool _) .nil))) (cf:=cmpE) compare_spec swoE totE
  (fun m v x j a h1 h2=>by
   match j,h1 with
   | 0,h1=>cases h1;cases h2;rfl
   | 1,h1=>cases h1;cases h2;rfl
   | 2,h1=>cases h1;cases h2;rfl
   | _+3,h1=>cases h1)
  Go.Proofs.Tryd.sortEd Go.Proofs.Tryd.isAgg37 Go.Proofs.Tryd.sizeOf37 decE_ok hg
end Go.Proofs.YtdbmeidhlijopaaDoor.Ev.C

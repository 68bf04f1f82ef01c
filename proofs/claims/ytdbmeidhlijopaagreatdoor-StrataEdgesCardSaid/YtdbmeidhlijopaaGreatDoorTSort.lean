/- How two edges stand: strata.compare, with no function stood for. -/
import Derived.Test.YtdbmeidhlijopaaGreatDoorTLevels
import Derived.Test.YtdbmeidhlijopaaGreatDoorTD
import Derived.Test.YtdbmeidhlijopaaGreatDoorProg
import Derived.Shelf.SlSortCmp.NoneTotal
import Derived.Shelf.SlGeneric
import Derived.Ground.SlsfProg
import Derived.Test.YtdbmeidhlijopaaGreatDoorEv34
import Derived.Test.YtdbmeidhlijopaaGreatDoorRows
namespace Go.Proofs.YtdbmeidhlijopaaGreatDoor.Ev.C
open Go Go.Proofs.YtdbmeidhlijopaaGreatDoor.Ev
set_option linter.unusedSimpArgs false
set_option linter.unusedVariables false
noncomputable def EZ:Env:=env PP (fun _=>none)
theorem EZ_T {i:Nat} {a:AFunc} (h:table PP i=some a):EZ.T i=some a:=by unfold EZ env;rw [env_T];exact h
theorem EZ_ov (f:Nat):EZ.ov f=none:=by unfold EZ env;rw [env_ov]
def cmpI (a b:Int):Int:=if a<b then -1 else if b<a then 1 else 0
theorem aTx (a:Int) (h:H):WCall EZ aFP [.int .i64 a] h fun r h'=>r = .val (.bool false)∧h'=h:=by
 refine aAI (EZ_ov _) (EZ_T aUU) (by simp [aIT]) ?_
 refine aAA (aAB ?_)
 simp only [aML,go_sem,↓reduceIte,Nat.reduceEqDiff]
 refine aAA (aAB ?_)
 simp only [aME,go_sem,↓reduceIte,Nat.reduceEqDiff,enterS,List.getD_cons_zero,List.getD_cons_succ,decide_true,Bool.not_true]
 refine aAE ?_
 simp only [aIT,go_sem,↓reduceIte,Nat.reduceEqDiff]
 exact ⟨trivial,trivial⟩
theorem aNW (a b:Int) (h:H):WCall EZ aDE [.int .i64 a,.int .i64 b] h fun r h'=>r = .val (.int .i64 (cmpI a b))∧h'=h:=by
 refine aAI (EZ_ov _) (EZ_T aSa) (by simp [aDF]) ?_
 refine aAA (aAB ?_)
 simp only [aK4,go_sem,↓reduceIte,Nat.reduceEqDiff]
 refine aAA (aAB ?_)
 simp only [aKm,go_sem,↓reduceIte,Nat.reduceEqDiff,enterS,List.getD_cons_zero,List.getD_cons_succ]
 refine (aTx a h).mono ?_
 rintro _ h ⟨rfl,rfl⟩
 simp only [go_sem,↓reduceIte,Nat.reduceEqDiff]
 refine aAA (aAB ?_)
 simp only [aKZ,go_sem,↓reduceIte,Nat.reduceEqDiff,enterS,List.getD_cons_zero,List.getD_cons_succ]
 refine (aTx b h).mono ?_
 rintro _ h ⟨rfl,rfl⟩
 simp only [go_sem,↓reduceIte,Nat.reduceEqDiff]
 refine aAA (aAA (aAB ?_))
 simp only [aKe,go_sem,↓reduceIte,Nat.reduceEqDiff]
 refine aAD ?_
 simp only [go_sem,↓reduceIte,Nat.reduceEqDiff,Bool.false_eq_true]
 refine aAF ?_
 simp only [go_sem,↓reduceIte,Nat.reduceEqDiff]
 refine aAA (aAA (aAB ?_))
 simp only [aKs,go_sem,↓reduceIte,Nat.reduceEqDiff]
 refine aAD ?_
 simp only [go_sem,↓reduceIte,Nat.reduceEqDiff,Bool.false_eq_true]
 refine aAF ?_
 simp only [go_sem,↓reduceIte,Nat.reduceEqDiff]
 refine aAA (aAA (aAB ?_))
 simp only [aK1,go_sem,↓reduceIte,Nat.reduceEqDiff,enterS,List.getD_cons_zero,List.getD_cons_succ]
 refine aAD ?_
 by_cases h1:a<b
 · simp only [go_sem,↓reduceIte,Nat.reduceEqDiff,h1,decide_true]
   refine aAA (aAB ?_)
   simp only [aJI,go_sem,↓reduceIte,Nat.reduceEqDiff]
   refine aAE ?_
   simp only [aDF,go_sem,↓reduceIte,Nat.reduceEqDiff]
   exact ⟨by simp [cmpI,h1],trivial⟩
 simp only [go_sem,↓reduceIte,Nat.reduceEqDiff,h1,decide_false,Bool.false_eq_true]
 refine aAF ?_
 simp only [go_sem,↓reduceIte,Nat.reduceEqDiff]
 refine aAA (aAA (aAB ?_))
 simp only [aIz,go_sem,↓reduceIte,Nat.reduceEqDiff,enterS,List.getD_cons_zero,List.getD_cons_succ]
 refine aAD ?_
 by_cases h2:b<a
 · simp only [go_sem,↓reduceIte,Nat.reduceEqDiff,h2,decide_true]
   refine aAA (aAB ?_)
   simp only [aJW,go_sem,↓reduceIte,Nat.reduceEqDiff]
   refine aAE ?_
   simp only [aDF,go_sem,↓reduceIte,Nat.reduceEqDiff]
   exact ⟨by simp [cmpI,h1,h2],trivial⟩
 simp only [go_sem,↓reduceIte,Nat.reduceEqDiff,h2,decide_false,Bool.false_eq_true]
 refine aAF ?_
 simp only [go_sem,↓reduceIte,Nat.reduceEqDiff]
 refine aAA (aAB ?_)
 simp only [aJ5,go_sem,↓reduceIte,Nat.reduceEqDiff]
 refine aAE ?_
 simp only [aDF,go_sem,↓reduceIte,Nat.reduceEqDiff]
 exact ⟨by simp [cmpI,h1,h2],trivial⟩
theorem aUS (e:Ed) (h:H) (wf:h.Wf):WCall EZ aF4 [.agg (edC e)] h fun r h'=>r = .val (.int .i64 (wt e.2.2:Int))∧Keep (Old h.n) h h':=by
 obtain ⟨h1,hg1,b1,k1,w1,n1⟩:=aAR wf (edC e)
 have m:loadA h1 false 1 (.ptr h.n 2)=some (.bool e.2.2):=b1.load 1 2
 refine aAI (EZ_ov _) (EZ_T aR6) (by simp [aD3]) ?_
 refine aAA (aAB ?_)
 simp only [aJF,go_sem,↓reduceIte,Nat.reduceEqDiff,enterS,List.getD_cons_zero,List.getD_cons_succ,AV.cells,hg1]
 refine aAA (aAA (aAB ?_))
 simp only [aJ1,go_sem,↓reduceIte,Nat.reduceEqDiff,aAC,Nat.zero_add,Nat.add_zero,Nat.reduceAdd,m]
 refine aAD ?_
 cases hb:e.2.2
 · simp only [go_sem,↓reduceIte,Nat.reduceEqDiff,Bool.false_eq_true]
   refine aAF ?_
   simp only [go_sem,↓reduceIte,Nat.reduceEqDiff]
   refine aAA (aAB ?_)
   simp only [aJU,go_sem,↓reduceIte,Nat.reduceEqDiff]
   refine aAE ?_
   simp only [aD3,go_sem,↓reduceIte,Nat.reduceEqDiff]
   exact ⟨rfl,k1⟩
 · simp only [go_sem,↓reduceIte,Nat.reduceEqDiff]
   refine aAA (aAB ?_)
   simp only [aJj,go_sem,↓reduceIte,Nat.reduceEqDiff]
   refine aAE ?_
   simp only [aD3,go_sem,↓reduceIte,Nat.reduceEqDiff]
   exact ⟨rfl,k1⟩
def orI:List Int→Int
 | []=>0
 | a::l=>if a=0 then orI l else a
theorem aYq {v:AV} {l:List Int} {h:H} (b:Sl h 1 v l.length (l.map intC)) (hl:l.length<4611686018427387904):WCall EZ aMN [v] h fun r h'=>r = .val (.int .i64 (orI l))∧h'=h:=by
 refine aAI (EZ_ov _) (EZ_T aXI) (by simp [aIE]) ?_
 refine aAA (aAB ?_)
 simp only [aPm,go_sem,↓reduceIte,Nat.reduceEqDiff]
 refine aAA (aAB ?_)
 simp only [aQS,go_sem,↓reduceIte,Nat.reduceEqDiff]
 refine aAA (aAA (aAB ?_))
 simp only [aQB,go_sem,↓reduceIte,Nat.reduceEqDiff,enterS,List.getD_cons_zero,List.getD_cons_succ,b.len]
 refine aCz hl (fun j s g=>g=h∧orI (l.drop j)=orI l∧s 0=v∧s 6=v∧s 3 = .int .i64 0) (by decide) ?_ rfl rfl ⟨rfl,rfl,rfl,rfl,rfl⟩ ?_ ?_
 · rintro j s g t v (rfl | rfl | rfl) ⟨a,b,c,d,e⟩ <;> exact ⟨a,b,c,d,e⟩
 · rintro j s g hj ⟨rfl,y1,y0,y6,y3⟩ z1 z2
   obtain ⟨p,e1,e2⟩:=b.at hj .i64
   rw [List.getElem?_map,List.getElem?_eq_getElem hj,Option.map_some] at e2
   rw [List.drop_eq_getElem_cons hj] at y1
   simp only [orI] at y1
   refine aAA (aAB ?_)
   simp only [aQO,go_sem,↓reduceIte,Nat.reduceEqDiff,y6,z1,e1,e2]
   refine aAA (aAB ?_)
   simp only [aPh,go_sem,↓reduceIte,Nat.reduceEqDiff,y3,intC]
   refine aAD ?_
   by_cases h0:l[j]=0
   · simp only [go_sem,↓reduceIte,Nat.reduceEqDiff,h0,decide_true,Bool.not_true,Bool.false_eq_true]
     refine aAF ?_
     simp only [go_sem,↓reduceIte,Nat.reduceEqDiff]
     rw [if_pos h0] at y1
     exact ⟨⟨trivial,y1,y0,y6,y3⟩,z1,z2⟩
   · simp only [go_sem,↓reduceIte,Nat.reduceEqDiff,h0,decide_false,Bool.not_false]
     refine aAA (aAB ?_)
     simp only [aPk,go_sem,↓reduceIte,Nat.reduceEqDiff]
     refine aAE ?_
     simp only [aIE,go_sem,↓reduceIte,Nat.reduceEqDiff]
     rw [if_neg h0] at y1
     exact ⟨by rw [y1],trivial⟩
 · rintro s g ⟨rfl,y1,y0,y6,y3⟩
   simp only [go_sem,↓reduceIte,Nat.reduceEqDiff]
   refine aAA (aAB ?_)
   simp only [aPz,go_sem,↓reduceIte,Nat.reduceEqDiff,y3]
   refine aAE ?_
   simp only [aIE,go_sem,↓reduceIte,Nat.reduceEqDiff]
   rw [List.drop_length] at y1
   exact ⟨by rw [← y1];rfl,trivial⟩
def cmpE (a b:Ed):Int:=orI [cmpI a.1 b.1,cmpI a.2.1 b.2.1,cmpI (wt a.2.2:Int) (wt b.2.2:Int)]
theorem a2P (a b c:Int):afill (zeros [AV.int .i64 0] (3*1)) [(0,1,.int .i64 a),(1,1,.int .i64 b),(2,1,.int .i64 c)]=some [.int .i64 a,.int .i64 b,.int .i64 c]:=rfl
theorem aXX (x y:Ed) (h:H) (wf:h.Wf):WCall EZ aBT [.agg (edC x),.agg (edC y)] h fun r _=>r = .val (.int .i64 (cmpE x y)):=by
 obtain ⟨h1,hg1,b1,k1,w1,n1⟩:=aAR wf (edC x)
 obtain ⟨h2,hg2,b2,k2,w2,n2⟩:=aAR w1 (edC y)
 have b12:=b1.keep k2 (b1.lt w1)
 have m0:loadA h2 false 1 (.ptr h.n 0)=some (.int .i64 x.1):=b12.load 1 0
 have m1:loadA h2 false 1 (.ptr h.n 1)=some (.int .i64 x.2.1):=b12.load 1 1
 have m2:loadA h2 true 3 (.ptr h.n 0)=some (.agg (edC x)):=b12.loadAgg rfl
 have q0:loadA h2 false 1 (.ptr h1.n 0)=some (.int .i64 y.1):=b2.load 1 0
 have q1:loadA h2 false 1 (.ptr h1.n 1)=some (.int .i64 y.2.1):=b2.load 1 1
 have q2:loadA h2 true 3 (.ptr h1.n 0)=some (.agg (edC y)):=b2.loadAgg rfl
 refine aAI (EZ_ov _) (EZ_T aTU) (by simp [aHD]) ?_
 refine aAA (aAB ?_)
 simp only [aLa,go_sem,↓reduceIte,Nat.reduceEqDiff,enterS,List.getD_cons_zero,List.getD_cons_succ,AV.cells,hg1,hg2]
 refine aAA (aAB ?_)
 simp only [aLY,go_sem,↓reduceIte,Nat.reduceEqDiff]
 refine aAA (aAS ?_)
 simp only [aL9,go_sem,↓reduceIte,Nat.reduceEqDiff,aAC,Nat.zero_add,Nat.add_zero,Nat.reduceAdd,m0,m1,m2,q0,q1,q2,and_self,true_and,List.filter_cons,List.filter_nil,Nat.testBit,Nat.reduceShiftRight,Nat.reduceAnd,Nat.reduceBNe,Bool.not_false,Bool.not_true,Bool.false_eq_true,bne_self_eq_false,WV]
 refine (aNW _ _ _).mono ?_
 rintro _ g ⟨rfl,rfl⟩
 simp only [go_sem,↓reduceIte,Nat.reduceEqDiff,aAC,Nat.zero_add,Nat.add_zero,Nat.reduceAdd,m0,m1,m2,q0,q1,q2,and_self,true_and,List.filter_cons,List.filter_nil,Nat.testBit,Nat.reduceShiftRight,Nat.reduceAnd,Nat.reduceBNe,Bool.not_false,Bool.not_true,Bool.false_eq_true,bne_self_eq_false,WV]
 refine (aNW _ _ _).mono ?_
 rintro _ g ⟨rfl,rfl⟩
 simp only [go_sem,↓reduceIte,Nat.reduceEqDiff,aAC,Nat.zero_add,Nat.add_zero,Nat.reduceAdd,m0,m1,m2,q0,q1,q2,and_self,true_and,List.filter_cons,List.filter_nil,Nat.testBit,Nat.reduceShiftRight,Nat.reduceAnd,Nat.reduceBNe,Bool.not_false,Bool.not_true,Bool.false_eq_true,bne_self_eq_false,WV]
 refine (aUS x _ w2).mono ?_
 rintro _ g3 ⟨rfl,k3⟩
 have w3:=k3.wf w2
 have b3:=b2.keep k3 (b2.lt w2)
 have q2':loadA g3 true 3 (.ptr h1.n 0)=some (.agg (edC y)):=b3.loadAgg rfl
 simp only [go_sem,↓reduceIte,Nat.reduceEqDiff,aAC,Nat.zero_add,Nat.add_zero,Nat.reduceAdd,m0,m1,m2,q0,q1,q2',and_self,true_and,List.filter_cons,List.filter_nil,Nat.testBit,Nat.reduceShiftRight,Nat.reduceAnd,Nat.reduceBNe,Bool.not_false,Bool.not_true,Bool.false_eq_true,bne_self_eq_false,WV]
 refine (aUS y _ w3).mono ?_
 rintro _ g4 ⟨rfl,k4⟩
 have w4:=k4.wf w3
 simp only [go_sem,↓reduceIte,Nat.reduceEqDiff,aAC,Nat.zero_add,Nat.add_zero,Nat.reduceAdd,and_self,true_and,List.filter_cons,List.filter_nil,Nat.testBit,Nat.reduceShiftRight,Nat.reduceAnd,Nat.reduceBNe,Bool.not_false,Bool.not_true,Bool.false_eq_true,bne_self_eq_false,WV]
 refine (aNW _ _ _).mono ?_
 rintro _ g5 ⟨rfl,rfl⟩
 simp only [go_sem,↓reduceIte,Nat.reduceEqDiff,aAC,Nat.zero_add,Nat.add_zero,Nat.reduceAdd,and_self,true_and,List.filter_cons,List.filter_nil,Nat.testBit,Nat.reduceShiftRight,Nat.reduceAnd,Nat.reduceBNe,Bool.not_false,Bool.not_true,Bool.false_eq_true,bne_self_eq_false,WV,a2P]
 refine (aYq (l := [cmpI x.1 y.1,cmpI x.2.1 y.2.1,cmpI (wt x.2.2:Int) (wt y.2.2:Int)]) ?_ (by simp)).mono ?_
 · exact Sl.new w4 (n:=3) (es:=1) (Nat.le_refl _)
 rintro _ g6 ⟨rfl,rfl⟩
 simp only [go_sem,↓reduceIte,Nat.reduceEqDiff,and_self,true_and,List.filter_cons,List.filter_nil,Nat.testBit,Nat.reduceShiftRight,Nat.reduceAnd,Nat.reduceBNe,Bool.not_false,Bool.not_true,Bool.false_eq_true,bne_self_eq_false]
 refine aAE ?_
 simp only [aHD,go_sem,↓reduceIte,Nat.reduceEqDiff]
 rfl
end Go.Proofs.YtdbmeidhlijopaaGreatDoor.Ev.C

/-
  DERIVED: THE SHELF's CONTRACTS AT THIS DUMP, IN PLAIN WORDS (tools/lay-plain.mjs out of 'TryzSort.lean', which tools/lay-shelf.mjs wrote): THE SAME DECLARATIONS UNDER THE SAME NAMES: 'import', 'namespace', 'open', 'def', 'theorem' AND NOTHING ELSE: no command of the shelf's: FOR A HAND-IN. Each laying: the table of numbers ('.._ren') and one theorem, a field a fact of the dump's own or the kernel's comparison; each contract: ONE APPLICATION.
-/
namespace Go.Proofs
open Go.Shelf
def Tryz.sortEd_ren:Go.Shelf.Ren:=⟨fun | 6=>30 | 15=>83 | 14=>82 | 28=>138 | 29=>139 | 20=>130 | 21=>131 | 22=>132 | 23=>133 | 24=>134 | 25=>135 | 26=>136 | 27=>137 | 46=>164 | 47=>165 | 48=>166 | 49=>167 | 50=>168 | 57=>187 | n=>n,fun | 22=>33 | 24=>63 | 25=>97 | 3=>3 | 39=>170 | 0=>0 | 53=>237 | 55=>239 | 4=>4 | 46=>231 | 45=>230 | 50=>95 | 5=>5 | 9=>9 | 66=>257 | 70=>261 | 76=>278 | 77=>279 | n=>n,fun | n=>n⟩
theorem Tryz.sortEd:Go.Proofs.SlLaysF0.n6 Tryz.prog Tryz.sortEd_ren:={
 mixed:=by kernel_rfl
 f6:=⟨Tryz.f30.name,by decide,Tryz.func30.trans (congrArg some (by kernel_rfl))⟩
 f14:=⟨Tryz.f82.name,by decide,Tryz.func82.trans (congrArg some (by kernel_rfl))⟩
 f15:=Tryz.func83.trans (congrArg some (by kernel_rfl))
 f20:=⟨Tryz.f130.name,by decide,Tryz.func130.trans (congrArg some (by kernel_rfl))⟩
 f21:=⟨Tryz.f131.name,by decide,Tryz.func131.trans (congrArg some (by kernel_rfl))⟩
 f22:=⟨Tryz.f132.name,by decide,Tryz.func132.trans (congrArg some (by kernel_rfl))⟩
 f23:=⟨Tryz.f133.name,by decide,Tryz.func133.trans (congrArg some (by kernel_rfl))⟩
 f24:=⟨Tryz.f134.name,by decide,Tryz.func134.trans (congrArg some (by kernel_rfl))⟩
 f25:=⟨Tryz.f135.name,by decide,Tryz.func135.trans (congrArg some (by kernel_rfl))⟩
 f26:=⟨Tryz.f136.name,by decide,Tryz.func136.trans (congrArg some (by kernel_rfl))⟩
 f27:=⟨Tryz.f137.name,by decide,Tryz.func137.trans (congrArg some (by kernel_rfl))⟩
 f28:=Tryz.func138.trans (congrArg some (by kernel_rfl))
 f29:=Tryz.func139.trans (congrArg some (by kernel_rfl))
 f46:=⟨Tryz.f164.name,by decide,Tryz.func164.trans (congrArg some (by kernel_rfl))⟩
 f47:=Tryz.func165.trans (congrArg some (by kernel_rfl))
 f48:=Tryz.func166.trans (congrArg some (by kernel_rfl))
 f49:=⟨Tryz.f167.name,by decide,Tryz.func167.trans (congrArg some (by kernel_rfl))⟩
 f50:=⟨Tryz.f168.name,by decide,Tryz.func168.trans (congrArg some (by kernel_rfl))⟩
 f57:=⟨Tryz.f187.name,by decide,Tryz.func187.trans (congrArg some (by kernel_rfl))⟩
 t0:=Tryz.underlying0
 a0:=Tryz.isAgg0
 z0:=Tryz.sizeOf0
 v0:=Tryz.zeroValue0
 t3:=Tryz.underlying3
 a3:=Tryz.isAgg3
 z3:=Tryz.sizeOf3
 v3:=Tryz.zeroValue3
 t4:=Tryz.underlying4
 a4:=Tryz.isAgg4
 z4:=Tryz.sizeOf4
 v4:=Tryz.zeroValue4
 t5:=Tryz.underlying5
 a5:=Tryz.isAgg5
 z5:=Tryz.sizeOf5
 v5:=Tryz.zeroValue5
 t9:=Tryz.underlying9
 a9:=Tryz.isAgg9
 z9:=Tryz.sizeOf9
 v9:=Tryz.zeroValue9
 t22:=Tryz.underlying33
 a22:=Tryz.isAgg33
 z22:=Tryz.sizeOf33
 v22:=Tryz.zeroValue33
 t25:=Tryz.underlying97
 a25:=Tryz.isAgg97
 z25:=Tryz.sizeOf97
 v25:=Tryz.zeroValue97
 t39:=Tryz.underlying170
 a39:=Tryz.isAgg170
 z39:=Tryz.sizeOf170
 v39:=Tryz.zeroValue170
 t45:=Tryz.underlying230
 a45:=Tryz.isAgg230
 z45:=Tryz.sizeOf230
 v45:=Tryz.zeroValue230
 t46:=Tryz.underlying231
 a46:=Tryz.isAgg231
 z46:=Tryz.sizeOf231
 v46:=Tryz.zeroValue231
 t50:=Tryz.underlying95
 a50:=Tryz.isAgg95
 z50:=Tryz.sizeOf95
 v50:=Tryz.zeroValue95
 t53:=Tryz.underlying237
 a53:=Tryz.isAgg237
 z53:=Tryz.sizeOf237
 v53:=Tryz.zeroValue237
 t55:=Tryz.underlying239
 a55:=Tryz.isAgg239
 z55:=Tryz.sizeOf239
 v55:=Tryz.zeroValue239
 t66:=Tryz.underlying257
 a66:=Tryz.isAgg257
 z66:=Tryz.sizeOf257
 v66:=Tryz.zeroValue257
 t70:=Tryz.underlying261
 a70:=Tryz.isAgg261
 z70:=Tryz.sizeOf261
 v70:=Tryz.zeroValue261
 t76:=Tryz.underlying278
 a76:=Tryz.isAgg278
 z76:=Tryz.sizeOf278
 v76:=Tryz.zeroValue278
 t77:=Tryz.underlying279
 a77:=Tryz.isAgg279
 z77:=Tryz.sizeOf279
 v77:=Tryz.zeroValue279 }
end Go.Proofs

/- slices.SortFunc over edges stands for itself. -/
namespace Go.Proofs.YtdbmeidhlijopaaGreatDoor.Ev.C
open Go Go.Proofs.YtdbmeidhlijopaaGreatDoor.Ev Go.Sort Go.Lib Go.Proofs
set_option linter.unusedSimpArgs false
set_option linter.unusedVariables false
def encE (x:Ed):List Value := [.int .i64 x.1,.int .i64 x.2.1,.bool x.2.2]
def decE:List AV→Option (List Ed)
 | []=>some []
 | .int .i64 a :: .int .i64 b :: .bool c::r=>(decE r).map ((a,b,c) :: ·)
 | _=>none
theorem aVA : ∀ l:List Ed,decE (l.flatMap edC)=some l
 | []=>rfl
 | x::l=>by
  rw [List.flatMap_cons]
  show (decE (l.flatMap edC)).map _=_
  rw [aVA l];rfl
theorem a23 : ∀ (cs:List AV) (l:List Ed),decE cs=some l→cs=l.flatMap edC:=by
 intro cs
 induction cs using decE.induct with
 | case1=>intro l h;cases h;rfl
 | case2 a b c r ih =>
  intro l h
  simp only [decE] at h
  obtain ⟨l',h1,rfl⟩:=Option.map_eq_some_iff.1 h
  rw [ih _ h1];rfl
 | case3 t h1 h2=>intro l h;unfold decE at h;split at h <;> first | (cases h;done) | (rename_i e;exact absurd rfl (h1)) | skip;all_goals (rename_i e;exact absurd rfl (h2 _ _ _ _))
def ltE (x y:Ed):Bool:=decide (x.1<y.1∨x.1=y.1∧(x.2.1<y.2.1∨x.2.1=y.2.1∧wt x.2.2<wt y.2.2))
theorem aKC (x y:Ed):ltOf cmpE x y=ltE x y:=by
 have e0:ltOf cmpE x y=true↔cmpE x y<0:=by unfold ltOf;exact decide_eq_true_iff
 rw [Bool.eq_iff_iff,e0]
 unfold ltE
 rw [decide_eq_true_iff]
 simp only [cmpE,orI,cmpI]
 rcases Int.lt_trichotomy x.1 y.1 with h | h | h
 · simp [h]
 · rcases Int.lt_trichotomy x.2.1 y.2.1 with h2 | h2 | h2
   · simp [h,h2]
   · simp only [h,h2,Int.lt_irrefl,if_false,if_true,true_and,false_or]
     rcases Nat.lt_trichotomy (wt x.2.2) (wt y.2.2) with h3 | h3 | h3
     · have:((wt x.2.2:Nat):Int)<(wt y.2.2:Int):=by omega
       simp [h3,this]
     · simp [h3]
     · have a1:((wt y.2.2:Nat):Int)<(wt x.2.2:Int):=by omega
       have a2 : ¬ ((wt x.2.2:Nat):Int)<(wt y.2.2:Int):=by omega
       have a3 : ¬ wt x.2.2<wt y.2.2:=by omega
       simp [a1,a2,a3]
   · have a2 : ¬ x.2.1<y.2.1:=by omega
     have a3 : ¬ x.2.1=y.2.1:=by omega
     simp [h,h2,a2,a3]
 · have a2 : ¬ x.1<y.1:=by omega
   have a3 : ¬ x.1=y.1:=by omega
   simp [h,a2,a3]
theorem swoE:SWO (ltOf cmpE) where
 irrefl x:=by rw [aKC];unfold ltE;rw [decide_eq_false_iff_not];omega
 trans x y z h1 h2:=by
  rw [aKC] at *;unfold ltE at *;rw [decide_eq_true_iff] at *;omega
 ntrans x y z h1 h2:=by
  rw [aKC] at *;unfold ltE at *;rw [decide_eq_false_iff_not] at *;omega
theorem wt_inj {a b:Bool} (h:wt a=wt b):a=b:=by cases a <;> cases b <;> first | rfl | cases h
theorem totE (x y:Ed) (h1:ltOf cmpE x y=false) (h2:ltOf cmpE y x=false):x=y:=by
 rw [aKC] at *;unfold ltE at *;rw [decide_eq_false_iff_not] at *
 obtain ⟨a,b,c⟩:=x
 obtain ⟨a',b',c'⟩:=y
 simp only at h1 h2
 have e1:a=a':=by omega
 have e2:b=b':=by omega
 have e3:wt c=wt c':=by omega
 rw [e1,e2,wt_inj e3]
/-- how the edges stand behind the sorting -/
def sortE (l:List Ed):List Ed:=l.mergeSort fun x y => !(ltOf cmpE) y x
def sortEG:List AV→H→Option (AOut×H):=sortG 3 aBT decE edC (fun x y => !(ltOf cmpE) y x)
noncomputable def fnCmp:Func:=(PP.funcs[aBT]?).getD (PP.funcs[0]!)
theorem aVY:PP.funcs[aBT]? = some fnCmp:=by kernel_rfl
noncomputable def fnSrt:Func:=(PP.funcs[aAQ]?).getD (PP.funcs[0]!)
theorem aZ3:PP.funcs[aAQ]? = some fnSrt:=by kernel_rfl
theorem a1I {B:Nat} {args:List AV} {h h':H} {r:AOut} (hg:sortEG args h=some (r,h')):FnOK PP B aAQ args h (fun r1 h1=>r1=r∧h1=h'):=by
 have hb:fnCmp.body.isSome=true:=by kernel_rfl
 obtain ⟨c,hc⟩:=Option.isSome_iff_exists.1 hb
 have hb2:fnSrt.body.isSome=true:=by kernel_rfl
 obtain ⟨c2,hc2⟩:=Option.isSome_iff_exists.1 hb2
 exact a1P (ρ:=Go.Proofs.Tryz.sortEd_ren) (E:=EZ) (α:=Ed) Go.Proofs.Tryz.checked.mixed (aHC PP _) (by intro f g h;rw [EZ_ov] at h;cases h) aVY (by kernel_rfl) hb
  (fun args w=>aBW aVY (by kernel_rfl) hc _ _) (fun args w=>aBW aZ3 (by kernel_rfl) hc2 _ _)
  (encA:=edC) (enc:=encE) (k:=3) (by decide) (fun _=>rfl) (fun x v hv=>by simp only [encE,List.mem_cons,List.not_mem_nil,or_false] at hv;rcases hv with rfl | rfl | rfl <;> rfl)
  (fun m x => .cons (.int _ _) (.cons (.int _ _) (.cons (.bool _) .nil))) (cf:=cmpE) aXX swoE totE
  (fun m v x j a h1 h2=>by
   match j,h1 with
   | 0,h1=>cases h1;cases h2;rfl
   | 1,h1=>cases h1;cases h2;rfl
   | 2,h1=>cases h1;cases h2;rfl
   | _+3,h1=>cases h1)
  Go.Proofs.Tryz.sortEd Go.Proofs.Tryz.isAgg63 Go.Proofs.Tryz.sizeOf63 a23 hg
end Go.Proofs.YtdbmeidhlijopaaGreatDoor.Ev.C

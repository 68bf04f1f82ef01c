/- StrataEdges. -/
import Derived.Test.YtdbmeidhlijopaaGreatDoorTO
import Derived.Test.YtdbmeidhlijopaaGreatDoorTP
import Derived.Test.YtdbmeidhlijopaaGreatDoorTLevels
namespace Go.Proofs.YtdbmeidhlijopaaGreatDoor.Ev.C
open Go Go.Proofs.YtdbmeidhlijopaaGreatDoor.Ev Go.Sort Go.Proofs
set_option linter.unusedSimpArgs false
set_option linter.unusedVariables false
theorem KStart.two {h:H} (ks:KStart h) (wf:h.Wf):2≤h.n:=by
 have:=wf.ob _ _ ks.row;omega
theorem a02:SmallS []:=⟨by simp,fun t h=>by cases h⟩
theorem a2w (x:Ed):aAL [.i,.i,.b] (edC x) (edC x)=some true:=by
 simp [aAL,edC,intC]
theorem ed_eqA (x:Ed):eqA (.flatK [.i,.i,.b]) (.agg (edC x)) (.agg (edC x))=some true:=by
 simp only [eqA,a2w]
theorem a0G (a b:Int) (c:Bool):afill [AV.int .i64 0,.int .i64 0,.bool false] [(0,1,.int .i64 a),(1,1,.int .i64 b),(2,1,.bool c)]=some (edC (a,b,c)):=rfl
/-- an edge's place and cells, in any heap that keeps the row -/
theorem Eds.atW {h:H} {v:AV} {l:List Ed} (b:Eds h v l) (bs:Slot (Old h.n) h v) {i:Nat} (hi:i<l.length) :
 ∃ o j,aAJ 3 v (.int .i64 (i:Int))=some (.ptr o j) ∧ ∀ h',Keep (Old h.n) h h'→loadA h' false 1 (.ptr o (j+0))=some (intC l[i].1)∧loadA h' false 1 (.ptr o (j+1))=some (intC l[i].2.1)∧loadA h' false 1 (.ptr o (j+2))=some (.bool l[i].2.2)∧loadA h' true 3 (.ptr o j)=some (.agg (edC l[i])):=by
 obtain ⟨o,j,e,_⟩:=b.at hi
 refine ⟨o,j,e,fun h' k => ?_⟩
 obtain ⟨o',j',e',h1,h2,h3,h4⟩:=Eds.at (Sl.keep b k bs) hi
 rw [e] at e'
 cases e'
 exact ⟨h1,h2,h3,h4⟩
theorem aZo {v:AV} {l:List Ed} {h:H} (b:Eds h v l) (bs:Slot (Old h.n) h v) (hl:l.length<1000000000) (wf:h.Wf) :
 WCall (EL LX) aEk [v] h fun r h'=>Keep (Old h.n) h h' ∧ ∃ v',r = .val v'∧Eds h' v' l∧Slot (Old h'.n) h' v':=by
 refine aAI ((EL_ov _ _).trans rfl) (EL_T aPA) (by simp [aEa]) ?_
 refine aAA (aAB ?_)
 simp only [aHc,go_sem,↓reduceIte,Nat.reduceEqDiff]
 refine aAA (aAB ?_)
 simp only [aHG,go_sem,↓reduceIte,Nat.reduceEqDiff]
 refine aAA (aAA (aAB ?_))
 simp only [aH7,go_sem,↓reduceIte,Nat.reduceEqDiff]
 refine aBZ (n:=l.length) (i0:=0) (by omega) (fun i z g=>Keep (Old h.n) h g∧(∃ vm,z 3=vm∧Eds g vm (l.take i)∧Own h.n g vm)∧z 0=v) (by decide) ?_ rfl (Nat.zero_le _) ⟨Keep.refl _ _,⟨.nils,rfl,Sl.nil h 3,trivial⟩,rfl⟩ ?_ ?_ ?_
 · rintro i s g t v (rfl | rfl | rfl) ⟨a,b,c⟩ <;> exact ⟨a,b,c⟩
 · rintro i z g hi ⟨kg,ex,z0⟩ z4
   refine aAB ?_
   simp only [aHX,go_sem,↓reduceIte,Nat.reduceEqDiff,z0,z4,b.len,decI]
   exact ⟨⟨kg,ex,trivial⟩,trivial,trivial⟩
 · rintro i z g hi ⟨kg,⟨vm,z3,sm,om⟩,z0⟩ z4
   have wg:=kg.wf wf
   obtain ⟨po,pj,e1,hk⟩:=b.atW bs hi
   obtain ⟨c0,c1,c2,_⟩:=hk g kg
   obtain ⟨d0,d1,d2,_⟩:=hk (g.new (edC (l[i].1,l[i].2.1,l[i].2.2))) (kg.trans (Keep.new kg.n _))
   obtain ⟨v2,g2,e3,s2,o2,k2⟩:=Eds.push (N:=h.n) wg kg.n sm om (l[i].1,l[i].2.1,l[i].2.2) (by simp;omega)
   have htk:l.take (i+1)=l.take i ++ [(l[i].1,l[i].2.1,l[i].2.2)]:=by rw [List.take_add_one,List.getElem?_eq_getElem hi];rfl
   refine aAS ?_
   simp only [aHN,go_sem,↓reduceIte,Nat.reduceEqDiff,wanted,z0,z3,z4,e1,aAC,c0,c1,c2,parts,List.map_cons,List.map_nil,intC,a0G,a1B,d0,d1,d2,e3,and_self,true_and,List.filter_cons,List.filter_nil,Nat.testBit,Nat.reduceShiftRight,Nat.reduceAnd,Nat.reduceBNe,Bool.not_false,Bool.not_true,Bool.false_eq_true,bne_self_eq_false]
   exact ⟨⟨kg.trans k2,⟨v2,rfl,by rw [htk];exact s2,o2⟩,trivial⟩,trivial⟩
 · rintro z g ⟨kg,⟨vm,z3,sm,om⟩,z0⟩
   rw [List.take_length] at sm
   refine aAA (aAB ?_)
   simp only [aHg,go_sem,↓reduceIte,Nat.reduceEqDiff,z3]
   refine aAE ?_
   simp only [go_sem,aEa,↓reduceIte,Nat.reduceEqDiff]
   exact ⟨kg,vm,rfl,sm,om.slot (kg.wf wf)⟩
theorem aWl {h:H} (ks:KStart h) (wf:h.Wf) (s:T8s) (hsl:s.length<4611686018427387904):WCall (EL LX) aDA [.str s] h fun r _=>r = .val (.bool true):=by
 refine aAI ((EL_ov _ _).trans rfl) (EL_T aLO) (by simp [aAf]) ?_
 refine aAA (aAB ?_)
 simp only [aEA,go_sem,↓reduceIte,Nat.reduceEqDiff]
 refine aAA (aAB ?_)
 simp only [aEH,go_sem,↓reduceIte,Nat.reduceEqDiff]
 refine aGm (g:=yes) ((EL_ov _ _).trans rfl) (r := .val (.bool true)) (h':=h) (by simp [yes,aVD ks]) ?_
 simp only [go_sem,↓reduceIte,Nat.reduceEqDiff]
 refine aAA (aAA (aAB ?_))
 simp only [aEE,go_sem,↓reduceIte,Nat.reduceEqDiff,Bool.not_true]
 refine aAD ?_
 simp only [go_sem,↓reduceIte,Nat.reduceEqDiff,Bool.false_eq_true]
 refine aAF ?_
 simp only [go_sem,↓reduceIte,Nat.reduceEqDiff]
 refine aAA (aAA (aAB ?_))
 simp only [aEC,go_sem,↓reduceIte,Nat.reduceEqDiff,enterS,List.getD_cons_zero,List.getD_cons_succ,lenTA,Option.map_some]
 refine aAD ?_
 by_cases hlen:(2048:Int)<(s.length:Int)
 · simp only [go_sem,↓reduceIte,Nat.reduceEqDiff,hlen,decide_true]
   refine aAA (aAB ?_)
   simp only [aEF,go_sem,↓reduceIte,Nat.reduceEqDiff]
   refine aAE ?_
   simp only [aAf,go_sem,↓reduceIte,Nat.reduceEqDiff]
 simp only [go_sem,↓reduceIte,Nat.reduceEqDiff,hlen,decide_false,Bool.false_eq_true]
 refine aAF ?_
 simp only [go_sem,↓reduceIte,Nat.reduceEqDiff]
 have hl2:s.length≤2048:=by omega
 refine aAA (aAB ?_)
 simp only [aEB,go_sem,↓reduceIte,Nat.reduceEqDiff,enterS,List.getD_cons_zero,List.getD_cons_succ]
 refine (aYt s (by omega) wf ks (ks.two wf)).mono ?_
 intro r1 h1 q1
 obtain ⟨k1,q1⟩:=q1
 have w1:=k1.wf wf
 -- behind the two answers
 have early : ∀ (Q:Post) (z:S) (g:H) (k:List Fr1) (f:Int),(z 5 ≠ .int .i64 0∨f≠0)→(∃ e:Int,z 5 = .int .i64 e)→z 7 = .int .i64 f→(∀ z g,z 2 = .bool true→Q .ret z g) →
  WS (EL LX) (.seq (.ops aAq) (.cond (.tmp 34) (.seq (.ops aBJ) .ret) .skip)) k Q z g:=by
  intro Q z g k f hne ⟨e,z5⟩ z7 hQ
  refine aAA (aAB ?_)
  by_cases he:e=0
  · subst he
    have hf:f≠0:=by rcases hne with h | h;exact absurd z5 h;exact h
    simp only [aAq,go_sem,↓reduceIte,Nat.reduceEqDiff,wanted,decide_true,decide_false,beq_self_eq_true,pickA,show (false==true)=false from rfl,show (true==false)=false from rfl,Bool.false_eq_true,undefA,Bool.not_true,Bool.not_false,z5,z7,hf]
    refine aAD ?_
    simp only [go_sem,↓reduceIte,Nat.reduceEqDiff]
    refine aAA (aAB ?_)
    simp only [aBJ,go_sem,↓reduceIte,Nat.reduceEqDiff]
    refine aAE ?_
    exact hQ _ _ rfl
  · simp only [aAq,go_sem,↓reduceIte,Nat.reduceEqDiff,wanted,decide_true,decide_false,beq_self_eq_true,pickA,show (false==true)=false from rfl,show (true==false)=false from rfl,Bool.false_eq_true,undefA,Bool.not_true,Bool.not_false,z5,z7,he]
    refine aAD ?_
    simp only [go_sem,↓reduceIte,Nat.reduceEqDiff]
    refine aAA (aAB ?_)
    simp only [aBJ,go_sem,↓reduceIte,Nat.reduceEqDiff]
    refine aAE ?_
    exact hQ _ _ rfl
 cases hp:parseP (lexP s) with
 | error e =>
  rw [hp] at q1
  have q1':r1 = .val (.tup [.agg [.nils],.int .i64 e.1,.int .i64 (e.2:Int)]):=q1
  subst q1'
  obtain ⟨g1,p1,c1,kk1⟩:=Box.init w1 (z := [AV.nils]) (cs := [AV.nils]) (n:=1) rfl rfl rfl
  have wg1:=kk1.wf w1
  simp only [go_sem,↓reduceIte,Nat.reduceEqDiff,aAM,List.getElem?_cons_zero,List.getElem?_cons_succ,p1]
  have m1:loadA g1 true 1 (.ptr h1.n 0)=some (.agg [.nils]):=c1.loadAgg rfl
  refine aAA (aAB ?_)
  simp only [aCl,go_sem,↓reduceIte,Nat.reduceEqDiff,m1]
  refine (aTl (l := []) wg1 (IsL.nil _ _ _ _) (Keep.refl _ _) a02).mono ?_
  rintro _ g2 ⟨k2,rfl⟩
  simp only [go_sem,↓reduceIte,Nat.reduceEqDiff,aAM,List.getElem?_cons_zero,List.getElem?_cons_succ]
  refine aAA (early _ _ _ _ _ (.inl ?_) ⟨_,rfl⟩ rfl ?_)
  · intro he
    exact a0V hp (by injection he)
  · intro z g z2
    simp only [aAf,go_sem,↓reduceIte,Nat.reduceEqDiff,z2]
 | ok l =>
 rw [hp] at q1
 obtain ⟨w,rfl,is0⟩:=q1
 have is:IsSch 0 h1 w l:=is0.less (Nat.zero_le _)
 have ty:=aTo hp
 have sm:=ty.sm
 obtain ⟨hg,hz⟩:=aPL hp
 obtain ⟨g1,p1,c1,kk1⟩:=Box.init w1 (z := [AV.nils]) (cs := [w]) (n:=1) rfl rfl (by simp only [List.all_cons,List.all_nil,(IsL.one is).1];rfl)
 have wg1:=kk1.wf w1
 simp only [go_sem,↓reduceIte,Nat.reduceEqDiff,aAM,List.getElem?_cons_zero,List.getElem?_cons_succ,p1]
 have m1:loadA g1 true 1 (.ptr h1.n 0)=some (.agg [w]):=c1.loadAgg rfl
 refine aAA (aAB ?_)
 simp only [aCl,go_sem,↓reduceIte,Nat.reduceEqDiff,m1]
 refine (aTl (l:=l) wg1 is kk1 sm).mono ?_
 rintro _ g2 ⟨k2,rfl⟩
 have wg2:=k2.wf wg1
 simp only [go_sem,↓reduceIte,Nat.reduceEqDiff,aAM,List.getElem?_cons_zero,List.getElem?_cons_succ]
 by_cases hc:(checkP l).1=0
 case neg =>
  refine aAA (early _ _ _ _ _ (.inr hc) ⟨_,rfl⟩ rfl ?_)
  intro z g z2
  simp only [aAf,go_sem,↓reduceIte,Nat.reduceEqDiff,z2]
 have hn:=aNP hc
 refine aAA (aAA (aAB ?_))
 simp only [aAq,go_sem,↓reduceIte,Nat.reduceEqDiff,wanted,decide_true,decide_false,beq_self_eq_true,pickA,show (false==true)=false from rfl,show (true==false)=false from rfl,Bool.false_eq_true,undefA,Bool.not_true,Bool.not_false,hc]
 refine aAD ?_
 simp only [go_sem,↓reduceIte,Nat.reduceEqDiff,Bool.false_eq_true]
 refine aAF ?_
 simp only [go_sem,↓reduceIte,Nat.reduceEqDiff]
 have RH:=aZz hp hc
 have same:=aYc hp hc
 have kb2:Keep (Old h1.n) h1 g2:=kk1.trans (k2.less kk1.n)
 have c2:=c1.keep k2 (c1.lt wg1)
 have m4:loadA g2 true 1 (.ptr h1.n 0)=some (.agg [w]):=c2.loadAgg rfl
 refine aAA (aAB ?_)
 simp only [aDi,go_sem,↓reduceIte,Nat.reduceEqDiff,m4]
 refine (aZD wg2 is kb2 ty (aSk hn.typs hn.rels)).mono ?_
 rintro _ g3 ⟨k3,v3,rfl,fo3⟩
 have wg3:=k3.wf wg2
 have hbig:(edgesP l).length<1000000000:=by
  rw [same];unfold refP
  have:=aTN (refT (pathsP l) 0 l) []
  have:=RH.big
  simp only [List.length_nil] at *;omega
 simp only [go_sem,↓reduceIte,Nat.reduceEqDiff]
 refine (aZo fo3.1 (fo3.2.slot wg3) hbig wg3).mono ?_
 rintro _ g4 ⟨k4,v4,rfl,ed4,sl4⟩
 have wg4:=k4.wf wg3
 simp only [go_sem,↓reduceIte,Nat.reduceEqDiff]
 have c4:=(c2.keep k3 (c2.lt wg2)).keep k4 ((c2.keep k3 (c2.lt wg2)).lt wg3)
 have kb4:Keep (Old h1.n) h1 g4:=(kb2.trans (k3.less kb2.n)).trans (k4.less (Nat.le_trans kb2.n k3.n))
 have m5:loadA g4 true 1 (.ptr h1.n 0)=some (.agg [w]):=c4.loadAgg rfl
 refine aAA (aAB ?_)
 simp only [aDv,go_sem,↓reduceIte,Nat.reduceEqDiff,m5]
 refine (a3H wg4 is kb4 sm).mono ?_
 rintro _ g5 ⟨k5,v5,rfl,is5⟩
 have wg5:=k5.wf wg4
 simp only [go_sem,↓reduceIte,Nat.reduceEqDiff]
 refine (aVx wg5 (is5.less (Nat.zero_le _)) (Keep.refl _ _) RH).mono ?_
 rintro _ g6 ⟨k6,v6,rfl,s6,rd6⟩
 have wg6:=k6.wf wg5
 simp only [go_sem,↓reduceIte,Nat.reduceEqDiff]
 rw [← same] at s6
 have k46:Keep (Old g4.n) g4 g6:=k5.trans (k6.less k5.n)
 have sl6:Slot (Old g6.n) g6 v6:=(rd6.slotA (gs := []) (by simp)).mono fun j q=>q.1
 generalize edgesP l=es at *
 refine aAA (aAA (aAB ?_))
 simp only [aDu,go_sem,↓reduceIte,Nat.reduceEqDiff,ed4.len,s6.len,Option.map_some,ne_eq,not_true_eq_false,decide_false]
 refine aAD ?_
 simp only [go_sem,↓reduceIte,Nat.reduceEqDiff,Bool.false_eq_true]
 refine aAF ?_
 simp only [go_sem,↓reduceIte,Nat.reduceEqDiff]
 refine aAA (aAA (aAB ?_))
 simp only [aDp,go_sem,↓reduceIte,Nat.reduceEqDiff]
 refine aBZ (n:=es.length) (i0:=0) (by omega) (fun i z g=>g=g6∧z 9=v4∧z 10=v6) (by decide) ?_ rfl (Nat.zero_le _) ⟨rfl,rfl,rfl⟩ ?_ ?_ ?_
 · rintro i s g t v (rfl | rfl | rfl) ⟨a,b,c⟩ <;> exact ⟨a,b,c⟩
 · rintro i z g hi ⟨rfl,z9,z10⟩ z11
   refine aAB ?_
   simp only [aDr,go_sem,↓reduceIte,Nat.reduceEqDiff,z9,z11,ed4.len,decI]
   exact ⟨⟨trivial,trivial,z10⟩,trivial,trivial⟩
 · rintro i z g hi ⟨rfl,z9,z10⟩ z11
   obtain ⟨po,pj,e1,hk1⟩:=ed4.atW sl4 hi
   obtain ⟨qo,qj,e2,hk2⟩:=Eds.atW s6 sl6 hi
   have x1:=(hk1 g k46).2.2.2
   have x2:=(hk2 g (Keep.refl _ _)).2.2.2
   refine aAA (aAS ?_)
   simp only [aDn,go_sem,↓reduceIte,Nat.reduceEqDiff,wanted,z9,z10,z11,e1,e2,x1,x2,ed_eqA,Option.map_some,Bool.not_true,and_self,true_and,List.filter_cons,List.filter_nil,Nat.testBit,Nat.reduceShiftRight,Nat.reduceAnd,Nat.reduceBNe,Bool.not_false,Bool.not_true,Bool.false_eq_true,bne_self_eq_false]
   refine aAD ?_
   simp only [go_sem,↓reduceIte,Nat.reduceEqDiff,Bool.false_eq_true,Bool.not_true]
   refine aAF ?_
   simp only [go_sem,↓reduceIte,Nat.reduceEqDiff]
   exact ⟨⟨trivial,z9,z10⟩,z11⟩
 rintro z g ⟨rfl,z9,z10⟩
 refine aAA (aAB ?_)
 simp only [aDq,go_sem,↓reduceIte,Nat.reduceEqDiff]
 refine aAE ?_
 simp only [aAf,go_sem,↓reduceIte,Nat.reduceEqDiff]
end Go.Proofs.YtdbmeidhlijopaaGreatDoor.Ev.C

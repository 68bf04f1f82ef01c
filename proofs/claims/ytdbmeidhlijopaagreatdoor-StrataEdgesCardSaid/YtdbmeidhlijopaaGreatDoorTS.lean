/- strata.numbers, objects, to. -/
import Derived.Test.YtdbmeidhlijopaaGreatDoorTC
import Derived.Test.YtdbmeidhlijopaaGreatDoorTT2
import Derived.Test.YtdbmeidhlijopaaGreatDoorTD
import Derived.Test.YtdbmeidhlijopaaGreatDoorTLevels
namespace Go.Proofs.YtdbmeidhlijopaaGreatDoor.Ev.C
open Go Go.Proofs.YtdbmeidhlijopaaGreatDoor.Ev
set_option linter.unusedSimpArgs false
set_option linter.unusedVariables false
def pathsT (t:TypD):List Pth:=t.rels.map fun r=>(t.name,r.name)
/-- all relations, by their types and names -/
def pathsP (l:List TypD):List Pth:=l.flatMap pathsT
theorem aSS (a b:T8s):afill [AV.str [],.str []] [(0,1,.str a),(1,1,.str b)]=some [.str a,.str b]:=rfl
theorem aUC {l:List TypD} {j:Nat} (hj:j<l.length):pathsP l=pathsP (l.take j)++(pathsT l[j]++pathsP (l.drop (j+1))):=by
 conv=>lhs;rw [← List.take_append_drop j l,List.drop_eq_getElem_cons hj]
 unfold pathsP
 rw [List.flatMap_append,List.flatMap_cons]
theorem aZP {l:List TypD} {j:Nat} (hj:j<l.length):pathsP (l.take (j+1))=pathsP (l.take j)++pathsT l[j]:=by
 rw [List.take_add_one,List.getElem?_eq_getElem hj]
 unfold pathsP
 rw [List.flatMap_append];simp
theorem aXQ {w:AV} {l:List TypD} {hb h:H} (wf:h.Wf) (is:IsSch 0 hb w l) (kb:Keep (Old hb.n) hb h) (sm:SmallS l) (nd:(pathsP l).Nodup) :
 WCall (EL LX) aGq [.agg [w]] h fun r g=>Keep (Old h.n) h g ∧ ∃ o,r = .val (.map o)∧h.n≤o∧PMap o (pathsP l) g:=by
 obtain ⟨h1,hg1,b1,k1,w1,n1⟩:=aAR wf [w]
 have hlen:=is.len
 refine aAI ((EL_ov _ _).trans rfl) (EL_T aTV) (by simp [aGy]) ?_
 refine aAA (aAB ?_)
 simp only [aL0,go_sem,↓reduceIte,Nat.reduceEqDiff,enterS,List.getD_cons_zero,List.getD_cons_succ,AV.cells,hg1]
 refine aAA (aAB ?_)
 simp only [aL3,go_sem,↓reduceIte,Nat.reduceEqDiff]
 have k2:Keep (Old h1.n) h1 (h1.push (.mem (.map [] 0))):=Keep.push (by intro _ _ e;cases e)
 have m2:PMap h1.n [] (h1.push (.mem (.map [] 0))):=by unfold PMap;rw [H.get_push,if_pos rfl];rfl
 have lt2:h1.n<(h1.push (.mem (.map [] 0))).n:=Nat.lt_succ_self _
 generalize h1.push (.mem (.map [] 0))=h2 at k2 m2 lt2 ⊢
 have l0:loadA h2 false 1 (.ptr h.n 0)=some w:=(b1.keep k2 (b1.lt w1)).load 1 0
 refine aAA (aAA (aAB ?_))
 simp only [aL8,go_sem,↓reduceIte,Nat.reduceEqDiff,aAC,Nat.zero_add,Nat.add_zero,Nat.reduceAdd,l0,hlen]
 refine aCz (n:=l.length) (by have:=sm.1;omega) (fun j s g=>Keep (Old h1.n) h1 g∧PMap h1.n (pathsP (l.take j)) g∧h1.n<g.n∧s 3 = .map h1.n∧s 10=w) (by decide) ?_ rfl rfl ⟨k2,m2,lt2,rfl,rfl⟩ ?_ ?_
 · rintro j s g t v (rfl | rfl | rfl) ⟨a,b,c,d,e⟩ <;> exact ⟨a,b,c,d,e⟩
 · rintro j s g hj ⟨kg,mg,lg,z3,z10⟩ z12 z11
   have wg:=kg.wf w1
   have k0g:Keep (Old h.n) h g:=k1.trans (kg.less (by omega))
   have kbg:=kb.trans (k0g.less kb.n)
   obtain ⟨o,i,tcs,e1,e2,it,e4,e5⟩:=IsL.atK is kbg hj (by decide) .i64
   have smt:=sm.2 _ (List.getElem_mem hj)
   have hpc:=aUC hj
   have hpt:=aZP hj
   generalize hxe:l[j]=t at it smt hpc hpt
   obtain ⟨rv,rfl,il⟩:=it
   obtain ⟨g1,p1,c1,kk1⟩:=Box.init wg (z := [AV.str [],.nils]) (cs := [.str t.name,rv]) (n:=2) rfl rfl (by simp only [List.all_cons,List.all_nil,(IsL.one il).1];rfl)
   have wg1:=kk1.wf wg
   refine aAA (aAB ?_)
   simp only [aLZ,go_sem,↓reduceIte,Nat.reduceEqDiff,z10,z12,e1,e5,p1]
   have t0:loadA g1 false 1 (.ptr g.n 0)=some (.str t.name):=c1.load 1 0
   have t1:loadA g1 false 1 (.ptr g.n 1)=some rv:=c1.load 1 1
   refine aAA (aAB ?_)
   simp only [aLW,go_sem,↓reduceIte,Nat.reduceEqDiff,aAC,Nat.zero_add,Nat.add_zero,Nat.reduceAdd,t1,il.len]
   refine aCz (n:=t.rels.length) (by have:=smt.1;omega) (fun k s g'=>Keep (Old h1.n) h1 g'∧PMap h1.n (pathsP (l.take j)++(t.rels.take k).map fun r=>(t.name,r.name)) g'∧h1.n<g'.n∧Box g.n [.str t.name,rv] g'∧s 3 = .map h1.n∧s 10=w∧s 5 = .ptr g.n 0∧s 17=rv∧s 12 = .int .i64 (j:Int)∧s 11 = .int .i64 (l.length:Int)) (by decide) ?_ rfl rfl
    ⟨kg.trans (kk1.less kg.n),by have:=mg.rk kk1.rk lg;simpa using this,Nat.lt_of_lt_of_le lg kk1.n,c1,z3,z10,rfl,rfl,z12,z11⟩ ?_ ?_
   · rintro k s g t v (rfl | rfl | rfl) ⟨a1,a2,a3,a4,a5,a6,a7,a8,a9,a10⟩ <;> exact ⟨a1,a2,a3,a4,a5,a6,a7,a8,a9,a10⟩
   · rintro k s g2 hk ⟨kg2,mg2,lg2,c2,y3,y10,y5,y17,y12,y11⟩ y19 y18
     have wg2:=kg2.wf w1
     have kbg2:Keep (Old hb.n) hb g2:=kb.trans ((k1.trans (kg2.less (by omega))).less kb.n)
     obtain ⟨o2,i2,rcs,f1,f2,ir,f4,f5⟩:=IsL.atK il kbg2 hk (by decide) .i64
     generalize hre:t.rels[k]=r at ir
     obtain ⟨g3,p3,c3,kk3⟩:=Box.init wg2 (z := [AV.str [],.str [],.str [],.str [],.nils,.nils]) (cs:=rcs) (n:=6) rfl f2 ir.one.2
     have wg3:=kk3.wf wg2
     refine aAA (aAB ?_)
     simp only [aL1,go_sem,↓reduceIte,Nat.reduceEqDiff,y17,y19,f1,f5,p3]
     have c23:=c2.keep kk3 (c2.lt wg2)
     have m3:=mg2.rk kk3.rk lg2
     have r0:loadA g3 false 1 (.ptr g2.n 0)=some (.str r.name):=(c3.load 1 0).trans ir.name0
     have t0':loadA g3 false 1 (.ptr g.n 0)=some (.str t.name):=c23.load 1 0
     have hnew:(t.name,r.name)∉pathsP (l.take j)++(t.rels.take k).map fun r=>(t.name,r.name):=by
      have hs:pathsT t=(t.rels.take k).map (fun r=>(t.name,r.name))++(t.name,r.name)::(t.rels.drop (k+1)).map fun r=>(t.name,r.name):=by
       unfold pathsT
       conv=>lhs;rw [← List.take_append_drop k t.rels,List.drop_eq_getElem_cons hk,hre]
       simp
      rw [hpc,hs,List.append_assoc,← List.append_assoc] at nd
      have:=(List.nodup_append.1 nd).2.2
      intro hm
      exact this _ hm _ (by simp) rfl
     obtain ⟨g4,p4,m4,X,e4'⟩:=m3.put hnew
     have hn3:h1.n<g3.n:=Nat.lt_of_lt_of_le lg2 kk3.n
     have k4:Keep (Old h1.n) g3 g4:=by rw [e4'];exact Keep.setX (Nat.le_refl _) hn3 X
     refine aAB ?_
     simp only [aL2,go_sem,↓reduceIte,Nat.reduceEqDiff,aAC,Nat.zero_add,Nat.add_zero,Nat.reduceAdd,y3,y5,t0',r0,aSS,m3.len,show (AV.agg [.str t.name,.str r.name]) = .agg (pthC (t.name,r.name)) from rfl,p4]
     refine ⟨⟨(kg2.trans (kk3.less kg2.n)).trans k4,?_,by rw [e4'];exact hn3,by rw [e4'];exact c23.setMem (by have:=kg.n;have:=c1.lt wg1;omega) X,trivial,y10,trivial,y17,y12,y11⟩,y19,y18⟩
     rw [List.append_assoc] at m4
     rw [List.take_add_one,List.getElem?_eq_getElem hk,hre]
     simpa using m4
   · rintro s g2 ⟨kg2,mg2,lg2,c2,y3,y10,y5,y17,y12,y11⟩
     simp only [go_sem,↓reduceIte,Nat.reduceEqDiff]
     refine ⟨⟨kg2,?_,lg2,y3,y10⟩,y12,y11⟩
     rw [hpt]
     rw [List.take_length] at mg2
     exact mg2
 · rintro s g ⟨kg,mg,lg,z3,z10⟩
   simp only [go_sem,↓reduceIte,Nat.reduceEqDiff]
   refine aAA (aAB ?_)
   simp only [aKd,go_sem,↓reduceIte,Nat.reduceEqDiff,z3]
   refine aAE ?_
   simp only [aGy,go_sem,↓reduceIte,Nat.reduceEqDiff]
   rw [List.take_length] at mg
   exact ⟨k1.trans (kg.less (by omega)),h1.n,rfl,by omega,mg⟩
end Go.Proofs.YtdbmeidhlijopaaGreatDoor.Ev.C

/- strata.objects, to. -/
namespace Go.Proofs.YtdbmeidhlijopaaGreatDoor.Ev.C
open Go Go.Proofs.YtdbmeidhlijopaaGreatDoor.Ev
set_option linter.unusedSimpArgs false
set_option linter.unusedVariables false
def strC (s:T8s):List AV := [.str s]
def subsN (l:List RelD):Nat:=(l.map fun r=>r.subs.length).sum
def objR (rel:T8s) (r:RelD):List T8s:=if r.name=rel then (r.subs.filter fun x=>decide (x.2 = [])).map (·.1) else []
/-- the types of objects that a relation's tuples may have -/
def objP (t:TypD) (rel:T8s):List T8s:=t.rels.flatMap (objR rel)
theorem a0e (rel:T8s) (r:RelD):(objR rel r).length≤r.subs.length:=by
 unfold objR
 split
 · rw [List.length_map];exact List.length_filter_le _ _
 · simp
theorem aOY (rel:T8s) : ∀ l:List RelD,(l.flatMap (objR rel)).length≤subsN l
 | []=>by simp
 | r::l=>by
  have:=aOY rel l
  have:=a0e rel r
  simp only [List.flatMap_cons,List.length_append,subsN,List.map_cons,List.sum_cons] at *
  omega
theorem aZO (l:List RelD) (k:Nat):subsN (l.take k)≤subsN l:=by
 have:subsN l=subsN (l.take k)+subsN (l.drop k):=by
  conv=>lhs;rw [← List.take_append_drop k l]
  unfold subsN;rw [List.map_append,List.sum_append]
 omega
theorem a3G (a:T8s):afill (zeros [AV.str []] (1*1)) [(0,1,.str a)]=some (strC a):=rfl
theorem aWX {tcs:List AV} {t:TypD} {rel:T8s} {hb h:H} (wf:h.Wf) (it:IsTyp 0 hb tcs t) (kb:Keep (Old hb.n) hb h) (smt:SmallT t) (sz:subsN t.rels<1000000) :
 WCall (EL LX) aGo [.agg tcs,.str rel] h fun r g=>Keep (Old h.n) h g ∧ ∃ v,r = .val v∧FL strC 1 h.n g v (objP t rel):=by
 obtain ⟨rv,rfl,il⟩:=it
 obtain ⟨h1,hg1,b1,k1,w1,n1⟩:=aAR wf [.str t.name,rv]
 refine aAI ((EL_ov _ _).trans rfl) (EL_T aT1) (by simp [aGr]) ?_
 refine aAA (aAB ?_)
 simp only [aLU,go_sem,↓reduceIte,Nat.reduceEqDiff,enterS,List.getD_cons_zero,List.getD_cons_succ,AV.cells,hg1]
 refine aAA (aAB ?_)
 simp only [aLS,go_sem,↓reduceIte,Nat.reduceEqDiff]
 have l0:loadA h1 false 1 (.ptr h.n 1)=some rv:=b1.load 1 1
 refine aAA (aAA (aAB ?_))
 simp only [aLV,go_sem,↓reduceIte,Nat.reduceEqDiff,aAC,Nat.zero_add,Nat.add_zero,Nat.reduceAdd,l0,il.len]
 refine aCz (n:=t.rels.length) (by have:=smt.1;omega) (fun j s g=>Keep (Old h1.n) h1 g∧FL strC 1 h1.n g (s 5) ((t.rels.take j).flatMap (objR rel))∧s 1 = .str rel∧s 11=rv) (by decide) ?_ rfl rfl ⟨Keep.refl _ _,FL.nil _ _ _ _,rfl,rfl⟩ ?_ ?_
 · rintro j s g t v (rfl | rfl | rfl) ⟨a,b,c,d⟩ <;> exact ⟨a,b,c,d⟩
 · rintro j s g hj ⟨kg,fl,z1,z11⟩ z13 z12
   have wg:=kg.wf w1
   have kbg:=kb.trans ((k1.trans (kg.less (by omega))).less kb.n)
   obtain ⟨o,i,rcs,e1,e2,ir,e4,e5⟩:=IsL.atK il kbg hj (by decide) .i64
   have smr:=smt.2.2 _ (List.getElem_mem hj)
   have htk:(t.rels.take (j+1)).flatMap (objR rel)=(t.rels.take j).flatMap (objR rel)++objR rel t.rels[j]:=by
    rw [List.take_add_one,List.getElem?_eq_getElem hj,List.flatMap_append];simp
   have hln:=Nat.le_trans (aOY rel (t.rels.take (j+1))) (aZO t.rels (j+1))
   rw [htk,List.length_append] at hln
   generalize hxe:t.rels[j]=r at ir smr htk hln
   have hone:=ir.one
   obtain ⟨sv,ov,rfl,⟨sl,rd⟩,-⟩:=ir
   obtain ⟨g1,p1,c1,kk1⟩:=Box.init wg (z := [AV.str [],.str [],.str [],.str [],.nils,.nils]) (cs := [.str r.name,.str r.view,.str r.edit,.str r.check,sv,ov]) (n:=6) rfl rfl hone.2
   have wg1:=kk1.wf wg
   have fl1:=fl.keepN wg kk1
   have kg1:Keep (Old h1.n) h1 g1:=kg.trans (kk1.less kg.n)
   refine aAA (aAB ?_)
   simp only [aLX,go_sem,↓reduceIte,Nat.reduceEqDiff,z11,z13,e1,e5,p1]
   have t0:loadA g1 false 1 (.ptr g.n 0)=some (.str r.name):=c1.load 1 0
   have t4:loadA g1 false 1 (.ptr g.n 4)=some sv:=c1.load 1 4
   refine aAA (aAA (aAB ?_))
   simp only [aLT,go_sem,↓reduceIte,Nat.reduceEqDiff,aAC,Nat.zero_add,Nat.add_zero,Nat.reduceAdd,t0,z1]
   refine aAD ?_
   by_cases hn:r.name=rel
   case neg =>
    simp only [go_sem,↓reduceIte,Nat.reduceEqDiff,hn,decide_false,Bool.not_false]
    refine aAK ?_
    simp only [go_sem,↓reduceIte,Nat.reduceEqDiff]
    refine ⟨⟨kg1,?_,z1,z11⟩,z13,z12⟩
    have ho:objR rel r = []:=by unfold objR;rw [if_neg hn]
    rw [htk,ho,List.append_nil];exact fl1
   simp only [go_sem,↓reduceIte,Nat.reduceEqDiff,hn,decide_true,Bool.not_true,Bool.false_eq_true]
   refine aAF ?_
   simp only [go_sem,↓reduceIte,Nat.reduceEqDiff]
   refine aAA (aAB ?_)
   simp only [aL4,go_sem,↓reduceIte,Nat.reduceEqDiff,aAC,Nat.zero_add,Nat.add_zero,Nat.reduceAdd,t4,sl.len]
   have hobj:objR rel r=(r.subs.filter fun x=>decide (x.2 = [])).map (·.1):=by unfold objR;rw [if_pos hn]
   have ils:IsL 0 2 (fun _ cs x=>cs=subC x) hb sv r.subs:=IsL.of_flat aHA sl rd
   refine aCz (n:=r.subs.length) (by have:=smr.2.1;omega) (fun k s g'=>Keep (Old h1.n) h1 g'∧FL strC 1 h1.n g' (s 5) ((t.rels.take j).flatMap (objR rel)++((r.subs.take k).filter fun x=>decide (x.2 = [])).map (·.1))∧s 1 = .str rel∧s 11=rv∧s 22=sv∧s 13 = .int .i64 (j:Int)∧s 12 = .int .i64 (t.rels.length:Int)) (by decide) ?_ rfl rfl
    ⟨kg1,(by rw [List.take_zero,List.filter_nil,List.map_nil,List.append_nil];exact fl1),z1,z11,rfl,z13,z12⟩ ?_ ?_
   · rintro k s g t v (rfl | rfl | rfl) ⟨a1,a2,a3,a4,a5,a6,a7⟩ <;> exact ⟨a1,a2,a3,a4,a5,a6,a7⟩
   · rintro k s g2 hk ⟨kg2,fl2,y1,y11,y22,y13,y12⟩ y24 y23
     have wg2:=kg2.wf w1
     have kbg2:Keep (Old hb.n) hb g2:=kb.trans ((k1.trans (kg2.less (by omega))).less kb.n)
     obtain ⟨o2,i2,xcs,f1,f2,rfl,f4,f5⟩:=IsL.atK ils kbg2 hk (by decide) .i64
     have hst:((r.subs.take (k+1)).filter fun x=>decide (x.2 = [])).map (·.1)=((r.subs.take k).filter fun x=>decide (x.2 = [])).map (·.1)++(if r.subs[k].2 = [] then [r.subs[k].1] else []):=by
      rw [List.take_add_one,List.getElem?_eq_getElem hk,List.filter_append,List.map_append]
      congr 1
      by_cases he:r.subs[k].2 = [] <;> simp [he]
     have hlk:(((r.subs.take k).filter fun x=>decide (x.2 = [])).map (·.1)).length≤r.subs.length:=by
      rw [List.length_map];exact Nat.le_trans (List.length_filter_le _ _) (by rw [List.length_take];omega)
     generalize hre:r.subs[k]=x at hst f5
     obtain ⟨g3,p3,c3,kk3⟩:=Box.init wg2 (z := [AV.str [],.str []]) (cs:=subC x) (n:=2) rfl rfl rfl
     have wg3:=kk3.wf wg2
     have fl3:=fl2.keepN wg2 kk3
     have kg3:Keep (Old h1.n) h1 g3:=kg2.trans (kk3.less kg2.n)
     refine aAA (aAB ?_)
     simp only [aL7,go_sem,↓reduceIte,Nat.reduceEqDiff,y22,y24,f1,f5,p3]
     have q0:loadA g3 false 1 (.ptr g2.n 0)=some (.str x.1):=c3.load 1 0
     have q1:loadA g3 false 1 (.ptr g2.n 1)=some (.str x.2):=c3.load 1 1
     refine aAA (aAB ?_)
     simp only [aL5,go_sem,↓reduceIte,Nat.reduceEqDiff,aAC,Nat.zero_add,Nat.add_zero,Nat.reduceAdd,q1]
     refine aAD ?_
     by_cases he:x.2 = []
     · rw [if_pos he] at hst
       obtain ⟨v',g4,e4,fl4,k4,r4,w4⟩:=FL.push (f:=strC) (fun _=>rfl) (fun _=>rfl) wg3 kg3.n fl3 x.1 (by
        rw [List.length_append]
        have h6:=smr.2.1
        omega)
       simp only [go_sem,↓reduceIte,Nat.reduceEqDiff,he,decide_true]
       refine aAB ?_
       simp only [aKt,go_sem,↓reduceIte,Nat.reduceEqDiff,aAC,Nat.zero_add,Nat.add_zero,Nat.reduceAdd,q0,a3G,e4]
       refine ⟨⟨kg3.trans k4,?_,y1,y11,y22,y13,y12⟩,y24,y23⟩
       rw [hst,← List.append_assoc];exact fl4
     · rw [if_neg he,List.append_nil] at hst
       simp only [go_sem,↓reduceIte,Nat.reduceEqDiff,he,decide_false,Bool.false_eq_true]
       refine aAF ?_
       simp only [go_sem,↓reduceIte,Nat.reduceEqDiff]
       refine ⟨⟨kg3,?_,y1,y11,y22,y13,y12⟩,y24,y23⟩
       rw [hst];exact fl3
   · rintro s g2 ⟨kg2,fl2,y1,y11,y22,y13,y12⟩
     simp only [go_sem,↓reduceIte,Nat.reduceEqDiff]
     refine ⟨⟨kg2,?_,y1,y11⟩,y13,y12⟩
     rw [List.take_length] at fl2
     rw [htk,hobj];exact fl2
 · rintro s g ⟨kg,fl,z1,z11⟩
   simp only [go_sem,↓reduceIte,Nat.reduceEqDiff]
   refine aAA (aAB ?_)
   simp only [aK8,go_sem,↓reduceIte,Nat.reduceEqDiff]
   refine aAE ?_
   simp only [aGr,go_sem,↓reduceIte,Nat.reduceEqDiff]
   rw [List.take_length] at fl
   exact ⟨k1.trans (kg.less (by omega)),_,rfl,fl.less (by omega)⟩
end Go.Proofs.YtdbmeidhlijopaaGreatDoor.Ev.C

/- strata.to. -/
namespace Go.Proofs.YtdbmeidhlijopaaGreatDoor.Ev.C
open Go Go.Proofs.YtdbmeidhlijopaaGreatDoor.Ev
set_option linter.unusedSimpArgs false
set_option linter.unusedVariables false
/-- the paths that an operation leads to -/
def toP (t:TypD) (r:RelD) (o:OpD):List Pth :=
 if o.1=1 then r.subs else if o.1=2 then [(t.name,o.2.1)] else if o.1=3 then (objP t o.2.1).map fun ty=>(ty,o.2.2) else []
theorem aU0 (p:Pth):afill (zeros [AV.str [],.str []] (1*2)) [(0,2,.agg (pthC p))]=some (pthC p):=rfl
theorem a3I {tcs rcs:List AV} {t:TypD} {r:RelD} {o:OpD} {hb h:H} (wf:h.Wf) (it:IsTyp 0 hb tcs t) (ir:IsRel 0 hb rcs r) (kb:Keep (Old hb.n) hb h) (smt:SmallT t) (sz:subsN t.rels<1000000) (sr:r.subs.length<1000000) :
 WCall (EL LX) aN4 [.agg tcs,.agg rcs,.agg (opC o)] h fun rr g=>Keep (Old h.n) h g ∧ ∃ v,rr = .val v∧FL pthC 2 h.n g v (toP t r o):=by
 have hit:=it
 have tone:=it.one
 have rone:=ir.one
 obtain ⟨sv,ov,rfl,⟨sl,rd⟩,-⟩:=ir
 obtain ⟨h1,hg1,b1,k1,w1,n1⟩:=aAR wf tcs
 obtain ⟨h2,hg2,b2,k2,w2,n2⟩:=aAR w1 [.str r.name,.str r.view,.str r.edit,.str r.check,sv,ov]
 obtain ⟨h3,hg3,b3,k3,w3,n3⟩:=aAR w2 (opC o)
 have k12:Keep (Old h.n) h h2:=k1.trans (k2.less k1.n)
 have k03:Keep (Old h.n) h h3:=k12.trans (k3.less k12.n)
 have c1:=(b1.keep k2 (b1.lt w1)).keep k3 ((b1.keep k2 (b1.lt w1)).lt w2)
 have c2:=b2.keep k3 (b2.lt w2)
 refine aAI ((EL_ov _ _).trans rfl) (EL_T aXn) (by simp [aKX]) ?_
 refine aAA (aAB ?_)
 simp only [aRb,go_sem,↓reduceIte,Nat.reduceEqDiff,enterS,List.getD_cons_zero,List.getD_cons_succ,AV.cells,hg1,hg2,hg3]
 refine aAA (aAB ?_)
 simp only [aRB,go_sem,↓reduceIte,Nat.reduceEqDiff]
 have l0:loadA h3 false 1 (.ptr h2.n 0)=some (.int .i64 (o.1:Int)):=b3.load 1 0
 have l4:loadA h3 false 1 (.ptr h1.n 4)=some sv:=c2.load 1 4
 refine aAA (aAA (aAB ?_))
 simp only [aQx,go_sem,↓reduceIte,Nat.reduceEqDiff,aAC,Nat.zero_add,Nat.add_zero,Nat.reduceAdd,l0]
 have fini : ∀ s g v,Keep (Old h3.n) h3 g→s 7=v→FL pthC 2 h3.n g v (toP t r o)→WS (EL LX) (.seq (.ops aKy) .ret) [] (atEnd aKX.results fun rr g=>Keep (Old h.n) h g ∧ ∃ v,rr = .val v∧FL pthC 2 h.n g v (toP t r o)) s g:=by
  rintro s g v kg rfl fl
  refine aAA (aAB ?_)
  simp only [aKy,go_sem,↓reduceIte,Nat.reduceEqDiff]
  refine aAE ?_
  simp only [aKX,go_sem,↓reduceIte,Nat.reduceEqDiff]
  exact ⟨k03.trans (kg.less k03.n),_,rfl,fl.less k03.n⟩
 refine aAG (aAA (aAB ?_))
 simp only [aRO,go_sem,↓reduceIte,Nat.reduceEqDiff]
 refine aAD ?_
 by_cases o1:o.1=1
 · have e1:(o.1:Int)=1:=by omega
   have hto:toP t r o=r.subs:=by unfold toP;rw [if_pos o1]
   simp only [go_sem,↓reduceIte,Nat.reduceEqDiff,e1,decide_true]
   refine aAA (aAB ?_)
   simp only [aRL,go_sem,↓reduceIte,Nat.reduceEqDiff,aAC,Nat.zero_add,Nat.add_zero,Nat.reduceAdd,l4,sl.len]
   have ils:IsL 0 2 (fun _ cs x=>cs=subC x) hb sv r.subs:=IsL.of_flat aHA sl rd
   refine aCz (n:=r.subs.length) (by omega) (fun k s g=>Keep (Old h3.n) h3 g∧FL pthC 2 h3.n g (s 7) (r.subs.take k)∧s 17=sv) (by decide) ?_ rfl rfl ⟨Keep.refl _ _,FL.nil _ _ _ _,rfl⟩ ?_ ?_
   · rintro j s g t v (rfl | rfl | rfl) ⟨a,b,c⟩ <;> exact ⟨a,b,c⟩
   · rintro k s g hk ⟨kg,fl,z17⟩ z19 z18
     have wg:=kg.wf w3
     have kbg:=kb.trans ((k03.trans (kg.less k03.n)).less kb.n)
     obtain ⟨o2,i2,xcs,f1,f2,rfl,f4,f5⟩:=IsL.atK ils kbg hk (by decide) .i64
     have hst:r.subs.take (k+1)=r.subs.take k ++ [r.subs[k]]:=by rw [List.take_add_one,List.getElem?_eq_getElem hk];rfl
     generalize hre:r.subs[k]=x at hst f5
     obtain ⟨g1,p3,d3,kk3⟩:=Box.init wg (z := [AV.str [],.str []]) (cs:=subC x) (n:=2) rfl rfl rfl
     have wg1:=kk3.wf wg
     refine aAA (aAB ?_)
     simp only [aRM,go_sem,↓reduceIte,Nat.reduceEqDiff,z17,z19,f1,f5,p3]
     have q0:loadA g1 false 1 (.ptr g.n 0)=some (.str x.1):=d3.load 1 0
     have q1:loadA g1 false 1 (.ptr g.n 1)=some (.str x.2):=d3.load 1 1
     obtain ⟨v',g4,e4,fl4,k4,r4,w4⟩:=FL.push (f:=pthC) (fun _=>rfl) (fun _=>rfl) wg1 (Nat.le_trans kg.n kk3.n) (fl.keepN wg kk3) x (by rw [List.length_take];omega)
     refine aAB ?_
     simp only [aRn,go_sem,↓reduceIte,Nat.reduceEqDiff,aAC,Nat.zero_add,Nat.add_zero,Nat.reduceAdd,q0,q1,aSS,aU0,show [AV.str x.1,.str x.2]=pthC x from rfl,e4]
     refine ⟨⟨(kg.trans (kk3.less kg.n)).trans k4,?_,z17⟩,z19,z18⟩
     rw [hst];exact fl4
   · rintro s g ⟨kg,fl,z17⟩
     simp only [go_sem,↓reduceIte,Nat.reduceEqDiff]
     rw [List.take_length] at fl
     exact fini _ _ _ kg rfl (by rw [hto];exact fl)
 have e1 : ¬ (o.1:Int)=1:=by omega
 simp only [go_sem,↓reduceIte,Nat.reduceEqDiff,e1,decide_false,Bool.false_eq_true]
 refine aAA (aAB ?_)
 simp only [aQI,go_sem,↓reduceIte,Nat.reduceEqDiff]
 refine aAD ?_
 have t0:loadA h3 false 1 (.ptr h.n 0)=some (.str t.name):=(c1.load 1 0).trans it.name0
 have n1':loadA h3 false 1 (.ptr h2.n 1)=some (.str o.2.1):=b3.load 1 1
 have n2':loadA h3 false 1 (.ptr h2.n 2)=some (.str o.2.2):=b3.load 1 2
 by_cases o2:o.1=2
 · have e2:(o.1:Int)=2:=by omega
   have hto:toP t r o = [(t.name,o.2.1)]:=by unfold toP;rw [if_neg o1,if_pos o2]
   simp only [go_sem,↓reduceIte,Nat.reduceEqDiff,e2,decide_true]
   obtain ⟨v',g4,e4,fl4,k4,r4,w4⟩:=FL.push (f:=pthC) (es:=2) (fun _=>rfl) (fun _=>rfl) w3 (Nat.le_refl h3.n) (FL.nil _ _ _ _) (t.name,o.2.1) (by simp)
   refine aAB ?_
   simp only [aQH,go_sem,↓reduceIte,Nat.reduceEqDiff,aAC,Nat.zero_add,Nat.add_zero,Nat.reduceAdd,t0,n1',aSS,aU0,show [AV.str t.name,.str o.2.1]=pthC (t.name,o.2.1) from rfl,e4]
   exact fini _ _ _ k4 rfl (by rw [hto];exact fl4)
 have e2 : ¬ (o.1:Int)=2:=by omega
 simp only [go_sem,↓reduceIte,Nat.reduceEqDiff,e2,decide_false,Bool.false_eq_true]
 refine aAA (aAB ?_)
 simp only [aQJ,go_sem,↓reduceIte,Nat.reduceEqDiff]
 refine aAD ?_
 by_cases o3:o.1=3
 · have e3:(o.1:Int)=3:=by omega
   have hto:toP t r o=(objP t o.2.1).map fun ty=>(ty,o.2.2):=by unfold toP;rw [if_neg o1,if_neg o2,if_pos o3]
   have tl:loadA h3 true 2 (.ptr h.n 0)=some (.agg tcs):=c1.loadAgg tone.1
   simp only [go_sem,↓reduceIte,Nat.reduceEqDiff,e3,decide_true]
   refine aAA (aAB ?_)
   simp only [aPr,go_sem,↓reduceIte,Nat.reduceEqDiff,aAC,Nat.zero_add,Nat.add_zero,Nat.reduceAdd,tl,n1']
   refine (aWX w3 hit (kb.trans (k03.less kb.n)) smt sz).mono ?_
   rintro _ g1 ⟨kg1,ov',rfl,flo⟩
   have wg1:=kg1.wf w3
   have hol:=Nat.lt_of_le_of_lt (aOY o.2.1 t.rels) sz
   simp only [go_sem,↓reduceIte,Nat.reduceEqDiff,flo.1.len]
   have ilo:IsL 0 1 (fun _ cs x=>cs=strC x) g1 ov' (objP t o.2.1):=IsL.of_flat (fun _=>rfl) flo.1 ((flo.2.rd wg1).less (Nat.zero_le _))
   have hol':(objP t o.2.1).length<1000000:=hol
   refine aCz (n:=(objP t o.2.1).length) (by omega) (fun k s g=>Keep (Old g1.n) g1 g∧FL pthC 2 g1.n g (s 7) (((objP t o.2.1).take k).map fun ty=>(ty,o.2.2))∧s 47=ov'∧s 5 = .ptr h2.n 0) (by decide) ?_ rfl rfl ⟨Keep.refl _ _,FL.nil _ _ _ _,rfl,rfl⟩ ?_ ?_
   · rintro j s g t v (rfl | rfl | rfl) ⟨a,b,c,d⟩ <;> exact ⟨a,b,c,d⟩
   · rintro k s g hk ⟨kg,fl,z47,z5⟩ z49 z48
     have wg:=kg.wf wg1
     obtain ⟨o2,i2,xcs,f1,f2,rfl,f4,f5⟩:=IsL.atK ilo kg hk (by decide) .i64
     have f40:=f4 0 (by decide)
     rw [Nat.add_zero] at f40
     have hst:((objP t o.2.1).take (k+1)).map (fun ty=>(ty,o.2.2))=((objP t o.2.1).take k).map (fun ty=>(ty,o.2.2)) ++ [((objP t o.2.1)[k],o.2.2)]:=by rw [List.take_add_one,List.getElem?_eq_getElem hk,List.map_append];rfl
     generalize hre:(objP t o.2.1)[k]=x at hst f40
     have f41:loadA g false 1 (.ptr o2 i2)=some (.str x):=f40
     have m2:loadA g false 1 (.ptr h2.n 2)=some (.str o.2.2):=by
      have:=(b3.keep kg1 (b3.lt w3));exact ((this.keep kg (this.lt wg1)).load 1 2)
     refine aAA (aAB ?_)
     simp only [aPi,go_sem,↓reduceIte,Nat.reduceEqDiff,z47,z49,f1,f41]
     obtain ⟨v',g4,e4,fl4,k4,r4,w4⟩:=FL.push (f:=pthC) (fun _=>rfl) (fun _=>rfl) wg kg.n fl (x,o.2.2) (by rw [List.length_map,List.length_take];omega)
     refine aAB ?_
     simp only [aQX,go_sem,↓reduceIte,Nat.reduceEqDiff,aAC,Nat.zero_add,Nat.add_zero,Nat.reduceAdd,z5,m2,aSS,aU0,show [AV.str x,.str o.2.2]=pthC (x,o.2.2) from rfl,e4]
     refine ⟨⟨kg.trans k4,?_,z47,trivial⟩,z49,z48⟩
     rw [hst];exact fl4
   · rintro s g ⟨kg,fl,z47,z5⟩
     simp only [go_sem,↓reduceIte,Nat.reduceEqDiff]
     rw [List.take_length] at fl
     exact fini _ _ _ (kg1.trans (kg.less kg1.n)) rfl (by rw [hto];exact fl.less kg1.n)
 · have e3 : ¬ (o.1:Int)=3:=by omega
   have hto:toP t r o = []:=by unfold toP;rw [if_neg o1,if_neg o2,if_neg o3]
   simp only [go_sem,↓reduceIte,Nat.reduceEqDiff,e3,decide_false,Bool.false_eq_true]
   refine aAF ?_
   simp only [go_sem,↓reduceIte,Nat.reduceEqDiff]
   exact fini _ _ _ (Keep.refl _ _) rfl (by rw [hto];exact FL.nil _ _ _ _)
end Go.Proofs.YtdbmeidhlijopaaGreatDoor.Ev.C

/- strata.nots. -/
namespace Go.Proofs.YtdbmeidhlijopaaGreatDoor.Ev.C
open Go Go.Proofs.YtdbmeidhlijopaaGreatDoor.Ev
set_option linter.unusedSimpArgs false
set_option linter.unusedVariables false
def boolC (b:Bool):AV := .bool b
def intN (n:Nat):AV := .int .i64 (n:Int)
/-- true from one place on up to another one -/
def setT (bs:List Bool) (a b:Nat):List Bool:=bs.mapIdx fun j x=>x||(decide (a≤j)&&decide (j<b))
theorem aPP (bs:List Bool) (a b:Nat):(setT bs a b).length=bs.length:=by simp [setT]
theorem a0H (bs:List Bool) (a:Nat):setT bs a a=bs:=by
 apply List.ext_getElem
 · simp [setT]
 · intro i h1 h2
   simp only [setT,List.getElem_mapIdx]
   have:(decide (a≤i)&&decide (i<a))=false:=by
    rw [Bool.and_eq_false_iff,decide_eq_false_iff_not,decide_eq_false_iff_not];omega
   rw [this,Bool.or_false]
theorem aZZ {bs:List Bool} {a j:Nat} (ha:a≤j):(setT bs a j).set j true=setT bs a (j+1):=by
 apply List.ext_getElem
 · simp [setT]
 · intro i h1 h2
   rw [List.getElem_set]
   simp only [setT,List.getElem_mapIdx]
   by_cases e:j=i
   · subst e;simp [ha]
   · rw [if_neg e]
     congr 2
     rw [Bool.eq_iff_iff,decide_eq_true_iff,decide_eq_true_iff];omega
def notsG:Nat→List Bool→List Nat→List OpD→List Bool
 | _,out,_,[]=>out
 | i,out,fr,o::r=>if o.1<4∨fr.length<2 then notsG (i+1) out (fr ++ [i]) r
  else notsG (i+1) (if o.1=6 then setT out (fr.getD (fr.length - 1) 0) i else out) (fr.take (fr.length - 1)) r
/-- which operations stand behind a minus -/
def notsP (ops:List OpD):List Bool:=notsG 0 (List.replicate ops.length false) [] ops
theorem aSE : ∀ (ops:List OpD) (i:Nat) (out:List Bool) (fr:List Nat),(notsG i out fr ops).length=out.length
 | [],i,out,fr=>rfl
 | o::r,i,out,fr=>by
  simp only [notsG]
  split
  · exact aSE r _ _ _
  · rw [aSE r];split
    · exact aPP _ _ _
    · rfl
theorem a0B (ops:List OpD):(notsP ops).length=ops.length:=by unfold notsP;rw [aSE];simp
theorem aXw (n:Nat):zeros [AV.bool false] (n*1)=(List.replicate n false).map boolC:=by
 unfold zeros
 apply List.ext_getElem
 · simp
 · intro i h1 h2;simp [boolC,Nat.mod_one]
theorem makeB {h:H} {n:Nat} (hn:n<1000000):aBQ h 1 1 [AV.bool false] (.int .i64 (n:Int)) (.int .i64 (n:Int))=some (.slice h.n 0 n 1,h.new ((List.replicate n false).map boolC)):=by
 simp only [aBQ]
 rw [if_pos ⟨by omega,by omega,by omega,by omega⟩,Int.toNat_natCast,aXw]
theorem afillN (i:Nat):afill (zeros [AV.int .i64 0] (1*1)) [(0,1,.int .i64 (i:Int))]=some [intN i]:=rfl
theorem a2D (bs:List Bool) (j:Nat) (hj:j<bs.length):splice (bs.map boolC) j [AV.bool true]=(bs.set j true).map boolC:=by
 unfold splice
 rw [List.map_set]
 apply List.ext_getElem?
 intro i
 have hl:((bs.map boolC).take j).length=j:=by rw [List.length_take,List.length_map];omega
 rw [List.getElem?_set,List.append_assoc,List.getElem?_append,hl]
 by_cases h1:i<j
 · rw [if_pos h1,if_neg (by omega),List.getElem?_take,if_pos h1]
 · rw [if_neg h1]
   by_cases h2:j=i
   · subst h2;simp [hj,boolC]
   · rw [if_neg h2]
     obtain ⟨k,rfl⟩ : ∃ k,i=j+1+k:=⟨i - (j+1),by omega⟩
     rw [show j+1+k - j=k+1 by omega]
     simp [List.getElem?_drop]
theorem aZw {ov:AV} {ops:List OpD} {hb h:H} (wf:h.Wf) (io:IsL 0 3 (fun _ cs x=>cs=opC x) hb ov ops) (kb:Keep (Old hb.n) hb h) (ho:ops.length<1000000) :
 WCall (EL LX) aLF [ov] h fun r g=>Keep (Old h.n) h g∧r = .val (.slice h.n 0 ops.length 1)∧Box h.n ((notsP ops).map boolC) g:=by
 obtain ⟨h1,hg1,b1,k1,w1,n1⟩:=aAR wf ((List.replicate ops.length false).map boolC)
 refine aAI ((EL_ov _ _).trans rfl) (EL_T aV9) (by simp [aEm]) ?_
 refine aAA (aAB ?_)
 simp only [aOu,go_sem,↓reduceIte,Nat.reduceEqDiff]
 refine aAA (aAB ?_)
 simp only [aNv,go_sem,↓reduceIte,Nat.reduceEqDiff,enterS,List.getD_cons_zero,List.getD_cons_succ,io.len,makeB ho,hg1]
 refine aAA (aAB ?_)
 simp only [aNe,go_sem,↓reduceIte,Nat.reduceEqDiff]
 refine aAA (aAA (aAB ?_))
 simp only [aOG,go_sem,↓reduceIte,Nat.reduceEqDiff,enterS,List.getD_cons_zero,List.getD_cons_succ,io.len]
 refine aCz (n:=ops.length) (by omega) (fun j s g=>Keep (Old h.n) h g∧h1.n≤g.n ∧ ∃ out fr,Box h.n (out.map boolC) g∧out.length=ops.length∧Sl g 1 (s 4) fr.length (fr.map intN)∧Own h1.n g (s 4)∧(∀ x∈fr,x<j)∧fr.length≤j∧notsG j out fr (ops.drop j)=notsP ops∧s 3 = .slice h.n 0 ops.length 1∧s 12=ov) (by decide) ?_ rfl rfl
  ⟨k1,Nat.le_refl _,_,[],b1,by simp,Sl.nil _ _,trivial,by simp,Nat.le_refl _,rfl,rfl,rfl⟩ ?_ ?_
 · rintro j s g t v (rfl | rfl | rfl) ⟨a,b,out,fr,c1,c2,c3,c4,c5,c6,c7,c8,c9⟩ <;> exact ⟨a,b,out,fr,c1,c2,c3,c4,c5,c6,c7,c8,c9⟩
 · rintro j s g hj ⟨kg,lg,out,fr,bo,ol,sf,of,hlt,hfl,hx,z3,z12⟩ z14 z13
   have wg:=kg.wf wf
   have kbg:=kb.trans (kg.less kb.n)
   obtain ⟨o,i,ocs,e1,e2,rfl,e4,e5⟩:=IsL.atK io kbg hj (by decide) .i64
   rw [List.drop_eq_getElem_cons hj] at hx
   generalize hxe:ops[j]=op at hx e5
   obtain ⟨g1,p1,c1,kk1⟩:=Box.init wg (z := [AV.int .i64 0,.str [],.str []]) (cs:=opC op) (n:=3) rfl rfl rfl
   have wg1:=kk1.wf wg
   have kg1:Keep (Old h.n) h g1:=kg.trans (kk1.less kg.n)
   have bo1:=bo.keep kk1 (bo.lt wg)
   have so:=of.slot wg
   have sf1:=sf.keep kk1 so
   have of1:=of.keep so kk1
   have lg1:h1.n≤g1.n:=Nat.le_trans lg kk1.n
   refine aAA (aAB ?_)
   simp only [aOc,go_sem,↓reduceIte,Nat.reduceEqDiff,z12,z14,e1,e5,p1]
   have q0:loadA g1 false 1 (.ptr g.n 0)=some (.int .i64 (op.1:Int)):=c1.load 1 0
   simp only [notsG] at hx
   -- one place more
   have push:(op.1<4∨fr.length<2) → ∀ s':S,s' 4=s 4→s' 5 = .int .i64 (j:Int)→s' 3=s 3→s' 12=s 12→s' 14=s 14→s' 13=s 13 →
    WS (EL LX) (.seq (.ops aJw) (.exit 1)) [.code (.seq (.ops aKH) (.seq (.seq (.ops aJm) (.block 2 (.loop aFQ))) (.ops aFK)))] (roundP (EL LX) (fun j' s g=>(Keep (Old h.n) h g∧h1.n≤g.n ∧ ∃ out fr,Box h.n (out.map boolC) g∧out.length=ops.length∧Sl g 1 (s 4) fr.length (fr.map intN)∧Own h1.n g (s 4)∧(∀ x∈fr,x<j')∧fr.length≤j'∧notsG j' out fr (ops.drop j')=notsP ops∧s 3 = .slice h.n 0 ops.length 1∧s 12=ov)∧s 14 = .int .i64 (j:Int)∧s 13 = .int .i64 (ops.length:Int)) j 0 1 [.code (.seq (.ops aFR) .ret)] (atEnd aEm.results fun r g=>Keep (Old h.n) h g∧r = .val (.slice h.n 0 ops.length 1)∧Box h.n ((notsP ops).map boolC) g)) s' g1:=by
    intro hc s' y4 y5 y3 y12 y14 y13
    rw [if_pos hc] at hx
    obtain ⟨g2,hg2,b2,k2,w2,n2⟩:=aAR wg1 [intN j]
    have so1:=of1.slot wg1
    obtain ⟨v',g3,e3,s3,o3,k3⟩:=aUG w2 (Nat.le_trans lg1 k2.n) (sf1.keep k2 so1) (of1.keep so1 k2) (b2.sl1 (es:=1) rfl) rfl (by omega)
    refine aAA (aAB ?_)
    simp only [aJw,go_sem,↓reduceIte,Nat.reduceEqDiff,y4,y5,afillN,hg2,e3]
    refine aAK ?_
    simp only [go_sem,↓reduceIte,Nat.reduceEqDiff]
    have k23:Keep (Old h1.n) g1 g3:=(k2.less lg1).trans k3
    refine ⟨⟨kg1.trans (k23.less (by omega)),Nat.le_trans lg1 k23.n,out,fr ++ [j],bo1.keep k23 (by show h.n<h1.n;omega),ol,?_,o3,?_,by simp;omega,hx,by rw [y3];exact z3,by rw [y12];exact z12⟩,by rw [y14];exact z14,by rw [y13];exact z13⟩
    · simpa using s3
    · intro x hxm
      rcases List.mem_append.1 hxm with hm | hm
      · have:=hlt x hm;omega
      · simp at hm;omega
   refine aAA (aAA (aAB ?_))
   by_cases ho4:op.1<4
   · have ho4':(op.1:Int)<4:=by omega
     simp only [aFn,go_sem,↓reduceIte,Nat.reduceEqDiff,aAC,Nat.zero_add,Nat.add_zero,Nat.reduceAdd,q0,ho4',wanted,decide_true,decide_false,beq_self_eq_true,pickA,show (false==true)=false from rfl,show (true==false)=false from rfl,Bool.false_eq_true,undefA,Bool.not_true,Bool.not_false]
     refine aAD ?_
     simp only [go_sem,↓reduceIte,Nat.reduceEqDiff]
     exact push (.inl ho4) _ rfl rfl rfl rfl rfl rfl
   have ho4' : ¬ (op.1:Int)<4:=by omega
   by_cases hf2:fr.length<2
   · have hf2':(fr.length:Int)<2:=by omega
     simp only [aFn,go_sem,↓reduceIte,Nat.reduceEqDiff,aAC,Nat.zero_add,Nat.add_zero,Nat.reduceAdd,q0,ho4',wanted,decide_true,decide_false,beq_self_eq_true,pickA,show (false==true)=false from rfl,show (true==false)=false from rfl,Bool.false_eq_true,undefA,Bool.not_true,Bool.not_false,sf1.len,hf2']
     refine aAD ?_
     simp only [go_sem,↓reduceIte,Nat.reduceEqDiff]
     exact push (.inr hf2) _ rfl rfl rfl rfl rfl rfl
   have hf2' : ¬ (fr.length:Int)<2:=by omega
   clear push
   rw [if_neg (by omega)] at hx
   simp only [aFn,go_sem,↓reduceIte,Nat.reduceEqDiff,aAC,Nat.zero_add,Nat.add_zero,Nat.reduceAdd,q0,ho4',wanted,decide_true,decide_false,beq_self_eq_true,pickA,show (false==true)=false from rfl,show (true==false)=false from rfl,Bool.false_eq_true,undefA,Bool.not_true,Bool.not_false,sf1.len,hf2']
   refine aAD ?_
   simp only [go_sem,↓reduceIte,Nat.reduceEqDiff,Bool.false_eq_true]
   refine aAF ?_
   simp only [go_sem,↓reduceIte,Nat.reduceEqDiff]
   have a1:IntKind.i64.wrap ((fr.length:Int) - 1)=((fr.length - 1:Nat):Int):=by rw [show ((fr.length:Int) - 1)=((fr.length - 1:Nat):Int) by omega];exact wrapI (by omega)
   refine aAA (aAB ?_)
   simp only [aKH,go_sem,↓reduceIte,Nat.reduceEqDiff,sf1.len,a1]
   obtain ⟨p,f1,f2⟩:=sf1.at (i:=fr.length - 1) (by omega) .i64
   have hlast:fr.length - 1<fr.length:=by omega
   rw [List.getElem?_map,List.getElem?_eq_getElem hlast,Option.map_some] at f2
   have hgd:fr.getD (fr.length - 1) 0=fr[fr.length - 1]:=by rw [List.getD_eq_getElem?_getD,List.getElem?_eq_getElem hlast];rfl
   have hal:=hlt _ (List.getElem_mem hlast)
   rw [hgd] at hx
   generalize fr[fr.length - 1]=a at f2 hx hal
   refine aAA (aAA (aAB ?_))
   simp only [aJm,go_sem,↓reduceIte,Nat.reduceEqDiff,f1,f2,intN]
   -- behind the loop
   have fini : ∀ (s':S) (g':H) out',KeepA [h.n] g1 g'→Box h.n (out'.map boolC) g'→out'.length=ops.length→notsG (j+1) out' (fr.take (fr.length - 1)) (ops.drop (j+1))=notsP ops →
    s' 4=s 4→s' 7 = .int .i64 ((fr.length - 1:Nat):Int)→s' 3=s 3→s' 12=s 12→s' 14=s 14→s' 13=s 13 →
    WS (EL LX) (.ops aFK) [] (roundP (EL LX) (fun j' s g=>(Keep (Old h.n) h g∧h1.n≤g.n ∧ ∃ out fr,Box h.n (out.map boolC) g∧out.length=ops.length∧Sl g 1 (s 4) fr.length (fr.map intN)∧Own h1.n g (s 4)∧(∀ x∈fr,x<j')∧fr.length≤j'∧notsG j' out fr (ops.drop j')=notsP ops∧s 3 = .slice h.n 0 ops.length 1∧s 12=ov)∧s 14 = .int .i64 (j:Int)∧s 13 = .int .i64 (ops.length:Int)) j 0 1 [.code (.seq (.ops aFR) .ret)] (atEnd aEm.results fun r g=>Keep (Old h.n) h g∧r = .val (.slice h.n 0 ops.length 1)∧Box h.n ((notsP ops).map boolC) g)) s' g':=by
    intro s' g' out' ka bo' ol' hx' y4 y7 y3 y12 y14 y13
    have sa:Slot (Apart [h.n] g1) g1 (s 4):=of1.away wg1 (fun x hx=>by simp at hx;subst hx;exact ⟨by omega,bo1.root⟩)
    have sf2:=sf1.keep ka sa
    have of2:=of1.keep sa ka
    obtain ⟨v',e6,s6,k6⟩:=sf2.cut (lo:=0) (hi:=fr.length - 1) (Nat.zero_le _) (by omega) none (some (.int .i64 ((fr.length - 1:Nat):Int))) (aKk (by omega) .i64)
    refine aAB ?_
    simp only [aFK,go_sem,↓reduceIte,Nat.reduceEqDiff,y4,y7,Option.map_some,Option.map_none,e6]
    refine ⟨⟨kg1.trans (ka.old wg1 (by omega) (by simp)),Nat.le_trans lg1 ka.n,out',fr.take (fr.length - 1),bo',ol',?_,?_,?_,by rw [List.length_take];omega,hx',by rw [y3];exact z3,by rw [y12];exact z12⟩,by rw [y14];exact z14,by rw [y13];exact z13⟩
    · rw [Nat.zero_mul,List.drop_zero,Nat.sub_zero,Nat.mul_one,← List.map_take] at s6
      rw [List.length_take,Nat.min_eq_left (by omega)]
      exact s6
    · exact of2.cut e6
    · intro x hxm
      have:=hlt x (List.mem_of_mem_take hxm);omega
   by_cases h6:op.1=6
   case neg =>
    have h6' : ¬ (op.1:Int)=6:=by omega
    rw [if_neg h6] at hx
    refine aAG (aSf ?_)
    show WS (EL LX) aFQ _ _ _ _
    refine aAA (aAA (aAB ?_))
    simp only [aFS,go_sem,↓reduceIte,Nat.reduceEqDiff,aAC,Nat.zero_add,Nat.add_zero,Nat.reduceAdd,q0,h6',wanted,decide_true,decide_false,beq_self_eq_true,pickA,show (false==true)=false from rfl,show (true==false)=false from rfl,Bool.false_eq_true,undefA,Bool.not_true,Bool.not_false]
    refine aAD ?_
    simp only [go_sem,↓reduceIte,Nat.reduceEqDiff,Bool.false_eq_true]
    refine aAK ?_
    simp only [go_sem,↓reduceIte,Nat.reduceEqDiff]
    exact fini _ _ out (Keep.refl _ _) bo1 ol hx rfl rfl rfl rfl rfl rfl
   have h6':(op.1:Int)=6:=by omega
   rw [if_pos h6] at hx
   refine aAG (aAP (fun m s' g' => ∃ b,m=j - b∧a≤b∧b≤j∧KeepA [h.n] g1 g'∧Box h.n ((setT out a b).map boolC) g'∧s' 8 = .int .i64 (b:Int)∧s' 5 = .int .i64 (j:Int)∧s' 6 = .ptr g.n 0∧s' 4=s 4∧s' 7 = .int .i64 ((fr.length - 1:Nat):Int)∧s' 3=s 3∧s' 12=s 12∧s' 14=s 14∧s' 13=s 13) ?_ (j - a) ?_)
   case refine_2=>exact ⟨a,rfl,Nat.le_refl _,Nat.le_of_lt hal,Keep.refl _ _,by rw [a0H];exact bo1,rfl,rfl,rfl,rfl,rfl,rfl,rfl,rfl,rfl⟩
   rintro m s' g' ⟨b,rfl,hab,hbj,ka,bb,y8,y5,y6,y4,y7,y3,y12,y14,y13⟩
   have wg':=ka.wf wg1
   have c2:=c1.keepA wg1 ka (by simp;have:=kg.n;have:=bo.lt wg;omega)
   have q0':loadA g' false 1 (.ptr g.n 0)=some (.int .i64 (op.1:Int)):=c2.load 1 0
   show WS (EL LX) aFQ _ _ _ _
   refine aAA (aAA (aAB ?_))
   by_cases hbj2:b<j
   case neg =>
    have hbj2' : ¬ (b:Int)<(j:Int):=by omega
    have hbe:b=j:=by omega
    subst hbe
    simp only [aFS,go_sem,↓reduceIte,Nat.reduceEqDiff,aAC,Nat.zero_add,Nat.add_zero,Nat.reduceAdd,y6,q0',h6',wanted,decide_true,decide_false,beq_self_eq_true,pickA,show (false==true)=false from rfl,show (true==false)=false from rfl,Bool.false_eq_true,undefA,Bool.not_true,Bool.not_false,y8,y5,hbj2']
    refine aAD ?_
    simp only [go_sem,↓reduceIte,Nat.reduceEqDiff,Bool.false_eq_true]
    refine aAK ?_
    simp only [go_sem,↓reduceIte,Nat.reduceEqDiff]
    exact fini _ _ _ ka bb (by rw [aPP];exact ol) hx y4 y7 y3 y12 y14 y13
   have hbj2':(b:Int)<(j:Int):=by omega
   simp only [aFS,go_sem,↓reduceIte,Nat.reduceEqDiff,aAC,Nat.zero_add,Nat.add_zero,Nat.reduceAdd,y6,q0',h6',wanted,decide_true,decide_false,beq_self_eq_true,pickA,show (false==true)=false from rfl,show (true==false)=false from rfl,Bool.false_eq_true,undefA,Bool.not_true,Bool.not_false,y8,y5,hbj2']
   refine aAD ?_
   simp only [go_sem,↓reduceIte,Nat.reduceEqDiff]
   refine aAF ?_
   simp only [go_sem,↓reduceIte,Nat.reduceEqDiff]
   have hbl:b<(setT out a b).length:=by rw [aPP];omega
   obtain ⟨g2,e2,b2,ka2⟩:=bb.put wg' (i:=b) (n:=1) (v := .bool true) rfl rfl (by rw [List.length_map];omega)
   rw [show (AV.bool true).cells = [AV.bool true] from rfl,a2D _ _ hbl,aZZ hab] at b2
   have ea:aAJ 1 (.slice h.n 0 ops.length 1) (.int .i64 (b:Int))=some (.ptr h.n b):=by
    simp only [aAJ]
    rw [if_pos ⟨trivial,by omega,by omega⟩,Int.toNat_natCast];simp
   refine aAA (aAG (aAB ?_))
   simp only [aMc,go_sem,↓reduceIte,Nat.reduceEqDiff,y8,y3,z3,ea,e2]
   have a2:IntKind.i64.wrap ((b:Int)+1)=((b+1:Nat):Int):=wrapI (n:=b+1) (by omega)
   refine aAB ?_
   simp only [aNJ,go_sem,↓reduceIte,Nat.reduceEqDiff,y8,a2]
   exact ⟨j - (b+1),by omega,b+1,rfl,by omega,by omega,ka.step ka2,b2,rfl,y5,y6,y4,y7,y3.trans z3,y12,y14,y13⟩
 · rintro s g ⟨kg,lg,out,fr,bo,ol,sf,of,hlt,hfl,hx,z3,z12⟩
   simp only [go_sem,↓reduceIte,Nat.reduceEqDiff]
   refine aAA (aAB ?_)
   simp only [aFR,go_sem,↓reduceIte,Nat.reduceEqDiff,z3]
   refine aAE ?_
   simp only [aEm,go_sem,↓reduceIte,Nat.reduceEqDiff]
   rw [List.drop_length] at hx
   simp only [notsG] at hx
   exact ⟨kg,trivial,by rw [← hx];exact bo⟩
end Go.Proofs.YtdbmeidhlijopaaGreatDoor.Ev.C

/- slices.Compact over edges. -/
namespace Go.Proofs.YtdbmeidhlijopaaGreatDoor.Ev.C
open Go Go.Proofs.YtdbmeidhlijopaaGreatDoor.Ev
set_option linter.unusedSimpArgs false
set_option linter.unusedVariables false
/-- without those that stand behind their like -/
def compP:List Ed→List Ed
 | [] => []
 | [a] => [a]
 | a::b::r=>if a=b then compP (b::r) else a::compP (b::r)
theorem aP0 : ∀ (x:Ed) (r:List Ed),compP (x::r)=x::(compP (x::r)).tail
 | x,[]=>rfl
 | x,b::r=>by
  simp only [compP]
  split
  · rename_i e;subst e;exact aP0 x r
  · rfl
theorem aWk {a b:Ed} {r:List Ed} (e:a=b):compP (a::b::r)=compP (b::r):=by simp only [compP];rw [if_pos e]
theorem aWs {a b:Ed} {r:List Ed} (e : ¬ a=b):compP (a::b::r)=a::compP (b::r):=by simp only [compP];rw [if_neg e]
theorem edEq (a b:Ed):eqA (.flatK [.i,.i,.b]) (.agg (edC a)) (.agg (edC b))=some (decide (a=b)):=by
 obtain ⟨a1,a2,a3⟩:=a
 obtain ⟨b1,b2,b3⟩:=b
 simp only [eqA,edC,aAL,if_true,Option.map_some,Bool.and_true,Option.some.injEq,Prod.mk.injEq]
 rw [Bool.eq_iff_iff];simp [Bool.and_eq_true,beq_iff_eq]
theorem drop2 {l:List Ed} {p:Nat} (h:p+1<l.length):l.drop p=l[p]::l[p+1]::l.drop (p+1+1):=by
 rw [List.drop_eq_getElem_cons (by omega),List.drop_eq_getElem_cons h]
theorem aUx {l:List Ed} {i:Nat} (h1:1≤i) (h:i≤l.length):l.take i=l.take (i - 1) ++ [l[i - 1]]:=by
 obtain ⟨k,rfl⟩ : ∃ k,i=k+1:=⟨i - 1,by omega⟩
 rw [List.take_add_one,List.getElem?_eq_getElem (by omega:k<l.length)]
 rfl
theorem zerosE (n:Nat):zeros [AV.int .i64 0,.int .i64 0,.bool false] (n*3)=(List.replicate n ((0,0,false):Ed)).flatMap edC:=by
 apply List.ext_getElem?
 intro i
 have hs:=aPT (f:=edC) (es:=3) (fun _=>rfl) (List.replicate n ((0,0,false):Ed))
 rw [List.length_replicate] at hs
 by_cases hi:i<n*3
 · have h1:(zeros [AV.int .i64 0,.int .i64 0,.bool false] (n*3))[i]? = some ([AV.int .i64 0,.int .i64 0,.bool false].getD (i % 3) (.tup [])):=by
    unfold zeros
    rw [List.getElem?_map,List.getElem?_range hi];rfl
   rw [h1]
   have h2:=congrArg (fun l:List AV=>l[i % 3]?) (aU2 (f:=edC) (l:=List.replicate n ((0,0,false):Ed)) (i:=i / 3) (es:=3) (by rw [List.length_replicate];omega) (fun _ _=>rfl))
   simp only [List.getElem_replicate] at h2
   rw [List.getElem?_take,if_pos (by omega),List.getElem?_drop,show i / 3*3+i % 3=i by omega] at h2
   rw [h2]
   have:i % 3=0∨i % 3=1∨i % 3=2:=by omega
   rcases this with e | e | e <;> rw [e] <;> rfl
 · rw [List.getElem?_eq_none (by simp [zeros];omega),List.getElem?_eq_none (by omega)]
theorem _root_.Go.Proofs.YtdbmeidhlijopaaGreatDoor.Ev.FO.ed_at {N:Nat} {h:H} {v:AV} {l:List Ed} (a:FO edC 3 N h v l) {i:Nat} (hi:i<l.length) : ∃ p,aAJ 3 v (.int .i64 (i:Int))=some p∧loadA h true 3 p=some (.agg (edC l[i])):=by
 obtain ⟨o,j,e,_,h1⟩:=Sl.elem a.1 (fun _ _=>rfl) hi (by decide) .i64
 exact ⟨_,e,h1⟩
theorem aWj {N:Nat} {v:AV} {l:List Ed} {h:H} (wf:h.Wf) (hN:N≤h.n) (a:FL edC 3 N h v l) (hl:l.length<1000000000) :
 WCall (EL LX) aAt [v] h fun r g=>Keep (Old N) h g ∧ ∃ v',r = .val v'∧FO edC 3 N g v' (compP l):=by
 refine aAI ((EL_ov _ _).trans rfl) (EL_T aER) (by simp [aAZ]) ?_
 refine aAA (aAB ?_)
 simp only [aBo,go_sem,↓reduceIte,Nat.reduceEqDiff]
 refine aAA (aAA (aAB ?_))
 simp only [aBp,go_sem,↓reduceIte,Nat.reduceEqDiff,enterS,List.getD_cons_zero,List.getD_cons_succ,a.1.len]
 refine aAD ?_
 by_cases h2:l.length<2
 · have h2':(l.length:Int)<2:=by omega
   simp only [go_sem,↓reduceIte,Nat.reduceEqDiff,h2',decide_true]
   refine aAA (aAB ?_)
   simp only [aBr,go_sem,↓reduceIte,Nat.reduceEqDiff,enterS,List.getD_cons_zero,List.getD_cons_succ]
   refine aAE ?_
   simp only [aAZ,go_sem,↓reduceIte,Nat.reduceEqDiff]
   refine ⟨Keep.refl _ _,_,rfl,?_⟩
   have:compP l=l:=by
    match l,h2 with
    | [],_=>rfl
    | [x],_=>rfl
    | _::_::_,h2=>simp at h2;omega
   rw [this];exact a.fo
 have h2' : ¬ (l.length:Int)<2:=by omega
 simp only [go_sem,↓reduceIte,Nat.reduceEqDiff,h2',decide_false,Bool.false_eq_true]
 refine aAF ?_
 simp only [go_sem,↓reduceIte,Nat.reduceEqDiff]
 refine aAA (aAA (aAB ?_))
 simp only [aBe,go_sem,↓reduceIte,Nat.reduceEqDiff]
 have fa:=a.fo
 refine aAG (aAP (fun m s g=>g=h ∧ ∃ i,m=l.length - i∧1≤i∧i≤l.length∧compP l=l.take (i - 1)++compP (l.drop (i - 1))∧s 0=v∧s 3 = .int .i64 (i:Int)) ?_ (l.length - 1) ?_)
 case refine_2=>exact ⟨rfl,1,rfl,Nat.le_refl _,by omega,rfl,rfl,rfl⟩
 rintro m s g ⟨rfl,i,rfl,hi1,hil,hx,z0,z3⟩
 show WS (EL LX) aBV _ _ _ _
 refine aAA (aAA (aAB ?_))
 simp only [aBs,go_sem,↓reduceIte,Nat.reduceEqDiff,z0,z3,fa.1.len]
 refine aAD ?_
 by_cases hil2:i<l.length
 case neg =>
  have hil2' : ¬ (i:Int)<(l.length:Int):=by omega
  simp only [go_sem,↓reduceIte,Nat.reduceEqDiff,hil2',decide_false,Bool.false_eq_true]
  refine aAK ?_
  simp only [go_sem,↓reduceIte,Nat.reduceEqDiff]
  refine aAA (aAB ?_)
  simp only [aBY,go_sem,↓reduceIte,Nat.reduceEqDiff,z0]
  refine aAE ?_
  simp only [aAZ,go_sem,↓reduceIte,Nat.reduceEqDiff]
  have hie:i=l.length:=by omega
  refine ⟨Keep.refl _ _,_,rfl,?_⟩
  have:compP l=l:=by
   rw [hx]
   have:l.drop (i - 1) = [l[l.length - 1]]:=by
    rw [List.drop_eq_getElem_cons (by omega),List.drop_eq_nil_of_le (by omega)]
    congr 2;omega
   rw [this]
   show l.take (i - 1) ++ [l[l.length - 1]]=l
   rw [← this,List.take_append_drop]
  rw [this];exact fa
 have hil2':(i:Int)<(l.length:Int):=by omega
 simp only [go_sem,↓reduceIte,Nat.reduceEqDiff,hil2',decide_true]
 refine aAF ?_
 simp only [go_sem,↓reduceIte,Nat.reduceEqDiff]
 obtain ⟨p,e1,e2⟩:=fa.ed_at hil2
 obtain ⟨q,f1,f2⟩:=fa.ed_at (i:=i - 1) (by omega)
 have a1:IntKind.i64.wrap ((i:Int) - 1)=((i - 1:Nat):Int):=by rw [show ((i:Int) - 1)=((i - 1:Nat):Int) by omega];exact wrapI (by omega)
 have hd:=drop2 (l:=l) (p:=i - 1) (by omega)
 simp only [show i - 1+1=i by omega] at hd
 refine aAA (aAG (aAA (aAS ?_)))
 simp only [aBk,go_sem,↓reduceIte,Nat.reduceEqDiff,z0,z3,a1,e1,e2,f1,f2,edEq,Option.map_some,and_self,true_and,List.filter_cons,List.filter_nil,Nat.testBit,Nat.reduceShiftRight,Nat.reduceAnd,Nat.reduceBNe,Bool.not_false,Bool.not_true,Bool.false_eq_true,bne_self_eq_false,WV]
 refine aAD ?_
 by_cases he:l[i]=l[i - 1]
 case neg =>
  simp only [go_sem,↓reduceIte,Nat.reduceEqDiff,he,decide_false,Bool.false_eq_true]
  refine aAF ?_
  simp only [go_sem,↓reduceIte,Nat.reduceEqDiff]
  have a2:IntKind.i64.wrap ((i:Int)+1)=((i+1:Nat):Int):=wrapI (n:=i+1) (by omega)
  refine aAB ?_
  simp only [aB4,go_sem,↓reduceIte,Nat.reduceEqDiff,z3,a2]
  refine ⟨l.length - (i+1),by omega,trivial,i+1,rfl,by omega,by omega,?_,z0,rfl⟩
  rw [hx,hd,aWs (fun e=>he e.symm),show i+1 - 1=i by omega,List.drop_eq_getElem_cons hil2]
  rw [aUx hi1 hil,List.append_assoc]
  rfl
 simp only [go_sem,↓reduceIte,Nat.reduceEqDiff,he,decide_true]
 -- the part behind
 obtain ⟨w,e3,s3,k3⟩:=fa.1.cut (lo:=i) (hi:=l.length) hil (Nat.le_refl _) (some (.int .i64 (i:Int))) none (aEw hil .i64)
 have ow:Own N g w:=fa.2.cut e3
 have hvs : ∃ o j,v = .slice o j l.length 3:=by
  have q1:=fa.1.len
  have q2:=fa.1.cells
  cases v with
  | nils=>simp [lenSA] at q1;omega
  | slice o j n es =>
   have hn:n=l.length:=by simpa [lenSA] using q1
   simp only [H.firstCells] at q2
   split at q2
   · rename_i hc;exact ⟨o,j,by rw [hn,hc.1]⟩
   · cases q2
  | _=>exact fa.2.elim
 obtain ⟨vo,vj,rfl⟩:=hvs
 have hw:w = .slice vo (vj+i*3) (l.length - i) 3:=by
  simp only [aAX,if_true,aEw hil .i64,Option.map_some] at e3
  exact (Option.some.inj e3).symm
 refine aAA (aAB ?_)
 simp only [aBh,go_sem,↓reduceIte,Nat.reduceEqDiff,z0,z3,Option.map_some,Option.map_none,e3]
 refine aAA (aAA (aAB ?_))
 simp only [aBj,go_sem,↓reduceIte,Nat.reduceEqDiff]
 have hx0:compP l=l.take i++(compP (l.drop i)).tail:=by
  rw [hx,hd,aWk he.symm]
  rw [show l[i]::l.drop (i+1)=l.drop i from (List.drop_eq_getElem_cons hil2).symm]
  rw [aUx hi1 hil]
  conv=>lhs;rw [List.drop_eq_getElem_cons hil2,aP0]
  rw [he,List.append_assoc];rw [List.drop_eq_getElem_cons hil2,he];rfl
 refine aAG (aAP (fun m s g'=>Keep (Old N) g g' ∧ ∃ cur c p,m=l.length - p∧i≤c∧c≤p∧p<l.length∧FO edC 3 N g' (.slice vo vj l.length 3) cur∧cur.length=l.length∧(∀ k,p≤k→cur[k]? = l[k]?)∧compP l=cur.take c++(compP (l.drop p)).tail∧s 0 = .slice vo vj l.length 3∧s 4=w∧s 3 = .int .i64 (c:Int)∧s 5 = .int .i64 ((p - i+1:Nat):Int)) ?_ (l.length - i) ?_)
 case refine_2=>exact ⟨Keep.refl _ _,l,i,i,rfl,Nat.le_refl _,Nat.le_refl _,hil2,fa,rfl,fun _ _=>rfl,hx0,z0,rfl,z3,by rw [Nat.sub_self];rfl⟩
 rintro m s g' ⟨kg,cur,c,p,rfl,hic,hcp,hpl,fc,cl,ct,hc,z0,z4,z3,z5⟩
 clear e1 e2 f1 f2 e3 s3 k3 hx hd
 have wg:=kg.wf wf
 show WS (EL LX) aB3 _ _ _ _
 refine aAA (aAA (aAB ?_))
 have hwl:lenSA w=some (l.length - i):=by rw [hw];rfl
 simp only [aBq,go_sem,↓reduceIte,Nat.reduceEqDiff,z4,z5,hwl]
 refine aAD ?_
 by_cases hp2:p+1<l.length
 case neg =>
  have hp2' : ¬ ((p - i+1:Nat):Int)<((l.length - i:Nat):Int):=by omega
  simp only [go_sem,↓reduceIte,Nat.reduceEqDiff,hp2',decide_false,Bool.false_eq_true]
  refine aAK ?_
  simp only [go_sem,↓reduceIte,Nat.reduceEqDiff]
  have hend:compP l=cur.take c:=by
   rw [hc,List.drop_eq_getElem_cons hpl,List.drop_eq_nil_of_le (by omega)];simp [compP]
  have hclear : ∃ g2,clearA g' 3 [.int .i64 0,.int .i64 0,.bool false] (.slice vo (vj+c*3) (l.length - c) 3)=some g2∧Keep (Old N) g' g2∧FO edC 3 N g2 (.slice vo vj l.length 3) (cur.take c++List.replicate (l.length - c) ((0,0,false):Ed)):=by
   obtain ⟨g2,e,q,k⟩:=FO.put (f:=edC) (es:=3) (by decide) (fun _=>rfl) wg fc (i:=c) (ys:=List.replicate (l.length - c) ((0,0,false):Ed)) (by rw [List.length_replicate];omega) (by rw [List.length_replicate];omega)
   refine ⟨g2,?_,k,?_⟩
   · simp only [clearA,if_true]
     rw [if_neg (by omega),if_pos ⟨rfl,rfl⟩,zerosE];exact e
   · rw [List.length_replicate,List.drop_eq_nil_of_le (by omega),List.append_nil] at q
     exact q
  obtain ⟨g2,ec,kc,fq⟩:=hclear
  have hb1:aAX 3 (some (.int .i64 (c:Int))) none (.slice vo vj l.length 3)=some (.slice vo (vj+c*3) (l.length - c) 3):=by
   simp only [aAX,if_true,aEw (show c≤l.length by omega) .i64,Option.map_some]
  refine aAA (aAB ?_)
  simp only [aB8,go_sem,↓reduceIte,Nat.reduceEqDiff,z0,z3,Option.map_some,Option.map_none,hb1,ec]
  have flen:(cur.take c++List.replicate (l.length - c) ((0,0,false):Ed)).length=l.length:=by simp;omega
  have fq1:=fq.1
  rw [flen] at fq1
  obtain ⟨v2,e6,s6,k6⟩:=fq1.cut (lo:=0) (hi:=c) (Nat.zero_le _) (by omega) none (some (.int .i64 (c:Int))) (aKk (by omega) .i64)
  refine aAA (aAB ?_)
  simp only [aB2,go_sem,↓reduceIte,Nat.reduceEqDiff,z0,z3,Option.map_some,Option.map_none,e6]
  refine aAE ?_
  simp only [aAZ,go_sem,↓reduceIte,Nat.reduceEqDiff,aJp]
  refine ⟨kg.trans kc,_,rfl,?_,fq.2.cut e6⟩
  rw [hend,List.length_take,Nat.min_eq_left (by omega)]
  rw [Nat.zero_mul,List.drop_zero,Nat.sub_zero,aLc (f:=edC) (es:=3) (fun _=>rfl),List.take_left' (by rw [List.length_take];omega)] at s6
  exact s6
 have hp2':((p - i+1:Nat):Int)<((l.length - i:Nat):Int):=by omega
 simp only [go_sem,↓reduceIte,Nat.reduceEqDiff,hp2',decide_true]
 refine aAF ?_
 simp only [go_sem,↓reduceIte,Nat.reduceEqDiff]
 -- what is read
 have hat : ∀ k,i≤k→(hk:k<l.length)→p≤k → ∃ q,aAJ 3 w (.int .i64 ((k - i:Nat):Int))=some q∧loadA g' true 3 q=some (.agg (edC l[k])):=by
  intro k h1 hk h3
  obtain ⟨q,e1,e2⟩:=fc.ed_at (i:=k) (by omega)
  have hce:cur[k]=l[k]:=by have:=ct k h3;rw [List.getElem?_eq_getElem (by omega),List.getElem?_eq_getElem hk] at this;exact Option.some.inj this
  rw [hce] at e2
  refine ⟨q,?_,e2⟩
  rw [hw]
  simp only [aAJ] at e1 ⊢
  rw [if_pos ⟨trivial,by omega,by omega⟩,Int.toNat_natCast] at e1
  rw [if_pos ⟨trivial,by omega,by omega⟩,Int.toNat_natCast]
  rw [← e1]
  congr 2
  have:k*3=i*3+(k - i)*3:=by rw [← Nat.add_mul];congr 1;omega
  omega
 obtain ⟨q1,e1,e2⟩:=hat (p+1) (by omega) hp2 (by omega)
 obtain ⟨q2,f1,f2⟩:=hat p (by omega) hpl (Nat.le_refl _)
 rw [show p+1 - i=p - i+1 by omega] at e1
 have a1:IntKind.i64.wrap (((p - i+1:Nat):Int) - 1)=((p - i:Nat):Int):=by rw [show (((p - i+1:Nat):Int) - 1)=((p - i:Nat):Int) by omega];exact wrapI (by omega)
 have a2:IntKind.i64.wrap (((p - i+1:Nat):Int)+1)=((p+1 - i+1:Nat):Int):=by rw [show (((p - i+1:Nat):Int)+1)=((p+1 - i+1:Nat):Int) by omega];exact wrapI (by omega)
 have hd:=drop2 (l:=l) (p:=p) hp2
 refine aAA (aAG (aAA (aAS ?_)))
 simp only [aBg,go_sem,↓reduceIte,Nat.reduceEqDiff,z4,z5,a1,e1,e2,f1,f2,edEq,Option.map_some,and_self,true_and,List.filter_cons,List.filter_nil,Nat.testBit,Nat.reduceShiftRight,Nat.reduceAnd,Nat.reduceBNe,Bool.not_false,Bool.not_true,Bool.false_eq_true,bne_self_eq_false,WV]
 refine aAD ?_
 by_cases hne:l[p+1]=l[p]
 · simp only [go_sem,↓reduceIte,Nat.reduceEqDiff,hne,decide_true,Bool.not_true,Bool.false_eq_true]
   refine aAF ?_
   simp only [go_sem,↓reduceIte,Nat.reduceEqDiff]
   refine aAB ?_
   simp only [aAl,go_sem,↓reduceIte,Nat.reduceEqDiff,z5,a2]
   refine ⟨l.length - (p+1),by omega,kg,cur,c,p+1,rfl,hic,by omega,hp2,fc,cl,fun k hk=>ct k (by omega),?_,z0,z4,z3,rfl⟩
   rw [hc,hd,aWk hne.symm,List.drop_eq_getElem_cons hp2]
 · simp only [go_sem,↓reduceIte,Nat.reduceEqDiff,hne,decide_false,Bool.not_false]
   obtain ⟨vo',vj',g1,g2,g3,fc2,k2⟩:=FO.set (f:=edC) (es:=3) (by decide) (fun _=>rfl) (fun _=>rfl) wg fc (i:=c) (by omega) l[p+1]
   have a3:IntKind.i64.wrap ((c:Int)+1)=((c+1:Nat):Int):=wrapI (n:=c+1) (by omega)
   refine aAA (aAB ?_)
   simp only [aB9,go_sem,↓reduceIte,Nat.reduceEqDiff,z0,z3,z4,z5,e1,e2,g1,g3]
   refine aAB ?_
   simp only [aBa,go_sem,↓reduceIte,Nat.reduceEqDiff,z3,a3]
   refine aAB ?_
   simp only [aAl,go_sem,↓reduceIte,Nat.reduceEqDiff,z5,a2]
   refine ⟨l.length - (p+1),by omega,kg.trans k2,cur.set c l[p+1],c+1,p+1,rfl,by omega,by omega,hp2,fc2,by simpa using cl,fun k hk => ?_,?_,z0,z4,rfl,rfl⟩
   · rw [List.getElem?_set,if_neg (by omega)];exact ct k (by omega)
   · rw [hc,hd,aWs (fun e=>hne e.symm),List.tail_cons,aP0,List.drop_eq_getElem_cons hp2]
     rw [List.take_add_one,List.getElem?_set_self (by omega)]
     rw [List.take_set_of_le (by omega),List.append_assoc]
     rfl
end Go.Proofs.YtdbmeidhlijopaaGreatDoor.Ev.C

/- strata.Edges. -/
namespace Go.Proofs.YtdbmeidhlijopaaGreatDoor.Ev.C
open Go Go.Proofs.YtdbmeidhlijopaaGreatDoor.Ev
set_option linter.unusedSimpArgs false
set_option linter.unusedVariables false
/-- an edge's first number -/
def numP (ps:List Pth) (p:Pth):Int:=match idxP p ps with | some i=>(i:Int) | none=>0
def edgeX (ps:List Pth) (n:Int) (b:Bool) (p:Pth):Option Ed:=(idxP p ps).map fun (k:Nat)=>(n,(k:Int),b)
def edgesO (ps:List Pth) (t:TypD) (r:RelD) (j:Nat) (o:OpD):List Ed:=(toP t r o).filterMap (edgeX ps (numP ps (t.name,r.name)) ((notsP r.ops).getD j false))
def edgesK (ps:List Pth) (t:TypD) (r:RelD):Nat→List OpD→List Ed
 | _,[] => []
 | j,o::rest=>edgesO ps t r j o++edgesK ps t r (j+1) rest
def edgesR (ps:List Pth) (t:TypD) (r:RelD):List Ed:=edgesK ps t r 0 r.ops
def edgesT (ps:List Pth) (t:TypD):List Ed:=t.rels.flatMap (edgesR ps t)
def edgesL (l:List TypD):List Ed:=l.flatMap (edgesT (pathsP l))
/-- a schema's edges -/
def edgesP (l:List TypD):List Ed:=compP (sortE (edgesL l))
theorem aRE (ps:List Pth) (t:TypD) (r:RelD) : ∀ (l:List OpD) (j m:Nat) (hm:m<l.length),edgesK ps t r j l=edgesK ps t r j (l.take m)++(edgesO ps t r (j+m) l[m]++edgesK ps t r (j+m+1) (l.drop (m+1)))
 | [],j,m,hm=>by simp at hm
 | o::l,j,0,hm=>rfl
 | o::l,j,m+1,hm=>by
  simp only [List.take_succ_cons,edgesK,List.getElem_cons_succ,List.drop_succ_cons]
  rw [aRE ps t r l (j+1) m (by simpa using hm),List.append_assoc,show j+1+m=j+(m+1) by omega]
theorem aSc (ps:List Pth) (t:TypD) (r:RelD) : ∀ (l:List OpD) (j m:Nat) (hm:m<l.length),edgesK ps t r j (l.take (m+1))=edgesK ps t r j (l.take m)++edgesO ps t r (j+m) l[m]
 | [],j,m,hm=>by simp at hm
 | o::l,j,0,hm=>by simp [edgesK]
 | o::l,j,m+1,hm=>by
  simp only [List.take_succ_cons,edgesK,List.getElem_cons_succ]
  rw [aSc ps t r l (j+1) m (by simpa using hm),List.append_assoc,show j+1+m=j+(m+1) by omega]
theorem aTD {α β:Type} (f:α→List β) {l:List α} {j:Nat} (hj:j<l.length):l.flatMap f=(l.take j).flatMap f++(f l[j]++(l.drop (j+1)).flatMap f):=by
 conv=>lhs;rw [← List.take_append_drop j l,List.drop_eq_getElem_cons hj]
 rw [List.flatMap_append,List.flatMap_cons]
theorem aYO {α β:Type} (f:α→List β) {l:List α} {j:Nat} (hj:j<l.length):(l.take (j+1)).flatMap f=(l.take j).flatMap f++f l[j]:=by
 rw [List.take_add_one,List.getElem?_eq_getElem hj,List.flatMap_append];simp
theorem a0i {α β:Type} (f:α→Option β) {l:List α} {j:Nat} (hj:j<l.length):l.filterMap f=(l.take j).filterMap f++((f l[j]).toList++(l.drop (j+1)).filterMap f):=by
 conv=>lhs;rw [← List.take_append_drop j l,List.drop_eq_getElem_cons hj]
 rw [List.filterMap_append,List.filterMap_cons]
 cases f l[j] <;> rfl
theorem a3C {α β:Type} (f:α→Option β) {l:List α} {j:Nat} (hj:j<l.length):(l.take (j+1)).filterMap f=(l.take j).filterMap f++(f l[j]).toList:=by
 rw [List.take_add_one,List.getElem?_eq_getElem hj,List.filterMap_append]
 cases hf:f l[j] <;> simp [hf]
theorem _root_.Go.Proofs.YtdbmeidhlijopaaGreatDoor.Ev.IsL.atR {α:Type} {N es:Nat} {P:H→List AV→α→Prop} {h g:H} {v:AV} {l:List α} (a:IsL N es P h v l) (k:RK (Old h.n) h g) {i:Nat} (hi:i<l.length) (hes:0<es) (kd:IntKind) :
 ∃ o j cs,aAJ es v (.int kd (i:Int))=some (.ptr o j)∧cs.length=es∧P h cs l[i]∧(∀ k,k<es→loadA g false 1 (.ptr o (j+k))=cs[k]?)∧loadA g true es (.ptr o j)=some (.agg cs):=by
 obtain ⟨r,css,h1,h2,h3,h4⟩:=a
 have hi':i<css.length:=by omega
 have s:Slot (Old h.n) h v:=(r.slotA (gs := []) (by simp)).mono fun j q=>q.1
 have h1:=h1.rk k s
 rw [← h2,show css.flatten=css.flatMap (fun x=>x) by rw [List.flatMap_id']] at h1
 obtain ⟨o,j,e1,e2,e3⟩:=Sl.elem h1 h3 hi' hes kd
 exact ⟨o,j,css[i],e1,h3 _ (List.getElem_mem _),h4 i hi' hi,e2,e3⟩
theorem afillE (a b:Int) (c:Bool):afill [AV.int .i64 0,AV.int .i64 0,.bool false] [(0,1,.int .i64 a),(1,1,.int .i64 b),(2,1,.bool c)]=some (edC (a,b,c)):=rfl
theorem aYP (x:Ed):afill (zeros [AV.int .i64 0,.int .i64 0,.bool false] (1*3)) [(0,3,.agg (edC x))]=some (edC x):=rfl
theorem a2g (a b:T8s):afill [AV.str [],.str []] [(0,1,.str a),(1,1,.str b)]=some (pthC (a,b)):=rfl
theorem tup2_0 (a b:AV):aAM 0 (.tup [a,b])=some a:=rfl
theorem tup2_1 (a b:AV):aAM 1 (.tup [a,b])=some b:=rfl
theorem aVV:sortE [] = []:=by simp [sortE]
theorem aPI : ∀ {l:List Nat} {x:Nat},x∈l→x≤l.sum
 | [],x,h=>by cases h
 | y::l,x,h=>by
  rw [List.sum_cons]
  rcases List.mem_cons.1 h with rfl | h
  · omega
  · have:=aPI h;omega
theorem aYd {N:Nat} {v:AV} {l:List Ed} {h:H} (wf:h.Wf) (hN:N≤h.n) (a:FL edC 3 N h v l) (hl:l.length<4611686018427387904) :
 WCall (EL LX) aAQ [v,.func aBT []] h fun r g=>r = .val (.tup [])∧Keep (Old N) h g∧FL edC 3 N g v (sortE l):=by
 have hov:(EL LX).ov aAQ=some sortEG:=(EL_ov _ _).trans rfl
 cases v with
 | nils =>
  have hl0:l = []:=by have:=a.1.len;simp [lenSA] at this;exact List.eq_nil_of_length_eq_zero this.symm
  subst hl0
  rw [aVV]
  exact aGm hov (by simp [sortEG,sortG]) ⟨rfl,Keep.refl _ _,FL.nil _ _ _ _⟩
 | slice o i n es =>
  have hn:n=l.length:=by have:=a.1.len;simpa [lenSA] using this
  subst hn
  have he:es=3:=by
   have:=a.1.cells
   simp only [H.firstCells] at this
   split at this
   · rename_i hc;exact hc.1
   · cases this
  subst he
  have hsl:(sortE l).length=l.length:=List.length_mergeSort _
  by_cases h0:l.length=0
  · have hl0:=List.eq_nil_of_length_eq_zero h0
    subst hl0
    rw [aVV]
    refine aGm hov (r := .val (.tup [])) (h':=h) ?_ ⟨rfl,Keep.refl _ _,a⟩
    simp [sortEG,sortG]
  · obtain ⟨h',e,q,k⟩:=FO.put (f:=edC) (es:=3) (by decide) (fun _=>rfl) wf a.fo (i:=0) (ys:=sortE l) (by omega) (by omega)
    rw [Nat.zero_mul,Nat.add_zero] at e
    rw [List.take_zero,List.nil_append,Nat.zero_add,List.drop_eq_nil_of_le (by omega),List.append_nil] at q
    refine aGm hov (r := .val (.tup [])) (h':=h') ?_ ⟨rfl,k,q.1,?_⟩
    · simp only [sortEG,sortG]
      rw [if_pos ⟨⟨trivial,trivial⟩,hl⟩,if_neg h0,a.1.cells]
      simp only [aVA]
      show Option.map _ (h.put o i ((sortE l).flatMap edC))=_
      rw [e];rfl
    · -- it still ends where its row ends
      obtain ⟨cs,g,h1,h2,h3,h4,h5,h6,h7⟩:=a.2
      obtain ⟨cs2,g2,q1,q2,q3,q4,q5,q6,q7⟩:=q.2
      obtain ⟨cs3,g3,P⟩:=H.put_to e
      have e12:=P.was;rw [h1] at e12;cases e12
      have e13:=P.get o;rw [if_pos rfl,q1] at e13;cases e13
      exact ⟨_,_,q1,q2,q3,q4,q5,by rw [aGi P.fit];exact h6,q7⟩
 | _=>exact a.2.elim
/-- how much a schema holds -/
structure Tiny (l:List TypD):Prop where
 sm:SmallS l
 subs : ∀ t∈l,subsN t.rels<1000000
 eds:(edgesL l).length<1000000000
set_option maxHeartbeats 1000000 in
theorem aZD {w:AV} {l:List TypD} {hb h:H} (wf:h.Wf) (is:IsSch 0 hb w l) (kb:Keep (Old hb.n) hb h) (ty:Tiny l) (nd:(pathsP l).Nodup) :
 WCall (EL LX) aKF [.agg [w]] h fun r g=>Keep (Old h.n) h g ∧ ∃ v,r = .val v∧FO edC 3 h.n g v (edgesP l):=by
 have sm:=ty.sm
 obtain ⟨h1,hg1,b1,k1,w1,n1⟩:=aAR wf [w]
 refine aAI ((EL_ov _ _).trans rfl) (EL_T aUd) (by simp [aJv]) ?_
 refine aAA (aAB ?_)
 simp only [aMf,go_sem,↓reduceIte,Nat.reduceEqDiff,enterS,List.getD_cons_zero,List.getD_cons_succ,AV.cells,hg1]
 have l0:loadA h1 true 1 (.ptr h.n 0)=some (.agg [w]):=b1.loadAgg rfl
 refine aAA (aAB ?_)
 simp only [aMq,go_sem,↓reduceIte,Nat.reduceEqDiff,l0]
 refine (aXQ w1 is (kb.trans (k1.less kb.n)) sm nd).mono ?_
 rintro _ h2 ⟨k2,mo,rfl,hmo,pm⟩
 have w2:=k2.wf w1
 have k02:Keep (Old h.n) h h2:=k1.trans (k2.less k1.n)
 have hmlt:mo<h2.n:=w2.ob _ _ pm
 simp only [go_sem,↓reduceIte,Nat.reduceEqDiff]
 refine aAA (aAB ?_)
 simp only [aM9,go_sem,↓reduceIte,Nat.reduceEqDiff]
 have l1:loadA h2 false 1 (.ptr h.n 0)=some w:=(b1.keep k2 (b1.lt w1)).load 1 0
 refine aAA (aAA (aAB ?_))
 simp only [aNK,go_sem,↓reduceIte,Nat.reduceEqDiff,aAC,Nat.zero_add,Nat.add_zero,Nat.reduceAdd,l1,is.len]
 have hps:=pm
 generalize hpsE:pathsP l=ps at pm nd
 have hE:edgesL l=l.flatMap (edgesT ps):=by unfold edgesL;rw [hpsE]
 have hbig:=ty.eds
 rw [hE] at hbig
 refine aCz (n:=l.length) (by have:=sm.1;omega) (fun j s g=>Keep (Old h2.n) h2 g∧FL edC 3 h2.n g (s 4) ((l.take j).flatMap (edgesT ps))∧s 3 = .map mo∧s 19=w) (by decide) ?_ rfl rfl ⟨Keep.refl _ _,FL.nil _ _ _ _,rfl,rfl⟩ ?_ ?_
 · rintro j s g t v (rfl | rfl | rfl) ⟨a,b,c,d⟩ <;> exact ⟨a,b,c,d⟩
 · rintro j s g hj ⟨kg,fl,z3,z19⟩ z21 z20
   have wg:=kg.wf w2
   have kbg:=kb.trans ((k02.trans (kg.less k02.n)).less kb.n)
   obtain ⟨o,i,tcs,e1,e2,it,e4,e5⟩:=IsL.atK is kbg hj (by decide) .i64
   have smt:=sm.2 _ (List.getElem_mem hj)
   have sbt:=ty.subs _ (List.getElem_mem hj)
   have hpre:=aTD (edgesT ps) hj
   have htk:=aYO (edgesT ps) hj
   rw [hpre] at hbig
   generalize l[j]=t at it smt sbt hpre htk hbig
   have hit:=it
   obtain ⟨rv,rfl,il⟩:=it
   obtain ⟨g1,p1,c1,kk1⟩:=Box.init wg (z := [AV.str [],.nils]) (cs := [.str t.name,rv]) (n:=2) rfl rfl (by simp only [List.all_cons,List.all_nil,(IsL.one il).1];rfl)
   have wg1:=kk1.wf wg
   refine aAA (aAB ?_)
   simp only [aMv,go_sem,↓reduceIte,Nat.reduceEqDiff,z19,z21,e1,e5,p1]
   have t1:loadA g1 false 1 (.ptr g.n 1)=some rv:=c1.load 1 1
   refine aAA (aAB ?_)
   simp only [aMh,go_sem,↓reduceIte,Nat.reduceEqDiff,aAC,Nat.zero_add,Nat.add_zero,Nat.reduceAdd,t1,il.len]
   have hb6:h2.n≤g.n:=kg.n
   refine aCz (n:=t.rels.length) (by have:=smt.1;omega) (fun k s g'=>Keep (Old h2.n) h2 g'∧FL edC 3 h2.n g' (s 4) ((l.take j).flatMap (edgesT ps)++(t.rels.take k).flatMap (edgesR ps t))∧RBox g.n [.str t.name,rv] g'∧s 3 = .map mo∧s 19=w∧s 6 = .ptr g.n 0∧s 26=rv∧s 21 = .int .i64 (j:Int)∧s 20 = .int .i64 (l.length:Int)) (by decide) ?_ rfl rfl
    ⟨kg.trans (kk1.less kg.n),by rw [List.take_zero,List.flatMap_nil,List.append_nil];exact fl.keepN wg kk1,c1.rb,z3,z19,rfl,rfl,z21,z20⟩ ?_ ?_
   · rintro k s g t v (rfl | rfl | rfl) ⟨a1,a2,a3,a4,a5,a6,a7,a8,a9⟩ <;> exact ⟨a1,a2,a3,a4,a5,a6,a7,a8,a9⟩
   · rintro k s g2 hk ⟨kg2,fl2,c2,y3,y19,y6,y26,y21,y20⟩ y28 y27
     have wg2:=kg2.wf w2
     have kbg2:Keep (Old hb.n) hb g2:=kb.trans ((k02.trans (kg2.less k02.n)).less kb.n)
     obtain ⟨o2,i2,rcs,f1,f2,ir,f4,f5⟩:=IsL.atK il kbg2 hk (by decide) .i64
     have smr:=smt.2.2 _ (List.getElem_mem hk)
     have hsr:t.rels[k].subs.length≤subsN t.rels:=by
      unfold subsN;exact aPI (List.mem_map.2 ⟨_,List.getElem_mem hk,rfl⟩)
     have hpr:=aTD (edgesR ps t) hk
     have htk2:=aYO (edgesR ps t) hk
     rw [show edgesT ps t=t.rels.flatMap (edgesR ps t) from rfl,hpr] at hbig
     generalize t.rels[k]=r at ir smr hpr htk2 hbig hsr
     have hir:=ir
     have rone:=ir.one
     obtain ⟨sv,ov,rfl,-,sl,rd⟩:=ir
     have io:IsL 0 3 (fun _ cs x=>cs=opC x) hb ov r.ops:=IsL.of_flat aLh sl rd
     obtain ⟨g3,p3,c3,kk3⟩:=Box.init wg2 (z := [AV.str [],.str [],.str [],.str [],.nils,.nils]) (cs := [.str r.name,.str r.view,.str r.edit,.str r.check,sv,ov]) (n:=6) rfl rfl rone.2
     have wg3:=kk3.wf wg2
     refine aAA (aAB ?_)
     simp only [aNA,go_sem,↓reduceIte,Nat.reduceEqDiff,y26,y28,f1,f5,p3]
     have q5:loadA g3 false 1 (.ptr g2.n 5)=some ov:=c3.load 1 5
     have kg3:Keep (Old h2.n) h2 g3:=kg2.trans (kk3.less kg2.n)
     have kbg3:Keep (Old hb.n) hb g3:=kb.trans ((k02.trans (kg3.less k02.n)).less kb.n)
     refine aAA (aAB ?_)
     simp only [aM8,go_sem,↓reduceIte,Nat.reduceEqDiff,aAC,Nat.zero_add,Nat.add_zero,Nat.reduceAdd,q5]
     refine (aZw wg3 io kbg3 smr.2.2).mono ?_
     rintro _ g4 ⟨kk4,rfl,b9⟩
     have wg4:=kk4.wf wg3
     have k24:Keep (Old g2.n) g2 g4:=kk3.trans (kk4.less kk3.n)
     have q5':loadA g4 false 1 (.ptr g2.n 5)=some ov:=(c3.keep kk4 (c3.lt wg3)).load 1 5
     simp only [go_sem,↓reduceIte,Nat.reduceEqDiff]
     refine aAA (aAB ?_)
     simp only [aMA,go_sem,↓reduceIte,Nat.reduceEqDiff,aAC,Nat.zero_add,Nat.add_zero,Nat.reduceAdd,q5',io.len]
     refine aCz (n:=r.ops.length) (by have:=smr.2.2;omega) (fun m s g'=>Keep (Old h2.n) h2 g'∧FL edC 3 h2.n g' (s 4) (((l.take j).flatMap (edgesT ps)++(t.rels.take k).flatMap (edgesR ps t))++edgesK ps t r 0 (r.ops.take m))∧RBox g.n [.str t.name,rv] g'∧RBox g2.n [.str r.name,.str r.view,.str r.edit,.str r.check,sv,ov] g'∧RBox g3.n ((notsP r.ops).map boolC) g'∧s 3 = .map mo∧s 19=w∧s 6 = .ptr g.n 0∧s 26=rv∧s 21 = .int .i64 (j:Int)∧s 20 = .int .i64 (l.length:Int)∧s 8 = .ptr g2.n 0∧s 9 = .slice g3.n 0 r.ops.length 1∧s 36=ov∧s 28 = .int .i64 (k:Int)∧s 27 = .int .i64 (t.rels.length:Int)) (by decide) ?_ rfl rfl
      ⟨kg2.trans (k24.less kg2.n),by rw [List.take_zero,edgesK,List.append_nil];exact fl2.keepN wg2 k24,c2.rk k24.rk (c2.lt wg2),(c3.keep kk4 (c3.lt wg3)).rb,b9.rb,y3,y19,y6,y26,y21,y20,rfl,rfl,rfl,y28,y27⟩ ?_ ?_
     · rintro m s g t v (rfl | rfl | rfl) ⟨a1,a2,a3,a4,a5,a6,a7,a8,a9,a10,a11,a12,a13,a14,a15,a16⟩ <;> exact ⟨a1,a2,a3,a4,a5,a6,a7,a8,a9,a10,a11,a12,a13,a14,a15,a16⟩
     · rintro m s g5 hm ⟨kg5,fl5,r6,r8,r9,x3,x19,x6,x26,x21,x20,x8,x9,x36,x28,x27⟩ x38 x37
       have wg5:=kg5.wf w2
       have kbg5:Keep (Old hb.n) hb g5:=kb.trans ((k02.trans (kg5.less k02.n)).less kb.n)
       obtain ⟨o3,i3,ocs,d1,d2,rfl,d4,d5⟩:=IsL.atK io kbg5 hm (by decide) .i64
       have hpk:=aRE ps t r r.ops 0 m hm
       have htk3:=aSc ps t r r.ops 0 m hm
       rw [Nat.zero_add] at hpk htk3
       rw [show edgesR ps t r=edgesK ps t r 0 r.ops from rfl,hpk] at hbig
       generalize r.ops[m]=op at d5 hpk htk3 hbig
       obtain ⟨g6,p6,c6,kk6⟩:=Box.init wg5 (z := [AV.int .i64 0,.str [],.str []]) (cs:=opC op) (n:=3) rfl rfl rfl
       have wg6:=kk6.wf wg5
       refine aAA (aAB ?_)
       simp only [aMH,go_sem,↓reduceIte,Nat.reduceEqDiff,x36,x38,d1,d5,p6]
       have kg6:Keep (Old h2.n) h2 g6:=kg5.trans (kk6.less kg5.n)
       have kbg6:Keep (Old hb.n) hb g6:=kb.trans ((k02.trans (kg6.less k02.n)).less kb.n)
       have u6:loadA g6 true 2 (.ptr g.n 0)=some (.agg [.str t.name,rv]):=(r6.rk kk6.rk (r6.lt wg5)).loadAgg rfl
       have u8:loadA g6 true 6 (.ptr g2.n 0)=some (.agg [.str r.name,.str r.view,.str r.edit,.str r.check,sv,ov]):=(r8.rk kk6.rk (r8.lt wg5)).loadAgg rfl
       have u11:loadA g6 true 3 (.ptr g5.n 0)=some (.agg (opC op)):=c6.loadAgg rfl
       refine aAA (aAB ?_)
       simp only [aMG,go_sem,↓reduceIte,Nat.reduceEqDiff,x6,x8,u6,u8,u11]
       refine (a3I (o:=op) wg6 hit hir kbg6 smt sbt (by omega)).mono ?_
       rintro _ g7 ⟨kk7,tv,rfl,flt⟩
       have wg7:=kk7.wf wg6
       have k57:Keep (Old g5.n) g5 g7:=kk6.trans (kk7.less kk6.n)
       have ilt:IsL 0 2 (fun _ cs x=>cs=pthC x) g7 tv (toP t r op):=IsL.of_flat (fun _=>rfl) flt.1 ((flt.2.rd wg7).less (Nat.zero_le _))
       simp only [go_sem,↓reduceIte,Nat.reduceEqDiff,flt.1.len]
       have htl:(toP t r op).length<1000000000:=by
        unfold toP
        split
        · omega
        · split
          · simp
          · split
            · rw [List.length_map];have:=aOY op.2.1 t.rels;have h9:(objP t op.2.1).length≤subsN t.rels:=this;omega
            · simp
       refine aCz (n:=(toP t r op).length) (by omega) (fun q s g'=>Keep (Old h2.n) h2 g'∧RK (Old g7.n) g7 g'∧FL edC 3 h2.n g' (s 4) ((((l.take j).flatMap (edgesT ps)++(t.rels.take k).flatMap (edgesR ps t))++edgesK ps t r 0 (r.ops.take m))++((toP t r op).take q).filterMap (edgeX ps (numP ps (t.name,r.name)) ((notsP r.ops).getD m false)))∧RBox g.n [.str t.name,rv] g'∧RBox g2.n [.str r.name,.str r.view,.str r.edit,.str r.check,sv,ov] g'∧RBox g3.n ((notsP r.ops).map boolC) g'∧s 3 = .map mo∧s 19=w∧s 6 = .ptr g.n 0∧s 26=rv∧s 21 = .int .i64 (j:Int)∧s 20 = .int .i64 (l.length:Int)∧s 8 = .ptr g2.n 0∧s 9 = .slice g3.n 0 r.ops.length 1∧s 36=ov∧s 28 = .int .i64 (k:Int)∧s 27 = .int .i64 (t.rels.length:Int)∧s 38 = .int .i64 (m:Int)∧s 37 = .int .i64 (r.ops.length:Int)∧s 46=tv∧s 10 = .int .i64 (m:Int)) (by decide) ?_ rfl rfl
        ⟨kg5.trans (k57.less kg5.n),RK.refl _ _,by rw [List.take_zero,List.filterMap_nil,List.append_nil];exact fl5.keepN wg5 k57,r6.rk k57.rk (r6.lt wg5),r8.rk k57.rk (r8.lt wg5),r9.rk k57.rk (r9.lt wg5),x3,x19,x6,x26,x21,x20,x8,x9,x36,x28,x27,x38,x37,rfl,rfl⟩ ?_ ?_
       · rintro q s g t v (rfl | rfl | rfl) ⟨a1,a2,a3,a4,a5,a6,a7,a8,a9,a10,a11,a12,a13,a14,a15,a16,a17,a18,a19,a20,a21⟩ <;> exact ⟨a1,a2,a3,a4,a5,a6,a7,a8,a9,a10,a11,a12,a13,a14,a15,a16,a17,a18,a19,a20,a21⟩
       · rintro q s ga hq ⟨kga,rka,fla,q6,q8,q9,v3,v19,v6,v26,v21,v20,v8,v9,v36,v28,v27,v38,v37,v46,v10⟩ v48 v47
         have wga:=kga.wf w2
         obtain ⟨o4,i4,pcs,j1,j2,rfl,j4,j5⟩:=IsL.atR ilt rka hq (by decide) .i64
         have hpx:=a0i (edgeX ps (numP ps (t.name,r.name)) ((notsP r.ops).getD m false)) hq
         have htx:=a3C (edgeX ps (numP ps (t.name,r.name)) ((notsP r.ops).getD m false)) hq
         rw [show edgesO ps t r m op=(toP t r op).filterMap (edgeX ps (numP ps (t.name,r.name)) ((notsP r.ops).getD m false)) from rfl,hpx] at hbig
         generalize (toP t r op)[q]=pt at j5 hpx htx hbig
         obtain ⟨gb,pb,cb,kkb⟩:=Box.init wga (z := [AV.str [],.str []]) (cs:=pthC pt) (n:=2) rfl rfl rfl
         have wgb:=kkb.wf wga
         have kgb:Keep (Old h2.n) h2 gb:=kga.trans (kkb.less kga.n)
         have rkb:RK (Old g7.n) g7 gb:=rka.step kkb.rk
         have flb:=fla.keepN wga kkb
         have q6b:=q6.rk kkb.rk (q6.lt wga)
         have q8b:=q8.rk kkb.rk (q8.lt wga)
         have q9b:=q9.rk kkb.rk (q9.lt wga)
         have pmb:PMap mo ps gb:=pm.rk kgb.rk hmlt
         refine aAA (aAB ?_)
         simp only [aLo,go_sem,↓reduceIte,Nat.reduceEqDiff,v46,v48,j1,j5,pb]
         have u13:loadA gb true 2 (.ptr ga.n 0)=some (.agg (pthC pt)):=cb.loadAgg rfl
         refine aAA (aAB ?_)
         cases hix:idxP pt ps with
         | none =>
          simp only [aHE,go_sem,↓reduceIte,Nat.reduceEqDiff,v3,u13,pmb.getT,hix,tup2_0,tup2_1]
          refine aAA (aAB ?_)
          simp only [aGu,go_sem,↓reduceIte,Nat.reduceEqDiff]
          refine aAD ?_
          simp only [go_sem,↓reduceIte,Nat.reduceEqDiff,Bool.false_eq_true]
          refine aAF ?_
          simp only [go_sem,↓reduceIte,Nat.reduceEqDiff]
          refine ⟨⟨kgb,rkb,?_,q6b,q8b,q9b,v3,v19,v6,v26,v21,v20,v8,v9,v36,v28,v27,v38,v37,v46,v10⟩,v48,v47⟩
          rw [htx]
          have:(edgeX ps (numP ps (t.name,r.name)) ((notsP r.ops).getD m false) pt).toList = []:=by unfold edgeX;rw [hix];rfl
          rw [this,List.append_nil];exact flb
         | some kx =>
          simp only [aHE,go_sem,↓reduceIte,Nat.reduceEqDiff,v3,u13,pmb.getT,hix,tup2_0,tup2_1]
          refine aAA (aAB ?_)
          simp only [aGu,go_sem,↓reduceIte,Nat.reduceEqDiff]
          refine aAD ?_
          simp only [go_sem,↓reduceIte,Nat.reduceEqDiff]
          have hexx:(edgeX ps (numP ps (t.name,r.name)) ((notsP r.ops).getD m false) pt)=some (numP ps (t.name,r.name),(kx:Int),(notsP r.ops).getD m false):=by unfold edgeX;rw [hix];rfl
          obtain ⟨v',gc,ec,flc,kc,rc,wc⟩:=FL.push (f:=edC) (fun _=>rfl) (fun _=>rfl) wgb kgb.n flb (numP ps (t.name,r.name),(kx:Int),(notsP r.ops).getD m false) (by
           rw [hexx] at hbig
           simp only [List.length_append,Option.toList_some,List.length_singleton] at hbig ⊢
           omega)
          obtain ⟨gn,hgn,bn,kn,wn,nn⟩:=aAR wgb (edC (numP ps (t.name,r.name),(kx:Int),(notsP r.ops).getD m false))
          rw [hgn] at ec
          have m6:loadA gb false 1 (.ptr g.n 0)=some (.str t.name):=q6b.load 1 0
          have m8:loadA gb false 1 (.ptr g2.n 0)=some (.str r.name):=q8b.load 1 0
          have m6':loadA gn false 1 (.ptr g.n 0)=some (.str t.name):=(q6b.rk kn.rk (q6b.lt wgb)).load 1 0
          have m8':loadA gn false 1 (.ptr g2.n 0)=some (.str r.name):=(q8b.rk kn.rk (q8b.lt wgb)).load 1 0
          have hml:m<(notsP r.ops).length:=by rw [a0B];exact hm
          have m9:loadA gb false 1 (.ptr g3.n m)=some (.bool ((notsP r.ops).getD m false)):=by
           rw [q9b.load 1 m,List.getElem?_map,List.getElem?_eq_getElem hml,List.getD_eq_getElem?_getD,List.getElem?_eq_getElem hml];rfl
          have m9':loadA gn false 1 (.ptr g3.n m)=some (.bool ((notsP r.ops).getD m false)):=by
           rw [(q9b.rk kn.rk (q9b.lt wgb)).load 1 m,List.getElem?_map,List.getElem?_eq_getElem hml,List.getD_eq_getElem?_getD,List.getElem?_eq_getElem hml];rfl
          have ix9:aAJ 1 (.slice g3.n 0 r.ops.length 1) (.int .i64 (m:Int))=some (.ptr g3.n m):=by
           simp only [aAJ]
           rw [if_pos ⟨trivial,by omega,by omega⟩,Int.toNat_natCast];simp
          have pmn:PMap mo ps gn:=pmb.rk kn.rk (Nat.lt_of_lt_of_le hmlt kgb.n)
          have hnum : ∀ z,(match idxP (t.name,r.name) ps with | some i=>AV.int .i64 (i:Int) | none=>z)=(match idxP (t.name,r.name) ps with | some i=>AV.int .i64 (i:Int) | none=>z):=fun _=>rfl
          have mg:aCn gb (.flat [.s,.s]) false (.int .i64 0) (.agg (pthC (t.name,r.name))) (.map mo)=some (.int .i64 (numP ps (t.name,r.name))):=by
           rw [pmb.getF];unfold numP;cases idxP (t.name,r.name) ps <;> rfl
          have mg':aCn gn (.flat [.s,.s]) false (.int .i64 0) (.agg (pthC (t.name,r.name))) (.map mo)=some (.int .i64 (numP ps (t.name,r.name))):=by
           rw [pmn.getF];unfold numP;cases idxP (t.name,r.name) ps <;> rfl
          refine aAS ?_
          simp only [aMC,go_sem,↓reduceIte,Nat.reduceEqDiff,aAC,Nat.zero_add,Nat.add_zero,Nat.reduceAdd,and_self,true_and,List.filter_cons,List.filter_nil,Nat.testBit,Nat.reduceShiftRight,Nat.reduceAnd,Nat.reduceBNe,Bool.not_false,Bool.not_true,Bool.false_eq_true,bne_self_eq_false,WV,v3,v6,v8,v9,v10,m6,m8,m6',m8',m9,m9',ix9,mg,mg',a2g,afillE,aYP,hgn,ec]
          refine ⟨⟨kgb.trans kc,rkb.step rc,?_,q6b.rk rc (q6b.lt wgb),q8b.rk rc (q8b.lt wgb),q9b.rk rc (q9b.lt wgb),v19,v26,v21,v20,v36,v28,v27,v38,v37,v46,trivial⟩,v48,v47⟩
          rw [htx,hexx,Option.toList_some,← List.append_assoc];exact flc
       · rintro s ga ⟨kga,rka,fla,q6,q8,q9,v3,v19,v6,v26,v21,v20,v8,v9,v36,v28,v27,v38,v37,v46,v10⟩
         simp only [go_sem,↓reduceIte,Nat.reduceEqDiff]
         refine ⟨⟨kga,?_,q6,q8,q9,v3,v19,v6,v26,v21,v20,v8,v9,v36,v28,v27⟩,v38,v37⟩
         rw [List.take_length] at fla
         rw [htk3,← List.append_assoc];exact fla
     · rintro s g5 ⟨kg5,fl5,r6,r8,r9,x3,x19,x6,x26,x21,x20,x8,x9,x36,x28,x27⟩
       simp only [go_sem,↓reduceIte,Nat.reduceEqDiff]
       refine ⟨⟨kg5,?_,r6,x3,x19,x6,x26,x21,x20⟩,x28,x27⟩
       rw [List.take_length] at fl5
       rw [htk2,← List.append_assoc];exact fl5
   · rintro s g2 ⟨kg2,fl2,c2,y3,y19,y6,y26,y21,y20⟩
     simp only [go_sem,↓reduceIte,Nat.reduceEqDiff]
     refine ⟨⟨kg2,?_,y3,y19⟩,y21,y20⟩
     rw [List.take_length] at fl2
     rw [htk];exact fl2
 · rintro s g ⟨kg,fl,z3,z19⟩
   have wg:=kg.wf w2
   rw [List.take_length,← hE] at fl
   simp only [go_sem,↓reduceIte,Nat.reduceEqDiff]
   refine aAA (aAB ?_)
   simp only [aMR,go_sem,↓reduceIte,Nat.reduceEqDiff]
   refine (aYd wg kg.n fl (by have:=ty.eds;omega)).mono ?_
   rintro _ g2 ⟨rfl,k2',fl2⟩
   simp only [go_sem,↓reduceIte,Nat.reduceEqDiff]
   refine aAA (aAB ?_)
   simp only [aMM,go_sem,↓reduceIte,Nat.reduceEqDiff]
   refine (aWj (k2'.wf wg) (Nat.le_trans kg.n k2'.n) fl2 (by rw [show (sortE (edgesL l)).length=(edgesL l).length from List.length_mergeSort _];exact ty.eds)).mono ?_
   rintro _ g3 ⟨k3,v',rfl,fo⟩
   simp only [go_sem,↓reduceIte,Nat.reduceEqDiff]
   refine aAE ?_
   simp only [aJv,go_sem,↓reduceIte,Nat.reduceEqDiff]
   exact ⟨((k02.trans (kg.less k02.n)).trans (k2'.less k02.n)).trans (k3.less k02.n),v',rfl,fo.1,fo.2.less k02.n⟩
end Go.Proofs.YtdbmeidhlijopaaGreatDoor.Ev.C

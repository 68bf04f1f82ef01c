/- The reference's numbers, parts and places of edges: walked. -/
import Derived.Test.YtdbmeidhlijopaaGreatDoorTS2
namespace Go.Proofs.YtdbmeidhlijopaaGreatDoor.Ev.C
open Go Go.Proofs.YtdbmeidhlijopaaGreatDoor.Ev
set_option linter.unusedSimpArgs false
set_option linter.unusedVariables false
def optI:Option Nat→Int
 | some k=>(k:Int)
 | none => -1
theorem a1b {rel:T8s} {l:List RelD} {j:Nat} (hj:j<l.length):ixR rel (l.drop j)=if l[j].name=rel then some 0 else (ixR rel (l.drop (j+1))).map (· + 1):=by
 rw [List.drop_eq_getElem_cons hj];rfl
theorem aSe {tcs:List AV} {t:TypD} {rel:T8s} {hb h:H} (wf:h.Wf) (it:IsTyp 0 hb tcs t) (kb:Keep (Old hb.n) hb h) (smt:SmallT t) :
 WCall (EL LX) aDY [.agg tcs,.str rel] h fun r g=>Keep (Old h.n) h g∧r = .val (.int .i64 (optI (ixR rel t.rels))):=by
 obtain ⟨rv,rfl,il⟩:=it
 obtain ⟨h1,hg1,b1,k1,w1,n1⟩:=aAR wf [.str t.name,rv]
 refine aAI ((EL_ov _ _).trans rfl) (EL_T aRu) (by simp [aD6]) ?_
 refine aAA (aAB ?_)
 simp only [aJk,go_sem,↓reduceIte,Nat.reduceEqDiff,enterS,List.getD_cons_zero,List.getD_cons_succ,AV.cells,hg1]
 have l1:loadA h1 false 1 (.ptr h.n 1)=some rv:=b1.load 1 1
 have kb1:Keep (Old hb.n) hb h1:=kb.trans (k1.less kb.n)
 refine aAA (aAA (aAB ?_))
 simp only [aJ8,go_sem,↓reduceIte,Nat.reduceEqDiff]
 refine aBZ (n:=t.rels.length) (i0:=0) (by have:=smt.1;omega) (fun j s g=>g=h1∧ixR rel t.rels=(ixR rel (t.rels.drop j)).map (· + j)∧s 1 = .str rel∧s 2 = .ptr h.n 0) (by decide) ?_ rfl (Nat.zero_le _) ⟨rfl,by simp,rfl,rfl⟩ ?_ ?_ ?_
 · rintro j s g t v (rfl | rfl | rfl) ⟨a,b,c,d⟩ <;> exact ⟨a,b,c,d⟩
 · rintro j s g hj ⟨rfl,hx,z1,z2⟩ z5
   refine aAB ?_
   simp only [aJQ,go_sem,↓reduceIte,Nat.reduceEqDiff,aAC,Nat.zero_add,Nat.add_zero,Nat.reduceAdd,z5,z2,l1,il.len]
   refine ⟨⟨trivial,hx,z1,trivial⟩,trivial,?_⟩
   rw [show (decide ((j:Int)<(t.rels.length:Int)))=decide (j<t.rels.length) by rw [Bool.eq_iff_iff,decide_eq_true_iff,decide_eq_true_iff];omega]
 · rintro j s g hj ⟨rfl,hx,z1,z2⟩ z5
   obtain ⟨o,i,rcs,e1,e2,ir,e4,e5⟩:=IsL.atK il kb1 hj (by decide) .i64
   rw [a1b hj] at hx
   have e40:=(e4 0 (by decide)).trans ir.name0
   rw [Nat.add_zero] at e40
   refine aAA (aAB ?_)
   simp only [aJE,go_sem,↓reduceIte,Nat.reduceEqDiff,aAC,Nat.zero_add,Nat.add_zero,Nat.reduceAdd,z5,z2,z1,l1,e1,e40]
   refine aAD ?_
   by_cases he:t.rels[j].name=rel
   · simp only [go_sem,↓reduceIte,Nat.reduceEqDiff,he,decide_true]
     refine aAA (aAB ?_)
     simp only [aJJ,go_sem,↓reduceIte,Nat.reduceEqDiff,z5]
     refine aAE ?_
     simp only [aD6,go_sem,↓reduceIte,Nat.reduceEqDiff]
     rw [if_pos he] at hx
     rw [hx]
     exact ⟨k1,by simp [optI]⟩
   · simp only [go_sem,↓reduceIte,Nat.reduceEqDiff,he,decide_false,Bool.false_eq_true]
     refine aAF ?_
     simp only [go_sem,↓reduceIte,Nat.reduceEqDiff]
     rw [if_neg he,Option.map_map] at hx
     refine ⟨⟨trivial,?_,z1,z2⟩,z5⟩
     rw [hx];congr 1;funext x;simp;omega
 · rintro s g ⟨rfl,hx,z1,z2⟩
   simp only [go_sem,↓reduceIte,Nat.reduceEqDiff]
   refine aAA (aAB ?_)
   simp only [aJO,go_sem,↓reduceIte,Nat.reduceEqDiff]
   refine aAE ?_
   simp only [aD6,go_sem,↓reduceIte,Nat.reduceEqDiff]
   rw [List.drop_length] at hx
   rw [hx]
   exact ⟨k1,rfl⟩
theorem decI (a b:Nat):decide ((a:Int)<(b:Int))=decide (a<b):=by rw [Bool.eq_iff_iff,decide_eq_true_iff,decide_eq_true_iff];omega
theorem aTq {l:List TypD} {j:Nat} (hj:j<l.length):relsN (l.take (j+1))=relsN (l.take j)+l[j].rels.length:=by
 unfold relsN
 rw [List.take_add_one,List.getElem?_eq_getElem hj,List.map_append,List.sum_append]
 simp only [Option.toList_some,List.map_cons,List.map_nil,List.sum_cons,List.sum_nil];omega
theorem aNQ {w:AV} {l:List TypD} {typ rel:T8s} {hb h:H} (wf:h.Wf) (is:IsSch 0 hb w l) (kb:Keep (Old hb.n) hb h) (sm:SmallS l) (hr:relsN l<1000000) :
 WCall (EL LX) aBX [w,.str typ,.str rel] h fun r g=>Keep (Old h.n) h g∧r = .val (.int .i64 (aFl typ rel 0 l)):=by
 refine aAI ((EL_ov _ _).trans rfl) (EL_T aOL) (by simp [aBb]) ?_
 refine aAA (aAB ?_)
 simp only [aGZ,go_sem,↓reduceIte,Nat.reduceEqDiff,enterS,List.getD_cons_zero,List.getD_cons_succ]
 refine aAA (aAB ?_)
 simp only [aGR,go_sem,↓reduceIte,Nat.reduceEqDiff,enterS,List.getD_cons_zero,List.getD_cons_succ]
 refine aAA (aAA (aAB ?_))
 simp only [aGX,go_sem,↓reduceIte,Nat.reduceEqDiff]
 refine aBZ (n:=l.length) (i0:=0) (by have:=sm.1;omega) (fun j s g=>Keep (Old h.n) h g∧aFl typ rel 0 l=aFl typ rel (relsN (l.take j)) (l.drop j)∧s 0=w∧s 1 = .str typ∧s 2 = .str rel∧s 7 = .int .i64 (relsN (l.take j):Int)) (by decide) ?_ rfl (Nat.zero_le _) ⟨Keep.refl _ _,rfl,rfl,rfl,rfl,rfl⟩ ?_ ?_ ?_
 · rintro j s g t v (rfl | rfl | rfl) ⟨a,b,c,d,e,f⟩ <;> exact ⟨a,b,c,d,e,f⟩
 · rintro j s g hj ⟨kg,hx,z0,z1,z2,z7⟩ z8
   refine aAB ?_
   simp only [aGS,go_sem,↓reduceIte,Nat.reduceEqDiff,z8,z0,is.len,decI]
   exact ⟨⟨kg,hx,trivial,z1,z2,z7⟩,trivial,trivial⟩
 · rintro j s g hj ⟨kg,hx,z0,z1,z2,z7⟩ z8
   have wg:=kg.wf wf
   have kbg:=kb.trans (kg.less kb.n)
   obtain ⟨o,i,tcs,e1,e2,it,e4,e5⟩:=IsL.atK is kbg hj (by decide) .i64
   have smt:=sm.2 _ (List.getElem_mem hj)
   rw [List.drop_eq_getElem_cons hj] at hx
   have hrt:=aTq hj
   have hrl:relsN (l.take (j+1))≤relsN l:=by
    have:relsN l=relsN (l.take (j+1))+relsN (l.drop (j+1)):=by
     conv=>lhs;rw [← List.take_append_drop (j+1) l]
     unfold relsN;rw [List.map_append,List.sum_append]
    omega
   have e40:=(e4 0 (by decide)).trans it.name0
   rw [Nat.add_zero] at e40
   refine aAA (aAB ?_)
   simp only [aGK,go_sem,↓reduceIte,Nat.reduceEqDiff,z8,z0,z2,e1,e5]
   refine (aSe wg it kbg smt).mono ?_
   rintro _ g2 ⟨k2,rfl⟩
   have kbg2:=kbg.trans (k2.less kbg.n)
   obtain ⟨o',i',tcs',e1',e2',it',e4',e5'⟩:=IsL.atK is kbg2 hj (by decide) .i64
   rw [e1] at e1';cases e1'
   have e40':=(e4' 0 (by decide)).trans it'.name0
   rw [Nat.add_zero] at e40'
   obtain ⟨rv,rfl,il⟩:=it'
   have e41':loadA g2 false 1 (.ptr o (i+1))=some rv:=e4' 1 (by decide)
   simp only [go_sem,↓reduceIte,Nat.reduceEqDiff]
   refine aAA (aAA (aAB ?_))
   simp only [aG3,go_sem,↓reduceIte,Nat.reduceEqDiff,aAC,Nat.zero_add,Nat.add_zero,Nat.reduceAdd,z8,z0,z1,e1,e40']
   refine aAD ?_
   simp only [aFl] at hx
   by_cases he:l[j].name=typ
   · simp only [go_sem,↓reduceIte,Nat.reduceEqDiff,he,decide_true]
     rw [if_pos he] at hx
     refine aAA (aAA (aAB ?_))
     cases hix:ixR rel l[j].rels with
     | none =>
      rw [hix] at hx
      simp only [aDa,go_sem,↓reduceIte,Nat.reduceEqDiff,optI,show (decide ((-1:Int)<0))=true from rfl]
      refine aAD ?_
      simp only [go_sem,↓reduceIte,Nat.reduceEqDiff]
      refine aAA (aAB ?_)
      simp only [aG1,go_sem,↓reduceIte,Nat.reduceEqDiff]
      refine aAE ?_
      simp only [aBb,go_sem,↓reduceIte,Nat.reduceEqDiff]
      exact ⟨kg.trans (k2.less kg.n),by rw [hx]⟩
     | some k =>
      rw [hix] at hx
      have hk0 : ¬ (k:Int)<0:=by omega
      have hkl:k<l[j].rels.length:=by
       obtain ⟨r',h1,_⟩:=aPJ hix
       exact (List.getElem?_eq_some_iff.1 h1).1
      simp only [aDa,go_sem,↓reduceIte,Nat.reduceEqDiff,optI,hk0,decide_false]
      refine aAD ?_
      simp only [go_sem,↓reduceIte,Nat.reduceEqDiff,Bool.false_eq_true]
      refine aAF ?_
      simp only [go_sem,↓reduceIte,Nat.reduceEqDiff]
      have a1:IntKind.i64.wrap (((relsN (l.take j):Nat):Int)+(k:Int))=((relsN (l.take j)+k:Nat):Int):=by rw [← Int.natCast_add];exact wrapI (by omega)
      refine aAA (aAB ?_)
      simp only [aG2,go_sem,↓reduceIte,Nat.reduceEqDiff,z7,a1]
      refine aAE ?_
      simp only [aBb,go_sem,↓reduceIte,Nat.reduceEqDiff]
      exact ⟨kg.trans (k2.less kg.n),by rw [hx]⟩
   · simp only [go_sem,↓reduceIte,Nat.reduceEqDiff,he,decide_false,Bool.false_eq_true]
     rw [if_neg he] at hx
     refine aAF ?_
     simp only [go_sem,↓reduceIte,Nat.reduceEqDiff]
     have a1:IntKind.i64.wrap (((relsN (l.take j):Nat):Int)+(l[j].rels.length:Int))=((relsN (l.take (j+1)):Nat):Int):=by rw [← Int.natCast_add,← hrt];exact wrapI (by omega)
     refine aAB ?_
     simp only [aGU,go_sem,↓reduceIte,Nat.reduceEqDiff,aAC,Nat.zero_add,Nat.add_zero,Nat.reduceAdd,z8,z0,z7,e1,e41',il.len,a1]
     exact ⟨⟨kg.trans (k2.less kg.n),by rw [hx,hrt],trivial,z1,z2,trivial⟩,trivial⟩
 · rintro s g ⟨kg,hx,z0,z1,z2,z7⟩
   simp only [go_sem,↓reduceIte,Nat.reduceEqDiff]
   refine aAA (aAB ?_)
   simp only [aFs,go_sem,↓reduceIte,Nat.reduceEqDiff]
   refine aAE ?_
   simp only [aBb,go_sem,↓reduceIte,Nat.reduceEqDiff]
   rw [List.drop_length] at hx
   exact ⟨kg,by rw [hx];rfl⟩
/-! ### where a part begins -/
theorem aZ1 {ov:AV} {ops:List OpD} {hb h:H} (io:IsL 0 3 (fun _ cs x=>cs=opC x) hb ov ops) (kb:Keep (Old hb.n) hb h) (ho:ops.length<1000000) {p:List OpD} (hp:PF p) :
 ∀ (x y:List OpD),ops=x++p++y→WCall (EL LX) aBM [ov,.int .i64 ((x.length+p.length - 1:Nat):Int)] h fun r g=>g=h∧r = .val (.int .i64 (x.length:Int)):=by
 induction hp with
 | one o h4 =>
  intro x y e
  have hlt:x.length<ops.length:=by rw [e];simp
  have hop:ops[x.length]=o:=by
   have:ops[x.length]? = some o:=by rw [e];simp
   exact (List.getElem?_eq_some_iff.1 this).2
  obtain ⟨o1,i1,ocs,e1,e2,e3,e4,e5⟩:=IsL.atK io kb hlt (by decide) .i64
  rw [hop] at e3
  subst e3
  have e40:loadA h false 1 (.ptr o1 i1)=some (.int .i64 (o.1:Int)):=by have:=e4 0 (by decide);rw [Nat.add_zero] at this;exact this
  have h4':(o.1:Int)<4:=by omega
  refine aAI ((EL_ov _ _).trans rfl) (EL_T aJb) (by simp [aC4]) ?_
  refine aAA (aAB ?_)
  simp only [aEh,go_sem,↓reduceIte,Nat.reduceEqDiff]
  refine aAA (aAA (aAB ?_))
  simp only [aEd,go_sem,↓reduceIte,Nat.reduceEqDiff,aAC,Nat.zero_add,Nat.add_zero,Nat.reduceAdd,enterS,List.getD_cons_zero,List.getD_cons_succ,List.length_singleton,Nat.add_sub_cancel,e1,e40,h4',decide_true]
  refine aAD ?_
  simp only [go_sem,↓reduceIte,Nat.reduceEqDiff]
  refine aAA (aAB ?_)
  simp only [aIX,go_sem,↓reduceIte,Nat.reduceEqDiff,enterS,List.getD_cons_zero,List.getD_cons_succ]
  refine aAE ?_
  simp only [aC4,go_sem,↓reduceIte,Nat.reduceEqDiff]
  exact ⟨trivial,trivial⟩
 | two a b o ha hb4 h4 iha ihb =>
  intro x y e
  have hpa:=ha.pos
  have hpb:=hb4.pos
  have hlen:(a++b ++ [o]).length=a.length+b.length+1:=by simp only [List.length_append,List.length_cons,List.length_nil]
  have hlt:x.length+(a++b ++ [o]).length - 1<ops.length:=by rw [e];simp only [List.length_append,List.length_cons,List.length_nil];omega
  have hop:ops[x.length+(a++b ++ [o]).length - 1]=o:=by
   have:ops[x.length+(a++b ++ [o]).length - 1]? = some o:=by
    rw [e,hlen,show x++(a++b ++ [o])++y=(x++a++b)++o::y by simp,List.getElem?_append_right (by simp only [List.length_append,List.length_cons,List.length_nil];omega)]
    rw [show x.length+(a.length+b.length+1) - 1 - (x++a++b).length=0 by simp only [List.length_append,List.length_cons,List.length_nil];omega];rfl
   exact (List.getElem?_eq_some_iff.1 this).2
  obtain ⟨o1,i1,ocs,e1,e2,e3,e4,e5⟩:=IsL.atK io kb hlt (by decide) .i64
  rw [hop] at e3
  subst e3
  have e40:loadA h false 1 (.ptr o1 i1)=some (.int .i64 (o.1:Int)):=by have:=e4 0 (by decide);rw [Nat.add_zero] at this;exact this
  have h4' : ¬ (o.1:Int)<4:=by omega
  have ib:=ihb (x++a) (o::y) (by rw [e];simp)
  have ia:=iha x (b++o::y) (by rw [e];simp)
  have hol:x.length+a.length+b.length+1≤ops.length:=by rw [e];simp only [List.length_append,List.length_cons,List.length_nil];omega
  rw [hlen] at e1
  refine aAI ((EL_ov _ _).trans rfl) (EL_T aJb) (by simp [aC4]) ?_
  refine aAA (aAB ?_)
  simp only [aEh,go_sem,↓reduceIte,Nat.reduceEqDiff]
  refine aAA (aAA (aAB ?_))
  simp only [aEd,go_sem,↓reduceIte,Nat.reduceEqDiff,aAC,Nat.zero_add,Nat.add_zero,Nat.reduceAdd,enterS,List.getD_cons_zero,List.getD_cons_succ,hlen,e1,e40,h4',decide_false]
  refine aAD ?_
  simp only [go_sem,↓reduceIte,Nat.reduceEqDiff,Bool.false_eq_true]
  refine aAF ?_
  simp only [go_sem,↓reduceIte,Nat.reduceEqDiff]
  have a1:IntKind.i64.wrap (((x.length+(a.length+b.length+1) - 1:Nat):Int) - 1)=(((x++a).length+b.length - 1:Nat):Int):=by
   rw [show (((x.length+(a.length+b.length+1) - 1:Nat):Int) - 1)=(((x++a).length+b.length - 1:Nat):Int) by simp only [List.length_append,List.length_cons,List.length_nil];omega]
   exact wrapI (by simp only [List.length_append,List.length_cons,List.length_nil];omega)
  refine aAA (aAB ?_)
  simp only [aI0,go_sem,↓reduceIte,Nat.reduceEqDiff,enterS,List.getD_cons_zero,List.getD_cons_succ,a1]
  refine ib.mono ?_
  rintro _ g ⟨rfl,rfl⟩
  simp only [go_sem,↓reduceIte,Nat.reduceEqDiff]
  have a2:IntKind.i64.wrap ((((x++a).length:Nat):Int) - 1)=((x.length+a.length - 1:Nat):Int):=by
   rw [show ((((x++a).length:Nat):Int) - 1)=((x.length+a.length - 1:Nat):Int) by simp only [List.length_append,List.length_cons,List.length_nil];omega]
   exact wrapI (by omega)
  refine aAA (aAB ?_)
  simp only [aHz,go_sem,↓reduceIte,Nat.reduceEqDiff,enterS,List.getD_cons_zero,List.getD_cons_succ,a2]
  refine ia.mono ?_
  rintro _ g ⟨rfl,rfl⟩
  simp only [go_sem,↓reduceIte,Nat.reduceEqDiff]
  refine aAE ?_
  simp only [aC4,go_sem,↓reduceIte,Nat.reduceEqDiff]
  exact ⟨trivial,trivial⟩
/-- .. of whichever place -/
theorem a2A {ov:AV} {ops:List OpD} {hb h:H} (io:IsL 0 3 (fun _ cs x=>cs=opC x) hb ov ops) (kb:Keep (Old hb.n) hb h) (ho:ops.length<1000000) (hp:PF ops) {m:Nat} (hm:m<ops.length) :
 WCall (EL LX) aBM [ov,.int .i64 (m:Int)] h fun r g=>g=h∧r = .val (.int .i64 (fromP ops.length ops m:Int)):=by
 obtain ⟨x,p,y,e,hpp,em⟩:=hp.ends m hm
 have h1:=aZ1 io kb ho hpp x y e
 have h2:=aSM hpp ops.length x y (by rw [e];simp only [List.length_append,List.length_cons,List.length_nil];omega)
 rw [← e,← em] at h2
 rw [← em] at h1
 rw [h2];exact h1
def notT (a:List OpD) (k i:Nat):Bool:=(List.range a.length).any fun m=>decide (i≤m)&&(decide ((opAt a m).1=6)&&decide (fromP a.length a (m - 1)≤k))
theorem a03 {a:List OpD} {k i:Nat} (hi:i<a.length):notT a k i=((decide ((opAt a i).1=6)&&decide (fromP a.length a (i - 1)≤k))||notT a k (i+1)):=by
 unfold notT
 rw [Bool.eq_iff_iff]
 simp only [Bool.or_eq_true,List.any_eq_true,Bool.and_eq_true,decide_eq_true_eq,List.mem_range]
 constructor
 · rintro ⟨m,h1,h2,h3⟩
   by_cases e:m=i
   · subst e;exact .inl h3
   · exact .inr ⟨m,h1,by omega,h3⟩
 · rintro (h | ⟨m,h1,h2,h3⟩)
   · exact ⟨i,hi,Nat.le_refl _,h⟩
   · exact ⟨m,h1,by omega,h3⟩
theorem aWN (a:List OpD) (k:Nat):notT a k (k+1)=behA a k:=rfl
theorem a0y {ov:AV} {ops:List OpD} {hb h:H} (io:IsL 0 3 (fun _ cs x=>cs=opC x) hb ov ops) (kb:Keep (Old hb.n) hb h) (ho:ops.length<1000000) (hp:PF ops) {k:Nat} (hk:k<ops.length) :
 WCall (EL LX) aF6 [ov,.int .i64 (k:Int)] h fun r g=>g=h∧r = .val (.bool (behA ops k)):=by
 refine aAI ((EL_ov _ _).trans rfl) (EL_T aSL) (by simp [aD1]) ?_
 refine aAA (aAB ?_)
 simp only [aJY,go_sem,↓reduceIte,Nat.reduceEqDiff]
 have a1:IntKind.i64.wrap ((k:Int)+1)=((k+1:Nat):Int):=wrapI (n:=k+1) (by omega)
 refine aAA (aAA (aAB ?_))
 simp only [aJ4,go_sem,↓reduceIte,Nat.reduceEqDiff,enterS,List.getD_cons_zero,List.getD_cons_succ,a1]
 refine aBZ (n:=ops.length) (i0:=k+1) (by omega) (fun j s g=>g=h∧k+1≤j∧notT ops k (k+1)=notT ops k j∧s 0=ov∧s 1 = .int .i64 (k:Int)) (by decide) ?_ rfl (by omega) ⟨rfl,Nat.le_refl _,rfl,rfl,rfl⟩ ?_ ?_ ?_
 · rintro j s g t v (rfl | rfl | rfl) ⟨a,b,c,d,e⟩ <;> exact ⟨a,b,c,d,e⟩
 · rintro j s g hj ⟨rfl,hkj,hx,z0,z1⟩ z5
   refine aAB ?_
   simp only [aJR,go_sem,↓reduceIte,Nat.reduceEqDiff,z5,z0,io.len,decI]
   exact ⟨⟨trivial,hkj,hx,trivial,z1⟩,trivial,trivial⟩
 · rintro j s g hj ⟨rfl,hkj,hx,z0,z1⟩ z5
   obtain ⟨o1,i1,ocs,e1,e2,rfl,e4,e5⟩:=IsL.atK io kb hj (by decide) .i64
   have hat:opAt ops j=ops[j]:=by unfold opAt;rw [List.getD_eq_getElem?_getD,List.getElem?_eq_getElem hj];rfl
   rw [a03 hj,hat] at hx
   have e40:loadA g false 1 (.ptr o1 i1)=some (.int .i64 (ops[j].1:Int)):=by have:=e4 0 (by decide);rw [Nat.add_zero] at this;exact this
   refine aAA (aAB ?_)
   by_cases h6:ops[j].1=6
   · have h6':(ops[j].1:Int)=6:=by omega
     have a2:IntKind.i64.wrap ((j:Int) - 1)=((j - 1:Nat):Int):=by rw [show ((j:Int) - 1)=((j - 1:Nat):Int) by omega];exact wrapI (by omega)
     simp only [aEz,go_sem,↓reduceIte,Nat.reduceEqDiff,aAC,Nat.zero_add,Nat.add_zero,Nat.reduceAdd,wanted,decide_true,decide_false,beq_self_eq_true,pickA,show (false==true)=false from rfl,show (true==false)=false from rfl,Bool.false_eq_true,undefA,Bool.not_true,Bool.not_false,z5,z0,z1,e1,e40,h6',a2]
     refine (a2A io kb ho hp (m:=j - 1) (by omega)).mono ?_
     rintro _ g' ⟨rfl,rfl⟩
     simp only [go_sem,↓reduceIte,Nat.reduceEqDiff,wanted,decide_true,decide_false,beq_self_eq_true,pickA,show (false==true)=false from rfl,show (true==false)=false from rfl,Bool.false_eq_true,undefA,Bool.not_true,Bool.not_false,z1]
     refine aAD ?_
     by_cases hle:fromP ops.length ops (j - 1)≤k
     · have hle':(fromP ops.length ops (j - 1):Int)≤(k:Int):=by omega
       simp only [go_sem,↓reduceIte,Nat.reduceEqDiff,hle',decide_true]
       refine aAA (aAB ?_)
       simp only [aIw,go_sem,↓reduceIte,Nat.reduceEqDiff]
       refine aAE ?_
       simp only [aD1,go_sem,↓reduceIte,Nat.reduceEqDiff]
       rw [aWN] at hx
       refine ⟨trivial,?_⟩
       rw [hx];simp [h6,hle]
     · have hle' : ¬ (fromP ops.length ops (j - 1):Int)≤(k:Int):=by omega
       simp only [go_sem,↓reduceIte,Nat.reduceEqDiff,hle',decide_false,Bool.false_eq_true]
       refine aAF ?_
       simp only [go_sem,↓reduceIte,Nat.reduceEqDiff]
       refine ⟨⟨trivial,by omega,?_,z0,z1⟩,z5⟩
       rw [hx];simp [hle]
   · have h6' : ¬ (ops[j].1:Int)=6:=by omega
     simp only [aEz,go_sem,↓reduceIte,Nat.reduceEqDiff,aAC,Nat.zero_add,Nat.add_zero,Nat.reduceAdd,wanted,decide_true,decide_false,beq_self_eq_true,pickA,show (false==true)=false from rfl,show (true==false)=false from rfl,Bool.false_eq_true,undefA,Bool.not_true,Bool.not_false,z5,z0,e1,e40,h6']
     refine aAD ?_
     simp only [go_sem,↓reduceIte,Nat.reduceEqDiff,Bool.false_eq_true]
     refine aAF ?_
     simp only [go_sem,↓reduceIte,Nat.reduceEqDiff]
     refine ⟨⟨trivial,by omega,?_,z0,z1⟩,z5⟩
     rw [hx];simp [h6]
 · rintro s g ⟨rfl,hkj,hx,z0,z1⟩
   simp only [go_sem,↓reduceIte,Nat.reduceEqDiff]
   refine aAA (aAB ?_)
   simp only [aIy,go_sem,↓reduceIte,Nat.reduceEqDiff]
   refine aAE ?_
   simp only [aD1,go_sem,↓reduceIte,Nat.reduceEqDiff]
   refine ⟨trivial,?_⟩
   have h0:notT ops k ops.length=false:=by
    unfold notT
    rw [← Bool.not_eq_true,List.any_eq_true]
    rintro ⟨m,h1,h2⟩
    simp only [Bool.and_eq_true,decide_eq_true_eq,List.mem_range] at h1 h2
    omega
   rw [h0,aWN] at hx
   rw [hx]
end Go.Proofs.YtdbmeidhlijopaaGreatDoor.Ev.C

/- The reference puts an edge where it belongs: walked. -/
namespace Go.Proofs.YtdbmeidhlijopaaGreatDoor.Ev.C
open Go Go.Proofs.YtdbmeidhlijopaaGreatDoor.Ev
set_option linter.unusedSimpArgs false
set_option linter.unusedVariables false
theorem ltE_b (x y:Ed):ltE x y=if ¬ x.1=y.1 then decide (x.1<y.1) else if ¬ x.2.1=y.2.1 then decide (x.2.1<y.2.1) else (!x.2.2&&y.2.2):=by
 obtain ⟨a,b,c⟩:=x
 obtain ⟨a',b',c'⟩:=y
 rw [Bool.eq_iff_iff,aKA]
 simp only
 by_cases h1:a=a'
 · rw [if_neg (by simp [h1])]
   by_cases h2:b=b'
   · rw [if_neg (by simp [h2])]
     cases c <;> cases c' <;> simp [wt,h1,h2]
   · rw [if_pos h2,decide_eq_true_iff];omega
 · rw [if_pos h1,decide_eq_true_iff];omega
theorem aYl (x y:Ed) (h:H) (wf:h.Wf):WCall (EL LX) aEV [.agg (edC x),.agg (edC y)] h fun r g=>Keep (Old h.n) h g∧r = .val (.bool (ltE x y)):=by
 obtain ⟨h1,hg1,b1,k1,w1,n1⟩:=aAR wf (edC x)
 obtain ⟨h2,hg2,b2,k2,w2,n2⟩:=aAR w1 (edC y)
 have k02:Keep (Old h.n) h h2:=k1.trans (k2.less k1.n)
 have b12:=b1.keep k2 (b1.lt w1)
 have m0:loadA h2 false 1 (.ptr h.n 0)=some (.int .i64 x.1):=b12.load 1 0
 have m1:loadA h2 false 1 (.ptr h.n 1)=some (.int .i64 x.2.1):=b12.load 1 1
 have m2:loadA h2 false 1 (.ptr h.n 2)=some (.bool x.2.2):=b12.load 1 2
 have q0:loadA h2 false 1 (.ptr h1.n 0)=some (.int .i64 y.1):=b2.load 1 0
 have q1:loadA h2 false 1 (.ptr h1.n 1)=some (.int .i64 y.2.1):=b2.load 1 1
 have q2:loadA h2 false 1 (.ptr h1.n 2)=some (.bool y.2.2):=b2.load 1 2
 refine aAI ((EL_ov _ _).trans rfl) (EL_T aP5) (by simp [aBF]) ?_
 refine aAA (aAB ?_)
 simp only [aHH,go_sem,↓reduceIte,Nat.reduceEqDiff,enterS,List.getD_cons_zero,List.getD_cons_succ,AV.cells,hg1,hg2]
 refine aAA (aAA (aAB ?_))
 simp only [aH8,go_sem,↓reduceIte,Nat.reduceEqDiff,aAC,Nat.zero_add,Nat.add_zero,Nat.reduceAdd,m0,q0]
 refine aAD ?_
 by_cases e1:x.1=y.1
 case neg =>
  simp only [go_sem,↓reduceIte,Nat.reduceEqDiff,e1,decide_false,Bool.not_false]
  refine aAA (aAB ?_)
  simp only [aHM,go_sem,↓reduceIte,Nat.reduceEqDiff,aAC,Nat.zero_add,Nat.add_zero,Nat.reduceAdd,m0,q0]
  refine aAE ?_
  simp only [aBF,go_sem,↓reduceIte,Nat.reduceEqDiff]
  exact ⟨k02,by rw [ltE_b,if_pos e1]⟩
 simp only [go_sem,↓reduceIte,Nat.reduceEqDiff,e1,decide_true,Bool.not_true,Bool.false_eq_true]
 refine aAF ?_
 simp only [go_sem,↓reduceIte,Nat.reduceEqDiff]
 refine aAA (aAA (aAB ?_))
 simp only [aHi,go_sem,↓reduceIte,Nat.reduceEqDiff,aAC,Nat.zero_add,Nat.add_zero,Nat.reduceAdd,m1,q1]
 refine aAD ?_
 by_cases e2:x.2.1=y.2.1
 case neg =>
  simp only [go_sem,↓reduceIte,Nat.reduceEqDiff,e2,decide_false,Bool.not_false]
  refine aAA (aAB ?_)
  simp only [aHj,go_sem,↓reduceIte,Nat.reduceEqDiff,aAC,Nat.zero_add,Nat.add_zero,Nat.reduceAdd,m1,q1]
  refine aAE ?_
  simp only [aBF,go_sem,↓reduceIte,Nat.reduceEqDiff]
  exact ⟨k02,by rw [ltE_b,if_neg (by simp [e1]),if_pos e2]⟩
 simp only [go_sem,↓reduceIte,Nat.reduceEqDiff,e2,decide_true,Bool.not_true,Bool.false_eq_true]
 refine aAF ?_
 simp only [go_sem,↓reduceIte,Nat.reduceEqDiff]
 have hlt:ltE x y=(!x.2.2&&y.2.2):=by rw [ltE_b,if_neg (by simp [e1]),if_neg (by simp [e2])]
 refine aAA (aAB ?_)
 cases hx:x.2.2
 · rw [hx] at m2 hlt
   simp only [aDl,go_sem,↓reduceIte,Nat.reduceEqDiff,aAC,Nat.zero_add,Nat.add_zero,Nat.reduceAdd,m2,q2,wanted,decide_true,decide_false,beq_self_eq_true,pickA,show (false==true)=false from rfl,show (true==false)=false from rfl,Bool.false_eq_true,undefA,Bool.not_true,Bool.not_false]
   refine aAE ?_
   simp only [aBF,go_sem,↓reduceIte,Nat.reduceEqDiff]
   exact ⟨k02,by rw [hlt];simp⟩
 · rw [hx] at m2 hlt
   simp only [aDl,go_sem,↓reduceIte,Nat.reduceEqDiff,aAC,Nat.zero_add,Nat.add_zero,Nat.reduceAdd,m2,q2,wanted,decide_true,decide_false,beq_self_eq_true,pickA,show (false==true)=false from rfl,show (true==false)=false from rfl,Bool.false_eq_true,undefA,Bool.not_true,Bool.not_false]
   refine aAE ?_
   simp only [aBF,go_sem,↓reduceIte,Nat.reduceEqDiff]
   exact ⟨k02,by rw [hlt];simp⟩
theorem aTn (x:Ed) : ∀ (l:List Ed) (j:Nat),j≤below x l→below x l=j+below x (l.drop j)
 | [],j,h=>by simp [below] at h;subst h;simp
 | a::l,0,h=>by simp
 | a::l,j+1,h=>by
  simp only [below] at h ⊢
  split at h
  · rename_i ha
    rw [if_pos ha,List.drop_succ_cons]
    have:=aTn x l j (by omega)
    omega
  · omega
theorem aZF {x:Ed} {l:List Ed} {j:Nat} (hj:j<l.length) (hb:j≤below x l):(ltE l[j] x=true→j+1≤below x l)∧(¬ ltE l[j] x=true→below x l=j):=by
 have h:=aTn x l j hb
 rw [List.drop_eq_getElem_cons hj] at h
 simp only [below] at h
 constructor
 · intro q;rw [if_pos q] at h;omega
 · intro q;rw [if_neg q] at h;omega
theorem eds_at {h:H} {v:AV} {l:List Ed} (a:Sl h 3 v l.length (l.flatMap edC)) {i:Nat} (hi:i<l.length) : ∃ o j,aAJ 3 v (.int .i64 (i:Int))=some (.ptr o j)∧loadA h true 3 (.ptr o j)=some (.agg (edC l[i])):=by
 obtain ⟨o,j,e,_,h1⟩:=Sl.elem a (fun _ _=>rfl) hi (by decide) .i64
 exact ⟨o,j,e,h1⟩
theorem aXV {h:H} {v:AV} {l:List Ed} (a:Sl h 3 v l.length (l.flatMap edC)) {lo hi:Nat} (h1:lo≤hi) (h2:hi≤l.length) (hlo hhi:Option AV) (hb:bounds l.length hlo hhi=some (lo,hi)) :
 ∃ v',aAX 3 hlo hhi v=some v'∧Sl h 3 v' ((l.drop lo).take (hi - lo)).length (((l.drop lo).take (hi - lo)).flatMap edC):=by
 obtain ⟨v',e,s,k⟩:=a.cut h1 h2 hlo hhi hb
 refine ⟨v',e,?_⟩
 rw [aPN (f:=edC) (es:=3) (fun _=>rfl),aLc (f:=edC) (es:=3) (fun _=>rfl)] at s
 rw [show ((l.drop lo).take (hi - lo)).length=hi - lo by rw [List.length_take,List.length_drop];omega]
 exact s
theorem a1R {N:Nat} {v:AV} {l:List Ed} {x:Ed} {h:H} (wf:h.Wf) (hN:N≤h.n) (a:Sl h 3 v l.length (l.flatMap edC)) (rd:Rd N h v) (hl:l.length<1000000000) :
 WCall (EL LX) aB5 [v,.agg (edC x)] h fun r g=>Keep (Old h.n) h g ∧ ∃ v',r = .val v'∧Sl g 3 v' (addP l x).length ((addP l x).flatMap edC)∧Rd N g v':=by
 obtain ⟨h1,hg1,b1,k1,w1,n1⟩:=aAR wf (edC x)
 have sv:Slot (Old h.n) h v:=(rd.slotA (gs := []) (by simp)).mono fun j q=>q.1
 refine aAI ((EL_ov _ _).trans rfl) (EL_T aRQ) (by simp [aBE]) ?_
 refine aAA (aAB ?_)
 simp only [aJT,go_sem,↓reduceIte,Nat.reduceEqDiff,enterS,List.getD_cons_zero,List.getD_cons_succ,AV.cells,hg1]
 refine aAA (aAB ?_)
 simp only [aJ0,go_sem,↓reduceIte,Nat.reduceEqDiff]
 refine aAA (aAG (aAP (fun m s g=>Keep (Old h1.n) h1 g ∧ ∃ j,m=l.length - j∧j≤below x l∧s 0=v∧s 3 = .ptr h.n 0∧s 5 = .int .i64 (j:Int)) ?_ l.length ?_))
 case refine_2=>exact ⟨Keep.refl _ _,0,rfl,Nat.zero_le _,rfl,rfl,rfl⟩
 rintro m s g ⟨kg,j,rfl,hj,z0,z3,z5⟩
 have hbl:=aTc x l
 have wg:=kg.wf w1
 have k0g:Keep (Old h.n) h g:=k1.trans (kg.less (by omega))
 have ag:=a.keep k0g sv
 have b1g:=b1.keep kg (b1.lt w1)
 have m3:loadA g true 3 (.ptr h.n 0)=some (.agg (edC x)):=b1g.loadAgg rfl
 show WS (EL LX) aJB _ _ _ _
 refine aAA (aAA (aAS ?_))
 -- behind the loop
 have rest : ∀ (s:S) (g:H),Keep (Old h1.n) h1 g→s 0=v→s 3 = .ptr h.n 0→s 5 = .int .i64 (below x l:Int) →
  WS (EL LX) (.seq (.seq (.draw aC9) (.cond (.tmp 37) (.seq (.ops aDQ) .ret) .skip)) (.seq (.ops aCb) (.seq (.ops aC6) (.seq (.ops aC5) (.seq (.ops aBv) .ret))))) []
   (atEnd aBE.results fun r g=>Keep (Old h.n) h g ∧ ∃ v',r = .val v'∧Sl g 3 v' (addP l x).length ((addP l x).flatMap edC)∧Rd N g v') s g:=by
  intro s g kg z0 z3 z5
  have wg:=kg.wf w1
  have k0g:Keep (Old h.n) h g:=k1.trans (kg.less (by omega))
  have ag:=a.keep k0g sv
  have b1g:=b1.keep kg (b1.lt w1)
  have m1:loadA g false 1 (.ptr h.n 1)=some (.int .i64 x.2.1):=b1g.load 1 1
  have m3:loadA g true 3 (.ptr h.n 0)=some (.agg (edC x)):=b1g.loadAgg rfl
  have same:(x.2.1<0∨l[below x l]? = some x) → ∀ s':S,s' 0=v→WS (EL LX) (.seq (.ops aDQ) .ret) [.code (.seq (.ops aCb) (.seq (.ops aC6) (.seq (.ops aC5) (.seq (.ops aBv) .ret))))] (atEnd aBE.results fun r g=>Keep (Old h.n) h g ∧ ∃ v',r = .val v'∧Sl g 3 v' (addP l x).length ((addP l x).flatMap edC)∧Rd N g v') s' g:=by
   intro hc s' y0
   refine aAA (aAB ?_)
   simp only [aDQ,go_sem,↓reduceIte,Nat.reduceEqDiff,y0]
   refine aAE ?_
   simp only [aBE,go_sem,↓reduceIte,Nat.reduceEqDiff]
   have:addP l x=l:=by unfold addP;rw [if_pos hc]
   rw [this]
   exact ⟨k0g,v,rfl,ag,rd.keepS sv k0g⟩
  have more : ¬ (x.2.1<0∨l[below x l]? = some x) → ∀ s':S,s' 0=v→s' 3 = .ptr h.n 0→s' 5 = .int .i64 (below x l:Int)→WS (EL LX) .skip [.code (.seq (.ops aCb) (.seq (.ops aC6) (.seq (.ops aC5) (.seq (.ops aBv) .ret))))] (atEnd aBE.results fun r g=>Keep (Old h.n) h g ∧ ∃ v',r = .val v'∧Sl g 3 v' (addP l x).length ((addP l x).flatMap edC)∧Rd N g v') s' g:=by
   intro hc s' y0 y3 y5
   have hadd:addP l x=l.take (below x l)++x::l.drop (below x l):=by unfold addP;rw [if_neg hc]
   refine aAF ?_
   simp only [go_sem,↓reduceIte,Nat.reduceEqDiff]
   refine aAA (aAB ?_)
   simp only [aCb,go_sem,↓reduceIte,Nat.reduceEqDiff]
   obtain ⟨v1,e1,s1⟩:=aXV ag (Nat.zero_le _) hbl none (some (.int .i64 (below x l:Int))) (aKk hbl .i64)
   rw [List.drop_zero,Nat.sub_zero] at s1
   obtain ⟨v2,g2,e2,f2,k2,r2⟩:=FL.app (f:=edC) (es:=3) (fun _=>rfl) (fun _=>rfl) wg (Nat.le_refl g.n) (FL.nil edC 3 g.n g) s1 (by rw [List.length_take];simp;omega)
   rw [List.nil_append] at f2
   have w2:=r2.wf wg
   refine aAA (aAB ?_)
   simp only [aC6,go_sem,↓reduceIte,Nat.reduceEqDiff,y0,y5,Option.map_some,Option.map_none,e1,e2]
   have m32:loadA g2 true 3 (.ptr h.n 0)=some (.agg (edC x)):=(b1g.rb.rk r2 (b1g.lt wg)).loadAgg rfl
   obtain ⟨v3,g3,e3,f3,k3,r3,w3⟩:=FL.push (f:=edC) (fun _=>rfl) (fun _=>rfl) w2 k2.n f2 x (by rw [List.length_take];omega)
   refine aAA (aAB ?_)
   simp only [aC5,go_sem,↓reduceIte,Nat.reduceEqDiff,y3,m32,aYP,e3]
   have k23:Keep (Old g.n) g g3:=k2.trans k3
   have k03:Keep (Old h.n) h g3:=k0g.trans (k23.less k0g.n)
   have ag3:=a.keep k03 sv
   obtain ⟨v4,e4,s4⟩:=aXV ag3 hbl (Nat.le_refl _) (some (.int .i64 (below x l:Int))) none (aEw hbl .i64)
   rw [List.take_of_length_le (by rw [List.length_drop];omega)] at s4
   obtain ⟨v5,g5,e5,f5,k5,r5⟩:=FL.app (f:=edC) (es:=3) (fun _=>rfl) (fun _=>rfl) w3 k23.n f3 s4 (by simp only [List.length_append,List.length_take,List.length_drop,List.length_cons,List.length_nil];omega)
   refine aAA (aAB ?_)
   simp only [aBv,go_sem,↓reduceIte,Nat.reduceEqDiff,y0,y5,Option.map_some,Option.map_none,e4,e5]
   refine aAE ?_
   simp only [aBE,go_sem,↓reduceIte,Nat.reduceEqDiff]
   have w5:=r5.wf w3
   rw [hadd,show l.take (below x l)++x::l.drop (below x l)=l.take (below x l) ++ [x]++l.drop (below x l) by simp]
   exact ⟨k03.trans (k5.less (by have:=k0g.n;omega)),v5,rfl,f5.1,(f5.2.rd w5).less (by have:=k0g.n;omega)⟩
  refine aAA (aAA (aAS ?_))
  by_cases hneg:x.2.1<0
  · simp only [aC9,go_sem,↓reduceIte,Nat.reduceEqDiff,aAC,Nat.zero_add,Nat.add_zero,Nat.reduceAdd,wanted,decide_true,decide_false,beq_self_eq_true,pickA,show (false==true)=false from rfl,show (true==false)=false from rfl,Bool.false_eq_true,undefA,Bool.not_true,Bool.not_false,z3,m1,hneg,and_self,true_and,List.filter_cons,List.filter_nil,Nat.testBit,Nat.reduceShiftRight,Nat.reduceAnd,Nat.reduceBNe,Bool.not_false,Bool.not_true,Bool.false_eq_true,bne_self_eq_false,WV]
    refine aAD ?_
    simp only [go_sem,↓reduceIte,Nat.reduceEqDiff]
    exact same (.inl hneg) _ z0
  · by_cases hlt:below x l<l.length
    · have hlt':(below x l:Int)<(l.length:Int):=by omega
      obtain ⟨o,i,e1,e2⟩:=eds_at ag hlt
      simp only [aC9,go_sem,↓reduceIte,Nat.reduceEqDiff,aAC,Nat.zero_add,Nat.add_zero,Nat.reduceAdd,wanted,decide_true,decide_false,beq_self_eq_true,pickA,show (false==true)=false from rfl,show (true==false)=false from rfl,Bool.false_eq_true,undefA,Bool.not_true,Bool.not_false,z0,z3,z5,m1,m3,hneg,ag.len,hlt',e1,e2,edEq,Option.map_some,and_self,true_and,List.filter_cons,List.filter_nil,Nat.testBit,Nat.reduceShiftRight,Nat.reduceAnd,Nat.reduceBNe,Bool.not_false,Bool.not_true,Bool.false_eq_true,bne_self_eq_false,WV]
      refine aAD ?_
      by_cases he:l[below x l]=x
      · simp only [go_sem,↓reduceIte,Nat.reduceEqDiff,he,decide_true]
        exact same (.inr (by rw [List.getElem?_eq_getElem hlt,he])) _ z0
      · simp only [go_sem,↓reduceIte,Nat.reduceEqDiff,he,decide_false,Bool.false_eq_true]
        exact more (by rintro (q | q);exact hneg q;rw [List.getElem?_eq_getElem hlt] at q;exact he (Option.some.inj q)) _ z0 z3 z5
    · have hlt' : ¬ (below x l:Int)<(l.length:Int):=by omega
      simp only [aC9,go_sem,↓reduceIte,Nat.reduceEqDiff,aAC,Nat.zero_add,Nat.add_zero,Nat.reduceAdd,wanted,decide_true,decide_false,beq_self_eq_true,pickA,show (false==true)=false from rfl,show (true==false)=false from rfl,Bool.false_eq_true,undefA,Bool.not_true,Bool.not_false,z0,z3,z5,m1,hneg,ag.len,hlt',Option.map_some,and_self,true_and,List.filter_cons,List.filter_nil,Nat.testBit,Nat.reduceShiftRight,Nat.reduceAnd,Nat.reduceBNe,Bool.not_false,Bool.not_true,Bool.false_eq_true,bne_self_eq_false,WV]
      refine aAD ?_
      simp only [go_sem,↓reduceIte,Nat.reduceEqDiff,Bool.false_eq_true]
      exact more (by rintro (q | q);exact hneg q;rw [List.getElem?_eq_none (by omega)] at q;cases q) _ z0 z3 z5
 by_cases hjl:j<l.length
 · have hjl':(j:Int)<(l.length:Int):=by omega
   obtain ⟨o,i,e1,e2⟩:=eds_at ag hjl
   obtain ⟨q1,q2⟩:=aZF hjl hj
   simp only [aFB,go_sem,↓reduceIte,Nat.reduceEqDiff,wanted,decide_true,decide_false,beq_self_eq_true,pickA,show (false==true)=false from rfl,show (true==false)=false from rfl,Bool.false_eq_true,undefA,Bool.not_true,Bool.not_false,z0,z3,z5,m3,ag.len,hjl',e1,e2,and_self,true_and,List.filter_cons,List.filter_nil,Nat.testBit,Nat.reduceShiftRight,Nat.reduceAnd,Nat.reduceBNe,Bool.not_false,Bool.not_true,Bool.false_eq_true,bne_self_eq_false,WV]
   refine (aYl l[j] x g wg).mono ?_
   rintro _ g2 ⟨k2,rfl⟩
   simp only [go_sem,↓reduceIte,Nat.reduceEqDiff,wanted,decide_true,decide_false,beq_self_eq_true,pickA,show (false==true)=false from rfl,show (true==false)=false from rfl,Bool.false_eq_true,undefA,Bool.not_true,Bool.not_false,and_self,true_and,List.filter_cons,List.filter_nil,Nat.testBit,Nat.reduceShiftRight,Nat.reduceAnd,Nat.reduceBNe,Bool.not_false,Bool.not_true,Bool.false_eq_true,bne_self_eq_false,WV]
   refine aAD ?_
   by_cases hlt:ltE l[j] x=true
   · simp only [go_sem,↓reduceIte,Nat.reduceEqDiff,hlt]
     refine aAF ?_
     simp only [go_sem,↓reduceIte,Nat.reduceEqDiff]
     have a1:IntKind.i64.wrap ((j:Int)+1)=((j+1:Nat):Int):=wrapI (n:=j+1) (by omega)
     refine aAG (aAB ?_)
     simp only [aJa,go_sem,↓reduceIte,Nat.reduceEqDiff,z5,a1]
     exact ⟨l.length - (j+1),by omega,kg.trans (k2.less kg.n),j+1,rfl,q1 hlt,z0,z3,rfl⟩
   · have hlt':ltE l[j] x=false:=by simpa using hlt
     simp only [go_sem,↓reduceIte,Nat.reduceEqDiff,hlt',Bool.false_eq_true]
     refine aAK ?_
     simp only [go_sem,↓reduceIte,Nat.reduceEqDiff]
     have:=q2 hlt
     exact rest _ _ (kg.trans (k2.less kg.n)) z0 z3 (by rw [this];exact z5)
 · have hjl' : ¬ (j:Int)<(l.length:Int):=by omega
   simp only [aFB,go_sem,↓reduceIte,Nat.reduceEqDiff,wanted,decide_true,decide_false,beq_self_eq_true,pickA,show (false==true)=false from rfl,show (true==false)=false from rfl,Bool.false_eq_true,undefA,Bool.not_true,Bool.not_false,z0,z3,z5,ag.len,hjl',and_self,true_and,List.filter_cons,List.filter_nil,Nat.testBit,Nat.reduceShiftRight,Nat.reduceAnd,Nat.reduceBNe,Bool.not_false,Bool.not_true,Bool.false_eq_true,bne_self_eq_false,WV]
   refine aAD ?_
   simp only [go_sem,↓reduceIte,Nat.reduceEqDiff,Bool.false_eq_true]
   refine aAK ?_
   simp only [go_sem,↓reduceIte,Nat.reduceEqDiff]
   have:below x l=j:=by omega
   exact rest _ _ kg z0 z3 (by rw [this];exact z5)
end Go.Proofs.YtdbmeidhlijopaaGreatDoor.Ev.C

/- The reference's edges: walked. -/
namespace Go.Proofs.YtdbmeidhlijopaaGreatDoor.Ev.C
open Go Go.Proofs.YtdbmeidhlijopaaGreatDoor.Ev
set_option linter.unusedSimpArgs false
set_option linter.unusedVariables false
theorem a2B (l:List Ed) (x:Ed):(addP l x).length≤l.length+1:=by
 unfold addP
 split
 · omega
 · have:=aTc x l
   simp only [List.length_append,List.length_cons,List.length_take,List.length_drop];omega
theorem aTN : ∀ (m l:List Ed),(m.foldl addP l).length≤l.length+m.length
 | [],l=>Nat.le_refl _
 | x::m,l=>by
  rw [List.foldl_cons]
  have:=aTN m (addP l x)
  have:=a2B l x
  simp only [List.length_cons];omega
theorem a1i (m:List Ed) (x:Ed):(m ++ [x]).foldl addP []=addP (m.foldl addP []) x:=by rw [List.foldl_append];rfl
theorem aUY (ps:List Pth) (n:Nat) (t:TypD) (r:RelD) : ∀ (l:List OpD) (j m:Nat) (hm:m<l.length),refK ps n t r j l=refK ps n t r j (l.take m)++(refO ps n t r (j+m) l[m]++refK ps n t r (j+m+1) (l.drop (m+1)))
 | [],j,m,hm=>by simp at hm
 | o::l,j,0,hm=>rfl
 | o::l,j,m+1,hm=>by
  simp only [List.take_succ_cons,refK,List.getElem_cons_succ,List.drop_succ_cons]
  rw [aUY ps n t r l (j+1) m (by simpa using hm),List.append_assoc,show j+1+m=j+(m+1) by omega]
theorem aVK (ps:List Pth) (n:Nat) (t:TypD) (r:RelD) : ∀ (l:List OpD) (j m:Nat) (hm:m<l.length),refK ps n t r j (l.take (m+1))=refK ps n t r j (l.take m)++refO ps n t r (j+m) l[m]
 | [],j,m,hm=>by simp at hm
 | o::l,j,0,hm=>by simp [refK]
 | o::l,j,m+1,hm=>by
  simp only [List.take_succ_cons,refK,List.getElem_cons_succ]
  rw [aVK ps n t r l (j+1) m (by simpa using hm),List.append_assoc,show j+1+m=j+(m+1) by omega]
theorem aUP (ps:List Pth) (t:TypD) : ∀ (l:List RelD) (n k:Nat) (hk:k<l.length),refR ps t n l=refR ps t n (l.take k)++(refK ps (n+k) t l[k] 0 l[k].ops++refR ps t (n+k+1) (l.drop (k+1)))
 | [],n,k,hk=>by simp at hk
 | r::l,n,0,hk=>rfl
 | r::l,n,k+1,hk=>by
  simp only [List.take_succ_cons,refR,List.getElem_cons_succ,List.drop_succ_cons]
  rw [aUP ps t l (n+1) k (by simpa using hk),List.append_assoc,show n+1+k=n+(k+1) by omega]
theorem aVE (ps:List Pth) (t:TypD) : ∀ (l:List RelD) (n k:Nat) (hk:k<l.length),refR ps t n (l.take (k+1))=refR ps t n (l.take k)++refK ps (n+k) t l[k] 0 l[k].ops
 | [],n,k,hk=>by simp at hk
 | r::l,n,0,hk=>by simp [refR]
 | r::l,n,k+1,hk=>by
  simp only [List.take_succ_cons,refR,List.getElem_cons_succ]
  rw [aVE ps t l (n+1) k (by simpa using hk),List.append_assoc,show n+1+k=n+(k+1) by omega]
theorem aTg (ps:List Pth) : ∀ (l:List TypD) (n k:Nat) (hk:k<l.length),refT ps n l=refT ps n (l.take k)++(refR ps l[k] (n+relsN (l.take k)) l[k].rels++refT ps (n+relsN (l.take (k+1))) (l.drop (k+1)))
 | [],n,k,hk=>by simp at hk
 | t::l,n,0,hk=>by simp [refT,relsN]
 | t::l,n,k+1,hk=>by
  simp only [List.take_succ_cons,refT,List.getElem_cons_succ,List.drop_succ_cons]
  rw [aTg ps l (n+t.rels.length) k (by simpa using hk),List.append_assoc]
  have e : ∀ m:List TypD,relsN (t::m)=t.rels.length+relsN m:=fun m=>by simp [relsN]
  rw [e,e,Nat.add_assoc,Nat.add_assoc]
theorem aVP (ps:List Pth) : ∀ (l:List TypD) (n k:Nat) (hk:k<l.length),refT ps n (l.take (k+1))=refT ps n (l.take k)++refR ps l[k] (n+relsN (l.take k)) l[k].rels
 | [],n,k,hk=>by simp at hk
 | t::l,n,0,hk=>by simp [refT,relsN]
 | t::l,n,k+1,hk=>by
  simp only [List.take_succ_cons,refT,List.getElem_cons_succ]
  rw [aVP ps l (n+t.rels.length) k (by simpa using hk),List.append_assoc]
  have e : ∀ m:List TypD,relsN (t::m)=t.rels.length+relsN m:=fun m=>by simp [relsN]
  rw [e,Nat.add_assoc]
/-- the paths of a subject -/
def inP (o:OpD) (x:SubD):List Pth:=if o.1=1 then (if x.2 = [] then [] else [x]) else (if x.2 = [] then [(x.1,o.2.2)] else [])
def srcP (t:TypD) (r:RelD) (o:OpD):List SubD:=if o.1=3 then subsOf t o.2.1 else r.subs
theorem toR_in (t:TypD) (r:RelD) (o:OpD) (h:o.1=1∨o.1=3):toR t r o=(srcP t r o).flatMap (inP o):=by
 have f1 : ∀ l:List SubD,l.filter (fun x => !decide (x.2 = []))=l.flatMap fun x=>if x.2 = [] then [] else [x]:=by
  intro l
  induction l with
  | nil=>rfl
  | cons x l ih =>
   rw [List.filter_cons,List.flatMap_cons,ih]
   by_cases hx:x.2 = [] <;> simp [hx]
 have f2 : ∀ l:List SubD,(l.filter (fun x=>decide (x.2 = []))).map (fun x=>(x.1,o.2.2))=l.flatMap fun x=>if x.2 = [] then [(x.1,o.2.2)] else []:=by
  intro l
  induction l with
  | nil=>rfl
  | cons x l ih =>
   rw [List.filter_cons,List.flatMap_cons,← ih]
   by_cases hx:x.2 = [] <;> simp [hx]
 rcases h with h | h
 · have e1:toR t r o=r.subs.filter fun x => !decide (x.2 = []):=by unfold toR;rw [if_pos h]
   have e2:srcP t r o=r.subs:=by unfold srcP;rw [if_neg (by omega)]
   have e3:inP o=fun x=>if x.2 = [] then [] else [x]:=by funext x;unfold inP;rw [if_pos h]
   rw [e1,e2,e3,f1]
 · have e1:toR t r o=((subsOf t o.2.1).filter fun x=>decide (x.2 = [])).map fun x=>(x.1,o.2.2):=by unfold toR;rw [if_neg (by omega),if_neg (by omega),if_pos h]
   have e2:srcP t r o=subsOf t o.2.1:=by unfold srcP;rw [if_pos h]
   have e3:inP o=fun x=>if x.2 = [] then [(x.1,o.2.2)] else []:=by funext x;unfold inP;rw [if_neg (by omega)]
   rw [e1,e2,e3,f2]
/-- an edge to a path -/
def mkX (ps:List Pth) (n:Nat) (b:Bool) (p:Pth):Ed:=((n:Int),numQ ps p,b)
structure RefH (l:List TypD):Prop where
 names:Names l
 sm:SmallS l
 rels:relsN l<1000000
 pf : ∀ t∈l,∀ r∈t.rels,PF r.ops
 there : ∀ t∈l,∀ r∈t.rels,∀ o∈r.ops,o.1=3 → ∃ k,ixR o.2.1 t.rels=some k
 big:(refT (pathsP l) 0 l).length<1000000000
theorem a0Z {α:Type} (a b c d e:α) (l:List α):(a::b::c::d::e::l)[4]? = some e:=rfl
theorem aUb (a b:Int) (c:Bool):afill [AV.int .i64 0,AV.int .i64 0,.bool false] [(0,1,.int .i64 a),(1,1,.int .i64 b),(2,1,.bool c)]=some (edC (a,b,c)):=rfl
/-- out, as it stands -/
def OutR (N:Nat) (v:AV) (X:List Ed) (g:H):Prop:=Sl g 3 v (X.foldl addP []).length ((X.foldl addP []).flatMap edC)∧Rd N g v
theorem OutR.keep {N:Nat} {v:AV} {X:List Ed} {g g':H} (o:OutR N v X g) (k:Keep (Old g.n) g g'):OutR N v X g':=by
 have s:Slot (Old g.n) g v:=(o.2.slotA (gs := []) (by simp)).mono fun j q=>q.1
 exact ⟨o.1.keep k s,o.2.keepS s k⟩
theorem aRZ {N:Nat} {v:AV} {X:List Ed} {x:Ed} {h:H} (wf:h.Wf) (hN:N≤h.n) (o:OutR N v X h) (hl:X.length<1000000000) :
 WCall (EL LX) aB5 [v,.agg (edC x)] h fun r g=>Keep (Old h.n) h g ∧ ∃ v',r = .val v'∧OutR N v' (X ++ [x]) g:=by
 have:=aTN X []
 refine (a1R wf hN o.1 o.2 (by simp at this;omega)).mono ?_
 rintro r g ⟨k,v',e,s,rd⟩
 refine ⟨k,v',e,?_,rd⟩
 rw [a1i];exact s
set_option maxHeartbeats 1000000 in
theorem aVx {w:AV} {l:List TypD} {hb h:H} (wf:h.Wf) (is:IsSch 0 hb w l) (kb:Keep (Old hb.n) hb h) (R:RefH l) :
 WCall (EL LX) aE9 [w] h fun r g=>Keep (Old h.n) h g ∧ ∃ v,r = .val v∧Sl g 3 v (refP l).length ((refP l).flatMap edC)∧Rd h.n g v:=by
 have sm:=R.sm
 have hbig:=R.big
 refine aAI ((EL_ov _ _).trans rfl) (EL_T aPZ) (by simp [aE2]) ?_
 refine aAA (aAB ?_)
 simp only [aHa,go_sem,↓reduceIte,Nat.reduceEqDiff]
 refine aAA (aAB ?_)
 simp only [aHL,go_sem,↓reduceIte,Nat.reduceEqDiff]
 refine aAA (aAB ?_)
 simp only [aHK,go_sem,↓reduceIte,Nat.reduceEqDiff]
 refine aAA (aAA (aAB ?_))
 simp only [aHQ,go_sem,↓reduceIte,Nat.reduceEqDiff]
 have hnum : ∀ p:Pth,aFl p.1 p.2 0 l=numQ (pathsP l) p:=aY6 R.names.typs
 have hrp:refP l=(refT (pathsP l) 0 l).foldl addP []:=rfl
 generalize pathsP l=ps at hbig hnum hrp
 refine aBZ (n:=l.length) (i0:=0) (by have:=sm.1;omega) (fun j s g=>Keep (Old h.n) h g∧OutR h.n (s 3) (refT ps 0 (l.take j)) g∧s 0=w∧s 4 = .int .i64 (relsN (l.take j):Int)) (by decide) ?_ rfl (Nat.zero_le _) ⟨Keep.refl _ _,⟨Sl.nil _ _,trivial⟩,rfl,rfl⟩ ?_ ?_ ?_
 · rintro j s g t v (rfl | rfl | rfl) ⟨a,b,c,d⟩ <;> exact ⟨a,b,c,d⟩
 · rintro j s g hj ⟨kg,ou,z0,z4⟩ z5
   refine aAB ?_
   simp only [aH4,go_sem,↓reduceIte,Nat.reduceEqDiff,z5,z0,is.len,decI]
   exact ⟨⟨kg,ou,trivial,z4⟩,trivial,trivial⟩
 · rintro j s g hj ⟨kg,ou,z0,z4⟩ z5
   have hRt:=aTg ps l 0 j hj
   have hTt:=aVP ps l 0 j hj
   rw [Nat.zero_add] at hRt hTt
   rw [hRt] at hbig
   have smt:=sm.2 _ (List.getElem_mem hj)
   have ndt:=R.names.rels _ (List.getElem_mem hj)
   have hth:=R.there _ (List.getElem_mem hj)
   have hpf:=R.pf _ (List.getElem_mem hj)
   have hrt:=aTq hj
   have hrl:relsN (l.take (j+1))≤relsN l:=by
    have:relsN l=relsN (l.take (j+1))+relsN (l.drop (j+1)):=by
     conv=>lhs;rw [← List.take_append_drop (j+1) l]
     unfold relsN;rw [List.map_append,List.sum_append]
    omega
   have hrm:=R.rels
   obtain ⟨to,ti,tcs,ta,tlen,it,tl⟩:=IsL.el is hj (by decide)
   generalize l[j]=t at it smt ndt hth hpf hrt hRt hTt hbig
   generalize relsN (l.take j)=n0 at z4 hRt hTt hrt hbig
   generalize refT ps 0 (l.take j)=A at ou hRt hTt hbig
   generalize refT ps (0+relsN (l.take (j+1))) (l.drop (j+1))=Z at hbig hRt
   have hit:=it
   obtain ⟨rv,rfl,il⟩:=it
   have rkh : ∀ g',Keep (Old h.n) h g'→RK (Old hb.n) hb g':=fun g' k=>(kb.trans (k.less kb.n)).rk
   have tname : ∀ g',Keep (Old h.n) h g'→loadA g' false 1 (.ptr to ti)=some (.str t.name):=fun g' k=>by have:=(tl g' (rkh g' k)).2 0 (by decide);rw [Nat.add_zero] at this;exact this
   have trels : ∀ g',Keep (Old h.n) h g'→loadA g' false 1 (.ptr to (ti+1))=some rv:=fun g' k=>(tl g' (rkh g' k)).2 1 (by decide)
   have tagg : ∀ g',Keep (Old h.n) h g'→loadA g' true 2 (.ptr to ti)=some (.agg [.str t.name,rv]):=fun g' k=>(tl g' (rkh g' k)).1
   refine aAA (aAB ?_)
   simp only [aHZ,go_sem,↓reduceIte,Nat.reduceEqDiff]
   refine aBZ (n:=t.rels.length) (i0:=0) (by have:=smt.1;omega) (fun k s g=>Keep (Old h.n) h g∧OutR h.n (s 3) (A++refR ps t n0 (t.rels.take k)) g∧s 0=w∧s 4 = .int .i64 ((n0+k:Nat):Int)∧s 5 = .int .i64 (j:Int)) (by decide) ?_ rfl (Nat.zero_le _) ⟨kg,by rw [List.take_zero,refR,List.append_nil];exact ou,z0,z4,z5⟩ ?_ ?_ ?_
   · rintro k s g t v (rfl | rfl | rfl) ⟨a,b,c,d,e⟩ <;> exact ⟨a,b,c,d,e⟩
   · rintro k s g hk ⟨kg,ou,z0,z4,z5⟩ z6
     refine aAB ?_
     simp only [aHT,go_sem,↓reduceIte,Nat.reduceEqDiff,aAC,Nat.zero_add,Nat.add_zero,Nat.reduceAdd,z6,z5,z0,ta,trels g kg,il.len,decI]
     exact ⟨⟨kg,ou,trivial,z4,trivial⟩,trivial,trivial⟩
   · rintro k s g hk ⟨kg,ou,z0,z4,z5⟩ z6
     have wg:=kg.wf wf
     have hRr:=aUP ps t t.rels n0 k hk
     have hTr:=aVE ps t t.rels n0 k hk
     rw [hRr] at hbig
     have smr:=smt.2.2 _ (List.getElem_mem hk)
     have hthr:=hth _ (List.getElem_mem hk)
     have hpfr:=hpf _ (List.getElem_mem hk)
     obtain ⟨ro,ri,rcs,ra,rlen,ir,rl⟩:=IsL.el il hk (by decide)
     generalize t.rels[k]=r at ir smr hthr hpfr hRr hTr hbig
     generalize hB:A++refR ps t n0 (t.rels.take k)=B at ou
     have rone:=ir.one
     obtain ⟨sv,ov,rfl,⟨sls,srd⟩,osl,ord⟩:=ir
     have ilo:IsL 0 3 (fun _ cs x=>cs=opC x) hb ov r.ops:=IsL.of_flat aLh osl ord
     have ilsr:IsL 0 2 (fun _ cs x=>cs=subC x) hb sv r.subs:=IsL.of_flat aHA sls srd
     obtain ⟨g1,p1,c1,kk1⟩:=Box.init wg (z := [AV.str [],.str [],.str [],.str [],.nils,.nils]) (cs := [.str r.name,.str r.view,.str r.edit,.str r.check,sv,ov]) (n:=6) rfl rfl rone.2
     have wg1:=kk1.wf wg
     refine aAA (aAB ?_)
     simp only [aH1,go_sem,↓reduceIte,Nat.reduceEqDiff,aAC,Nat.zero_add,Nat.add_zero,Nat.reduceAdd,z6,z5,z0,ta,trels g kg,ra,(rl g (rkh g kg)).1,p1]
     refine aAA (aAA (aAB ?_))
     simp only [aHU,go_sem,↓reduceIte,Nat.reduceEqDiff]
     refine aBZ (n:=r.ops.length) (i0:=0) (by have:=smr.2.2;omega) (fun m s g'=>Keep (Old g1.n) g1 g'∧OutR h.n (s 3) (B++refK ps (n0+k) t r 0 (r.ops.take m)) g'∧s 0=w∧s 4 = .int .i64 ((n0+k:Nat):Int)∧s 5 = .int .i64 (j:Int)∧s 6 = .int .i64 (k:Int)∧s 7 = .ptr g.n 0) (by decide) ?_ rfl (Nat.zero_le _) ⟨Keep.refl _ _,by rw [List.take_zero,refK,List.append_nil];exact ou.keep kk1,z0,z4,z5,z6,rfl⟩ ?_ ?_ ?_
     · rintro m s g t v (rfl | rfl | rfl) ⟨a1,a2,a3,a4,a5,a6,a7⟩ <;> exact ⟨a1,a2,a3,a4,a5,a6,a7⟩
     · rintro m s g2 hm ⟨kg2,ou2,z0,z4,z5,z6,z7⟩ z8
       have b7:=c1.keep kg2 (c1.lt wg1)
       have u5:loadA g2 false 1 (.ptr g.n 5)=some ov:=b7.load 1 5
       refine aAB ?_
       simp only [aHh,go_sem,↓reduceIte,Nat.reduceEqDiff,aAC,Nat.zero_add,Nat.add_zero,Nat.reduceAdd,z8,z7,u5,ilo.len,decI]
       exact ⟨⟨kg2,ou2,z0,z4,z5,z6,trivial⟩,trivial,trivial⟩
     · rintro m s g2 hm ⟨kg2,ou2,z0,z4,z5,z6,z7⟩ z8
       have wg2:=kg2.wf wg1
       have kh1:Keep (Old h.n) h g1:=kg.trans (kk1.less kg.n)
       have kh2:Keep (Old h.n) h g2:=kh1.trans (kg2.less kh1.n)
       have b7:=c1.keep kg2 (c1.lt wg1)
       have u5:loadA g2 false 1 (.ptr g.n 5)=some ov:=b7.load 1 5
       have u4:loadA g2 false 1 (.ptr g.n 4)=some sv:=b7.load 1 4
       have hRo:=aUY ps (n0+k) t r r.ops 0 m hm
       have hTo:=aVK ps (n0+k) t r r.ops 0 m hm
       rw [Nat.zero_add] at hRo hTo
       rw [hRo] at hbig
       obtain ⟨oo,oi,ocs,oa,olen,hocs,ol⟩:=IsL.el ilo hm (by decide)
       subst hocs
       have hthm:=hthr _ (List.getElem_mem hm)
       refine aAA (aAB ?_)
       simp only [aGN,go_sem,↓reduceIte,Nat.reduceEqDiff,aAC,Nat.zero_add,Nat.add_zero,Nat.reduceAdd,z7,z8,u5]
       refine (a0y ilo (kb.trans (kh2.less kb.n)) smr.2.2 hpfr hm).mono ?_
       rintro _ g2' ⟨hg2,rfl⟩
       have hg2':g2=g2':=hg2.symm
       subst hg2'
       simp only [go_sem,↓reduceIte,Nat.reduceEqDiff]
       generalize hbv:behA r.ops m=bv
       have hobv : ∀ o:OpD,refO ps (n0+k) t r m o=(toR t r o).map (mkX ps (n0+k) bv):=fun o=>by unfold refO mkX;rw [hbv]
       rw [hobv] at hTo hbig hRo
       generalize r.ops[m]=o at ol hthm hTo hbig hRo
       generalize hC:B++refK ps (n0+k) t r 0 (r.ops.take m)=C at ou2
       obtain ⟨g3,p3,c3,kk3⟩:=Box.init wg2 (z := [AV.int .i64 0,.str [],.str []]) (cs:=opC o) (n:=3) rfl rfl rfl
       have wg3:=kk3.wf wg2
       have kh3:Keep (Old h.n) h g3:=kh2.trans (kk3.less kh2.n)
       have b73:=b7.keep kk3 (b7.lt wg2)
       have ou3:=ou2.keep kk3
       refine aAA (aAB ?_)
       simp only [aG9,go_sem,↓reduceIte,Nat.reduceEqDiff,aAC,Nat.zero_add,Nat.add_zero,Nat.reduceAdd,z7,z8,u5,oa,(ol g2 (rkh g2 kh2)).1,p3]
       have u43:loadA g3 false 1 (.ptr g.n 4)=some sv:=b73.load 1 4
       refine aAA (aAB ?_)
       simp only [aGO,go_sem,↓reduceIte,Nat.reduceEqDiff,aAC,Nat.zero_add,Nat.add_zero,Nat.reduceAdd,z7,u43]
       have d0:loadA g3 false 1 (.ptr g2.n 0)=some (.int .i64 (o.1:Int)):=c3.load 1 0
       have d1:loadA g3 false 1 (.ptr g2.n 1)=some (.str o.2.1):=c3.load 1 1
       -- how much is there, at most
       have hmax:C.length+((toR t r o).map (mkX ps (n0+k) bv)).length<1000000000:=by
        rw [← hC,← hB]
        simp only [List.length_append] at hbig ⊢
        omega
       -- behind the subjects
       have fini : ∀ (s':S) (g':H),Keep (Old g1.n) g1 g'→OutR h.n (s' 3) (C++(toR t r o).map (mkX ps (n0+k) bv)) g'→s' 0=w→s' 4 = .int .i64 ((n0+k:Nat):Int)→s' 5 = .int .i64 (j:Int)→s' 6 = .int .i64 (k:Int)→s' 7 = .ptr g.n 0→s' 8 = .int .i64 (m:Int) →
        (fun j' s g'=>(Keep (Old g1.n) g1 g'∧OutR h.n (s 3) (B++refK ps (n0+k) t r 0 (r.ops.take j')) g'∧s 0=w∧s 4 = .int .i64 ((n0+k:Nat):Int)∧s 5 = .int .i64 (j:Int)∧s 6 = .int .i64 (k:Int)∧s 7 = .ptr g.n 0)∧s 8 = .int .i64 (m:Int)) (m+1) s' g':=by
        intro s' g' k' o' y0 y4 y5 y6 y7 y8
        refine ⟨⟨k',?_,y0,y4,y5,y6,y7⟩,y8⟩
        rw [hTo,← List.append_assoc,hC];exact o'
       have kh13:Keep (Old g1.n) g1 g3:=kg2.trans (kk3.less kg2.n)
       -- the subjects
       have loop : ∀ (Q:Post),(∀ (s':S) (g':H),Keep (Old g1.n) g1 g'→OutR h.n (s' 3) (C++(toR t r o).map (mkX ps (n0+k) bv)) g'→s' 0=w→s' 4 = .int .i64 ((n0+k:Nat):Int)→s' 5 = .int .i64 (j:Int)→s' 6 = .int .i64 (k:Int)→s' 7 = .ptr g.n 0→s' 8 = .int .i64 (m:Int)→Q .normal s' g') →
        ∀ (s':S) (g':H) (xv:AV) (xs:List SubD),Keep (Old g3.n) g3 g'→OutR h.n (s' 3) C g'→(o.1=1∨o.1=3)→IsL 0 2 (fun _ cs x=>cs=subC x) hb xv xs→toR t r o=xs.flatMap (inP o)→xs.length<1000000→s' 11=xv→s' 10 = .ptr g2.n 0→s' 9 = .bool bv→s' 0=w→s' 4 = .int .i64 ((n0+k:Nat):Int)→s' 5 = .int .i64 (j:Int)→s' 6 = .int .i64 (k:Int)→s' 7 = .ptr g.n 0→s' 8 = .int .i64 (m:Int) →
        WS (EL LX) (.seq (.ops aBP) (.block 6 (.loop aCg))) [] Q s' g':=by
        intro Q hQ s' g' xv xs kg' ou' hkind ilx htr hxl y11 y10 y9 y0 y4 y5 y6 y7 y8
        rw [htr] at hmax hQ
        refine aAA (aAB ?_)
        simp only [aBP,go_sem,↓reduceIte,Nat.reduceEqDiff]
        refine aBZ (n:=xs.length) (i0:=0) (by omega) (fun q s g'=>Keep (Old g3.n) g3 g'∧OutR h.n (s 3) (C++((xs.take q).flatMap (inP o)).map (mkX ps (n0+k) bv)) g'∧s 11=xv∧s 10 = .ptr g2.n 0∧s 9 = .bool bv∧s 0=w∧s 4 = .int .i64 ((n0+k:Nat):Int)∧s 5 = .int .i64 (j:Int)∧s 6 = .int .i64 (k:Int)∧s 7 = .ptr g.n 0∧s 8 = .int .i64 (m:Int)) (by decide) ?_ rfl (Nat.zero_le _) ⟨kg',by rw [List.take_zero,List.flatMap_nil,List.map_nil,List.append_nil];exact ou',y11,y10,y9,y0,y4,y5,y6,y7,y8⟩ ?_ ?_ ?_
        · rintro q s g t v (rfl | rfl | rfl) ⟨a1,a2,a3,a4,a5,a6,a7,a8,a9,a10,a11⟩ <;> exact ⟨a1,a2,a3,a4,a5,a6,a7,a8,a9,a10,a11⟩
        · rintro q s g4 hq ⟨kg4,ou4,v11,v10,v9,v0,v4,v5,v6,v7,v8⟩ v12
          have d0':loadA g4 false 1 (.ptr g2.n 0)=some (.int .i64 (o.1:Int)):=(c3.keep kg4 (c3.lt wg3)).load 1 0
          refine aAB ?_
          by_cases hqn:q<xs.length
          · have hqn':(q:Int)<(xs.length:Int):=by omega
            rcases hkind with hk1 | hk3
            · have hk1':(o.1:Int)=1:=by omega
              simp only [aAv,go_sem,↓reduceIte,Nat.reduceEqDiff,aAC,Nat.zero_add,Nat.add_zero,Nat.reduceAdd,wanted,decide_true,decide_false,beq_self_eq_true,pickA,show (false==true)=false from rfl,show (true==false)=false from rfl,Bool.false_eq_true,undefA,Bool.not_true,Bool.not_false,v12,v11,v10,ilx.len,hqn',d0',hk1']
              exact ⟨⟨kg4,ou4,trivial,trivial,v9,v0,v4,v5,v6,v7,v8⟩,trivial,by simp [hqn]⟩
            · have hk1' : ¬ (o.1:Int)=1:=by omega
              have hk3':(o.1:Int)=3:=by omega
              simp only [aAv,go_sem,↓reduceIte,Nat.reduceEqDiff,aAC,Nat.zero_add,Nat.add_zero,Nat.reduceAdd,wanted,decide_true,decide_false,beq_self_eq_true,pickA,show (false==true)=false from rfl,show (true==false)=false from rfl,Bool.false_eq_true,undefA,Bool.not_true,Bool.not_false,v12,v11,v10,ilx.len,hqn',d0',hk3',show ¬ ((3:Int)=1) by decide]
              exact ⟨⟨kg4,ou4,trivial,trivial,v9,v0,v4,v5,v6,v7,v8⟩,trivial,by simp [hqn]⟩
          · have hqn' : ¬ (q:Int)<(xs.length:Int):=by omega
            simp only [aAv,go_sem,↓reduceIte,Nat.reduceEqDiff,aAC,Nat.zero_add,Nat.add_zero,Nat.reduceAdd,wanted,decide_true,decide_false,beq_self_eq_true,pickA,show (false==true)=false from rfl,show (true==false)=false from rfl,Bool.false_eq_true,undefA,Bool.not_true,Bool.not_false,v12,v11,v10,ilx.len,hqn']
            exact ⟨⟨kg4,ou4,trivial,trivial,v9,v0,v4,v5,v6,v7,v8⟩,trivial,by simp [hqn]⟩
        · rintro q s g4 hq ⟨kg4,ou4,v11,v10,v9,v0,v4,v5,v6,v7,v8⟩ v12
          have wg4:=kg4.wf wg3
          have kh4:Keep (Old h.n) h g4:=kh3.trans (kg4.less kh3.n)
          have c4:=c3.keep kg4 (c3.lt wg3)
          have d0':loadA g4 false 1 (.ptr g2.n 0)=some (.int .i64 (o.1:Int)):=c4.load 1 0
          have d2':loadA g4 false 1 (.ptr g2.n 2)=some (.str o.2.2):=c4.load 1 2
          obtain ⟨so,si,xcs,sa,slen,hxcs,xl⟩:=IsL.el ilx hq (by decide)
          subst hxcs
          have htk:(xs.take (q+1)).flatMap (inP o)=(xs.take q).flatMap (inP o)++inP o xs[q]:=by
           rw [List.take_add_one,List.getElem?_eq_getElem hq,List.flatMap_append];simp
          have hpre:((xs.take q).flatMap (inP o)).length+(inP o xs[q]).length≤(xs.flatMap (inP o)).length:=by
           rw [aTD (inP o) hq];simp only [List.length_append];omega
          rw [List.length_map] at hmax
          generalize xs[q]=x at xl htk hpre
          have xt : ∀ g',Keep (Old h.n) h g'→loadA g' false 1 (.ptr so si)=some (.str x.1):=fun g' k=>by have:=(xl g' (rkh g' k)).2 0 (by decide);rw [Nat.add_zero] at this;exact this
          have xr : ∀ g',Keep (Old h.n) h g'→loadA g' false 1 (.ptr so (si+1))=some (.str x.2):=fun g' k=>(xl g' (rkh g' k)).2 1 (by decide)
          have xt4:=xt g4 kh4
          have xr4:=xr g4 kh4
          rcases hkind with hk1 | hk3
          · have hk1':(o.1:Int)=1:=by omega
            refine aAA (aAA (aAB ?_))
            simp only [aD8,go_sem,↓reduceIte,Nat.reduceEqDiff,aAC,Nat.zero_add,Nat.add_zero,Nat.reduceAdd,wanted,decide_true,decide_false,beq_self_eq_true,pickA,show (false==true)=false from rfl,show (true==false)=false from rfl,Bool.false_eq_true,undefA,Bool.not_true,Bool.not_false,v12,v11,v10,d0',hk1',sa,xr4]
            refine aAD ?_
            -- the second test
            have last : ∀ (s':S) (g':H),Keep (Old g3.n) g3 g'→OutR h.n (s' 3) (C++((xs.take (q+1)).flatMap (inP o)).map (mkX ps (n0+k) bv)) g'→s' 11=xv→s' 10 = .ptr g2.n 0→s' 9 = .bool bv→s' 0=w→s' 4 = .int .i64 ((n0+k:Nat):Int)→s' 5 = .int .i64 (j:Int)→s' 6 = .int .i64 (k:Int)→s' 7 = .ptr g.n 0→s' 8 = .int .i64 (m:Int)→s' 12 = .int .i64 (q:Int) →
             WS (EL LX) (.seq (.ops aCh) (.cond (.tmp 144) (.draw aDb) .skip)) [] (roundP (EL LX) (fun j' s g'=>(Keep (Old g3.n) g3 g'∧OutR h.n (s 3) (C++((xs.take j').flatMap (inP o)).map (mkX ps (n0+k) bv)) g'∧s 11=xv∧s 10 = .ptr g2.n 0∧s 9 = .bool bv∧s 0=w∧s 4 = .int .i64 ((n0+k:Nat):Int)∧s 5 = .int .i64 (j:Int)∧s 6 = .int .i64 (k:Int)∧s 7 = .ptr g.n 0∧s 8 = .int .i64 (m:Int))∧s 12 = .int .i64 (q:Int)) q 6 7 [] Q) s' g':=by
             intro s' g' k' o' u11 u10 u9 u0 u4 u5 u6 u7 u8 u12
             have d0'':loadA g' false 1 (.ptr g2.n 0)=some (.int .i64 (o.1:Int)):=(c3.keep k' (c3.lt wg3)).load 1 0
             refine aAA (aAB ?_)
             simp only [aCh,go_sem,↓reduceIte,Nat.reduceEqDiff,aAC,Nat.zero_add,Nat.add_zero,Nat.reduceAdd,wanted,decide_true,decide_false,beq_self_eq_true,pickA,show (false==true)=false from rfl,show (true==false)=false from rfl,Bool.false_eq_true,undefA,Bool.not_true,Bool.not_false,u10,d0'',hk1',show ¬ ((1:Int)=3) by decide]
             refine aAD ?_
             simp only [go_sem,↓reduceIte,Nat.reduceEqDiff,Bool.false_eq_true]
             refine aAF ?_
             simp only [go_sem,↓reduceIte,Nat.reduceEqDiff]
             exact ⟨⟨k',o',u11,u10,u9,u0,u4,u5,u6,u7,u8⟩,u12⟩
            by_cases he:x.2 = []
            · have hin:inP o x = []:=by unfold inP;rw [if_pos hk1,if_pos he]
              simp only [go_sem,↓reduceIte,Nat.reduceEqDiff,he,decide_true,Bool.not_true,Bool.false_eq_true]
              refine aAF ?_
              simp only [go_sem,↓reduceIte,Nat.reduceEqDiff]
              exact last _ _ kg4 (by rw [htk,hin,List.append_nil];exact ou4) v11 v10 v9 v0 v4 v5 v6 v7 v8 v12
            · have hin:inP o x = [x]:=by unfold inP;rw [if_pos hk1,if_neg he]
              simp only [go_sem,↓reduceIte,Nat.reduceEqDiff,he,decide_false,Bool.not_false]
              refine aAS ?_
              simp only [aGV,go_sem,↓reduceIte,Nat.reduceEqDiff,aAC,Nat.zero_add,Nat.add_zero,Nat.reduceAdd,and_self,true_and,List.filter_cons,List.filter_nil,Nat.testBit,Nat.reduceShiftRight,Nat.reduceAnd,Nat.reduceBNe,Bool.not_false,Bool.not_true,Bool.false_eq_true,bne_self_eq_false,WV,v12,v11,v9,v4,v0,sa,xt4,xr4]
              refine (aNQ wg4 is (kb.trans (kh4.less kb.n)) sm hrm).mono ?_
              rintro _ g5 ⟨k5,rfl⟩
              have wg5:=k5.wf wg4
              simp only [go_sem,↓reduceIte,Nat.reduceEqDiff,aAC,Nat.zero_add,Nat.add_zero,Nat.reduceAdd,and_self,true_and,List.filter_cons,List.filter_nil,Nat.testBit,Nat.reduceShiftRight,Nat.reduceAnd,Nat.reduceBNe,Bool.not_false,Bool.not_true,Bool.false_eq_true,bne_self_eq_false,WV,aUb]
              rw [hnum x]
              refine (aRZ (x:=mkX ps (n0+k) bv x) wg5 (Nat.le_trans kh4.n k5.n) (ou4.keep k5) (by rw [List.length_append,List.length_map];omega)).mono ?_
              rintro _ g6 ⟨k6,v',rfl,ou6⟩
              simp only [go_sem,↓reduceIte,Nat.reduceEqDiff,aAC,Nat.zero_add,Nat.add_zero,Nat.reduceAdd,and_self,true_and,List.filter_cons,List.filter_nil,Nat.testBit,Nat.reduceShiftRight,Nat.reduceAnd,Nat.reduceBNe,Bool.not_false,Bool.not_true,Bool.false_eq_true,bne_self_eq_false,WV]
              refine last _ _ (kg4.trans ((k5.trans (k6.less k5.n)).less kg4.n)) ?_ v11 v10 v9 v0 v4 v5 v6 v7 v8 v12
              rw [htk,hin,List.map_append,← List.append_assoc];exact ou6
          · have hk1' : ¬ (o.1:Int)=1:=by omega
            have hk3':(o.1:Int)=3:=by omega
            refine aAA (aAA (aAB ?_))
            simp only [aD8,go_sem,↓reduceIte,Nat.reduceEqDiff,aAC,Nat.zero_add,Nat.add_zero,Nat.reduceAdd,wanted,decide_true,decide_false,beq_self_eq_true,pickA,show (false==true)=false from rfl,show (true==false)=false from rfl,Bool.false_eq_true,undefA,Bool.not_true,Bool.not_false,v12,v11,v10,d0',hk3',show ¬ ((3:Int)=1) by decide]
            refine aAD ?_
            simp only [go_sem,↓reduceIte,Nat.reduceEqDiff,Bool.false_eq_true]
            refine aAF ?_
            simp only [go_sem,↓reduceIte,Nat.reduceEqDiff]
            refine aAA (aAB ?_)
            simp only [aCh,go_sem,↓reduceIte,Nat.reduceEqDiff,aAC,Nat.zero_add,Nat.add_zero,Nat.reduceAdd,wanted,decide_true,decide_false,beq_self_eq_true,pickA,show (false==true)=false from rfl,show (true==false)=false from rfl,Bool.false_eq_true,undefA,Bool.not_true,Bool.not_false,v12,v11,v10,d0',hk3',sa,xr4]
            refine aAD ?_
            by_cases he:x.2 = []
            · have hin:inP o x = [(x.1,o.2.2)]:=by unfold inP;rw [if_neg (by omega),if_pos he]
              simp only [go_sem,↓reduceIte,Nat.reduceEqDiff,he,decide_true]
              refine aAS ?_
              simp only [aDb,go_sem,↓reduceIte,Nat.reduceEqDiff,aAC,Nat.zero_add,Nat.add_zero,Nat.reduceAdd,and_self,true_and,List.filter_cons,List.filter_nil,Nat.testBit,Nat.reduceShiftRight,Nat.reduceAnd,Nat.reduceBNe,Bool.not_false,Bool.not_true,Bool.false_eq_true,bne_self_eq_false,WV,v12,v11,v10,v9,v4,v0,sa,xt4,d2']
              refine (aNQ wg4 is (kb.trans (kh4.less kb.n)) sm hrm).mono ?_
              rintro _ g5 ⟨k5,rfl⟩
              have wg5:=k5.wf wg4
              simp only [go_sem,↓reduceIte,Nat.reduceEqDiff,aAC,Nat.zero_add,Nat.add_zero,Nat.reduceAdd,and_self,true_and,List.filter_cons,List.filter_nil,Nat.testBit,Nat.reduceShiftRight,Nat.reduceAnd,Nat.reduceBNe,Bool.not_false,Bool.not_true,Bool.false_eq_true,bne_self_eq_false,WV,aUb]
              rw [hnum (x.1,o.2.2)]
              refine (aRZ (x:=mkX ps (n0+k) bv (x.1,o.2.2)) wg5 (Nat.le_trans kh4.n k5.n) (ou4.keep k5) (by rw [List.length_append,List.length_map];omega)).mono ?_
              rintro _ g6 ⟨k6,v',rfl,ou6⟩
              simp only [go_sem,↓reduceIte,Nat.reduceEqDiff,aAC,Nat.zero_add,Nat.add_zero,Nat.reduceAdd,and_self,true_and,List.filter_cons,List.filter_nil,Nat.testBit,Nat.reduceShiftRight,Nat.reduceAnd,Nat.reduceBNe,Bool.not_false,Bool.not_true,Bool.false_eq_true,bne_self_eq_false,WV]
              refine ⟨⟨kg4.trans ((k5.trans (k6.less k5.n)).less kg4.n),?_,v11,v10,v9,v0,v4,v5,v6,v7,v8⟩,v12⟩
              rw [htk,hin,List.map_append,← List.append_assoc];exact ou6
            · have hin:inP o x = []:=by unfold inP;rw [if_neg (by omega),if_neg he]
              simp only [go_sem,↓reduceIte,Nat.reduceEqDiff,he,decide_false,Bool.false_eq_true]
              refine aAF ?_
              simp only [go_sem,↓reduceIte,Nat.reduceEqDiff]
              refine ⟨⟨kg4,?_,v11,v10,v9,v0,v4,v5,v6,v7,v8⟩,v12⟩
              rw [htk,hin,List.append_nil];exact ou4
        · rintro s g4 ⟨kg4,ou4,v11,v10,v9,v0,v4,v5,v6,v7,v8⟩
          simp only [go_sem,↓reduceIte,Nat.reduceEqDiff]
          rw [List.take_length] at ou4
          exact hQ _ _ (kh13.trans (kg4.less kh13.n)) ou4 v0 v4 v5 v6 v7 v8
       -- no subjects
       have noloop : ∀ (Q:Post),(∀ (s':S) (g':H),Keep (Old g1.n) g1 g'→OutR h.n (s' 3) (C++(toR t r o).map (mkX ps (n0+k) bv)) g'→s' 0=w→s' 4 = .int .i64 ((n0+k:Nat):Int)→s' 5 = .int .i64 (j:Int)→s' 6 = .int .i64 (k:Int)→s' 7 = .ptr g.n 0→s' 8 = .int .i64 (m:Int)→Q .normal s' g') →
        ∀ (s':S) (g':H),Keep (Old g3.n) g3 g'→OutR h.n (s' 3) (C++(toR t r o).map (mkX ps (n0+k) bv)) g' → ¬ o.1=1 → ¬ o.1=3→s' 11=sv→s' 10 = .ptr g2.n 0→s' 0=w→s' 4 = .int .i64 ((n0+k:Nat):Int)→s' 5 = .int .i64 (j:Int)→s' 6 = .int .i64 (k:Int)→s' 7 = .ptr g.n 0→s' 8 = .int .i64 (m:Int) →
        WS (EL LX) (.seq (.ops aBP) (.block 6 (.loop aCg))) [] Q s' g':=by
        intro Q hQ s' g' kg' ou' hk1 hk3 y11 y10 y0 y4 y5 y6 y7 y8
        have d0':loadA g' false 1 (.ptr g2.n 0)=some (.int .i64 (o.1:Int)):=(c3.keep kg' (c3.lt wg3)).load 1 0
        have hk1' : ¬ (o.1:Int)=1:=by omega
        have hk3' : ¬ (o.1:Int)=3:=by omega
        refine aAA (aAB ?_)
        simp only [aBP,go_sem,↓reduceIte,Nat.reduceEqDiff]
        refine aAG (aSf ?_)
        show WS (EL LX) aCg _ _ _ _
        refine aAA (aAA (aAB ?_))
        by_cases hqn:0<r.subs.length
        · have hqn':(0:Int)<(r.subs.length:Int):=by omega
          simp only [aAv,go_sem,↓reduceIte,Nat.reduceEqDiff,aAC,Nat.zero_add,Nat.add_zero,Nat.reduceAdd,wanted,decide_true,decide_false,beq_self_eq_true,pickA,show (false==true)=false from rfl,show (true==false)=false from rfl,Bool.false_eq_true,undefA,Bool.not_true,Bool.not_false,y11,y10,sls.len,hqn',d0',hk1',hk3']
          refine aAD ?_
          simp only [go_sem,↓reduceIte,Nat.reduceEqDiff,Bool.false_eq_true]
          refine aAK ?_
          simp only [go_sem,↓reduceIte,Nat.reduceEqDiff]
          exact hQ _ _ (kh13.trans (kg'.less kh13.n)) ou' y0 y4 y5 y6 y7 y8
        · have hqn' : ¬ (0:Int)<(r.subs.length:Int):=by omega
          simp only [aAv,go_sem,↓reduceIte,Nat.reduceEqDiff,aAC,Nat.zero_add,Nat.add_zero,Nat.reduceAdd,wanted,decide_true,decide_false,beq_self_eq_true,pickA,show (false==true)=false from rfl,show (true==false)=false from rfl,Bool.false_eq_true,undefA,Bool.not_true,Bool.not_false,y11,sls.len,hqn']
          refine aAD ?_
          simp only [go_sem,↓reduceIte,Nat.reduceEqDiff,Bool.false_eq_true]
          refine aAK ?_
          simp only [go_sem,↓reduceIte,Nat.reduceEqDiff]
          exact hQ _ _ (kh13.trans (kg'.less kh13.n)) ou' y0 y4 y5 y6 y7 y8
       have d0i:=d0
       refine aAA (aAA (aAB ?_))
       simp only [aG7,go_sem,↓reduceIte,Nat.reduceEqDiff,aAC,Nat.zero_add,Nat.add_zero,Nat.reduceAdd,d0]
       refine aAD ?_
       by_cases hk2:o.1=2
       · have hk2':(o.1:Int)=2:=by omega
         have htr:toR t r o = [(t.name,o.2.1)]:=by unfold toR;rw [if_neg (by omega),if_pos hk2]
         simp only [go_sem,↓reduceIte,Nat.reduceEqDiff,hk2',decide_true]
         refine aAS ?_
         simp only [aGa,go_sem,↓reduceIte,Nat.reduceEqDiff,aAC,Nat.zero_add,Nat.add_zero,Nat.reduceAdd,and_self,true_and,List.filter_cons,List.filter_nil,Nat.testBit,Nat.reduceShiftRight,Nat.reduceAnd,Nat.reduceBNe,Bool.not_false,Bool.not_true,Bool.false_eq_true,bne_self_eq_false,WV,z4,z5,z0,ta,tname g3 kh3,d1]
         refine (aNQ wg3 is (kb.trans (kh3.less kb.n)) sm hrm).mono ?_
         rintro _ g5 ⟨k5,rfl⟩
         have wg5:=k5.wf wg3
         simp only [go_sem,↓reduceIte,Nat.reduceEqDiff,aAC,Nat.zero_add,Nat.add_zero,Nat.reduceAdd,and_self,true_and,List.filter_cons,List.filter_nil,Nat.testBit,Nat.reduceShiftRight,Nat.reduceAnd,Nat.reduceBNe,Bool.not_false,Bool.not_true,Bool.false_eq_true,bne_self_eq_false,WV,aUb]
         rw [hnum (t.name,o.2.1)]
         rw [htr] at hmax
         refine (aRZ (x:=mkX ps (n0+k) bv (t.name,o.2.1)) wg5 (Nat.le_trans kh3.n k5.n) (ou3.keep k5) (by simp at hmax;omega)).mono ?_
         rintro _ g6 ⟨k6,v',rfl,ou6⟩
         have k36:Keep (Old g3.n) g3 g6:=k5.trans (k6.less k5.n)
         have d0':loadA g6 false 1 (.ptr g2.n 0)=some (.int .i64 (o.1:Int)):=(c3.keep k36 (c3.lt wg3)).load 1 0
         simp only [go_sem,↓reduceIte,Nat.reduceEqDiff,aAC,Nat.zero_add,Nat.add_zero,Nat.reduceAdd,and_self,true_and,List.filter_cons,List.filter_nil,Nat.testBit,Nat.reduceShiftRight,Nat.reduceAnd,Nat.reduceBNe,Bool.not_false,Bool.not_true,Bool.false_eq_true,bne_self_eq_false,WV]
         refine aAA (aAA (aAB ?_))
         simp only [aDd,go_sem,↓reduceIte,Nat.reduceEqDiff,aAC,Nat.zero_add,Nat.add_zero,Nat.reduceAdd,d0',hk2',show ¬ ((2:Int)=3) by decide,decide_false]
         refine aAD ?_
         simp only [go_sem,↓reduceIte,Nat.reduceEqDiff,Bool.false_eq_true]
         refine aAF ?_
         simp only [go_sem,↓reduceIte,Nat.reduceEqDiff]
         refine noloop _ (fun s' g' a1 a2 a3 a4 a5 a6 a7 a8 => ?_) _ _ k36 ?_ (by omega) (by omega) rfl rfl z0 z4 z5 z6 z7 z8
         · simp only [go_sem,↓reduceIte,Nat.reduceEqDiff];exact fini s' g' a1 a2 a3 a4 a5 a6 a7 a8
         · rw [htr];exact ou6
       have hk2' : ¬ (o.1:Int)=2:=by omega
       simp only [go_sem,↓reduceIte,Nat.reduceEqDiff,hk2',decide_false,Bool.false_eq_true]
       refine aAF ?_
       simp only [go_sem,↓reduceIte,Nat.reduceEqDiff]
       refine aAA (aAA (aAB ?_))
       simp only [aDd,go_sem,↓reduceIte,Nat.reduceEqDiff,aAC,Nat.zero_add,Nat.add_zero,Nat.reduceAdd,d0]
       refine aAD ?_
       by_cases hk3:o.1=3
       · have hk3':(o.1:Int)=3:=by omega
         obtain ⟨kk,hkk⟩:=hthm hk3
         have hkl:kk<t.rels.length:=by
          obtain ⟨r',h1,_⟩:=aPJ hkk
          exact (List.getElem?_eq_some_iff.1 h1).1
         have hso:subsOf t o.2.1=t.rels[kk].subs:=by
          unfold subsOf;rw [hkk]
          simp only [List.getD_eq_getElem?_getD,List.getElem?_eq_getElem hkl];rfl
         obtain ⟨ro2,ri2,rcs2,ra2,rlen2,ir2,rl2⟩:=IsL.el il hkl (by decide)
         have hsl2:=(smt.2.2 _ (List.getElem_mem hkl)).2.1
         generalize t.rels[kk]=r2 at hso ir2 hsl2
         obtain ⟨sv2,ov2,rfl,⟨sls2,srd2⟩,_⟩:=ir2
         have ilx2:IsL 0 2 (fun _ cs x=>cs=subC x) hb sv2 r2.subs:=IsL.of_flat aHA sls2 srd2
         simp only [go_sem,↓reduceIte,Nat.reduceEqDiff,hk3',decide_true]
         refine aAS ?_
         simp only [aGW,go_sem,↓reduceIte,Nat.reduceEqDiff,aAC,Nat.zero_add,Nat.add_zero,Nat.reduceAdd,and_self,true_and,List.filter_cons,List.filter_nil,Nat.testBit,Nat.reduceShiftRight,Nat.reduceAnd,Nat.reduceBNe,Bool.not_false,Bool.not_true,Bool.false_eq_true,bne_self_eq_false,WV,z0,z5,ta,trels g3 kh3,tagg g3 kh3,d1]
         refine (aSe wg3 hit (kb.trans (kh3.less kb.n)) smt).mono ?_
         rintro _ g5 ⟨k5,rfl⟩
         have kh5:Keep (Old h.n) h g5:=kh3.trans (k5.less kh3.n)
         have d1':loadA g5 false 1 (.ptr g2.n 1)=some (.str o.2.1):=(c3.keep k5 (c3.lt wg3)).load 1 1
         have rl5:=(rl2 g5 (rkh g5 kh5)).2 4 (by decide)
         rw [hkk]
         simp only [go_sem,↓reduceIte,Nat.reduceEqDiff,aAC,Nat.zero_add,Nat.add_zero,Nat.reduceAdd,and_self,true_and,List.filter_cons,List.filter_nil,Nat.testBit,Nat.reduceShiftRight,Nat.reduceAnd,Nat.reduceBNe,Bool.not_false,Bool.not_true,Bool.false_eq_true,bne_self_eq_false,WV,optI,ra2,rl5,a0Z,trels g5 kh5,tagg g5 kh5,d1']
         refine loop _ (fun s' g' a1 a2 a3 a4 a5 a6 a7 a8 => ?_) _ _ sv2 r2.subs k5 (ou3.keep k5) (.inr hk3) ilx2 ?_ hsl2 rfl rfl rfl z0 z4 z5 z6 z7 z8
         · simp only [go_sem,↓reduceIte,Nat.reduceEqDiff];exact fini s' g' a1 a2 a3 a4 a5 a6 a7 a8
         · rw [toR_in t r o (.inr hk3)];unfold srcP;rw [if_pos hk3,hso]
       have hk3' : ¬ (o.1:Int)=3:=by omega
       simp only [go_sem,↓reduceIte,Nat.reduceEqDiff,hk3',decide_false,Bool.false_eq_true]
       refine aAF ?_
       simp only [go_sem,↓reduceIte,Nat.reduceEqDiff]
       by_cases hk1:o.1=1
       · refine loop _ (fun s' g' a1 a2 a3 a4 a5 a6 a7 a8 => ?_) _ _ sv r.subs (Keep.refl _ _) ou3 (.inl hk1) ilsr ?_ smr.2.1 rfl rfl rfl z0 z4 z5 z6 z7 z8
         · simp only [go_sem,↓reduceIte,Nat.reduceEqDiff];exact fini s' g' a1 a2 a3 a4 a5 a6 a7 a8
         · rw [toR_in t r o (.inl hk1)];unfold srcP;rw [if_neg hk3]
       · have htr:toR t r o = []:=by unfold toR;rw [if_neg hk1,if_neg hk2,if_neg hk3]
         refine noloop _ (fun s' g' a1 a2 a3 a4 a5 a6 a7 a8 => ?_) _ _ (Keep.refl _ _) ?_ hk1 hk3 rfl rfl z0 z4 z5 z6 z7 z8
         · simp only [go_sem,↓reduceIte,Nat.reduceEqDiff];exact fini s' g' a1 a2 a3 a4 a5 a6 a7 a8
         · rw [htr,List.map_nil,List.append_nil];exact ou3
     · rintro s g2 ⟨kg2,ou2,z0,z4,z5,z6,z7⟩
       simp only [go_sem,↓reduceIte,Nat.reduceEqDiff]
       have a1:IntKind.i64.wrap (((n0+k:Nat):Int)+1)=((n0+(k+1):Nat):Int):=wrapI (n:=n0+(k+1)) (by omega)
       have kh1:Keep (Old h.n) h g1:=kg.trans (kk1.less kg.n)
       refine aAB ?_
       simp only [aGP,go_sem,↓reduceIte,Nat.reduceEqDiff,z4,a1]
       rw [List.take_length] at ou2
       refine ⟨⟨kh1.trans (kg2.less kh1.n),?_,z0,trivial,z5⟩,z6⟩
       rw [hTr,← List.append_assoc,hB];exact ou2
   · rintro s g ⟨kg,ou,z0,z4,z5⟩
     simp only [go_sem,↓reduceIte,Nat.reduceEqDiff]
     rw [List.take_length] at ou
     refine ⟨⟨kg,?_,z0,?_⟩,z5⟩
     · rw [hTt];exact ou
     · rw [hrt];exact z4
 · rintro s g ⟨kg,ou,z0,z4⟩
   simp only [go_sem,↓reduceIte,Nat.reduceEqDiff]
   refine aAA (aAB ?_)
   simp only [aGT,go_sem,↓reduceIte,Nat.reduceEqDiff]
   refine aAE ?_
   simp only [aE2,go_sem,↓reduceIte,Nat.reduceEqDiff]
   rw [List.take_length] at ou
   rw [hrp]
   exact ⟨kg,_,rfl,ou.1,ou.2⟩
end Go.Proofs.YtdbmeidhlijopaaGreatDoor.Ev.C

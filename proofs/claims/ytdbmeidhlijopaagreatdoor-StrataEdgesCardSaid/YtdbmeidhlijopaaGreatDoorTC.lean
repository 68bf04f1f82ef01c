/- Which element is the first of a kind: slices.IndexFunc, ContainsFunc, Index, Contains over a schema's parts. -/
import Derived.Test.YtdbmeidhlijopaaGreatDoorTT2
namespace Go.Proofs.YtdbmeidhlijopaaGreatDoor.Ev.C
open Go Go.Proofs.YtdbmeidhlijopaaGreatDoor.Ev
set_option linter.unusedSimpArgs false
set_option linter.unusedVariables false
/-- where the first such element stands; below 0: nowhere -/
def ixF {α:Type} (p:α→Bool):List α→Nat→Int
 | [],_ => -1
 | x::r,j=>if p x=true then (j:Int) else ixF p r (j+1)
theorem aPM {α:Type} (p:α→Bool) : ∀ (l:List α) (j:Nat),(ixF p l j = -1∧l.find? p=none∧l.any p=false) ∨ ∃ (i:Nat) (hi:i<l.length),ixF p l j=((j+i:Nat):Int)∧l.find? p=some l[i]∧l.any p=true
 | [],j => .inl ⟨rfl,rfl,rfl⟩
 | x::r,j=>by
  by_cases h:p x=true
  · right
    exact ⟨0,by simp,by simp [ixF,h],by simp [h],by simp [h]⟩
  · have h':p x=false:=by simpa using h
    rcases aPM p r (j+1) with ⟨h1,h2,h3⟩ | ⟨i,hi,h1,h2,h3⟩
    · left;exact ⟨by simp only [ixF,if_neg h,h1],by simp [List.find?_cons,h',h2],by simp [h',h3]⟩
    · right
      refine ⟨i+1,by simp;omega,?_,by simp [List.find?_cons,h',h2],by simp [h',h3]⟩
      simp only [ixF,if_neg h,h1];congr 1;omega
theorem aUg {α:Type} (p:α→Bool) (l:List α):decide (0≤ixF p l 0)=l.any p:=by
 rcases aPM p l 0 with ⟨h1,h2,h3⟩ | ⟨i,hi,h1,h2,h3⟩
 · rw [h1,h3];rfl
 · rw [h1,h3];simp
theorem idxf_T {α:Type} {P:H→List AV→α→Prop} {h:H} {v:AV} {l:List α} (a:IsL 0 2 P h v l) (hP : ∀ h g cs x,RK (Apart [] h) h g→P h cs x→P g cs x) {f:Nat} {caps:List AV} (p:α→Bool)
 (hf : ∀ g cs x,Keep (Old h.n) h g→P g cs x→cs.length=2→WCall (EL LX) f (.agg cs::caps) g (fun r g'=>Keep (Old g.n) g g'∧r = .val (.bool (p x)))) (hl:l.length<1000000000) :
 WCall (EL LX) aAr [v,.func f caps] h fun r g=>Keep (Old h.n) h g∧r = .val (.int .i64 (ixF p l 0)):=by
 have hlen:=a.len
 refine aAI ((EL_ov _ _).trans rfl) (EL_T aEW) (by simp [aA8]) ?_
 refine aAA (aAB ?_)
 simp only [aBm,go_sem,↓reduceIte,Nat.reduceEqDiff,enterS,List.getD_cons_zero,List.getD_cons_succ]
 refine aAA (aAA (aAB ?_))
 simp only [aBl,go_sem,↓reduceIte,Nat.reduceEqDiff,enterS,List.getD_cons_zero,List.getD_cons_succ,hlen]
 refine aAG (aAP (fun m z g=>Keep (Old h.n) h g ∧ ∃ j,m=l.length - j∧j≤l.length∧ixF p l 0=ixF p (l.drop j) j∧z 0=v∧z 1 = .func f caps∧z 7 = .int .i64 (l.length:Int)∧z 8 = .int .i64 (j:Int)) ?_ l.length ?_)
 case refine_2=>exact ⟨Keep.refl _ _,0,rfl,Nat.zero_le _,rfl,rfl,rfl,rfl,rfl⟩
 rintro m z g ⟨kg,j,rfl,hj,hx,z0,z1,z7,z8⟩
 show WS (EL LX) aBi _ _ _ _
 refine aAA (aAB ?_)
 simp only [aBt,go_sem,↓reduceIte,Nat.reduceEqDiff,z7,z8]
 refine aAA (aAD ?_)
 simp only [go_sem,↓reduceIte,Nat.reduceEqDiff]
 by_cases hjl:j<l.length
 case neg =>
  have hjl' : ¬ (j:Int)<(l.length:Int):=by omega
  simp only [hjl',decide_false,go_sem,↓reduceIte,Nat.reduceEqDiff,Bool.false_eq_true]
  refine aAK ?_
  simp only [go_sem,↓reduceIte,Nat.reduceEqDiff]
  refine aAA (aAB ?_)
  simp only [aBn,go_sem,↓reduceIte,Nat.reduceEqDiff]
  refine aAE ?_
  simp only [go_sem,aA8,List.map_cons,List.map_nil,go_sem,↓reduceIte,Nat.reduceEqDiff]
  rw [List.drop_eq_nil_of_le (by omega)] at hx
  rw [hx]
  exact ⟨kg,rfl⟩
 have hjl':(j:Int)<(l.length:Int):=by omega
 simp only [hjl',decide_true,go_sem,↓reduceIte,Nat.reduceEqDiff]
 refine aAF ?_
 simp only [go_sem]
 have ag:IsL 0 2 P g v l:=a.rk (gs := []) (by simp) (kg.rk.apart) fun cs x q=>hP h g cs x kg.rk.apart q
 obtain ⟨o,i,cs,e1,e2,e3,e4,e5⟩:=ag.at hjl (by decide) .i64
 refine aAA (aAG (aAA (aAB ?_)))
 simp only [aBf,go_sem,↓reduceIte,Nat.reduceEqDiff,z8]
 refine aAA (aAB ?_)
 simp only [aBc,go_sem,↓reduceIte,Nat.reduceEqDiff,z0,z1,e1,e5,WFn,List.cons_append,List.nil_append]
 refine (hf g cs _ kg e3 e2).mono ?_
 rintro _ g' ⟨kg',rfl⟩
 simp only [go_sem,↓reduceIte,Nat.reduceEqDiff]
 refine aAD ?_
 simp only [go_sem,↓reduceIte,Nat.reduceEqDiff]
 rw [List.drop_eq_getElem_cons hjl] at hx
 simp only [ixF] at hx
 by_cases hp:p l[j]=true
 · rw [if_pos hp] at hx
   simp only [hp,go_sem,↓reduceIte,Nat.reduceEqDiff]
   refine aAA (aAB ?_)
   simp only [aBu,go_sem,↓reduceIte,Nat.reduceEqDiff]
   refine aAE ?_
   simp only [go_sem,aA8,List.map_cons,List.map_nil,go_sem,↓reduceIte,Nat.reduceEqDiff]
   rw [hx]
   exact ⟨kg.trans (kg'.less kg.n),rfl⟩
 · rw [if_neg hp] at hx
   have hp':p l[j]=false:=by simpa using hp
   simp only [hp',go_sem,↓reduceIte,Nat.reduceEqDiff,Bool.false_eq_true]
   refine aAF ?_
   simp only [go_sem]
   have a1:IntKind.i64.wrap ((j:Int)+1)=((j+1:Nat):Int):=wrapI (n:=j+1) (by omega)
   refine aAB ?_
   simp only [aBd,go_sem,↓reduceIte,Nat.reduceEqDiff,z8,a1]
   exact ⟨l.length - (j+1),by omega,kg.trans (kg'.less kg.n),j+1,rfl,by omega,hx,z0,z1,z7,rfl⟩
theorem idxf_R {α:Type} {P:H→List AV→α→Prop} {h:H} {v:AV} {l:List α} (a:IsL 0 6 P h v l) (hP : ∀ h g cs x,RK (Apart [] h) h g→P h cs x→P g cs x) {f:Nat} {caps:List AV} (p:α→Bool)
 (hf : ∀ g cs x,Keep (Old h.n) h g→P g cs x→cs.length=6→WCall (EL LX) f (.agg cs::caps) g (fun r g'=>Keep (Old g.n) g g'∧r = .val (.bool (p x)))) (hl:l.length<1000000000) :
 WCall (EL LX) aAa [v,.func f caps] h fun r g=>Keep (Old h.n) h g∧r = .val (.int .i64 (ixF p l 0)):=by
 have hlen:=a.len
 refine aAI ((EL_ov _ _).trans rfl) (EL_T aFH) (by simp [aAd]) ?_
 refine aAA (aAB ?_)
 simp only [aCB,go_sem,↓reduceIte,Nat.reduceEqDiff,enterS,List.getD_cons_zero,List.getD_cons_succ]
 refine aAA (aAA (aAB ?_))
 simp only [aCI,go_sem,↓reduceIte,Nat.reduceEqDiff,enterS,List.getD_cons_zero,List.getD_cons_succ,hlen]
 refine aAG (aAP (fun m z g=>Keep (Old h.n) h g ∧ ∃ j,m=l.length - j∧j≤l.length∧ixF p l 0=ixF p (l.drop j) j∧z 0=v∧z 1 = .func f caps∧z 7 = .int .i64 (l.length:Int)∧z 8 = .int .i64 (j:Int)) ?_ l.length ?_)
 case refine_2=>exact ⟨Keep.refl _ _,0,rfl,Nat.zero_le _,rfl,rfl,rfl,rfl,rfl⟩
 rintro m z g ⟨kg,j,rfl,hj,hx,z0,z1,z7,z8⟩
 show WS (EL LX) aCM _ _ _ _
 refine aAA (aAB ?_)
 simp only [aCF,go_sem,↓reduceIte,Nat.reduceEqDiff,z7,z8]
 refine aAA (aAD ?_)
 simp only [go_sem,↓reduceIte,Nat.reduceEqDiff]
 by_cases hjl:j<l.length
 case neg =>
  have hjl' : ¬ (j:Int)<(l.length:Int):=by omega
  simp only [hjl',decide_false,go_sem,↓reduceIte,Nat.reduceEqDiff,Bool.false_eq_true]
  refine aAK ?_
  simp only [go_sem,↓reduceIte,Nat.reduceEqDiff]
  refine aAA (aAB ?_)
  simp only [aCO,go_sem,↓reduceIte,Nat.reduceEqDiff]
  refine aAE ?_
  simp only [go_sem,aAd,List.map_cons,List.map_nil,go_sem,↓reduceIte,Nat.reduceEqDiff]
  rw [List.drop_eq_nil_of_le (by omega)] at hx
  rw [hx]
  exact ⟨kg,rfl⟩
 have hjl':(j:Int)<(l.length:Int):=by omega
 simp only [hjl',decide_true,go_sem,↓reduceIte,Nat.reduceEqDiff]
 refine aAF ?_
 simp only [go_sem]
 have ag:IsL 0 6 P g v l:=a.rk (gs := []) (by simp) (kg.rk.apart) fun cs x q=>hP h g cs x kg.rk.apart q
 obtain ⟨o,i,cs,e1,e2,e3,e4,e5⟩:=ag.at hjl (by decide) .i64
 refine aAA (aAG (aAA (aAB ?_)))
 simp only [aCG,go_sem,↓reduceIte,Nat.reduceEqDiff,z8]
 refine aAA (aAB ?_)
 simp only [aCD,go_sem,↓reduceIte,Nat.reduceEqDiff,z0,z1,e1,e5,WFn,List.cons_append,List.nil_append]
 refine (hf g cs _ kg e3 e2).mono ?_
 rintro _ g' ⟨kg',rfl⟩
 simp only [go_sem,↓reduceIte,Nat.reduceEqDiff]
 refine aAD ?_
 simp only [go_sem,↓reduceIte,Nat.reduceEqDiff]
 rw [List.drop_eq_getElem_cons hjl] at hx
 simp only [ixF] at hx
 by_cases hp:p l[j]=true
 · rw [if_pos hp] at hx
   simp only [hp,go_sem,↓reduceIte,Nat.reduceEqDiff]
   refine aAA (aAB ?_)
   simp only [aCP,go_sem,↓reduceIte,Nat.reduceEqDiff]
   refine aAE ?_
   simp only [go_sem,aAd,List.map_cons,List.map_nil,go_sem,↓reduceIte,Nat.reduceEqDiff]
   rw [hx]
   exact ⟨kg.trans (kg'.less kg.n),rfl⟩
 · rw [if_neg hp] at hx
   have hp':p l[j]=false:=by simpa using hp
   simp only [hp',go_sem,↓reduceIte,Nat.reduceEqDiff,Bool.false_eq_true]
   refine aAF ?_
   simp only [go_sem]
   have a1:IntKind.i64.wrap ((j:Int)+1)=((j+1:Nat):Int):=wrapI (n:=j+1) (by omega)
   refine aAB ?_
   simp only [aCN,go_sem,↓reduceIte,Nat.reduceEqDiff,z8,a1]
   exact ⟨l.length - (j+1),by omega,kg.trans (kg'.less kg.n),j+1,rfl,by omega,hx,z0,z1,z7,rfl⟩
theorem idxf_S {α:Type} {P:H→List AV→α→Prop} {h:H} {v:AV} {l:List α} (a:IsL 0 2 P h v l) (hP : ∀ h g cs x,RK (Apart [] h) h g→P h cs x→P g cs x) {f:Nat} {caps:List AV} (p:α→Bool)
 (hf : ∀ g cs x,Keep (Old h.n) h g→P g cs x→cs.length=2→WCall (EL LX) f (.agg cs::caps) g (fun r g'=>Keep (Old g.n) g g'∧r = .val (.bool (p x)))) (hl:l.length<1000000000) :
 WCall (EL LX) aBA [v,.func f caps] h fun r g=>Keep (Old h.n) h g∧r = .val (.int .i64 (ixF p l 0)):=by
 have hlen:=a.len
 refine aAI ((EL_ov _ _).trans rfl) (EL_T aFF) (by simp [aAb]) ?_
 refine aAA (aAB ?_)
 simp only [aCK,go_sem,↓reduceIte,Nat.reduceEqDiff,enterS,List.getD_cons_zero,List.getD_cons_succ]
 refine aAA (aAA (aAB ?_))
 simp only [aCQ,go_sem,↓reduceIte,Nat.reduceEqDiff,enterS,List.getD_cons_zero,List.getD_cons_succ,hlen]
 refine aAG (aAP (fun m z g=>Keep (Old h.n) h g ∧ ∃ j,m=l.length - j∧j≤l.length∧ixF p l 0=ixF p (l.drop j) j∧z 0=v∧z 1 = .func f caps∧z 7 = .int .i64 (l.length:Int)∧z 8 = .int .i64 (j:Int)) ?_ l.length ?_)
 case refine_2=>exact ⟨Keep.refl _ _,0,rfl,Nat.zero_le _,rfl,rfl,rfl,rfl,rfl⟩
 rintro m z g ⟨kg,j,rfl,hj,hx,z0,z1,z7,z8⟩
 show WS (EL LX) aCH _ _ _ _
 refine aAA (aAB ?_)
 simp only [aCA,go_sem,↓reduceIte,Nat.reduceEqDiff,z7,z8]
 refine aAA (aAD ?_)
 simp only [go_sem,↓reduceIte,Nat.reduceEqDiff]
 by_cases hjl:j<l.length
 case neg =>
  have hjl' : ¬ (j:Int)<(l.length:Int):=by omega
  simp only [hjl',decide_false,go_sem,↓reduceIte,Nat.reduceEqDiff,Bool.false_eq_true]
  refine aAK ?_
  simp only [go_sem,↓reduceIte,Nat.reduceEqDiff]
  refine aAA (aAB ?_)
  simp only [aCL,go_sem,↓reduceIte,Nat.reduceEqDiff]
  refine aAE ?_
  simp only [go_sem,aAb,List.map_cons,List.map_nil,go_sem,↓reduceIte,Nat.reduceEqDiff]
  rw [List.drop_eq_nil_of_le (by omega)] at hx
  rw [hx]
  exact ⟨kg,rfl⟩
 have hjl':(j:Int)<(l.length:Int):=by omega
 simp only [hjl',decide_true,go_sem,↓reduceIte,Nat.reduceEqDiff]
 refine aAF ?_
 simp only [go_sem]
 have ag:IsL 0 2 P g v l:=a.rk (gs := []) (by simp) (kg.rk.apart) fun cs x q=>hP h g cs x kg.rk.apart q
 obtain ⟨o,i,cs,e1,e2,e3,e4,e5⟩:=ag.at hjl (by decide) .i64
 refine aAA (aAG (aAA (aAB ?_)))
 simp only [aCJ,go_sem,↓reduceIte,Nat.reduceEqDiff,z8]
 refine aAA (aAB ?_)
 simp only [aCR,go_sem,↓reduceIte,Nat.reduceEqDiff,z0,z1,e1,e5,WFn,List.cons_append,List.nil_append]
 refine (hf g cs _ kg e3 e2).mono ?_
 rintro _ g' ⟨kg',rfl⟩
 simp only [go_sem,↓reduceIte,Nat.reduceEqDiff]
 refine aAD ?_
 simp only [go_sem,↓reduceIte,Nat.reduceEqDiff]
 rw [List.drop_eq_getElem_cons hjl] at hx
 simp only [ixF] at hx
 by_cases hp:p l[j]=true
 · rw [if_pos hp] at hx
   simp only [hp,go_sem,↓reduceIte,Nat.reduceEqDiff]
   refine aAA (aAB ?_)
   simp only [aBz,go_sem,↓reduceIte,Nat.reduceEqDiff]
   refine aAE ?_
   simp only [go_sem,aAb,List.map_cons,List.map_nil,go_sem,↓reduceIte,Nat.reduceEqDiff]
   rw [hx]
   exact ⟨kg.trans (kg'.less kg.n),rfl⟩
 · rw [if_neg hp] at hx
   have hp':p l[j]=false:=by simpa using hp
   simp only [hp',go_sem,↓reduceIte,Nat.reduceEqDiff,Bool.false_eq_true]
   refine aAF ?_
   simp only [go_sem]
   have a1:IntKind.i64.wrap ((j:Int)+1)=((j+1:Nat):Int):=wrapI (n:=j+1) (by omega)
   refine aAB ?_
   simp only [aCE,go_sem,↓reduceIte,Nat.reduceEqDiff,z8,a1]
   exact ⟨l.length - (j+1),by omega,kg.trans (kg'.less kg.n),j+1,rfl,by omega,hx,z0,z1,z7,rfl⟩
theorem a3D {α:Type} {P:H→List AV→α→Prop} {h:H} {v:AV} {l:List α} (a:IsL 0 6 P h v l) (hP : ∀ h g cs x,RK (Apart [] h) h g→P h cs x→P g cs x) {f:Nat} {caps:List AV} (p:α→Bool)
 (hf : ∀ g cs x,Keep (Old h.n) h g→P g cs x→cs.length=6→WCall (EL LX) f (.agg cs::caps) g (fun r g'=>Keep (Old g.n) g g'∧r = .val (.bool (p x)))) (hl:l.length<1000000000) :
 WCall (EL LX) aAo [v,.func f caps] h fun r g=>Keep (Old h.n) h g∧r = .val (.bool (l.any p)):=by
 refine aAI ((EL_ov _ _).trans rfl) (EL_T aDz) (by simp [aAn]) ?_
 refine aAA (aAB ?_)
 simp only [aB1,go_sem,↓reduceIte,Nat.reduceEqDiff,enterS,List.getD_cons_zero,List.getD_cons_succ]
 refine aAA (aAB ?_)
 simp only [aB0,go_sem,↓reduceIte,Nat.reduceEqDiff,enterS,List.getD_cons_zero,List.getD_cons_succ]
 refine (idxf_R a hP p hf hl).mono ?_
 rintro _ g ⟨kg,rfl⟩
 simp only [go_sem,↓reduceIte,Nat.reduceEqDiff]
 refine aAE ?_
 simp only [go_sem,aAn,List.map_cons,List.map_nil,go_sem,↓reduceIte,Nat.reduceEqDiff]
 exact ⟨kg,by rw [aUg]⟩
theorem a1z {α:Type} {P:H→List AV→α→Prop} {h:H} {v:AV} {l:List α} (a:IsL 0 2 P h v l) (hP : ∀ h g cs x,RK (Apart [] h) h g→P h cs x→P g cs x) {f:Nat} {caps:List AV} (p:α→Bool)
 (hf : ∀ g cs x,Keep (Old h.n) h g→P g cs x→cs.length=2→WCall (EL LX) f (.agg cs::caps) g (fun r g'=>Keep (Old g.n) g g'∧r = .val (.bool (p x)))) (hl:l.length<1000000000) :
 WCall (EL LX) aAp [v,.func f caps] h fun r g=>Keep (Old h.n) h g∧r = .val (.bool (l.any p)):=by
 refine aAI ((EL_ov _ _).trans rfl) (EL_T aDx) (by simp [aAm]) ?_
 refine aAA (aAB ?_)
 simp only [aB7,go_sem,↓reduceIte,Nat.reduceEqDiff,enterS,List.getD_cons_zero,List.getD_cons_succ]
 refine aAA (aAB ?_)
 simp only [aB6,go_sem,↓reduceIte,Nat.reduceEqDiff,enterS,List.getD_cons_zero,List.getD_cons_succ]
 refine (idxf_S a hP p hf hl).mono ?_
 rintro _ g ⟨kg,rfl⟩
 simp only [go_sem,↓reduceIte,Nat.reduceEqDiff]
 refine aAE ?_
 simp only [go_sem,aAm,List.map_cons,List.map_nil,go_sem,↓reduceIte,Nat.reduceEqDiff]
 exact ⟨kg,by rw [aUg]⟩
end Go.Proofs.YtdbmeidhlijopaaGreatDoor.Ev.C

/- What a schema has: check.has, kind, Find, path. -/
namespace Go.Proofs.YtdbmeidhlijopaaGreatDoor.Ev.C
open Go Go.Proofs.YtdbmeidhlijopaaGreatDoor.Ev
set_option linter.unusedSimpArgs false
set_option linter.unusedVariables false
def emptyT:TypD:=⟨[],[]⟩
def emptyR:RelD:=⟨[],[],[],[],[],[]⟩
def hasP (t:TypD) (rel:T8s):Bool:=t.rels.any fun r=>decide (r.name=rel)
def kindP (l:List TypD) (name:T8s):Option TypD:=l.find? fun t=>decide (t.name=name)
def findR (t:TypD) (rel:T8s):Option RelD:=t.rels.find? fun r=>decide (r.name=rel)
def findP (l:List TypD) (typ rel:T8s):Option RelD:=findR ((kindP l typ).getD emptyT) rel
def pathP (t r:T8s):T8s:=t ++ [46]++r
/-- no list is too long -/
def SmallR (r:RelD):Prop:=r.name.length<1000000∧r.subs.length<1000000∧r.ops.length<1000000
def SmallT (t:TypD):Prop:=t.rels.length<1000000∧t.name.length<1000000 ∧ ∀ r∈t.rels,SmallR r
def SmallS (l:List TypD):Prop:=l.length<1000000 ∧ ∀ t∈l,SmallT t
theorem typ_rk (h g:H) (cs:List AV) (x:TypD) (k:RK (Apart [] h) h g) (a:IsTyp 0 h cs x):IsTyp 0 g cs x:=a.rk (gs := []) (by simp) k
theorem rel_rk (h g:H) (cs:List AV) (x:RelD) (k:RK (Apart [] h) h g) (a:IsRel 0 h cs x):IsRel 0 g cs x:=a.rk (gs := []) (by simp) k
theorem sch_rk {h g:H} {w:AV} {l:List TypD} (k:RK (Apart [] h) h g) (a:IsSch 0 h w l):IsSch 0 g w l:=a.rk (gs := []) (by simp) k
theorem IsTyp.keep {h g:H} {cs:List AV} {x:TypD} (a:IsTyp 0 h cs x) (k:Keep (Old h.n) h g):IsTyp 0 g cs x:=typ_rk h g cs x k.rk.apart a
theorem IsRel.keep {h g:H} {cs:List AV} {x:RelD} (a:IsRel 0 h cs x) (k:Keep (Old h.n) h g):IsRel 0 g cs x:=rel_rk h g cs x k.rk.apart a
theorem IsSch.keep {h g:H} {w:AV} {l:List TypD} (a:IsSch 0 h w l) (k:Keep (Old h.n) h g):IsSch 0 g w l:=sch_rk k.rk.apart a
theorem aZe (h:H):IsTyp 0 h [.str [],.nils] emptyT:=⟨.nils,rfl,IsL.nil _ _ _ _⟩
theorem aZy (h:H):IsRel 0 h [.str [],.str [],.str [],.str [],.nils,.nils] emptyR:=⟨.nils,.nils,rfl,⟨Sl.nil _ _,trivial⟩,Sl.nil _ _,trivial⟩
theorem IsTyp.name0 {N:Nat} {h:H} {cs:List AV} {t:TypD} (a:IsTyp N h cs t):cs[0]? = some (.str t.name):=by obtain ⟨rv,rfl,_⟩:=a;rfl
theorem IsRel.name0 {N:Nat} {h:H} {cs:List AV} {t:RelD} (a:IsRel N h cs t):cs[0]? = some (.str t.name):=by obtain ⟨sv,ov,rfl,_⟩:=a;rfl
theorem IsTyp.one {N:Nat} {h:H} {cs:List AV} {t:TypD} (a:IsTyp N h cs t):cs.length=2∧cs.all AV.one=true:=by
 obtain ⟨rv,rfl,il⟩:=a
 refine ⟨rfl,?_⟩
 simp only [List.all_cons,List.all_nil,(IsL.one il).1,Bool.and_true];rfl
theorem aS4 {cs:List AV} {a b:T8s} {bx:Nat} {g:H} (wf:g.Wf) (hc:cs[0]? = some (.str a)) (hb:Box bx [.str b] g) :
 WCall (EL LX) aKN [.agg cs,.ptr bx 0] g fun r g'=>Keep (Old g.n) g g'∧r = .val (.bool (decide (a=b))):=by
 obtain ⟨g1,hg1,b1,k1,w1,n1⟩:=aAR wf cs
 have hb1:=hb.keep k1 (hb.lt wf)
 have l0:loadA g1 false 1 (.ptr g.n 0)=some (.str a):=(b1.load 1 0).trans hc
 have l1:loadA g1 false 1 (.ptr bx 0)=some (.str b):=hb1.load 1 0
 refine aAI ((EL_ov _ _).trans rfl) (EL_T aUj) (by simp [aJu]) ?_
 refine aAA (aAB ?_)
 simp only [aMa,go_sem,↓reduceIte,Nat.reduceEqDiff,enterS,List.getD_cons_zero,List.getD_cons_succ,AV.cells,hg1]
 refine aAA (aAB ?_)
 simp only [aM2,go_sem,↓reduceIte,Nat.reduceEqDiff,enterS,List.getD_cons_zero,List.getD_cons_succ,aAC,Nat.zero_add,Nat.add_zero,Nat.reduceAdd,l0,l1]
 refine aAE ?_
 simp only [go_sem,aJu,List.map_cons,List.map_nil,go_sem,↓reduceIte,Nat.reduceEqDiff]
 exact ⟨k1,trivial⟩
theorem aT0 {cs:List AV} {a b:T8s} {bx:Nat} {g:H} (wf:g.Wf) (hc:cs[0]? = some (.str a)) (hb:Box bx [.str b] g) :
 WCall (EL LX) aLP [.agg cs,.ptr bx 0] g fun r g'=>Keep (Old g.n) g g'∧r = .val (.bool (decide (a=b))):=by
 obtain ⟨g1,hg1,b1,k1,w1,n1⟩:=aAR wf cs
 have hb1:=hb.keep k1 (hb.lt wf)
 have l0:loadA g1 false 1 (.ptr g.n 0)=some (.str a):=(b1.load 1 0).trans hc
 have l1:loadA g1 false 1 (.ptr bx 0)=some (.str b):=hb1.load 1 0
 refine aAI ((EL_ov _ _).trans rfl) (EL_T aWA) (by simp [aLL]) ?_
 refine aAA (aAB ?_)
 simp only [aNz,go_sem,↓reduceIte,Nat.reduceEqDiff,enterS,List.getD_cons_zero,List.getD_cons_succ,AV.cells,hg1]
 refine aAA (aAB ?_)
 simp only [aOI,go_sem,↓reduceIte,Nat.reduceEqDiff,enterS,List.getD_cons_zero,List.getD_cons_succ,aAC,Nat.zero_add,Nat.add_zero,Nat.reduceAdd,l0,l1]
 refine aAE ?_
 simp only [go_sem,aLL,List.map_cons,List.map_nil,go_sem,↓reduceIte,Nat.reduceEqDiff]
 exact ⟨k1,trivial⟩
theorem aS5 {cs:List AV} {a b:T8s} {bx:Nat} {g:H} (wf:g.Wf) (hc:cs[0]? = some (.str a)) (hb:Box bx [.str b] g) :
 WCall (EL LX) aKU [.agg cs,.ptr bx 0] g fun r g'=>Keep (Old g.n) g g'∧r = .val (.bool (decide (a=b))):=by
 obtain ⟨g1,hg1,b1,k1,w1,n1⟩:=aAR wf cs
 have hb1:=hb.keep k1 (hb.lt wf)
 have l0:loadA g1 false 1 (.ptr g.n 0)=some (.str a):=(b1.load 1 0).trans hc
 have l1:loadA g1 false 1 (.ptr bx 0)=some (.str b):=hb1.load 1 0
 refine aAI ((EL_ov _ _).trans rfl) (EL_T aUh) (by simp [aKJ]) ?_
 refine aAA (aAB ?_)
 simp only [aMs,go_sem,↓reduceIte,Nat.reduceEqDiff,enterS,List.getD_cons_zero,List.getD_cons_succ,AV.cells,hg1]
 refine aAA (aAB ?_)
 simp only [aMx,go_sem,↓reduceIte,Nat.reduceEqDiff,enterS,List.getD_cons_zero,List.getD_cons_succ,aAC,Nat.zero_add,Nat.add_zero,Nat.reduceAdd,l0,l1]
 refine aAE ?_
 simp only [go_sem,aKJ,List.map_cons,List.map_nil,go_sem,↓reduceIte,Nat.reduceEqDiff]
 exact ⟨k1,trivial⟩
theorem aGp {cs:List AV} {t:TypD} {rel:T8s} {h:H} (wf:h.Wf) (it:IsTyp 0 h cs t) (sm:SmallT t) :
 WCall (EL LX) aCf [.agg cs,.str rel] h fun r g=>Keep (Old h.n) h g∧r = .val (.bool (hasP t rel)):=by
 obtain ⟨h1,hg1,b1,k1,w1,n1⟩:=aAR wf cs
 obtain ⟨h2,hg2,b2,k2,w2,n2⟩:=aAR w1 [AV.str rel]
 have k02:Keep (Old h.n) h h2:=k1.trans (k2.less (by omega))
 obtain ⟨rv,hcs,il⟩:=it.keep k02
 have b1':=b1.keep k2 (by show h.n<h1.n;omega)
 have l1:loadA h2 false 1 (.ptr h.n 1)=some rv:=by rw [b1'.load,hcs];rfl
 refine aAI ((EL_ov _ _).trans rfl) (EL_T aXj) (by simp [aN6]) ?_
 refine aAA (aAB ?_)
 simp only [aRh,go_sem,↓reduceIte,Nat.reduceEqDiff,enterS,List.getD_cons_zero,List.getD_cons_succ,AV.cells,hg1,hg2]
 refine aAA (aAB ?_)
 simp only [aRG,go_sem,↓reduceIte,Nat.reduceEqDiff,enterS,List.getD_cons_zero,List.getD_cons_succ,aAC,Nat.zero_add,Nat.add_zero,Nat.reduceAdd,l1,List.map_cons,List.map_nil]
 refine (a3D il rel_rk (fun r=>decide (r.name=rel)) (fun g cs x kg q _=>aT0 (kg.wf w2) q.name0 (b2.keep kg (b2.lt w2))) (by have:=sm.1;omega)).mono ?_
 rintro _ g ⟨kg,rfl⟩
 simp only [go_sem,↓reduceIte,Nat.reduceEqDiff]
 refine aAE ?_
 simp only [go_sem,aN6,List.map_cons,List.map_nil,go_sem,↓reduceIte,Nat.reduceEqDiff]
 exact ⟨k02.trans (kg.less (by omega)),rfl⟩
theorem aNI {w:AV} {l:List TypD} {name:T8s} {hb h:H} (wf:h.Wf) (is:IsSch 0 hb w l) (kb:Keep (Old hb.n) hb h) (sm:l.length<1000000) :
 WCall (EL LX) aDk [.agg [w],.str name] h fun r g=>Keep (Old h.n) h g ∧ ∃ cs,r = .val (.tup [.agg cs,.bool (kindP l name).isSome])∧IsTyp 0 hb cs ((kindP l name).getD emptyT):=by
 obtain ⟨h1,hg1,b1,k1,w1,n1⟩:=aAR wf [w]
 obtain ⟨h2,hg2,b2,k2,w2,n2⟩:=aAR w1 [AV.str name]
 obtain ⟨h3,hg3,b3,k3,w3,n3⟩:=aAR w2 [AV.str [],.nils]
 have k02:Keep (Old h.n) h h2:=k1.trans (k2.less (by omega))
 have k03:Keep (Old h.n) h h3:=k02.trans (k3.less (by omega))
 have is3:=is.keep (kb.trans (k03.less kb.n))
 have b13:=(b1.keep k2 (by show h.n<h1.n;omega)).keep k3 (by show h.n<h2.n;omega)
 have b23:=b2.keep k3 (by show h1.n<h2.n;omega)
 have l0:loadA h3 false 1 (.ptr h.n 0)=some w:=b13.load 1 0
 refine aAI ((EL_ov _ _).trans rfl) (EL_T aWT) (by simp [aI9]) ?_
 refine aAA (aAB ?_)
 simp only [aQZ,go_sem,↓reduceIte,Nat.reduceEqDiff,enterS,List.getD_cons_zero,List.getD_cons_succ,AV.cells,hg1,hg2,hg3]
 refine aAA (aAB ?_)
 simp only [aPe,go_sem,↓reduceIte,Nat.reduceEqDiff,enterS,List.getD_cons_zero,List.getD_cons_succ,aAC,Nat.zero_add,Nat.add_zero,Nat.reduceAdd,l0,List.map_cons,List.map_nil]
 refine (idxf_T is3 typ_rk (fun t=>decide (t.name=name)) (fun g cs x kg q _=>aS4 (kg.wf w3) q.name0 (b23.keep kg (b23.lt w3))) (by omega)).mono ?_
 rintro _ g ⟨kg,rfl⟩
 simp only [go_sem,↓reduceIte,Nat.reduceEqDiff]
 have wg:=kg.wf w3
 have k0g:Keep (Old h.n) h g:=k03.trans (kg.less (by omega))
 have b1g:=b13.keep kg (b13.lt w3)
 have b3g:=b3.keep kg (b3.lt w3)
 have lg:loadA g false 1 (.ptr h.n 0)=some w:=b1g.load 1 0
 have hlt3:=b3g.lt wg
 refine aAA (aAA (aAB ?_))
 simp only [aQU,go_sem,↓reduceIte,Nat.reduceEqDiff]
 refine aAD ?_
 simp only [go_sem,↓reduceIte,Nat.reduceEqDiff]
 rcases aPM (fun t:TypD=>decide (t.name=name)) l 0 with ⟨q1,q2,q3⟩ | ⟨i,hi,q1,q2,q3⟩
 · have hk:kindP l name=none:=q2
   rw [q1]
   simp only [show decide ((-1:Int)<0)=true from rfl,go_sem,↓reduceIte,Nat.reduceEqDiff]
   obtain ⟨g2,e2,c2,kk2⟩:=Box.putAll wg b3g (vs := [AV.str [],.nils]) (n:=2) rfl rfl rfl
   have bn:afill [AV.str [],.nils] []=some [.str [],.nils]:=rfl
   have ld:loadA g2 true 2 (.ptr h2.n 0)=some (.agg [.str [],.nils]):=c2.loadAgg rfl
   refine aAA (aAB ?_)
   simp only [aQE,go_sem,↓reduceIte,Nat.reduceEqDiff,parts,List.map_nil,bn,Option.map_some,e2]
   refine aAE ?_
   simp only [go_sem,aI9,List.map_cons,List.map_nil,go_sem,↓reduceIte,Nat.reduceEqDiff,ld,hk,Option.isSome_none,Option.getD_none]
   exact ⟨k0g.trans (kk2.old wg (by have:=k0g.n;omega) (by simp;omega)),_,rfl,aZe _⟩
 · have hk:kindP l name=some l[i]:=q2
   rw [q1]
   have hneg : ¬ (((0+i:Nat):Int)<0):=by omega
   simp only [hneg,decide_false,go_sem,↓reduceIte,Nat.reduceEqDiff,Bool.false_eq_true]
   refine aAF ?_
   simp only [go_sem]
   obtain ⟨o,j,cs,e1,e2,e3,e4,e5⟩:=IsL.atK is (kb.trans (k0g.less kb.n)) hi (by decide) .i64
   obtain ⟨g2,p2,c2,kk2⟩:=Box.putAll wg b3g (vs:=cs) (n:=2) e2 e3.one.2 rfl
   have ld:loadA g2 true 2 (.ptr h2.n 0)=some (.agg cs):=c2.loadAgg e2
   refine aAA (aAB ?_)
   simp only [aPx,go_sem,↓reduceIte,Nat.reduceEqDiff,aAC,Nat.zero_add,Nat.add_zero,Nat.reduceAdd,lg,e1,e5,p2]
   have kf:Keep (Old h.n) h g2:=k0g.trans (kk2.old wg (by have:=k0g.n;omega) (by simp;omega))
   refine aAE ?_
   simp only [go_sem,aI9,List.map_cons,List.map_nil,go_sem,↓reduceIte,Nat.reduceEqDiff,ld,hk,Option.isSome_some,Option.getD_some]
   exact ⟨kf,_,rfl,e3⟩
theorem aZS {w:AV} {l:List TypD} {typ rel:T8s} {hb h:H} (wf:h.Wf) (is:IsSch 0 hb w l) (kb:Keep (Old hb.n) hb h) (sm:SmallS l) :
 WCall (EL LX) aLt [.agg [w],.str typ,.str rel] h fun r g=>Keep (Old h.n) h g ∧ ∃ cs,r = .val (.tup [.agg cs,.bool (findP l typ rel).isSome])∧IsRel 0 hb cs ((findP l typ rel).getD emptyR):=by
 obtain ⟨h1,hg1,b1,k1,w1,n1⟩:=aAR wf [w]
 obtain ⟨h2,hg2,b2,k2,w2,n2⟩:=aAR w1 [AV.str rel]
 obtain ⟨h3,hg3,b3,k3,w3,n3⟩:=aAR w2 [AV.str [],.str [],.str [],.str [],.nils,.nils]
 have k03:Keep (Old h.n) h h3:=(k1.trans (k2.less (by omega))).trans (k3.less (by omega))
 have kb3:=kb.trans (k03.less kb.n)
 have b13:=(b1.keep k2 (by show h.n<h1.n;omega)).keep k3 (by show h.n<h2.n;omega)
 have b23:=b2.keep k3 (by show h1.n<h2.n;omega)
 have l0:loadA h3 true 1 (.ptr h.n 0)=some (.agg [w]):=b13.loadAgg rfl
 refine aAI ((EL_ov _ _).trans rfl) (EL_T aWn) (by simp [aIk]) ?_
 refine aAA (aAB ?_)
 simp only [aPd,go_sem,↓reduceIte,Nat.reduceEqDiff,enterS,List.getD_cons_zero,List.getD_cons_succ,AV.cells,hg1,hg2,hg3]
 refine aAA (aAB ?_)
 simp only [aPl,go_sem,↓reduceIte,Nat.reduceEqDiff,enterS,List.getD_cons_zero,List.getD_cons_succ,l0]
 refine (aNI w3 is kb3 sm.1).mono ?_
 rintro _ g ⟨kg,ct,rfl,it⟩
 have wg:=kg.wf w3
 have smt:SmallT ((kindP l typ).getD emptyT):=by
  cases hk:kindP l typ with
  | none=>exact ⟨by decide,by decide,by intro r hr;cases hr⟩
  | some t=>exact sm.2 t (List.mem_of_find?_eq_some hk)
 have hf:findP l typ rel=findR ((kindP l typ).getD emptyT) rel:=rfl
 generalize (kindP l typ).getD emptyT=t at it smt hf
 obtain ⟨rv,hct,il⟩:=it
 subst hct
 have hcs:([AV.str t.name,rv]).all AV.one=true:=by simp only [List.all_cons,List.all_nil,(IsL.one il).1,Bool.and_true];rfl
 obtain ⟨g1,e1,c1,kk1⟩:=Box.init wg (z := [AV.str [],.nils]) (cs := [.str t.name,rv]) (n:=2) rfl rfl hcs
 have wg1:=kk1.wf wg
 simp only [go_sem,↓reduceIte,Nat.reduceEqDiff,aAM,List.getElem?_cons_zero,List.getElem?_cons_succ,e1]
 have l1:loadA g1 false 1 (.ptr g.n 1)=some rv:=c1.load 1 1
 have kb1:Keep (Old hb.n) hb g1:=(kb3.trans (kg.less kb3.n)).trans (kk1.less (by have:=kb3.n;have:=kg.n;omega))
 have il1:IsL 0 6 (IsRel 0) g1 rv t.rels:=IsL.rk il (gs := []) (by simp) kb1.rk.apart fun cs x q=>rel_rk hb g1 cs x kb1.rk.apart q
 have b2g:=(b23.keep kg (b23.lt w3)).keep kk1 ((b23.keep kg (b23.lt w3)).lt wg)
 have b3g:=(b3.keep kg (b3.lt w3)).keep kk1 ((b3.keep kg (b3.lt w3)).lt wg)
 have k0g:Keep (Old h.n) h g1:=(k03.trans (kg.less (by omega))).trans (kk1.less (by have:=kg.n;omega))
 refine aAA (aAB ?_)
 simp only [aQP,go_sem,↓reduceIte,Nat.reduceEqDiff,enterS,List.getD_cons_zero,List.getD_cons_succ,aAC,Nat.zero_add,Nat.add_zero,Nat.reduceAdd,l1,List.map_cons,List.map_nil]
 refine (idxf_R il1 rel_rk (fun r=>decide (r.name=rel)) (fun g cs x kg q _=>aS5 (kg.wf wg1) q.name0 (b2g.keep kg (b2g.lt wg1))) (by have:=smt.1;omega)).mono ?_
 rintro _ g2 ⟨kg2,rfl⟩
 have wg2:=kg2.wf wg1
 have b32:=b3g.keep kg2 (b3g.lt wg1)
 have c12:=c1.keep kg2 (c1.lt wg1)
 have k0g2:Keep (Old h.n) h g2:=k0g.trans (kg2.less k0g.n)
 simp only [go_sem,↓reduceIte,Nat.reduceEqDiff]
 refine aAA (aAA (aAB ?_))
 simp only [aPb,go_sem,↓reduceIte,Nat.reduceEqDiff]
 refine aAD ?_
 simp only [go_sem,↓reduceIte,Nat.reduceEqDiff]
 rcases aPM (fun r:RelD=>decide (r.name=rel)) t.rels 0 with ⟨q1,q2,q3⟩ | ⟨i,hi,q1,q2,q3⟩
 · have hk:findP l typ rel=none:=by rw [hf];exact q2
   rw [q1]
   simp only [show decide ((-1:Int)<0)=true from rfl,go_sem,↓reduceIte,Nat.reduceEqDiff]
   obtain ⟨g3,e3,c3,kk3⟩:=Box.putAll wg2 b32 (vs := [AV.str [],.str [],.str [],.str [],.nils,.nils]) (n:=6) rfl rfl rfl
   have bn:afill [AV.str [],.str [],.str [],.str [],.nils,.nils] []=some [.str [],.str [],.str [],.str [],.nils,.nils]:=rfl
   have ld:loadA g3 true 6 (.ptr h2.n 0)=some (.agg [.str [],.str [],.str [],.str [],.nils,.nils]):=c3.loadAgg rfl
   refine aAA (aAB ?_)
   simp only [aPs,go_sem,↓reduceIte,Nat.reduceEqDiff,parts,List.map_nil,bn,Option.map_some,e3]
   refine aAE ?_
   simp only [go_sem,aIk,List.map_cons,List.map_nil,go_sem,↓reduceIte,Nat.reduceEqDiff,ld,hk,Option.isSome_none,Option.getD_none]
   exact ⟨k0g2.trans (kk3.old wg2 (by have:=k0g2.n;omega) (by simp;omega)),_,rfl,aZy _⟩
 · have hk:findP l typ rel=some t.rels[i]:=by rw [hf];exact q2
   rw [q1]
   have hneg : ¬ (((0+i:Nat):Int)<0):=by omega
   simp only [hneg,decide_false,go_sem,↓reduceIte,Nat.reduceEqDiff,Bool.false_eq_true]
   refine aAF ?_
   simp only [go_sem]
   have l2:loadA g2 false 1 (.ptr g.n 1)=some rv:=c12.load 1 1
   obtain ⟨o,j,cs,e1,e2,e3,e4,e5⟩:=IsL.atK il (kb1.trans (kg2.less kb1.n)) hi (by decide) .i64
   obtain ⟨g3,p3,c3,kk3⟩:=Box.putAll wg2 b32 (vs:=cs) (n:=6) e2 e3.one.2 rfl
   have ld:loadA g3 true 6 (.ptr h2.n 0)=some (.agg cs):=c3.loadAgg e2
   refine aAA (aAB ?_)
   simp only [aPw,go_sem,↓reduceIte,Nat.reduceEqDiff,aAC,Nat.zero_add,Nat.add_zero,Nat.reduceAdd,l2,e1,e5,p3]
   refine aAE ?_
   simp only [go_sem,aIk,List.map_cons,List.map_nil,go_sem,↓reduceIte,Nat.reduceEqDiff,ld,hk,Option.isSome_some,Option.getD_some]
   exact ⟨k0g2.trans (kk3.old wg2 (by have:=k0g2.n;omega) (by simp;omega)),_,rfl,e3⟩
end Go.Proofs.YtdbmeidhlijopaaGreatDoor.Ev.C

/- Whether a schema's parts hold together: check.path, leads, op, subs. -/
namespace Go.Proofs.YtdbmeidhlijopaaGreatDoor.Ev.C
open Go Go.Proofs.YtdbmeidhlijopaaGreatDoor.Ev
set_option linter.unusedSimpArgs false
set_option linter.unusedVariables false
theorem aRj {tcs rcs:List AV} {a b:T8s} {h:H} (wf:h.Wf) (ht:tcs[0]? = some (.str a)) (hr:rcs[0]? = some (.str b)) (ha:a.length<1000000) (hb:b.length<1000000) :
 WCall (EL LX) aF0 [.agg tcs,.agg rcs] h fun r g=>Keep (Old h.n) h g∧r = .val (.str (pathP a b)):=by
 obtain ⟨h1,hg1,b1,k1,w1,n1⟩:=aAR wf tcs
 obtain ⟨h2,hg2,b2,k2,w2,n2⟩:=aAR w1 rcs
 have b1':=b1.keep k2 (by show h.n<h1.n;omega)
 have l0:loadA h2 false 1 (.ptr h.n 0)=some (.str a):=(b1'.load 1 0).trans ht
 have l1:loadA h2 false 1 (.ptr h1.n 0)=some (.str b):=(b2.load 1 0).trans hr
 refine aAI ((EL_ov _ _).trans rfl) (EL_T aWE) (by simp [aLk]) ?_
 refine aAA (aAB ?_)
 simp only [aP9,go_sem,↓reduceIte,Nat.reduceEqDiff,enterS,List.getD_cons_zero,List.getD_cons_succ,AV.cells,hg1,hg2]
 refine aAA (aAB ?_)
 simp only [aPt,go_sem,↓reduceIte,Nat.reduceEqDiff,enterS,List.getD_cons_zero,List.getD_cons_succ,aAC,Nat.zero_add,Nat.add_zero,Nat.reduceAdd,l0,l1]
 refine ⟨by simp [big];omega,by simp [big];omega,?_⟩
 refine aAE ?_
 simp only [go_sem,aLk,List.map_cons,List.map_nil,go_sem,↓reduceIte,Nat.reduceEqDiff]
 exact ⟨k1.trans (k2.less (by omega)),rfl⟩
theorem sub_eq (a b c d:T8s):eqA (.flatK [.s,.s]) (.agg [.str a,.str b]) (.agg [.str c,.str d])=some (decide ((a,b)=(c,d))):=by
 have h1 : ∀ x y:T8s,(x==y)=decide (x=y):=fun x y=>by rw [Bool.eq_iff_iff];simp
 simp [eqA,aAL,h1]
/-- does a list have it? -/
theorem aUs {h:H} {v:AV} {l:List SubD} (wf:h.Wf) (a:IsL 0 2 (fun _ cs x=>cs=subC x) h v l) (x:SubD) (hl:l.length<1000000000) :
 WCall (EL LX) aBH [v,.agg (subC x)] h fun r g=>Keep (Old h.n) h g∧r = .val (.int .i64 (ixF (fun y=>decide (x=y)) l 0)):=by
 obtain ⟨h1,hg1,b1,k1,w1,n1⟩:=aAR wf (subC x)
 have hlen:=a.len
 refine aAI ((EL_ov _ _).trans rfl) (EL_T aGG) (by simp [aAk]) ?_
 refine aAA (aAB ?_)
 simp only [aCx,go_sem,↓reduceIte,Nat.reduceEqDiff,enterS,List.getD_cons_zero,List.getD_cons_succ,AV.cells,hg1]
 refine aAA (aAA (aAB ?_))
 simp only [aCq,go_sem,↓reduceIte,Nat.reduceEqDiff,enterS,List.getD_cons_zero,List.getD_cons_succ,hlen]
 have lx:loadA h1 true 2 (.ptr h.n 0)=some (.agg (subC x)):=b1.loadAgg rfl
 refine aAG (aAP (fun m z g=>g=h1 ∧ ∃ j,m=l.length - j∧j≤l.length∧ixF (fun y=>decide (x=y)) l 0=ixF (fun y=>decide (x=y)) (l.drop j) j∧z 0=v∧z 3 = .ptr h.n 0∧z 7 = .int .i64 (l.length:Int)∧z 8 = .int .i64 (j:Int)) ?_ l.length ?_)
 case refine_2=>exact ⟨rfl,0,rfl,Nat.zero_le _,rfl,rfl,rfl,rfl,rfl⟩
 rintro m z g ⟨rfl,j,rfl,hj,hx,z0,z3,z7,z8⟩
 show WS (EL LX) aCp _ _ _ _
 refine aAA (aAB ?_)
 simp only [aCo,go_sem,↓reduceIte,Nat.reduceEqDiff,z7,z8]
 refine aAA (aAD ?_)
 simp only [go_sem,↓reduceIte,Nat.reduceEqDiff]
 by_cases hjl:j<l.length
 case neg =>
  have hjl' : ¬ (j:Int)<(l.length:Int):=by omega
  simp only [hjl',decide_false,go_sem,↓reduceIte,Nat.reduceEqDiff,Bool.false_eq_true]
  refine aAK ?_
  simp only [go_sem,↓reduceIte,Nat.reduceEqDiff]
  refine aAA (aAB ?_)
  simp only [aCt,go_sem,↓reduceIte,Nat.reduceEqDiff]
  refine aAE ?_
  simp only [go_sem,aAk,List.map_cons,List.map_nil,go_sem,↓reduceIte,Nat.reduceEqDiff]
  rw [List.drop_eq_nil_of_le (by omega)] at hx
  rw [hx]
  exact ⟨k1,rfl⟩
 have hjl':(j:Int)<(l.length:Int):=by omega
 simp only [hjl',decide_true,go_sem,↓reduceIte,Nat.reduceEqDiff]
 refine aAF ?_
 simp only [go_sem]
 obtain ⟨o,i,cs,e1,e2,e3,e4,e5⟩:=IsL.atK a k1 hjl (by decide) .i64
 subst e3
 refine aAA (aAG (aAA (aAB ?_)))
 simp only [aCr,go_sem,↓reduceIte,Nat.reduceEqDiff,z8]
 have se:eqA (.flatK [.s,.s]) (.agg (subC x)) (.agg (subC l[j]))=some (decide (x=l[j])):=sub_eq _ _ _ _
 refine aAA (aAS ?_)
 simp only [aCu,go_sem,↓reduceIte,Nat.reduceEqDiff,wanted,z0,z3,lx,e1,e5,se,and_self,true_and,List.filter_cons,List.filter_nil,Nat.testBit,Nat.reduceShiftRight,Nat.reduceAnd,Nat.reduceBNe,Bool.not_false,Bool.not_true,Bool.false_eq_true,bne_self_eq_false,WV]
 refine aAD ?_
 simp only [go_sem,↓reduceIte,Nat.reduceEqDiff]
 rw [List.drop_eq_getElem_cons hjl] at hx
 simp only [ixF] at hx
 by_cases hp:x=l[j]
 · rw [if_pos (by simp [hp])] at hx
   simp only [hp,decide_true,go_sem,↓reduceIte,Nat.reduceEqDiff]
   refine aAA (aAB ?_)
   simp only [aCs,go_sem,↓reduceIte,Nat.reduceEqDiff]
   refine aAE ?_
   simp only [go_sem,aAk,List.map_cons,List.map_nil,go_sem,↓reduceIte,Nat.reduceEqDiff]
   rw [← hp,hx]
   exact ⟨k1,rfl⟩
 · rw [if_neg (by simp [hp])] at hx
   simp only [hp,decide_false,go_sem,↓reduceIte,Nat.reduceEqDiff,Bool.false_eq_true]
   refine aAF ?_
   simp only [go_sem]
   have a1:IntKind.i64.wrap ((j:Int)+1)=((j+1:Nat):Int):=wrapI (n:=j+1) (by omega)
   refine aAB ?_
   simp only [aCv,go_sem,↓reduceIte,Nat.reduceEqDiff,z8,a1]
   exact ⟨l.length - (j+1),by omega,trivial,j+1,rfl,by omega,hx,z0,z3,z7,rfl⟩
theorem aSV {h:H} {v:AV} {l:List SubD} (wf:h.Wf) (a:IsL 0 2 (fun _ cs x=>cs=subC x) h v l) (x:SubD) (hl:l.length<1000000000) :
 WCall (EL LX) aBB [v,.agg (subC x)] h fun r g=>Keep (Old h.n) h g∧r = .val (.bool (l.any fun y=>decide (x=y))):=by
 obtain ⟨h1,hg1,b1,k1,w1,n1⟩:=aAR wf (subC x)
 have lx:loadA h1 true 2 (.ptr h.n 0)=some (.agg (subC x)):=b1.loadAgg rfl
 refine aAI ((EL_ov _ _).trans rfl) (EL_T aFU) (by simp [aBC]) ?_
 refine aAA (aAB ?_)
 simp only [aC7,go_sem,↓reduceIte,Nat.reduceEqDiff,enterS,List.getD_cons_zero,List.getD_cons_succ,AV.cells,hg1]
 refine aAA (aAB ?_)
 simp only [aC3,go_sem,↓reduceIte,Nat.reduceEqDiff,enterS,List.getD_cons_zero,List.getD_cons_succ,lx]
 have a1:IsL 0 2 (fun _ cs x=>cs=subC x) h1 v l:=IsL.rk a (gs := []) (by simp) k1.rk.apart fun cs x q=>q
 refine (aUs w1 a1 x hl).mono ?_
 rintro _ g ⟨kg,rfl⟩
 simp only [go_sem,↓reduceIte,Nat.reduceEqDiff]
 refine aAE ?_
 simp only [go_sem,aBC,List.map_cons,List.map_nil,go_sem,↓reduceIte,Nat.reduceEqDiff]
 exact ⟨k1.trans (kg.less (by omega)),by rw [aUg]⟩
/-! ### leads, op -/
def leadsX (l:List TypD) (next:T8s) (x:SubD):Bool:=decide (x.2 = [])&&hasP ((kindP l x.1).getD emptyT) next
def leadsP (l:List TypD) (r:RelD) (next:T8s):Bool:=r.subs.any (leadsX l next)
def opP (l:List TypD) (t:TypD) (o:OpD):Bool :=
 if o.1=2 then hasP t o.2.1 else if o.1=3 then (match findP l t.name o.2.1 with | some r=>leadsP l r o.2.2 | none=>false) else true
theorem smallK {l:List TypD} (sm:SmallS l) (name:T8s):SmallT ((kindP l name).getD emptyT):=by
 cases hk:kindP l name with
 | none=>exact ⟨by decide,by decide,by intro r hr;cases hr⟩
 | some t=>exact sm.2 t (List.mem_of_find?_eq_some hk)
theorem aXe {w:AV} {l:List TypD} {next:T8s} {x:SubD} {bs bn:Nat} {hb h:H} (wf:h.Wf) (is:IsSch 0 hb w l) (kb:Keep (Old hb.n) hb h) (sm:SmallS l) (b1:Box bs [w] h) (b2:Box bn [.str next] h) :
 WCall (EL LX) aHy [.agg (subC x),.ptr bs 0,.ptr bn 0] h fun r g=>Keep (Old h.n) h g∧r = .val (.bool (leadsX l next x)):=by
 obtain ⟨h1,hg1,c1,k1,w1,n1⟩:=aAR wf (subC x)
 have b1':=b1.keep k1 (b1.lt wf)
 have b2':=b2.keep k1 (b2.lt wf)
 have l0:loadA h1 true 1 (.ptr bs 0)=some (.agg [w]):=b1'.loadAgg rfl
 have l1:loadA h1 false 1 (.ptr h.n 0)=some (.str x.1):=c1.load 1 0
 refine aAI ((EL_ov _ _).trans rfl) (EL_T aUW) (by simp [aFM]) ?_
 refine aAA (aAB ?_)
 simp only [aMD,go_sem,↓reduceIte,Nat.reduceEqDiff,enterS,List.getD_cons_zero,List.getD_cons_succ,AV.cells,hg1]
 refine aAA (aAB ?_)
 simp only [aLl,go_sem,↓reduceIte,Nat.reduceEqDiff,enterS,List.getD_cons_zero,List.getD_cons_succ,aAC,Nat.zero_add,Nat.add_zero,Nat.reduceAdd,l0,l1]
 have kb1:=kb.trans (k1.less kb.n)
 refine (aNI w1 is kb1 sm.1).mono ?_
 rintro _ g ⟨kg,ct,rfl,it⟩
 have wg:=kg.wf w1
 obtain ⟨g1,e1,d1,kk1⟩:=Box.init wg (z := [AV.str [],.nils]) (cs:=ct) (n:=2) rfl it.one.1 it.one.2
 have wg1:=kk1.wf wg
 simp only [go_sem,↓reduceIte,Nat.reduceEqDiff,aAM,List.getElem?_cons_zero,List.getElem?_cons_succ,e1]
 have k0g1:Keep (Old h.n) h g1:=(k1.trans (kg.less (by omega))).trans (kk1.less (by have:=kg.n;omega))
 have c1g:=(c1.keep kg (c1.lt w1)).keep kk1 ((c1.keep kg (c1.lt w1)).lt wg)
 have b2g:=b2.keep k0g1 (b2.lt wf)
 have m1:loadA g1 false 1 (.ptr h.n 1)=some (.str x.2):=c1g.load 1 1
 have m2:loadA g1 true 2 (.ptr g.n 0)=some (.agg ct):=d1.loadAgg it.one.1
 have m3:loadA g1 false 1 (.ptr bn 0)=some (.str next):=b2g.load 1 0
 have kbg:Keep (Old hb.n) hb g1:=kb.trans (k0g1.less kb.n)
 refine aAA (aAB ?_)
 by_cases hx:x.2 = []
 · simp only [aGw,go_sem,↓reduceIte,Nat.reduceEqDiff,aAC,Nat.zero_add,Nat.add_zero,Nat.reduceAdd,m1,hx,decide_true,wanted,decide_true,decide_false,beq_self_eq_true,pickA,show (false==true)=false from rfl,show (true==false)=false from rfl,Bool.false_eq_true,undefA,Bool.not_true,Bool.not_false,m2,m3]
   refine (aGp wg1 (it.keep kbg) (smallK sm x.1)).mono ?_
   rintro _ g2 ⟨kg2,rfl⟩
   simp only [go_sem,↓reduceIte,Nat.reduceEqDiff,wanted,decide_true,decide_false,beq_self_eq_true,pickA,show (false==true)=false from rfl,show (true==false)=false from rfl,Bool.false_eq_true,undefA,Bool.not_true,Bool.not_false]
   refine aAE ?_
   simp only [go_sem,aFM,List.map_cons,List.map_nil,go_sem,↓reduceIte,Nat.reduceEqDiff]
   exact ⟨k0g1.trans (kg2.less k0g1.n),by simp [leadsX,hx]⟩
 · simp only [aGw,go_sem,↓reduceIte,Nat.reduceEqDiff,aAC,Nat.zero_add,Nat.add_zero,Nat.reduceAdd,m1,hx,decide_false,wanted,decide_true,decide_false,beq_self_eq_true,pickA,show (false==true)=false from rfl,show (true==false)=false from rfl,Bool.false_eq_true,undefA,Bool.not_true,Bool.not_false]
   refine aAE ?_
   simp only [go_sem,aFM,List.map_cons,List.map_nil,go_sem,↓reduceIte,Nat.reduceEqDiff]
   exact ⟨k0g1,by simp [leadsX,hx]⟩
theorem aYv {w:AV} {l:List TypD} {next:T8s} {rcs:List AV} {r:RelD} {hb h:H} (wf:h.Wf) (is:IsSch 0 hb w l) (kb:Keep (Old hb.n) hb h) (sm:SmallS l) (ir:IsRel 0 hb rcs r) (hs:r.subs.length<1000000) :
 WCall (EL LX) aLC [.agg [w],.agg rcs,.str next] h fun rr g=>Keep (Old h.n) h g∧rr = .val (.bool (leadsP l r next)):=by
 obtain ⟨h1,hg1,b1,k1,w1,n1⟩:=aAR wf [w]
 obtain ⟨h2,hg2,b2,k2,w2,n2⟩:=aAR w1 rcs
 obtain ⟨h3,hg3,b3,k3,w3,n3⟩:=aAR w2 [AV.str next]
 have k03:Keep (Old h.n) h h3:=(k1.trans (k2.less (by omega))).trans (k3.less (by omega))
 have kb3:=kb.trans (k03.less kb.n)
 have b13:=(b1.keep k2 (by show h.n<h1.n;omega)).keep k3 (by show h.n<h2.n;omega)
 have b23:=b2.keep k3 (by show h1.n<h2.n;omega)
 obtain ⟨sv,ov,hcs,⟨s1,r1⟩,s2,r2⟩:=ir.keep kb3
 have l4:loadA h3 false 1 (.ptr h1.n 4)=some sv:=by rw [b23.load,hcs];rfl
 have il:IsL 0 2 (fun _ cs x=>cs=subC x) h3 sv r.subs:=IsL.of_flat (fun _=>rfl) s1 r1
 refine aAI ((EL_ov _ _).trans rfl) (EL_T aVp) (by simp [aLB]) ?_
 refine aAA (aAB ?_)
 simp only [aOr,go_sem,↓reduceIte,Nat.reduceEqDiff,enterS,List.getD_cons_zero,List.getD_cons_succ,AV.cells,hg1,hg2,hg3]
 refine aAA (aAB ?_)
 simp only [aO0,go_sem,↓reduceIte,Nat.reduceEqDiff,enterS,List.getD_cons_zero,List.getD_cons_succ,aAC,Nat.zero_add,Nat.add_zero,Nat.reduceAdd,l4,List.map_cons,List.map_nil]
 refine (a1z il (fun _ _ _ _ _ q=>q) (leadsX l next) (fun g cs x kg q _ => ?_) (by omega)).mono ?_
 · subst q
   exact aXe (kg.wf w3) is (kb3.trans (kg.less kb3.n)) sm (b13.keep kg (b13.lt w3)) (b3.keep kg (b3.lt w3))
 rintro _ g ⟨kg,rfl⟩
 simp only [go_sem,↓reduceIte,Nat.reduceEqDiff]
 refine aAE ?_
 simp only [go_sem,aLB,List.map_cons,List.map_nil,go_sem,↓reduceIte,Nat.reduceEqDiff]
 exact ⟨k03.trans (kg.less k03.n),rfl⟩
theorem a2b {w:AV} {l:List TypD} {tcs:List AV} {t:TypD} {o:OpD} {hb h:H} (wf:h.Wf) (is:IsSch 0 hb w l) (kb:Keep (Old hb.n) hb h) (sm:SmallS l) (it:IsTyp 0 hb tcs t) (smt:SmallT t) :
 WCall (EL LX) aPQ [.agg [w],.agg tcs,.agg (opC o)] h fun rr g=>Keep (Old h.n) h g∧rr = .val (.bool (opP l t o)):=by
 obtain ⟨h1,hg1,b1,k1,w1,n1⟩:=aAR wf [w]
 obtain ⟨h2,hg2,b2,k2,w2,n2⟩:=aAR w1 tcs
 obtain ⟨h3,hg3,b3,k3,w3,n3⟩:=aAR w2 (opC o)
 have k03:Keep (Old h.n) h h3:=(k1.trans (k2.less (by omega))).trans (k3.less (by omega))
 have kb3:=kb.trans (k03.less kb.n)
 have b13:=(b1.keep k2 (by show h.n<h1.n;omega)).keep k3 (by show h.n<h2.n;omega)
 have b23:=b2.keep k3 (by show h1.n<h2.n;omega)
 have l0:loadA h3 false 1 (.ptr h2.n 0)=some (.int .i64 (o.1:Int)):=b3.load 1 0
 have l1:loadA h3 false 1 (.ptr h2.n 1)=some (.str o.2.1):=b3.load 1 1
 have lt:loadA h3 true 2 (.ptr h1.n 0)=some (.agg tcs):=b23.loadAgg it.one.1
 have lt0:loadA h3 false 1 (.ptr h1.n 0)=some (.str t.name):=(b23.load 1 0).trans it.name0
 have lw:loadA h3 true 1 (.ptr h.n 0)=some (.agg [w]):=b13.loadAgg rfl
 refine aAI ((EL_ov _ _).trans rfl) (EL_T aY4) (by simp [aFq]) ?_
 refine aAA (aAB ?_)
 simp only [aTB,go_sem,↓reduceIte,Nat.reduceEqDiff,enterS,List.getD_cons_zero,List.getD_cons_succ,AV.cells,hg1,hg2,hg3]
 refine aAA (aAA (aAB ?_))
 simp only [aSw,go_sem,↓reduceIte,Nat.reduceEqDiff,enterS,List.getD_cons_zero,List.getD_cons_succ,aAC,Nat.zero_add,Nat.add_zero,Nat.reduceAdd,l0]
 refine aAG (aAA (aAB ?_))
 simp only [aSb,go_sem,↓reduceIte,Nat.reduceEqDiff]
 refine aAD ?_
 simp only [go_sem,↓reduceIte,Nat.reduceEqDiff]
 by_cases h2:o.1=2
 · have h2':(o.1:Int)=2:=by omega
   simp only [h2',decide_true,go_sem,↓reduceIte,Nat.reduceEqDiff]
   refine aAA (aAB ?_)
   simp only [aSz,go_sem,↓reduceIte,Nat.reduceEqDiff,enterS,List.getD_cons_zero,List.getD_cons_succ,aAC,Nat.zero_add,Nat.add_zero,Nat.reduceAdd,lt,l1]
   refine (aGp w3 (it.keep kb3) smt).mono ?_
   rintro _ g ⟨kg,rfl⟩
   simp only [go_sem,↓reduceIte,Nat.reduceEqDiff]
   refine aAE ?_
   simp only [go_sem,aFq,List.map_cons,List.map_nil,go_sem,↓reduceIte,Nat.reduceEqDiff]
   exact ⟨k03.trans (kg.less k03.n),by simp [opP,h2]⟩
 have h2' : ¬ (o.1:Int)=2:=by omega
 simp only [h2',decide_false,go_sem,↓reduceIte,Nat.reduceEqDiff,Bool.false_eq_true]
 refine aAA (aAB ?_)
 simp only [aSj,go_sem,↓reduceIte,Nat.reduceEqDiff]
 refine aAD ?_
 simp only [go_sem,↓reduceIte,Nat.reduceEqDiff]
 by_cases h3:o.1=3
 case neg =>
  have h3' : ¬ (o.1:Int)=3:=by omega
  simp only [h3',decide_false,go_sem,↓reduceIte,Nat.reduceEqDiff,Bool.false_eq_true]
  refine aAF ?_
  simp only [go_sem]
  refine aAA (aAB ?_)
  simp only [aSh,go_sem,↓reduceIte,Nat.reduceEqDiff]
  refine aAE ?_
  simp only [go_sem,aFq,List.map_cons,List.map_nil,go_sem,↓reduceIte,Nat.reduceEqDiff]
  exact ⟨k03,by simp [opP,h2,h3]⟩
 have h3':(o.1:Int)=3:=by omega
 simp only [h3',decide_true,go_sem,↓reduceIte,Nat.reduceEqDiff]
 refine aAA (aAB ?_)
 simp only [aSs,go_sem,↓reduceIte,Nat.reduceEqDiff,enterS,List.getD_cons_zero,List.getD_cons_succ,aAC,Nat.zero_add,Nat.add_zero,Nat.reduceAdd,lw,lt0,l1]
 refine (aZS w3 is kb3 sm).mono ?_
 rintro _ g ⟨kg,cr,rfl,ir⟩
 have wg:=kg.wf w3
 obtain ⟨g1,e1,d1,kk1⟩:=Box.init wg (z := [AV.str [],.str [],.str [],.str [],.nils,.nils]) (cs:=cr) (n:=6) rfl ir.one.1 ir.one.2
 have wg1:=kk1.wf wg
 simp only [go_sem,↓reduceIte,Nat.reduceEqDiff,aAM,List.getElem?_cons_zero,List.getElem?_cons_succ,e1]
 have k3g1:Keep (Old _) _ g1:=kg.trans (kk1.less kg.n)
 have kbg:Keep (Old hb.n) hb g1:=kb3.trans (k3g1.less kb3.n)
 have m0:loadA g1 true 1 (.ptr h.n 0)=some (.agg [w]):=(b13.keep k3g1 (b13.lt w3)).loadAgg rfl
 have m1:loadA g1 true 6 (.ptr g.n 0)=some (.agg cr):=d1.loadAgg ir.one.1
 have b3g:=b3.keep k3g1 (b3.lt w3)
 have hop:opP l t o=(match findP l t.name o.2.1 with | some r=>leadsP l r o.2.2 | none=>false):=by unfold opP;rw [if_neg h2,if_pos h3]
 refine aAA (aAB ?_)
 have m2:=b3g.load 1 2
 cases hfd:findP l t.name o.2.1 with
 | none =>
  rw [hfd] at hop
  simp only [aNO,go_sem,↓reduceIte,Nat.reduceEqDiff,aAC,Nat.zero_add,Nat.add_zero,Nat.reduceAdd,Option.isSome_none,wanted,decide_true,decide_false,beq_self_eq_true,pickA,show (false==true)=false from rfl,show (true==false)=false from rfl,Bool.false_eq_true,undefA,Bool.not_true,Bool.not_false]
  refine aAE ?_
  simp only [go_sem,aFq,List.map_cons,List.map_nil,go_sem,↓reduceIte,Nat.reduceEqDiff]
  exact ⟨k03.trans (k3g1.less k03.n),by rw [hop]⟩
 | some r =>
  rw [hfd] at hop ir
  have m2:loadA g1 false 1 (.ptr _ 2)=some (.str o.2.2):=m2
  simp only [aNO,go_sem,↓reduceIte,Nat.reduceEqDiff,aAC,Nat.zero_add,Nat.add_zero,Nat.reduceAdd,Option.isSome_some,wanted,decide_true,decide_false,beq_self_eq_true,pickA,show (false==true)=false from rfl,show (true==false)=false from rfl,Bool.false_eq_true,undefA,Bool.not_true,Bool.not_false,m0,m1,m2]
  have hr:r.subs.length<1000000:=by
   have:r∈((kindP l t.name).getD emptyT).rels:=List.mem_of_find?_eq_some hfd
   exact ((smallK sm t.name).2.2 r this).2.1
  refine (aYv wg1 is kbg sm ir hr).mono ?_
  rintro _ g2 ⟨kg2,rfl⟩
  simp only [go_sem,↓reduceIte,Nat.reduceEqDiff,wanted,decide_true,decide_false,beq_self_eq_true,pickA,show (false==true)=false from rfl,show (true==false)=false from rfl,Bool.false_eq_true,undefA,Bool.not_true,Bool.not_false]
  refine aAE ?_
  simp only [go_sem,aFq,List.map_cons,List.map_nil,go_sem,↓reduceIte,Nat.reduceEqDiff]
  exact ⟨(k03.trans (k3g1.less k03.n)).trans (kg2.less (Nat.le_trans k03.n k3g1.n)),by rw [hop];rfl⟩
end Go.Proofs.YtdbmeidhlijopaaGreatDoor.Ev.C

/- check.subs, check.counts. -/
namespace Go.Proofs.YtdbmeidhlijopaaGreatDoor.Ev.C
open Go Go.Proofs.YtdbmeidhlijopaaGreatDoor.Ev
set_option linter.unusedSimpArgs false
set_option linter.unusedVariables false
def subBad (l:List TypD) (x:SubD):Bool := !(kindP l x.1).isSome||(!decide (x.2 = []) && !hasP ((kindP l x.1).getD emptyT) x.2)
def subsK (l:List TypD) (all:List SubD):Nat→List SubD→Int
 | _,[]=>0
 | i,x::r=>if subBad l x=true then 31 else if ((all.take i).any fun y=>decide (x=y))=true then 32 else subsK l all (i+1) r
theorem aZU {w sv:AV} {l:List TypD} {subs:List SubD} {hb h:H} (wf:h.Wf) (is:IsSch 0 hb w l) (kb:Keep (Old hb.n) hb h) (sm:SmallS l) (ils:IsL 0 2 (fun _ cs x=>cs=subC x) hb sv subs) (hs:subs.length<1000000) :
 WCall (EL LX) aLs [.agg [w],sv] h fun r g=>Keep (Old h.n) h g∧r = .val (.int .i64 (subsK l subs 0 subs)):=by
 obtain ⟨h1,hg1,b1,k1,w1,n1⟩:=aAR wf [w]
 have hlen:=ils.len
 refine aAI ((EL_ov _ _).trans rfl) (EL_T aWb) (by simp [aDM]) ?_
 refine aAA (aAB ?_)
 simp only [aQF,go_sem,↓reduceIte,Nat.reduceEqDiff,enterS,List.getD_cons_zero,List.getD_cons_succ,AV.cells,hg1]
 refine aAA (aAA (aAB ?_))
 simp only [aPu,go_sem,↓reduceIte,Nat.reduceEqDiff,enterS,List.getD_cons_zero,List.getD_cons_succ,hlen]
 refine aAG (aAP (fun m z g=>Keep (Old h1.n) h1 g ∧ ∃ j,m=subs.length - j∧j≤subs.length∧subsK l subs 0 subs=subsK l subs j (subs.drop j)∧z 1=sv∧z 2 = .ptr h.n 0∧z 9=sv∧z 10 = .int .i64 (subs.length:Int)∧z 11 = .int .i64 (j:Int)) ?_ subs.length ?_)
 case refine_2=>exact ⟨Keep.refl _ _,0,rfl,Nat.zero_le _,rfl,rfl,rfl,rfl,rfl,rfl⟩
 rintro m z g ⟨kg,j,rfl,hj,hx,z1,z2,z9,z10,z11⟩
 show WS (EL LX) aOg _ _ _ _
 have k0g:Keep (Old h.n) h g:=k1.trans (kg.less (by omega))
 have kbg:=kb.trans (k0g.less kb.n)
 refine aAA (aAB ?_)
 simp only [aQQ,go_sem,↓reduceIte,Nat.reduceEqDiff,z10,z11]
 refine aAA (aAD ?_)
 simp only [go_sem,↓reduceIte,Nat.reduceEqDiff]
 by_cases hjl:j<subs.length
 case neg =>
  have hjl' : ¬ (j:Int)<(subs.length:Int):=by omega
  simp only [hjl',decide_false,go_sem,↓reduceIte,Nat.reduceEqDiff,Bool.false_eq_true]
  refine aAK ?_
  simp only [go_sem,↓reduceIte,Nat.reduceEqDiff]
  refine aAA (aAB ?_)
  simp only [aFk,go_sem,↓reduceIte,Nat.reduceEqDiff]
  refine aAE ?_
  simp only [go_sem,aDM,List.map_cons,List.map_nil,go_sem,↓reduceIte,Nat.reduceEqDiff]
  rw [List.drop_eq_nil_of_le (by omega)] at hx
  rw [hx]
  exact ⟨k0g,rfl⟩
 have hjl':(j:Int)<(subs.length:Int):=by omega
 simp only [hjl',decide_true,go_sem,↓reduceIte,Nat.reduceEqDiff]
 refine aAF ?_
 simp only [go_sem]
 obtain ⟨o,i,cs,e1,e2,e3,e4,e5⟩:=IsL.atK ils kbg hjl (by decide) .i64
 subst e3
 rw [List.drop_eq_getElem_cons hjl] at hx
 generalize hxe:subs[j]=x at hx e5 e4
 have wg:=kg.wf w1
 obtain ⟨g1,p1,c1,kk1⟩:=Box.init wg (z := [AV.str [],.str []]) (cs:=subC x) (n:=2) rfl rfl rfl
 have wg1:=kk1.wf wg
 refine aAA (aAG (aAA (aAB ?_)))
 simp only [aQY,go_sem,↓reduceIte,Nat.reduceEqDiff,z9,z11,e1,e5,p1]
 have k1g1:Keep (Old h1.n) h1 g1:=kg.trans (kk1.less kg.n)
 have b1g:=b1.keep k1g1 (b1.lt w1)
 have l0:loadA g1 true 1 (.ptr h.n 0)=some (.agg [w]):=b1g.loadAgg rfl
 have l1:loadA g1 false 1 (.ptr g.n 0)=some (.str x.1):=c1.load 1 0
 refine aAA (aAB ?_)
 simp only [aQG,go_sem,↓reduceIte,Nat.reduceEqDiff,aAC,Nat.zero_add,Nat.add_zero,Nat.reduceAdd,z2,l0,l1]
 refine (aNI wg1 is (kbg.trans (kk1.less kbg.n)) sm.1).mono ?_
 rintro _ g2 ⟨kg2,ct,rfl,it⟩
 have wg2:=kg2.wf wg1
 obtain ⟨g3,p3,d3,kk3⟩:=Box.init wg2 (z := [AV.str [],.nils]) (cs:=ct) (n:=2) rfl it.one.1 it.one.2
 have wg3:=kk3.wf wg2
 simp only [go_sem,↓reduceIte,Nat.reduceEqDiff,aAM,List.getElem?_cons_zero,List.getElem?_cons_succ,p3]
 have k13:Keep (Old g1.n) g1 g3:=kg2.trans (kk3.less kg2.n)
 have c3:=c1.keep k13 (c1.lt wg1)
 have k1g3:Keep (Old h1.n) h1 g3:=k1g1.trans (k13.less k1g1.n)
 have kbg3:Keep (Old hb.n) hb g3:=(kb.trans ((k1.trans (k1g3.less (by omega))).less kb.n))
 have m1:loadA g3 false 1 (.ptr g.n 1)=some (.str x.2):=c3.load 1 1
 have m2:loadA g3 true 2 (.ptr g.n 0)=some (.agg (subC x)):=c3.loadAgg rfl
 have m3:loadA g3 true 2 (.ptr g2.n 0)=some (.agg ct):=d3.loadAgg it.one.1
 simp only [subsK] at hx
 have bad:subBad l x=true → ∀ (z':S) (g':H),Keep (Old h1.n) h1 g'→WS (EL LX) (.seq (.ops aLA) .ret) [.blk 2,.blk 1,.code (.ops aGh)] (fun ex s_1 h_1=>match ex with
  | .normal => ∃ m,m<subs.length - j∧Keep (Old h1.n) h1 h_1 ∧ ∃ j,m=subs.length - j∧j≤subs.length∧subsK l subs 0 subs=subsK l subs j (subs.drop j)∧s_1 1=sv∧s_1 2 = .ptr h.n 0∧s_1 9=sv∧s_1 10 = .int .i64 (subs.length:Int)∧s_1 11 = .int .i64 (j:Int)
  | ex=>fin (EL LX) [.blk 0,.code (.seq (.ops aFk) .ret)] (atEnd aDM.results fun r g=>Keep (Old h.n) h g∧r = .val (.int .i64 (subsK l subs 0 subs))) ex s_1 h_1) z' g':=by
  intro hbad z' g' kg'
  rw [if_pos hbad] at hx
  refine aAA (aAB ?_)
  simp only [aLA,go_sem,↓reduceIte,Nat.reduceEqDiff]
  refine aAE ?_
  simp only [go_sem,aDM,List.map_cons,List.map_nil,go_sem,↓reduceIte,Nat.reduceEqDiff]
  exact ⟨k1.trans (kg'.less (by omega)),by rw [hx]⟩
 have good:subBad l x=false → ∀ (z':S) (g':H),Keep (Old g3.n) g3 g'→z' 1=sv→z' 2 = .ptr h.n 0→z' 9=sv→z' 10 = .int .i64 (subs.length:Int)→z' 11 = .int .i64 (j:Int)→z' 5 = .int .i64 (j:Int)→z' 6 = .ptr g.n 0 →
  WS (EL LX) (.seq (.draw aLJ) (.cond (.tmp 38) (.seq (.ops aLD) .ret) .skip)) [.blk 2,.blk 1,.code (.ops aGh)] (fun ex s_1 h_1=>match ex with
   | .normal => ∃ m,m<subs.length - j∧Keep (Old h1.n) h1 h_1 ∧ ∃ j,m=subs.length - j∧j≤subs.length∧subsK l subs 0 subs=subsK l subs j (subs.drop j)∧s_1 1=sv∧s_1 2 = .ptr h.n 0∧s_1 9=sv∧s_1 10 = .int .i64 (subs.length:Int)∧s_1 11 = .int .i64 (j:Int)
   | ex=>fin (EL LX) [.blk 0,.code (.seq (.ops aFk) .ret)] (atEnd aDM.results fun r g=>Keep (Old h.n) h g∧r = .val (.int .i64 (subsK l subs 0 subs))) ex s_1 h_1) z' g':=by
  intro hgood z' g' kg' y1 y2 y9 y10 y11 y5 y6
  rw [if_neg (by rw [hgood];simp)] at hx
  have wg':=kg'.wf wg3
  have kb':Keep (Old hb.n) hb g':=kbg3.trans (kg'.less kbg3.n)
  have il':IsL 0 2 (fun _ cs x=>cs=subC x) g' sv subs:=IsL.rk ils (gs := []) (by simp) kb'.rk.apart fun cs x q=>q
  obtain ⟨v',ev,ilv⟩:=il'.take (i:=j) hj .i64
  have m2':loadA g' true 2 (.ptr g.n 0)=some (.agg (subC x)):=(c3.keep kg' (c3.lt wg3)).loadAgg rfl
  refine aAA (aAS ?_)
  simp only [aLJ,go_sem,↓reduceIte,Nat.reduceEqDiff,wanted,y1,y5,y6,Option.map_some,Option.map_none,ev,m2',and_self,true_and,List.filter_cons,List.filter_nil,Nat.testBit,Nat.reduceShiftRight,Nat.reduceAnd,Nat.reduceBNe,Bool.not_false,Bool.not_true,Bool.false_eq_true,bne_self_eq_false,WV]
  refine (aSV wg' ilv x (by simp;omega)).mono ?_
  rintro _ g5 ⟨k5,rfl⟩
  simp only [go_sem,↓reduceIte,Nat.reduceEqDiff,m2',and_self,true_and,List.filter_cons,List.filter_nil,Nat.testBit,Nat.reduceShiftRight,Nat.reduceAnd,Nat.reduceBNe,Bool.not_false,Bool.not_true,Bool.false_eq_true,bne_self_eq_false,WV]
  have k1g5:Keep (Old h1.n) h1 g5:=(k1g3.trans (kg'.less k1g3.n)).trans (k5.less (Nat.le_trans k1g3.n kg'.n))
  refine aAD ?_
  simp only [go_sem,↓reduceIte,Nat.reduceEqDiff]
  by_cases hany:((subs.take j).any fun y=>decide (x=y))=true
  · rw [if_pos hany] at hx
    simp only [hany,go_sem,↓reduceIte,Nat.reduceEqDiff]
    refine aAA (aAB ?_)
    simp only [aLD,go_sem,↓reduceIte,Nat.reduceEqDiff]
    refine aAE ?_
    simp only [go_sem,aDM,List.map_cons,List.map_nil,go_sem,↓reduceIte,Nat.reduceEqDiff]
    exact ⟨k1.trans (k1g5.less (by omega)),by rw [hx]⟩
  · rw [if_neg hany] at hx
    have hany':((subs.take j).any fun y=>decide (x=y))=false:=Bool.eq_false_iff.2 hany
    simp only [hany',go_sem,↓reduceIte,Nat.reduceEqDiff,Bool.false_eq_true]
    refine aAF ?_
    simp only [go_sem]
    have a1:IntKind.i64.wrap ((j:Int)+1)=((j+1:Nat):Int):=wrapI (n:=j+1) (by omega)
    refine aAB ?_
    simp only [aGh,go_sem,↓reduceIte,Nat.reduceEqDiff,y11,a1]
    exact ⟨subs.length - (j+1),by omega,k1g5,j+1,rfl,by omega,hx,y1,y2,y9,y10,rfl⟩
 refine aAG (aAA (aAB ?_))
 cases hks:(kindP l x.1).isSome
 · have hb1:subBad l x=true:=by simp [subBad,hks]
   simp only [aGf,go_sem,↓reduceIte,Nat.reduceEqDiff,aAC,Nat.zero_add,Nat.add_zero,Nat.reduceAdd,wanted,decide_true,decide_false,beq_self_eq_true,pickA,show (false==true)=false from rfl,show (true==false)=false from rfl,Bool.false_eq_true,undefA,Bool.not_true,Bool.not_false]
   refine aAD ?_
   simp only [go_sem,↓reduceIte,Nat.reduceEqDiff]
   exact bad hb1 _ _ k1g3
 · by_cases hx2:x.2 = []
   · have hb1:subBad l x=false:=by simp [subBad,hks,hx2]
     simp only [aGf,go_sem,↓reduceIte,Nat.reduceEqDiff,aAC,Nat.zero_add,Nat.add_zero,Nat.reduceAdd,wanted,decide_true,decide_false,beq_self_eq_true,pickA,show (false==true)=false from rfl,show (true==false)=false from rfl,Bool.false_eq_true,undefA,Bool.not_true,Bool.not_false,m1,hx2,decide_true]
     refine aAD ?_
     simp only [go_sem,↓reduceIte,Nat.reduceEqDiff,Bool.false_eq_true]
     exact good hb1 _ _ (Keep.refl _ _) z1 z2 z9 z10 z11 rfl rfl
   · simp only [aGf,go_sem,↓reduceIte,Nat.reduceEqDiff,aAC,Nat.zero_add,Nat.add_zero,Nat.reduceAdd,wanted,decide_true,decide_false,beq_self_eq_true,pickA,show (false==true)=false from rfl,show (true==false)=false from rfl,Bool.false_eq_true,undefA,Bool.not_true,Bool.not_false,m1,hx2,decide_false,m3]
     refine (aGp wg3 (it.keep kbg3) (smallK sm x.1)).mono ?_
     rintro _ g5 ⟨k5,rfl⟩
     simp only [go_sem,↓reduceIte,Nat.reduceEqDiff,wanted,decide_true,decide_false,beq_self_eq_true,pickA,show (false==true)=false from rfl,show (true==false)=false from rfl,Bool.false_eq_true,undefA,Bool.not_true,Bool.not_false]
     refine aAD ?_
     cases hh:hasP ((kindP l x.1).getD emptyT) x.2
     · have hb1:subBad l x=true:=by simp [subBad,hks,hx2,hh]
       simp only [Bool.not_false,go_sem,↓reduceIte,Nat.reduceEqDiff]
       exact bad hb1 _ _ (k1g3.trans (k5.less k1g3.n))
     · have hb1:subBad l x=false:=by simp [subBad,hks,hx2,hh]
       simp only [Bool.not_true,go_sem,↓reduceIte,Nat.reduceEqDiff,Bool.false_eq_true]
       exact good hb1 _ _ k5 z1 z2 z9 z10 z11 rfl rfl
/-! ### how many there are, and names that are there twice -/
def cntR (t:TypD):Nat→List RelD→Int×T8s
 | _,[]=>(0,[])
 | k,r::rest=>if hasP ⟨[],t.rels.take k⟩ r.name=true then (32,pathP t.name r.name) else if 16<r.ops.length then (13,pathP t.name r.name) else cntR t (k+1) rest
def cntT (l:List TypD):Nat→List TypD→Int×T8s
 | _,[]=>(0,[])
 | i,t::rest=>if (kindP (l.take i) t.name).isSome=true then (32,t.name) else if 12<t.rels.length then (13,t.name) else if (cntR t 0 t.rels).1=0 then cntT l (i+1) rest else cntR t 0 t.rels
def aCw (l:List TypD):Int×T8s:=if 8<l.length then (13,[]) else cntT l 0 l
abbrev CntQ (h:H) (x:Int×T8s):AOut→H→Prop:=fun r g=>Keep (Old h.n) h g∧r = .val (.tup [.int .i64 x.1,.str x.2])
/-- the relations of one type -/
theorem a1F {h hb g:H} {t:TypD} {tcs:List AV} {bt:Nat} {k:List Fr1} {Q:Post} {z:S} (wh:h.Wf) (wg:g.Wf) (it:IsTyp 0 hb tcs t) (smt:SmallT t) (kb:Keep (Old hb.n) hb g) (k0:Keep (Old h.n) h g) (hbt:Box bt tcs g)
 (z5:z 5 = .ptr bt 0)
 (hret : ∀ s g',(cntR t 0 t.rels).1≠0→Keep (Old g.n) g g'→s 2 = .int .i64 (cntR t 0 t.rels).1→s 3 = .str (cntR t 0 t.rels).2→Q .ret s g')
 (hnext : ∀ s g',(cntR t 0 t.rels).1=0→Keep (Old g.n) g g'→s 1=z 1→s 5=z 5→s 15=z 15→s 16=z 16→s 17=z 17→WNext (EL LX) k Q s g') :
 WS (EL LX) (.seq (.ops aGs) (.block 2 (.loop aGz))) k Q z g:=by
 obtain ⟨rv,hcs,il⟩:=it
 have it:IsTyp 0 hb tcs t:=⟨rv,hcs,il⟩
 have l1:loadA g false 1 (.ptr bt 1)=some rv:=by rw [hbt.load,hcs];rfl
 have hlen:=il.len
 refine aAA (aAB ?_)
 simp only [aGs,go_sem,↓reduceIte,Nat.reduceEqDiff,aAC,Nat.zero_add,Nat.add_zero,Nat.reduceAdd,z5,l1,hlen]
 refine aAG (aAP (fun m s g'=>Keep (Old g.n) g g' ∧ ∃ j,m=t.rels.length - j∧j≤t.rels.length∧cntR t 0 t.rels=cntR t j (t.rels.drop j)∧s 5 = .ptr bt 0∧s 43=rv∧s 44 = .int .i64 (t.rels.length:Int)∧s 45 = .int .i64 (j:Int)∧s 1=z 1∧s 15=z 15∧s 16=z 16∧s 17=z 17) ?_ t.rels.length ?_)
 case refine_2=>exact ⟨Keep.refl _ _,0,rfl,Nat.zero_le _,rfl,z5,rfl,rfl,rfl,rfl,rfl,rfl,rfl⟩
 rintro m s g1 ⟨kg,j,rfl,hj,hx,z5',z43,z44,z45,y1,y15,y16,y17⟩
 show WS (EL LX) aGz _ _ _ _
 refine aAA (aAB ?_)
 simp only [aMJ,go_sem,↓reduceIte,Nat.reduceEqDiff,z44,z45]
 refine aAA (aAD ?_)
 simp only [go_sem,↓reduceIte,Nat.reduceEqDiff]
 by_cases hjl:j<t.rels.length
 case neg =>
  have hjl' : ¬ (j:Int)<(t.rels.length:Int):=by omega
  simp only [hjl',decide_false,go_sem,↓reduceIte,Nat.reduceEqDiff,Bool.false_eq_true]
  refine aAK ?_
  simp only [go_sem,↓reduceIte,Nat.reduceEqDiff]
  rw [List.drop_eq_nil_of_le (by omega)] at hx
  exact hnext _ _ (by rw [hx];rfl) kg y1 (z5'.trans z5.symm) y15 y16 y17
 have hjl':(j:Int)<(t.rels.length:Int):=by omega
 simp only [hjl',decide_true,go_sem,↓reduceIte,Nat.reduceEqDiff]
 refine aAF ?_
 simp only [go_sem]
 have wg1:=kg.wf wg
 have kbg:=kb.trans (kg.less kb.n)
 obtain ⟨o,i,rcs,e1,e2,e3,e4,e5⟩:=IsL.atK il kbg hjl (by decide) .i64
 rw [List.drop_eq_getElem_cons hjl] at hx
 have smr:=smt.2.2 _ (List.getElem_mem hjl)
 generalize hxe:t.rels[j]=r at hx e3 smr
 obtain ⟨g2,p2,c2,kk2⟩:=Box.init wg1 (z := [AV.str [],.str [],.str [],.str [],.nils,.nils]) (cs:=rcs) (n:=6) rfl e2 e3.one.2
 have wg2:=kk2.wf wg1
 have k12:Keep (Old g.n) g g2:=kg.trans (kk2.less kg.n)
 have kbg2:=kb.trans (k12.less kb.n)
 have bt2:=hbt.keep k12 (hbt.lt wg)
 have m1:loadA g2 false 1 (.ptr bt 1)=some rv:=by rw [bt2.load,hcs];rfl
 have m0:loadA g2 false 1 (.ptr g1.n 0)=some (.str r.name):=(c2.load 1 0).trans e3.name0
 obtain ⟨rv',ev,ilv⟩:=il.take (i:=j) hj .i64
 have itv:IsTyp 0 hb [.str [],rv'] ⟨[],t.rels.take j⟩:=⟨rv',rfl,ilv⟩
 have afv:afill [AV.str [],.nils] [(1,1,rv')]=some [.str [],rv']:=by simp [afill,(IsL.one ilv).2,splice]
 refine aAA (aAG (aAA (aAB ?_)))
 simp only [aMI,go_sem,↓reduceIte,Nat.reduceEqDiff,z43,z45,e1,e5,p2]
 refine aAA (aAA (aAS ?_))
 simp only [aMO,go_sem,↓reduceIte,Nat.reduceEqDiff,aAC,Nat.zero_add,Nat.add_zero,Nat.reduceAdd,wanted,z5',m1,m0,Option.map_some,Option.map_none,ev,parts,List.map_cons,List.map_nil,afv,and_self,true_and,List.filter_cons,List.filter_nil,Nat.testBit,Nat.reduceShiftRight,Nat.reduceAnd,Nat.reduceBNe,Bool.not_false,Bool.not_true,Bool.false_eq_true,bne_self_eq_false,WV]
 have smv:SmallT ⟨[],t.rels.take j⟩:=⟨by have:=smt.1;simp;omega,by simp,fun r hr=>smt.2.2 r (List.mem_of_mem_take hr)⟩
 refine (aGp wg2 (itv.keep kbg2) smv).mono ?_
 rintro _ g3 ⟨k3,rfl⟩
 have wg3:=k3.wf wg2
 have k13:Keep (Old g.n) g g3:=k12.trans (k3.less k12.n)
 have bt3:=hbt.keep k13 (hbt.lt wg)
 have c3:=c2.keep k3 (c2.lt wg2)
 have n1:loadA g3 true 2 (.ptr bt 0)=some (.agg tcs):=bt3.loadAgg it.one.1
 have n2:loadA g3 true 6 (.ptr g1.n 0)=some (.agg rcs):=c3.loadAgg e2
 simp only [go_sem,↓reduceIte,Nat.reduceEqDiff,and_self,true_and,List.filter_cons,List.filter_nil,Nat.testBit,Nat.reduceShiftRight,Nat.reduceAnd,Nat.reduceBNe,Bool.not_false,Bool.not_true,Bool.false_eq_true,bne_self_eq_false,WV]
 refine aAD ?_
 simp only [go_sem,↓reduceIte,Nat.reduceEqDiff]
 simp only [cntR] at hx
 by_cases hh:hasP ⟨[],t.rels.take j⟩ r.name=true
 · rw [if_pos hh] at hx
   simp only [hh,go_sem,↓reduceIte,Nat.reduceEqDiff]
   refine aAA (aAB ?_)
   simp only [aLz,go_sem,↓reduceIte,Nat.reduceEqDiff,z5',n1,n2]
   refine (aRj wg3 it.name0 e3.name0 smt.2.1 smr.1).mono ?_
   rintro _ g4 ⟨k4,rfl⟩
   simp only [go_sem,↓reduceIte,Nat.reduceEqDiff]
   refine aAE ?_
   simp only [go_sem]
   refine hret _ _ (by rw [hx];simp) (k13.trans (k4.less k13.n)) ?_ ?_
   · rw [hx];rfl
   · rw [hx];rfl
 rw [if_neg hh] at hx
 have hh':hasP ⟨[],t.rels.take j⟩ r.name=false:=Bool.eq_false_iff.2 hh
 simp only [hh',go_sem,↓reduceIte,Nat.reduceEqDiff,Bool.false_eq_true]
 refine aAF ?_
 simp only [go_sem]
 obtain ⟨sv,ov,hrcs,⟨s1,r1⟩,s2,r2⟩:=e3
 have n3:loadA g3 false 1 (.ptr g1.n 5)=some ov:=by rw [c3.load,hrcs];rfl
 have e3n:rcs[0]? = some (.str r.name):=by rw [hrcs];rfl
 have hol:=s2.len
 refine aAA (aAB ?_)
 simp only [aLq,go_sem,↓reduceIte,Nat.reduceEqDiff,aAC,Nat.zero_add,Nat.add_zero,Nat.reduceAdd,n3,hol]
 refine aAD ?_
 simp only [go_sem,↓reduceIte,Nat.reduceEqDiff]
 by_cases h16:16<r.ops.length
 · have h16':(16:Int)<(r.ops.length:Int):=by omega
   rw [if_pos h16] at hx
   simp only [h16',decide_true,go_sem,↓reduceIte,Nat.reduceEqDiff]
   refine aAA (aAB ?_)
   simp only [aMP,go_sem,↓reduceIte,Nat.reduceEqDiff,z5',n1,n2]
   refine (aRj wg3 it.name0 e3n smt.2.1 smr.1).mono ?_
   rintro _ g4 ⟨k4,rfl⟩
   simp only [go_sem,↓reduceIte,Nat.reduceEqDiff]
   refine aAE ?_
   simp only [go_sem]
   refine hret _ _ (by rw [hx];simp) (k13.trans (k4.less k13.n)) ?_ ?_
   · rw [hx];rfl
   · rw [hx];rfl
 have h16' : ¬ (16:Int)<(r.ops.length:Int):=by omega
 rw [if_neg h16] at hx
 simp only [h16',decide_false,go_sem,↓reduceIte,Nat.reduceEqDiff,Bool.false_eq_true]
 refine aAF ?_
 simp only [go_sem]
 have a1:IntKind.i64.wrap ((j:Int)+1)=((j+1:Nat):Int):=wrapI (n:=j+1) (by have:=smt.1;omega)
 refine aAB ?_
 simp only [aLn,go_sem,↓reduceIte,Nat.reduceEqDiff,z45,a1]
 exact ⟨t.rels.length - (j+1),by omega,k13,j+1,rfl,by omega,hx,z5',z43,z44,rfl,y1,y15,y16,y17⟩
theorem aX8 {w:AV} {l:List TypD} {hb h:H} (wf:h.Wf) (is:IsSch 0 hb w l) (kb:Keep (Old hb.n) hb h) (sm:SmallS l) :
 WCall (EL LX) aKS [.agg [w]] h (CntQ h (aCw l)):=by
 obtain ⟨h1,hg1,b1,k1,w1,n1⟩:=aAR wf [w]
 have hlen:=is.len
 have l0:loadA h1 false 1 (.ptr h.n 0)=some w:=b1.load 1 0
 refine aAI ((EL_ov _ _).trans rfl) (EL_T aUk) (by simp [aCe]) ?_
 refine aAA (aAB ?_)
 simp only [aNG,go_sem,↓reduceIte,Nat.reduceEqDiff,enterS,List.getD_cons_zero,List.getD_cons_succ,AV.cells,hg1]
 refine aAA (aAA (aAB ?_))
 simp only [aMz,go_sem,↓reduceIte,Nat.reduceEqDiff,aAC,Nat.zero_add,Nat.add_zero,Nat.reduceAdd,l0,hlen]
 refine aAD ?_
 simp only [go_sem,↓reduceIte,Nat.reduceEqDiff]
 by_cases h8:8<l.length
 · have h8':(8:Int)<(l.length:Int):=by omega
   have hc:aCw l=(13,[]):=by unfold aCw;rw [if_pos h8]
   simp only [h8',decide_true,go_sem,↓reduceIte,Nat.reduceEqDiff]
   refine aAA (aAB ?_)
   simp only [aM0,go_sem,↓reduceIte,Nat.reduceEqDiff]
   refine aAE ?_
   simp only [go_sem,aCe,List.map_cons,List.map_nil,go_sem,↓reduceIte,Nat.reduceEqDiff]
   rw [hc]
   exact ⟨k1,rfl⟩
 have h8' : ¬ (8:Int)<(l.length:Int):=by omega
 have hc:aCw l=cntT l 0 l:=by unfold aCw;rw [if_neg h8]
 rw [hc]
 simp only [h8',decide_false,go_sem,↓reduceIte,Nat.reduceEqDiff,Bool.false_eq_true]
 refine aAF ?_
 simp only [go_sem]
 refine aAA (aAA (aAB ?_))
 simp only [aMe,go_sem,↓reduceIte,Nat.reduceEqDiff,aAC,Nat.zero_add,Nat.add_zero,Nat.reduceAdd,l0,hlen]
 refine aAG (aAP (fun m z g=>Keep (Old h1.n) h1 g ∧ ∃ j,m=l.length - j∧j≤l.length∧cntT l 0 l=cntT l j (l.drop j)∧z 1 = .ptr h.n 0∧z 15=w∧z 16 = .int .i64 (l.length:Int)∧z 17 = .int .i64 (j:Int)) ?_ l.length ?_)
 case refine_2=>exact ⟨Keep.refl _ _,0,rfl,Nat.zero_le _,rfl,rfl,rfl,rfl,rfl⟩
 rintro m z g ⟨kg,j,rfl,hj,hx,z1,z15,z16,z17⟩
 show WS (EL LX) aLw _ _ _ _
 refine aAA (aAB ?_)
 simp only [aMu,go_sem,↓reduceIte,Nat.reduceEqDiff,z16,z17]
 refine aAA (aAD ?_)
 simp only [go_sem,↓reduceIte,Nat.reduceEqDiff]
 by_cases hjl:j<l.length
 case neg =>
  have hjl' : ¬ (j:Int)<(l.length:Int):=by omega
  simp only [hjl',decide_false,go_sem,↓reduceIte,Nat.reduceEqDiff,Bool.false_eq_true]
  refine aAK ?_
  simp only [go_sem,↓reduceIte,Nat.reduceEqDiff]
  refine aAA (aAB ?_)
  simp only [aMK,go_sem,↓reduceIte,Nat.reduceEqDiff]
  refine aAE ?_
  simp only [go_sem,aCe,List.map_cons,List.map_nil,go_sem,↓reduceIte,Nat.reduceEqDiff]
  rw [List.drop_eq_nil_of_le (by omega)] at hx
  rw [hx]
  exact ⟨k1.trans (kg.less (by omega)),rfl⟩
 have hjl':(j:Int)<(l.length:Int):=by omega
 simp only [hjl',decide_true,go_sem,↓reduceIte,Nat.reduceEqDiff]
 refine aAF ?_
 simp only [go_sem]
 have wg:=kg.wf w1
 have k0g:Keep (Old h.n) h g:=k1.trans (kg.less (by omega))
 have kbg:=kb.trans (k0g.less kb.n)
 obtain ⟨o,i,tcs,e1,e2,it,e4,e5⟩:=IsL.atK is kbg hjl (by decide) .i64
 rw [List.drop_eq_getElem_cons hjl] at hx
 have smt:=sm.2 _ (List.getElem_mem hjl)
 generalize hxe:l[j]=t at hx it smt
 obtain ⟨g1,p1,c1,kk1⟩:=Box.init wg (z := [AV.str [],.nils]) (cs:=tcs) (n:=2) rfl e2 it.one.2
 have wg1:=kk1.wf wg
 have k1g1:Keep (Old h1.n) h1 g1:=kg.trans (kk1.less kg.n)
 obtain ⟨g2,hg2,c2,kk2,wg2,n2⟩:=aAR wg1 [AV.str [],.nils]
 have k1g2:Keep (Old h1.n) h1 g2:=k1g1.trans (kk2.less k1g1.n)
 have kbg2:Keep (Old hb.n) hb g2:=kb.trans ((k1.trans (k1g2.less (by omega))).less kb.n)
 have b1g1:=b1.keep k1g1 (b1.lt w1)
 have b1g2:=b1.keep k1g2 (b1.lt w1)
 have c12:=c1.keep kk2 (c1.lt wg1)
 have m0:loadA g1 false 1 (.ptr h.n 0)=some w:=b1g1.load 1 0
 have m1:loadA g1 false 1 (.ptr g.n 0)=some (.str t.name):=(c1.load 1 0).trans it.name0
 have m02:loadA g2 false 1 (.ptr h.n 0)=some w:=b1g2.load 1 0
 have m12:loadA g2 false 1 (.ptr g.n 0)=some (.str t.name):=(c12.load 1 0).trans it.name0
 obtain ⟨w',ev,isv⟩:=IsL.take is (i:=j) hj .i64
 have afv:afill [AV.nils] [(0,1,w')]=some [w']:=by simp [afill,(IsL.one isv).2,splice]
 refine aAA (aAG (aAA (aAB ?_)))
 simp only [aNB,go_sem,↓reduceIte,Nat.reduceEqDiff,z15,z17,e1,e5,p1]
 refine aAA (aAA (aAS ?_))
 simp only [aMk,go_sem,↓reduceIte,Nat.reduceEqDiff,aAC,Nat.zero_add,Nat.add_zero,Nat.reduceAdd,wanted,z1,m0,m1,m02,m12,Option.map_some,Option.map_none,ev,parts,List.map_cons,List.map_nil,afv,hg2,and_self,true_and,List.filter_cons,List.filter_nil,Nat.testBit,Nat.reduceShiftRight,Nat.reduceAnd,Nat.reduceBNe,Bool.not_false,Bool.not_true,Bool.false_eq_true,bne_self_eq_false,WV]
 refine (aNI wg2 isv kbg2 (by have:=sm.1;simp;omega)).mono ?_
 rintro _ g3 ⟨k3,ct,rfl,ict⟩
 have wg3:=k3.wf wg2
 have c23:=c2.keep k3 (c2.lt wg2)
 obtain ⟨g4,p4,d4,k4⟩:=Box.putAll wg3 c23 (vs:=ct) (n:=2) ict.one.1 ict.one.2 rfl
 have wg4:=k4.wf wg3
 have hlt2:=c2.lt wg2
 have c14:=(c12.keep k3 (c12.lt wg2)).keepA wg3 k4 (by simp;have:=c1.lt wg1;omega)
 have k14:Keep (Old g1.n) g1 g4:=(kk2.trans (k3.less kk2.n)).trans (k4.old wg3 (by have:=k3.n;omega) (by simp))
 have k1g4:Keep (Old h1.n) h1 g4:=k1g1.trans (k14.less k1g1.n)
 simp only [go_sem,↓reduceIte,Nat.reduceEqDiff,aAM,List.getElem?_cons_zero,List.getElem?_cons_succ,p4,m02,m12,and_self,true_and,List.filter_cons,List.filter_nil,Nat.testBit,Nat.reduceShiftRight,Nat.reduceAnd,Nat.reduceBNe,Bool.not_false,Bool.not_true,Bool.false_eq_true,bne_self_eq_false,WV]
 have k0g4:Keep (Old h.n) h g4:=k1.trans (k1g4.less (by omega))
 have kbg4:Keep (Old hb.n) hb g4:=kb.trans (k0g4.less kb.n)
 have q0:loadA g4 false 1 (.ptr g.n 0)=some (.str t.name):=(c14.load 1 0).trans it.name0
 refine aAA (aAB ?_)
 simp only [aNH,go_sem,↓reduceIte,Nat.reduceEqDiff]
 refine aAD ?_
 simp only [go_sem,↓reduceIte,Nat.reduceEqDiff]
 simp only [cntT] at hx
 by_cases hk:(kindP (l.take j) t.name).isSome=true
 · rw [if_pos hk] at hx
   simp only [hk,go_sem,↓reduceIte,Nat.reduceEqDiff]
   refine aAA (aAS ?_)
   simp only [aMl,go_sem,↓reduceIte,Nat.reduceEqDiff,aAC,Nat.zero_add,Nat.add_zero,Nat.reduceAdd,wanted,q0,and_self,true_and,List.filter_cons,List.filter_nil,Nat.testBit,Nat.reduceShiftRight,Nat.reduceAnd,Nat.reduceBNe,Bool.not_false,Bool.not_true,Bool.false_eq_true,bne_self_eq_false,WV]
   refine aAE ?_
   simp only [go_sem,aCe,List.map_cons,List.map_nil,go_sem,↓reduceIte,Nat.reduceEqDiff]
   rw [hx]
   exact ⟨k0g4,rfl⟩
 rw [if_neg hk] at hx
 have hk':(kindP (l.take j) t.name).isSome=false:=Bool.eq_false_iff.2 hk
 simp only [hk',go_sem,↓reduceIte,Nat.reduceEqDiff,Bool.false_eq_true]
 refine aAF ?_
 simp only [go_sem]
 obtain ⟨rv,hcs,il⟩:=it
 have it:IsTyp 0 hb tcs t:=⟨rv,hcs,il⟩
 have q1:loadA g4 false 1 (.ptr g.n 1)=some rv:=by rw [c14.load,hcs];rfl
 have hrl:=il.len
 refine aAA (aAA (aAB ?_))
 simp only [aMp,go_sem,↓reduceIte,Nat.reduceEqDiff,aAC,Nat.zero_add,Nat.add_zero,Nat.reduceAdd,q1,hrl]
 refine aAD ?_
 simp only [go_sem,↓reduceIte,Nat.reduceEqDiff]
 by_cases h12:12<t.rels.length
 · have h12':(12:Int)<(t.rels.length:Int):=by omega
   rw [if_pos h12] at hx
   simp only [h12',decide_true,go_sem,↓reduceIte,Nat.reduceEqDiff]
   refine aAA (aAS ?_)
   simp only [aLy,go_sem,↓reduceIte,Nat.reduceEqDiff,aAC,Nat.zero_add,Nat.add_zero,Nat.reduceAdd,wanted,q0,and_self,true_and,List.filter_cons,List.filter_nil,Nat.testBit,Nat.reduceShiftRight,Nat.reduceAnd,Nat.reduceBNe,Bool.not_false,Bool.not_true,Bool.false_eq_true,bne_self_eq_false,WV]
   refine aAE ?_
   simp only [go_sem,aCe,List.map_cons,List.map_nil,go_sem,↓reduceIte,Nat.reduceEqDiff]
   rw [hx]
   exact ⟨k0g4,rfl⟩
 have h12' : ¬ (12:Int)<(t.rels.length:Int):=by omega
 rw [if_neg h12] at hx
 simp only [h12',decide_false,go_sem,↓reduceIte,Nat.reduceEqDiff,Bool.false_eq_true]
 refine aAF ?_
 simp only [go_sem]
 refine a1F (hb:=hb) (bt:=g.n) wf wg4 it smt kbg4 k0g4 c14 rfl ?_ ?_
 · intro s g' hne kk y2 y3
   rw [if_neg hne] at hx
   simp only [go_sem,aCe,List.map_cons,List.map_nil,go_sem,↓reduceIte,Nat.reduceEqDiff,y2,y3]
   rw [hx]
   exact ⟨k0g4.trans (kk.less k0g4.n),rfl⟩
 · intro s g' hz kk y1 y5 y15 y16 y17
   rw [if_pos hz] at hx
   have a1:IntKind.i64.wrap ((j:Int)+1)=((j+1:Nat):Int):=wrapI (n:=j+1) (by have:=sm.1;omega)
   have y17':s 17 = .int .i64 (j:Int):=y17.trans z17
   simp only [go_sem]
   refine aAB ?_
   simp only [aLp,go_sem,↓reduceIte,Nat.reduceEqDiff,y17',a1]
   exact ⟨l.length - (j+1),by omega,k1g4.trans (kk.less k1g4.n),j+1,rfl,by omega,hx,y1.trans z1,y15.trans z15,y16.trans z16,rfl⟩
end Go.Proofs.YtdbmeidhlijopaaGreatDoor.Ev.C

/- check.Check walked. -/
namespace Go.Proofs.YtdbmeidhlijopaaGreatDoor.Ev.C
open Go Go.Proofs.YtdbmeidhlijopaaGreatDoor.Ev
set_option linter.unusedSimpArgs false
set_option linter.unusedVariables false
def chkR (l:List TypD) (t:TypD) (r:RelD):Int×T8s :=
 if (hasP t r.view&&(hasP t r.edit&&hasP t r.check))=false then (31,pathP t.name r.name)
 else if subsK l r.subs 0 r.subs≠0 then (subsK l r.subs 0 r.subs,pathP t.name r.name)
 else if r.ops.all (opP l t)=true then (0,[]) else (31,pathP t.name r.name)
def chkRs (l:List TypD) (t:TypD):List RelD→Int×T8s
 | []=>(0,[])
 | r::rest=>if (chkR l t r).1=0 then chkRs l t rest else chkR l t r
def chkTs (l:List TypD):List TypD→Int×T8s
 | []=>(0,[])
 | t::rest=>if (chkRs l t t.rels).1=0 then chkTs l rest else chkRs l t t.rels
def checkP (l:List TypD):Int×T8s:=if (aCw l).1=0 then chkTs l l else aCw l
theorem aVR (l:List TypD) : ∀ (rest:List TypD) (k:Nat),(cntT l k rest).1=0→cntT l k rest=(0,[])
 | [],k,h=>rfl
 | t::rest,k,h=>by
  simp only [cntT] at h ⊢
  split at h
  · cases h
  · rename_i h1
    rw [if_neg h1]
    split at h
    · cases h
    · rename_i h2
      rw [if_neg h2]
      split at h
      · rename_i h3;rw [if_pos h3];exact aVR l rest (k+1) h
      · rename_i h3;exact absurd h h3
theorem aXb {l:List TypD} (h:(aCw l).1=0):aCw l=(0,[]):=by
 unfold aCw at h ⊢
 split at h
 · cases h
 · rename_i h1;rw [if_neg h1];exact aVR l l 0 h
/-- one operation after the other -/
theorem a0v {hb g:H} {w ov:AV} {l:List TypD} {t:TypD} {tcs rcs:List AV} {ops:List OpD} {bs bt br:Nat} {k:List Fr1} {Q:Post} {z:S} (wg:g.Wf) (is:IsSch 0 hb w l) (sm:SmallS l) (it:IsTyp 0 hb tcs t) (smt:SmallT t) (kb:Keep (Old hb.n) hb g)
 (io:IsL 0 3 (fun _ cs x=>cs=opC x) hb ov ops) (hol:ops.length<1000000) (b1:Box bs [w] g) (b5:Box bt tcs g) (b7:Box br rcs g) (hr5:rcs[5]? = some ov)
 (z1:z 1 = .ptr bs 0) (z5:z 5 = .ptr bt 0) (z7:z 7 = .ptr br 0)
 (hbad:ops.all (opP l t)=false → ∀ s g',Keep (Old g.n) g g'→s 2=z 2→s 3=z 3→WExit (EL LX) 0 k Q s g')
 (hgood:ops.all (opP l t)=true → ∀ s g',Keep (Old g.n) g g'→s 1=z 1→s 5=z 5→s 21=z 21→s 22=z 22→s 23=z 23→s 28=z 28→s 29=z 29→s 30=z 30→WNext (EL LX) k Q s g') :
 WS (EL LX) (.seq (.ops aFL) (.block 4 (.loop aFN))) k Q z g:=by
 have l5:loadA g false 1 (.ptr br 5)=some ov:=(b7.load 1 5).trans hr5
 have hlen:=io.len
 refine aAA (aAB ?_)
 simp only [aFL,go_sem,↓reduceIte,Nat.reduceEqDiff,aAC,Nat.zero_add,Nat.add_zero,Nat.reduceAdd,z7,l5,hlen]
 refine aAG (aAP (fun m s g'=>Keep (Old g.n) g g' ∧ ∃ j,m=ops.length - j∧j≤ops.length∧ops.all (opP l t)=(ops.drop j).all (opP l t)∧s 64=ov∧s 65 = .int .i64 (ops.length:Int)∧s 66 = .int .i64 (j:Int)∧s 2=z 2∧s 3=z 3∧s 1=z 1∧s 5=z 5∧s 21=z 21∧s 22=z 22∧s 23=z 23∧s 28=z 28∧s 29=z 29∧s 30=z 30) ?_ ops.length ?_)
 case refine_2=>exact ⟨Keep.refl _ _,0,rfl,Nat.zero_le _,rfl,rfl,rfl,rfl,rfl,rfl,rfl,rfl,rfl,rfl,rfl,rfl,rfl,rfl⟩
 rintro m s g1 ⟨kg,j,rfl,hj,hx,z64,z65,z66,y2,y3,y1,y5,y21,y22,y23,y28,y29,y30⟩
 show WS (EL LX) aFN _ _ _ _
 refine aAA (aAB ?_)
 simp only [aMo,go_sem,↓reduceIte,Nat.reduceEqDiff,z65,z66]
 refine aAA (aAD ?_)
 simp only [go_sem,↓reduceIte,Nat.reduceEqDiff]
 by_cases hjl:j<ops.length
 case neg =>
  have hjl' : ¬ (j:Int)<(ops.length:Int):=by omega
  simp only [hjl',decide_false,go_sem,↓reduceIte,Nat.reduceEqDiff,Bool.false_eq_true]
  refine aAK ?_
  simp only [go_sem,↓reduceIte,Nat.reduceEqDiff]
  rw [List.drop_eq_nil_of_le (by omega)] at hx
  exact hgood hx _ _ kg y1 y5 y21 y22 y23 y28 y29 y30
 have hjl':(j:Int)<(ops.length:Int):=by omega
 simp only [hjl',decide_true,go_sem,↓reduceIte,Nat.reduceEqDiff]
 refine aAF ?_
 simp only [go_sem]
 have wg1:=kg.wf wg
 have kbg:=kb.trans (kg.less kb.n)
 obtain ⟨o,i,cs,e1,e2,e3,e4,e5⟩:=IsL.atK io kbg hjl (by decide) .i64
 subst e3
 rw [List.drop_eq_getElem_cons hjl,List.all_cons] at hx
 generalize hxe:ops[j]=x at hx e5 e4
 obtain ⟨g2,p2,c2,kk2⟩:=Box.init wg1 (z := [AV.int .i64 0,.str [],.str []]) (cs:=opC x) (n:=3) rfl rfl rfl
 have wg2:=kk2.wf wg1
 have k12:Keep (Old g.n) g g2:=kg.trans (kk2.less kg.n)
 have b12:=b1.keep k12 (b1.lt wg)
 have b52:=b5.keep k12 (b5.lt wg)
 have m1:loadA g2 true 1 (.ptr bs 0)=some (.agg [w]):=b12.loadAgg rfl
 have m5:loadA g2 true 2 (.ptr bt 0)=some (.agg tcs):=b52.loadAgg it.one.1
 have m10:loadA g2 true 3 (.ptr g1.n 0)=some (.agg (opC x)):=c2.loadAgg rfl
 refine aAA (aAG (aAA (aAB ?_)))
 simp only [aMt,go_sem,↓reduceIte,Nat.reduceEqDiff,z64,z66,e1,e5,p2]
 refine aAA (aAB ?_)
 simp only [aNE,go_sem,↓reduceIte,Nat.reduceEqDiff,y1,z1,y5,z5,m1,m5,m10]
 refine (a2b wg2 is (kb.trans (k12.less kb.n)) sm it smt).mono ?_
 rintro _ g3 ⟨k3,rfl⟩
 have k13:Keep (Old g.n) g g3:=k12.trans (k3.less k12.n)
 simp only [go_sem,↓reduceIte,Nat.reduceEqDiff]
 refine aAD ?_
 cases hop:opP l t x
 · rw [hop,Bool.false_and] at hx
   simp only [Bool.not_false,go_sem,↓reduceIte,Nat.reduceEqDiff]
   refine aAK ?_
   simp only [go_sem,↓reduceIte,Nat.reduceEqDiff]
   exact hbad hx _ _ k13 y2 y3
 · rw [hop,Bool.true_and] at hx
   simp only [Bool.not_true,go_sem,↓reduceIte,Nat.reduceEqDiff,Bool.false_eq_true]
   refine aAF ?_
   simp only [go_sem]
   have a1:IntKind.i64.wrap ((j:Int)+1)=((j+1:Nat):Int):=wrapI (n:=j+1) (by omega)
   refine aAB ?_
   simp only [aM5,go_sem,↓reduceIte,Nat.reduceEqDiff,z66,a1]
   exact ⟨ops.length - (j+1),by omega,k13,j+1,rfl,by omega,hx,z64,z65,rfl,y2,y3,y1.trans z1,y5.trans z5,y21,y22,y23,y28,y29,y30⟩
/-- one relation -/
theorem a1U {hb g:H} {w rv:AV} {l:List TypD} {t:TypD} {tcs rcs:List AV} {r:RelD} {bs bt:Nat} {kk o i:Nat} {k:List Fr1} {Q:Post} {z:S} (wg:g.Wf) (is:IsSch 0 hb w l) (sm:SmallS l) (it:IsTyp 0 hb tcs t) (smt:SmallT t) (kb:Keep (Old hb.n) hb g)
 (ir:IsRel 0 hb rcs r) (smr:SmallR r) (b1:Box bs [w] g) (b5:Box bt tcs g)
 (z1:z 1 = .ptr bs 0) (z5:z 5 = .ptr bt 0) (z28:z 28=rv) (z30:z 30 = .int .i64 (kk:Int)) (e1:aAJ 6 rv (.int .i64 (kk:Int))=some (.ptr o i)) (e5:loadA g true 6 (.ptr o i)=some (.agg rcs))
 (hbad:(chkR l t r).1≠0 → ∀ s g',Keep (Old g.n) g g'→s 2 = .int .i64 (chkR l t r).1→s 3 = .str (chkR l t r).2→WExit (EL LX) 0 k Q s g')
 (hgood:(chkR l t r).1=0 → ∀ s g',Keep (Old g.n) g g'→s 2 = .int .i64 0→s 3 = .str []→s 1=z 1→s 5=z 5→s 21=z 21→s 22=z 22→s 23=z 23→s 28=z 28→s 29=z 29→s 30=z 30→WNext (EL LX) k Q s g') :
 WS (EL LX) (.block 3 (.seq (.ops aKG) (.seq (.ops aIg) (.seq (.seq (.ops aHp) (.cond (.tmp 55) (.exit 0) .skip)) (.seq (.seq (.ops aIi) (.seq (.ops aIF) (.cond (.tmp 61) (.seq (.ops aIv) (.exit 0)) .skip))) (.seq (.seq (.ops aFL) (.block 4 (.loop aFN))) (.ops aIK))))))) k Q z g:=by
 obtain ⟨g1,p1,c1,kk1⟩:=Box.init wg (z := [AV.str [],.str [],.str [],.str [],.nils,.nils]) (cs:=rcs) (n:=6) rfl ir.one.1 ir.one.2
 have wg1:=kk1.wf wg
 have kb1:=kb.trans (kk1.less kb.n)
 have b51:=b5.keep kk1 (b5.lt wg)
 have m5:loadA g1 true 2 (.ptr bt 0)=some (.agg tcs):=b51.loadAgg it.one.1
 have m7:loadA g1 true 6 (.ptr g.n 0)=some (.agg rcs):=c1.loadAgg ir.one.1
 refine aAG (aAA (aAB ?_))
 simp only [aKG,go_sem,↓reduceIte,Nat.reduceEqDiff,z28,z30,e1,e5,p1]
 refine aAA (aAB ?_)
 simp only [aIg,go_sem,↓reduceIte,Nat.reduceEqDiff,z5,m5,m7]
 refine (aRj wg1 it.name0 ir.name0 smt.2.1 smr.1).mono ?_
 rintro _ g2 ⟨k2,rfl⟩
 have wg2:=k2.wf wg1
 have k02:Keep (Old g.n) g g2:=kk1.trans (k2.less kk1.n)
 simp only [go_sem,↓reduceIte,Nat.reduceEqDiff]
 obtain ⟨sv,ov,hrcs,⟨s1,r1⟩,s2,r2⟩:=ir
 have ir:IsRel 0 hb rcs r:=⟨sv,ov,hrcs,⟨s1,r1⟩,s2,r2⟩
 -- what stands in the variables, later
 have vt : ∀ g',Keep (Old g1.n) g1 g'→loadA g' true 2 (.ptr bt 0)=some (.agg tcs):=fun g' q=>(b51.keep q (b51.lt wg1)).loadAgg it.one.1
 have vr : ∀ g',Keep (Old g1.n) g1 g'→loadA g' false 1 (.ptr g.n 1)=some (.str r.view)∧loadA g' false 1 (.ptr g.n 2)=some (.str r.edit)∧loadA g' false 1 (.ptr g.n 3)=some (.str r.check)∧loadA g' false 1 (.ptr g.n 4)=some sv:=by
  intro g' q
  have c:=c1.keep q (c1.lt wg1)
  refine ⟨?_,?_,?_,?_⟩
  all_goals rw [c.load,hrcs];rfl
 have noview:(hasP t r.view&&(hasP t r.edit&&hasP t r.check))=false→chkR l t r=(31,pathP t.name r.name):=by intro q;unfold chkR;rw [if_pos q]
 obtain ⟨va,vb,vc,vd⟩:=vr g2 k2
 have vt2:=vt g2 k2
 refine aAA (aAA (aAB ?_))
 simp only [aHp,go_sem,↓reduceIte,Nat.reduceEqDiff,aAC,Nat.zero_add,Nat.add_zero,Nat.reduceAdd,z5,vt2,va]
 refine (aGp wg2 (it.keep (kb1.trans (k2.less kb1.n))) smt).mono ?_
 rintro _ g3 ⟨k3,rfl⟩
 have wg3:=k3.wf wg2
 have k13:Keep (Old g1.n) g1 g3:=k2.trans (k3.less k2.n)
 obtain ⟨va3,vb3,vc3,vd3⟩:=vr g3 k13
 have vt3:=vt g3 k13
 have out : ∀ (s:S) (g':H),Keep (Old g1.n) g1 g'→(hasP t r.view&&(hasP t r.edit&&hasP t r.check))=false→s 2 = .int .i64 31→s 3 = .str (pathP t.name r.name)→WExit (EL LX) 0 k Q s g':=by
  intro s g' q hf q2 q3
  have hc:=noview hf
  refine hbad (by rw [hc];simp) s g' (kk1.trans (q.less kk1.n)) (by rw [q2,hc]) (by rw [q3,hc])
 cases hv:hasP t r.view
 · simp only [go_sem,↓reduceIte,Nat.reduceEqDiff,wanted,decide_true,decide_false,beq_self_eq_true,pickA,show (false==true)=false from rfl,show (true==false)=false from rfl,Bool.false_eq_true,undefA,Bool.not_true,Bool.not_false]
   refine aAD ?_
   simp only [go_sem,↓reduceIte,Nat.reduceEqDiff]
   refine aAK ?_
   simp only [go_sem,↓reduceIte,Nat.reduceEqDiff]
   exact out _ _ k13 (by rw [hv];rfl) rfl rfl
 simp only [go_sem,↓reduceIte,Nat.reduceEqDiff,aAC,Nat.zero_add,Nat.add_zero,Nat.reduceAdd,wanted,decide_true,decide_false,beq_self_eq_true,pickA,show (false==true)=false from rfl,show (true==false)=false from rfl,Bool.false_eq_true,undefA,Bool.not_true,Bool.not_false,z5,vt3,vb3]
 refine (aGp wg3 (it.keep (kb1.trans (k13.less kb1.n))) smt).mono ?_
 rintro _ g4 ⟨k4,rfl⟩
 have wg4:=k4.wf wg3
 have k14:Keep (Old g1.n) g1 g4:=k13.trans (k4.less k13.n)
 obtain ⟨va4,vb4,vc4,vd4⟩:=vr g4 k14
 have vt4:=vt g4 k14
 cases hw:hasP t r.edit
 · simp only [go_sem,↓reduceIte,Nat.reduceEqDiff,wanted,decide_true,decide_false,beq_self_eq_true,pickA,show (false==true)=false from rfl,show (true==false)=false from rfl,Bool.false_eq_true,undefA,Bool.not_true,Bool.not_false]
   refine aAD ?_
   simp only [go_sem,↓reduceIte,Nat.reduceEqDiff]
   refine aAK ?_
   simp only [go_sem,↓reduceIte,Nat.reduceEqDiff]
   exact out _ _ k14 (by rw [hv,hw];rfl) rfl rfl
 simp only [go_sem,↓reduceIte,Nat.reduceEqDiff,aAC,Nat.zero_add,Nat.add_zero,Nat.reduceAdd,wanted,decide_true,decide_false,beq_self_eq_true,pickA,show (false==true)=false from rfl,show (true==false)=false from rfl,Bool.false_eq_true,undefA,Bool.not_true,Bool.not_false,z5,vt4,vc4]
 refine (aGp wg4 (it.keep (kb1.trans (k14.less kb1.n))) smt).mono ?_
 rintro _ g5 ⟨k5,rfl⟩
 have wg5:=k5.wf wg4
 have k15:Keep (Old g1.n) g1 g5:=k14.trans (k5.less k14.n)
 cases hy:hasP t r.check
 · simp only [go_sem,↓reduceIte,Nat.reduceEqDiff,wanted,decide_true,decide_false,beq_self_eq_true,pickA,show (false==true)=false from rfl,show (true==false)=false from rfl,Bool.false_eq_true,undefA,Bool.not_true,Bool.not_false]
   refine aAD ?_
   simp only [go_sem,↓reduceIte,Nat.reduceEqDiff]
   refine aAK ?_
   simp only [go_sem,↓reduceIte,Nat.reduceEqDiff]
   exact out _ _ k15 (by rw [hv,hw,hy];rfl) rfl rfl
 simp only [go_sem,↓reduceIte,Nat.reduceEqDiff,wanted,decide_true,decide_false,beq_self_eq_true,pickA,show (false==true)=false from rfl,show (true==false)=false from rfl,Bool.false_eq_true,undefA,Bool.not_true,Bool.not_false]
 refine aAD ?_
 simp only [go_sem,↓reduceIte,Nat.reduceEqDiff,Bool.false_eq_true]
 refine aAF ?_
 simp only [go_sem]
 have kb5:Keep (Old hb.n) hb g5:=kb1.trans (k15.less kb1.n)
 have b15:=(b1.keep kk1 (b1.lt wg)).keep k15 ((b1.keep kk1 (b1.lt wg)).lt wg1)
 have w5:loadA g5 true 1 (.ptr bs 0)=some (.agg [w]):=b15.loadAgg rfl
 obtain ⟨va5,vb5,vc5,vd5⟩:=vr g5 k15
 refine aAA (aAA (aAB ?_))
 simp only [aIi,go_sem,↓reduceIte,Nat.reduceEqDiff,aAC,Nat.zero_add,Nat.add_zero,Nat.reduceAdd,z1,w5,vd5]
 have ils:IsL 0 2 (fun _ cs x=>cs=subC x) hb sv r.subs:=IsL.of_flat (fun _=>rfl) s1 r1
 have ilo:IsL 0 3 (fun _ cs x=>cs=opC x) hb ov r.ops:=IsL.of_flat (fun _=>rfl) s2 r2
 refine (aZU wg5 is kb5 sm ils smr.2.1).mono ?_
 rintro _ g6 ⟨k6,rfl⟩
 have wg6:=k6.wf wg5
 have k16:Keep (Old g1.n) g1 g6:=k15.trans (k6.less k15.n)
 simp only [go_sem,↓reduceIte,Nat.reduceEqDiff]
 refine aAA (aAB ?_)
 simp only [aIF,go_sem,↓reduceIte,Nat.reduceEqDiff]
 refine aAD ?_
 simp only [go_sem,↓reduceIte,Nat.reduceEqDiff]
 have hall : ¬ (hasP t r.view&&(hasP t r.edit&&hasP t r.check))=false:=by rw [hv,hw,hy];simp
 by_cases hsb:subsK l r.subs 0 r.subs=0
 case neg =>
  have hc:chkR l t r=(subsK l r.subs 0 r.subs,pathP t.name r.name):=by unfold chkR;rw [if_neg hall,if_pos hsb]
  simp only [hsb,decide_false,Bool.not_false,go_sem,↓reduceIte,Nat.reduceEqDiff]
  refine aAA (aAB ?_)
  simp only [aIv,go_sem,↓reduceIte,Nat.reduceEqDiff]
  refine aAK ?_
  simp only [go_sem,↓reduceIte,Nat.reduceEqDiff]
  exact hbad (by rw [hc];exact hsb) _ _ (kk1.trans (k16.less kk1.n)) (by rw [hc];rfl) (by rw [hc];rfl)
 simp only [hsb,decide_true,Bool.not_true,go_sem,↓reduceIte,Nat.reduceEqDiff,Bool.false_eq_true]
 refine aAF ?_
 simp only [go_sem]
 have hc:chkR l t r=if r.ops.all (opP l t)=true then (0,[]) else (31,pathP t.name r.name):=by unfold chkR;rw [if_neg hall,if_neg (by rw [hsb];simp)]
 have kb6:Keep (Old hb.n) hb g6:=kb1.trans (k16.less kb1.n)
 have b16:=(b1.keep kk1 (b1.lt wg)).keep k16 ((b1.keep kk1 (b1.lt wg)).lt wg1)
 have b56:=b51.keep k16 (b51.lt wg1)
 have c16:=c1.keep k16 (c1.lt wg1)
 refine aAA (a0v wg6 is sm it smt kb6 ilo smr.2.2 b16 b56 c16 (by rw [hrcs];rfl) z1 z5 rfl ?_ ?_)
 · intro hf s g' q q2 q3
   rw [if_neg (by rw [hf];simp)] at hc
   simp only [go_sem,↓reduceIte,Nat.reduceEqDiff]
   exact hbad (by rw [hc];simp) _ _ (kk1.trans ((k16.trans (q.less k16.n)).less kk1.n)) (by rw [q2,hc];rfl) (by rw [q3,hc];rfl)
 · intro hf s g' q y1 y5 y21 y22 y23 y28 y29 y30
   rw [if_pos hf] at hc
   simp only [go_sem]
   refine aAB ?_
   simp only [aIK,go_sem,↓reduceIte,Nat.reduceEqDiff]
   exact hgood (by rw [hc]) _ _ (kk1.trans ((k16.trans (q.less k16.n)).less kk1.n)) rfl rfl y1 y5 y21 y22 y23 y28 y29 y30
/-- the relations of one type -/
theorem a0S {hb g:H} {w:AV} {l:List TypD} {t:TypD} {tcs:List AV} {bs bt:Nat} {k:List Fr1} {Q:Post} {z:S} (wg:g.Wf) (is:IsSch 0 hb w l) (sm:SmallS l) (it:IsTyp 0 hb tcs t) (smt:SmallT t) (kb:Keep (Old hb.n) hb g)
 (b1:Box bs [w] g) (b5:Box bt tcs g) (z1:z 1 = .ptr bs 0) (z5:z 5 = .ptr bt 0) (z2:z 2 = .int .i64 0) (z3:z 3 = .str [])
 (hbad:(chkRs l t t.rels).1≠0 → ∀ s g',Keep (Old g.n) g g'→s 2 = .int .i64 (chkRs l t t.rels).1→s 3 = .str (chkRs l t t.rels).2→WExit (EL LX) 0 k Q s g')
 (hgood:(chkRs l t t.rels).1=0 → ∀ s g',Keep (Old g.n) g g'→s 2 = .int .i64 0→s 3 = .str []→s 1=z 1→s 21=z 21→s 22=z 22→s 23=z 23→WNext (EL LX) k Q s g') :
 WS (EL LX) (.seq (.ops aKR) (.block 2 (.loop aI3))) k Q z g:=by
 obtain ⟨rv,hcs,il⟩:=it
 have it:IsTyp 0 hb tcs t:=⟨rv,hcs,il⟩
 have l1:loadA g false 1 (.ptr bt 1)=some rv:=by rw [b5.load,hcs];rfl
 have hlen:=il.len
 refine aAA (aAB ?_)
 simp only [aKR,go_sem,↓reduceIte,Nat.reduceEqDiff,aAC,Nat.zero_add,Nat.add_zero,Nat.reduceAdd,z5,l1,hlen]
 refine aAG (aAP (fun m s g'=>Keep (Old g.n) g g' ∧ ∃ j,m=t.rels.length - j∧j≤t.rels.length∧chkRs l t t.rels=chkRs l t (t.rels.drop j)∧s 28=rv∧s 29 = .int .i64 (t.rels.length:Int)∧s 30 = .int .i64 (j:Int)∧s 2 = .int .i64 0∧s 3 = .str []∧s 1 = .ptr bs 0∧s 5 = .ptr bt 0∧s 21=z 21∧s 22=z 22∧s 23=z 23) ?_ t.rels.length ?_)
 case refine_2=>exact ⟨Keep.refl _ _,0,rfl,Nat.zero_le _,rfl,rfl,rfl,rfl,z2,z3,z1,z5,rfl,rfl,rfl⟩
 rintro m s g1 ⟨kg,j,rfl,hj,hx,y28,y29,y30,y2,y3,y1,y5,y21,y22,y23⟩
 show WS (EL LX) aI3 _ _ _ _
 refine aAA (aAB ?_)
 simp only [aOm,go_sem,↓reduceIte,Nat.reduceEqDiff,y29,y30]
 refine aAA (aAD ?_)
 simp only [go_sem,↓reduceIte,Nat.reduceEqDiff]
 by_cases hjl:j<t.rels.length
 case neg =>
  have hjl' : ¬ (j:Int)<(t.rels.length:Int):=by omega
  simp only [hjl',decide_false,go_sem,↓reduceIte,Nat.reduceEqDiff,Bool.false_eq_true]
  refine aAK ?_
  simp only [go_sem,↓reduceIte,Nat.reduceEqDiff]
  rw [List.drop_eq_nil_of_le (by omega)] at hx
  exact hgood (by rw [hx];rfl) _ _ kg y2 y3 (y1.trans z1.symm) y21 y22 y23
 have hjl':(j:Int)<(t.rels.length:Int):=by omega
 simp only [hjl',decide_true,go_sem,↓reduceIte,Nat.reduceEqDiff]
 refine aAF ?_
 simp only [go_sem]
 have wg1:=kg.wf wg
 have kbg:=kb.trans (kg.less kb.n)
 obtain ⟨o,i,rcs,e1,e2,ir,e4,e5⟩:=IsL.atK il kbg hjl (by decide) .i64
 rw [List.drop_eq_getElem_cons hjl] at hx
 have smr:=smt.2.2 _ (List.getElem_mem hjl)
 generalize hxe:t.rels[j]=r at hx ir smr
 simp only [chkRs] at hx
 refine aAA (a1U (bs:=bs) (bt:=bt) wg1 is sm it smt kbg ir smr (b1.keep kg (b1.lt wg)) (b5.keep kg (b5.lt wg)) y1 y5 y28 y30 e1 e5 ?_ ?_)
 · intro hne s' g' q q2 q3
   rw [if_neg hne] at hx
   simp only [go_sem,↓reduceIte,Nat.reduceEqDiff]
   exact hbad (by rw [hx];exact hne) _ _ (kg.trans (q.less kg.n)) (by rw [q2,hx]) (by rw [q3,hx])
 · intro hz s' g' q q2 q3 q1 q5 q21 q22 q23 q28 q29 q30
   rw [if_pos hz] at hx
   have a1:IntKind.i64.wrap ((j:Int)+1)=((j+1:Nat):Int):=wrapI (n:=j+1) (by have:=smt.1;omega)
   have q30':s' 30 = .int .i64 (j:Int):=q30.trans y30
   simp only [go_sem]
   refine aAB ?_
   simp only [aND,go_sem,↓reduceIte,Nat.reduceEqDiff,q30',a1]
   exact ⟨t.rels.length - (j+1),by omega,kg.trans (q.less kg.n),j+1,rfl,by omega,hx,q28.trans y28,q29.trans y29,rfl,q2,q3,q1.trans y1,q5.trans y5,q21.trans y21,q22.trans y22,q23.trans y23⟩
theorem aTl {w:AV} {l:List TypD} {hb h:H} (wf:h.Wf) (is:IsSch 0 hb w l) (kb:Keep (Old hb.n) hb h) (sm:SmallS l) :
 WCall (EL LX) aLG [.agg [w]] h (CntQ h (checkP l)):=by
 obtain ⟨h1,hg1,b1,k1,w1,n1⟩:=aAR wf [w]
 have hlen:=is.len
 have l0:loadA h1 true 1 (.ptr h.n 0)=some (.agg [w]):=b1.loadAgg rfl
 refine aAI ((EL_ov _ _).trans rfl) (EL_T aVb) (by simp [aEo]) ?_
 refine aAA (aAB ?_)
 simp only [aOZ,go_sem,↓reduceIte,Nat.reduceEqDiff,enterS,List.getD_cons_zero,List.getD_cons_succ,AV.cells,hg1]
 refine aX6 (aAA (aAA (aAB ?_)))
 simp only [aOM,go_sem,↓reduceIte,Nat.reduceEqDiff,l0]
 refine (aX8 w1 is (kb.trans (k1.less kb.n)) sm).mono ?_
 rintro _ g0 ⟨k0,rfl⟩
 have wg0:=k0.wf w1
 have b10:=b1.keep k0 (b1.lt w1)
 simp only [go_sem,↓reduceIte,Nat.reduceEqDiff,aAM,List.getElem?_cons_zero,List.getElem?_cons_succ]
 refine aAA (aAB ?_)
 simp only [aOO,go_sem,↓reduceIte,Nat.reduceEqDiff]
 refine aAD ?_
 simp only [go_sem,↓reduceIte,Nat.reduceEqDiff]
 by_cases hc:(aCw l).1=0
 case neg =>
  have hr:checkP l=aCw l:=by unfold checkP;rw [if_neg hc]
  simp only [hc,decide_false,Bool.not_false,go_sem,↓reduceIte,Nat.reduceEqDiff]
  refine aAA (aAB ?_)
  simp only [aOS,go_sem,↓reduceIte,Nat.reduceEqDiff]
  refine aAE ?_
  simp only [go_sem,aEo,List.map_cons,List.map_nil,go_sem,↓reduceIte,Nat.reduceEqDiff]
  rw [hr]
  exact ⟨k1.trans (k0.less (by omega)),rfl⟩
 have hr:checkP l=chkTs l l:=by unfold checkP;rw [if_pos hc]
 have hcz:=aXb hc
 rw [hr,hcz]
 simp only [decide_true,Bool.not_true,go_sem,↓reduceIte,Nat.reduceEqDiff,Bool.false_eq_true]
 refine aAF ?_
 simp only [go_sem]
 refine aAA (aAF ?_)
 simp only [go_sem]
 have l1:loadA g0 false 1 (.ptr h.n 0)=some w:=b10.load 1 0
 have fini : ∀ (s:S) (g':H) (x:Int×T8s),chkTs l l=x→Keep (Old g0.n) g0 g'→s 2 = .int .i64 x.1→s 3 = .str x.2→WS (EL LX) (.seq (.ops aIr) .ret) [] (atEnd aEo.results (CntQ h (chkTs l l))) s g':=by
  intro s g' x hx q q2 q3
  refine aAA (aAB ?_)
  simp only [aIr,go_sem,↓reduceIte,Nat.reduceEqDiff,q2,q3]
  refine aAE ?_
  simp only [go_sem,aEo,List.map_cons,List.map_nil,go_sem,↓reduceIte,Nat.reduceEqDiff]
  rw [hx]
  exact ⟨(k1.trans (k0.less (by omega))).trans (q.less (by have:=k0.n;omega)),rfl⟩
 refine aAA (aAA (aAB ?_))
 simp only [aO4,go_sem,↓reduceIte,Nat.reduceEqDiff,aAC,Nat.zero_add,Nat.add_zero,Nat.reduceAdd,l1,hlen]
 refine aAG (aAP (fun m z g=>Keep (Old g0.n) g0 g ∧ ∃ j,m=l.length - j∧j≤l.length∧chkTs l l=chkTs l (l.drop j)∧z 1 = .ptr h.n 0∧z 2 = .int .i64 0∧z 3 = .str []∧z 21=w∧z 22 = .int .i64 (l.length:Int)∧z 23 = .int .i64 (j:Int)) ?_ l.length ?_)
 case refine_2=>exact ⟨Keep.refl _ _,0,rfl,Nat.zero_le _,rfl,rfl,rfl,rfl,rfl,rfl,rfl⟩
 rintro m z g ⟨kg,j,rfl,hj,hx,z1,z2,z3,z21,z22,z23⟩
 show WS (EL LX) aNL _ _ _ _
 refine aAA (aAB ?_)
 simp only [aOh,go_sem,↓reduceIte,Nat.reduceEqDiff,z22,z23]
 refine aAA (aAD ?_)
 simp only [go_sem,↓reduceIte,Nat.reduceEqDiff]
 by_cases hjl:j<l.length
 case neg =>
  have hjl' : ¬ (j:Int)<(l.length:Int):=by omega
  simp only [hjl',decide_false,go_sem,↓reduceIte,Nat.reduceEqDiff,Bool.false_eq_true]
  refine aAK ?_
  simp only [go_sem,↓reduceIte,Nat.reduceEqDiff]
  rw [List.drop_eq_nil_of_le (by omega)] at hx
  exact fini _ _ (0,[]) hx kg z2 z3
 have hjl':(j:Int)<(l.length:Int):=by omega
 simp only [hjl',decide_true,go_sem,↓reduceIte,Nat.reduceEqDiff]
 refine aAF ?_
 simp only [go_sem]
 have wg:=kg.wf wg0
 have kbg:Keep (Old hb.n) hb g:=((kb.trans (k1.less kb.n)).trans (k0.less (by have:=kb.n;have:=k1.n;omega))).trans (kg.less (by have:=kb.n;have:=k1.n;have:=k0.n;omega))
 obtain ⟨o,i,tcs,e1,e2,it,e4,e5⟩:=IsL.atK is kbg hjl (by decide) .i64
 rw [List.drop_eq_getElem_cons hjl] at hx
 have smt:=sm.2 _ (List.getElem_mem hjl)
 generalize hxe:l[j]=t at hx it smt
 simp only [chkTs] at hx
 obtain ⟨g1,p1,c1,kk1⟩:=Box.init wg (z := [AV.str [],.nils]) (cs:=tcs) (n:=2) rfl e2 it.one.2
 have wg1:=kk1.wf wg
 have k01:Keep (Old g0.n) g0 g1:=kg.trans (kk1.less kg.n)
 refine aAA (aAG (aAA (aAB ?_)))
 simp only [aOV,go_sem,↓reduceIte,Nat.reduceEqDiff,z21,z23,e1,e5,p1]
 refine a0S (bs:=h.n) (bt:=g.n) wg1 is sm it smt (kbg.trans (kk1.less kbg.n)) (b10.keep k01 (b10.lt wg0)) c1 z1 rfl z2 z3 ?_ ?_
 · intro hne s' g' q q2 q3
   rw [if_neg hne] at hx
   simp only [go_sem,↓reduceIte,Nat.reduceEqDiff]
   exact fini _ _ _ hx (k01.trans (q.less k01.n)) q2 q3
 · intro hz s' g' q q2 q3 q1 q21 q22 q23
   rw [if_pos hz] at hx
   have a1:IntKind.i64.wrap ((j:Int)+1)=((j+1:Nat):Int):=wrapI (n:=j+1) (by have:=sm.1;omega)
   have q23':s' 23 = .int .i64 (j:Int):=q23.trans z23
   simp only [go_sem]
   refine aAB ?_
   simp only [aMd,go_sem,↓reduceIte,Nat.reduceEqDiff,q23',a1]
   exact ⟨l.length - (j+1),by omega,k01.trans (q.less k01.n),j+1,rfl,by omega,hx,q1.trans z1,q2,q3,q21.trans z21,q22.trans z22,rfl⟩
end Go.Proofs.YtdbmeidhlijopaaGreatDoor.Ev.C

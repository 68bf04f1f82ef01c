/- Which element is the first of a kind: slices.IndexFunc, ContainsFunc, Index, Contains over a schema's parts. -/
import Derived.Test.YtdbmeidhlijopaaDoorTT2
namespace Go.Proofs.YtdbmeidhlijopaaDoor.Ev.C
open Go Go.Proofs.YtdbmeidhlijopaaDoor.Ev
set_option linter.unusedSimpArgs false
set_option linter.unusedVariables false
/-- where the first such element stands; below 0: nowhere -/
def ixF {α:Type} (p:α→Bool):List α→Nat→Int
 | [],_ => -1
 | x::r,j=>if p x=true then (j:Int) else ixF p r (j+1)
theorem ixF_spec {α:Type} (p:α→Bool) : ∀ (l:List α) (j:Nat),(ixF p l j = -1∧l.find? p=none∧l.any p=false) ∨ ∃ (i:Nat) (hi:i<l.length),ixF p l j=((j+i:Nat):Int)∧l.find? p=some l[i]∧l.any p=true
 | [],j => .inl ⟨rfl,rfl,rfl⟩
 | x::r,j=>by
  by_cases h:p x=true
  · right
    exact ⟨0,by simp,by simp [ixF,h],by simp [h],by simp [h]⟩
  · have h':p x=false:=by simpa using h
    rcases ixF_spec p r (j+1) with ⟨h1,h2,h3⟩ | ⟨i,hi,h1,h2,h3⟩
    · left;exact ⟨by simp only [ixF,if_neg h,h1],by simp [List.find?_cons,h',h2],by simp [h',h3]⟩
    · right
      refine ⟨i+1,by simp;omega,?_,by simp [List.find?_cons,h',h2],by simp [h',h3]⟩
      simp only [ixF,if_neg h,h1];congr 1;omega
theorem ixF_any {α:Type} (p:α→Bool) (l:List α):decide (0≤ixF p l 0)=l.any p:=by
 rcases ixF_spec p l 0 with ⟨h1,h2,h3⟩ | ⟨i,hi,h1,h2,h3⟩
 · rw [h1,h3];rfl
 · rw [h1,h3];simp
theorem idxf_T {α:Type} {P:H→List AV→α→Prop} {h:H} {v:AV} {l:List α} (a:IsL 0 2 P h v l) (hP : ∀ h g cs x,RK (Apart [] h) h g→P h cs x→P g cs x) {f:Nat} {caps:List AV} (p:α→Bool)
 (hf : ∀ g cs x,Keep (Old h.n) h g→P g cs x→cs.length=2→WCall (EL LX) f (.agg cs::caps) g (fun r g'=>Keep (Old g.n) g g'∧r = .val (.bool (p x)))) (hl:l.length<1000000000) :
 WCall (EL LX) n_slices_IndexFunc_parse_Type_parse_Type [v,.func f caps] h fun r g=>Keep (Old h.n) h g∧r = .val (.int .i64 (ixF p l 0)):=by
 have hlen:=a.len
 refine WCall_ws ((EL_ov _ _).trans rfl) (EL_T T_slices_IndexFunc_parse_Type_parse_Type) (by simp [slices_IndexFunc_parse_Type_parse_Type_a]) ?_
 refine WS_of_seq (WS_of_ops ?_)
 simp only [slices_IndexFunc_parse_Type_parse_Type_r0,go_sem,↓reduceIte,Nat.reduceEqDiff,enterS,List.getD_cons_zero,List.getD_cons_succ]
 refine WS_of_seq (WS_of_seq (WS_of_ops ?_))
 simp only [slices_IndexFunc_parse_Type_parse_Type_r1,go_sem,↓reduceIte,Nat.reduceEqDiff,enterS,List.getD_cons_zero,List.getD_cons_succ,hlen]
 refine WS_of_block (WS_of_loop (fun m z g=>Keep (Old h.n) h g ∧ ∃ j,m=l.length - j∧j≤l.length∧ixF p l 0=ixF p (l.drop j) j∧z 0=v∧z 1 = .func f caps∧z 7 = .int .i64 (l.length:Int)∧z 8 = .int .i64 (j:Int)) ?_ l.length ?_)
 case refine_2=>exact ⟨Keep.refl _ _,0,rfl,Nat.zero_le _,rfl,rfl,rfl,rfl,rfl⟩
 rintro m z g ⟨kg,j,rfl,hj,hx,z0,z1,z7,z8⟩
 show WS (EL LX) slices_IndexFunc_parse_Type_parse_Type_l7 _ _ _ _
 refine WS_of_seq (WS_of_ops ?_)
 simp only [slices_IndexFunc_parse_Type_parse_Type_r2,go_sem,↓reduceIte,Nat.reduceEqDiff,z7,z8]
 refine WS_of_seq (WS_of_cond ?_)
 simp only [go_sem,↓reduceIte,Nat.reduceEqDiff]
 by_cases hjl:j<l.length
 case neg =>
  have hjl' : ¬ (j:Int)<(l.length:Int):=by omega
  simp only [hjl',decide_false,go_sem,↓reduceIte,Nat.reduceEqDiff,Bool.false_eq_true]
  refine WS_of_exit ?_
  simp only [go_sem,↓reduceIte,Nat.reduceEqDiff]
  refine WS_of_seq (WS_of_ops ?_)
  simp only [slices_IndexFunc_parse_Type_parse_Type_r8,go_sem,↓reduceIte,Nat.reduceEqDiff]
  refine WS_of_ret ?_
  simp only [go_sem,slices_IndexFunc_parse_Type_parse_Type_a,List.map_cons,List.map_nil,go_sem,↓reduceIte,Nat.reduceEqDiff]
  rw [List.drop_eq_nil_of_le (by omega)] at hx
  rw [hx]
  exact ⟨kg,rfl⟩
 have hjl':(j:Int)<(l.length:Int):=by omega
 simp only [hjl',decide_true,go_sem,↓reduceIte,Nat.reduceEqDiff]
 refine WS_of_skip ?_
 simp only [go_sem]
 have ag:IsL 0 2 P g v l:=a.rk (gs := []) (by simp) (kg.rk.apart) fun cs x q=>hP h g cs x kg.rk.apart q
 obtain ⟨o,i,cs,e1,e2,e3,e4,e5⟩:=ag.at hjl (by decide) .i64
 refine WS_of_seq (WS_of_block (WS_of_seq (WS_of_ops ?_)))
 simp only [slices_IndexFunc_parse_Type_parse_Type_r3,go_sem,↓reduceIte,Nat.reduceEqDiff,z8]
 refine WS_of_seq (WS_of_ops ?_)
 simp only [slices_IndexFunc_parse_Type_parse_Type_r4,go_sem,↓reduceIte,Nat.reduceEqDiff,z0,z1,e1,e5,WFn,List.cons_append,List.nil_append]
 refine (hf g cs _ kg e3 e2).mono ?_
 rintro _ g' ⟨kg',rfl⟩
 simp only [go_sem,↓reduceIte,Nat.reduceEqDiff]
 refine WS_of_cond ?_
 simp only [go_sem,↓reduceIte,Nat.reduceEqDiff]
 rw [List.drop_eq_getElem_cons hjl] at hx
 simp only [ixF] at hx
 by_cases hp:p l[j]=true
 · rw [if_pos hp] at hx
   simp only [hp,go_sem,↓reduceIte,Nat.reduceEqDiff]
   refine WS_of_seq (WS_of_ops ?_)
   simp only [slices_IndexFunc_parse_Type_parse_Type_r5,go_sem,↓reduceIte,Nat.reduceEqDiff]
   refine WS_of_ret ?_
   simp only [go_sem,slices_IndexFunc_parse_Type_parse_Type_a,List.map_cons,List.map_nil,go_sem,↓reduceIte,Nat.reduceEqDiff]
   rw [hx]
   exact ⟨kg.trans (kg'.less kg.n),rfl⟩
 · rw [if_neg hp] at hx
   have hp':p l[j]=false:=by simpa using hp
   simp only [hp',go_sem,↓reduceIte,Nat.reduceEqDiff,Bool.false_eq_true]
   refine WS_of_skip ?_
   simp only [go_sem]
   have a1:IntKind.i64.wrap ((j:Int)+1)=((j+1:Nat):Int):=wrapI (n:=j+1) (by omega)
   refine WS_of_ops ?_
   simp only [slices_IndexFunc_parse_Type_parse_Type_r6,go_sem,↓reduceIte,Nat.reduceEqDiff,z8,a1]
   exact ⟨l.length - (j+1),by omega,kg.trans (kg'.less kg.n),j+1,rfl,by omega,hx,z0,z1,z7,rfl⟩
theorem idxf_R {α:Type} {P:H→List AV→α→Prop} {h:H} {v:AV} {l:List α} (a:IsL 0 6 P h v l) (hP : ∀ h g cs x,RK (Apart [] h) h g→P h cs x→P g cs x) {f:Nat} {caps:List AV} (p:α→Bool)
 (hf : ∀ g cs x,Keep (Old h.n) h g→P g cs x→cs.length=6→WCall (EL LX) f (.agg cs::caps) g (fun r g'=>Keep (Old g.n) g g'∧r = .val (.bool (p x)))) (hl:l.length<1000000000) :
 WCall (EL LX) n_slices_IndexFunc_parse_Rel_parse_Rel [v,.func f caps] h fun r g=>Keep (Old h.n) h g∧r = .val (.int .i64 (ixF p l 0)):=by
 have hlen:=a.len
 refine WCall_ws ((EL_ov _ _).trans rfl) (EL_T T_slices_IndexFunc_parse_Rel_parse_Rel) (by simp [slices_IndexFunc_parse_Rel_parse_Rel_a]) ?_
 refine WS_of_seq (WS_of_ops ?_)
 simp only [slices_IndexFunc_parse_Rel_parse_Rel_r0,go_sem,↓reduceIte,Nat.reduceEqDiff,enterS,List.getD_cons_zero,List.getD_cons_succ]
 refine WS_of_seq (WS_of_seq (WS_of_ops ?_))
 simp only [slices_IndexFunc_parse_Rel_parse_Rel_r1,go_sem,↓reduceIte,Nat.reduceEqDiff,enterS,List.getD_cons_zero,List.getD_cons_succ,hlen]
 refine WS_of_block (WS_of_loop (fun m z g=>Keep (Old h.n) h g ∧ ∃ j,m=l.length - j∧j≤l.length∧ixF p l 0=ixF p (l.drop j) j∧z 0=v∧z 1 = .func f caps∧z 7 = .int .i64 (l.length:Int)∧z 8 = .int .i64 (j:Int)) ?_ l.length ?_)
 case refine_2=>exact ⟨Keep.refl _ _,0,rfl,Nat.zero_le _,rfl,rfl,rfl,rfl,rfl⟩
 rintro m z g ⟨kg,j,rfl,hj,hx,z0,z1,z7,z8⟩
 show WS (EL LX) slices_IndexFunc_parse_Rel_parse_Rel_l7 _ _ _ _
 refine WS_of_seq (WS_of_ops ?_)
 simp only [slices_IndexFunc_parse_Rel_parse_Rel_r2,go_sem,↓reduceIte,Nat.reduceEqDiff,z7,z8]
 refine WS_of_seq (WS_of_cond ?_)
 simp only [go_sem,↓reduceIte,Nat.reduceEqDiff]
 by_cases hjl:j<l.length
 case neg =>
  have hjl' : ¬ (j:Int)<(l.length:Int):=by omega
  simp only [hjl',decide_false,go_sem,↓reduceIte,Nat.reduceEqDiff,Bool.false_eq_true]
  refine WS_of_exit ?_
  simp only [go_sem,↓reduceIte,Nat.reduceEqDiff]
  refine WS_of_seq (WS_of_ops ?_)
  simp only [slices_IndexFunc_parse_Rel_parse_Rel_r8,go_sem,↓reduceIte,Nat.reduceEqDiff]
  refine WS_of_ret ?_
  simp only [go_sem,slices_IndexFunc_parse_Rel_parse_Rel_a,List.map_cons,List.map_nil,go_sem,↓reduceIte,Nat.reduceEqDiff]
  rw [List.drop_eq_nil_of_le (by omega)] at hx
  rw [hx]
  exact ⟨kg,rfl⟩
 have hjl':(j:Int)<(l.length:Int):=by omega
 simp only [hjl',decide_true,go_sem,↓reduceIte,Nat.reduceEqDiff]
 refine WS_of_skip ?_
 simp only [go_sem]
 have ag:IsL 0 6 P g v l:=a.rk (gs := []) (by simp) (kg.rk.apart) fun cs x q=>hP h g cs x kg.rk.apart q
 obtain ⟨o,i,cs,e1,e2,e3,e4,e5⟩:=ag.at hjl (by decide) .i64
 refine WS_of_seq (WS_of_block (WS_of_seq (WS_of_ops ?_)))
 simp only [slices_IndexFunc_parse_Rel_parse_Rel_r3,go_sem,↓reduceIte,Nat.reduceEqDiff,z8]
 refine WS_of_seq (WS_of_ops ?_)
 simp only [slices_IndexFunc_parse_Rel_parse_Rel_r4,go_sem,↓reduceIte,Nat.reduceEqDiff,z0,z1,e1,e5,WFn,List.cons_append,List.nil_append]
 refine (hf g cs _ kg e3 e2).mono ?_
 rintro _ g' ⟨kg',rfl⟩
 simp only [go_sem,↓reduceIte,Nat.reduceEqDiff]
 refine WS_of_cond ?_
 simp only [go_sem,↓reduceIte,Nat.reduceEqDiff]
 rw [List.drop_eq_getElem_cons hjl] at hx
 simp only [ixF] at hx
 by_cases hp:p l[j]=true
 · rw [if_pos hp] at hx
   simp only [hp,go_sem,↓reduceIte,Nat.reduceEqDiff]
   refine WS_of_seq (WS_of_ops ?_)
   simp only [slices_IndexFunc_parse_Rel_parse_Rel_r5,go_sem,↓reduceIte,Nat.reduceEqDiff]
   refine WS_of_ret ?_
   simp only [go_sem,slices_IndexFunc_parse_Rel_parse_Rel_a,List.map_cons,List.map_nil,go_sem,↓reduceIte,Nat.reduceEqDiff]
   rw [hx]
   exact ⟨kg.trans (kg'.less kg.n),rfl⟩
 · rw [if_neg hp] at hx
   have hp':p l[j]=false:=by simpa using hp
   simp only [hp',go_sem,↓reduceIte,Nat.reduceEqDiff,Bool.false_eq_true]
   refine WS_of_skip ?_
   simp only [go_sem]
   have a1:IntKind.i64.wrap ((j:Int)+1)=((j+1:Nat):Int):=wrapI (n:=j+1) (by omega)
   refine WS_of_ops ?_
   simp only [slices_IndexFunc_parse_Rel_parse_Rel_r6,go_sem,↓reduceIte,Nat.reduceEqDiff,z8,a1]
   exact ⟨l.length - (j+1),by omega,kg.trans (kg'.less kg.n),j+1,rfl,by omega,hx,z0,z1,z7,rfl⟩
theorem idxf_S {α:Type} {P:H→List AV→α→Prop} {h:H} {v:AV} {l:List α} (a:IsL 0 2 P h v l) (hP : ∀ h g cs x,RK (Apart [] h) h g→P h cs x→P g cs x) {f:Nat} {caps:List AV} (p:α→Bool)
 (hf : ∀ g cs x,Keep (Old h.n) h g→P g cs x→cs.length=2→WCall (EL LX) f (.agg cs::caps) g (fun r g'=>Keep (Old g.n) g g'∧r = .val (.bool (p x)))) (hl:l.length<1000000000) :
 WCall (EL LX) n_slices_IndexFunc_parse_Sub_parse_Sub [v,.func f caps] h fun r g=>Keep (Old h.n) h g∧r = .val (.int .i64 (ixF p l 0)):=by
 have hlen:=a.len
 refine WCall_ws ((EL_ov _ _).trans rfl) (EL_T T_slices_IndexFunc_parse_Sub_parse_Sub) (by simp [slices_IndexFunc_parse_Sub_parse_Sub_a]) ?_
 refine WS_of_seq (WS_of_ops ?_)
 simp only [slices_IndexFunc_parse_Sub_parse_Sub_r0,go_sem,↓reduceIte,Nat.reduceEqDiff,enterS,List.getD_cons_zero,List.getD_cons_succ]
 refine WS_of_seq (WS_of_seq (WS_of_ops ?_))
 simp only [slices_IndexFunc_parse_Sub_parse_Sub_r1,go_sem,↓reduceIte,Nat.reduceEqDiff,enterS,List.getD_cons_zero,List.getD_cons_succ,hlen]
 refine WS_of_block (WS_of_loop (fun m z g=>Keep (Old h.n) h g ∧ ∃ j,m=l.length - j∧j≤l.length∧ixF p l 0=ixF p (l.drop j) j∧z 0=v∧z 1 = .func f caps∧z 7 = .int .i64 (l.length:Int)∧z 8 = .int .i64 (j:Int)) ?_ l.length ?_)
 case refine_2=>exact ⟨Keep.refl _ _,0,rfl,Nat.zero_le _,rfl,rfl,rfl,rfl,rfl⟩
 rintro m z g ⟨kg,j,rfl,hj,hx,z0,z1,z7,z8⟩
 show WS (EL LX) slices_IndexFunc_parse_Sub_parse_Sub_l7 _ _ _ _
 refine WS_of_seq (WS_of_ops ?_)
 simp only [slices_IndexFunc_parse_Sub_parse_Sub_r2,go_sem,↓reduceIte,Nat.reduceEqDiff,z7,z8]
 refine WS_of_seq (WS_of_cond ?_)
 simp only [go_sem,↓reduceIte,Nat.reduceEqDiff]
 by_cases hjl:j<l.length
 case neg =>
  have hjl' : ¬ (j:Int)<(l.length:Int):=by omega
  simp only [hjl',decide_false,go_sem,↓reduceIte,Nat.reduceEqDiff,Bool.false_eq_true]
  refine WS_of_exit ?_
  simp only [go_sem,↓reduceIte,Nat.reduceEqDiff]
  refine WS_of_seq (WS_of_ops ?_)
  simp only [slices_IndexFunc_parse_Sub_parse_Sub_r8,go_sem,↓reduceIte,Nat.reduceEqDiff]
  refine WS_of_ret ?_
  simp only [go_sem,slices_IndexFunc_parse_Sub_parse_Sub_a,List.map_cons,List.map_nil,go_sem,↓reduceIte,Nat.reduceEqDiff]
  rw [List.drop_eq_nil_of_le (by omega)] at hx
  rw [hx]
  exact ⟨kg,rfl⟩
 have hjl':(j:Int)<(l.length:Int):=by omega
 simp only [hjl',decide_true,go_sem,↓reduceIte,Nat.reduceEqDiff]
 refine WS_of_skip ?_
 simp only [go_sem]
 have ag:IsL 0 2 P g v l:=a.rk (gs := []) (by simp) (kg.rk.apart) fun cs x q=>hP h g cs x kg.rk.apart q
 obtain ⟨o,i,cs,e1,e2,e3,e4,e5⟩:=ag.at hjl (by decide) .i64
 refine WS_of_seq (WS_of_block (WS_of_seq (WS_of_ops ?_)))
 simp only [slices_IndexFunc_parse_Sub_parse_Sub_r3,go_sem,↓reduceIte,Nat.reduceEqDiff,z8]
 refine WS_of_seq (WS_of_ops ?_)
 simp only [slices_IndexFunc_parse_Sub_parse_Sub_r4,go_sem,↓reduceIte,Nat.reduceEqDiff,z0,z1,e1,e5,WFn,List.cons_append,List.nil_append]
 refine (hf g cs _ kg e3 e2).mono ?_
 rintro _ g' ⟨kg',rfl⟩
 simp only [go_sem,↓reduceIte,Nat.reduceEqDiff]
 refine WS_of_cond ?_
 simp only [go_sem,↓reduceIte,Nat.reduceEqDiff]
 rw [List.drop_eq_getElem_cons hjl] at hx
 simp only [ixF] at hx
 by_cases hp:p l[j]=true
 · rw [if_pos hp] at hx
   simp only [hp,go_sem,↓reduceIte,Nat.reduceEqDiff]
   refine WS_of_seq (WS_of_ops ?_)
   simp only [slices_IndexFunc_parse_Sub_parse_Sub_r5,go_sem,↓reduceIte,Nat.reduceEqDiff]
   refine WS_of_ret ?_
   simp only [go_sem,slices_IndexFunc_parse_Sub_parse_Sub_a,List.map_cons,List.map_nil,go_sem,↓reduceIte,Nat.reduceEqDiff]
   rw [hx]
   exact ⟨kg.trans (kg'.less kg.n),rfl⟩
 · rw [if_neg hp] at hx
   have hp':p l[j]=false:=by simpa using hp
   simp only [hp',go_sem,↓reduceIte,Nat.reduceEqDiff,Bool.false_eq_true]
   refine WS_of_skip ?_
   simp only [go_sem]
   have a1:IntKind.i64.wrap ((j:Int)+1)=((j+1:Nat):Int):=wrapI (n:=j+1) (by omega)
   refine WS_of_ops ?_
   simp only [slices_IndexFunc_parse_Sub_parse_Sub_r6,go_sem,↓reduceIte,Nat.reduceEqDiff,z8,a1]
   exact ⟨l.length - (j+1),by omega,kg.trans (kg'.less kg.n),j+1,rfl,by omega,hx,z0,z1,z7,rfl⟩
theorem contf_R {α:Type} {P:H→List AV→α→Prop} {h:H} {v:AV} {l:List α} (a:IsL 0 6 P h v l) (hP : ∀ h g cs x,RK (Apart [] h) h g→P h cs x→P g cs x) {f:Nat} {caps:List AV} (p:α→Bool)
 (hf : ∀ g cs x,Keep (Old h.n) h g→P g cs x→cs.length=6→WCall (EL LX) f (.agg cs::caps) g (fun r g'=>Keep (Old g.n) g g'∧r = .val (.bool (p x)))) (hl:l.length<1000000000) :
 WCall (EL LX) n_slices_ContainsFunc_parse_Rel_parse_Rel [v,.func f caps] h fun r g=>Keep (Old h.n) h g∧r = .val (.bool (l.any p)):=by
 refine WCall_ws ((EL_ov _ _).trans rfl) (EL_T T_slices_ContainsFunc_parse_Rel_parse_Rel) (by simp [slices_ContainsFunc_parse_Rel_parse_Rel_a]) ?_
 refine WS_of_seq (WS_of_ops ?_)
 simp only [slices_ContainsFunc_parse_Rel_parse_Rel_r0,go_sem,↓reduceIte,Nat.reduceEqDiff,enterS,List.getD_cons_zero,List.getD_cons_succ]
 refine WS_of_seq (WS_of_ops ?_)
 simp only [slices_ContainsFunc_parse_Rel_parse_Rel_r1,go_sem,↓reduceIte,Nat.reduceEqDiff,enterS,List.getD_cons_zero,List.getD_cons_succ]
 refine (idxf_R a hP p hf hl).mono ?_
 rintro _ g ⟨kg,rfl⟩
 simp only [go_sem,↓reduceIte,Nat.reduceEqDiff]
 refine WS_of_ret ?_
 simp only [go_sem,slices_ContainsFunc_parse_Rel_parse_Rel_a,List.map_cons,List.map_nil,go_sem,↓reduceIte,Nat.reduceEqDiff]
 exact ⟨kg,by rw [ixF_any]⟩
theorem contf_S {α:Type} {P:H→List AV→α→Prop} {h:H} {v:AV} {l:List α} (a:IsL 0 2 P h v l) (hP : ∀ h g cs x,RK (Apart [] h) h g→P h cs x→P g cs x) {f:Nat} {caps:List AV} (p:α→Bool)
 (hf : ∀ g cs x,Keep (Old h.n) h g→P g cs x→cs.length=2→WCall (EL LX) f (.agg cs::caps) g (fun r g'=>Keep (Old g.n) g g'∧r = .val (.bool (p x)))) (hl:l.length<1000000000) :
 WCall (EL LX) n_slices_ContainsFunc_parse_Sub_parse_Sub [v,.func f caps] h fun r g=>Keep (Old h.n) h g∧r = .val (.bool (l.any p)):=by
 refine WCall_ws ((EL_ov _ _).trans rfl) (EL_T T_slices_ContainsFunc_parse_Sub_parse_Sub) (by simp [slices_ContainsFunc_parse_Sub_parse_Sub_a]) ?_
 refine WS_of_seq (WS_of_ops ?_)
 simp only [slices_ContainsFunc_parse_Sub_parse_Sub_r0,go_sem,↓reduceIte,Nat.reduceEqDiff,enterS,List.getD_cons_zero,List.getD_cons_succ]
 refine WS_of_seq (WS_of_ops ?_)
 simp only [slices_ContainsFunc_parse_Sub_parse_Sub_r1,go_sem,↓reduceIte,Nat.reduceEqDiff,enterS,List.getD_cons_zero,List.getD_cons_succ]
 refine (idxf_S a hP p hf hl).mono ?_
 rintro _ g ⟨kg,rfl⟩
 simp only [go_sem,↓reduceIte,Nat.reduceEqDiff]
 refine WS_of_ret ?_
 simp only [go_sem,slices_ContainsFunc_parse_Sub_parse_Sub_a,List.map_cons,List.map_nil,go_sem,↓reduceIte,Nat.reduceEqDiff]
 exact ⟨kg,by rw [ixF_any]⟩
end Go.Proofs.YtdbmeidhlijopaaDoor.Ev.C

/- What a schema has: check.has, kind, Find, path. -/
namespace Go.Proofs.YtdbmeidhlijopaaDoor.Ev.C
open Go Go.Proofs.YtdbmeidhlijopaaDoor.Ev
set_option linter.unusedSimpArgs false
set_option linter.unusedVariables false
def emptyT:TypD:=⟨[],[]⟩
def emptyR:RelD:=⟨[],[],[],[],[],[]⟩
def hasP (t:TypD) (rel:T8s):Bool:=t.rels.any fun r=>decide (r.name=rel)
def kindP (l:List TypD) (name:T8s):Option TypD:=l.find? fun t=>decide (t.name=name)
def findR (t:TypD) (rel:T8s):Option RelD:=t.rels.find? fun r=>decide (r.name=rel)
def findP (l:List TypD) (typ rel:T8s):Option RelD:=findR ((kindP l typ).getD emptyT) rel
def pathP (t r:T8s):T8s:=t ++ [46]++r
/-- no list is too long -/
def SmallR (r:RelD):Prop:=r.name.length<1000000∧r.subs.length<1000000∧r.ops.length<1000000
def SmallT (t:TypD):Prop:=t.rels.length<1000000∧t.name.length<1000000 ∧ ∀ r∈t.rels,SmallR r
def SmallS (l:List TypD):Prop:=l.length<1000000 ∧ ∀ t∈l,SmallT t
theorem typ_rk (h g:H) (cs:List AV) (x:TypD) (k:RK (Apart [] h) h g) (a:IsTyp 0 h cs x):IsTyp 0 g cs x:=a.rk (gs := []) (by simp) k
theorem rel_rk (h g:H) (cs:List AV) (x:RelD) (k:RK (Apart [] h) h g) (a:IsRel 0 h cs x):IsRel 0 g cs x:=a.rk (gs := []) (by simp) k
theorem sch_rk {h g:H} {w:AV} {l:List TypD} (k:RK (Apart [] h) h g) (a:IsSch 0 h w l):IsSch 0 g w l:=a.rk (gs := []) (by simp) k
theorem IsTyp.keep {h g:H} {cs:List AV} {x:TypD} (a:IsTyp 0 h cs x) (k:Keep (Old h.n) h g):IsTyp 0 g cs x:=typ_rk h g cs x k.rk.apart a
theorem IsRel.keep {h g:H} {cs:List AV} {x:RelD} (a:IsRel 0 h cs x) (k:Keep (Old h.n) h g):IsRel 0 g cs x:=rel_rk h g cs x k.rk.apart a
theorem IsSch.keep {h g:H} {w:AV} {l:List TypD} (a:IsSch 0 h w l) (k:Keep (Old h.n) h g):IsSch 0 g w l:=sch_rk k.rk.apart a
theorem emptyT_is (h:H):IsTyp 0 h [.str [],.nils] emptyT:=⟨.nils,rfl,IsL.nil _ _ _ _⟩
theorem emptyR_is (h:H):IsRel 0 h [.str [],.str [],.str [],.str [],.nils,.nils] emptyR:=⟨.nils,.nils,rfl,⟨Sl.nil _ _,trivial⟩,Sl.nil _ _,trivial⟩
theorem IsTyp.name0 {N:Nat} {h:H} {cs:List AV} {t:TypD} (a:IsTyp N h cs t):cs[0]? = some (.str t.name):=by obtain ⟨rv,rfl,_⟩:=a;rfl
theorem IsRel.name0 {N:Nat} {h:H} {cs:List AV} {t:RelD} (a:IsRel N h cs t):cs[0]? = some (.str t.name):=by obtain ⟨sv,ov,rfl,_⟩:=a;rfl
theorem IsTyp.one {N:Nat} {h:H} {cs:List AV} {t:TypD} (a:IsTyp N h cs t):cs.length=2∧cs.all AV.one=true:=by
 obtain ⟨rv,rfl,il⟩:=a
 refine ⟨rfl,?_⟩
 simp only [List.all_cons,List.all_nil,(IsL.one il).1,Bool.and_true];rfl
theorem check_kind_1_spec {cs:List AV} {a b:T8s} {bx:Nat} {g:H} (wf:g.Wf) (hc:cs[0]? = some (.str a)) (hb:Box bx [.str b] g) :
 WCall (EL LX) n_check_kind_1 [.agg cs,.ptr bx 0] g fun r g'=>Keep (Old g.n) g g'∧r = .val (.bool (decide (a=b))):=by
 obtain ⟨g1,hg1,b1,k1,w1,n1⟩:=new_box wf cs
 have hb1:=hb.keep k1 (hb.lt wf)
 have l0:loadA g1 false 1 (.ptr g.n 0)=some (.str a):=(b1.load 1 0).trans hc
 have l1:loadA g1 false 1 (.ptr bx 0)=some (.str b):=hb1.load 1 0
 refine WCall_ws ((EL_ov _ _).trans rfl) (EL_T T_check_kind_1) (by simp [check_kind_1_a]) ?_
 refine WS_of_seq (WS_of_ops ?_)
 simp only [check_kind_1_r0,go_sem,↓reduceIte,Nat.reduceEqDiff,enterS,List.getD_cons_zero,List.getD_cons_succ,AV.cells,hg1]
 refine WS_of_seq (WS_of_ops ?_)
 simp only [check_kind_1_r1,go_sem,↓reduceIte,Nat.reduceEqDiff,enterS,List.getD_cons_zero,List.getD_cons_succ,fieldAddrA,Nat.zero_add,Nat.add_zero,Nat.reduceAdd,l0,l1]
 refine WS_of_ret ?_
 simp only [go_sem,check_kind_1_a,List.map_cons,List.map_nil,go_sem,↓reduceIte,Nat.reduceEqDiff]
 exact ⟨k1,trivial⟩
theorem check_has_1_spec {cs:List AV} {a b:T8s} {bx:Nat} {g:H} (wf:g.Wf) (hc:cs[0]? = some (.str a)) (hb:Box bx [.str b] g) :
 WCall (EL LX) n_check_has_1 [.agg cs,.ptr bx 0] g fun r g'=>Keep (Old g.n) g g'∧r = .val (.bool (decide (a=b))):=by
 obtain ⟨g1,hg1,b1,k1,w1,n1⟩:=new_box wf cs
 have hb1:=hb.keep k1 (hb.lt wf)
 have l0:loadA g1 false 1 (.ptr g.n 0)=some (.str a):=(b1.load 1 0).trans hc
 have l1:loadA g1 false 1 (.ptr bx 0)=some (.str b):=hb1.load 1 0
 refine WCall_ws ((EL_ov _ _).trans rfl) (EL_T T_check_has_1) (by simp [check_has_1_a]) ?_
 refine WS_of_seq (WS_of_ops ?_)
 simp only [check_has_1_r0,go_sem,↓reduceIte,Nat.reduceEqDiff,enterS,List.getD_cons_zero,List.getD_cons_succ,AV.cells,hg1]
 refine WS_of_seq (WS_of_ops ?_)
 simp only [check_has_1_r1,go_sem,↓reduceIte,Nat.reduceEqDiff,enterS,List.getD_cons_zero,List.getD_cons_succ,fieldAddrA,Nat.zero_add,Nat.add_zero,Nat.reduceAdd,l0,l1]
 refine WS_of_ret ?_
 simp only [go_sem,check_has_1_a,List.map_cons,List.map_nil,go_sem,↓reduceIte,Nat.reduceEqDiff]
 exact ⟨k1,trivial⟩
theorem check_Find_1_spec {cs:List AV} {a b:T8s} {bx:Nat} {g:H} (wf:g.Wf) (hc:cs[0]? = some (.str a)) (hb:Box bx [.str b] g) :
 WCall (EL LX) n_check_Find_1 [.agg cs,.ptr bx 0] g fun r g'=>Keep (Old g.n) g g'∧r = .val (.bool (decide (a=b))):=by
 obtain ⟨g1,hg1,b1,k1,w1,n1⟩:=new_box wf cs
 have hb1:=hb.keep k1 (hb.lt wf)
 have l0:loadA g1 false 1 (.ptr g.n 0)=some (.str a):=(b1.load 1 0).trans hc
 have l1:loadA g1 false 1 (.ptr bx 0)=some (.str b):=hb1.load 1 0
 refine WCall_ws ((EL_ov _ _).trans rfl) (EL_T T_check_Find_1) (by simp [check_Find_1_a]) ?_
 refine WS_of_seq (WS_of_ops ?_)
 simp only [check_Find_1_r0,go_sem,↓reduceIte,Nat.reduceEqDiff,enterS,List.getD_cons_zero,List.getD_cons_succ,AV.cells,hg1]
 refine WS_of_seq (WS_of_ops ?_)
 simp only [check_Find_1_r1,go_sem,↓reduceIte,Nat.reduceEqDiff,enterS,List.getD_cons_zero,List.getD_cons_succ,fieldAddrA,Nat.zero_add,Nat.add_zero,Nat.reduceAdd,l0,l1]
 refine WS_of_ret ?_
 simp only [go_sem,check_Find_1_a,List.map_cons,List.map_nil,go_sem,↓reduceIte,Nat.reduceEqDiff]
 exact ⟨k1,trivial⟩
theorem has_spec {cs:List AV} {t:TypD} {rel:T8s} {h:H} (wf:h.Wf) (it:IsTyp 0 h cs t) (sm:SmallT t) :
 WCall (EL LX) n_check_has [.agg cs,.str rel] h fun r g=>Keep (Old h.n) h g∧r = .val (.bool (hasP t rel)):=by
 obtain ⟨h1,hg1,b1,k1,w1,n1⟩:=new_box wf cs
 obtain ⟨h2,hg2,b2,k2,w2,n2⟩:=new_box w1 [AV.str rel]
 have k02:Keep (Old h.n) h h2:=k1.trans (k2.less (by omega))
 obtain ⟨rv,hcs,il⟩:=it.keep k02
 have b1':=b1.keep k2 (by show h.n<h1.n;omega)
 have l1:loadA h2 false 1 (.ptr h.n 1)=some rv:=by rw [b1'.load,hcs];rfl
 refine WCall_ws ((EL_ov _ _).trans rfl) (EL_T T_check_has) (by simp [check_has_a]) ?_
 refine WS_of_seq (WS_of_ops ?_)
 simp only [check_has_r0,go_sem,↓reduceIte,Nat.reduceEqDiff,enterS,List.getD_cons_zero,List.getD_cons_succ,AV.cells,hg1,hg2]
 refine WS_of_seq (WS_of_ops ?_)
 simp only [check_has_r1,go_sem,↓reduceIte,Nat.reduceEqDiff,enterS,List.getD_cons_zero,List.getD_cons_succ,fieldAddrA,Nat.zero_add,Nat.add_zero,Nat.reduceAdd,l1,List.map_cons,List.map_nil]
 refine (contf_R il rel_rk (fun r=>decide (r.name=rel)) (fun g cs x kg q _=>check_has_1_spec (kg.wf w2) q.name0 (b2.keep kg (b2.lt w2))) (by have:=sm.1;omega)).mono ?_
 rintro _ g ⟨kg,rfl⟩
 simp only [go_sem,↓reduceIte,Nat.reduceEqDiff]
 refine WS_of_ret ?_
 simp only [go_sem,check_has_a,List.map_cons,List.map_nil,go_sem,↓reduceIte,Nat.reduceEqDiff]
 exact ⟨k02.trans (kg.less (by omega)),rfl⟩
theorem kind_spec {w:AV} {l:List TypD} {name:T8s} {hb h:H} (wf:h.Wf) (is:IsSch 0 hb w l) (kb:Keep (Old hb.n) hb h) (sm:l.length<1000000) :
 WCall (EL LX) n_check_kind [.agg [w],.str name] h fun r g=>Keep (Old h.n) h g ∧ ∃ cs,r = .val (.tup [.agg cs,.bool (kindP l name).isSome])∧IsTyp 0 hb cs ((kindP l name).getD emptyT):=by
 obtain ⟨h1,hg1,b1,k1,w1,n1⟩:=new_box wf [w]
 obtain ⟨h2,hg2,b2,k2,w2,n2⟩:=new_box w1 [AV.str name]
 obtain ⟨h3,hg3,b3,k3,w3,n3⟩:=new_box w2 [AV.str [],.nils]
 have k02:Keep (Old h.n) h h2:=k1.trans (k2.less (by omega))
 have k03:Keep (Old h.n) h h3:=k02.trans (k3.less (by omega))
 have is3:=is.keep (kb.trans (k03.less kb.n))
 have b13:=(b1.keep k2 (by show h.n<h1.n;omega)).keep k3 (by show h.n<h2.n;omega)
 have b23:=b2.keep k3 (by show h1.n<h2.n;omega)
 have l0:loadA h3 false 1 (.ptr h.n 0)=some w:=b13.load 1 0
 refine WCall_ws ((EL_ov _ _).trans rfl) (EL_T T_check_kind) (by simp [check_kind_a]) ?_
 refine WS_of_seq (WS_of_ops ?_)
 simp only [check_kind_r0,go_sem,↓reduceIte,Nat.reduceEqDiff,enterS,List.getD_cons_zero,List.getD_cons_succ,AV.cells,hg1,hg2,hg3]
 refine WS_of_seq (WS_of_ops ?_)
 simp only [check_kind_r1,go_sem,↓reduceIte,Nat.reduceEqDiff,enterS,List.getD_cons_zero,List.getD_cons_succ,fieldAddrA,Nat.zero_add,Nat.add_zero,Nat.reduceAdd,l0,List.map_cons,List.map_nil]
 refine (idxf_T is3 typ_rk (fun t=>decide (t.name=name)) (fun g cs x kg q _=>check_kind_1_spec (kg.wf w3) q.name0 (b23.keep kg (b23.lt w3))) (by omega)).mono ?_
 rintro _ g ⟨kg,rfl⟩
 simp only [go_sem,↓reduceIte,Nat.reduceEqDiff]
 have wg:=kg.wf w3
 have k0g:Keep (Old h.n) h g:=k03.trans (kg.less (by omega))
 have b1g:=b13.keep kg (b13.lt w3)
 have b3g:=b3.keep kg (b3.lt w3)
 have lg:loadA g false 1 (.ptr h.n 0)=some w:=b1g.load 1 0
 have hlt3:=b3g.lt wg
 refine WS_of_seq (WS_of_seq (WS_of_ops ?_))
 simp only [check_kind_r2,go_sem,↓reduceIte,Nat.reduceEqDiff]
 refine WS_of_cond ?_
 simp only [go_sem,↓reduceIte,Nat.reduceEqDiff]
 rcases ixF_spec (fun t:TypD=>decide (t.name=name)) l 0 with ⟨q1,q2,q3⟩ | ⟨i,hi,q1,q2,q3⟩
 · have hk:kindP l name=none:=q2
   rw [q1]
   simp only [show decide ((-1:Int)<0)=true from rfl,go_sem,↓reduceIte,Nat.reduceEqDiff]
   obtain ⟨g2,e2,c2,kk2⟩:=Box.putAll wg b3g (vs := [AV.str [],.nils]) (n:=2) rfl rfl rfl
   have bn:afill [AV.str [],.nils] []=some [.str [],.nils]:=rfl
   have ld:loadA g2 true 2 (.ptr h2.n 0)=some (.agg [.str [],.nils]):=c2.loadAgg rfl
   refine WS_of_seq (WS_of_ops ?_)
   simp only [check_kind_r3,go_sem,↓reduceIte,Nat.reduceEqDiff,parts,List.map_nil,bn,Option.map_some,e2]
   refine WS_of_ret ?_
   simp only [go_sem,check_kind_a,List.map_cons,List.map_nil,go_sem,↓reduceIte,Nat.reduceEqDiff,ld,hk,Option.isSome_none,Option.getD_none]
   exact ⟨k0g.trans (kk2.old wg (by have:=k0g.n;omega) (by simp;omega)),_,rfl,emptyT_is _⟩
 · have hk:kindP l name=some l[i]:=q2
   rw [q1]
   have hneg : ¬ (((0+i:Nat):Int)<0):=by omega
   simp only [hneg,decide_false,go_sem,↓reduceIte,Nat.reduceEqDiff,Bool.false_eq_true]
   refine WS_of_skip ?_
   simp only [go_sem]
   obtain ⟨o,j,cs,e1,e2,e3,e4,e5⟩:=IsL.atK is (kb.trans (k0g.less kb.n)) hi (by decide) .i64
   obtain ⟨g2,p2,c2,kk2⟩:=Box.putAll wg b3g (vs:=cs) (n:=2) e2 e3.one.2 rfl
   have ld:loadA g2 true 2 (.ptr h2.n 0)=some (.agg cs):=c2.loadAgg e2
   refine WS_of_seq (WS_of_ops ?_)
   simp only [check_kind_r4,go_sem,↓reduceIte,Nat.reduceEqDiff,fieldAddrA,Nat.zero_add,Nat.add_zero,Nat.reduceAdd,lg,e1,e5,p2]
   have kf:Keep (Old h.n) h g2:=k0g.trans (kk2.old wg (by have:=k0g.n;omega) (by simp;omega))
   refine WS_of_ret ?_
   simp only [go_sem,check_kind_a,List.map_cons,List.map_nil,go_sem,↓reduceIte,Nat.reduceEqDiff,ld,hk,Option.isSome_some,Option.getD_some]
   exact ⟨kf,_,rfl,e3⟩
theorem find_spec {w:AV} {l:List TypD} {typ rel:T8s} {hb h:H} (wf:h.Wf) (is:IsSch 0 hb w l) (kb:Keep (Old hb.n) hb h) (sm:SmallS l) :
 WCall (EL LX) n_check_Find [.agg [w],.str typ,.str rel] h fun r g=>Keep (Old h.n) h g ∧ ∃ cs,r = .val (.tup [.agg cs,.bool (findP l typ rel).isSome])∧IsRel 0 hb cs ((findP l typ rel).getD emptyR):=by
 obtain ⟨h1,hg1,b1,k1,w1,n1⟩:=new_box wf [w]
 obtain ⟨h2,hg2,b2,k2,w2,n2⟩:=new_box w1 [AV.str rel]
 obtain ⟨h3,hg3,b3,k3,w3,n3⟩:=new_box w2 [AV.str [],.str [],.str [],.str [],.nils,.nils]
 have k03:Keep (Old h.n) h h3:=(k1.trans (k2.less (by omega))).trans (k3.less (by omega))
 have kb3:=kb.trans (k03.less kb.n)
 have b13:=(b1.keep k2 (by show h.n<h1.n;omega)).keep k3 (by show h.n<h2.n;omega)
 have b23:=b2.keep k3 (by show h1.n<h2.n;omega)
 have l0:loadA h3 true 1 (.ptr h.n 0)=some (.agg [w]):=b13.loadAgg rfl
 refine WCall_ws ((EL_ov _ _).trans rfl) (EL_T T_check_Find) (by simp [check_Find_a]) ?_
 refine WS_of_seq (WS_of_ops ?_)
 simp only [check_Find_r0,go_sem,↓reduceIte,Nat.reduceEqDiff,enterS,List.getD_cons_zero,List.getD_cons_succ,AV.cells,hg1,hg2,hg3]
 refine WS_of_seq (WS_of_ops ?_)
 simp only [check_Find_r1,go_sem,↓reduceIte,Nat.reduceEqDiff,enterS,List.getD_cons_zero,List.getD_cons_succ,l0]
 refine (kind_spec w3 is kb3 sm.1).mono ?_
 rintro _ g ⟨kg,ct,rfl,it⟩
 have wg:=kg.wf w3
 have smt:SmallT ((kindP l typ).getD emptyT):=by
  cases hk:kindP l typ with
  | none=>exact ⟨by decide,by decide,by intro r hr;cases hr⟩
  | some t=>exact sm.2 t (List.mem_of_find?_eq_some hk)
 have hf:findP l typ rel=findR ((kindP l typ).getD emptyT) rel:=rfl
 generalize (kindP l typ).getD emptyT=t at it smt hf
 obtain ⟨rv,hct,il⟩:=it
 subst hct
 have hcs:([AV.str t.name,rv]).all AV.one=true:=by simp only [List.all_cons,List.all_nil,(IsL.one il).1,Bool.and_true];rfl
 obtain ⟨g1,e1,c1,kk1⟩:=Box.init wg (z := [AV.str [],.nils]) (cs := [.str t.name,rv]) (n:=2) rfl rfl hcs
 have wg1:=kk1.wf wg
 simp only [go_sem,↓reduceIte,Nat.reduceEqDiff,extractA,List.getElem?_cons_zero,List.getElem?_cons_succ,e1]
 have l1:loadA g1 false 1 (.ptr g.n 1)=some rv:=c1.load 1 1
 have kb1:Keep (Old hb.n) hb g1:=(kb3.trans (kg.less kb3.n)).trans (kk1.less (by have:=kb3.n;have:=kg.n;omega))
 have il1:IsL 0 6 (IsRel 0) g1 rv t.rels:=IsL.rk il (gs := []) (by simp) kb1.rk.apart fun cs x q=>rel_rk hb g1 cs x kb1.rk.apart q
 have b2g:=(b23.keep kg (b23.lt w3)).keep kk1 ((b23.keep kg (b23.lt w3)).lt wg)
 have b3g:=(b3.keep kg (b3.lt w3)).keep kk1 ((b3.keep kg (b3.lt w3)).lt wg)
 have k0g:Keep (Old h.n) h g1:=(k03.trans (kg.less (by omega))).trans (kk1.less (by have:=kg.n;omega))
 refine WS_of_seq (WS_of_ops ?_)
 simp only [check_Find_r2,go_sem,↓reduceIte,Nat.reduceEqDiff,enterS,List.getD_cons_zero,List.getD_cons_succ,fieldAddrA,Nat.zero_add,Nat.add_zero,Nat.reduceAdd,l1,List.map_cons,List.map_nil]
 refine (idxf_R il1 rel_rk (fun r=>decide (r.name=rel)) (fun g cs x kg q _=>check_Find_1_spec (kg.wf wg1) q.name0 (b2g.keep kg (b2g.lt wg1))) (by have:=smt.1;omega)).mono ?_
 rintro _ g2 ⟨kg2,rfl⟩
 have wg2:=kg2.wf wg1
 have b32:=b3g.keep kg2 (b3g.lt wg1)
 have c12:=c1.keep kg2 (c1.lt wg1)
 have k0g2:Keep (Old h.n) h g2:=k0g.trans (kg2.less k0g.n)
 simp only [go_sem,↓reduceIte,Nat.reduceEqDiff]
 refine WS_of_seq (WS_of_seq (WS_of_ops ?_))
 simp only [check_Find_r3,go_sem,↓reduceIte,Nat.reduceEqDiff]
 refine WS_of_cond ?_
 simp only [go_sem,↓reduceIte,Nat.reduceEqDiff]
 rcases ixF_spec (fun r:RelD=>decide (r.name=rel)) t.rels 0 with ⟨q1,q2,q3⟩ | ⟨i,hi,q1,q2,q3⟩
 · have hk:findP l typ rel=none:=by rw [hf];exact q2
   rw [q1]
   simp only [show decide ((-1:Int)<0)=true from rfl,go_sem,↓reduceIte,Nat.reduceEqDiff]
   obtain ⟨g3,e3,c3,kk3⟩:=Box.putAll wg2 b32 (vs := [AV.str [],.str [],.str [],.str [],.nils,.nils]) (n:=6) rfl rfl rfl
   have bn:afill [AV.str [],.str [],.str [],.str [],.nils,.nils] []=some [.str [],.str [],.str [],.str [],.nils,.nils]:=rfl
   have ld:loadA g3 true 6 (.ptr h2.n 0)=some (.agg [.str [],.str [],.str [],.str [],.nils,.nils]):=c3.loadAgg rfl
   refine WS_of_seq (WS_of_ops ?_)
   simp only [check_Find_r4,go_sem,↓reduceIte,Nat.reduceEqDiff,parts,List.map_nil,bn,Option.map_some,e3]
   refine WS_of_ret ?_
   simp only [go_sem,check_Find_a,List.map_cons,List.map_nil,go_sem,↓reduceIte,Nat.reduceEqDiff,ld,hk,Option.isSome_none,Option.getD_none]
   exact ⟨k0g2.trans (kk3.old wg2 (by have:=k0g2.n;omega) (by simp;omega)),_,rfl,emptyR_is _⟩
 · have hk:findP l typ rel=some t.rels[i]:=by rw [hf];exact q2
   rw [q1]
   have hneg : ¬ (((0+i:Nat):Int)<0):=by omega
   simp only [hneg,decide_false,go_sem,↓reduceIte,Nat.reduceEqDiff,Bool.false_eq_true]
   refine WS_of_skip ?_
   simp only [go_sem]
   have l2:loadA g2 false 1 (.ptr g.n 1)=some rv:=c12.load 1 1
   obtain ⟨o,j,cs,e1,e2,e3,e4,e5⟩:=IsL.atK il (kb1.trans (kg2.less kb1.n)) hi (by decide) .i64
   obtain ⟨g3,p3,c3,kk3⟩:=Box.putAll wg2 b32 (vs:=cs) (n:=6) e2 e3.one.2 rfl
   have ld:loadA g3 true 6 (.ptr h2.n 0)=some (.agg cs):=c3.loadAgg e2
   refine WS_of_seq (WS_of_ops ?_)
   simp only [check_Find_r5,go_sem,↓reduceIte,Nat.reduceEqDiff,fieldAddrA,Nat.zero_add,Nat.add_zero,Nat.reduceAdd,l2,e1,e5,p3]
   refine WS_of_ret ?_
   simp only [go_sem,check_Find_a,List.map_cons,List.map_nil,go_sem,↓reduceIte,Nat.reduceEqDiff,ld,hk,Option.isSome_some,Option.getD_some]
   exact ⟨k0g2.trans (kk3.old wg2 (by have:=k0g2.n;omega) (by simp;omega)),_,rfl,e3⟩
end Go.Proofs.YtdbmeidhlijopaaDoor.Ev.C

/- Whether a schema's parts hold together: check.path, leads, op, subs. -/
namespace Go.Proofs.YtdbmeidhlijopaaDoor.Ev.C
open Go Go.Proofs.YtdbmeidhlijopaaDoor.Ev
set_option linter.unusedSimpArgs false
set_option linter.unusedVariables false
theorem path_spec {tcs rcs:List AV} {a b:T8s} {h:H} (wf:h.Wf) (ht:tcs[0]? = some (.str a)) (hr:rcs[0]? = some (.str b)) (ha:a.length<1000000) (hb:b.length<1000000) :
 WCall (EL LX) n_check_path [.agg tcs,.agg rcs] h fun r g=>Keep (Old h.n) h g∧r = .val (.str (pathP a b)):=by
 obtain ⟨h1,hg1,b1,k1,w1,n1⟩:=new_box wf tcs
 obtain ⟨h2,hg2,b2,k2,w2,n2⟩:=new_box w1 rcs
 have b1':=b1.keep k2 (by show h.n<h1.n;omega)
 have l0:loadA h2 false 1 (.ptr h.n 0)=some (.str a):=(b1'.load 1 0).trans ht
 have l1:loadA h2 false 1 (.ptr h1.n 0)=some (.str b):=(b2.load 1 0).trans hr
 refine WCall_ws ((EL_ov _ _).trans rfl) (EL_T T_check_path) (by simp [check_path_a]) ?_
 refine WS_of_seq (WS_of_ops ?_)
 simp only [check_path_r0,go_sem,↓reduceIte,Nat.reduceEqDiff,enterS,List.getD_cons_zero,List.getD_cons_succ,AV.cells,hg1,hg2]
 refine WS_of_seq (WS_of_ops ?_)
 simp only [check_path_r1,go_sem,↓reduceIte,Nat.reduceEqDiff,enterS,List.getD_cons_zero,List.getD_cons_succ,fieldAddrA,Nat.zero_add,Nat.add_zero,Nat.reduceAdd,l0,l1]
 refine ⟨by simp [big];omega,by simp [big];omega,?_⟩
 refine WS_of_ret ?_
 simp only [go_sem,check_path_a,List.map_cons,List.map_nil,go_sem,↓reduceIte,Nat.reduceEqDiff]
 exact ⟨k1.trans (k2.less (by omega)),rfl⟩
theorem sub_eq (a b c d:T8s):eqA (.flatK [.s,.s]) (.agg [.str a,.str b]) (.agg [.str c,.str d])=some (decide ((a,b)=(c,d))):=by
 have h1 : ∀ x y:T8s,(x==y)=decide (x=y):=fun x y=>by rw [Bool.eq_iff_iff];simp
 simp [eqA,flatEqK,h1]
/-- does a list have it? -/
theorem index_sub_spec {h:H} {v:AV} {l:List SubD} (wf:h.Wf) (a:IsL 0 2 (fun _ cs x=>cs=subC x) h v l) (x:SubD) (hl:l.length<1000000000) :
 WCall (EL LX) n_slices_Index_parse_Sub_parse_Sub [v,.agg (subC x)] h fun r g=>Keep (Old h.n) h g∧r = .val (.int .i64 (ixF (fun y=>decide (x=y)) l 0)):=by
 obtain ⟨h1,hg1,b1,k1,w1,n1⟩:=new_box wf (subC x)
 have hlen:=a.len
 refine WCall_ws ((EL_ov _ _).trans rfl) (EL_T T_slices_Index_parse_Sub_parse_Sub) (by simp [slices_Index_parse_Sub_parse_Sub_a]) ?_
 refine WS_of_seq (WS_of_ops ?_)
 simp only [slices_Index_parse_Sub_parse_Sub_r0,go_sem,↓reduceIte,Nat.reduceEqDiff,enterS,List.getD_cons_zero,List.getD_cons_succ,AV.cells,hg1]
 refine WS_of_seq (WS_of_seq (WS_of_ops ?_))
 simp only [slices_Index_parse_Sub_parse_Sub_r1,go_sem,↓reduceIte,Nat.reduceEqDiff,enterS,List.getD_cons_zero,List.getD_cons_succ,hlen]
 have lx:loadA h1 true 2 (.ptr h.n 0)=some (.agg (subC x)):=b1.loadAgg rfl
 refine WS_of_block (WS_of_loop (fun m z g=>g=h1 ∧ ∃ j,m=l.length - j∧j≤l.length∧ixF (fun y=>decide (x=y)) l 0=ixF (fun y=>decide (x=y)) (l.drop j) j∧z 0=v∧z 3 = .ptr h.n 0∧z 7 = .int .i64 (l.length:Int)∧z 8 = .int .i64 (j:Int)) ?_ l.length ?_)
 case refine_2=>exact ⟨rfl,0,rfl,Nat.zero_le _,rfl,rfl,rfl,rfl,rfl⟩
 rintro m z g ⟨rfl,j,rfl,hj,hx,z0,z3,z7,z8⟩
 show WS (EL LX) slices_Index_parse_Sub_parse_Sub_l7 _ _ _ _
 refine WS_of_seq (WS_of_ops ?_)
 simp only [slices_Index_parse_Sub_parse_Sub_r2,go_sem,↓reduceIte,Nat.reduceEqDiff,z7,z8]
 refine WS_of_seq (WS_of_cond ?_)
 simp only [go_sem,↓reduceIte,Nat.reduceEqDiff]
 by_cases hjl:j<l.length
 case neg =>
  have hjl' : ¬ (j:Int)<(l.length:Int):=by omega
  simp only [hjl',decide_false,go_sem,↓reduceIte,Nat.reduceEqDiff,Bool.false_eq_true]
  refine WS_of_exit ?_
  simp only [go_sem,↓reduceIte,Nat.reduceEqDiff]
  refine WS_of_seq (WS_of_ops ?_)
  simp only [slices_Index_parse_Sub_parse_Sub_r8,go_sem,↓reduceIte,Nat.reduceEqDiff]
  refine WS_of_ret ?_
  simp only [go_sem,slices_Index_parse_Sub_parse_Sub_a,List.map_cons,List.map_nil,go_sem,↓reduceIte,Nat.reduceEqDiff]
  rw [List.drop_eq_nil_of_le (by omega)] at hx
  rw [hx]
  exact ⟨k1,rfl⟩
 have hjl':(j:Int)<(l.length:Int):=by omega
 simp only [hjl',decide_true,go_sem,↓reduceIte,Nat.reduceEqDiff]
 refine WS_of_skip ?_
 simp only [go_sem]
 obtain ⟨o,i,cs,e1,e2,e3,e4,e5⟩:=IsL.atK a k1 hjl (by decide) .i64
 subst e3
 refine WS_of_seq (WS_of_block (WS_of_seq (WS_of_ops ?_)))
 simp only [slices_Index_parse_Sub_parse_Sub_r3,go_sem,↓reduceIte,Nat.reduceEqDiff,z8]
 have se:eqA (.flatK [.s,.s]) (.agg (subC x)) (.agg (subC l[j]))=some (decide (x=l[j])):=sub_eq _ _ _ _
 refine WS_of_seq (WS_of_draw ?_)
 simp only [slices_Index_parse_Sub_parse_Sub_r4,go_sem,↓reduceIte,Nat.reduceEqDiff,wanted,z0,z3,lx,e1,e5,se,and_self,true_and,List.filter_cons,List.filter_nil,Nat.testBit,Nat.reduceShiftRight,Nat.reduceAnd,Nat.reduceBNe,Bool.not_false,Bool.not_true,Bool.false_eq_true,bne_self_eq_false,WV]
 refine WS_of_cond ?_
 simp only [go_sem,↓reduceIte,Nat.reduceEqDiff]
 rw [List.drop_eq_getElem_cons hjl] at hx
 simp only [ixF] at hx
 by_cases hp:x=l[j]
 · rw [if_pos (by simp [hp])] at hx
   simp only [hp,decide_true,go_sem,↓reduceIte,Nat.reduceEqDiff]
   refine WS_of_seq (WS_of_ops ?_)
   simp only [slices_Index_parse_Sub_parse_Sub_r5,go_sem,↓reduceIte,Nat.reduceEqDiff]
   refine WS_of_ret ?_
   simp only [go_sem,slices_Index_parse_Sub_parse_Sub_a,List.map_cons,List.map_nil,go_sem,↓reduceIte,Nat.reduceEqDiff]
   rw [← hp,hx]
   exact ⟨k1,rfl⟩
 · rw [if_neg (by simp [hp])] at hx
   simp only [hp,decide_false,go_sem,↓reduceIte,Nat.reduceEqDiff,Bool.false_eq_true]
   refine WS_of_skip ?_
   simp only [go_sem]
   have a1:IntKind.i64.wrap ((j:Int)+1)=((j+1:Nat):Int):=wrapI (n:=j+1) (by omega)
   refine WS_of_ops ?_
   simp only [slices_Index_parse_Sub_parse_Sub_r6,go_sem,↓reduceIte,Nat.reduceEqDiff,z8,a1]
   exact ⟨l.length - (j+1),by omega,trivial,j+1,rfl,by omega,hx,z0,z3,z7,rfl⟩
theorem contains_sub_spec {h:H} {v:AV} {l:List SubD} (wf:h.Wf) (a:IsL 0 2 (fun _ cs x=>cs=subC x) h v l) (x:SubD) (hl:l.length<1000000000) :
 WCall (EL LX) n_slices_Contains_parse_Sub_parse_Sub [v,.agg (subC x)] h fun r g=>Keep (Old h.n) h g∧r = .val (.bool (l.any fun y=>decide (x=y))):=by
 obtain ⟨h1,hg1,b1,k1,w1,n1⟩:=new_box wf (subC x)
 have lx:loadA h1 true 2 (.ptr h.n 0)=some (.agg (subC x)):=b1.loadAgg rfl
 refine WCall_ws ((EL_ov _ _).trans rfl) (EL_T T_slices_Contains_parse_Sub_parse_Sub) (by simp [slices_Contains_parse_Sub_parse_Sub_a]) ?_
 refine WS_of_seq (WS_of_ops ?_)
 simp only [slices_Contains_parse_Sub_parse_Sub_r0,go_sem,↓reduceIte,Nat.reduceEqDiff,enterS,List.getD_cons_zero,List.getD_cons_succ,AV.cells,hg1]
 refine WS_of_seq (WS_of_ops ?_)
 simp only [slices_Contains_parse_Sub_parse_Sub_r1,go_sem,↓reduceIte,Nat.reduceEqDiff,enterS,List.getD_cons_zero,List.getD_cons_succ,lx]
 have a1:IsL 0 2 (fun _ cs x=>cs=subC x) h1 v l:=IsL.rk a (gs := []) (by simp) k1.rk.apart fun cs x q=>q
 refine (index_sub_spec w1 a1 x hl).mono ?_
 rintro _ g ⟨kg,rfl⟩
 simp only [go_sem,↓reduceIte,Nat.reduceEqDiff]
 refine WS_of_ret ?_
 simp only [go_sem,slices_Contains_parse_Sub_parse_Sub_a,List.map_cons,List.map_nil,go_sem,↓reduceIte,Nat.reduceEqDiff]
 exact ⟨k1.trans (kg.less (by omega)),by rw [ixF_any]⟩
/-! ### leads, op -/
def leadsX (l:List TypD) (next:T8s) (x:SubD):Bool:=decide (x.2 = [])&&hasP ((kindP l x.1).getD emptyT) next
def leadsP (l:List TypD) (r:RelD) (next:T8s):Bool:=r.subs.any (leadsX l next)
def opP (l:List TypD) (t:TypD) (o:OpD):Bool :=
 if o.1=2 then hasP t o.2.1 else if o.1=3 then (match findP l t.name o.2.1 with | some r=>leadsP l r o.2.2 | none=>false) else true
theorem smallK {l:List TypD} (sm:SmallS l) (name:T8s):SmallT ((kindP l name).getD emptyT):=by
 cases hk:kindP l name with
 | none=>exact ⟨by decide,by decide,by intro r hr;cases hr⟩
 | some t=>exact sm.2 t (List.mem_of_find?_eq_some hk)
theorem leads1_spec {w:AV} {l:List TypD} {next:T8s} {x:SubD} {bs bn:Nat} {hb h:H} (wf:h.Wf) (is:IsSch 0 hb w l) (kb:Keep (Old hb.n) hb h) (sm:SmallS l) (b1:Box bs [w] h) (b2:Box bn [.str next] h) :
 WCall (EL LX) n_check_leads_1 [.agg (subC x),.ptr bs 0,.ptr bn 0] h fun r g=>Keep (Old h.n) h g∧r = .val (.bool (leadsX l next x)):=by
 obtain ⟨h1,hg1,c1,k1,w1,n1⟩:=new_box wf (subC x)
 have b1':=b1.keep k1 (b1.lt wf)
 have b2':=b2.keep k1 (b2.lt wf)
 have l0:loadA h1 true 1 (.ptr bs 0)=some (.agg [w]):=b1'.loadAgg rfl
 have l1:loadA h1 false 1 (.ptr h.n 0)=some (.str x.1):=c1.load 1 0
 refine WCall_ws ((EL_ov _ _).trans rfl) (EL_T T_check_leads_1) (by simp [check_leads_1_a]) ?_
 refine WS_of_seq (WS_of_ops ?_)
 simp only [check_leads_1_r0,go_sem,↓reduceIte,Nat.reduceEqDiff,enterS,List.getD_cons_zero,List.getD_cons_succ,AV.cells,hg1]
 refine WS_of_seq (WS_of_ops ?_)
 simp only [check_leads_1_r1,go_sem,↓reduceIte,Nat.reduceEqDiff,enterS,List.getD_cons_zero,List.getD_cons_succ,fieldAddrA,Nat.zero_add,Nat.add_zero,Nat.reduceAdd,l0,l1]
 have kb1:=kb.trans (k1.less kb.n)
 refine (kind_spec w1 is kb1 sm.1).mono ?_
 rintro _ g ⟨kg,ct,rfl,it⟩
 have wg:=kg.wf w1
 obtain ⟨g1,e1,d1,kk1⟩:=Box.init wg (z := [AV.str [],.nils]) (cs:=ct) (n:=2) rfl it.one.1 it.one.2
 have wg1:=kk1.wf wg
 simp only [go_sem,↓reduceIte,Nat.reduceEqDiff,extractA,List.getElem?_cons_zero,List.getElem?_cons_succ,e1]
 have k0g1:Keep (Old h.n) h g1:=(k1.trans (kg.less (by omega))).trans (kk1.less (by have:=kg.n;omega))
 have c1g:=(c1.keep kg (c1.lt w1)).keep kk1 ((c1.keep kg (c1.lt w1)).lt wg)
 have b2g:=b2.keep k0g1 (b2.lt wf)
 have m1:loadA g1 false 1 (.ptr h.n 1)=some (.str x.2):=c1g.load 1 1
 have m2:loadA g1 true 2 (.ptr g.n 0)=some (.agg ct):=d1.loadAgg it.one.1
 have m3:loadA g1 false 1 (.ptr bn 0)=some (.str next):=b2g.load 1 0
 have kbg:Keep (Old hb.n) hb g1:=kb.trans (k0g1.less kb.n)
 refine WS_of_seq (WS_of_ops ?_)
 by_cases hx:x.2 = []
 · simp only [check_leads_1_r2,go_sem,↓reduceIte,Nat.reduceEqDiff,fieldAddrA,Nat.zero_add,Nat.add_zero,Nat.reduceAdd,m1,hx,decide_true,wanted,decide_true,decide_false,beq_self_eq_true,pickA,show (false==true)=false from rfl,show (true==false)=false from rfl,Bool.false_eq_true,undefA,Bool.not_true,Bool.not_false,m2,m3]
   refine (has_spec wg1 (it.keep kbg) (smallK sm x.1)).mono ?_
   rintro _ g2 ⟨kg2,rfl⟩
   simp only [go_sem,↓reduceIte,Nat.reduceEqDiff,wanted,decide_true,decide_false,beq_self_eq_true,pickA,show (false==true)=false from rfl,show (true==false)=false from rfl,Bool.false_eq_true,undefA,Bool.not_true,Bool.not_false]
   refine WS_of_ret ?_
   simp only [go_sem,check_leads_1_a,List.map_cons,List.map_nil,go_sem,↓reduceIte,Nat.reduceEqDiff]
   exact ⟨k0g1.trans (kg2.less k0g1.n),by simp [leadsX,hx]⟩
 · simp only [check_leads_1_r2,go_sem,↓reduceIte,Nat.reduceEqDiff,fieldAddrA,Nat.zero_add,Nat.add_zero,Nat.reduceAdd,m1,hx,decide_false,wanted,decide_true,decide_false,beq_self_eq_true,pickA,show (false==true)=false from rfl,show (true==false)=false from rfl,Bool.false_eq_true,undefA,Bool.not_true,Bool.not_false]
   refine WS_of_ret ?_
   simp only [go_sem,check_leads_1_a,List.map_cons,List.map_nil,go_sem,↓reduceIte,Nat.reduceEqDiff]
   exact ⟨k0g1,by simp [leadsX,hx]⟩
theorem leads_spec {w:AV} {l:List TypD} {next:T8s} {rcs:List AV} {r:RelD} {hb h:H} (wf:h.Wf) (is:IsSch 0 hb w l) (kb:Keep (Old hb.n) hb h) (sm:SmallS l) (ir:IsRel 0 hb rcs r) (hs:r.subs.length<1000000) :
 WCall (EL LX) n_check_leads [.agg [w],.agg rcs,.str next] h fun rr g=>Keep (Old h.n) h g∧rr = .val (.bool (leadsP l r next)):=by
 obtain ⟨h1,hg1,b1,k1,w1,n1⟩:=new_box wf [w]
 obtain ⟨h2,hg2,b2,k2,w2,n2⟩:=new_box w1 rcs
 obtain ⟨h3,hg3,b3,k3,w3,n3⟩:=new_box w2 [AV.str next]
 have k03:Keep (Old h.n) h h3:=(k1.trans (k2.less (by omega))).trans (k3.less (by omega))
 have kb3:=kb.trans (k03.less kb.n)
 have b13:=(b1.keep k2 (by show h.n<h1.n;omega)).keep k3 (by show h.n<h2.n;omega)
 have b23:=b2.keep k3 (by show h1.n<h2.n;omega)
 obtain ⟨sv,ov,hcs,⟨s1,r1⟩,s2,r2⟩:=ir.keep kb3
 have l4:loadA h3 false 1 (.ptr h1.n 4)=some sv:=by rw [b23.load,hcs];rfl
 have il:IsL 0 2 (fun _ cs x=>cs=subC x) h3 sv r.subs:=IsL.of_flat (fun _=>rfl) s1 r1
 refine WCall_ws ((EL_ov _ _).trans rfl) (EL_T T_check_leads) (by simp [check_leads_a]) ?_
 refine WS_of_seq (WS_of_ops ?_)
 simp only [check_leads_r0,go_sem,↓reduceIte,Nat.reduceEqDiff,enterS,List.getD_cons_zero,List.getD_cons_succ,AV.cells,hg1,hg2,hg3]
 refine WS_of_seq (WS_of_ops ?_)
 simp only [check_leads_r1,go_sem,↓reduceIte,Nat.reduceEqDiff,enterS,List.getD_cons_zero,List.getD_cons_succ,fieldAddrA,Nat.zero_add,Nat.add_zero,Nat.reduceAdd,l4,List.map_cons,List.map_nil]
 refine (contf_S il (fun _ _ _ _ _ q=>q) (leadsX l next) (fun g cs x kg q _ => ?_) (by omega)).mono ?_
 · subst q
   exact leads1_spec (kg.wf w3) is (kb3.trans (kg.less kb3.n)) sm (b13.keep kg (b13.lt w3)) (b3.keep kg (b3.lt w3))
 rintro _ g ⟨kg,rfl⟩
 simp only [go_sem,↓reduceIte,Nat.reduceEqDiff]
 refine WS_of_ret ?_
 simp only [go_sem,check_leads_a,List.map_cons,List.map_nil,go_sem,↓reduceIte,Nat.reduceEqDiff]
 exact ⟨k03.trans (kg.less k03.n),rfl⟩
theorem op_spec {w:AV} {l:List TypD} {tcs:List AV} {t:TypD} {o:OpD} {hb h:H} (wf:h.Wf) (is:IsSch 0 hb w l) (kb:Keep (Old hb.n) hb h) (sm:SmallS l) (it:IsTyp 0 hb tcs t) (smt:SmallT t) :
 WCall (EL LX) n_check_op [.agg [w],.agg tcs,.agg (opC o)] h fun rr g=>Keep (Old h.n) h g∧rr = .val (.bool (opP l t o)):=by
 obtain ⟨h1,hg1,b1,k1,w1,n1⟩:=new_box wf [w]
 obtain ⟨h2,hg2,b2,k2,w2,n2⟩:=new_box w1 tcs
 obtain ⟨h3,hg3,b3,k3,w3,n3⟩:=new_box w2 (opC o)
 have k03:Keep (Old h.n) h h3:=(k1.trans (k2.less (by omega))).trans (k3.less (by omega))
 have kb3:=kb.trans (k03.less kb.n)
 have b13:=(b1.keep k2 (by show h.n<h1.n;omega)).keep k3 (by show h.n<h2.n;omega)
 have b23:=b2.keep k3 (by show h1.n<h2.n;omega)
 have l0:loadA h3 false 1 (.ptr h2.n 0)=some (.int .i64 (o.1:Int)):=b3.load 1 0
 have l1:loadA h3 false 1 (.ptr h2.n 1)=some (.str o.2.1):=b3.load 1 1
 have lt:loadA h3 true 2 (.ptr h1.n 0)=some (.agg tcs):=b23.loadAgg it.one.1
 have lt0:loadA h3 false 1 (.ptr h1.n 0)=some (.str t.name):=(b23.load 1 0).trans it.name0
 have lw:loadA h3 true 1 (.ptr h.n 0)=some (.agg [w]):=b13.loadAgg rfl
 refine WCall_ws ((EL_ov _ _).trans rfl) (EL_T T_check_op) (by simp [check_op_a]) ?_
 refine WS_of_seq (WS_of_ops ?_)
 simp only [check_op_r0,go_sem,↓reduceIte,Nat.reduceEqDiff,enterS,List.getD_cons_zero,List.getD_cons_succ,AV.cells,hg1,hg2,hg3]
 refine WS_of_seq (WS_of_seq (WS_of_ops ?_))
 simp only [check_op_r1,go_sem,↓reduceIte,Nat.reduceEqDiff,enterS,List.getD_cons_zero,List.getD_cons_succ,fieldAddrA,Nat.zero_add,Nat.add_zero,Nat.reduceAdd,l0]
 refine WS_of_block (WS_of_seq (WS_of_ops ?_))
 simp only [check_op_r2,go_sem,↓reduceIte,Nat.reduceEqDiff]
 refine WS_of_cond ?_
 simp only [go_sem,↓reduceIte,Nat.reduceEqDiff]
 by_cases h2:o.1=2
 · have h2':(o.1:Int)=2:=by omega
   simp only [h2',decide_true,go_sem,↓reduceIte,Nat.reduceEqDiff]
   refine WS_of_seq (WS_of_ops ?_)
   simp only [check_op_r3,go_sem,↓reduceIte,Nat.reduceEqDiff,enterS,List.getD_cons_zero,List.getD_cons_succ,fieldAddrA,Nat.zero_add,Nat.add_zero,Nat.reduceAdd,lt,l1]
   refine (has_spec w3 (it.keep kb3) smt).mono ?_
   rintro _ g ⟨kg,rfl⟩
   simp only [go_sem,↓reduceIte,Nat.reduceEqDiff]
   refine WS_of_ret ?_
   simp only [go_sem,check_op_a,List.map_cons,List.map_nil,go_sem,↓reduceIte,Nat.reduceEqDiff]
   exact ⟨k03.trans (kg.less k03.n),by simp [opP,h2]⟩
 have h2' : ¬ (o.1:Int)=2:=by omega
 simp only [h2',decide_false,go_sem,↓reduceIte,Nat.reduceEqDiff,Bool.false_eq_true]
 refine WS_of_seq (WS_of_ops ?_)
 simp only [check_op_r4,go_sem,↓reduceIte,Nat.reduceEqDiff]
 refine WS_of_cond ?_
 simp only [go_sem,↓reduceIte,Nat.reduceEqDiff]
 by_cases h3:o.1=3
 case neg =>
  have h3' : ¬ (o.1:Int)=3:=by omega
  simp only [h3',decide_false,go_sem,↓reduceIte,Nat.reduceEqDiff,Bool.false_eq_true]
  refine WS_of_skip ?_
  simp only [go_sem]
  refine WS_of_seq (WS_of_ops ?_)
  simp only [check_op_r7,go_sem,↓reduceIte,Nat.reduceEqDiff]
  refine WS_of_ret ?_
  simp only [go_sem,check_op_a,List.map_cons,List.map_nil,go_sem,↓reduceIte,Nat.reduceEqDiff]
  exact ⟨k03,by simp [opP,h2,h3]⟩
 have h3':(o.1:Int)=3:=by omega
 simp only [h3',decide_true,go_sem,↓reduceIte,Nat.reduceEqDiff]
 refine WS_of_seq (WS_of_ops ?_)
 simp only [check_op_r5,go_sem,↓reduceIte,Nat.reduceEqDiff,enterS,List.getD_cons_zero,List.getD_cons_succ,fieldAddrA,Nat.zero_add,Nat.add_zero,Nat.reduceAdd,lw,lt0,l1]
 refine (find_spec w3 is kb3 sm).mono ?_
 rintro _ g ⟨kg,cr,rfl,ir⟩
 have wg:=kg.wf w3
 obtain ⟨g1,e1,d1,kk1⟩:=Box.init wg (z := [AV.str [],.str [],.str [],.str [],.nils,.nils]) (cs:=cr) (n:=6) rfl ir.one.1 ir.one.2
 have wg1:=kk1.wf wg
 simp only [go_sem,↓reduceIte,Nat.reduceEqDiff,extractA,List.getElem?_cons_zero,List.getElem?_cons_succ,e1]
 have k3g1:Keep (Old _) _ g1:=kg.trans (kk1.less kg.n)
 have kbg:Keep (Old hb.n) hb g1:=kb3.trans (k3g1.less kb3.n)
 have m0:loadA g1 true 1 (.ptr h.n 0)=some (.agg [w]):=(b13.keep k3g1 (b13.lt w3)).loadAgg rfl
 have m1:loadA g1 true 6 (.ptr g.n 0)=some (.agg cr):=d1.loadAgg ir.one.1
 have b3g:=b3.keep k3g1 (b3.lt w3)
 have hop:opP l t o=(match findP l t.name o.2.1 with | some r=>leadsP l r o.2.2 | none=>false):=by unfold opP;rw [if_neg h2,if_pos h3]
 refine WS_of_seq (WS_of_ops ?_)
 have m2:=b3g.load 1 2
 cases hfd:findP l t.name o.2.1 with
 | none =>
  rw [hfd] at hop
  simp only [check_op_r6,go_sem,↓reduceIte,Nat.reduceEqDiff,fieldAddrA,Nat.zero_add,Nat.add_zero,Nat.reduceAdd,Option.isSome_none,wanted,decide_true,decide_false,beq_self_eq_true,pickA,show (false==true)=false from rfl,show (true==false)=false from rfl,Bool.false_eq_true,undefA,Bool.not_true,Bool.not_false]
  refine WS_of_ret ?_
  simp only [go_sem,check_op_a,List.map_cons,List.map_nil,go_sem,↓reduceIte,Nat.reduceEqDiff]
  exact ⟨k03.trans (k3g1.less k03.n),by rw [hop]⟩
 | some r =>
  rw [hfd] at hop ir
  have m2:loadA g1 false 1 (.ptr _ 2)=some (.str o.2.2):=m2
  simp only [check_op_r6,go_sem,↓reduceIte,Nat.reduceEqDiff,fieldAddrA,Nat.zero_add,Nat.add_zero,Nat.reduceAdd,Option.isSome_some,wanted,decide_true,decide_false,beq_self_eq_true,pickA,show (false==true)=false from rfl,show (true==false)=false from rfl,Bool.false_eq_true,undefA,Bool.not_true,Bool.not_false,m0,m1,m2]
  have hr:r.subs.length<1000000:=by
   have:r∈((kindP l t.name).getD emptyT).rels:=List.mem_of_find?_eq_some hfd
   exact ((smallK sm t.name).2.2 r this).2.1
  refine (leads_spec wg1 is kbg sm ir hr).mono ?_
  rintro _ g2 ⟨kg2,rfl⟩
  simp only [go_sem,↓reduceIte,Nat.reduceEqDiff,wanted,decide_true,decide_false,beq_self_eq_true,pickA,show (false==true)=false from rfl,show (true==false)=false from rfl,Bool.false_eq_true,undefA,Bool.not_true,Bool.not_false]
  refine WS_of_ret ?_
  simp only [go_sem,check_op_a,List.map_cons,List.map_nil,go_sem,↓reduceIte,Nat.reduceEqDiff]
  exact ⟨(k03.trans (k3g1.less k03.n)).trans (kg2.less (Nat.le_trans k03.n k3g1.n)),by rw [hop];rfl⟩
end Go.Proofs.YtdbmeidhlijopaaDoor.Ev.C

/- check.subs, check.counts. -/
namespace Go.Proofs.YtdbmeidhlijopaaDoor.Ev.C
open Go Go.Proofs.YtdbmeidhlijopaaDoor.Ev
set_option linter.unusedSimpArgs false
set_option linter.unusedVariables false
def subBad (l:List TypD) (x:SubD):Bool := !(kindP l x.1).isSome||(!decide (x.2 = []) && !hasP ((kindP l x.1).getD emptyT) x.2)
def subsK (l:List TypD) (all:List SubD):Nat→List SubD→Int
 | _,[]=>0
 | i,x::r=>if subBad l x=true then 31 else if ((all.take i).any fun y=>decide (x=y))=true then 32 else subsK l all (i+1) r
theorem subs_spec {w sv:AV} {l:List TypD} {subs:List SubD} {hb h:H} (wf:h.Wf) (is:IsSch 0 hb w l) (kb:Keep (Old hb.n) hb h) (sm:SmallS l) (ils:IsL 0 2 (fun _ cs x=>cs=subC x) hb sv subs) (hs:subs.length<1000000) :
 WCall (EL LX) n_check_subs [.agg [w],sv] h fun r g=>Keep (Old h.n) h g∧r = .val (.int .i64 (subsK l subs 0 subs)):=by
 obtain ⟨h1,hg1,b1,k1,w1,n1⟩:=new_box wf [w]
 have hlen:=ils.len
 refine WCall_ws ((EL_ov _ _).trans rfl) (EL_T T_check_subs) (by simp [check_subs_a]) ?_
 refine WS_of_seq (WS_of_ops ?_)
 simp only [check_subs_r0,go_sem,↓reduceIte,Nat.reduceEqDiff,enterS,List.getD_cons_zero,List.getD_cons_succ,AV.cells,hg1]
 refine WS_of_seq (WS_of_seq (WS_of_ops ?_))
 simp only [check_subs_r1,go_sem,↓reduceIte,Nat.reduceEqDiff,enterS,List.getD_cons_zero,List.getD_cons_succ,hlen]
 refine WS_of_block (WS_of_loop (fun m z g=>Keep (Old h1.n) h1 g ∧ ∃ j,m=subs.length - j∧j≤subs.length∧subsK l subs 0 subs=subsK l subs j (subs.drop j)∧z 1=sv∧z 2 = .ptr h.n 0∧z 9=sv∧z 10 = .int .i64 (subs.length:Int)∧z 11 = .int .i64 (j:Int)) ?_ subs.length ?_)
 case refine_2=>exact ⟨Keep.refl _ _,0,rfl,Nat.zero_le _,rfl,rfl,rfl,rfl,rfl,rfl⟩
 rintro m z g ⟨kg,j,rfl,hj,hx,z1,z2,z9,z10,z11⟩
 show WS (EL LX) check_subs_l10 _ _ _ _
 have k0g:Keep (Old h.n) h g:=k1.trans (kg.less (by omega))
 have kbg:=kb.trans (k0g.less kb.n)
 refine WS_of_seq (WS_of_ops ?_)
 simp only [check_subs_r2,go_sem,↓reduceIte,Nat.reduceEqDiff,z10,z11]
 refine WS_of_seq (WS_of_cond ?_)
 simp only [go_sem,↓reduceIte,Nat.reduceEqDiff]
 by_cases hjl:j<subs.length
 case neg =>
  have hjl' : ¬ (j:Int)<(subs.length:Int):=by omega
  simp only [hjl',decide_false,go_sem,↓reduceIte,Nat.reduceEqDiff,Bool.false_eq_true]
  refine WS_of_exit ?_
  simp only [go_sem,↓reduceIte,Nat.reduceEqDiff]
  refine WS_of_seq (WS_of_ops ?_)
  simp only [check_subs_r11,go_sem,↓reduceIte,Nat.reduceEqDiff]
  refine WS_of_ret ?_
  simp only [go_sem,check_subs_a,List.map_cons,List.map_nil,go_sem,↓reduceIte,Nat.reduceEqDiff]
  rw [List.drop_eq_nil_of_le (by omega)] at hx
  rw [hx]
  exact ⟨k0g,rfl⟩
 have hjl':(j:Int)<(subs.length:Int):=by omega
 simp only [hjl',decide_true,go_sem,↓reduceIte,Nat.reduceEqDiff]
 refine WS_of_skip ?_
 simp only [go_sem]
 obtain ⟨o,i,cs,e1,e2,e3,e4,e5⟩:=IsL.atK ils kbg hjl (by decide) .i64
 subst e3
 rw [List.drop_eq_getElem_cons hjl] at hx
 generalize hxe:subs[j]=x at hx e5 e4
 have wg:=kg.wf w1
 obtain ⟨g1,p1,c1,kk1⟩:=Box.init wg (z := [AV.str [],.str []]) (cs:=subC x) (n:=2) rfl rfl rfl
 have wg1:=kk1.wf wg
 refine WS_of_seq (WS_of_block (WS_of_seq (WS_of_ops ?_)))
 simp only [check_subs_r3,go_sem,↓reduceIte,Nat.reduceEqDiff,z9,z11,e1,e5,p1]
 have k1g1:Keep (Old h1.n) h1 g1:=kg.trans (kk1.less kg.n)
 have b1g:=b1.keep k1g1 (b1.lt w1)
 have l0:loadA g1 true 1 (.ptr h.n 0)=some (.agg [w]):=b1g.loadAgg rfl
 have l1:loadA g1 false 1 (.ptr g.n 0)=some (.str x.1):=c1.load 1 0
 refine WS_of_seq (WS_of_ops ?_)
 simp only [check_subs_r4,go_sem,↓reduceIte,Nat.reduceEqDiff,fieldAddrA,Nat.zero_add,Nat.add_zero,Nat.reduceAdd,z2,l0,l1]
 refine (kind_spec wg1 is (kbg.trans (kk1.less kbg.n)) sm.1).mono ?_
 rintro _ g2 ⟨kg2,ct,rfl,it⟩
 have wg2:=kg2.wf wg1
 obtain ⟨g3,p3,d3,kk3⟩:=Box.init wg2 (z := [AV.str [],.nils]) (cs:=ct) (n:=2) rfl it.one.1 it.one.2
 have wg3:=kk3.wf wg2
 simp only [go_sem,↓reduceIte,Nat.reduceEqDiff,extractA,List.getElem?_cons_zero,List.getElem?_cons_succ,p3]
 have k13:Keep (Old g1.n) g1 g3:=kg2.trans (kk3.less kg2.n)
 have c3:=c1.keep k13 (c1.lt wg1)
 have k1g3:Keep (Old h1.n) h1 g3:=k1g1.trans (k13.less k1g1.n)
 have kbg3:Keep (Old hb.n) hb g3:=(kb.trans ((k1.trans (k1g3.less (by omega))).less kb.n))
 have m1:loadA g3 false 1 (.ptr g.n 1)=some (.str x.2):=c3.load 1 1
 have m2:loadA g3 true 2 (.ptr g.n 0)=some (.agg (subC x)):=c3.loadAgg rfl
 have m3:loadA g3 true 2 (.ptr g2.n 0)=some (.agg ct):=d3.loadAgg it.one.1
 simp only [subsK] at hx
 have bad:subBad l x=true → ∀ (z':S) (g':H),Keep (Old h1.n) h1 g'→WS (EL LX) (.seq (.ops check_subs_r6) .ret) [.blk 2,.blk 1,.code (.ops check_subs_r9)] (fun ex s_1 h_1=>match ex with
  | .normal => ∃ m,m<subs.length - j∧Keep (Old h1.n) h1 h_1 ∧ ∃ j,m=subs.length - j∧j≤subs.length∧subsK l subs 0 subs=subsK l subs j (subs.drop j)∧s_1 1=sv∧s_1 2 = .ptr h.n 0∧s_1 9=sv∧s_1 10 = .int .i64 (subs.length:Int)∧s_1 11 = .int .i64 (j:Int)
  | ex=>fin (EL LX) [.blk 0,.code (.seq (.ops check_subs_r11) .ret)] (atEnd check_subs_a.results fun r g=>Keep (Old h.n) h g∧r = .val (.int .i64 (subsK l subs 0 subs))) ex s_1 h_1) z' g':=by
  intro hbad z' g' kg'
  rw [if_pos hbad] at hx
  refine WS_of_seq (WS_of_ops ?_)
  simp only [check_subs_r6,go_sem,↓reduceIte,Nat.reduceEqDiff]
  refine WS_of_ret ?_
  simp only [go_sem,check_subs_a,List.map_cons,List.map_nil,go_sem,↓reduceIte,Nat.reduceEqDiff]
  exact ⟨k1.trans (kg'.less (by omega)),by rw [hx]⟩
 have good:subBad l x=false → ∀ (z':S) (g':H),Keep (Old g3.n) g3 g'→z' 1=sv→z' 2 = .ptr h.n 0→z' 9=sv→z' 10 = .int .i64 (subs.length:Int)→z' 11 = .int .i64 (j:Int)→z' 5 = .int .i64 (j:Int)→z' 6 = .ptr g.n 0 →
  WS (EL LX) (.seq (.draw check_subs_r7) (.cond (.tmp 38) (.seq (.ops check_subs_r8) .ret) .skip)) [.blk 2,.blk 1,.code (.ops check_subs_r9)] (fun ex s_1 h_1=>match ex with
   | .normal => ∃ m,m<subs.length - j∧Keep (Old h1.n) h1 h_1 ∧ ∃ j,m=subs.length - j∧j≤subs.length∧subsK l subs 0 subs=subsK l subs j (subs.drop j)∧s_1 1=sv∧s_1 2 = .ptr h.n 0∧s_1 9=sv∧s_1 10 = .int .i64 (subs.length:Int)∧s_1 11 = .int .i64 (j:Int)
   | ex=>fin (EL LX) [.blk 0,.code (.seq (.ops check_subs_r11) .ret)] (atEnd check_subs_a.results fun r g=>Keep (Old h.n) h g∧r = .val (.int .i64 (subsK l subs 0 subs))) ex s_1 h_1) z' g':=by
  intro hgood z' g' kg' y1 y2 y9 y10 y11 y5 y6
  rw [if_neg (by rw [hgood];simp)] at hx
  have wg':=kg'.wf wg3
  have kb':Keep (Old hb.n) hb g':=kbg3.trans (kg'.less kbg3.n)
  have il':IsL 0 2 (fun _ cs x=>cs=subC x) g' sv subs:=IsL.rk ils (gs := []) (by simp) kb'.rk.apart fun cs x q=>q
  obtain ⟨v',ev,ilv⟩:=il'.take (i:=j) hj .i64
  have m2':loadA g' true 2 (.ptr g.n 0)=some (.agg (subC x)):=(c3.keep kg' (c3.lt wg3)).loadAgg rfl
  refine WS_of_seq (WS_of_draw ?_)
  simp only [check_subs_r7,go_sem,↓reduceIte,Nat.reduceEqDiff,wanted,y1,y5,y6,Option.map_some,Option.map_none,ev,m2',and_self,true_and,List.filter_cons,List.filter_nil,Nat.testBit,Nat.reduceShiftRight,Nat.reduceAnd,Nat.reduceBNe,Bool.not_false,Bool.not_true,Bool.false_eq_true,bne_self_eq_false,WV]
  refine (contains_sub_spec wg' ilv x (by simp;omega)).mono ?_
  rintro _ g5 ⟨k5,rfl⟩
  simp only [go_sem,↓reduceIte,Nat.reduceEqDiff,m2',and_self,true_and,List.filter_cons,List.filter_nil,Nat.testBit,Nat.reduceShiftRight,Nat.reduceAnd,Nat.reduceBNe,Bool.not_false,Bool.not_true,Bool.false_eq_true,bne_self_eq_false,WV]
  have k1g5:Keep (Old h1.n) h1 g5:=(k1g3.trans (kg'.less k1g3.n)).trans (k5.less (Nat.le_trans k1g3.n kg'.n))
  refine WS_of_cond ?_
  simp only [go_sem,↓reduceIte,Nat.reduceEqDiff]
  by_cases hany:((subs.take j).any fun y=>decide (x=y))=true
  · rw [if_pos hany] at hx
    simp only [hany,go_sem,↓reduceIte,Nat.reduceEqDiff]
    refine WS_of_seq (WS_of_ops ?_)
    simp only [check_subs_r8,go_sem,↓reduceIte,Nat.reduceEqDiff]
    refine WS_of_ret ?_
    simp only [go_sem,check_subs_a,List.map_cons,List.map_nil,go_sem,↓reduceIte,Nat.reduceEqDiff]
    exact ⟨k1.trans (k1g5.less (by omega)),by rw [hx]⟩
  · rw [if_neg hany] at hx
    have hany':((subs.take j).any fun y=>decide (x=y))=false:=Bool.eq_false_iff.2 hany
    simp only [hany',go_sem,↓reduceIte,Nat.reduceEqDiff,Bool.false_eq_true]
    refine WS_of_skip ?_
    simp only [go_sem]
    have a1:IntKind.i64.wrap ((j:Int)+1)=((j+1:Nat):Int):=wrapI (n:=j+1) (by omega)
    refine WS_of_ops ?_
    simp only [check_subs_r9,go_sem,↓reduceIte,Nat.reduceEqDiff,y11,a1]
    exact ⟨subs.length - (j+1),by omega,k1g5,j+1,rfl,by omega,hx,y1,y2,y9,y10,rfl⟩
 refine WS_of_block (WS_of_seq (WS_of_ops ?_))
 cases hks:(kindP l x.1).isSome
 · have hb1:subBad l x=true:=by simp [subBad,hks]
   simp only [check_subs_r5,go_sem,↓reduceIte,Nat.reduceEqDiff,fieldAddrA,Nat.zero_add,Nat.add_zero,Nat.reduceAdd,wanted,decide_true,decide_false,beq_self_eq_true,pickA,show (false==true)=false from rfl,show (true==false)=false from rfl,Bool.false_eq_true,undefA,Bool.not_true,Bool.not_false]
   refine WS_of_cond ?_
   simp only [go_sem,↓reduceIte,Nat.reduceEqDiff]
   exact bad hb1 _ _ k1g3
 · by_cases hx2:x.2 = []
   · have hb1:subBad l x=false:=by simp [subBad,hks,hx2]
     simp only [check_subs_r5,go_sem,↓reduceIte,Nat.reduceEqDiff,fieldAddrA,Nat.zero_add,Nat.add_zero,Nat.reduceAdd,wanted,decide_true,decide_false,beq_self_eq_true,pickA,show (false==true)=false from rfl,show (true==false)=false from rfl,Bool.false_eq_true,undefA,Bool.not_true,Bool.not_false,m1,hx2,decide_true]
     refine WS_of_cond ?_
     simp only [go_sem,↓reduceIte,Nat.reduceEqDiff,Bool.false_eq_true]
     exact good hb1 _ _ (Keep.refl _ _) z1 z2 z9 z10 z11 rfl rfl
   · simp only [check_subs_r5,go_sem,↓reduceIte,Nat.reduceEqDiff,fieldAddrA,Nat.zero_add,Nat.add_zero,Nat.reduceAdd,wanted,decide_true,decide_false,beq_self_eq_true,pickA,show (false==true)=false from rfl,show (true==false)=false from rfl,Bool.false_eq_true,undefA,Bool.not_true,Bool.not_false,m1,hx2,decide_false,m3]
     refine (has_spec wg3 (it.keep kbg3) (smallK sm x.1)).mono ?_
     rintro _ g5 ⟨k5,rfl⟩
     simp only [go_sem,↓reduceIte,Nat.reduceEqDiff,wanted,decide_true,decide_false,beq_self_eq_true,pickA,show (false==true)=false from rfl,show (true==false)=false from rfl,Bool.false_eq_true,undefA,Bool.not_true,Bool.not_false]
     refine WS_of_cond ?_
     cases hh:hasP ((kindP l x.1).getD emptyT) x.2
     · have hb1:subBad l x=true:=by simp [subBad,hks,hx2,hh]
       simp only [Bool.not_false,go_sem,↓reduceIte,Nat.reduceEqDiff]
       exact bad hb1 _ _ (k1g3.trans (k5.less k1g3.n))
     · have hb1:subBad l x=false:=by simp [subBad,hks,hx2,hh]
       simp only [Bool.not_true,go_sem,↓reduceIte,Nat.reduceEqDiff,Bool.false_eq_true]
       exact good hb1 _ _ k5 z1 z2 z9 z10 z11 rfl rfl
/-! ### how many there are, and names that are there twice -/
def cntR (t:TypD):Nat→List RelD→Int×T8s
 | _,[]=>(0,[])
 | k,r::rest=>if hasP ⟨[],t.rels.take k⟩ r.name=true then (32,pathP t.name r.name) else if 16<r.ops.length then (13,pathP t.name r.name) else cntR t (k+1) rest
def cntT (l:List TypD):Nat→List TypD→Int×T8s
 | _,[]=>(0,[])
 | i,t::rest=>if (kindP (l.take i) t.name).isSome=true then (32,t.name) else if 12<t.rels.length then (13,t.name) else if (cntR t 0 t.rels).1=0 then cntT l (i+1) rest else cntR t 0 t.rels
def countsP (l:List TypD):Int×T8s:=if 8<l.length then (13,[]) else cntT l 0 l
abbrev CntQ (h:H) (x:Int×T8s):AOut→H→Prop:=fun r g=>Keep (Old h.n) h g∧r = .val (.tup [.int .i64 x.1,.str x.2])
/-- the relations of one type -/
theorem cnt_loop {h hb g:H} {t:TypD} {tcs:List AV} {bt:Nat} {k:List Fr1} {Q:Post} {z:S} (wh:h.Wf) (wg:g.Wf) (it:IsTyp 0 hb tcs t) (smt:SmallT t) (kb:Keep (Old hb.n) hb g) (k0:Keep (Old h.n) h g) (hbt:Box bt tcs g)
 (z5:z 5 = .ptr bt 0)
 (hret : ∀ s g',(cntR t 0 t.rels).1≠0→Keep (Old g.n) g g'→s 2 = .int .i64 (cntR t 0 t.rels).1→s 3 = .str (cntR t 0 t.rels).2→Q .ret s g')
 (hnext : ∀ s g',(cntR t 0 t.rels).1=0→Keep (Old g.n) g g'→s 1=z 1→s 5=z 5→s 15=z 15→s 16=z 16→s 17=z 17→WNext (EL LX) k Q s g') :
 WS (EL LX) (.seq (.ops check_counts_r11) (.block 2 (.loop check_counts_l19))) k Q z g:=by
 obtain ⟨rv,hcs,il⟩:=it
 have it:IsTyp 0 hb tcs t:=⟨rv,hcs,il⟩
 have l1:loadA g false 1 (.ptr bt 1)=some rv:=by rw [hbt.load,hcs];rfl
 have hlen:=il.len
 refine WS_of_seq (WS_of_ops ?_)
 simp only [check_counts_r11,go_sem,↓reduceIte,Nat.reduceEqDiff,fieldAddrA,Nat.zero_add,Nat.add_zero,Nat.reduceAdd,z5,l1,hlen]
 refine WS_of_block (WS_of_loop (fun m s g'=>Keep (Old g.n) g g' ∧ ∃ j,m=t.rels.length - j∧j≤t.rels.length∧cntR t 0 t.rels=cntR t j (t.rels.drop j)∧s 5 = .ptr bt 0∧s 43=rv∧s 44 = .int .i64 (t.rels.length:Int)∧s 45 = .int .i64 (j:Int)∧s 1=z 1∧s 15=z 15∧s 16=z 16∧s 17=z 17) ?_ t.rels.length ?_)
 case refine_2=>exact ⟨Keep.refl _ _,0,rfl,Nat.zero_le _,rfl,z5,rfl,rfl,rfl,rfl,rfl,rfl,rfl⟩
 rintro m s g1 ⟨kg,j,rfl,hj,hx,z5',z43,z44,z45,y1,y15,y16,y17⟩
 show WS (EL LX) check_counts_l19 _ _ _ _
 refine WS_of_seq (WS_of_ops ?_)
 simp only [check_counts_r12,go_sem,↓reduceIte,Nat.reduceEqDiff,z44,z45]
 refine WS_of_seq (WS_of_cond ?_)
 simp only [go_sem,↓reduceIte,Nat.reduceEqDiff]
 by_cases hjl:j<t.rels.length
 case neg =>
  have hjl' : ¬ (j:Int)<(t.rels.length:Int):=by omega
  simp only [hjl',decide_false,go_sem,↓reduceIte,Nat.reduceEqDiff,Bool.false_eq_true]
  refine WS_of_exit ?_
  simp only [go_sem,↓reduceIte,Nat.reduceEqDiff]
  rw [List.drop_eq_nil_of_le (by omega)] at hx
  exact hnext _ _ (by rw [hx];rfl) kg y1 (z5'.trans z5.symm) y15 y16 y17
 have hjl':(j:Int)<(t.rels.length:Int):=by omega
 simp only [hjl',decide_true,go_sem,↓reduceIte,Nat.reduceEqDiff]
 refine WS_of_skip ?_
 simp only [go_sem]
 have wg1:=kg.wf wg
 have kbg:=kb.trans (kg.less kb.n)
 obtain ⟨o,i,rcs,e1,e2,e3,e4,e5⟩:=IsL.atK il kbg hjl (by decide) .i64
 rw [List.drop_eq_getElem_cons hjl] at hx
 have smr:=smt.2.2 _ (List.getElem_mem hjl)
 generalize hxe:t.rels[j]=r at hx e3 smr
 obtain ⟨g2,p2,c2,kk2⟩:=Box.init wg1 (z := [AV.str [],.str [],.str [],.str [],.nils,.nils]) (cs:=rcs) (n:=6) rfl e2 e3.one.2
 have wg2:=kk2.wf wg1
 have k12:Keep (Old g.n) g g2:=kg.trans (kk2.less kg.n)
 have kbg2:=kb.trans (k12.less kb.n)
 have bt2:=hbt.keep k12 (hbt.lt wg)
 have m1:loadA g2 false 1 (.ptr bt 1)=some rv:=by rw [bt2.load,hcs];rfl
 have m0:loadA g2 false 1 (.ptr g1.n 0)=some (.str r.name):=(c2.load 1 0).trans e3.name0
 obtain ⟨rv',ev,ilv⟩:=il.take (i:=j) hj .i64
 have itv:IsTyp 0 hb [.str [],rv'] ⟨[],t.rels.take j⟩:=⟨rv',rfl,ilv⟩
 have afv:afill [AV.str [],.nils] [(1,1,rv')]=some [.str [],rv']:=by simp [afill,(IsL.one ilv).2,splice]
 refine WS_of_seq (WS_of_block (WS_of_seq (WS_of_ops ?_)))
 simp only [check_counts_r13,go_sem,↓reduceIte,Nat.reduceEqDiff,z43,z45,e1,e5,p2]
 refine WS_of_seq (WS_of_seq (WS_of_draw ?_))
 simp only [check_counts_r14,go_sem,↓reduceIte,Nat.reduceEqDiff,fieldAddrA,Nat.zero_add,Nat.add_zero,Nat.reduceAdd,wanted,z5',m1,m0,Option.map_some,Option.map_none,ev,parts,List.map_cons,List.map_nil,afv,and_self,true_and,List.filter_cons,List.filter_nil,Nat.testBit,Nat.reduceShiftRight,Nat.reduceAnd,Nat.reduceBNe,Bool.not_false,Bool.not_true,Bool.false_eq_true,bne_self_eq_false,WV]
 have smv:SmallT ⟨[],t.rels.take j⟩:=⟨by have:=smt.1;simp;omega,by simp,fun r hr=>smt.2.2 r (List.mem_of_mem_take hr)⟩
 refine (has_spec wg2 (itv.keep kbg2) smv).mono ?_
 rintro _ g3 ⟨k3,rfl⟩
 have wg3:=k3.wf wg2
 have k13:Keep (Old g.n) g g3:=k12.trans (k3.less k12.n)
 have bt3:=hbt.keep k13 (hbt.lt wg)
 have c3:=c2.keep k3 (c2.lt wg2)
 have n1:loadA g3 true 2 (.ptr bt 0)=some (.agg tcs):=bt3.loadAgg it.one.1
 have n2:loadA g3 true 6 (.ptr g1.n 0)=some (.agg rcs):=c3.loadAgg e2
 simp only [go_sem,↓reduceIte,Nat.reduceEqDiff,and_self,true_and,List.filter_cons,List.filter_nil,Nat.testBit,Nat.reduceShiftRight,Nat.reduceAnd,Nat.reduceBNe,Bool.not_false,Bool.not_true,Bool.false_eq_true,bne_self_eq_false,WV]
 refine WS_of_cond ?_
 simp only [go_sem,↓reduceIte,Nat.reduceEqDiff]
 simp only [cntR] at hx
 by_cases hh:hasP ⟨[],t.rels.take j⟩ r.name=true
 · rw [if_pos hh] at hx
   simp only [hh,go_sem,↓reduceIte,Nat.reduceEqDiff]
   refine WS_of_seq (WS_of_ops ?_)
   simp only [check_counts_r15,go_sem,↓reduceIte,Nat.reduceEqDiff,z5',n1,n2]
   refine (path_spec wg3 it.name0 e3.name0 smt.2.1 smr.1).mono ?_
   rintro _ g4 ⟨k4,rfl⟩
   simp only [go_sem,↓reduceIte,Nat.reduceEqDiff]
   refine WS_of_ret ?_
   simp only [go_sem]
   refine hret _ _ (by rw [hx];simp) (k13.trans (k4.less k13.n)) ?_ ?_
   · rw [hx];rfl
   · rw [hx];rfl
 rw [if_neg hh] at hx
 have hh':hasP ⟨[],t.rels.take j⟩ r.name=false:=Bool.eq_false_iff.2 hh
 simp only [hh',go_sem,↓reduceIte,Nat.reduceEqDiff,Bool.false_eq_true]
 refine WS_of_skip ?_
 simp only [go_sem]
 obtain ⟨sv,ov,hrcs,⟨s1,r1⟩,s2,r2⟩:=e3
 have n3:loadA g3 false 1 (.ptr g1.n 5)=some ov:=by rw [c3.load,hrcs];rfl
 have e3n:rcs[0]? = some (.str r.name):=by rw [hrcs];rfl
 have hol:=s2.len
 refine WS_of_seq (WS_of_ops ?_)
 simp only [check_counts_r16,go_sem,↓reduceIte,Nat.reduceEqDiff,fieldAddrA,Nat.zero_add,Nat.add_zero,Nat.reduceAdd,n3,hol]
 refine WS_of_cond ?_
 simp only [go_sem,↓reduceIte,Nat.reduceEqDiff]
 by_cases h16:16<r.ops.length
 · have h16':(16:Int)<(r.ops.length:Int):=by omega
   rw [if_pos h16] at hx
   simp only [h16',decide_true,go_sem,↓reduceIte,Nat.reduceEqDiff]
   refine WS_of_seq (WS_of_ops ?_)
   simp only [check_counts_r17,go_sem,↓reduceIte,Nat.reduceEqDiff,z5',n1,n2]
   refine (path_spec wg3 it.name0 e3n smt.2.1 smr.1).mono ?_
   rintro _ g4 ⟨k4,rfl⟩
   simp only [go_sem,↓reduceIte,Nat.reduceEqDiff]
   refine WS_of_ret ?_
   simp only [go_sem]
   refine hret _ _ (by rw [hx];simp) (k13.trans (k4.less k13.n)) ?_ ?_
   · rw [hx];rfl
   · rw [hx];rfl
 have h16' : ¬ (16:Int)<(r.ops.length:Int):=by omega
 rw [if_neg h16] at hx
 simp only [h16',decide_false,go_sem,↓reduceIte,Nat.reduceEqDiff,Bool.false_eq_true]
 refine WS_of_skip ?_
 simp only [go_sem]
 have a1:IntKind.i64.wrap ((j:Int)+1)=((j+1:Nat):Int):=wrapI (n:=j+1) (by have:=smt.1;omega)
 refine WS_of_ops ?_
 simp only [check_counts_r18,go_sem,↓reduceIte,Nat.reduceEqDiff,z45,a1]
 exact ⟨t.rels.length - (j+1),by omega,k13,j+1,rfl,by omega,hx,z5',z43,z44,rfl,y1,y15,y16,y17⟩
theorem counts_spec {w:AV} {l:List TypD} {hb h:H} (wf:h.Wf) (is:IsSch 0 hb w l) (kb:Keep (Old hb.n) hb h) (sm:SmallS l) :
 WCall (EL LX) n_check_counts [.agg [w]] h (CntQ h (countsP l)):=by
 obtain ⟨h1,hg1,b1,k1,w1,n1⟩:=new_box wf [w]
 have hlen:=is.len
 have l0:loadA h1 false 1 (.ptr h.n 0)=some w:=b1.load 1 0
 refine WCall_ws ((EL_ov _ _).trans rfl) (EL_T T_check_counts) (by simp [check_counts_a]) ?_
 refine WS_of_seq (WS_of_ops ?_)
 simp only [check_counts_r0,go_sem,↓reduceIte,Nat.reduceEqDiff,enterS,List.getD_cons_zero,List.getD_cons_succ,AV.cells,hg1]
 refine WS_of_seq (WS_of_seq (WS_of_ops ?_))
 simp only [check_counts_r1,go_sem,↓reduceIte,Nat.reduceEqDiff,fieldAddrA,Nat.zero_add,Nat.add_zero,Nat.reduceAdd,l0,hlen]
 refine WS_of_cond ?_
 simp only [go_sem,↓reduceIte,Nat.reduceEqDiff]
 by_cases h8:8<l.length
 · have h8':(8:Int)<(l.length:Int):=by omega
   have hc:countsP l=(13,[]):=by unfold countsP;rw [if_pos h8]
   simp only [h8',decide_true,go_sem,↓reduceIte,Nat.reduceEqDiff]
   refine WS_of_seq (WS_of_ops ?_)
   simp only [check_counts_r2,go_sem,↓reduceIte,Nat.reduceEqDiff]
   refine WS_of_ret ?_
   simp only [go_sem,check_counts_a,List.map_cons,List.map_nil,go_sem,↓reduceIte,Nat.reduceEqDiff]
   rw [hc]
   exact ⟨k1,rfl⟩
 have h8' : ¬ (8:Int)<(l.length:Int):=by omega
 have hc:countsP l=cntT l 0 l:=by unfold countsP;rw [if_neg h8]
 rw [hc]
 simp only [h8',decide_false,go_sem,↓reduceIte,Nat.reduceEqDiff,Bool.false_eq_true]
 refine WS_of_skip ?_
 simp only [go_sem]
 refine WS_of_seq (WS_of_seq (WS_of_ops ?_))
 simp only [check_counts_r3,go_sem,↓reduceIte,Nat.reduceEqDiff,fieldAddrA,Nat.zero_add,Nat.add_zero,Nat.reduceAdd,l0,hlen]
 refine WS_of_block (WS_of_loop (fun m z g=>Keep (Old h1.n) h1 g ∧ ∃ j,m=l.length - j∧j≤l.length∧cntT l 0 l=cntT l j (l.drop j)∧z 1 = .ptr h.n 0∧z 15=w∧z 16 = .int .i64 (l.length:Int)∧z 17 = .int .i64 (j:Int)) ?_ l.length ?_)
 case refine_2=>exact ⟨Keep.refl _ _,0,rfl,Nat.zero_le _,rfl,rfl,rfl,rfl,rfl⟩
 rintro m z g ⟨kg,j,rfl,hj,hx,z1,z15,z16,z17⟩
 show WS (EL LX) check_counts_l21 _ _ _ _
 refine WS_of_seq (WS_of_ops ?_)
 simp only [check_counts_r4,go_sem,↓reduceIte,Nat.reduceEqDiff,z16,z17]
 refine WS_of_seq (WS_of_cond ?_)
 simp only [go_sem,↓reduceIte,Nat.reduceEqDiff]
 by_cases hjl:j<l.length
 case neg =>
  have hjl' : ¬ (j:Int)<(l.length:Int):=by omega
  simp only [hjl',decide_false,go_sem,↓reduceIte,Nat.reduceEqDiff,Bool.false_eq_true]
  refine WS_of_exit ?_
  simp only [go_sem,↓reduceIte,Nat.reduceEqDiff]
  refine WS_of_seq (WS_of_ops ?_)
  simp only [check_counts_r22,go_sem,↓reduceIte,Nat.reduceEqDiff]
  refine WS_of_ret ?_
  simp only [go_sem,check_counts_a,List.map_cons,List.map_nil,go_sem,↓reduceIte,Nat.reduceEqDiff]
  rw [List.drop_eq_nil_of_le (by omega)] at hx
  rw [hx]
  exact ⟨k1.trans (kg.less (by omega)),rfl⟩
 have hjl':(j:Int)<(l.length:Int):=by omega
 simp only [hjl',decide_true,go_sem,↓reduceIte,Nat.reduceEqDiff]
 refine WS_of_skip ?_
 simp only [go_sem]
 have wg:=kg.wf w1
 have k0g:Keep (Old h.n) h g:=k1.trans (kg.less (by omega))
 have kbg:=kb.trans (k0g.less kb.n)
 obtain ⟨o,i,tcs,e1,e2,it,e4,e5⟩:=IsL.atK is kbg hjl (by decide) .i64
 rw [List.drop_eq_getElem_cons hjl] at hx
 have smt:=sm.2 _ (List.getElem_mem hjl)
 generalize hxe:l[j]=t at hx it smt
 obtain ⟨g1,p1,c1,kk1⟩:=Box.init wg (z := [AV.str [],.nils]) (cs:=tcs) (n:=2) rfl e2 it.one.2
 have wg1:=kk1.wf wg
 have k1g1:Keep (Old h1.n) h1 g1:=kg.trans (kk1.less kg.n)
 obtain ⟨g2,hg2,c2,kk2,wg2,n2⟩:=new_box wg1 [AV.str [],.nils]
 have k1g2:Keep (Old h1.n) h1 g2:=k1g1.trans (kk2.less k1g1.n)
 have kbg2:Keep (Old hb.n) hb g2:=kb.trans ((k1.trans (k1g2.less (by omega))).less kb.n)
 have b1g1:=b1.keep k1g1 (b1.lt w1)
 have b1g2:=b1.keep k1g2 (b1.lt w1)
 have c12:=c1.keep kk2 (c1.lt wg1)
 have m0:loadA g1 false 1 (.ptr h.n 0)=some w:=b1g1.load 1 0
 have m1:loadA g1 false 1 (.ptr g.n 0)=some (.str t.name):=(c1.load 1 0).trans it.name0
 have m02:loadA g2 false 1 (.ptr h.n 0)=some w:=b1g2.load 1 0
 have m12:loadA g2 false 1 (.ptr g.n 0)=some (.str t.name):=(c12.load 1 0).trans it.name0
 obtain ⟨w',ev,isv⟩:=IsL.take is (i:=j) hj .i64
 have afv:afill [AV.nils] [(0,1,w')]=some [w']:=by simp [afill,(IsL.one isv).2,splice]
 refine WS_of_seq (WS_of_block (WS_of_seq (WS_of_ops ?_)))
 simp only [check_counts_r5,go_sem,↓reduceIte,Nat.reduceEqDiff,z15,z17,e1,e5,p1]
 refine WS_of_seq (WS_of_seq (WS_of_draw ?_))
 simp only [check_counts_r6,go_sem,↓reduceIte,Nat.reduceEqDiff,fieldAddrA,Nat.zero_add,Nat.add_zero,Nat.reduceAdd,wanted,z1,m0,m1,m02,m12,Option.map_some,Option.map_none,ev,parts,List.map_cons,List.map_nil,afv,hg2,and_self,true_and,List.filter_cons,List.filter_nil,Nat.testBit,Nat.reduceShiftRight,Nat.reduceAnd,Nat.reduceBNe,Bool.not_false,Bool.not_true,Bool.false_eq_true,bne_self_eq_false,WV]
 refine (kind_spec wg2 isv kbg2 (by have:=sm.1;simp;omega)).mono ?_
 rintro _ g3 ⟨k3,ct,rfl,ict⟩
 have wg3:=k3.wf wg2
 have c23:=c2.keep k3 (c2.lt wg2)
 obtain ⟨g4,p4,d4,k4⟩:=Box.putAll wg3 c23 (vs:=ct) (n:=2) ict.one.1 ict.one.2 rfl
 have wg4:=k4.wf wg3
 have hlt2:=c2.lt wg2
 have c14:=(c12.keep k3 (c12.lt wg2)).keepA wg3 k4 (by simp;have:=c1.lt wg1;omega)
 have k14:Keep (Old g1.n) g1 g4:=(kk2.trans (k3.less kk2.n)).trans (k4.old wg3 (by have:=k3.n;omega) (by simp))
 have k1g4:Keep (Old h1.n) h1 g4:=k1g1.trans (k14.less k1g1.n)
 simp only [go_sem,↓reduceIte,Nat.reduceEqDiff,extractA,List.getElem?_cons_zero,List.getElem?_cons_succ,p4,m02,m12,and_self,true_and,List.filter_cons,List.filter_nil,Nat.testBit,Nat.reduceShiftRight,Nat.reduceAnd,Nat.reduceBNe,Bool.not_false,Bool.not_true,Bool.false_eq_true,bne_self_eq_false,WV]
 have k0g4:Keep (Old h.n) h g4:=k1.trans (k1g4.less (by omega))
 have kbg4:Keep (Old hb.n) hb g4:=kb.trans (k0g4.less kb.n)
 have q0:loadA g4 false 1 (.ptr g.n 0)=some (.str t.name):=(c14.load 1 0).trans it.name0
 refine WS_of_seq (WS_of_ops ?_)
 simp only [check_counts_r7,go_sem,↓reduceIte,Nat.reduceEqDiff]
 refine WS_of_cond ?_
 simp only [go_sem,↓reduceIte,Nat.reduceEqDiff]
 simp only [cntT] at hx
 by_cases hk:(kindP (l.take j) t.name).isSome=true
 · rw [if_pos hk] at hx
   simp only [hk,go_sem,↓reduceIte,Nat.reduceEqDiff]
   refine WS_of_seq (WS_of_draw ?_)
   simp only [check_counts_r8,go_sem,↓reduceIte,Nat.reduceEqDiff,fieldAddrA,Nat.zero_add,Nat.add_zero,Nat.reduceAdd,wanted,q0,and_self,true_and,List.filter_cons,List.filter_nil,Nat.testBit,Nat.reduceShiftRight,Nat.reduceAnd,Nat.reduceBNe,Bool.not_false,Bool.not_true,Bool.false_eq_true,bne_self_eq_false,WV]
   refine WS_of_ret ?_
   simp only [go_sem,check_counts_a,List.map_cons,List.map_nil,go_sem,↓reduceIte,Nat.reduceEqDiff]
   rw [hx]
   exact ⟨k0g4,rfl⟩
 rw [if_neg hk] at hx
 have hk':(kindP (l.take j) t.name).isSome=false:=Bool.eq_false_iff.2 hk
 simp only [hk',go_sem,↓reduceIte,Nat.reduceEqDiff,Bool.false_eq_true]
 refine WS_of_skip ?_
 simp only [go_sem]
 obtain ⟨rv,hcs,il⟩:=it
 have it:IsTyp 0 hb tcs t:=⟨rv,hcs,il⟩
 have q1:loadA g4 false 1 (.ptr g.n 1)=some rv:=by rw [c14.load,hcs];rfl
 have hrl:=il.len
 refine WS_of_seq (WS_of_seq (WS_of_ops ?_))
 simp only [check_counts_r9,go_sem,↓reduceIte,Nat.reduceEqDiff,fieldAddrA,Nat.zero_add,Nat.add_zero,Nat.reduceAdd,q1,hrl]
 refine WS_of_cond ?_
 simp only [go_sem,↓reduceIte,Nat.reduceEqDiff]
 by_cases h12:12<t.rels.length
 · have h12':(12:Int)<(t.rels.length:Int):=by omega
   rw [if_pos h12] at hx
   simp only [h12',decide_true,go_sem,↓reduceIte,Nat.reduceEqDiff]
   refine WS_of_seq (WS_of_draw ?_)
   simp only [check_counts_r10,go_sem,↓reduceIte,Nat.reduceEqDiff,fieldAddrA,Nat.zero_add,Nat.add_zero,Nat.reduceAdd,wanted,q0,and_self,true_and,List.filter_cons,List.filter_nil,Nat.testBit,Nat.reduceShiftRight,Nat.reduceAnd,Nat.reduceBNe,Bool.not_false,Bool.not_true,Bool.false_eq_true,bne_self_eq_false,WV]
   refine WS_of_ret ?_
   simp only [go_sem,check_counts_a,List.map_cons,List.map_nil,go_sem,↓reduceIte,Nat.reduceEqDiff]
   rw [hx]
   exact ⟨k0g4,rfl⟩
 have h12' : ¬ (12:Int)<(t.rels.length:Int):=by omega
 rw [if_neg h12] at hx
 simp only [h12',decide_false,go_sem,↓reduceIte,Nat.reduceEqDiff,Bool.false_eq_true]
 refine WS_of_skip ?_
 simp only [go_sem]
 refine cnt_loop (hb:=hb) (bt:=g.n) wf wg4 it smt kbg4 k0g4 c14 rfl ?_ ?_
 · intro s g' hne kk y2 y3
   rw [if_neg hne] at hx
   simp only [go_sem,check_counts_a,List.map_cons,List.map_nil,go_sem,↓reduceIte,Nat.reduceEqDiff,y2,y3]
   rw [hx]
   exact ⟨k0g4.trans (kk.less k0g4.n),rfl⟩
 · intro s g' hz kk y1 y5 y15 y16 y17
   rw [if_pos hz] at hx
   have a1:IntKind.i64.wrap ((j:Int)+1)=((j+1:Nat):Int):=wrapI (n:=j+1) (by have:=sm.1;omega)
   have y17':s 17 = .int .i64 (j:Int):=y17.trans z17
   simp only [go_sem]
   refine WS_of_ops ?_
   simp only [check_counts_r20,go_sem,↓reduceIte,Nat.reduceEqDiff,y17',a1]
   exact ⟨l.length - (j+1),by omega,k1g4.trans (kk.less k1g4.n),j+1,rfl,by omega,hx,y1.trans z1,y15.trans z15,y16.trans z16,rfl⟩
end Go.Proofs.YtdbmeidhlijopaaDoor.Ev.C

/- check.Check walked. -/
namespace Go.Proofs.YtdbmeidhlijopaaDoor.Ev.C
open Go Go.Proofs.YtdbmeidhlijopaaDoor.Ev
set_option linter.unusedSimpArgs false
set_option linter.unusedVariables false
def chkR (l:List TypD) (t:TypD) (r:RelD):Int×T8s :=
 if (hasP t r.view&&(hasP t r.edit&&hasP t r.check))=false then (31,pathP t.name r.name)
 else if subsK l r.subs 0 r.subs≠0 then (subsK l r.subs 0 r.subs,pathP t.name r.name)
 else if r.ops.all (opP l t)=true then (0,[]) else (31,pathP t.name r.name)
def chkRs (l:List TypD) (t:TypD):List RelD→Int×T8s
 | []=>(0,[])
 | r::rest=>if (chkR l t r).1=0 then chkRs l t rest else chkR l t r
def chkTs (l:List TypD):List TypD→Int×T8s
 | []=>(0,[])
 | t::rest=>if (chkRs l t t.rels).1=0 then chkTs l rest else chkRs l t t.rels
def checkP (l:List TypD):Int×T8s:=if (countsP l).1=0 then chkTs l l else countsP l
theorem cntT_zero (l:List TypD) : ∀ (rest:List TypD) (k:Nat),(cntT l k rest).1=0→cntT l k rest=(0,[])
 | [],k,h=>rfl
 | t::rest,k,h=>by
  simp only [cntT] at h ⊢
  split at h
  · cases h
  · rename_i h1
    rw [if_neg h1]
    split at h
    · cases h
    · rename_i h2
      rw [if_neg h2]
      split at h
      · rename_i h3;rw [if_pos h3];exact cntT_zero l rest (k+1) h
      · rename_i h3;exact absurd h h3
theorem counts_zero {l:List TypD} (h:(countsP l).1=0):countsP l=(0,[]):=by
 unfold countsP at h ⊢
 split at h
 · cases h
 · rename_i h1;rw [if_neg h1];exact cntT_zero l l 0 h
/-- one operation after the other -/
theorem ops_loop {hb g:H} {w ov:AV} {l:List TypD} {t:TypD} {tcs rcs:List AV} {ops:List OpD} {bs bt br:Nat} {k:List Fr1} {Q:Post} {z:S} (wg:g.Wf) (is:IsSch 0 hb w l) (sm:SmallS l) (it:IsTyp 0 hb tcs t) (smt:SmallT t) (kb:Keep (Old hb.n) hb g)
 (io:IsL 0 3 (fun _ cs x=>cs=opC x) hb ov ops) (hol:ops.length<1000000) (b1:Box bs [w] g) (b5:Box bt tcs g) (b7:Box br rcs g) (hr5:rcs[5]? = some ov)
 (z1:z 1 = .ptr bs 0) (z5:z 5 = .ptr bt 0) (z7:z 7 = .ptr br 0)
 (hbad:ops.all (opP l t)=false → ∀ s g',Keep (Old g.n) g g'→s 2=z 2→s 3=z 3→WExit (EL LX) 0 k Q s g')
 (hgood:ops.all (opP l t)=true → ∀ s g',Keep (Old g.n) g g'→s 1=z 1→s 5=z 5→s 21=z 21→s 22=z 22→s 23=z 23→s 28=z 28→s 29=z 29→s 30=z 30→WNext (EL LX) k Q s g') :
 WS (EL LX) (.seq (.ops check_Check_r15) (.block 4 (.loop check_Check_l20))) k Q z g:=by
 have l5:loadA g false 1 (.ptr br 5)=some ov:=(b7.load 1 5).trans hr5
 have hlen:=io.len
 refine WS_of_seq (WS_of_ops ?_)
 simp only [check_Check_r15,go_sem,↓reduceIte,Nat.reduceEqDiff,fieldAddrA,Nat.zero_add,Nat.add_zero,Nat.reduceAdd,z7,l5,hlen]
 refine WS_of_block (WS_of_loop (fun m s g'=>Keep (Old g.n) g g' ∧ ∃ j,m=ops.length - j∧j≤ops.length∧ops.all (opP l t)=(ops.drop j).all (opP l t)∧s 64=ov∧s 65 = .int .i64 (ops.length:Int)∧s 66 = .int .i64 (j:Int)∧s 2=z 2∧s 3=z 3∧s 1=z 1∧s 5=z 5∧s 21=z 21∧s 22=z 22∧s 23=z 23∧s 28=z 28∧s 29=z 29∧s 30=z 30) ?_ ops.length ?_)
 case refine_2=>exact ⟨Keep.refl _ _,0,rfl,Nat.zero_le _,rfl,rfl,rfl,rfl,rfl,rfl,rfl,rfl,rfl,rfl,rfl,rfl,rfl,rfl⟩
 rintro m s g1 ⟨kg,j,rfl,hj,hx,z64,z65,z66,y2,y3,y1,y5,y21,y22,y23,y28,y29,y30⟩
 show WS (EL LX) check_Check_l20 _ _ _ _
 refine WS_of_seq (WS_of_ops ?_)
 simp only [check_Check_r16,go_sem,↓reduceIte,Nat.reduceEqDiff,z65,z66]
 refine WS_of_seq (WS_of_cond ?_)
 simp only [go_sem,↓reduceIte,Nat.reduceEqDiff]
 by_cases hjl:j<ops.length
 case neg =>
  have hjl' : ¬ (j:Int)<(ops.length:Int):=by omega
  simp only [hjl',decide_false,go_sem,↓reduceIte,Nat.reduceEqDiff,Bool.false_eq_true]
  refine WS_of_exit ?_
  simp only [go_sem,↓reduceIte,Nat.reduceEqDiff]
  rw [List.drop_eq_nil_of_le (by omega)] at hx
  exact hgood hx _ _ kg y1 y5 y21 y22 y23 y28 y29 y30
 have hjl':(j:Int)<(ops.length:Int):=by omega
 simp only [hjl',decide_true,go_sem,↓reduceIte,Nat.reduceEqDiff]
 refine WS_of_skip ?_
 simp only [go_sem]
 have wg1:=kg.wf wg
 have kbg:=kb.trans (kg.less kb.n)
 obtain ⟨o,i,cs,e1,e2,e3,e4,e5⟩:=IsL.atK io kbg hjl (by decide) .i64
 subst e3
 rw [List.drop_eq_getElem_cons hjl,List.all_cons] at hx
 generalize hxe:ops[j]=x at hx e5 e4
 obtain ⟨g2,p2,c2,kk2⟩:=Box.init wg1 (z := [AV.int .i64 0,.str [],.str []]) (cs:=opC x) (n:=3) rfl rfl rfl
 have wg2:=kk2.wf wg1
 have k12:Keep (Old g.n) g g2:=kg.trans (kk2.less kg.n)
 have b12:=b1.keep k12 (b1.lt wg)
 have b52:=b5.keep k12 (b5.lt wg)
 have m1:loadA g2 true 1 (.ptr bs 0)=some (.agg [w]):=b12.loadAgg rfl
 have m5:loadA g2 true 2 (.ptr bt 0)=some (.agg tcs):=b52.loadAgg it.one.1
 have m10:loadA g2 true 3 (.ptr g1.n 0)=some (.agg (opC x)):=c2.loadAgg rfl
 refine WS_of_seq (WS_of_block (WS_of_seq (WS_of_ops ?_)))
 simp only [check_Check_r17,go_sem,↓reduceIte,Nat.reduceEqDiff,z64,z66,e1,e5,p2]
 refine WS_of_seq (WS_of_ops ?_)
 simp only [check_Check_r18,go_sem,↓reduceIte,Nat.reduceEqDiff,y1,z1,y5,z5,m1,m5,m10]
 refine (op_spec wg2 is (kb.trans (k12.less kb.n)) sm it smt).mono ?_
 rintro _ g3 ⟨k3,rfl⟩
 have k13:Keep (Old g.n) g g3:=k12.trans (k3.less k12.n)
 simp only [go_sem,↓reduceIte,Nat.reduceEqDiff]
 refine WS_of_cond ?_
 cases hop:opP l t x
 · rw [hop,Bool.false_and] at hx
   simp only [Bool.not_false,go_sem,↓reduceIte,Nat.reduceEqDiff]
   refine WS_of_exit ?_
   simp only [go_sem,↓reduceIte,Nat.reduceEqDiff]
   exact hbad hx _ _ k13 y2 y3
 · rw [hop,Bool.true_and] at hx
   simp only [Bool.not_true,go_sem,↓reduceIte,Nat.reduceEqDiff,Bool.false_eq_true]
   refine WS_of_skip ?_
   simp only [go_sem]
   have a1:IntKind.i64.wrap ((j:Int)+1)=((j+1:Nat):Int):=wrapI (n:=j+1) (by omega)
   refine WS_of_ops ?_
   simp only [check_Check_r19,go_sem,↓reduceIte,Nat.reduceEqDiff,z66,a1]
   exact ⟨ops.length - (j+1),by omega,k13,j+1,rfl,by omega,hx,z64,z65,rfl,y2,y3,y1.trans z1,y5.trans z5,y21,y22,y23,y28,y29,y30⟩
/-- one relation -/
theorem rel_body {hb g:H} {w rv:AV} {l:List TypD} {t:TypD} {tcs rcs:List AV} {r:RelD} {bs bt:Nat} {kk o i:Nat} {k:List Fr1} {Q:Post} {z:S} (wg:g.Wf) (is:IsSch 0 hb w l) (sm:SmallS l) (it:IsTyp 0 hb tcs t) (smt:SmallT t) (kb:Keep (Old hb.n) hb g)
 (ir:IsRel 0 hb rcs r) (smr:SmallR r) (b1:Box bs [w] g) (b5:Box bt tcs g)
 (z1:z 1 = .ptr bs 0) (z5:z 5 = .ptr bt 0) (z28:z 28=rv) (z30:z 30 = .int .i64 (kk:Int)) (e1:indexAddrA 6 rv (.int .i64 (kk:Int))=some (.ptr o i)) (e5:loadA g true 6 (.ptr o i)=some (.agg rcs))
 (hbad:(chkR l t r).1≠0 → ∀ s g',Keep (Old g.n) g g'→s 2 = .int .i64 (chkR l t r).1→s 3 = .str (chkR l t r).2→WExit (EL LX) 0 k Q s g')
 (hgood:(chkR l t r).1=0 → ∀ s g',Keep (Old g.n) g g'→s 2 = .int .i64 0→s 3 = .str []→s 1=z 1→s 5=z 5→s 21=z 21→s 22=z 22→s 23=z 23→s 28=z 28→s 29=z 29→s 30=z 30→WNext (EL LX) k Q s g') :
 WS (EL LX) (.block 3 (.seq (.ops check_Check_r9) (.seq (.ops check_Check_r10) (.seq (.seq (.ops check_Check_r11) (.cond (.tmp 55) (.exit 0) .skip)) (.seq (.seq (.ops check_Check_r12) (.seq (.ops check_Check_r13) (.cond (.tmp 61) (.seq (.ops check_Check_r14) (.exit 0)) .skip))) (.seq (.seq (.ops check_Check_r15) (.block 4 (.loop check_Check_l20))) (.ops check_Check_r21))))))) k Q z g:=by
 obtain ⟨g1,p1,c1,kk1⟩:=Box.init wg (z := [AV.str [],.str [],.str [],.str [],.nils,.nils]) (cs:=rcs) (n:=6) rfl ir.one.1 ir.one.2
 have wg1:=kk1.wf wg
 have kb1:=kb.trans (kk1.less kb.n)
 have b51:=b5.keep kk1 (b5.lt wg)
 have m5:loadA g1 true 2 (.ptr bt 0)=some (.agg tcs):=b51.loadAgg it.one.1
 have m7:loadA g1 true 6 (.ptr g.n 0)=some (.agg rcs):=c1.loadAgg ir.one.1
 refine WS_of_block (WS_of_seq (WS_of_ops ?_))
 simp only [check_Check_r9,go_sem,↓reduceIte,Nat.reduceEqDiff,z28,z30,e1,e5,p1]
 refine WS_of_seq (WS_of_ops ?_)
 simp only [check_Check_r10,go_sem,↓reduceIte,Nat.reduceEqDiff,z5,m5,m7]
 refine (path_spec wg1 it.name0 ir.name0 smt.2.1 smr.1).mono ?_
 rintro _ g2 ⟨k2,rfl⟩
 have wg2:=k2.wf wg1
 have k02:Keep (Old g.n) g g2:=kk1.trans (k2.less kk1.n)
 simp only [go_sem,↓reduceIte,Nat.reduceEqDiff]
 obtain ⟨sv,ov,hrcs,⟨s1,r1⟩,s2,r2⟩:=ir
 have ir:IsRel 0 hb rcs r:=⟨sv,ov,hrcs,⟨s1,r1⟩,s2,r2⟩
 -- what stands in the variables, later
 have vt : ∀ g',Keep (Old g1.n) g1 g'→loadA g' true 2 (.ptr bt 0)=some (.agg tcs):=fun g' q=>(b51.keep q (b51.lt wg1)).loadAgg it.one.1
 have vr : ∀ g',Keep (Old g1.n) g1 g'→loadA g' false 1 (.ptr g.n 1)=some (.str r.view)∧loadA g' false 1 (.ptr g.n 2)=some (.str r.edit)∧loadA g' false 1 (.ptr g.n 3)=some (.str r.check)∧loadA g' false 1 (.ptr g.n 4)=some sv:=by
  intro g' q
  have c:=c1.keep q (c1.lt wg1)
  refine ⟨?_,?_,?_,?_⟩
  all_goals rw [c.load,hrcs];rfl
 have noview:(hasP t r.view&&(hasP t r.edit&&hasP t r.check))=false→chkR l t r=(31,pathP t.name r.name):=by intro q;unfold chkR;rw [if_pos q]
 obtain ⟨va,vb,vc,vd⟩:=vr g2 k2
 have vt2:=vt g2 k2
 refine WS_of_seq (WS_of_seq (WS_of_ops ?_))
 simp only [check_Check_r11,go_sem,↓reduceIte,Nat.reduceEqDiff,fieldAddrA,Nat.zero_add,Nat.add_zero,Nat.reduceAdd,z5,vt2,va]
 refine (has_spec wg2 (it.keep (kb1.trans (k2.less kb1.n))) smt).mono ?_
 rintro _ g3 ⟨k3,rfl⟩
 have wg3:=k3.wf wg2
 have k13:Keep (Old g1.n) g1 g3:=k2.trans (k3.less k2.n)
 obtain ⟨va3,vb3,vc3,vd3⟩:=vr g3 k13
 have vt3:=vt g3 k13
 have out : ∀ (s:S) (g':H),Keep (Old g1.n) g1 g'→(hasP t r.view&&(hasP t r.edit&&hasP t r.check))=false→s 2 = .int .i64 31→s 3 = .str (pathP t.name r.name)→WExit (EL LX) 0 k Q s g':=by
  intro s g' q hf q2 q3
  have hc:=noview hf
  refine hbad (by rw [hc];simp) s g' (kk1.trans (q.less kk1.n)) (by rw [q2,hc]) (by rw [q3,hc])
 cases hv:hasP t r.view
 · simp only [go_sem,↓reduceIte,Nat.reduceEqDiff,wanted,decide_true,decide_false,beq_self_eq_true,pickA,show (false==true)=false from rfl,show (true==false)=false from rfl,Bool.false_eq_true,undefA,Bool.not_true,Bool.not_false]
   refine WS_of_cond ?_
   simp only [go_sem,↓reduceIte,Nat.reduceEqDiff]
   refine WS_of_exit ?_
   simp only [go_sem,↓reduceIte,Nat.reduceEqDiff]
   exact out _ _ k13 (by rw [hv];rfl) rfl rfl
 simp only [go_sem,↓reduceIte,Nat.reduceEqDiff,fieldAddrA,Nat.zero_add,Nat.add_zero,Nat.reduceAdd,wanted,decide_true,decide_false,beq_self_eq_true,pickA,show (false==true)=false from rfl,show (true==false)=false from rfl,Bool.false_eq_true,undefA,Bool.not_true,Bool.not_false,z5,vt3,vb3]
 refine (has_spec wg3 (it.keep (kb1.trans (k13.less kb1.n))) smt).mono ?_
 rintro _ g4 ⟨k4,rfl⟩
 have wg4:=k4.wf wg3
 have k14:Keep (Old g1.n) g1 g4:=k13.trans (k4.less k13.n)
 obtain ⟨va4,vb4,vc4,vd4⟩:=vr g4 k14
 have vt4:=vt g4 k14
 cases hw:hasP t r.edit
 · simp only [go_sem,↓reduceIte,Nat.reduceEqDiff,wanted,decide_true,decide_false,beq_self_eq_true,pickA,show (false==true)=false from rfl,show (true==false)=false from rfl,Bool.false_eq_true,undefA,Bool.not_true,Bool.not_false]
   refine WS_of_cond ?_
   simp only [go_sem,↓reduceIte,Nat.reduceEqDiff]
   refine WS_of_exit ?_
   simp only [go_sem,↓reduceIte,Nat.reduceEqDiff]
   exact out _ _ k14 (by rw [hv,hw];rfl) rfl rfl
 simp only [go_sem,↓reduceIte,Nat.reduceEqDiff,fieldAddrA,Nat.zero_add,Nat.add_zero,Nat.reduceAdd,wanted,decide_true,decide_false,beq_self_eq_true,pickA,show (false==true)=false from rfl,show (true==false)=false from rfl,Bool.false_eq_true,undefA,Bool.not_true,Bool.not_false,z5,vt4,vc4]
 refine (has_spec wg4 (it.keep (kb1.trans (k14.less kb1.n))) smt).mono ?_
 rintro _ g5 ⟨k5,rfl⟩
 have wg5:=k5.wf wg4
 have k15:Keep (Old g1.n) g1 g5:=k14.trans (k5.less k14.n)
 cases hy:hasP t r.check
 · simp only [go_sem,↓reduceIte,Nat.reduceEqDiff,wanted,decide_true,decide_false,beq_self_eq_true,pickA,show (false==true)=false from rfl,show (true==false)=false from rfl,Bool.false_eq_true,undefA,Bool.not_true,Bool.not_false]
   refine WS_of_cond ?_
   simp only [go_sem,↓reduceIte,Nat.reduceEqDiff]
   refine WS_of_exit ?_
   simp only [go_sem,↓reduceIte,Nat.reduceEqDiff]
   exact out _ _ k15 (by rw [hv,hw,hy];rfl) rfl rfl
 simp only [go_sem,↓reduceIte,Nat.reduceEqDiff,wanted,decide_true,decide_false,beq_self_eq_true,pickA,show (false==true)=false from rfl,show (true==false)=false from rfl,Bool.false_eq_true,undefA,Bool.not_true,Bool.not_false]
 refine WS_of_cond ?_
 simp only [go_sem,↓reduceIte,Nat.reduceEqDiff,Bool.false_eq_true]
 refine WS_of_skip ?_
 simp only [go_sem]
 have kb5:Keep (Old hb.n) hb g5:=kb1.trans (k15.less kb1.n)
 have b15:=(b1.keep kk1 (b1.lt wg)).keep k15 ((b1.keep kk1 (b1.lt wg)).lt wg1)
 have w5:loadA g5 true 1 (.ptr bs 0)=some (.agg [w]):=b15.loadAgg rfl
 obtain ⟨va5,vb5,vc5,vd5⟩:=vr g5 k15
 refine WS_of_seq (WS_of_seq (WS_of_ops ?_))
 simp only [check_Check_r12,go_sem,↓reduceIte,Nat.reduceEqDiff,fieldAddrA,Nat.zero_add,Nat.add_zero,Nat.reduceAdd,z1,w5,vd5]
 have ils:IsL 0 2 (fun _ cs x=>cs=subC x) hb sv r.subs:=IsL.of_flat (fun _=>rfl) s1 r1
 have ilo:IsL 0 3 (fun _ cs x=>cs=opC x) hb ov r.ops:=IsL.of_flat (fun _=>rfl) s2 r2
 refine (subs_spec wg5 is kb5 sm ils smr.2.1).mono ?_
 rintro _ g6 ⟨k6,rfl⟩
 have wg6:=k6.wf wg5
 have k16:Keep (Old g1.n) g1 g6:=k15.trans (k6.less k15.n)
 simp only [go_sem,↓reduceIte,Nat.reduceEqDiff]
 refine WS_of_seq (WS_of_ops ?_)
 simp only [check_Check_r13,go_sem,↓reduceIte,Nat.reduceEqDiff]
 refine WS_of_cond ?_
 simp only [go_sem,↓reduceIte,Nat.reduceEqDiff]
 have hall : ¬ (hasP t r.view&&(hasP t r.edit&&hasP t r.check))=false:=by rw [hv,hw,hy];simp
 by_cases hsb:subsK l r.subs 0 r.subs=0
 case neg =>
  have hc:chkR l t r=(subsK l r.subs 0 r.subs,pathP t.name r.name):=by unfold chkR;rw [if_neg hall,if_pos hsb]
  simp only [hsb,decide_false,Bool.not_false,go_sem,↓reduceIte,Nat.reduceEqDiff]
  refine WS_of_seq (WS_of_ops ?_)
  simp only [check_Check_r14,go_sem,↓reduceIte,Nat.reduceEqDiff]
  refine WS_of_exit ?_
  simp only [go_sem,↓reduceIte,Nat.reduceEqDiff]
  exact hbad (by rw [hc];exact hsb) _ _ (kk1.trans (k16.less kk1.n)) (by rw [hc];rfl) (by rw [hc];rfl)
 simp only [hsb,decide_true,Bool.not_true,go_sem,↓reduceIte,Nat.reduceEqDiff,Bool.false_eq_true]
 refine WS_of_skip ?_
 simp only [go_sem]
 have hc:chkR l t r=if r.ops.all (opP l t)=true then (0,[]) else (31,pathP t.name r.name):=by unfold chkR;rw [if_neg hall,if_neg (by rw [hsb];simp)]
 have kb6:Keep (Old hb.n) hb g6:=kb1.trans (k16.less kb1.n)
 have b16:=(b1.keep kk1 (b1.lt wg)).keep k16 ((b1.keep kk1 (b1.lt wg)).lt wg1)
 have b56:=b51.keep k16 (b51.lt wg1)
 have c16:=c1.keep k16 (c1.lt wg1)
 refine WS_of_seq (ops_loop wg6 is sm it smt kb6 ilo smr.2.2 b16 b56 c16 (by rw [hrcs];rfl) z1 z5 rfl ?_ ?_)
 · intro hf s g' q q2 q3
   rw [if_neg (by rw [hf];simp)] at hc
   simp only [go_sem,↓reduceIte,Nat.reduceEqDiff]
   exact hbad (by rw [hc];simp) _ _ (kk1.trans ((k16.trans (q.less k16.n)).less kk1.n)) (by rw [q2,hc];rfl) (by rw [q3,hc];rfl)
 · intro hf s g' q y1 y5 y21 y22 y23 y28 y29 y30
   rw [if_pos hf] at hc
   simp only [go_sem]
   refine WS_of_ops ?_
   simp only [check_Check_r21,go_sem,↓reduceIte,Nat.reduceEqDiff]
   exact hgood (by rw [hc]) _ _ (kk1.trans ((k16.trans (q.less k16.n)).less kk1.n)) rfl rfl y1 y5 y21 y22 y23 y28 y29 y30
/-- the relations of one type -/
theorem rels_body {hb g:H} {w:AV} {l:List TypD} {t:TypD} {tcs:List AV} {bs bt:Nat} {k:List Fr1} {Q:Post} {z:S} (wg:g.Wf) (is:IsSch 0 hb w l) (sm:SmallS l) (it:IsTyp 0 hb tcs t) (smt:SmallT t) (kb:Keep (Old hb.n) hb g)
 (b1:Box bs [w] g) (b5:Box bt tcs g) (z1:z 1 = .ptr bs 0) (z5:z 5 = .ptr bt 0) (z2:z 2 = .int .i64 0) (z3:z 3 = .str [])
 (hbad:(chkRs l t t.rels).1≠0 → ∀ s g',Keep (Old g.n) g g'→s 2 = .int .i64 (chkRs l t t.rels).1→s 3 = .str (chkRs l t t.rels).2→WExit (EL LX) 0 k Q s g')
 (hgood:(chkRs l t t.rels).1=0 → ∀ s g',Keep (Old g.n) g g'→s 2 = .int .i64 0→s 3 = .str []→s 1=z 1→s 21=z 21→s 22=z 22→s 23=z 23→WNext (EL LX) k Q s g') :
 WS (EL LX) (.seq (.ops check_Check_r7) (.block 2 (.loop check_Check_l23))) k Q z g:=by
 obtain ⟨rv,hcs,il⟩:=it
 have it:IsTyp 0 hb tcs t:=⟨rv,hcs,il⟩
 have l1:loadA g false 1 (.ptr bt 1)=some rv:=by rw [b5.load,hcs];rfl
 have hlen:=il.len
 refine WS_of_seq (WS_of_ops ?_)
 simp only [check_Check_r7,go_sem,↓reduceIte,Nat.reduceEqDiff,fieldAddrA,Nat.zero_add,Nat.add_zero,Nat.reduceAdd,z5,l1,hlen]
 refine WS_of_block (WS_of_loop (fun m s g'=>Keep (Old g.n) g g' ∧ ∃ j,m=t.rels.length - j∧j≤t.rels.length∧chkRs l t t.rels=chkRs l t (t.rels.drop j)∧s 28=rv∧s 29 = .int .i64 (t.rels.length:Int)∧s 30 = .int .i64 (j:Int)∧s 2 = .int .i64 0∧s 3 = .str []∧s 1 = .ptr bs 0∧s 5 = .ptr bt 0∧s 21=z 21∧s 22=z 22∧s 23=z 23) ?_ t.rels.length ?_)
 case refine_2=>exact ⟨Keep.refl _ _,0,rfl,Nat.zero_le _,rfl,rfl,rfl,rfl,z2,z3,z1,z5,rfl,rfl,rfl⟩
 rintro m s g1 ⟨kg,j,rfl,hj,hx,y28,y29,y30,y2,y3,y1,y5,y21,y22,y23⟩
 show WS (EL LX) check_Check_l23 _ _ _ _
 refine WS_of_seq (WS_of_ops ?_)
 simp only [check_Check_r8,go_sem,↓reduceIte,Nat.reduceEqDiff,y29,y30]
 refine WS_of_seq (WS_of_cond ?_)
 simp only [go_sem,↓reduceIte,Nat.reduceEqDiff]
 by_cases hjl:j<t.rels.length
 case neg =>
  have hjl' : ¬ (j:Int)<(t.rels.length:Int):=by omega
  simp only [hjl',decide_false,go_sem,↓reduceIte,Nat.reduceEqDiff,Bool.false_eq_true]
  refine WS_of_exit ?_
  simp only [go_sem,↓reduceIte,Nat.reduceEqDiff]
  rw [List.drop_eq_nil_of_le (by omega)] at hx
  exact hgood (by rw [hx];rfl) _ _ kg y2 y3 (y1.trans z1.symm) y21 y22 y23
 have hjl':(j:Int)<(t.rels.length:Int):=by omega
 simp only [hjl',decide_true,go_sem,↓reduceIte,Nat.reduceEqDiff]
 refine WS_of_skip ?_
 simp only [go_sem]
 have wg1:=kg.wf wg
 have kbg:=kb.trans (kg.less kb.n)
 obtain ⟨o,i,rcs,e1,e2,ir,e4,e5⟩:=IsL.atK il kbg hjl (by decide) .i64
 rw [List.drop_eq_getElem_cons hjl] at hx
 have smr:=smt.2.2 _ (List.getElem_mem hjl)
 generalize hxe:t.rels[j]=r at hx ir smr
 simp only [chkRs] at hx
 refine WS_of_seq (rel_body (bs:=bs) (bt:=bt) wg1 is sm it smt kbg ir smr (b1.keep kg (b1.lt wg)) (b5.keep kg (b5.lt wg)) y1 y5 y28 y30 e1 e5 ?_ ?_)
 · intro hne s' g' q q2 q3
   rw [if_neg hne] at hx
   simp only [go_sem,↓reduceIte,Nat.reduceEqDiff]
   exact hbad (by rw [hx];exact hne) _ _ (kg.trans (q.less kg.n)) (by rw [q2,hx]) (by rw [q3,hx])
 · intro hz s' g' q q2 q3 q1 q5 q21 q22 q23 q28 q29 q30
   rw [if_pos hz] at hx
   have a1:IntKind.i64.wrap ((j:Int)+1)=((j+1:Nat):Int):=wrapI (n:=j+1) (by have:=smt.1;omega)
   have q30':s' 30 = .int .i64 (j:Int):=q30.trans y30
   simp only [go_sem]
   refine WS_of_ops ?_
   simp only [check_Check_r22,go_sem,↓reduceIte,Nat.reduceEqDiff,q30',a1]
   exact ⟨t.rels.length - (j+1),by omega,kg.trans (q.less kg.n),j+1,rfl,by omega,hx,q28.trans y28,q29.trans y29,rfl,q2,q3,q1.trans y1,q5.trans y5,q21.trans y21,q22.trans y22,q23.trans y23⟩
theorem check_spec {w:AV} {l:List TypD} {hb h:H} (wf:h.Wf) (is:IsSch 0 hb w l) (kb:Keep (Old hb.n) hb h) (sm:SmallS l) :
 WCall (EL LX) n_check_Check [.agg [w]] h (CntQ h (checkP l)):=by
 obtain ⟨h1,hg1,b1,k1,w1,n1⟩:=new_box wf [w]
 have hlen:=is.len
 have l0:loadA h1 true 1 (.ptr h.n 0)=some (.agg [w]):=b1.loadAgg rfl
 refine WCall_ws ((EL_ov _ _).trans rfl) (EL_T T_check_Check) (by simp [check_Check_a]) ?_
 refine WS_of_seq (WS_of_ops ?_)
 simp only [check_Check_r0,go_sem,↓reduceIte,Nat.reduceEqDiff,enterS,List.getD_cons_zero,List.getD_cons_succ,AV.cells,hg1]
 refine WS_of_scope (WS_of_seq (WS_of_seq (WS_of_ops ?_)))
 simp only [check_Check_r1,go_sem,↓reduceIte,Nat.reduceEqDiff,l0]
 refine (counts_spec w1 is (kb.trans (k1.less kb.n)) sm).mono ?_
 rintro _ g0 ⟨k0,rfl⟩
 have wg0:=k0.wf w1
 have b10:=b1.keep k0 (b1.lt w1)
 simp only [go_sem,↓reduceIte,Nat.reduceEqDiff,extractA,List.getElem?_cons_zero,List.getElem?_cons_succ]
 refine WS_of_seq (WS_of_ops ?_)
 simp only [check_Check_r2,go_sem,↓reduceIte,Nat.reduceEqDiff]
 refine WS_of_cond ?_
 simp only [go_sem,↓reduceIte,Nat.reduceEqDiff]
 by_cases hc:(countsP l).1=0
 case neg =>
  have hr:checkP l=countsP l:=by unfold checkP;rw [if_neg hc]
  simp only [hc,decide_false,Bool.not_false,go_sem,↓reduceIte,Nat.reduceEqDiff]
  refine WS_of_seq (WS_of_ops ?_)
  simp only [check_Check_r3,go_sem,↓reduceIte,Nat.reduceEqDiff]
  refine WS_of_ret ?_
  simp only [go_sem,check_Check_a,List.map_cons,List.map_nil,go_sem,↓reduceIte,Nat.reduceEqDiff]
  rw [hr]
  exact ⟨k1.trans (k0.less (by omega)),rfl⟩
 have hr:checkP l=chkTs l l:=by unfold checkP;rw [if_pos hc]
 have hcz:=counts_zero hc
 rw [hr,hcz]
 simp only [decide_true,Bool.not_true,go_sem,↓reduceIte,Nat.reduceEqDiff,Bool.false_eq_true]
 refine WS_of_skip ?_
 simp only [go_sem]
 refine WS_of_seq (WS_of_skip ?_)
 simp only [go_sem]
 have l1:loadA g0 false 1 (.ptr h.n 0)=some w:=b10.load 1 0
 have fini : ∀ (s:S) (g':H) (x:Int×T8s),chkTs l l=x→Keep (Old g0.n) g0 g'→s 2 = .int .i64 x.1→s 3 = .str x.2→WS (EL LX) (.seq (.ops check_Check_r26) .ret) [] (atEnd check_Check_a.results (CntQ h (chkTs l l))) s g':=by
  intro s g' x hx q q2 q3
  refine WS_of_seq (WS_of_ops ?_)
  simp only [check_Check_r26,go_sem,↓reduceIte,Nat.reduceEqDiff,q2,q3]
  refine WS_of_ret ?_
  simp only [go_sem,check_Check_a,List.map_cons,List.map_nil,go_sem,↓reduceIte,Nat.reduceEqDiff]
  rw [hx]
  exact ⟨(k1.trans (k0.less (by omega))).trans (q.less (by have:=k0.n;omega)),rfl⟩
 refine WS_of_seq (WS_of_seq (WS_of_ops ?_))
 simp only [check_Check_r4,go_sem,↓reduceIte,Nat.reduceEqDiff,fieldAddrA,Nat.zero_add,Nat.add_zero,Nat.reduceAdd,l1,hlen]
 refine WS_of_block (WS_of_loop (fun m z g=>Keep (Old g0.n) g0 g ∧ ∃ j,m=l.length - j∧j≤l.length∧chkTs l l=chkTs l (l.drop j)∧z 1 = .ptr h.n 0∧z 2 = .int .i64 0∧z 3 = .str []∧z 21=w∧z 22 = .int .i64 (l.length:Int)∧z 23 = .int .i64 (j:Int)) ?_ l.length ?_)
 case refine_2=>exact ⟨Keep.refl _ _,0,rfl,Nat.zero_le _,rfl,rfl,rfl,rfl,rfl,rfl,rfl⟩
 rintro m z g ⟨kg,j,rfl,hj,hx,z1,z2,z3,z21,z22,z23⟩
 show WS (EL LX) check_Check_l25 _ _ _ _
 refine WS_of_seq (WS_of_ops ?_)
 simp only [check_Check_r5,go_sem,↓reduceIte,Nat.reduceEqDiff,z22,z23]
 refine WS_of_seq (WS_of_cond ?_)
 simp only [go_sem,↓reduceIte,Nat.reduceEqDiff]
 by_cases hjl:j<l.length
 case neg =>
  have hjl' : ¬ (j:Int)<(l.length:Int):=by omega
  simp only [hjl',decide_false,go_sem,↓reduceIte,Nat.reduceEqDiff,Bool.false_eq_true]
  refine WS_of_exit ?_
  simp only [go_sem,↓reduceIte,Nat.reduceEqDiff]
  rw [List.drop_eq_nil_of_le (by omega)] at hx
  exact fini _ _ (0,[]) hx kg z2 z3
 have hjl':(j:Int)<(l.length:Int):=by omega
 simp only [hjl',decide_true,go_sem,↓reduceIte,Nat.reduceEqDiff]
 refine WS_of_skip ?_
 simp only [go_sem]
 have wg:=kg.wf wg0
 have kbg:Keep (Old hb.n) hb g:=((kb.trans (k1.less kb.n)).trans (k0.less (by have:=kb.n;have:=k1.n;omega))).trans (kg.less (by have:=kb.n;have:=k1.n;have:=k0.n;omega))
 obtain ⟨o,i,tcs,e1,e2,it,e4,e5⟩:=IsL.atK is kbg hjl (by decide) .i64
 rw [List.drop_eq_getElem_cons hjl] at hx
 have smt:=sm.2 _ (List.getElem_mem hjl)
 generalize hxe:l[j]=t at hx it smt
 simp only [chkTs] at hx
 obtain ⟨g1,p1,c1,kk1⟩:=Box.init wg (z := [AV.str [],.nils]) (cs:=tcs) (n:=2) rfl e2 it.one.2
 have wg1:=kk1.wf wg
 have k01:Keep (Old g0.n) g0 g1:=kg.trans (kk1.less kg.n)
 refine WS_of_seq (WS_of_block (WS_of_seq (WS_of_ops ?_)))
 simp only [check_Check_r6,go_sem,↓reduceIte,Nat.reduceEqDiff,z21,z23,e1,e5,p1]
 refine rels_body (bs:=h.n) (bt:=g.n) wg1 is sm it smt (kbg.trans (kk1.less kbg.n)) (b10.keep k01 (b10.lt wg0)) c1 z1 rfl z2 z3 ?_ ?_
 · intro hne s' g' q q2 q3
   rw [if_neg hne] at hx
   simp only [go_sem,↓reduceIte,Nat.reduceEqDiff]
   exact fini _ _ _ hx (k01.trans (q.less k01.n)) q2 q3
 · intro hz s' g' q q2 q3 q1 q21 q22 q23
   rw [if_pos hz] at hx
   have a1:IntKind.i64.wrap ((j:Int)+1)=((j+1:Nat):Int):=wrapI (n:=j+1) (by have:=sm.1;omega)
   have q23':s' 23 = .int .i64 (j:Int):=q23.trans z23
   simp only [go_sem]
   refine WS_of_ops ?_
   simp only [check_Check_r24,go_sem,↓reduceIte,Nat.reduceEqDiff,q23',a1]
   exact ⟨l.length - (j+1),by omega,k01.trans (q.less k01.n),j+1,rfl,by omega,hx,q1.trans z1,q2,q3,q21.trans z21,q22.trans z22,rfl⟩
end Go.Proofs.YtdbmeidhlijopaaDoor.Ev.C

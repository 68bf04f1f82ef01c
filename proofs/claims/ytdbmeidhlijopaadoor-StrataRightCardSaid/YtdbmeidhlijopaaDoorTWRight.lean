/- StrataRight. -/
import Derived.Test.YtdbmeidhlijopaaDoorTS2
import Derived.Test.YtdbmeidhlijopaaDoorTP
import Derived.Test.YtdbmeidhlijopaaDoorTLevX
namespace Go.Proofs.YtdbmeidhlijopaaDoor.Ev.C
open Go Go.Proofs.YtdbmeidhlijopaaDoor.Ev Go.Sort Go.Proofs
set_option linter.unusedSimpArgs false
set_option linter.unusedVariables false
theorem decJ (a b:Nat):decide ((a:Int)<(b:Int))=decide (a<b):=by rw [Bool.eq_iff_iff,decide_eq_true_iff,decide_eq_true_iff];omega
theorem KStart.two {h:H} (ks:KStart h) (wf:h.Wf):2≤h.n:=by
 have:=wf.ob _ _ ks.row;omega
theorem KStart.keepN {h g:H} (ks:KStart h) (wf:h.Wf) (k:Keep (Old h.n) h g):KStart g:=ks.keepO (ks.two wf) k
theorem small_nil:SmallS []:=⟨by simp,fun t h=>by cases h⟩
def hasM (s:T8s) (j:Nat):Bool:=decide ((45:UInt8)∈s.take j)
theorem hasM_step {s:T8s} {j:Nat} (hj:j<s.length):hasM s (j+1)=(hasM s j||decide ((bt s j:Int)=45)):=by
 unfold hasM
 rw [Bool.eq_iff_iff,Bool.or_eq_true,decide_eq_true_iff,decide_eq_true_iff,decide_eq_true_iff,List.take_add_one,List.getElem?_eq_getElem hj]
 simp only [Option.toList_some,List.mem_append,List.mem_singleton]
 have hb:bt s j=s[j].toNat:=by simp [bt,List.getD_eq_getElem?_getD,List.getElem?_eq_getElem hj]
 rw [hb]
 constructor
 · rintro (h | h)
   · exact .inl h
   · right;rw [← h];rfl
 · rintro (h | h)
   · exact .inl h
   · right
     have:s[j].toNat=45:=by omega
     exact (UInt8.toNat_inj.1 (by rw [this];rfl)).symm
theorem filter_nots {l:List Ed} (h : ∀ e∈l,e.2.2=false):(l.filter (·.2.2)).length=0:=by
 rw [List.length_eq_zero_iff,List.filter_eq_nil_iff]
 intro e he;rw [h e he];simp
theorem right_answer {h:H} (ks:KStart h) (wf:h.Wf) (s:T8s) (hsl:s.length<4611686018427387904):WCall (EL LX) n_doormanlaw10_StrataRight [.str s] h fun r _=>r = .val (.bool true):=by
 refine WCall_ws ((EL_ov _ _).trans rfl) (EL_T T_doormanlaw10_StrataRight) (by simp [doormanlaw10_StrataRight_a]) ?_
 refine WS_of_seq (WS_of_ops ?_)
 simp only [doormanlaw10_StrataRight_r0,go_sem,↓reduceIte,Nat.reduceEqDiff]
 refine WS_of_seq (WS_of_ops ?_)
 simp only [doormanlaw10_StrataRight_r1,go_sem,↓reduceIte,Nat.reduceEqDiff]
 refine WCall_ov (g:=yes) ((EL_ov _ _).trans rfl) (r := .val (.bool true)) (h':=h) (by simp [yes,startB_of ks]) ?_
 simp only [go_sem,↓reduceIte,Nat.reduceEqDiff]
 refine WS_of_seq (WS_of_seq (WS_of_ops ?_))
 simp only [doormanlaw10_StrataRight_r2,go_sem,↓reduceIte,Nat.reduceEqDiff,Bool.not_true]
 refine WS_of_cond ?_
 simp only [go_sem,↓reduceIte,Nat.reduceEqDiff,Bool.false_eq_true]
 refine WS_of_skip ?_
 simp only [go_sem,↓reduceIte,Nat.reduceEqDiff]
 refine WS_of_seq (WS_of_seq (WS_of_ops ?_))
 simp only [doormanlaw10_StrataRight_r4,go_sem,↓reduceIte,Nat.reduceEqDiff,enterS,List.getD_cons_zero,List.getD_cons_succ,lenTA,Option.map_some]
 refine WS_of_cond ?_
 by_cases hlen:(2048:Int)<(s.length:Int)
 · simp only [go_sem,↓reduceIte,Nat.reduceEqDiff,hlen,decide_true]
   refine WS_of_seq (WS_of_ops ?_)
   simp only [doormanlaw10_StrataRight_r5,go_sem,↓reduceIte,Nat.reduceEqDiff]
   refine WS_of_ret ?_
   simp only [doormanlaw10_StrataRight_a,go_sem,↓reduceIte,Nat.reduceEqDiff]
 simp only [go_sem,↓reduceIte,Nat.reduceEqDiff,hlen,decide_false,Bool.false_eq_true]
 refine WS_of_skip ?_
 simp only [go_sem,↓reduceIte,Nat.reduceEqDiff]
 have hl2:s.length≤2048:=by omega
 refine WS_of_seq (WS_of_ops ?_)
 simp only [doormanlaw10_StrataRight_r6,go_sem,↓reduceIte,Nat.reduceEqDiff,enterS,List.getD_cons_zero,List.getD_cons_succ]
 refine (parse_walk s (by omega) wf ks (ks.two wf)).mono ?_
 intro r1 h1 q1
 obtain ⟨k1,q1⟩:=q1
 have w1:=k1.wf wf
 -- behind the two answers
 have early : ∀ (Q:Post) (z:S) (g:H) (k:List Fr1) (f:Int),(z 5 ≠ .int .i64 0∨f≠0)→(∃ e:Int,z 5 = .int .i64 e)→z 7 = .int .i64 f→(∀ z g,z 2 = .bool true→Q .ret z g) →
  WS (EL LX) (.seq (.ops doormanlaw10_StrataRight_r8) (.cond (.tmp 41) (.seq (.ops doormanlaw10_StrataRight_r9) .ret) .skip)) k Q z g:=by
  intro Q z g k f hne ⟨e,z5⟩ z7 hQ
  refine WS_of_seq (WS_of_ops ?_)
  by_cases he:e=0
  · subst he
    have hf:f≠0:=by rcases hne with h | h;exact absurd z5 h;exact h
    simp only [doormanlaw10_StrataRight_r8,go_sem,↓reduceIte,Nat.reduceEqDiff,wanted,decide_true,decide_false,beq_self_eq_true,pickA,show (false==true)=false from rfl,show (true==false)=false from rfl,Bool.false_eq_true,undefA,Bool.not_true,Bool.not_false,z5,z7,hf]
    refine WS_of_cond ?_
    simp only [go_sem,↓reduceIte,Nat.reduceEqDiff]
    refine WS_of_seq (WS_of_ops ?_)
    simp only [doormanlaw10_StrataRight_r9,go_sem,↓reduceIte,Nat.reduceEqDiff]
    refine WS_of_ret ?_
    exact hQ _ _ rfl
  · simp only [doormanlaw10_StrataRight_r8,go_sem,↓reduceIte,Nat.reduceEqDiff,wanted,decide_true,decide_false,beq_self_eq_true,pickA,show (false==true)=false from rfl,show (true==false)=false from rfl,Bool.false_eq_true,undefA,Bool.not_true,Bool.not_false,z5,z7,he]
    refine WS_of_cond ?_
    simp only [go_sem,↓reduceIte,Nat.reduceEqDiff]
    refine WS_of_seq (WS_of_ops ?_)
    simp only [doormanlaw10_StrataRight_r9,go_sem,↓reduceIte,Nat.reduceEqDiff]
    refine WS_of_ret ?_
    exact hQ _ _ rfl
 cases hp:parseP (lexP s) with
 | error e =>
  rw [hp] at q1
  have q1':r1 = .val (.tup [.agg [.nils],.int .i64 e.1,.int .i64 (e.2:Int)]):=q1
  subst q1'
  obtain ⟨g1,p1,c1,kk1⟩:=Box.init w1 (z := [AV.nils]) (cs := [AV.nils]) (n:=1) rfl rfl rfl
  have wg1:=kk1.wf w1
  simp only [go_sem,↓reduceIte,Nat.reduceEqDiff,extractA,List.getElem?_cons_zero,List.getElem?_cons_succ,p1]
  have m1:loadA g1 true 1 (.ptr h1.n 0)=some (.agg [.nils]):=c1.loadAgg rfl
  refine WS_of_seq (WS_of_ops ?_)
  simp only [doormanlaw10_StrataRight_r7,go_sem,↓reduceIte,Nat.reduceEqDiff,m1]
  refine (check_spec (l := []) wg1 (IsL.nil _ _ _ _) (Keep.refl _ _) small_nil).mono ?_
  rintro _ g2 ⟨k2,rfl⟩
  simp only [go_sem,↓reduceIte,Nat.reduceEqDiff,extractA,List.getElem?_cons_zero,List.getElem?_cons_succ]
  refine WS_of_seq (early _ _ _ _ _ (.inl ?_) ⟨_,rfl⟩ rfl ?_)
  · intro he
    exact parse_err hp (by injection he)
  · intro z g z2
    simp only [doormanlaw10_StrataRight_a,go_sem,↓reduceIte,Nat.reduceEqDiff,z2]
 | ok l =>
 rw [hp] at q1
 obtain ⟨w,rfl,is0⟩:=q1
 have is:IsSch 0 h1 w l:=is0.less (Nat.zero_le _)
 have ty:=parse_tiny hp
 have sm:=ty.sm
 obtain ⟨hg,hz⟩:=parse_good hp
 obtain ⟨g1,p1,c1,kk1⟩:=Box.init w1 (z := [AV.nils]) (cs := [w]) (n:=1) rfl rfl (by simp only [List.all_cons,List.all_nil,(IsL.one is).1];rfl)
 have wg1:=kk1.wf w1
 simp only [go_sem,↓reduceIte,Nat.reduceEqDiff,extractA,List.getElem?_cons_zero,List.getElem?_cons_succ,p1]
 have m1:loadA g1 true 1 (.ptr h1.n 0)=some (.agg [w]):=c1.loadAgg rfl
 refine WS_of_seq (WS_of_ops ?_)
 simp only [doormanlaw10_StrataRight_r7,go_sem,↓reduceIte,Nat.reduceEqDiff,m1]
 refine (check_spec (l:=l) wg1 is kk1 sm).mono ?_
 rintro _ g2 ⟨k2,rfl⟩
 have wg2:=k2.wf wg1
 simp only [go_sem,↓reduceIte,Nat.reduceEqDiff,extractA,List.getElem?_cons_zero,List.getElem?_cons_succ]
 by_cases hc:(checkP l).1=0
 case neg =>
  refine WS_of_seq (early _ _ _ _ _ (.inr hc) ⟨_,rfl⟩ rfl ?_)
  intro z g z2
  simp only [doormanlaw10_StrataRight_a,go_sem,↓reduceIte,Nat.reduceEqDiff,z2]
 have hn:=check_names hc
 have hfew:=rels_few hn
 refine WS_of_seq (WS_of_seq (WS_of_ops ?_))
 simp only [doormanlaw10_StrataRight_r8,go_sem,↓reduceIte,Nat.reduceEqDiff,wanted,decide_true,decide_false,beq_self_eq_true,pickA,show (false==true)=false from rfl,show (true==false)=false from rfl,Bool.false_eq_true,undefA,Bool.not_true,Bool.not_false,hc]
 refine WS_of_cond ?_
 simp only [go_sem,↓reduceIte,Nat.reduceEqDiff,Bool.false_eq_true]
 refine WS_of_skip ?_
 simp only [go_sem,↓reduceIte,Nat.reduceEqDiff]
 refine WS_of_seq (WS_of_ops ?_)
 simp only [doormanlaw10_StrataRight_r10,go_sem,↓reduceIte,Nat.reduceEqDiff]
 have kb2:Keep (Old h1.n) h1 g2:=kk1.trans (k2.less kk1.n)
 have c2:=c1.keep k2 (c1.lt wg1)
 have m4:loadA g2 false 1 (.ptr h1.n 0)=some w:=c2.load 1 0
 have m4':loadA g2 true 1 (.ptr h1.n 0)=some (.agg [w]):=c2.loadAgg rfl
 refine WS_of_seq (WS_of_seq (WS_of_ops ?_))
 simp only [doormanlaw10_StrataRight_r11,go_sem,↓reduceIte,Nat.reduceEqDiff]
 refine for2_loop (n:=l.length) (i0:=0) (by have:=sm.1;omega) (fun j z g=>g=g2∧z 0 = .str s∧z 4 = .ptr h1.n 0∧z 9 = .int .i64 (relsN (l.take j):Int)) (by decide) ?_ rfl (Nat.zero_le _) ⟨rfl,rfl,rfl,rfl⟩ ?_ ?_ ?_
 · rintro j s g t v (rfl | rfl | rfl) ⟨a,b,c,d⟩ <;> exact ⟨a,b,c,d⟩
 · rintro j z g hj ⟨rfl,z0,z4,z9⟩ z10
   refine WS_of_ops ?_
   simp only [doormanlaw10_StrataRight_r12,go_sem,↓reduceIte,Nat.reduceEqDiff,fieldAddrA,Nat.zero_add,Nat.add_zero,Nat.reduceAdd,z10,z4,m4,is.len]
   refine ⟨⟨trivial,z0,trivial,z9⟩,trivial,?_⟩
   rw [decJ]
 · rintro j z g hj ⟨rfl,z0,z4,z9⟩ z10
   obtain ⟨to,ti,tcs,ta,tlen,it,tl⟩:=IsL.el is hj (by decide)
   have hrt:relsN (l.take (j+1))=relsN (l.take j)+l[j].rels.length:=by
    unfold relsN
    rw [List.take_add_one,List.getElem?_eq_getElem hj,List.map_append,List.sum_append]
    simp only [Option.toList_some,List.map_cons,List.map_nil,List.sum_cons,List.sum_nil];omega
   have hrl:relsN (l.take (j+1))≤relsN l:=by
    have:relsN l=relsN (l.take (j+1))+relsN (l.drop (j+1)):=by
     conv=>lhs;rw [← List.take_append_drop (j+1) l]
     unfold relsN;rw [List.map_append,List.sum_append]
    omega
   generalize l[j]=t at it hrt
   obtain ⟨rv,rfl,il⟩:=it
   have l1:loadA g false 1 (.ptr to (ti+1))=some rv:=(tl g kb2.rk).2 1 (by decide)
   have a1:IntKind.i64.wrap (((relsN (l.take j):Nat):Int)+(t.rels.length:Int))=((relsN (l.take (j+1)):Nat):Int):=by rw [← Int.natCast_add,← hrt];exact wrapI (by omega)
   refine WS_of_ops ?_
   simp only [doormanlaw10_StrataRight_r13,go_sem,↓reduceIte,Nat.reduceEqDiff,fieldAddrA,Nat.zero_add,Nat.add_zero,Nat.reduceAdd,z10,z9,z4,m4,ta,l1,il.len,a1]
   exact ⟨⟨trivial,z0,trivial,trivial⟩,trivial⟩
 rintro z g ⟨rfl,z0,z4,z9⟩
 rw [List.take_length] at z9
 simp only [go_sem,↓reduceIte,Nat.reduceEqDiff]
 refine WS_of_seq (WS_of_ops ?_)
 simp only [doormanlaw10_StrataRight_r16,go_sem,↓reduceIte,Nat.reduceEqDiff]
 refine WS_of_seq (WS_of_seq (WS_of_ops ?_))
 simp only [doormanlaw10_StrataRight_r17,go_sem,↓reduceIte,Nat.reduceEqDiff]
 refine for2_loop (n:=s.length) (i0:=0) (by omega) (fun j z g'=>g'=g∧z 0 = .str s∧z 4 = .ptr h1.n 0∧z 9 = .int .i64 (relsN l:Int)∧z 11 = .bool (hasM s j)) (by decide) ?_ rfl (Nat.zero_le _) ⟨rfl,z0,z4,z9,rfl⟩ ?_ ?_ ?_
 · rintro j s g t v (rfl | rfl | rfl) ⟨a,b,c,d,e⟩ <;> exact ⟨a,b,c,d,e⟩
 · rintro j z g' hj ⟨rfl,z0,z4,z9,z11⟩ z12
   refine WS_of_ops ?_
   simp only [doormanlaw10_StrataRight_r18,go_sem,↓reduceIte,Nat.reduceEqDiff,z12,z0,lenTA,Option.map_some]
   refine ⟨⟨trivial,trivial,z4,z9,z11⟩,trivial,?_⟩
   rw [decJ]
 · rintro j z g' hj ⟨rfl,z0,z4,z9,z11⟩ z12
   have hst:=hasM_step hj
   refine WS_of_ops ?_
   cases hm:hasM s j
   · rw [hm] at z11 hst
     simp only [doormanlaw10_StrataRight_r19,go_sem,↓reduceIte,Nat.reduceEqDiff,wanted,decide_true,decide_false,beq_self_eq_true,pickA,show (false==true)=false from rfl,show (true==false)=false from rfl,Bool.false_eq_true,undefA,Bool.not_true,Bool.not_false,z12,z0,z11,bt_idx hj]
     refine ⟨⟨trivial,trivial,z4,z9,?_⟩,trivial⟩
     rw [hst,Bool.false_or]
   · rw [hm] at z11 hst
     simp only [doormanlaw10_StrataRight_r19,go_sem,↓reduceIte,Nat.reduceEqDiff,wanted,decide_true,decide_false,beq_self_eq_true,pickA,show (false==true)=false from rfl,show (true==false)=false from rfl,Bool.false_eq_true,undefA,Bool.not_true,Bool.not_false,z11]
     refine ⟨⟨trivial,z0,z4,z9,?_⟩,z12⟩
     rw [hst,Bool.true_or]
 rintro z g' ⟨rfl,z0,z4,z9,z11⟩
 have hM:hasM s s.length=decide ((45:UInt8)∈s):=by unfold hasM;rw [List.take_length]
 rw [hM] at z11
 simp only [go_sem,↓reduceIte,Nat.reduceEqDiff]
 have nd:=names_paths hn.typs hn.rels
 refine WS_of_seq (WS_of_ops ?_)
 simp only [doormanlaw10_StrataRight_r22,go_sem,↓reduceIte,Nat.reduceEqDiff,z4,m4']
 refine (edges_spec wg2 is kb2 ty nd).mono ?_
 rintro _ g3 ⟨k3,v,rfl,fo⟩
 have wg3:=k3.wf wg2
 have hstrict:=edgesP_strict l
 have hin : ∀ e∈edgesP l,off (relsN l:Int) e=false:=fun e he=>edge_in he
 have hnot : ∀ e∈edgesP l,e.2.2=true→(45:UInt8)∈s:=fun e he hn=>edge_not hg he hn
 have hel:(edgesP l).length<1000000000:=by
  have h1 : ∀ m:List Ed,(compP m).length≤m.length:=by
   intro m
   induction m using compP.induct with
   | case1=>simp [compP]
   | case2=>simp [compP]
   | case3 b r ih=>simp only [compP,if_true] at ih ⊢;simp only [List.length_cons] at *;omega
   | case4 a b r hne ih=>simp only [compP,if_neg hne] at ih ⊢;simp only [List.length_cons] at *;omega
  have h2:=h1 (sortE (edgesL l))
  rw [show (sortE (edgesL l)).length=(edgesL l).length from List.length_mergeSort _] at h2
  have:=ty.eds
  unfold edgesP;omega
 generalize edgesP l=es at fo hstrict hin hnot hel
 simp only [go_sem,↓reduceIte,Nat.reduceEqDiff]
 refine WS_of_seq (WS_of_seq (WS_of_ops ?_))
 simp only [doormanlaw10_StrataRight_r23,go_sem,↓reduceIte,Nat.reduceEqDiff]
 have sv:=fo.2.slot wg3
 refine for2_loop (n:=es.length) (i0:=0) (by omega) (fun j z g'=>Keep (Old g3.n) g3 g'∧z 13=v∧z 9 = .int .i64 (relsN l:Int)∧z 11 = .bool (decide ((45:UInt8)∈s))) (by decide) ?_ rfl (Nat.zero_le _) ⟨Keep.refl _ _,rfl,z9,z11⟩ ?_ ?_ ?_
 · rintro j s g t v (rfl | rfl | rfl) ⟨a,b,c,d⟩ <;> exact ⟨a,b,c,d⟩
 · rintro j z g' hj ⟨kg,z13,z9,z11⟩ z14
   refine WS_of_ops ?_
   simp only [doormanlaw10_StrataRight_r24,go_sem,↓reduceIte,Nat.reduceEqDiff,z14,z13,fo.1.len]
   refine ⟨⟨kg,trivial,z9,z11⟩,trivial,?_⟩
   rw [decJ]
 · rintro j z g' hj ⟨kg,z13,z9,z11⟩ z14
   have wg':=kg.wf wg3
   have fo':=fo.1.keep kg sv
   obtain ⟨o1,i1,e1,_,e2⟩:=Sl.elem fo' (fun _ _=>rfl) hj (by decide) .i64
   have hx:=hin _ (List.getElem_mem hj)
   have hxn:=hnot _ (List.getElem_mem hj)
   have hst : ∀ (hj0:0<j),ltE es[j - 1] es[j]=true:=fun hj0=>List.pairwise_iff_getElem.1 hstrict (j - 1) j (by omega) hj (by omega)
   generalize es[j]=x at e2 hx hxn hst
   obtain ⟨g4,p4,c4,kk4⟩:=Box.init wg' (z := [AV.int .i64 0,.int .i64 0,.bool false]) (cs:=edC x) (n:=3) rfl rfl rfl
   have wg4:=kk4.wf wg'
   refine WS_of_seq (WS_of_ops ?_)
   simp only [doormanlaw10_StrataRight_r25,go_sem,↓reduceIte,Nat.reduceEqDiff,z13,z14,e1,e2,p4]
   have x0:loadA g4 false 1 (.ptr g'.n 0)=some (.int .i64 x.1):=c4.load 1 0
   have x1:loadA g4 false 1 (.ptr g'.n 1)=some (.int .i64 x.2.1):=c4.load 1 1
   have x2:loadA g4 false 1 (.ptr g'.n 2)=some (.bool x.2.2):=c4.load 1 2
   simp only [off,Bool.or_eq_false_iff,decide_eq_false_iff_not] at hx
   obtain ⟨⟨⟨b1,b2⟩,b3⟩,b4⟩:=hx
   have hnm:x.2.2=true→decide ((45:UInt8)∈s)=true:=fun h=>decide_eq_true (hxn h)
   refine WS_of_seq (WS_mid (fun z2 g2=>g2=g4∧z2 110 = .bool false∧z2 14 = .int .i64 (j:Int)∧z2 13=v∧z2 9 = .int .i64 (relsN l:Int)∧z2 11 = .bool (decide ((45:UInt8)∈s))∧z2 15 = .ptr g'.n 0) ?_ ?_)
   · refine WS_of_ops ?_
     cases hx2:x.2.2
     · rw [hx2] at x2
       simp only [doormanlaw10_StrataRight_r26,go_sem,↓reduceIte,Nat.reduceEqDiff,fieldAddrA,Nat.zero_add,Nat.add_zero,Nat.reduceAdd,wanted,decide_true,decide_false,beq_self_eq_true,pickA,show (false==true)=false from rfl,show (true==false)=false from rfl,Bool.false_eq_true,undefA,Bool.not_true,Bool.not_false,x0,x1,x2,z9,b1,b2,b3,b4]
       exact ⟨trivial,trivial,trivial,z14,z13,trivial,z11,trivial⟩
     · rw [hx2] at x2
       have hm1:=hnm hx2
       simp only [doormanlaw10_StrataRight_r26,go_sem,↓reduceIte,Nat.reduceEqDiff,fieldAddrA,Nat.zero_add,Nat.add_zero,Nat.reduceAdd,wanted,decide_true,decide_false,beq_self_eq_true,pickA,show (false==true)=false from rfl,show (true==false)=false from rfl,Bool.false_eq_true,undefA,Bool.not_true,Bool.not_false,x0,x1,x2,z9,z11,hm1,b1,b2,b3,b4]
       exact ⟨trivial,trivial,trivial,z14,z13,trivial,trivial,trivial⟩
   rintro z2 g2 ⟨rfl,y110,y14,y13,y9,y11,y15⟩
   have kg4:Keep (Old g3.n) g3 g2:=kg.trans (kk4.less kg.n)
   refine WS_of_cond ?_
   simp only [go_sem,↓reduceIte,Nat.reduceEqDiff,y110,Bool.false_eq_true]
   refine WS_of_skip ?_
   simp only [go_sem,↓reduceIte,Nat.reduceEqDiff]
   refine WS_of_seq (WS_of_seq (WS_of_ops ?_))
   by_cases hj0:j=0
   · have hj0':(j:Int)=0:=by omega
     simp only [doormanlaw10_StrataRight_r28,go_sem,↓reduceIte,Nat.reduceEqDiff,y14,hj0',decide_true]
     refine WS_of_cond ?_
     simp only [go_sem,↓reduceIte,Nat.reduceEqDiff]
     refine WS_of_exit ?_
     simp only [go_sem,↓reduceIte,Nat.reduceEqDiff]
     exact ⟨⟨kg4,y13,y9,y11⟩,y14.trans (by rw [hj0'])⟩
   have hj0' : ¬ (j:Int)=0:=by omega
   simp only [doormanlaw10_StrataRight_r28,go_sem,↓reduceIte,Nat.reduceEqDiff,y14,hj0',decide_false]
   refine WS_of_cond ?_
   simp only [go_sem,↓reduceIte,Nat.reduceEqDiff,Bool.false_eq_true]
   refine WS_of_skip ?_
   simp only [go_sem,↓reduceIte,Nat.reduceEqDiff]
   have hst':=hst (by omega)
   have fo2:=fo.1.keep kg4 sv
   obtain ⟨o3,i3,e3,_,e4⟩:=Sl.elem fo2 (fun _ _=>rfl) (i:=j - 1) (by omega) (by decide) .i64
   generalize es[j - 1]=y at e4 hst'
   obtain ⟨g5,p5,c5,kk5⟩:=Box.init wg4 (z := [AV.int .i64 0,.int .i64 0,.bool false]) (cs:=edC y) (n:=3) rfl rfl rfl
   have a1:IntKind.i64.wrap ((j:Int) - 1)=((j - 1:Nat):Int):=by rw [show ((j:Int) - 1)=((j - 1:Nat):Int) by omega];exact wrapI (by omega)
   refine WS_of_seq (WS_of_ops ?_)
   simp only [doormanlaw10_StrataRight_r29,go_sem,↓reduceIte,Nat.reduceEqDiff,y13,y14,a1,e3,e4,p5]
   have c45:=c4.keep kk5 (c4.lt wg4)
   have u0:loadA g5 false 1 (.ptr g'.n 0)=some (.int .i64 x.1):=c45.load 1 0
   have u1:loadA g5 false 1 (.ptr g'.n 1)=some (.int .i64 x.2.1):=c45.load 1 1
   have u2:loadA g5 false 1 (.ptr g'.n 2)=some (.bool x.2.2):=c45.load 1 2
   have v0:loadA g5 false 1 (.ptr g2.n 0)=some (.int .i64 y.1):=c5.load 1 0
   have v1:loadA g5 false 1 (.ptr g2.n 1)=some (.int .i64 y.2.1):=c5.load 1 1
   have v2:loadA g5 false 1 (.ptr g2.n 2)=some (.bool y.2.2):=c5.load 1 2
   refine WS_mid (fun z6 g6=>g6=g5∧z6 159 = .bool false∧z6 14 = .int .i64 (j:Int)∧z6 13=v∧z6 9 = .int .i64 (relsN l:Int)∧z6 11 = .bool (decide ((45:UInt8)∈s))) ?_ ?_
   · refine WS_of_ops ?_
     rw [ltE_iff] at hst'
     by_cases q1:y.1<x.1
     · have r1 : ¬ x.1<y.1:=by omega
       have r2 : ¬ y.1=x.1:=by omega
       simp only [doormanlaw10_StrataRight_r30,go_sem,↓reduceIte,Nat.reduceEqDiff,fieldAddrA,Nat.zero_add,Nat.add_zero,Nat.reduceAdd,wanted,decide_true,decide_false,beq_self_eq_true,pickA,show (false==true)=false from rfl,show (true==false)=false from rfl,Bool.false_eq_true,undefA,Bool.not_true,Bool.not_false,u0,u1,u2,v0,v1,v2,y15,r1,r2]
       exact ⟨trivial,trivial,trivial,y14,y13,y9,y11⟩
     · have r1 : ¬ x.1<y.1:=by omega
       have r2:y.1=x.1:=by omega
       by_cases q2:y.2.1<x.2.1
       · have r3 : ¬ x.2.1<y.2.1:=by omega
         have r4 : ¬ y.2.1=x.2.1:=by omega
         simp only [doormanlaw10_StrataRight_r30,go_sem,↓reduceIte,Nat.reduceEqDiff,fieldAddrA,Nat.zero_add,Nat.add_zero,Nat.reduceAdd,wanted,decide_true,decide_false,beq_self_eq_true,pickA,show (false==true)=false from rfl,show (true==false)=false from rfl,Bool.false_eq_true,undefA,Bool.not_true,Bool.not_false,u0,u1,u2,v0,v1,v2,y15,r1,r2,r3,r4,Int.lt_irrefl]
         exact ⟨trivial,trivial,trivial,y14,y13,y9,y11⟩
       · have r3 : ¬ x.2.1<y.2.1:=by omega
         have r4:y.2.1=x.2.1:=by omega
         have hw:wt y.2.2<wt x.2.2:=by omega
         have hy:y.2.2=false:=by cases h1:y.2.2;rfl;rw [h1] at hw;cases h2:x.2.2 <;> rw [h2] at hw <;> simp [wt] at hw
         have hx:x.2.2=true:=by cases h1:x.2.2;rw [h1] at hw;simp [wt] at hw;rfl
         rw [hy] at v2
         rw [hx] at u2
         simp only [doormanlaw10_StrataRight_r30,go_sem,↓reduceIte,Nat.reduceEqDiff,fieldAddrA,Nat.zero_add,Nat.add_zero,Nat.reduceAdd,wanted,decide_true,decide_false,beq_self_eq_true,pickA,show (false==true)=false from rfl,show (true==false)=false from rfl,Bool.false_eq_true,undefA,Bool.not_true,Bool.not_false,u0,u1,u2,v0,v1,v2,y15,r1,r2,r3,r4,Int.lt_irrefl]
         exact ⟨trivial,trivial,trivial,y14,y13,y9,y11⟩
   rintro z6 g6 ⟨rfl,w159,w14,w13,w9,w11⟩
   refine WS_of_cond ?_
   simp only [go_sem,↓reduceIte,Nat.reduceEqDiff,w159,Bool.false_eq_true]
   refine WS_of_skip ?_
   simp only [go_sem,↓reduceIte,Nat.reduceEqDiff]
   exact ⟨⟨kg4.trans (kk5.less kg4.n),w13,w9,w11⟩,w14⟩
 rintro z g' ⟨kg,z13,z9,z11⟩
 have wg':=kg.wf wg3
 have fo':=fo.1.keep kg sv
 have sv':Slot (Old g'.n) g' v:=sv.keep kg fun o ho=>Nat.lt_of_lt_of_le ho kg.n
 simp only [go_sem,↓reduceIte,Nat.reduceEqDiff]
 refine WS_of_seq (WS_of_ops ?_)
 simp only [doormanlaw10_StrataRight_r34,go_sem,↓reduceIte,Nat.reduceEqDiff,z13,z9]
 refine (levels_atX (k:=relsN l) (by omega) fo' sv' (by omega) wg').mono ?_
 rintro _ g5 ⟨k5,a,e,rfl,res⟩
 simp only [go_sem,↓reduceIte,Nat.reduceEqDiff,extractA,List.getElem?_cons_zero,List.getElem?_cons_succ]
 refine WS_of_seq (WS_of_ops ?_)
 by_cases hm:(45:UInt8)∈s
 · simp only [doormanlaw10_StrataRight_r35,go_sem,↓reduceIte,Nat.reduceEqDiff,wanted,decide_true,decide_false,beq_self_eq_true,pickA,show (false==true)=false from rfl,show (true==false)=false from rfl,Bool.false_eq_true,undefA,Bool.not_true,Bool.not_false,z11,hm]
   refine WS_of_ret ?_
   simp only [doormanlaw10_StrataRight_a,go_sem,↓reduceIte,Nat.reduceEqDiff]
 · have hno : ∀ e∈es,e.2.2=false:=by
    intro e he
    cases hh:e.2.2
    · rfl
    · exact absurd (hnot e he hh) hm
   rcases res with ⟨hb,_⟩ | ⟨_,hns,_⟩ | ⟨_,r0,f,_,_,_,rfl,rfl⟩
   · obtain ⟨e',he,ho⟩:=hb
     rw [hin e' he] at ho;cases ho
   · have:=hns.nots
     rw [filter_nots hno] at this;omega
   · simp only [doormanlaw10_StrataRight_r35,go_sem,↓reduceIte,Nat.reduceEqDiff,wanted,decide_true,decide_false,beq_self_eq_true,pickA,show (false==true)=false from rfl,show (true==false)=false from rfl,Bool.false_eq_true,undefA,Bool.not_true,Bool.not_false,z11,hm,z9,lenSA,Option.map_some]
     refine WS_of_ret ?_
     simp only [doormanlaw10_StrataRight_a,go_sem,↓reduceIte,Nat.reduceEqDiff]
end Go.Proofs.YtdbmeidhlijopaaDoor.Ev.C

/- strata.Levels, in the environment LX. (Printed by mkx.py out of law10/Edges, law10/Levels.) -/
import Derived.Test.YtdbmeidhlijopaaDoorTX
import Derived.Test.YtdbmeidhlijopaaDoorTLevels
namespace Go.Proofs.YtdbmeidhlijopaaDoor.Ev.C
open Go Go.Proofs.YtdbmeidhlijopaaDoor.Ev
set_option linter.unusedSimpArgs false
set_option linter.unusedVariables false
theorem off_specX {e:Ed} {n:Int} {o i:Nat} {h:H} (hn:loadA h false 1 (.ptr o i)=some (intC n)) (wf:h.Wf) (ho:Slot (Old h.n) h (.ptr o i)) :
 WCall (EL LX) n_strata_Levels_1 [.agg (edC e),.ptr o i] h fun r h'=>Keep (Old h.n) h h'∧r = .val (.bool (off n e)):=by
 have hb:=Box.new wf (edC e)
 have hk:Keep (Old h.n) h (h.new (edC e)):=Keep.new (Nat.le_refl _) _
 have hn':loadA (h.new (edC e)) false 1 (.ptr o i)=some (intC n):=by
  have:=row_keep hk ho.1 ho.2
  simp only [loadA,this] at hn ⊢
  exact hn
 have l0:loadA (h.new (edC e)) false 1 (.ptr h.n 0)=some (intC e.1):=hb.load 1 0
 have l1:loadA (h.new (edC e)) false 1 (.ptr h.n 1)=some (intC e.2.1):=hb.load 1 1
 refine WCall_ws ((EL_ov _ _).trans rfl) (EL_T T_strata_Levels_1) (by simp [strata_Levels_1_a]) ?_
 refine WS_of_seq (WS_of_ops ?_)
 simp only [strata_Levels_1_r0,go_sem,↓reduceIte,Nat.reduceEqDiff,enterS,List.getD_cons_zero,List.getD_cons_succ,AV.cells]
 refine WS_of_seq (WS_of_ops ?_)
 simp only [strata_Levels_1_r1,go_sem,↓reduceIte,Nat.reduceEqDiff,enterS,List.getD_cons_zero,List.getD_cons_succ,l0,l1,hn',wanted,beq_self_eq_true,fieldAddrA,Nat.zero_add]
 by_cases h1:e.1<0
 · simp only [h1,decide_true,go_sem,↓reduceIte,Nat.reduceEqDiff,beq_self_eq_true,wanted,show (true==false)=false from rfl,Bool.false_eq_true,pickA]
   refine WS_of_ret ?_
   simp only [go_sem,strata_Levels_1_a,↓reduceIte,Nat.reduceEqDiff]
   exact ⟨hk,by simp [off,h1]⟩
 simp only [h1,decide_false,go_sem,↓reduceIte,Nat.reduceEqDiff,beq_self_eq_true,wanted,pickA,l0,hn']
 by_cases h2:n≤e.1
 · simp only [h2,decide_true,go_sem,↓reduceIte,Nat.reduceEqDiff,beq_self_eq_true,wanted,show (true==false)=false from rfl,Bool.false_eq_true,pickA]
   refine WS_of_ret ?_
   simp only [go_sem,strata_Levels_1_a,↓reduceIte,Nat.reduceEqDiff]
   exact ⟨hk,by simp [off,h2]⟩
 simp only [h2,decide_false,go_sem,↓reduceIte,Nat.reduceEqDiff,beq_self_eq_true,wanted,pickA,l1,fieldAddrA,Nat.zero_add,Bool.false_eq_true]
 by_cases h3:e.2.1<0
 · simp only [h3,decide_true,go_sem,↓reduceIte,Nat.reduceEqDiff,beq_self_eq_true,wanted,show (true==false)=false from rfl,Bool.false_eq_true,pickA]
   refine WS_of_ret ?_
   simp only [go_sem,strata_Levels_1_a,↓reduceIte,Nat.reduceEqDiff]
   exact ⟨hk,by simp [off,h3]⟩
 simp only [h3,decide_false,go_sem,↓reduceIte,Nat.reduceEqDiff,beq_self_eq_true,wanted,pickA,l1,hn',fieldAddrA,Nat.zero_add,Bool.false_eq_true]
 refine WS_of_ret ?_
 simp only [go_sem,strata_Levels_1_a,↓reduceIte,Nat.reduceEqDiff]
 exact ⟨hk,by simp [off,h1,h2,h3]⟩
theorem index_off_specX {v:AV} {l:List Ed} {n:Int} {o i:Nat} {h:H} (b:Eds h v l) (bs:Slot (Old h.n) h v) (hl:l.length<4611686018427387904) (hn:loadA h false 1 (.ptr o i)=some (intC n)) (wf:h.Wf) (ho:Slot (Old h.n) h (.ptr o i)) :
 WCall (EL LX) n_slices_IndexFunc_strata_Edge_strata_Edge [v,.func n_strata_Levels_1 [.ptr o i]] h fun r h'=>Keep (Old h.n) h h' ∧ ∃ z:Int,r = .val (.int .i64 z)∧(0≤z↔Bad n l):=by
 refine WCall_ws ((EL_ov _ _).trans rfl) (EL_T T_slices_IndexFunc_strata_Edge_strata_Edge) (by simp [slices_IndexFunc_strata_Edge_strata_Edge_a]) ?_
 refine WS_of_seq (WS_of_ops ?_)
 simp only [slices_IndexFunc_strata_Edge_strata_Edge_r0,go_sem,↓reduceIte,Nat.reduceEqDiff]
 refine WS_of_seq (WS_of_seq (WS_of_ops ?_))
 simp only [slices_IndexFunc_strata_Edge_strata_Edge_r1,go_sem,↓reduceIte,Nat.reduceEqDiff,enterS,List.getD_cons_zero,b.len]
 refine WS_of_block (WS_of_loop (fun m z g=>Keep (Old h.n) h g ∧ ∃ j,m=l.length - j∧j≤l.length∧(∀ e∈l.take j,off n e=false)∧z 0=v∧z 1 = .func n_strata_Levels_1 [.ptr o i]∧z 7 = .int .i64 (l.length:Int)∧z 8 = .int .i64 (j:Int)) ?_ l.length ?_)
 · rintro m z g ⟨kg,j,rfl,hj,hno,z0,z1,z7,z8⟩
   have wg:=kg.wf wf
   show WS (EL LX) slices_IndexFunc_strata_Edge_strata_Edge_l7 _ _ _ _
   refine WS_of_seq (WS_of_ops ?_)
   simp only [slices_IndexFunc_strata_Edge_strata_Edge_r2,go_sem,↓reduceIte,Nat.reduceEqDiff,z7,z8]
   refine WS_of_seq (WS_of_cond ?_)
   simp only [go_sem,↓reduceIte]
   by_cases hil:j<l.length
   case neg =>
    have hie:j=l.length:=by omega
    subst hie
    simp only [Int.lt_irrefl,decide_false,Bool.false_eq_true,↓reduceIte]
    refine WS_of_exit ?_
    simp only [go_sem,↓reduceIte]
    refine WS_of_seq (WS_of_ops ?_)
    simp only [slices_IndexFunc_strata_Edge_strata_Edge_r8,go_sem,↓reduceIte,Nat.reduceEqDiff]
    refine WS_of_ret ?_
    simp only [go_sem,slices_IndexFunc_strata_Edge_strata_Edge_a,↓reduceIte,Nat.reduceEqDiff]
    rw [List.take_length] at hno
    refine ⟨kg,-1,rfl,⟨fun h=>absurd h (by decide),?_⟩⟩
    rintro ⟨e,he',ho'⟩
    rw [hno e he'] at ho';cases ho'
   have hil':(j:Int)<(l.length:Int):=by omega
   simp only [hil',decide_true,↓reduceIte]
   refine WS_of_skip ?_
   simp only [go_sem]
   refine WS_of_seq (WS_of_block (WS_of_seq (WS_of_ops ?_)))
   simp only [slices_IndexFunc_strata_Edge_strata_Edge_r3,go_sem,↓reduceIte,Nat.reduceEqDiff,z8]
   refine WS_of_seq (WS_of_ops ?_)
   have bg:Eds g v l:=Sl.keep b kg bs
   obtain ⟨po,pj,e1,_,_,_,e2⟩:=bg.at hil
   simp only [slices_IndexFunc_strata_Edge_strata_Edge_r4,go_sem,↓reduceIte,Nat.reduceEqDiff,z0,z1,e1,e2,List.cons_append,List.nil_append]
   have hsg:Slot (Old g.n) g (.ptr o i):=ho.keep kg fun _ hh=>Nat.lt_of_lt_of_le hh kg.n
   have hng:loadA g false 1 (.ptr o i)=some (intC n):=by
    have:=row_keep kg ho.1 ho.2
    simp only [loadA,this] at hn ⊢
    exact hn
   refine (off_specX hng wg hsg).mono ?_
   rintro r g' ⟨kg',rfl⟩
   simp only [go_sem,↓reduceIte,Nat.reduceEqDiff]
   refine WS_of_cond ?_
   simp only [go_sem,↓reduceIte]
   have kk:Keep (Old h.n) h g':=kg.then (Nat.le_refl _) kg'
   cases hs:off n l[j]
   · simp only [Bool.false_eq_true,↓reduceIte]
     refine WS_of_skip ?_
     simp only [go_sem]
     refine WS_of_ops ?_
     simp only [slices_IndexFunc_strata_Edge_strata_Edge_r6,go_sem,↓reduceIte,Nat.reduceEqDiff,z8]
     refine ⟨l.length - (j+1),by omega,kk,j+1,rfl,by omega,?_,z0,z1,z7,?_⟩
     · intro e he'
       rw [List.take_add_one,List.mem_append] at he'
       rcases he' with he' | he'
       · exact hno e he'
       · simp only [List.getElem?_eq_getElem hil,Option.toList_some,List.mem_singleton] at he'
         subst he';exact hs
     · have:IntKind.i64.wrap ((j:Int)+1)=((j+1:Nat):Int):=by rw [show ((j:Int)+1)=((j+1:Nat):Int) from rfl];exact wrapI (by omega)
       rw [this]
   · simp only [↓reduceIte]
     refine WS_of_seq (WS_of_ops ?_)
     simp only [slices_IndexFunc_strata_Edge_strata_Edge_r5,go_sem,↓reduceIte,Nat.reduceEqDiff]
     refine WS_of_ret ?_
     simp only [go_sem,slices_IndexFunc_strata_Edge_strata_Edge_a,↓reduceIte,Nat.reduceEqDiff]
     refine ⟨kk,j,rfl,⟨fun _=>⟨l[j],List.getElem_mem hil,hs⟩,fun _=>by omega⟩⟩
 · exact ⟨Keep.refl _ _,0,by simp,by omega,by simp,rfl,rfl,rfl,rfl⟩
theorem contains_off_specX {v:AV} {l:List Ed} {n:Int} {o i:Nat} {h:H} (b:Eds h v l) (bs:Slot (Old h.n) h v) (hl:l.length<4611686018427387904) (hn:loadA h false 1 (.ptr o i)=some (intC n)) (wf:h.Wf) (ho:Slot (Old h.n) h (.ptr o i)) :
 WCall (EL LX) n_slices_ContainsFunc_strata_Edge_strata_Edge [v,.func n_strata_Levels_1 [.ptr o i]] h fun r h'=>Keep (Old h.n) h h' ∧ ∃ t:Bool,r = .val (.bool t)∧(t=true↔Bad n l):=by
 refine WCall_ws ((EL_ov _ _).trans rfl) (EL_T T_slices_ContainsFunc_strata_Edge_strata_Edge) (by simp [slices_ContainsFunc_strata_Edge_strata_Edge_a]) ?_
 refine WS_of_seq (WS_of_ops ?_)
 simp only [slices_ContainsFunc_strata_Edge_strata_Edge_r0,go_sem,↓reduceIte,Nat.reduceEqDiff]
 refine WS_of_seq (WS_of_ops ?_)
 simp only [slices_ContainsFunc_strata_Edge_strata_Edge_r1,go_sem,↓reduceIte,Nat.reduceEqDiff,enterS,List.getD_cons_zero,List.getD_cons_succ]
 refine (index_off_specX b bs hl hn wf ho).mono ?_
 rintro r h' ⟨k,z,rfl,hz⟩
 simp only [go_sem,↓reduceIte,Nat.reduceEqDiff]
 refine WS_of_ret ?_
 simp only [go_sem,slices_ContainsFunc_strata_Edge_strata_Edge_a,↓reduceIte,Nat.reduceEqDiff]
 exact ⟨k,_,rfl,by rw [decide_eq_true_eq];exact hz⟩
theorem levels_specX {v:AV} {l:List Ed} {n:Int} {h:H} (b:Eds h v l) (bs:Slot (Old h.n) h v) (hl:l.length<4611686018427387904) (wf:h.Wf) :
 WCall (EL LX) n_strata_Levels [intC n,v] h (LvPost n l h):=by
 refine WCall_ws ((EL_ov _ _).trans rfl) (EL_T T_strata_Levels) (by simp [strata_Levels_a]) ?_
 refine WS_of_seq (WS_of_ops ?_)
 simp only [strata_Levels_r0,go_sem,↓reduceIte,Nat.reduceEqDiff,enterS,List.getD_cons_zero,List.getD_cons_succ,AV.cells]
 have b0:=Box.new wf [intC n]
 have k0:Keep (Old h.n) h (h.new [intC n]):=Keep.new (Nat.le_refl _) _
 have wf0:=k0.wf wf
 have n0:(h.new [intC n]).n=h.n+1:=rfl
 generalize hg0:h.new [intC n]=g0 at b0 k0 wf0 n0
 have ln0:loadA g0 false 1 (.ptr h.n 0)=some (intC n):=b0.load 1 0
 refine WS_of_seq (WS_of_ops ?_)
 simp only [strata_Levels_r1,go_sem,↓reduceIte,Nat.reduceEqDiff]
 refine WS_of_seq (WS_of_seq (WS_of_ops ?_))
 simp only [strata_Levels_r2,go_sem,↓reduceIte,Nat.reduceEqDiff,wanted,beq_self_eq_true,enterS,List.getD_cons_zero,List.getD_cons_succ,ln0]
 by_cases h1:n<0
 · simp only [h1,decide_true,go_sem,↓reduceIte,Nat.reduceEqDiff,beq_self_eq_true,wanted,show (true==false)=false from rfl,Bool.false_eq_true,pickA]
   refine WS_of_cond ?_
   simp only [go_sem,↓reduceIte]
   refine WS_of_seq (WS_of_ops ?_)
   simp only [strata_Levels_r3,go_sem,↓reduceIte,Nat.reduceEqDiff]
   refine WS_of_ret ?_
   simp only [go_sem,strata_Levels_a,↓reduceIte,Nat.reduceEqDiff]
   exact ⟨k0,.inl ⟨.inl h1,rfl⟩⟩
 simp only [h1,decide_false,go_sem,↓reduceIte,Nat.reduceEqDiff,beq_self_eq_true,wanted,pickA,ln0]
 by_cases h2:4096<n
 · simp only [h2,decide_true,go_sem,↓reduceIte,Nat.reduceEqDiff,beq_self_eq_true,wanted,show (true==false)=false from rfl,Bool.false_eq_true,pickA]
   refine WS_of_cond ?_
   simp only [go_sem,↓reduceIte]
   refine WS_of_seq (WS_of_ops ?_)
   simp only [strata_Levels_r3,go_sem,↓reduceIte,Nat.reduceEqDiff]
   refine WS_of_ret ?_
   simp only [go_sem,strata_Levels_a,↓reduceIte,Nat.reduceEqDiff]
   exact ⟨k0,.inl ⟨.inr (.inl h2),rfl⟩⟩
 simp only [h2,decide_false,go_sem,↓reduceIte,Nat.reduceEqDiff,beq_self_eq_true,wanted,pickA,ln0,Bool.false_eq_true,List.map_cons,List.map_nil,List.cons_append,List.nil_append]
 have bs0:Slot (Old g0.n) g0 v:=bs.keep k0 fun _ hh=>Nat.lt_of_lt_of_le hh k0.n
 refine (contains_off_specX (Sl.keep b k0 bs) bs0 hl ln0 wf0 ⟨b0.lt wf0,fun cs g e=>by rw [b0.get] at e;cases e;exact b0.lt wf0⟩).mono ?_
 rintro r g1 ⟨k1,t,rfl,ht⟩
 have k01:Keep (Old h.n) h g1:=k0.then (Nat.le_refl _) k1
 have wf1:=k1.wf wf0
 have b1:Box h.n [intC n] g1:=b0.keep k1 (b0.lt wf0)
 have ln1:loadA g1 false 1 (.ptr h.n 0)=some (intC n):=b1.load 1 0
 simp only [go_sem,↓reduceIte,Nat.reduceEqDiff,pickA]
 refine WS_of_cond ?_
 simp only [go_sem,↓reduceIte]
 cases t
 case true =>
  refine WS_of_seq (WS_of_ops ?_)
  simp only [strata_Levels_r3,go_sem,↓reduceIte,Nat.reduceEqDiff]
  refine WS_of_ret ?_
  simp only [go_sem,strata_Levels_a,↓reduceIte,Nat.reduceEqDiff]
  exact ⟨k01,.inl ⟨.inr (.inr (ht.1 rfl)),rfl⟩⟩
 have hbad : ¬ Bad n l:=fun hb=>by have:=ht.2 hb;cases this
 have hnb:=not_bad hbad
 simp only [Bool.false_eq_true,↓reduceIte]
 refine WS_of_skip ?_
 simp only [go_sem]
 obtain ⟨k,rfl⟩ : ∃ k:Nat,n=(k:Int):=⟨n.toNat,by omega⟩
 have hk:k≤4096:=by omega
 have hin : ∀ e∈l,∃ (a b:Nat) (w:Bool),e=((a:Int),(b:Int),w)∧a<k∧b<k:=fun e hmem=>off_in (hnb e hmem)
 refine WS_of_seq (WS_of_ops ?_)
 simp only [strata_Levels_r4,go_sem,↓reduceIte,Nat.reduceEqDiff,ln1]
 have hmk:=CBox.make (mk:=natC) (h:=g1) wf1 (n:=k) (bytes:=8) (z:=0) (by omega) (by decide)
 rw [show ([AV.int IntKind.i64 0]:List AV) = [natC 0] from rfl,hmk]
 simp only [go_sem,↓reduceIte,Nat.reduceEqDiff]
 have f2:CBox natC g1.n (List.replicate k 0) (g1.new ((List.replicate k 0).map natC)):=Box.new wf1 _
 have k2:Keep (Old g1.n) g1 (g1.new ((List.replicate k 0).map natC)):=Keep.new (Nat.le_refl _) _
 have k02:=k01.then (Nat.le_refl _) k2
 have wf2:=k2.wf wf1
 have b2:Box h.n [intC k] (g1.new ((List.replicate k 0).map natC)):=b1.keep k2 (b1.lt wf1)
 generalize g1.new ((List.replicate k 0).map natC)=g2 at f2 k2 k02 wf2 b2
 have hr0:h.n<g1.n:=b1.lt wf1
 generalize hr1:g1.n=r0 at f2 hr0
 refine WS_of_seq (WS_of_seq (WS_of_ops ?_))
 simp only [strata_Levels_r5,go_sem,↓reduceIte,Nat.reduceEqDiff]
 refine WS_of_block (WS_of_loop (fun m z g=>Keep (Old h.n) h g∧Box h.n [intC k] g ∧ ∃ f again,m=lvM k f again∧CBox natC r0 f g∧LvI k l f∧(again=false→Sol l (lv f))∧z 1=v∧z 2 = .ptr h.n 0∧z 7 = .slice r0 0 k 1∧z 8 = .bool again) ?_ (lvM k (List.replicate k 0) true) ?_)
 case refine_2=>exact ⟨k02,b2,_,true,rfl,f2,LvI.zero k l,fun hh=>(by cases hh),rfl,rfl,rfl,rfl⟩
 rintro m z g ⟨kg,bg,f,again,rfl,fg,I,hsol,z1,z2,z7,z8⟩
 have wg:=kg.wf wf
 show WS (EL LX) strata_Levels_l21 _ _ _ _
 refine WS_of_seq (WS_of_seq (WS_of_ops ?_))
 simp only [strata_Levels_r6,go_sem,↓reduceIte,Nat.reduceEqDiff,z8]
 refine WS_of_cond ?_
 simp only [go_sem,↓reduceIte]
 cases again
 case false =>
  simp only [Bool.false_eq_true,↓reduceIte]
  refine WS_of_exit ?_
  simp only [go_sem,↓reduceIte]
  refine WS_of_seq (WS_of_ops ?_)
  simp only [strata_Levels_r22,go_sem,↓reduceIte,Nat.reduceEqDiff,z7]
  refine WS_of_ret ?_
  simp only [go_sem,strata_Levels_a,↓reduceIte,Nat.reduceEqDiff]
  refine ⟨kg,.inr ⟨by rintro (hh | hh | hh) <;> first | omega | exact hbad hh,.inr ⟨r0,f,by omega,fg,⟨I.len,hsol rfl,I.least,I.le⟩,by simp⟩⟩⟩
 simp only [↓reduceIte]
 refine WS_of_skip ?_
 simp only [go_sem]
 refine WS_of_block (WS_of_seq (WS_of_ops ?_))
 simp only [strata_Levels_r7,go_sem,↓reduceIte,Nat.reduceEqDiff]
 refine WS_of_seq (WS_of_ops ?_)
 simp only [strata_Levels_r8,go_sem,↓reduceIte,Nat.reduceEqDiff,z1,b.len]
 -- a round over the edges
 refine WS_of_block (WS_of_loop (fun m z g'=>Keep (Old h.n) h g'∧Box h.n [intC k] g' ∧ ∃ j f' again,m=l.length - j∧j≤l.length∧CBox natC r0 f' g'∧LvI k l f'∧(again=false→f'=f ∧ ∀ e∈l.take j,lv f e.2.1.toNat+wt e.2.2≤lv f e.1.toNat)∧(again=true→f.sum<f'.sum) ∧
  z 1=v∧z 2 = .ptr h.n 0∧z 7 = .slice r0 0 k 1∧z 8 = .bool again∧z 27=v∧z 28 = .int .i64 (l.length:Int)∧z 29 = .int .i64 (j:Int)) ?_ l.length ?_)
 case refine_2=>exact ⟨kg,bg,0,f,false,by simp,by omega,fg,I,fun _=>⟨rfl,by simp⟩,fun hh=>(by cases hh),z1,z2,z7,rfl,rfl,rfl,rfl⟩
 rintro m z g' ⟨kg',bg',j,f',again,rfl,hj,fg',I',hno,hyes,z1,z2,z7,z8,z27,z28,z29⟩
 have wg':=kg'.wf wf
 show WS (EL LX) strata_Levels_l20 _ _ _ _
 refine WS_of_seq (WS_of_ops ?_)
 simp only [strata_Levels_r9,go_sem,↓reduceIte,Nat.reduceEqDiff,z28,z29]
 refine WS_of_seq (WS_of_cond ?_)
 simp only [go_sem,↓reduceIte]
 by_cases hil:j<l.length
 case neg =>
  have hie:j=l.length:=by omega
  subst hie
  simp only [Int.lt_irrefl,decide_false,Bool.false_eq_true,↓reduceIte]
  refine WS_of_exit ?_
  simp only [go_sem,↓reduceIte]
  refine ⟨lvM k f' again,?_,kg',bg',f',again,rfl,fg',I',?_,z1,z2,z7,z8⟩
  · cases again
    · obtain ⟨rfl,_⟩:=hno rfl
      simp [lvM]
    · have h3:=hyes rfl
      have h4:=I'.sum
      simp only [lvM,if_true]
      omega
  · intro hh
    obtain ⟨rfl,hh⟩:=hno hh
    rw [List.take_length] at hh
    exact hh
 have hil':(j:Int)<(l.length:Int):=by omega
 simp only [hil',decide_true,↓reduceIte]
 refine WS_of_skip ?_
 simp only [go_sem]
 refine WS_of_seq (WS_of_block (WS_of_seq (WS_of_ops ?_)))
 obtain ⟨po,pj,e1,_,_,_,e2⟩:=Eds.at (Sl.keep b kg' bs) hil
 obtain ⟨a,c,w,hle,ha,hc⟩:=hin l[j] (List.getElem_mem hil)
 rw [hle] at e2
 simp only [edC] at e2
 obtain ⟨g3,e3,b3,k3'⟩:=Box.putAll (wg'.new _) (Box.new wg' [AV.int .i64 0,.int .i64 0,.bool false]) (vs:=edC ((a:Int),(c:Int),w)) (n:=3) rfl rfl rfl
 simp only [edC] at e3
 simp only [strata_Levels_r10,go_sem,↓reduceIte,Nat.reduceEqDiff,z27,z29,e1,e2,e3]
 have k3:Keep (Old g'.n) g' g3:=(Keep.new (Nat.le_refl _) _).trans (k3'.newbox (N:=g'.n) (wg'.new _) (Nat.le_succ _) (Nat.le_refl _))
 have kg3:=kg'.then (Nat.le_refl _) k3
 have wg3:=k3.wf wg'
 have bg3:Box h.n [intC k] g3:=bg'.keep k3 (bg'.lt wg')
 have fg3:CBox natC r0 f' g3:=fg'.keep k3 (fg'.lt wg')
 have hx:g'.n≠r0:=by have:=fg'.lt wg';omega
 have c0:loadA g3 false 1 (.ptr g'.n (0+0))=some (intC a):=b3.load 1 0
 have c1:loadA g3 false 1 (.ptr g'.n (0+1))=some (intC c):=b3.load 1 1
 have c2:loadA g3 false 1 (.ptr g'.n (0+2))=some (.bool w):=b3.load 1 2
 generalize g'.n=xb at b3 c0 c1 c2 hx
 have hfc:=fg3.at (i:=c) (by rw [I'.len];exact hc) I'.len.symm .i64
 have hfa:=fg3.at (i:=a) (by rw [I'.len];exact ha) I'.len.symm .i64
 refine WS_of_seq (WS_of_ops ?_)
 simp only [strata_Levels_r11,go_sem,↓reduceIte,Nat.reduceEqDiff,z7,c1,hfc.1,hfc.2,fieldAddrA]
 have hlc:=lv_get (f:=f') (i:=c) (by rw [I'.len];exact hc)
 have hla:=lv_get (f:=f') (i:=a) (by rw [I'.len];exact ha)
 rw [hlc]
 refine WS_mid (fun z' g4=>g4=g3∧z' 1=v∧z' 2 = .ptr h.n 0∧z' 7 = .slice r0 0 k 1∧z' 8 = .bool again∧z' 27=v∧z' 28 = .int .i64 (l.length:Int)∧z' 29 = .int .i64 (j:Int)∧z' 10 = .ptr xb 0∧z' 11=natC (lv f' c+wt w)) ?_ ?_
 · refine WS_of_seq (WS_of_ops ?_)
   simp only [strata_Levels_r12,go_sem,↓reduceIte,Nat.reduceEqDiff,c2,fieldAddrA]
   refine WS_of_cond ?_
   cases w
   · simp only [go_sem,↓reduceIte,Bool.false_eq_true]
     refine WS_of_skip ?_
     simp only [go_sem]
     exact ⟨trivial,trivial,z1,z2,z7,z8,z27,z28,z29,rfl,rfl⟩
   · simp only [go_sem,↓reduceIte]
     refine WS_of_ops ?_
     simp only [strata_Levels_r13,go_sem,↓reduceIte,Nat.reduceEqDiff]
     refine ⟨trivial,trivial,z1,z2,z7,z8,z27,z28,z29,trivial,?_⟩
     have:=I'.le c
     rw [show ((lv f' c:Int)+1)=((lv f' c+1:Nat):Int) from rfl,wrapI (by omega)]
     rfl
 clear z1 z2 z7 z8 z27 z28 z29
 rintro z' g4 ⟨rfl,z1,z2,z7,z8,z27,z28,z29,z10,z11⟩
 generalize hw:wt w=wn at z11
 have hmem:=List.getElem_mem hil
 rw [hle] at hmem
 have hask : ∀ g,Sol l g→g c+wn≤g a:=by
  intro g hs
  have:=hs _ hmem
  simp only [Int.toNat_natCast,hw] at this
  exact this
 refine WS_mid (fun z' g5=>Keep (Old h.n) h g5∧Box h.n [intC k] g5 ∧ ∃ f2 again2,CBox natC r0 f2 g5∧f2.length=k∧(∀ g,Sol l g → ∀ i,lv f2 i≤g i)∧(lv f' c+wn≤k → ∀ i,lv f2 i≤k)∧(again2=false→f2=f∧again=false∧lv f c+wn≤lv f a)∧(again2=true→f.sum<f2.sum) ∧
  z' 1=v∧z' 2 = .ptr h.n 0∧z' 7 = .slice r0 0 k 1∧z' 8 = .bool again2∧z' 27=v∧z' 28 = .int .i64 (l.length:Int)∧z' 29 = .int .i64 (j:Int)∧z' 11=natC (lv f' c+wn)) ?_ ?_
 · refine WS_of_seq (WS_of_ops ?_)
   simp only [strata_Levels_r14,go_sem,↓reduceIte,Nat.reduceEqDiff,z7,z10,z11,c0,fieldAddrA,hfa.1,hfa.2]
   refine WS_of_cond ?_
   simp only [go_sem,↓reduceIte]
   rw [hla]
   by_cases hlt:lv f' a<lv f' c+wn
   case neg =>
    have hlt' : ¬ ((lv f' a:Int)<((lv f' c+wn:Nat):Int)):=by omega
    simp only [hlt',decide_false,Bool.false_eq_true,↓reduceIte]
    refine WS_of_skip ?_
    simp only [go_sem]
    refine ⟨trivial,kg3,bg3,f',again,fg3,I'.len,I'.least,fun _=>I'.le,?_,hyes,z1,z2,z7,z8,z27,z28,z29,z11⟩
    intro hag
    obtain ⟨rfl,_⟩:=hno hag
    exact ⟨rfl,hag,by omega⟩
   have hlt':((lv f' a:Int)<((lv f' c+wn:Nat):Int)):=by omega
   simp only [hlt',decide_true,↓reduceIte]
   refine WS_of_seq (WS_of_ops ?_)
   obtain ⟨g5,e5,f5,k5⟩:=fg3.put nat1 wg3 (i:=a) (by rw [I'.len];exact ha) (lv f' c+wn)
   simp only [natC] at e5
   simp only [strata_Levels_r15,go_sem,↓reduceIte,Nat.reduceEqDiff,z7,z10,z11,c0,fieldAddrA,hfa.1,e5]
   refine WS_of_ops ?_
   simp only [strata_Levels_r16,go_sem,↓reduceIte,Nat.reduceEqDiff]
   have ha':a<f'.length:=by rw [I'.len];exact ha
   have hk5:Keep (Old h.n) h g5:=kg3.trans (k5.old wg3 (N:=h.n) kg3.n (by simp;omega))
   have hs:=sum_set (f:=f') (i:=a) (v:=lv f' c+wn) ha'
   rw [hla] at hs
   refine ⟨trivial,hk5,bg3.keepA wg3 k5 (by simp;omega),_,true,f5,by rw [List.length_set];exact I'.len,?_,?_,fun hh=>(by cases hh),fun _ => ?_,z1,z2,z7,rfl,z27,z28,z29,z11⟩
   · intro g hs i
     rw [lv_set ha']
     by_cases hia:i=a
     · rw [if_pos hia,hia]
       have h5:=hask g hs
       have h6:=I'.least g hs c
       omega
     · rw [if_neg hia];exact I'.least g hs i
   · intro hle i
     rw [lv_set ha']
     by_cases hia:i=a
     · rw [if_pos hia];exact hle
     · rw [if_neg hia];exact I'.le i
   · cases again
     · obtain ⟨rfl,_⟩:=hno rfl
       omega
     · have:=hyes rfl;omega
 clear z1 z2 z7 z8 z27 z28 z29 z10 z11
 rintro z' g5 ⟨kg5,bg5,f2,again2,fg5,len2,least2,le2,hno2,hyes2,z1,z2,z7,z8,z27,z28,z29,z11⟩
 have ln5:loadA g5 false 1 (.ptr h.n 0)=some (intC k):=bg5.load 1 0
 refine WS_of_seq (WS_of_ops ?_)
 simp only [strata_Levels_r17,go_sem,↓reduceIte,Nat.reduceEqDiff,z2,z11,ln5]
 refine WS_of_cond ?_
 simp only [go_sem,↓reduceIte]
 by_cases hover:k<lv f' c+wn
 · have hover':(k:Int)<((lv f' c+wn:Nat):Int):=by omega
   simp only [hover',decide_true,↓reduceIte]
   refine WS_of_seq (WS_of_ops ?_)
   simp only [strata_Levels_r18,go_sem,↓reduceIte,Nat.reduceEqDiff]
   refine WS_of_ret ?_
   simp only [go_sem,strata_Levels_a,↓reduceIte,Nat.reduceEqDiff]
   refine ⟨kg5,.inr ⟨by rintro (hh | hh | hh) <;> first | omega | exact hbad hh,.inl ⟨?_,rfl⟩⟩⟩
   intro g hs
   refine ⟨a,?_⟩
   have h5:=hask g hs
   have h6:=I'.least g hs c
   rw [Int.toNat_natCast]
   omega
 · have hover' : ¬ (k:Int)<((lv f' c+wn:Nat):Int):=by omega
   simp only [hover',decide_false,Bool.false_eq_true,↓reduceIte]
   refine WS_of_skip ?_
   simp only [go_sem]
   refine WS_of_ops ?_
   simp only [strata_Levels_r19,go_sem,↓reduceIte,Nat.reduceEqDiff,z29]
   refine ⟨l.length - (j+1),by omega,kg5,bg5,j+1,f2,again2,rfl,by omega,fg5,⟨len2,least2,le2 (by omega)⟩,?_,hyes2,z1,z2,z7,z8,z27,z28,?_⟩
   · intro hh
     obtain ⟨rfl,hag,hsat⟩:=hno2 hh
     refine ⟨rfl,?_⟩
     intro e he'
     rw [List.take_add_one,List.mem_append] at he'
     rcases he' with he' | he'
     · exact (hno hag).2 e he'
     · simp only [List.getElem?_eq_getElem hil,Option.toList_some,List.mem_singleton] at he'
       subst he'
       rw [hle]
       simp only [Int.toNat_natCast,hw]
       exact hsat
   · rw [show ((j:Int)+1)=((j+1:Nat):Int) from rfl,wrapI (by omega)]

theorem levels_atX {v:AV} {l:List Ed} {k:Nat} {h:H} (hk:k≤4096) (b:Eds h v l) (bs:Slot (Old h.n) h v) (hl:l.length<4611686018427387904) (wf:h.Wf) :
 WCall (EL LX) n_strata_Levels [intC (k:Int),v] h fun r h'=>Keep (Old h.n) h h' ∧ ∃ a e,r = .val (.tup [a,intC e])∧LvRes k l h.n h' a e:=by
 refine (levels_specX b bs hl wf).mono ?_
 rintro r h' ⟨kk,⟨hb,rfl⟩ | ⟨hb,⟨hn,rfl⟩ | ⟨r0,f,h1,h2,h3,rfl⟩⟩⟩
 · refine ⟨kk,_,_,rfl,.inl ⟨?_,rfl,rfl⟩⟩
   rcases hb with hb | hb | hb <;> first | omega | exact hb
 · exact ⟨kk,_,_,rfl,.inr (.inl ⟨fun hh=>hb (.inr (.inr hh)),hn,rfl,rfl⟩)⟩
 · exact ⟨kk,_,_,rfl,.inr (.inr ⟨fun hh=>hb (.inr (.inr hh)),r0,f,h1,h2,h3,rfl,rfl⟩)⟩
end Go.Proofs.YtdbmeidhlijopaaDoor.Ev.C

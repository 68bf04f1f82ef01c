/- A text's first rune; where the first broken byte is. -/
import Derived.Test.YtdbmeidhlijopaaGreatDoorTBase
import Derived.Lib.MapLaws
import Derived.Test.YtdbmeidhlijopaaGreatDoorTSort
namespace Go.Proofs.YtdbmeidhlijopaaGreatDoor.Ev.C
open Go Go.Proofs.YtdbmeidhlijopaaGreatDoor.Ev
set_option linter.unusedSimpArgs false
set_option linter.unusedVariables false
theorem aSO (s:List UInt8) (i k:Nat):bt (s.drop i) k=bt s (i+k):=by simp [bt,List.getD_eq_getElem?_getD,List.getElem?_drop]
theorem aHF (s:List UInt8) {n k:Nat} (h:k<n):bt (s.take n) k=bt s k:=by simp [bt,List.getD_eq_getElem?_getD,List.getElem?_take,h]
theorem a0k (s:List UInt8) (i k lo hi:Nat):inB (s.drop i) k lo hi=inB s (i+k) lo hi:=by
 unfold inB
 rw [aSO,List.length_drop]
 congr 1
 rw [decide_eq_decide];omega
theorem aXF (s:List UInt8) (n k lo hi:Nat):inB (s.take n) k lo hi=(decide (k<n)&&inB s k lo hi):=by
 unfold inB
 by_cases h:k<n
 · rw [aHF s h]
   simp only [h,decide_true,Bool.true_and]
   congr 1
   rw [decide_eq_decide];simp;omega
 · have : ¬ k<(s.take n).length:=by simp;omega
   rw [decide_eq_false this,decide_eq_false h,Bool.false_and,Bool.false_and]
theorem aD5 (s:List UInt8) (i k:Nat):longR (s.drop i) k=longR s (i+k):=by
 rw [← aFW,← aFW]
 unfold longB
 simp only [aSO,a0k,← Nat.add_assoc]
theorem aY2 (s:List UInt8) (i k:Nat):i+stepR (s.drop i) k=stepR s (i+k):=by
 unfold stepR;rw [aD5];split <;> omega
theorem aYg (s:List UInt8) (p:Nat):aDt s (p,(dec s p).1)=decide (0<longR s p):=by
 have h:=aMg (bt s p) (bt s (p+1)) (bt s (p+2)) (bt s (p+3)) (p+1<s.length) (p+2<s.length) (p+3<s.length) (bt_lt _ _) (bt_lt _ _) (bt_lt _ _) (bt_lt _ _)
 rw [← aOy] at h
 have hL:longR s p=longV (bt s p) (bt s (p+1)) (bt s (p+2)) (bt s (p+3)) (p+1<s.length) (p+2<s.length) (p+3<s.length):=rfl
 rw [← hL] at h
 unfold aDt
 rcases h with ⟨h1,h2⟩ | ⟨h1,h2,h3⟩ | ⟨h1,h2,h3,h4,h5,h6,_⟩ | ⟨h1,h2,h3,h4,h5,h6,h7,h8,h9,h10⟩ | ⟨h1,h2,h3,h4,_⟩
 · rw [h1,h2]
   have : ¬ (s.drop p).take 3 = [239,191,189]:=by
    intro hh
    obtain ⟨q0,q1,q2,q3⟩:=aYR hh
    have q4:p+1<s.length:=by omega
    rw [hL,q0,q1,q2] at h1
    simp [longV,q3,q4] at h1
   simp [this]
 · rw [h1,h2]
   have : ¬ bt s p=65533:=by omega
   simp [this]
 · rw [h1,h2]
   have h7 : ¬ bt s p % 32*64+bt s (p+1) % 64=65533:=by omega
   simp [h7]
 · rw [h1,h2]
   by_cases q3:bt s p % 16*4096+bt s (p+1) % 64*64+bt s (p+2) % 64=65533
   · have:=aYQ (s:=s) (p:=p) (by omega) (by omega) (by omega) h10
     simp [this]
   · have b1:=beq_eq_false_iff_ne.2 q3
     simp [b1]
 · rw [h1,h2]
   have q3 : ¬ bt s p % 8*262144+bt s (p+1) % 64*4096+bt s (p+2) % 64*64+bt s (p+3) % 64=65533:=by omega
   have b1:=beq_eq_false_iff_ne.2 q3
   simp [b1]
/-- a rune's bytes are there -/
theorem aHW (s:List UInt8) (p:Nat) (hp:p<s.length):p+longR s p≤s.length:=by
 rw [← aFW]
 have hin : ∀ j lo hi,inB s j lo hi=true→j<s.length:=by intro j lo hi h;simp [inB] at h;exact h.1
 unfold longB
 split
 · omega
 split
 · split
   · rename_i h;have:=hin _ _ _ h;omega
   · omega
 split
 · generalize (if bt s p=224 then inB s (p+1) 160 191 else if bt s p=237 then inB s (p+1) 128 159 else inB s (p+1) 128 191)=O
   split
   · rename_i h;have:=hin _ _ _ h.2;omega
   · omega
 split
 · generalize (if bt s p=240 then inB s (p+1) 144 191 else if bt s p=244 then inB s (p+1) 128 143 else inB s (p+1) 128 191)=O
   split
   · rename_i h;have:=hin _ _ _ h.2;omega
   · omega
 · omega
/-- a rune alone is as long -/
theorem aUZ (t:List UInt8):longR (t.take (stepR t 0)) 0=longR t 0:=by
 have e:=aFW t 0
 rw [← aFW]
 have hs:stepR t 0=if longB t 0=0 then 1 else longB t 0:=by unfold stepR;rw [← e];split <;> omega
 rw [← e,hs]
 have h0:0<(if longB t 0=0 then 1 else longB t 0):=by split <;> omega
 generalize hk:(if longB t 0=0 then 1 else longB t 0)=k at h0
 unfold longB at hk ⊢
 simp only [aHF t h0,aXF,Nat.zero_add,Bool.and_eq_true,decide_eq_true_eq] at hk ⊢
 by_cases c1:bt t 0<128
 · simp only [c1,if_true]
 simp only [c1,if_false] at hk ⊢
 by_cases c2:194≤bt t 0∧bt t 0≤223
 · simp only [c2,and_self,if_true] at hk ⊢
   by_cases o:inB t 1 128 191=true
   · simp only [o,if_true] at hk
     have:1<k:=by simp at hk;omega
     simp [o,this]
   · simp [o]
 simp only [c2,if_false] at hk ⊢
 by_cases c3:224≤bt t 0∧bt t 0≤239
 · simp only [c3,and_self,if_true] at hk ⊢
   have hO:(if bt t 0=224 then (decide (1<k)&&inB t 1 160 191) else if bt t 0=237 then (decide (1<k)&&inB t 1 128 159) else (decide (1<k)&&inB t 1 128 191))=(decide (1<k)&&(if bt t 0=224 then inB t 1 160 191 else if bt t 0=237 then inB t 1 128 159 else inB t 1 128 191)):=by split;rfl;split <;> rfl
   simp only [hO]
   generalize (if bt t 0=224 then inB t 1 160 191 else if bt t 0=237 then inB t 1 128 159 else inB t 1 128 191)=O at hk ⊢
   by_cases o:O=true∧inB t 2 128 191=true
   · simp only [o,and_self,if_true] at hk
     have:2<k:=by simp at hk;omega
     have h1:1<k:=by omega
     simp [o,this,h1]
   · rw [if_neg o,if_neg]
     intro h;apply o
     simp only [Bool.and_eq_true,decide_eq_true_eq] at h
     exact ⟨h.1.2,h.2.2⟩
 simp only [c3,if_false] at hk ⊢
 by_cases c4:240≤bt t 0∧bt t 0≤244
 · simp only [c4,and_self,if_true] at hk ⊢
   have hO:(if bt t 0=240 then (decide (1<k)&&inB t 1 144 191) else if bt t 0=244 then (decide (1<k)&&inB t 1 128 143) else (decide (1<k)&&inB t 1 128 191))=(decide (1<k)&&(if bt t 0=240 then inB t 1 144 191 else if bt t 0=244 then inB t 1 128 143 else inB t 1 128 191)):=by split;rfl;split <;> rfl
   simp only [hO]
   generalize (if bt t 0=240 then inB t 1 144 191 else if bt t 0=244 then inB t 1 128 143 else inB t 1 128 191)=O at hk ⊢
   by_cases o:(O=true∧inB t 2 128 191=true)∧inB t 3 128 191=true
   · simp only [o,and_self,if_true] at hk
     have:3<k:=by simp at hk;omega
     have h1:1<k:=by omega
     have h2:2<k:=by omega
     simp [o,this,h1,h2]
   · rw [if_neg o,if_neg]
     intro h;apply o
     simp only [Bool.and_eq_true,decide_eq_true_eq] at h
     exact ⟨⟨h.1.1.2,h.1.2.2⟩,h.2.2⟩
 simp only [c4,if_false]
theorem aXv (t:List UInt8) (ht:t ≠ []):validG (t.take (stepR t 0))=decide (0<longR t 0):=by
 have hlen:0<t.length:=List.length_pos_iff.2 ht
 have hg:=aP4 t 0
 have hf:=aHW t 0 hlen
 have hul:(t.take (stepR t 0)).length=stepR t 0:=by
  simp
  unfold stepR;split <;> omega
 have ha:=aUZ t
 have hs:stepR (t.take (stepR t 0)) 0=stepR t 0:=by
  unfold stepR at ha ⊢;rw [ha]
 unfold validG
 rw [aCi (by omega),aFa,hs,aEG (by omega),List.all_cons,List.all_nil,Bool.and_true,aYg,ha]
/-- a text's first rune, and the others -/
def gcutF:List AV→Option AV
 | [.str s,.int .i64 n]=>if s.length<1000000000∧n=1 then some (.tup [.str (s.take (stepR s 0)),.str (s.drop (stepR s 0))]) else none
 | _=>none
theorem aZR (args:List AV) (v:AV) (ee:gcutF args=some v):plainV v=true ∧ ∀ h:H,h.Wf→WCall (EL []) aKV args h (fun r _=>r = .val v):=by
 unfold gcutF at ee
 split at ee
 case h_2=>cases ee
 rename_i s n
 split at ee
 case isFalse=>cases ee
 rename_i hc
 obtain ⟨hl,rfl⟩:=hc
 cases ee
 refine ⟨rfl,fun h wf => ?_⟩
 refine aAI ((EL_ov _ _).trans rfl) (EL_T aXs) (by simp [aKY]) ?_
 refine aAA (aAB ?_)
 simp only [aRc,go_sem,↓reduceIte,Nat.reduceEqDiff]
 refine aAA (aAB ?_)
 simp only [aQy,go_sem,↓reduceIte,Nat.reduceEqDiff]
 refine aAA (aAA (aAB ?_))
 simp only [aRT,go_sem,↓reduceIte,Nat.reduceEqDiff,enterS,List.getD_cons_zero,List.getD_cons_succ,aDh]
 refine aAG (aAP (fun m z g => ∃ p:Nat,m=(if p=0 then 2 else 1)∧(p=0∨p=stepR s 0)∧g.get h.n=some (.mem (.siter s p))∧h.n<g.n∧z 0 = .str s∧z 1 = .int .i64 1∧z 6 = .int .i64 (if p=0 then 0 else 1)∧z 9 = .ptr h.n 0) ?_ 2 ?_)
 case refine_2=>exact ⟨0,rfl,.inl rfl,by rw [H.get_push,if_pos rfl],Nat.lt_succ_self _,rfl,rfl,rfl,rfl⟩
 rintro m z g ⟨p,rfl,hp0,hit,hn,z0,z1,z6,z9⟩
 show WS (EL []) aSB _ _ _ _
 have hg0:=aP4 s 0
 refine aAA (aAB ?_)
 simp only [aRR,go_sem,↓reduceIte,Nat.reduceEqDiff,z9,aJq hit]
 by_cases hp:p<s.length
 case neg =>
  simp only [hp,go_sem,↓reduceIte,Nat.reduceEqDiff,aAM,List.getElem?_cons_zero,List.getElem?_cons_succ]
  refine aAA (aAD ?_)
  simp only [go_sem,↓reduceIte,Nat.reduceEqDiff,Bool.false_eq_true]
  refine aAK ?_
  simp only [go_sem,↓reduceIte,Nat.reduceEqDiff]
  refine aAA (aAB ?_)
  simp only [aRm,go_sem,↓reduceIte,Nat.reduceEqDiff,z0]
  refine aAE ?_
  simp only [go_sem,↓reduceIte,Nat.reduceEqDiff,aKY]
  have:s.length≤stepR s 0:=by rcases hp0 with rfl | rfl <;> omega
  rw [List.take_of_length_le this,List.drop_eq_nil_of_le this]
 simp only [hp,go_sem,↓reduceIte,Nat.reduceEqDiff,aAM,List.getElem?_cons_zero,List.getElem?_cons_succ]
 have hdp:=aFa s p
 have hit':(g.setMem h.n (.siter s (p+(dec s p).2))).get h.n=some (.mem (.siter s (stepR s p))):=by rw [H.get_setMem,if_pos rfl,hdp]
 have hn':h.n<(g.setMem h.n (.siter s (p+(dec s p).2))).n:=hn
 generalize hgg:g.setMem h.n (.siter s (p+(dec s p).2))=g2 at hit' hn'
 refine aAA (aAD ?_)
 simp only [go_sem,↓reduceIte,Nat.reduceEqDiff]
 refine aAF ?_
 simp only [go_sem]
 refine aAG (aAA (aAB ?_))
 simp only [aRy,go_sem,↓reduceIte,Nat.reduceEqDiff,aAM,List.getElem?_cons_zero,List.getElem?_cons_succ]
 refine aAA (aAA (aAB ?_))
 rcases hp0 with rfl | hpe
 · simp only [if_true] at z6
   simp only [aMB,go_sem,↓reduceIte,Nat.reduceEqDiff,z1,z6,show ¬ ((1:Int)≤0) by decide,decide_false]
   refine aAD ?_
   simp only [go_sem,↓reduceIte,Nat.reduceEqDiff,Bool.false_eq_true]
   refine aAF ?_
   simp only [go_sem]
   refine aAB ?_
   simp only [aRs,go_sem,↓reduceIte,Nat.reduceEqDiff,z6]
   refine ⟨1,by decide,stepR s 0,by rw [if_neg (by omega)],.inr rfl,hit',hn',z0,z1,?_,z9⟩
   rw [if_neg (by omega)];rfl
 · have hpn : ¬ p=0:=by omega
   simp only [hpn,if_false] at z6
   simp only [aMB,go_sem,↓reduceIte,Nat.reduceEqDiff,z1,z6,show ((1:Int)≤1) by decide,decide_true]
   refine aAD ?_
   simp only [go_sem,↓reduceIte,Nat.reduceEqDiff]
   refine aAA (aAS ?_)
   have q1:=aSC (t:=s) (k:=p) (by omega) .i64
   have q2:=aEs (t:=s) (k:=p) (by omega) .i64
   simp only [aRo,go_sem,↓reduceIte,Nat.reduceEqDiff,wanted,z0,Option.map_some,Option.map_none,q1,q2,and_self,true_and,List.filter_cons,List.filter_nil,Nat.testBit,Nat.reduceShiftRight,Nat.reduceAnd,Nat.reduceBNe,Bool.not_false,Bool.not_true,Bool.false_eq_true,bne_self_eq_false]
   refine aAE ?_
   simp only [go_sem,↓reduceIte,Nat.reduceEqDiff,aKY]
   rw [hpe]
theorem aXi (s:List UInt8) (hl:s.length<1000000000) (h:H) (wf:h.Wf):WCall (EL []) aDV [.str s] h fun r _=>r = .val (.bool (validG s)) :=
 (aTt std1' s h (by omega)).mono fun r h' q=>q.2
def validF:List AV→Option AV:=txF fun s => .bool (validG s)
def LT0:List Ovr:=(aCj,pureO nmF)::(aDV,pureO validF)::(aKV,pureO gcutF)::(aDD,pureO cutF) :: []
/-- where the first broken byte is -/
def aEx (s:List UInt8):Int:=match (runes s 0).find? (fun x => !decide (0<longR s x.1)) with
 | some x=>(x.1:Int)
 | none => -1
def a2M:List AV→Option AV:=txF fun s => .int .i64 (aEx s)
theorem aXq (s:List UInt8) (hl:s.length<1000000000) (h:H) (wf:h.Wf):WCall (EL LT0) aFi [.str s] h fun r _=>r = .val (.int .i64 (aEx s)):=by
 refine aAI ((EL_ov _ _).trans rfl) (EL_T aUe) (by simp [aFp]) ?_
 refine aAA (aAB ?_)
 simp only [aNF,go_sem,↓reduceIte,Nat.reduceEqDiff]
 refine aAA (aAA (aAB ?_))
 simp only [aMi,go_sem,↓reduceIte,Nat.reduceEqDiff,enterS,List.getD_cons_zero,List.getD_cons_succ,aDh]
 refine aAG (aAP (fun m z g => ∃ p:Nat,m=s.length - p∧g.get h.n=some (.mem (.siter s p))∧h.n<g.n∧(runes s 0).find? (fun x => !decide (0<longR s x.1))=(runes s p).find? (fun x => !decide (0<longR s x.1))∧z 0 = .str s∧z 7 = .ptr h.n 0) ?_ s.length ?_)
 case refine_2=>exact ⟨0,rfl,by rw [H.get_push,if_pos rfl],Nat.lt_succ_self _,rfl,rfl,rfl⟩
 rintro m z g ⟨p,rfl,hit,hn,hv,z0,z7⟩
 show WS (EL LT0) aM7 _ _ _ _
 refine aAA (aAB ?_)
 simp only [aM1,go_sem,↓reduceIte,Nat.reduceEqDiff,z7,aJq hit]
 by_cases hp:p<s.length
 case neg =>
  simp only [hp,go_sem,↓reduceIte,Nat.reduceEqDiff,aAM,List.getElem?_cons_zero,List.getElem?_cons_succ]
  refine aAA (aAD ?_)
  simp only [go_sem,↓reduceIte,Nat.reduceEqDiff,Bool.false_eq_true]
  refine aAK ?_
  simp only [go_sem,↓reduceIte,Nat.reduceEqDiff]
  refine aAA (aAB ?_)
  simp only [aMb,go_sem,↓reduceIte,Nat.reduceEqDiff]
  refine aAE ?_
  simp only [go_sem,↓reduceIte,Nat.reduceEqDiff,aFp]
  rw [aEG hp] at hv
  simp [aEx,hv]
 simp only [hp,go_sem,↓reduceIte,Nat.reduceEqDiff,aAM,List.getElem?_cons_zero,List.getElem?_cons_succ]
 have hdp:=aFa s p
 have hsg:=aP4 s p
 have hit':(g.setMem h.n (.siter s (p+(dec s p).2))).get h.n=some (.mem (.siter s (stepR s p))):=by rw [H.get_setMem,if_pos rfl,hdp]
 have hn':h.n<(g.setMem h.n (.siter s (p+(dec s p).2))).n:=hn
 generalize hgg:g.setMem h.n (.siter s (p+(dec s p).2))=g2 at hit' hn'
 refine aAA (aAD ?_)
 simp only [go_sem,↓reduceIte,Nat.reduceEqDiff]
 refine aAF ?_
 simp only [go_sem]
 refine aAG (aAA (aAB ?_))
 simp only [aMZ,go_sem,↓reduceIte,Nat.reduceEqDiff,aAM,List.getElem?_cons_zero,List.getElem?_cons_succ]
 have q2:=aEs (t:=s) (k:=p) (by omega) .i64
 refine aAA (aAB ?_)
 simp only [aM3,go_sem,↓reduceIte,Nat.reduceEqDiff,z0,Option.map_some,Option.map_none,q2,enterS,List.getD_cons_zero,List.getD_cons_succ]
 refine aSN (F:=gcutF) (v := .tup [.str ((s.drop p).take (stepR (s.drop p) 0)),.str ((s.drop p).drop (stepR (s.drop p) 0))]) rfl (by unfold gcutF;simp only;rw [if_pos ⟨by simp;omega,trivial⟩]) ?_
 simp only [go_sem,↓reduceIte,Nat.reduceEqDiff,aAM,List.getElem?_cons_zero,List.getElem?_cons_succ]
 have hst:p+stepR (s.drop p) 0=stepR s p:=aY2 s p 0
 have hgt:=aP4 (s.drop p) 0
 have hlen:((((s.length:Nat):Int) - ((((s.drop p).drop (stepR (s.drop p) 0)).length:Nat):Int)))=((min (stepR s p) s.length:Nat):Int):=by
  simp only [List.length_drop];omega
 have hwr:IntKind.i64.wrap ((min (stepR s p) s.length:Nat):Int)=((min (stepR s p) s.length:Nat):Int):=wrapI (by omega)
 have hsl:aBy (some (.int .i64 (p:Int))) (some (.int .i64 ((min (stepR s p) s.length:Nat):Int))) (.str s)=some (.str ((s.drop p).take (stepR (s.drop p) 0))):=by
  simp only [aBy,bounds]
  rw [if_pos ⟨by omega,by omega⟩]
  simp only [Int.toNat_natCast]
  rw [if_pos ⟨by omega,by omega⟩]
  simp only [Option.map_some,Int.toNat_natCast]
  congr 2
  by_cases hc:stepR s p≤s.length
  · rw [Nat.min_eq_left hc];congr 1;omega
  · rw [Nat.min_eq_right (by omega),List.take_of_length_le (by simp),List.take_of_length_le (by simp;omega)]
 refine aAA (aAB ?_)
 simp only [aMw,go_sem,↓reduceIte,Nat.reduceEqDiff,z0,lenTA,Option.map_some,hlen,hwr,hsl,enterS,List.getD_cons_zero,List.getD_cons_succ]
 refine txF_at (F:=fun s => .bool (validG s)) rfl (by simp;omega) ?_
 rw [aXv _ (by intro e;have:=congrArg List.length e;simp at this;omega),aD5,Nat.add_zero]
 rw [aCi hp,hdp,List.find?_cons] at hv
 by_cases h0:0<longR s p
 · simp only [h0,decide_true,Bool.not_true] at hv
   simp only [go_sem,↓reduceIte,Nat.reduceEqDiff,h0,decide_true,Bool.not_true]
   refine aAD ?_
   simp only [go_sem,↓reduceIte,Nat.reduceEqDiff,Bool.false_eq_true]
   refine aAF ?_
   simp only [go_sem]
   exact ⟨s.length - stepR s p,by omega,stepR s p,rfl,hit',hn',hv,z0,z7⟩
 · simp only [h0,decide_false,Bool.not_false] at hv
   simp only [go_sem,↓reduceIte,Nat.reduceEqDiff,h0,decide_false,Bool.not_false]
   refine aAD ?_
   simp only [go_sem,↓reduceIte,Nat.reduceEqDiff]
   refine aAA (aAB ?_)
   simp only [aM4,go_sem,↓reduceIte,Nat.reduceEqDiff]
   refine aAE ?_
   simp only [go_sem,↓reduceIte,Nat.reduceEqDiff,aFp]
   simp [aEx,hv]
end Go.Proofs.YtdbmeidhlijopaaGreatDoor.Ev.C

/- What a text's tokens are: the plain law. -/
namespace Go.Proofs.YtdbmeidhlijopaaGreatDoor.Ev.C
open Go Go.Proofs.YtdbmeidhlijopaaGreatDoor.Ev
set_option linter.unusedSimpArgs false
set_option linter.unusedVariables false
/-- a rune's bytes -/
theorem to_u8 (n:Nat):n.toUInt8=UInt8.ofNat n:=rfl
theorem a0E (c:Nat):Utf8.valid (c:Int)=true↔(c<55296∨57344≤c∧c≤1114111):=by
 unfold Utf8.valid
 simp only [Bool.or_eq_true,Bool.and_eq_true,decide_eq_true_eq]
 omega
def encC (c:Nat):List UInt8 := 
 if c<0x80 then [UInt8.ofNat c]
 else if c<0x800 then [UInt8.ofNat (0xC0+c / 64),UInt8.ofNat (0x80+c % 64)]
 else if c<0x10000 then [UInt8.ofNat (0xE0+c / 4096),UInt8.ofNat (0x80+c / 64 % 64),UInt8.ofNat (0x80+c % 64)]
 else [UInt8.ofNat (0xF0+c / 262144),UInt8.ofNat (0x80+c / 4096 % 64),UInt8.ofNat (0x80+c / 64 % 64),UInt8.ofNat (0x80+c % 64)]
def encS (c:Nat):List UInt8:=if c<55296∨57344≤c∧c≤1114111 then encC c else [239,191,189]
theorem a3E (c:Nat):(if c<0x80 then (⟨#[UInt8.ofNat c]⟩:ByteArray)
 else if c<0x800 then ⟨#[UInt8.ofNat (0xC0+c / 64),UInt8.ofNat (0x80+c % 64)]⟩
 else if c<0x10000 then ⟨#[UInt8.ofNat (0xE0+c / 4096),UInt8.ofNat (0x80+c / 64 % 64),UInt8.ofNat (0x80+c % 64)]⟩
 else ⟨#[UInt8.ofNat (0xF0+c / 262144),UInt8.ofNat (0x80+c / 4096 % 64),UInt8.ofNat (0x80+c / 64 % 64),UInt8.ofNat (0x80+c % 64)]⟩).data.toList=encC c:=by
 unfold encC
 split
 · rfl
 · split
   · rfl
   · split <;> rfl
theorem encI_C (r:Int):(Utf8.encode r).data.toList=encC (if Utf8.valid r=true then r.toNat else Utf8.runeError):=by
 unfold Utf8.encode
 exact a3E _
theorem a1x (r:Int) (h:Utf8.valid r=true):(Utf8.encode r).data.toList=encC r.toNat:=by rw [encI_C,if_pos h]
theorem a1S (r:Int) (h : ¬ Utf8.valid r=true):(Utf8.encode r).data.toList=encC Utf8.runeError:=by rw [encI_C,if_neg h]
theorem a2H:encC Utf8.runeError = [239,191,189]:=by decide +kernel

theorem r1 (c:Nat) (h1:c<128):Lib.encodeRune (c:Int) = [UInt8.ofNat c]:=by
 unfold Lib.encodeRune
 rw [Lib.encodeRuneZ_one (by omega) (by omega)]
 simp only [List.map_cons,List.map_nil,to_u8,Int.toNat_natCast]
theorem r2 (c:Nat) (h1 : ¬ c<128) (h2:c<2048):Lib.encodeRune (c:Int) = [UInt8.ofNat (0xC0+c / 64),UInt8.ofNat (0x80+c % 64)]:=by
 unfold Lib.encodeRune
 rw [Lib.encodeRuneZ_two (by omega) (by omega)]
 have e1:((192:Int)+(c:Int) / 64).toNat=192+c / 64:=by omega
 have e2:((128:Int)+(c:Int) % 64).toNat=128+c % 64:=by omega
 simp only [List.map_cons,List.map_nil,to_u8,e1,e2]
theorem r3 (c:Nat) (hv:c<55296∨57344≤c∧c≤1114111) (h2 : ¬ c<2048) (h3:c<65536):Lib.encodeRune (c:Int) = [UInt8.ofNat (0xE0+c / 4096),UInt8.ofNat (0x80+c / 64 % 64),UInt8.ofNat (0x80+c % 64)]:=by
 unfold Lib.encodeRune
 rw [Lib.encodeRuneZ_three (by omega)]
 have e1:((224:Int)+(c:Int) / 4096).toNat=224+c / 4096:=by omega
 have e2:((128:Int)+(c:Int) / 64 % 64).toNat=128+c / 64 % 64:=by omega
 have e3:((128:Int)+(c:Int) % 64).toNat=128+c % 64:=by omega
 simp only [List.map_cons,List.map_nil,to_u8,e1,e2,e3]
theorem r4 (c:Nat) (h3 : ¬ c<65536) (hv:c≤1114111):Lib.encodeRune (c:Int) = [UInt8.ofNat (0xF0+c / 262144),UInt8.ofNat (0x80+c / 4096 % 64),UInt8.ofNat (0x80+c / 64 % 64),UInt8.ofNat (0x80+c % 64)]:=by
 unfold Lib.encodeRune
 rw [Lib.encodeRuneZ_four (by omega) (by omega)]
 have e1:((240:Int)+(c:Int) / 262144).toNat=240+c / 262144:=by omega
 have e2:((128:Int)+(c:Int) / 4096 % 64).toNat=128+c / 4096 % 64:=by omega
 have e3:((128:Int)+(c:Int) / 64 % 64).toNat=128+c / 64 % 64:=by omega
 have e4:((128:Int)+(c:Int) % 64).toNat=128+c % 64:=by omega
 simp only [List.map_cons,List.map_nil,to_u8,e1,e2,e3,e4]
theorem r5 (c:Nat) (hv : ¬ (c<55296∨57344≤c∧c≤1114111)):Lib.encodeRune (c:Int) = [239,191,189]:=by
 unfold Lib.encodeRune
 rw [Lib.encodeRuneZ_bad (by omega)]
 rfl
theorem a1l (r:Int) (h0:0≤r):(Utf8.encode r).data.toList=encS r.toNat:=by
 have hv:=a0E r.toNat
 rw [Int.toNat_of_nonneg h0] at hv
 unfold encS
 by_cases h:r.toNat<55296∨57344≤r.toNat∧r.toNat≤1114111
 · rw [if_pos h];exact a1x r (hv.2 h)
 · rw [if_neg h,a1S r (fun q=>h (hv.1 q))];exact a2H
theorem a1D (c:Nat):Lib.encodeRune (c:Int)=encS c:=by
 unfold encS
 by_cases hv:c<55296∨57344≤c∧c≤1114111
 case neg=>rw [if_neg hv];exact r5 c hv
 rw [if_pos hv]
 unfold encC
 by_cases h1:c<128
 · rw [if_pos h1];exact r1 c h1
 rw [if_neg h1]
 by_cases h2:c<2048
 · rw [if_pos h2];exact r2 c h1 h2
 rw [if_neg h2]
 by_cases h3:c<65536
 · rw [if_pos h3];exact r3 c hv h2 h3
 · rw [if_neg h3];exact r4 c h3 (by omega)
/-- a rune's bytes are those that it was decoded from -/
theorem a2L {s:List UInt8} {p:Nat} (hp:p<s.length) (hv:0<longR s p):encS (dec s p).1=(s.drop p).take (longR s p):=by
 have hd:Lib.decodeL (s.drop p)=dec s p:=Lib.decodeL_drop ⟨⟨s⟩⟩ p
 have h2:(dec s p).2=longR s p:=by have:=aFa s p;unfold stepR at this;split at this <;> omega
 have:=Lib.encode_decode (s.drop p) (by intro e;have:=congrArg List.length e;simp at this;omega) (by
  rw [hd]
  rintro ⟨q1,q2⟩
  have h:=aMg (bt s p) (bt s (p+1)) (bt s (p+2)) (bt s (p+3)) (p+1<s.length) (p+2<s.length) (p+3<s.length) (bt_lt _ _) (bt_lt _ _) (bt_lt _ _) (bt_lt _ _)
  rw [← aOy] at h
  have hL:longR s p=longV (bt s p) (bt s (p+1)) (bt s (p+2)) (bt s (p+3)) (p+1<s.length) (p+2<s.length) (p+3<s.length):=rfl
  rw [← hL] at h
  rcases h with ⟨h1,_⟩ | ⟨h1,h2,h3⟩ | ⟨h1,h2,_⟩ | ⟨h1,h2,_⟩ | ⟨h1,h2,_⟩
  · omega
  · rw [h2] at q1;simp at q1;omega
  all_goals rw [h2] at q2;simp at q2)
 rw [hd,a1D,h2] at this
 exact this
theorem aRw (s:List UInt8) (i k:Nat):mayR (s.drop i) k=mayR s (i+k):=by
 unfold mayR;rw [aD5,aSO,aSO,Nat.add_assoc]
theorem aKT {s:List UInt8} {p:Nat} (h:mayR s p=true):0<longR s p:=by
 unfold mayR at h
 split at h
 · omega
 · simp only [Bool.and_eq_true,decide_eq_true_eq] at h;omega
/-- a text that goes on has the same first rune -/
theorem aZs (t:List UInt8) (n:Nat) (h:0<longR (t.take n) 0) (h0:0<n):longR t 0=longR (t.take n) 0:=by
 rw [← aFW] at h ⊢
 rw [← aFW]
 unfold longB at h ⊢
 simp only [aHF t h0,aXF,Nat.zero_add,Bool.and_eq_true,decide_eq_true_eq] at h ⊢
 by_cases c1:bt t 0<128
 · simp only [c1,if_true]
 simp only [c1,if_false] at h ⊢
 by_cases c2:194≤bt t 0∧bt t 0≤223
 · simp only [c2,and_self,if_true] at h ⊢
   by_cases o:1<n∧inB t 1 128 191=true
   · simp [o]
   · simp [o] at h
 simp only [c2,if_false] at h ⊢
 by_cases c3:224≤bt t 0∧bt t 0≤239
 · simp only [c3,and_self,if_true] at h ⊢
   have hO:(if bt t 0=224 then (decide (1<n)&&inB t 1 160 191) else if bt t 0=237 then (decide (1<n)&&inB t 1 128 159) else (decide (1<n)&&inB t 1 128 191))=(decide (1<n)&&(if bt t 0=224 then inB t 1 160 191 else if bt t 0=237 then inB t 1 128 159 else inB t 1 128 191)):=by split;rfl;split <;> rfl
   simp only [hO] at h ⊢
   generalize (if bt t 0=224 then inB t 1 160 191 else if bt t 0=237 then inB t 1 128 159 else inB t 1 128 191)=O at h ⊢
   split at h
   · rename_i o
     simp only [Bool.and_eq_true,decide_eq_true_eq] at o
     simp [o.1.1,o.1.2,o.2.1,o.2.2]
   · omega
 simp only [c3,if_false] at h ⊢
 by_cases c4:240≤bt t 0∧bt t 0≤244
 · simp only [c4,and_self,if_true] at h ⊢
   have hO:(if bt t 0=240 then (decide (1<n)&&inB t 1 144 191) else if bt t 0=244 then (decide (1<n)&&inB t 1 128 143) else (decide (1<n)&&inB t 1 128 191))=(decide (1<n)&&(if bt t 0=240 then inB t 1 144 191 else if bt t 0=244 then inB t 1 128 143 else inB t 1 128 191)):=by split;rfl;split <;> rfl
   simp only [hO] at h ⊢
   generalize (if bt t 0=240 then inB t 1 144 191 else if bt t 0=244 then inB t 1 128 143 else inB t 1 128 191)=O at h ⊢
   split at h
   · rename_i o
     simp only [Bool.and_eq_true,decide_eq_true_eq] at o
     simp [o.1.1.1,o.1.1.2,o.1.2.1,o.1.2.2,o.2.1,o.2.2]
   · omega
 simp only [c4,if_false]
/-- within a part of a text, a rune that fits -/
theorem aRz {t:List UInt8} {n k:Nat} (h:0<longR t k) (hk:k+longR t k≤n):longR (t.take n) k=longR t k:=by
 have e1:longR ((t.drop k).take (stepR (t.drop k) 0)) 0=longR (t.drop k) 0:=aUZ (t.drop k)
 have e2:longR (t.drop k) 0=longR t k:=aD5 t k 0
 have e3:stepR (t.drop k) 0=longR t k:=by unfold stepR;rw [e2];split <;> omega
 have e4:longR (t.take n) k=longR ((t.drop k).take (n - k)) 0:=by rw [← List.drop_take,aD5];rfl
 have e5:((t.drop k).take (n - k)).take (longR t k)=(t.drop k).take (longR t k):=by rw [List.take_take,Nat.min_eq_left (by omega)]
 rw [e4]
 have:=aZs ((t.drop k).take (n - k)) (longR t k) (by rw [e5,← e3,e1,e2];exact h) h
 rw [this,e5];rw [e3] at e1;rw [e1,e2]
theorem a1o {t:List UInt8} {n k:Nat} (h:mayR t k=true) (hk:k+longR t k≤n):mayR (t.take n) k=true:=by
 have hl:=aKT h
 have e:=aRz hl hk
 unfold mayR at h ⊢
 rw [e,aHF t (by omega)]
 by_cases h1:longR t k=1
 · simpa [h1] using h
 · rw [if_neg h1] at h ⊢
   rw [aHF t (by omega)];exact h
/-- a rune alone is a name, if it may stand in one -/
theorem aYb {s:List UInt8} {p:Nat} (hp:p<s.length) (hv:0<longR s p):nameG ((s.drop p).take (longR s p))=mayR s p:=by
 have e2:longR (s.drop p) 0=longR s p:=aD5 s p 0
 have hf:=aHW s p hp
 generalize ht:s.drop p=t at e2
 have hL:longR s p=longR t 0:=e2.symm
 have hm:mayR s p=mayR t 0:=by rw [← ht,aRw];rfl
 have hlen:longR t 0≤t.length:=by rw [← hL,← ht];simp;omega
 rw [hL,hm]
 rw [hL] at hv
 have e3:longR (t.take (longR t 0)) 0=longR t 0:=aRz hv (by omega)
 have hul:(t.take (longR t 0)).length=longR t 0:=by simp;omega
 have hs:stepR (t.take (longR t 0)) 0=longR t 0:=by unfold stepR;rw [e3];split <;> omega
 have hr:runes (t.take (longR t 0)) 0 = [(0,(dec (t.take (longR t 0)) 0).1)]:=by
  rw [aCi (by omega),aFa,hs,aEG (by omega)]
 rw [aVZ]
 unfold nameR countG
 rw [hr]
 have:mayR (t.take (longR t 0)) 0=mayR t 0:=by
  unfold mayR
  rw [e3,aHF t hv]
  by_cases h1:longR t 0=1
  · simp [h1]
  · rw [if_neg h1,if_neg h1,aHF t (by omega)]
 simp [this]
/-! ### a word -/
/-- where a word ends, and how many runes it has -/
def wordE (s:List UInt8):Nat→Nat→Nat×Nat
 | 0,p=>(p,0)
 | f+1,p=>if p<s.length∧mayR s p=true then ((wordE s f (p+longR s p)).1,(wordE s f (p+longR s p)).2+1) else (p,0)
theorem aP1 (s:List UInt8) : ∀ (f p:Nat),s.length - p≤f→wordE s f p=wordE s (s.length - p) p
 | 0, p, h => by have:s.length - p=0:=by omega
                 rw [this]
 | f+1,p,h=>by
  by_cases hp:p<s.length
  · obtain ⟨k,hk⟩ : ∃ k,s.length - p=k+1:=⟨s.length - p - 1,by omega⟩
    rw [hk]
    simp only [wordE]
    split
    · rename_i hc
      have:=aKT hc.2
      rw [aP1 s f _ (by omega),← aP1 s k (p+longR s p) (by omega)]
    · rfl
  · have:s.length - p=0:=by omega
    rw [this]
    simp [wordE,hp]
def wordP (s:List UInt8) (p:Nat):Nat×Nat:=wordE s (s.length - p) p
theorem aY1 {s:List UInt8} {p:Nat} (hp:p<s.length) (hm:mayR s p=true):wordP s p=((wordP s (p+longR s p)).1,(wordP s (p+longR s p)).2+1):=by
 unfold wordP
 obtain ⟨k,hk⟩ : ∃ k,s.length - p=k+1:=⟨s.length - p - 1,by omega⟩
 rw [hk]
 simp only [wordE]
 have:=aKT hm
 rw [if_pos ⟨hp,hm⟩,aP1 s k _ (by omega)]
theorem aUz {s:List UInt8} {p:Nat} (h : ¬ (p<s.length∧mayR s p=true)):wordP s p=(p,0):=by
 unfold wordP
 cases s.length - p with
 | zero=>rfl
 | succ k=>simp only [wordE];rw [if_neg h]
theorem aMQ (s:List UInt8) : ∀ (f p:Nat),p≤s.length→p≤(wordE s f p).1∧(wordE s f p).1≤s.length∧((wordE s f p).1=p↔(wordE s f p).2=0)
 | 0,p,h=>⟨Nat.le_refl _,h,by simp [wordE]⟩
 | f+1,p,h=>by
  simp only [wordE]
  split
  · rename_i hc
    have h1:=aKT hc.2
    have h2:=aMQ s f (p+longR s p) (aHW s p hc.1)
    exact ⟨by simp only;omega,h2.2.1,by simp only;omega⟩
  · exact ⟨Nat.le_refl _,h,by simp⟩
/-- a word's own runes -/
theorem aTu (s:List UInt8) (p e:Nat) : ∀ (f q:Nat),p≤q→q≤s.length→(wordE s f q).1=e→(¬ (e<s.length∧mayR s e=true))→s.length - q≤f →
 (runes ((s.drop p).take (e - p)) (q - p)).length=(wordE s f q).2∧((runes ((s.drop p).take (e - p)) (q - p)).all fun x=>mayR ((s.drop p).take (e - p)) x.1)=true
 | 0,q,hpq,hq,he,hend,hf=>by
  simp only [wordE] at he ⊢
  subst he
  rw [aEG (by simp;omega)];simp
 | f+1,q,hpq,hq,he,hend,hf=>by
  simp only [wordE] at he ⊢
  split at he
  · rename_i hc
    rw [if_pos hc]
    simp only at he ⊢
    have h1:=aKT hc.2
    have h2:=aMQ s f (q+longR s q) (aHW s q hc.1)
    have hle:q+longR s q≤e:=by omega
    have hes:e≤s.length:=by omega
    have i1:longR (s.drop p) (q - p)=longR s q:=by rw [aD5];congr 1;omega
    have i2:longR ((s.drop p).take (e - p)) (q - p)=longR s q:=by rw [← i1];exact aRz (by rw [i1];exact h1) (by rw [i1];omega)
    have hm:mayR ((s.drop p).take (e - p)) (q - p)=true:=a1o (by rw [aRw,show p+(q - p)=q by omega];exact hc.2) (by rw [i1];omega)
    have hst:stepR ((s.drop p).take (e - p)) (q - p)=q+longR s q - p:=by unfold stepR;rw [i2];split <;> omega
    have ih:=aTu s p e f (q+longR s q) (by omega) (by omega) he hend (by omega)
    rw [aCi (by simp;omega),aFa,hst]
    simp only [List.length_cons,List.all_cons,hm,Bool.true_and]
    exact ⟨by rw [ih.1],ih.2⟩
  · rename_i hc
    rw [if_neg hc]
    simp only at he ⊢
    subst he
    rw [aEG (by simp;omega)];simp
theorem aUK (s:List UInt8) : ∀ (f q:Nat),s.length - q≤f → ¬ ((wordE s f q).1<s.length∧mayR s (wordE s f q).1=true)
 | 0,q,h=>by simp only [wordE];omega
 | f+1,q,h=>by
  simp only [wordE]
  split
  · rename_i hc
    have:=aKT hc.2
    exact aUK s f _ (by omega)
  · assumption
theorem a0D {s:List UInt8} {p:Nat} (hp:p≤s.length):nameG ((s.drop p).take ((wordP s p).1 - p))=(decide (0<(wordP s p).2)&&decide ((wordP s p).2≤24)):=by
 have h:=aTu s p (wordP s p).1 (s.length - p) p (Nat.le_refl _) hp rfl (aUK s _ p (Nat.le_refl _)) (Nat.le_refl _)
 rw [Nat.sub_self] at h
 rw [aVZ]
 unfold nameR countG
 rw [h.2,h.1]
 rfl
/-! ### texts without a broken byte -/
def Good (s:List UInt8) (p:Nat):Prop := ∀ x∈runes s p,0<longR s x.1
theorem Good.here {s:List UInt8} {p:Nat} (g:Good s p) (hp:p<s.length):0<longR s p:=g (p,(dec s p).1) (by rw [aCi hp];exact List.mem_cons_self)
theorem Good.next {s:List UInt8} {p:Nat} (g:Good s p) (hp:p<s.length):Good s (p+longR s p):=by
 intro x hx
 apply g x
 rw [aCi hp,aFa]
 have h:=g.here hp
 have:stepR s p=p+longR s p:=by unfold stepR;split <;> omega
 rw [this]
 exact List.mem_cons_of_mem _ hx
theorem aXz {s:List UInt8} {p:Nat} (h:bt s p<128):longR s p=1:=by unfold longR longV;rw [if_pos h]
theorem aWG {s:List UInt8} : ¬ 0≤aEx s↔Good s 0:=by
 unfold aEx Good
 constructor
 · intro h x hx
   split at h
   · rename_i y hy;exact absurd (Int.natCast_nonneg _) h
   · rename_i hn
     have:=List.find?_eq_none.1 hn x hx
     simp at this;omega
 · intro h
   have:(runes s 0).find? (fun x => !decide (0<longR s x.1))=none:=by
    rw [List.find?_eq_none];intro x hx;have:=h x hx;simp;omega
   rw [this];decide
theorem Good.word {s:List UInt8} : ∀ (f p:Nat),Good s p→Good s (wordE s f p).1
 | 0,p,g=>g
 | f+1,p,g=>by
  simp only [wordE]
  split
  · rename_i hc;exact Good.word f _ (g.next hc.1)
  · exact g
end Go.Proofs.YtdbmeidhlijopaaGreatDoor.Ev.C

/- The functions of values that stand for themselves. -/
namespace Go.Proofs.YtdbmeidhlijopaaGreatDoor.Ev.C
open Go Go.Proofs.YtdbmeidhlijopaaGreatDoor.Ev
set_option linter.unusedSimpArgs false
set_option linter.unusedVariables false
def prefF:List AV→Option AV
 | [.str s,.str t]=>if t.length<1000000000 then some (.bool (s.take t.length==t)) else none
 | _=>none
theorem aZY (args:List AV) (v:AV) (e:prefF args=some v):plainV v=true ∧ ∀ h:H,h.Wf→WCall (EL []) aAi args h (fun r _=>r = .val v):=by
 unfold prefF at e
 split at e
 case h_2=>cases e
 rename_i s t
 split at e
 case isFalse=>cases e
 rename_i hl
 cases e
 exact ⟨rfl,fun h wf=>(aSn std1' s t h (by omega)).mono fun r h' q=>q.2⟩
def LX:List Ovr:=(nAwake,yes)::(aAQ,sortEG)::(aFi,pureO a2M)::(aAi,pureO prefF)::LT0
theorem a2O {L:List Ovr} (ho:ovP ov1 L aAi=some (pureO prefF)) (s t:List UInt8) (hl:t.length<1000000000) {h:H} {R:AOut→H→Prop} (hR:R (.val (.bool (s.take t.length==t))) h):WCall (EL L) aAi [.str s,.str t] h R :=
 aSN ho (by unfold prefF;simp only;rw [if_pos hl]) hR
end Go.Proofs.YtdbmeidhlijopaaGreatDoor.Ev.C

/- The reader of tokens, with the functions of values standing for themselves. (Printed by mksign.py out of core/Sign.) -/
namespace Go.Proofs.YtdbmeidhlijopaaGreatDoor.Ev.C
open Go Go.Proofs.YtdbmeidhlijopaaGreatDoor.Ev
set_option linter.unusedSimpArgs false
set_option linter.unusedVariables false
theorem aUQ {v:AV} {l:List (List UInt8)} {s:List UInt8} {h:H} (b:Strs h v l) (hl:l.length<4611686018427387904) :
 WCall (EL LX) aBG [v,.str s] h fun r h'=>h'=h ∧ ∃ z:Int,r = .val (.int .i64 z)∧(0≤z↔s∈l):=by
 refine aAI ((EL_ov _ _).trans rfl) (EL_T aDm) (by simp [aA2]) ?_
 refine aAA (aAB ?_)
 simp only [aCZ,go_sem,↓reduceIte,Nat.reduceEqDiff]
 refine aAA (aAA (aAB ?_))
 simp only [aCV,go_sem,↓reduceIte,Nat.reduceEqDiff,enterS,List.getD_cons_zero,b.len]
 refine aAG (aAP (fun m z g=>g=h ∧ ∃ i,m=l.length - i∧i≤l.length∧s∉l.take i∧z 0=v∧z 1 = .str s∧z 7 = .int .i64 (l.length:Int)∧z 8 = .int .i64 (i:Int)) ?_ l.length ?_)
 · rintro m z g ⟨rfl,i,rfl,hi,hno,z0,z1,z7,z8⟩
   show WS (EL LX) aCX _ _ _ _
   refine aAA (aAB ?_)
   simp only [aCT,go_sem,↓reduceIte,Nat.reduceEqDiff,z7,z8]
   refine aAA (aAD ?_)
   simp only [go_sem,↓reduceIte]
   by_cases hil:i<l.length
   case neg =>
    have hie:i=l.length:=by omega
    subst hie
    simp only [Int.lt_irrefl,decide_false,Bool.false_eq_true,↓reduceIte]
    refine aAK ?_
    simp only [go_sem,↓reduceIte]
    refine aAA (aAB ?_)
    simp only [aCS,go_sem,↓reduceIte,Nat.reduceEqDiff]
    refine aAE ?_
    simp only [go_sem,aA2,↓reduceIte,Nat.reduceEqDiff]
    rw [List.take_length] at hno
    exact ⟨trivial,-1,rfl,by simp [hno]⟩
   have hil':(i:Int)<(l.length:Int):=by omega
   simp only [hil',decide_true,↓reduceIte]
   refine aAF ?_
   simp only [go_sem]
   refine aAA (aAG (aAA (aAB ?_)))
   simp only [aCU,go_sem,↓reduceIte,Nat.reduceEqDiff,z8]
   refine aAA (aAB ?_)
   obtain ⟨p,e1,e2⟩:=b.at hil .i64
   simp only [aCY,go_sem,↓reduceIte,Nat.reduceEqDiff,z0,z1,e1,e2]
   refine aAD ?_
   simp only [go_sem,↓reduceIte]
   by_cases hs:s=l[i]
   · simp only [hs,decide_true,↓reduceIte]
     refine aAA (aAB ?_)
     simp only [aC0,go_sem,↓reduceIte,Nat.reduceEqDiff]
     refine aAE ?_
     simp only [go_sem,aA2,↓reduceIte,Nat.reduceEqDiff]
     exact ⟨trivial,i,rfl,by simp⟩
   · simp only [hs,decide_false,Bool.false_eq_true,↓reduceIte]
     refine aAF ?_
     simp only [go_sem]
     refine aAB ?_
     simp only [aCW,go_sem,↓reduceIte,Nat.reduceEqDiff,z8]
     refine ⟨l.length - (i+1),by omega,trivial,i+1,rfl,by omega,?_,z0,z1,z7,?_⟩
     · rw [List.take_add_one]
       simp only [List.getElem?_eq_getElem hil,Option.toList_some,List.mem_append,List.mem_singleton,not_or]
       exact ⟨hno,hs⟩
     · have:IntKind.i64.wrap ((i:Int)+1)=((i+1:Nat):Int):=by rw [show ((i:Int)+1)=((i+1:Nat):Int) from rfl];exact wrapI (by omega)
       rw [this]
 · exact ⟨rfl,0,by simp,by omega,by simp,rfl,rfl,rfl,rfl⟩
theorem aR9 {v:AV} {l:List (List UInt8)} {s:List UInt8} {h:H} (b:Strs h v l) (hl:l.length<4611686018427387904) :
 WCall (EL LX) aAu [v,.str s] h fun r h'=>h'=h∧r = .val (.bool (l.contains s)):=by
 refine aAI ((EL_ov _ _).trans rfl) (EL_T aDS) (by simp [aAe]) ?_
 refine aAA (aAB ?_)
 simp only [aBS,go_sem,↓reduceIte,Nat.reduceEqDiff]
 refine aAA (aAB ?_)
 simp only [aBR,go_sem,↓reduceIte,Nat.reduceEqDiff,enterS,List.getD_cons_zero,List.getD_cons_succ]
 refine (aUQ b hl).mono ?_
 rintro r h' ⟨rfl,z,rfl,hz⟩
 simp only [go_sem,↓reduceIte,Nat.reduceEqDiff]
 refine aAE ?_
 simp only [go_sem,aAe,↓reduceIte,Nat.reduceEqDiff]
 refine ⟨trivial,?_⟩
 congr 2
 rw [Bool.eq_iff_iff]
 simp [hz]
theorem aVB {s:List UInt8} {h:H} (ks:KStart h):WCall (EL LX) aG0 [.str s] h fun r h'=>h'=h∧r = .val (.bool (isKey s)):=by
 refine aAI ((EL_ov _ _).trans rfl) (EL_T aSv) (by simp [aG6]) ?_
 refine aAA (aAB ?_)
 simp only [aLu,go_sem,↓reduceIte,Nat.reduceEqDiff]
 refine aAA (aAB ?_)
 simp only [aMF,go_sem,↓reduceIte,Nat.reduceEqDiff,enterS,List.getD_cons_zero,aVW ks]
 refine (aR9 (aVC ks) (by decide)).mono ?_
 rintro r h' ⟨rfl,rfl⟩
 simp only [go_sem,↓reduceIte,Nat.reduceEqDiff]
 refine aAE ?_
 simp only [go_sem,aG6,↓reduceIte,Nat.reduceEqDiff]
 exact ⟨trivial,rfl⟩

theorem aW3 {o i to tj:Nat} {l:AV} {k:Int} {t s:List UInt8} {h:H} (ks:KStart h) (hl:loadA h false 1 (.ptr o (i+0))=some l)
 (e1:aAJ 3 l (.int .i64 0)=some (.ptr to tj)) (e2:loadA h false 1 (.ptr to (tj+0))=some (.int .i64 k)) (e3:loadA h false 1 (.ptr to (tj+1))=some (.str t)) :
 WCall (EL LX) aAx [.ptr o i,.str s] h fun r h'=>h'=h∧r = .val (.bool (isAt k t s)):=by
 refine aAI ((EL_ov _ _).trans rfl) (EL_T aL6) (by simp [aAj]) ?_
 refine aAA (aAB ?_)
 simp only [aF3,go_sem,↓reduceIte,Nat.reduceEqDiff]
 refine aAA (aAB ?_)
 simp only [aFV,go_sem,↓reduceIte,Nat.reduceEqDiff,enterS,List.getD_cons_zero,List.getD_cons_succ,hl,e1,e2,e3,wanted]
 by_cases h1:t=s
 · simp only [h1,decide_true,beq_self_eq_true,go_sem,↓reduceIte,Nat.reduceEqDiff,hl,e1,e2]
   by_cases h2:k=2
   · simp only [h2,decide_true,beq_self_eq_true,Bool.true_eq_false,Bool.false_eq_true,reduceCtorEq,go_sem,↓reduceIte,Nat.reduceEqDiff,pickA,show (true==false)=false from rfl]
     refine aAE ?_
     simp only [go_sem,aAj,↓reduceIte,Nat.reduceEqDiff]
     exact ⟨trivial,by simp [isAt,h1,h2]⟩
   · simp only [h2,decide_false,beq_self_eq_true,go_sem,↓reduceIte,Nat.reduceEqDiff,pickA]
     refine (aVB ks).mono ?_
     rintro r h' ⟨rfl,rfl⟩
     simp only [go_sem,↓reduceIte,Nat.reduceEqDiff,pickA,wanted,beq_self_eq_true,Bool.false_eq_true]
     refine aAE ?_
     simp only [go_sem,aAj,↓reduceIte,Nat.reduceEqDiff]
     exact ⟨trivial,by simp [isAt,h1,h2]⟩
 · simp only [h1,decide_false,go_sem,↓reduceIte,Nat.reduceEqDiff,show (false==true)=false from rfl,Bool.false_eq_true,pickA,wanted,undefA]
   refine aAE ?_
   simp only [go_sem,aAj,↓reduceIte,Nat.reduceEqDiff]
   exact ⟨trivial,by simp [isAt,h1]⟩
theorem aTz {o i to tj:Nat} {l l':AV} {k:Int} {t s:List UInt8} {h:H} (ks:KStart h) (hl:loadA h false 1 (.ptr o (i+0))=some l)
 (e1:aAJ 3 l (.int .i64 0)=some (.ptr to tj)) (e2:loadA h false 1 (.ptr to (tj+0))=some (.int .i64 k)) (e3:loadA h false 1 (.ptr to (tj+1))=some (.str t))
 (e4:isAt k t s=true→aAX 3 (some (.int .i64 1)) none l=some l' ∧ ∃ h',storeA h 1 (.ptr o (i+0)) l'=some h') :
 WCall (EL LX) aAW [.ptr o i,.str s] h fun r h'=>r = .val (.bool (isAt k t s))∧if isAt k t s=true then storeA h 1 (.ptr o (i+0)) l'=some h' else h'=h:=by
 refine aAI ((EL_ov _ _).trans rfl) (EL_T aJ2) (by simp [aAy]) ?_
 refine aAA (aAB ?_)
 simp only [aEJ,go_sem,↓reduceIte,Nat.reduceEqDiff]
 refine aAA (aAA (aAB ?_))
 simp only [aEK,go_sem,↓reduceIte,Nat.reduceEqDiff,enterS,List.getD_cons_zero,List.getD_cons_succ]
 refine (aW3 ks hl e1 e2 e3).mono ?_
 rintro r h' ⟨rfl,rfl⟩
 simp only [go_sem,↓reduceIte,Nat.reduceEqDiff]
 refine aAD ?_
 cases hat:isAt k t s
 · simp only [go_sem,↓reduceIte,Nat.reduceEqDiff,Bool.not_false]
   refine aAA (aAB ?_)
   simp only [aEI,go_sem,↓reduceIte,Nat.reduceEqDiff]
   refine aAE ?_
   simp only [go_sem,aAy,↓reduceIte,Nat.reduceEqDiff]
   simp
 · obtain ⟨e5,h2,e6⟩:=e4 hat
   simp only [go_sem,↓reduceIte,Nat.reduceEqDiff,Bool.not_true,Bool.false_eq_true]
   refine aAF ?_
   simp only [go_sem]
   refine aAA (aAB ?_)
   simp only [aE4,go_sem,↓reduceIte,Nat.reduceEqDiff,hl,e5,e6]
   refine aAA (aAB ?_)
   simp only [aE8,go_sem,↓reduceIte,Nat.reduceEqDiff]
   refine aAE ?_
   simp only [go_sem,aAy,↓reduceIte,Nat.reduceEqDiff]
   exact ⟨trivial,trivial⟩

theorem a0f {h h':H} {o i:Nat} {r:AOut} (hg:signG [.ptr o i] h=some (r,h')):WCall (EL LX) aAc [.ptr o i] h fun r1 h1=>r1=r∧Weak h.n h1 h':=by
 unfold signG at hg
 simp only at hg
 split at hg
 case isFalse=>cases hg
 rename_i hc
 simp only [Bool.and_eq_true,decide_eq_true_eq] at hc
 obtain ⟨hst,hn2,hon⟩:=hc
 have ks:KStart h:=aR5 hst
 split at hg
 case h_2=>cases hg
 rename_i cs hrow
 split at hg
 case h_2=>cases hg
 rename_i tl j len hcell
 split at hg
 case isTrue=>cases hg
 rename_i hlen
 split at hg
 case h_2=>cases hg
 rename_i ts htrow
 split at hg
 case h_2=>cases hg
 rename_i k t hk ht
 have htn:tl<h.n:=by omega
 have hl0:0<len:=by omega
 have L0:loadA h false 1 (.ptr o (i+0))=some (.slice tl j len 3):=by simp [loadA,hrow,hcell]
 have L1:aAJ 3 (.slice tl j len 3) (.int .i64 0)=some (.ptr tl j):=by simp [aAJ,hl0]
 have L2:loadA h false 1 (.ptr tl (j+0))=some (.int .i64 k):=by simp [loadA,htrow,hk]
 have L3:loadA h false 1 (.ptr tl (j+1))=some (.str t):=by simp [loadA,htrow,ht]
 have L4:aAX 3 (some (.int .i64 1)) none (.slice tl j len 3)=some (.slice tl (j+3) (len - 1) 3):=by
  have:(1:Int)≤(len:Int):=by omega
  simp [aAX,bounds,this]
 refine aAI ((EL_ov _ _).trans rfl) (EL_T aJe) (by simp [aAz]) ?_
 refine aAA (aAB ?_)
 simp only [aE6,go_sem,↓reduceIte,Nat.reduceEqDiff,enterS]
 refine aAA (aAA (aAB ?_))
 simp only [aEO,go_sem,↓reduceIte,Nat.reduceEqDiff,aDW,H.get_push,H.get_setMem,keyEq,idxM,beq_self_eq_true,Option.isSome_some,List.nil_append,List.cons_append,aKE,
  show ([38]==([124]:List UInt8))=false from rfl,show ([45]==([124]:List UInt8))=false from rfl,show ([45]==([38]:List UInt8))=false from rfl,Option.map_some,Option.map_none,List.getD_cons_zero]
 refine aAG (aAP (fun m z g=>Up2 h g∧MapAt g h.n signEs 3 ∧ ∃ seen,m=signEs.length - seen.length∧IterAt g (h.n+1) h.n signEs 3 seen∧(∀ e∈signEs,e.2.2∈seen → ∃ w,e.1 = .str w∧isAt k t w=false)∧z 0 = .ptr o i∧z 7 = .ptr (h.n+1) 0) ?_ 3 ?_)
 · rintro m z g ⟨u,hm,seen,rfl,hi,hno,z0,z7⟩
   show WS (EL LX) aEN _ _ _ _
   refine aAA (aAB ?_)
   simp only [aEj,go_sem,↓reduceIte,Nat.reduceEqDiff,z7]
   refine aUI hm hi (by omega) ?_ ?_
   · intro hall
     have hv0:(if k=2 then sgn t else 0)=0:=by
      have h1 : ∀ w v,(.str w,v)∈signEs.map (fun e=>(e.1,e.2.1))→isAt k t w=false:=by
       intro w v hmem
       obtain ⟨e,he1,he2⟩:=List.mem_map.1 hmem
       obtain ⟨w',e3,e4⟩:=hno e he1 (hall e he1)
       simp only [Prod.mk.injEq] at he2
       rw [he2.1] at e3;cases e3;exact e4
      have a1:=h1 [124] _ (by simp [signEs];rfl)
      have a2:=h1 [38] _ (by simp [signEs];rfl)
      have a3:=h1 [45] _ (by simp [signEs];rfl)
      have b1:=sgn_at k t [124] 4 (.inl ⟨rfl,rfl⟩)
      have b2:=sgn_at k t [38] 5 (.inr (.inl ⟨rfl,rfl⟩))
      have b3:=sgn_at k t [45] 6 (.inr (.inr ⟨rfl,rfl⟩))
      rw [a1] at b1;rw [a2] at b2;rw [a3] at b3
      by_cases hk2:k=2
      · simp only [hk2,if_true,Bool.false_eq_true,false_iff] at b1 b2 b3 ⊢
        unfold sgn at b1 b2 b3 ⊢
        split
        · rename_i ht1;simp [ht1] at b1
        · split
          · rename_i ht1 ht2;simp [ht2] at b2
          · split
            · rename_i ht1 ht2 ht3;simp [ht3] at b3
            · rfl
      · simp [hk2]
     rw [if_pos hv0] at hg
     cases hg
     simp only [go_sem,↓reduceIte,Nat.reduceEqDiff,aAM,List.getElem?_cons_zero]
     refine aAA (aAD ?_)
     simp only [go_sem,↓reduceIte,Bool.false_eq_true]
     refine aAK ?_
     simp only [go_sem,↓reduceIte]
     refine aAA (aAB ?_)
     simp only [aE5,go_sem,↓reduceIte,Nat.reduceEqDiff]
     refine aAE ?_
     simp only [go_sem,aAz,↓reduceIte,Nat.reduceEqDiff]
     exact ⟨trivial,u.weak⟩
   · rintro e hmem hns g' hg' hm' hi' hent hlt
     have u':Up2 h g':=by
      subst hg'
      refine ⟨u.n,u.gr,fun o' h1 h2=>by rw [H.get_setMem,if_neg h2];exact u.ob o' h1 h2,?_,?_⟩
      · rw [H.get_setMem,if_neg (by omega)];exact u.m1
      · rw [H.get_setMem,if_pos rfl];exact ⟨_,rfl⟩
     obtain ⟨w,v,hw1,hw2,hwv⟩ : ∃ w v,e.1 = .str w∧e.2.1 = .int .i64 v∧((w = [124]∧v=4)∨(w = [38]∧v=5)∨(w = [45]∧v=6)):=by
      simp only [signEs,List.mem_cons,List.not_mem_nil,or_false] at hmem
      rcases hmem with rfl | rfl | rfl
      · exact ⟨_,_,rfl,rfl,.inl ⟨rfl,rfl⟩⟩
      · exact ⟨_,_,rfl,rfl,.inr (.inl ⟨rfl,rfl⟩)⟩
      · exact ⟨_,_,rfl,rfl,.inr (.inr ⟨rfl,rfl⟩)⟩
     rw [hw1,hw2] at hent
     simp only [hw1,hw2,go_sem,↓reduceIte,Nat.reduceEqDiff,aAM,List.getElem?_cons_zero]
     refine aAA (aAD ?_)
     simp only [go_sem,↓reduceIte]
     refine aAF ?_
     simp only [go_sem]
     refine aAG (aAA (aAB ?_))
     simp only [aEg,go_sem,↓reduceIte,Nat.reduceEqDiff,z7,hent,aAM,List.getElem?_cons_zero,List.getElem?_cons_succ]
     refine aAA (aAB ?_)
     simp only [aEc,go_sem,↓reduceIte,Nat.reduceEqDiff,z0]
     have hat:=sgn_at k t w v hwv
     have hput:isAt k t w=true → ∃ g2,storeA g' 1 (.ptr o (i+0)) (.slice tl (j+3) (len - 1) 3)=some g2∧r = .val (.int .i64 v)∧Weak h.n g2 h':=by
      intro ha
      have hv:=hat.1 ha
      have hv0:v≠0:=by rcases hwv with ⟨_,rfl⟩ | ⟨_,rfl⟩ | ⟨_,rfl⟩ <;> decide
      rw [hv,if_neg hv0] at hg
      rw [Option.map_eq_some_iff] at hg
      obtain ⟨h3,hp,hr⟩:=hg
      cases hr
      obtain ⟨g2,hp2,hw2⟩:=u'.weak.put hp
      exact ⟨g2,by simpa [storeA,AV.cells,AV.one] using hp2,rfl,hw2⟩
     refine (aTz (l' := .slice tl (j+3) (len - 1) 3) (u'.start ks hn2) (by rw [u'.load hon];exact L0) L1 (by rw [u'.load htn];exact L2) (by rw [u'.load htn];exact L3) ?_).mono ?_
     · intro ha
       obtain ⟨g2,e1,_⟩:=hput ha
       exact ⟨L4,g2,e1⟩
     · rintro r1 g2 ⟨rfl,hif⟩
       simp only [go_sem,↓reduceIte,Nat.reduceEqDiff]
       refine aAD ?_
       cases hat':isAt k t w
       · rw [hat'] at hif
         simp only [Bool.false_eq_true,if_false] at hif
         subst hif
         simp only [go_sem,↓reduceIte,Bool.false_eq_true]
         refine aAF ?_
         simp only [go_sem,↓reduceIte,Nat.reduceEqDiff]
         refine ⟨_,hlt,u',hm',_,rfl,hi',?_,z0,z7⟩
         intro e' he' hs'
         rcases List.mem_append.1 hs' with hs' | hs'
         · exact hno e' he' hs'
         · simp only [List.mem_singleton] at hs'
           have:e'=e:=by
            simp only [signEs,List.mem_cons,List.not_mem_nil,or_false] at hmem he'
            rcases hmem with rfl | rfl | rfl <;> rcases he' with rfl | rfl | rfl <;> first | rfl | (simp at hs')
           subst this
           exact ⟨w,hw1,hat'⟩
       · rw [hat'] at hif
         simp only [if_true] at hif
         obtain ⟨g3,e1,e2,e3⟩:=hput hat'
         rw [e1] at hif;cases hif
         simp only [go_sem,↓reduceIte]
         refine aAA (aAB ?_)
         simp only [aEf,go_sem,↓reduceIte,Nat.reduceEqDiff]
         refine aAE ?_
         simp only [go_sem,aAz,↓reduceIte,Nat.reduceEqDiff]
         exact ⟨e2.symm,e3⟩
 · have g1 : ∀ (g:H) (n:Nat),g.n=n → ∀ X o',(g.push X).get o'=if o'=n then some X else g.get o':=by
    rintro g n rfl X o';exact H.get_push _ _ _
   have gm : ∀ X1 X2 X3 X4 o',(((((h.push (.mem X1)).setMem h.n X2).setMem h.n X3).setMem h.n (.map signEs 3)).push (.mem X4)).get o'=if o'=h.n+1 then some (.mem X4) else if o'=h.n then some (.mem (.map signEs 3)) else h.get o':=by
    intro X1 X2 X3 X4 o'
    rw [g1 _ (h.n+1) rfl,H.get_setMem,H.get_setMem,H.get_setMem,H.get_push]
    by_cases e1:o'=h.n+1
    · rw [if_pos e1,if_pos e1]
    · rw [if_neg e1,if_neg e1]
      by_cases e2:o'=h.n
      · rw [if_pos e2,if_pos e2]
      · simp only [e2,if_false]
   have hmap : ∀ X1 X2 X3 X4,(((((h.push (.mem X1)).setMem h.n X2).setMem h.n X3).setMem h.n (.map signEs 3)).push (.mem X4)).get h.n=some (.mem (.map signEs 3)):=by
    intro X1 X2 X3 X4;rw [gm,if_neg (by omega),if_pos rfl]
   have hit : ∀ X1 X2 X3 X4,(((((h.push (.mem X1)).setMem h.n X2).setMem h.n X3).setMem h.n (.map signEs 3)).push (.mem X4)).get (h.n+1)=some (.mem X4):=by
    intro X1 X2 X3 X4;rw [gm,if_pos rfl]
   refine ⟨⟨rfl,fun _=>rfl,?_,⟨_,hmap _ _ _ _⟩,⟨_,hit _ _ _ _⟩⟩,⟨hmap _ _ _ _,by decide,by decide⟩,[],rfl,⟨hit _ _ _ _,List.nodup_nil,by simp⟩,by simp,rfl,rfl⟩
   intro o' h1 h2
   refine (gm _ _ _ _ _).trans ?_
   rw [if_neg h2,if_neg h1]
end Go.Proofs.YtdbmeidhlijopaaGreatDoor.Ev.C

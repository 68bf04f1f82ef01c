/- The reader of a text: what its methods do. -/
import Derived.Test.YtdbmeidhlijopaaGreatDoorTX
import Derived.Test.YtdbmeidhlijopaaGreatDoorTD
import Derived.Test.YtdbmeidhlijopaaGreatDoorTBase
namespace Go.Proofs.YtdbmeidhlijopaaGreatDoor.Ev.C
open Go Go.Proofs.YtdbmeidhlijopaaGreatDoor.Ev
set_option linter.unusedSimpArgs false
set_option linter.unusedVariables false
theorem aUn : ∀ (s:List UInt8) (c:UInt8),(cutS s c).1.length≤s.length
 | [],c=>Nat.le_refl _
 | b::r,c=>by
  unfold cutS
  split
  · simp
  · have:=aUn r c;simp;omega
/-- a text's reader -/
structure TR (s:List UInt8) (o:Nat) (h:H) (i:Nat) (acc:List Tk) (e:Int):Prop where
 wf:h.Wf
 box : ∃ v,Box o [.str s,.int .i64 (i:Int),v,.int .i64 e] h∧Sl h 3 v acc.length (acc.flatMap aBw)∧OwnF (o+1) h v
/-- what stays -/
def TK (o:Nat) (h h':H):Prop:=Keep (Old o) h h'∧RK (Apart [o] h) h h'
theorem aXu (t:Tk):(aBw t).all AV.one=true:=rfl
theorem a2q (k:Int) (t:List UInt8) (i:Int):afill [AV.int .i64 0,AV.str [],AV.int .i64 0] [(0,1,.int .i64 k),(1,1,.str t),(2,1,.int .i64 i)]=some [.int .i64 k,.str t,.int .i64 i]:=rfl
theorem a1V (a b c:AV):afill (zeros [AV.int .i64 0,AV.str [],AV.int .i64 0] (1*3)) [(0,3,.agg [a,b,c])]=some [a,b,c]:=rfl
theorem aTS {s:List UInt8} {o:Nat} {h:H} {i:Nat} {acc:List Tk} (R:TR s o h i acc 0) (k n:Nat) (hi:i+n≤s.length) (hs:s.length<1000000) (ha:acc.length<1000000) :
 WCall (EL LX) aCk [.ptr o 0,.int .i64 (k:Int),.int .i64 (n:Int)] h fun r h'=>r = .val (.tup [])∧TR s o h' (i+n) (acc ++ [(k,(s.drop i).take n,i)]) 0∧TK o h h':=by
 obtain ⟨wf,v,b,sl,own⟩:=R
 have hon:o<h.n:=b.lt wf
 have l0:loadA h false 1 (.ptr o 0)=some (.str s):=b.load 1 0
 have l1:loadA h false 1 (.ptr o 1)=some (.int .i64 (i:Int)):=b.load 1 1
 have l2:loadA h false 1 (.ptr o 2)=some v:=b.load 1 2
 have a1:IntKind.i64.wrap ((i:Int)+(n:Int))=((i+n:Nat):Int):=wrapI (n:=i+n) (by omega)
 have q1:aBy (some (.int .i64 (i:Int))) (some (.int .i64 ((i+n:Nat):Int))) (.str s)=some (.str ((s.drop i).take n)):=by
  simp only [aBy,bounds]
  rw [if_pos ⟨by omega,by omega⟩]
  simp only [Int.toNat_natCast]
  rw [if_pos ⟨by omega,by omega⟩]
  simp only [Option.map_some,Int.toNat_natCast,Nat.add_sub_cancel_left]
 refine aAI ((EL_ov _ _).trans rfl) (EL_T aR3) (by simp [aF7]) ?_
 refine aAA (aAS ?_)
 simp only [aJ7,go_sem,↓reduceIte,Nat.reduceEqDiff,enterS,List.getD_cons_zero,List.getD_cons_succ,aAC,Nat.zero_add,Nat.add_zero,Nat.reduceAdd,parts,List.map_cons,List.map_nil,a2q,a1V,wanted,l0,l1,l2,a1,q1,Option.map_some,Option.map_none,and_self,true_and,List.filter_cons,List.filter_nil,Nat.testBit,Nat.reduceShiftRight,Nat.reduceAnd,Nat.reduceBNe,Bool.not_false,Bool.not_true,Bool.false_eq_true,bne_self_eq_false]
 have wf1:(h.new [.int .i64 (k:Int),.str ((s.drop i).take n),.int .i64 (i:Int)]).Wf:=(Keep.new (N:=h.n) (Nat.le_refl _) _).wf wf
 have k1:Keep (Old h.n) h (h.new [.int .i64 (k:Int),.str ((s.drop i).take n),.int .i64 (i:Int)]):=Keep.new (Nat.le_refl _) _
 have y1:Sl (h.new [.int .i64 (k:Int),.str ((s.drop i).take n),.int .i64 (i:Int)]) 3 (.slice h.n 0 1 3) [((k,(s.drop i).take n,i):Tk)].length ([((k,(s.drop i).take n,i):Tk)].flatMap aBw):=Sl.new (n:=1) (es:=3) wf (vs:=aBw (k,(s.drop i).take n,i)) (by simp [aBw])
 have hn1:(h.new [.int .i64 (k:Int),.str ((s.drop i).take n),.int .i64 (i:Int)]).n=h.n+1:=rfl
 generalize h.new [.int .i64 (k:Int),.str ((s.drop i).take n),.int .i64 (i:Int)]=h1 at wf1 k1 y1 hn1
 have b1:=b.keep k1 hon
 have s1:=sl.keep k1 ((own.rd wf).slotA (gs := []) (by simp) |>.mono fun j hj=>hj.1)
 have o1:=own.keep ((own.rd wf).slotA (gs := []) (by simp) |>.mono fun j hj=>hj.1) k1
 have l0:loadA h1 false 1 (.ptr o 0)=some (.str s):=b1.load 1 0
 have l1:loadA h1 false 1 (.ptr o 1)=some (.int .i64 (i:Int)):=b1.load 1 1
 have l2:loadA h1 false 1 (.ptr o 2)=some v:=b1.load 1 2
 obtain ⟨v2,h2,e2,s2,o2,k2,rk2⟩:=aXB aGe aXu wf1 (by omega:o+1≤h1.n) s1 o1 y1 (by simp;omega)
 have wf2:=k2.wf wf1
 have b2:=b1.keep k2 (Nat.lt_succ_self o)
 obtain ⟨h3,e3,b3,k3⟩:=Box.put wf2 b2 (i:=2) (n:=1) (v:=v2) (by rw [o2.cells.1];rfl) (by rw [o2.cells.1];simp [o2.cells.2]) (by simp)
 have ap2:Slot (Apart [o] h2) h2 v2:=(o2.rd wf2).slotA (by simp)
 have wf3:=k3.wf wf2
 have s3:=s2.keep k3 ap2
 have o3:=o2.keep ap2 k3
 rw [o2.cells.1,show splice [AV.str s,.int .i64 (i:Int),v,.int .i64 0] 2 [v2] = [AV.str s,.int .i64 (i:Int),v2,.int .i64 0] from rfl] at b3
 simp only [l0,l1,l2,e2,e3,go_sem,↓reduceIte,Nat.reduceEqDiff,aAC,Nat.zero_add,Nat.add_zero,Nat.reduceAdd,and_self,true_and,List.filter_cons,List.filter_nil,Nat.testBit,Nat.reduceShiftRight,Nat.reduceAnd,Nat.reduceBNe,Bool.not_false,Bool.not_true,Bool.false_eq_true,bne_self_eq_false,WV]
 have m1:loadA h3 false 1 (.ptr o 1)=some (.int .i64 (i:Int)):=b3.load 1 1
 obtain ⟨h4,e4,b4,k4⟩:=Box.put wf3 b3 (i:=1) (n:=1) (v := .int .i64 ((i+n:Nat):Int)) rfl rfl (by simp)
 have ap3:Slot (Apart [o] h3) h3 v2:=(o3.rd wf3).slotA (by simp)
 refine aAB ?_
 simp only [aJ6,go_sem,↓reduceIte,Nat.reduceEqDiff,aAC,Nat.zero_add,Nat.add_zero,Nat.reduceAdd,m1,a1,e4]
 simp only [aF7,List.map_nil]
 refine ⟨rfl,⟨k4.wf wf3,v2,b4,s3.keep k4 ap3,o3.keep ap3 k4⟩,?_,?_⟩
 · exact (((k1.less (by omega)).trans (k2.less (by omega))).trans (k3.old wf2 (by have:=k2.n;omega) (by simp))).trans (k4.old wf3 (by have:=k3.n;have:=k2.n;omega) (by simp))
 · exact ((k1.rk.apart.then rk2.apart).then k3.rk).then k4.rk
theorem TK.trans {o:Nat} {h h1 h2:H} (a:TK o h h1) (b:TK o h1 h2):TK o h h2:=⟨a.1.trans b.1,a.2.then b.2⟩
theorem TR.set {s:List UInt8} {o:Nat} {h:H} {i:Nat} {acc:List Tk} {e:Int} (R:TR s o h i acc e) (j:Nat) : ∃ h',storeA h 1 (.ptr o 1) (.int .i64 (j:Int))=some h'∧TR s o h' j acc e∧TK o h h':=by
 obtain ⟨wf,v,b,sl,own⟩:=R
 obtain ⟨h4,e4,b4,k4⟩:=Box.put wf b (i:=1) (n:=1) (v := .int .i64 (j:Int)) rfl rfl (by simp)
 have ap:Slot (Apart [o] h) h v:=(own.rd wf).slotA (by simp)
 exact ⟨h4,e4,⟨k4.wf wf,v,b4,sl.keep k4 ap,own.keep ap k4⟩,k4.old wf (by have:=b.lt wf;omega) (by simp),k4.rk⟩
theorem TR.err {s:List UInt8} {o:Nat} {h:H} {i:Nat} {acc:List Tk} {e:Int} (R:TR s o h i acc e) (x:Int) : ∃ h',storeA h 1 (.ptr o 3) (.int .i64 x)=some h'∧TR s o h' i acc x∧TK o h h':=by
 obtain ⟨wf,v,b,sl,own⟩:=R
 obtain ⟨h4,e4,b4,k4⟩:=Box.put wf b (i:=3) (n:=1) (v := .int .i64 x) rfl rfl (by simp)
 have ap:Slot (Apart [o] h) h v:=(own.rd wf).slotA (by simp)
 exact ⟨h4,e4,⟨k4.wf wf,v,b4,sl.keep k4 ap,own.keep ap k4⟩,k4.old wf (by have:=b.lt wf;omega) (by simp),k4.rk⟩
theorem TR.at0 {s:List UInt8} {o:Nat} {h:H} {i:Nat} {acc:List Tk} {e:Int} (R:TR s o h i acc e):loadA h false 1 (.ptr o 0)=some (.str s):=by
 obtain ⟨wf,v,b,sl,own⟩:=R;exact b.load 1 0
theorem TR.at1 {s:List UInt8} {o:Nat} {h:H} {i:Nat} {acc:List Tk} {e:Int} (R:TR s o h i acc e):loadA h false 1 (.ptr o 1)=some (.int .i64 (i:Int)):=by
 obtain ⟨wf,v,b,sl,own⟩:=R;exact b.load 1 1
theorem TR.at3 {s:List UInt8} {o:Nat} {h:H} {i:Nat} {acc:List Tk} {e:Int} (R:TR s o h i acc e):loadA h false 1 (.ptr o 3)=some (.int .i64 e):=by
 obtain ⟨wf,v,b,sl,own⟩:=R;exact b.load 1 3
/-- what a method answers -/
abbrev TA (s:List UInt8) (o:Nat) (h:H) (i:Nat) (acc:List Tk) (e:Int):AOut→H→Prop:=fun r h'=>r = .val (.tup [])∧TR s o h' i acc e∧TK o h h'
theorem aYW {s:List UInt8} {o:Nat} {h:H} {i:Nat} {acc:List Tk} (R:TR s o h i acc 0) (hi:i<1000000) :
 WCall (EL LX) aAU [.ptr o 0] h (TA s o h (i+1) acc 0):=by
 have l1:=R.at1
 have a1:IntKind.i64.wrap ((i:Int)+1)=((i+1:Nat):Int):=wrapI (n:=i+1) (by omega)
 obtain ⟨h2,e2,R2,k2⟩:=R.set (i+1)
 refine aAI ((EL_ov _ _).trans rfl) (EL_T aPF) (by simp [aHq]) ?_
 refine aAB ?_
 simp only [aH0,go_sem,↓reduceIte,Nat.reduceEqDiff,enterS,List.getD_cons_zero,List.getD_cons_succ,aAC,Nat.zero_add,Nat.add_zero,Nat.reduceAdd,l1,a1,e2]
 exact ⟨rfl,R2,k2⟩
theorem aZE {s:List UInt8} {o:Nat} {h:H} {i:Nat} {acc:List Tk} (R:TR s o h i acc 0) (hi:i<s.length) (hs:s.length<1000000) (ha:acc.length<1000000) :
 WCall (EL LX) aAN [.ptr o 0] h (TA s o h (i+1) (acc ++ [(2,(s.drop i).take 1,i)]) 0):=by
 refine aAI ((EL_ov _ _).trans rfl) (EL_T aQo) (by simp [aJP]) ?_
 refine aAB ?_
 simp only [aIs,go_sem,↓reduceIte,Nat.reduceEqDiff,enterS,List.getD_cons_zero,List.getD_cons_succ]
 refine (aTS R 2 1 (by omega) hs ha).mono ?_
 rintro r h' ⟨rfl,R',k'⟩
 simp only [go_sem,↓reduceIte,Nat.reduceEqDiff]
 exact ⟨rfl,R',k'⟩
theorem a0R {s:List UInt8} {o:Nat} {h:H} {i:Nat} {acc:List Tk} (R:TR s o h i acc 0) (hi:i≤s.length) (hs:s.length<1000000) :
 WCall (EL LX) aAh [.ptr o 0] h (if (s.drop i).take 2 = [47,47] then TA s o h (i+(cutS (s.drop i) 10).1.length) acc 0 else TA s o h i acc 30):=by
 have l0:=R.at0
 have l1:=R.at1
 have q1:=aEs (t:=s) (k:=i) hi .i64
 refine aAI ((EL_ov _ _).trans rfl) (EL_T aQa) (by simp [aFJ]) ?_
 refine aAA (aAA (aAS ?_))
 simp only [aIG,go_sem,↓reduceIte,Nat.reduceEqDiff,enterS,List.getD_cons_zero,List.getD_cons_succ,aAC,Nat.zero_add,Nat.add_zero,Nat.reduceAdd,wanted,l0,l1,q1,Option.map_some,Option.map_none,and_self,true_and,List.filter_cons,List.filter_nil,Nat.testBit,Nat.reduceShiftRight,Nat.reduceAnd,Nat.reduceBNe,Bool.not_false,Bool.not_true,Bool.false_eq_true,bne_self_eq_false,WV]
 refine a2O rfl _ _ (by decide) ?_
 simp only [go_sem,↓reduceIte,Nat.reduceEqDiff,aAC,Nat.zero_add,Nat.add_zero,Nat.reduceAdd,l0,l1,q1,and_self,true_and,List.filter_cons,List.filter_nil,Nat.testBit,Nat.reduceShiftRight,Nat.reduceAnd,Nat.reduceBNe,Bool.not_false,Bool.not_true,Bool.false_eq_true,bne_self_eq_false,WV]
 refine aAD ?_
 by_cases hc:(s.drop i).take 2 = [47,47]
 · rw [if_pos hc]
   simp only [List.length_cons,List.length_nil,Nat.reduceAdd,hc,beq_self_eq_true,Bool.not_true,go_sem,↓reduceIte,Nat.reduceEqDiff,Bool.false_eq_true]
   refine aAF ?_
   simp only [go_sem]
   refine aAA (aAS ?_)
   simp only [aIW,go_sem,↓reduceIte,Nat.reduceEqDiff,enterS,List.getD_cons_zero,List.getD_cons_succ,aAC,Nat.zero_add,Nat.add_zero,Nat.reduceAdd,wanted,l0,l1,q1,Option.map_some,Option.map_none,and_self,true_and,List.filter_cons,List.filter_nil,Nat.testBit,Nat.reduceShiftRight,Nat.reduceAnd,Nat.reduceBNe,Bool.not_false,Bool.not_true,Bool.false_eq_true,bne_self_eq_false,WV]
   refine cut_at rfl (by simp;omega) ?_
   simp only [go_sem,↓reduceIte,Nat.reduceEqDiff,aAC,Nat.zero_add,Nat.add_zero,Nat.reduceAdd,aAM,List.getElem?_cons_zero,List.getElem?_cons_succ,l0,l1,q1,and_self,true_and,List.filter_cons,List.filter_nil,Nat.testBit,Nat.reduceShiftRight,Nat.reduceAnd,Nat.reduceBNe,Bool.not_false,Bool.not_true,Bool.false_eq_true,bne_self_eq_false,WV]
   have hcl:=aUn (s.drop i) 10
   have a1:IntKind.i64.wrap ((i:Int)+(((cutS (s.drop i) 10).1.length:Nat):Int))=((i+(cutS (s.drop i) 10).1.length:Nat):Int):=wrapI (n:=i+(cutS (s.drop i) 10).1.length) (by simp at hcl;omega)
   obtain ⟨h2,e2,R2,k2⟩:=R.set (i+(cutS (s.drop i) 10).1.length)
   refine aAB ?_
   simp only [aHm,go_sem,↓reduceIte,Nat.reduceEqDiff,aAC,Nat.zero_add,Nat.add_zero,Nat.reduceAdd,l1,lenTA,Option.map_some,a1,e2]
   exact ⟨rfl,R2,k2⟩
 · rw [if_neg hc]
   have hb:((s.drop i).take 2 == [47,47])=false:=beq_eq_false_iff_ne.2 hc
   simp only [List.length_cons,List.length_nil,Nat.reduceAdd,hb,Bool.not_false,go_sem,↓reduceIte,Nat.reduceEqDiff]
   obtain ⟨h2,e2,R2,k2⟩:=R.err 30
   refine aAA (aAB ?_)
   simp only [aIn,go_sem,↓reduceIte,Nat.reduceEqDiff,aAC,Nat.zero_add,Nat.add_zero,Nat.reduceAdd,e2]
   refine aAE ?_
   simp only [go_sem,aFJ,List.map_nil]
   exact ⟨rfl,R2,k2⟩
theorem aX2 {L:List Ovr} (ho:ovP ov1 L aCj=some (pureO nmF)) {s:List UInt8} (hl:s.length<1000000000) {h:H} {R:AOut→H→Prop} (hR:R (.val (.bool (nameG s))) h):WCall (EL L) aCj [.str s] h R :=
 txF_at (F:=fun s => .bool (nameG s)) ho hl hR
theorem TR.keepX {s:List UInt8} {o:Nat} {h h':H} {i:Nat} {acc:List Tk} {e:Int} (R:TR s o h i acc e) (k:Keep (Old h.n) h h'):TR s o h' i acc e:=by
 obtain ⟨wf,v,b,sl,own⟩:=R
 have ap:Slot (Old h.n) h v:=((own.rd wf).slotA (gs := []) (by simp)).mono fun j hj=>hj.1
 exact ⟨k.wf wf,v,b.keep k (b.lt wf),sl.keep k ap,own.keep ap k⟩
theorem TK.ofX {o:Nat} {h h':H} (k:Keep (Old h.n) h h') (ho:o≤h.n):TK o h h':=⟨k.less ho,k.rk.apart⟩
theorem aZ9 {s:List UInt8} {o:Nat} {h:H} {i:Nat} {acc:List Tk} (R:TR s o h i acc 0) (hi:i≤s.length) (hs:s.length<1000000) (ha:acc.length<1000000) (gd:Good s i) :
 WCall (EL LX) aCa [.ptr o 0] h (if (wordP s i).1=i then TA s o h i acc 30 else if 24<(wordP s i).2 then TA s o h i acc 31 else TA s o h (wordP s i).1 (acc ++ [(1,(s.drop i).take ((wordP s i).1 - i),i)]) 0):=by
 have l0:=R.at0
 have l1:=R.at1
 have q1:=aEs (t:=s) (k:=i) hi .i64
 have hon:o<h.n:=by obtain ⟨wf,v,b,sl,own⟩:=R;exact b.lt wf
 refine aAI ((EL_ov _ _).trans rfl) (EL_T aQg) (by simp [aJH]) ?_
 refine aAA (aAB ?_)
 simp only [aHs,go_sem,↓reduceIte,Nat.reduceEqDiff,enterS,List.getD_cons_zero,List.getD_cons_succ]
 refine WS_mid (fun z g => ∃ n:Nat,z 2 = .int .i64 (n:Int)∧z 0 = .ptr o 0∧(wordP s i).1=i+n∧Keep (Old h.n) h g) ?_ ?_
 · refine aAA (aAS ?_)
   simp only [aID,go_sem,↓reduceIte,Nat.reduceEqDiff,enterS,List.getD_cons_zero,List.getD_cons_succ,aAC,Nat.zero_add,Nat.add_zero,Nat.reduceAdd,wanted,l0,l1,q1,Option.map_some,Option.map_none,and_self,true_and,List.filter_cons,List.filter_nil,Nat.testBit,Nat.reduceShiftRight,Nat.reduceAnd,Nat.reduceBNe,Bool.not_false,Bool.not_true,Bool.false_eq_true,bne_self_eq_false,WV,aDh]
   refine aAG (aAP (fun m z g => ∃ p:Nat,m=(s.drop i).length - p∧p≤(s.drop i).length∧Good s (i+p)∧(wordP s i).1=(wordP s (i+p)).1∧g.get h.n=some (.mem (.siter (s.drop i) p))∧h.n<g.n∧Keep (Old h.n) h g∧z 0 = .ptr o 0∧z 2 = .int .i64 (p:Int)∧z 14 = .ptr h.n 0) ?_ (s.drop i).length ?_)
   case refine_2 =>
    refine ⟨0,rfl,Nat.zero_le _,gd,rfl,by rw [H.get_push,if_pos rfl],Nat.lt_succ_self _,Keep.pushX (Nat.le_refl _) _,rfl,rfl,rfl⟩
   rintro m z g ⟨p,rfl,hpl,gp,hw,hit,hn,kg,z0,z2,z14⟩
   show WS (EL LX) aI1 _ _ _ _
   refine aAA (aAB ?_)
   simp only [aI2,go_sem,↓reduceIte,Nat.reduceEqDiff,z14,aJq hit]
   by_cases hp:p<(s.drop i).length
   case neg =>
    simp only [hp,go_sem,↓reduceIte,Nat.reduceEqDiff,aAM,List.getElem?_cons_zero,List.getElem?_cons_succ]
    refine aAA (aAD ?_)
    simp only [go_sem,↓reduceIte,Nat.reduceEqDiff,Bool.false_eq_true]
    refine aAK ?_
    simp only [go_sem,↓reduceIte,Nat.reduceEqDiff]
    refine ⟨trivial,p,z2,z0,?_,kg⟩
    rw [hw,aUz]
    simp at hp;omega
   simp only [hp,go_sem,↓reduceIte,Nat.reduceEqDiff,aAM,List.getElem?_cons_zero,List.getElem?_cons_succ]
   have hip:i+p<s.length:=by simp at hp;omega
   have hlong:=gp.here hip
   have hl2:longR (s.drop i) p=longR s (i+p):=aD5 s i p
   have hdp:=aFa (s.drop i) p
   have hst:stepR (s.drop i) p=p+longR s (i+p):=by unfold stepR;rw [hl2];split <;> omega
   have hit':(g.setMem h.n (.siter (s.drop i) (p+(dec (s.drop i) p).2))).get h.n=some (.mem (.siter (s.drop i) (p+longR s (i+p)))):=by rw [H.get_setMem,if_pos rfl,hdp,hst]
   have hn':h.n<(g.setMem h.n (.siter (s.drop i) (p+(dec (s.drop i) p).2))).n:=hn
   have kg':Keep (Old h.n) h (g.setMem h.n (.siter (s.drop i) (p+(dec (s.drop i) p).2))):=kg.trans (Keep.setX (Nat.le_refl _) hn _)
   generalize hgg:g.setMem h.n (.siter (s.drop i) (p+(dec (s.drop i) p).2))=g2 at hit' hn' kg'
   refine aAA (aAD ?_)
   simp only [go_sem,↓reduceIte,Nat.reduceEqDiff]
   refine aAF ?_
   simp only [go_sem]
   refine aAG (aAA (aAB ?_))
   simp only [aIL,go_sem,↓reduceIte,Nat.reduceEqDiff,aAM,List.getElem?_cons_zero,List.getElem?_cons_succ]
   have henc:cvR2SA (.int .i32 ((dec (s.drop i) p).1:Int))=some (.str (((s.drop i).drop p).take (longR s (i+p)))):=by
    simp only [cvR2SA]
    rw [a1l _ (Int.natCast_nonneg _),Int.toNat_natCast,a2L hp (by rw [hl2];exact hlong),hl2]
   have hfit:=aHW s (i+p) hip
   have hlenu:(((s.drop i).drop p).take (longR s (i+p))).length=longR s (i+p):=by simp;omega
   have hnm:nameG (((s.drop i).drop p).take (longR s (i+p)))=mayR s (i+p):=by rw [← hl2,aYb hp (by rw [hl2];exact hlong),aRw]
   refine aAA (aAA (aAB ?_))
   simp only [aIZ,go_sem,↓reduceIte,Nat.reduceEqDiff,henc]
   refine aX2 rfl (by rw [hlenu];omega) ?_
   rw [hnm]
   simp only [go_sem,↓reduceIte,Nat.reduceEqDiff]
   refine aAD ?_
   cases hm:mayR s (i+p)
   · simp only [Bool.not_false,go_sem,↓reduceIte,Nat.reduceEqDiff]
     refine aAK ?_
     simp only [go_sem,↓reduceIte,Nat.reduceEqDiff]
     refine ⟨trivial,p,z2,z0,?_,kg'⟩
     rw [hw,aUz]
     rw [hm];simp
   · simp only [Bool.not_true,go_sem,↓reduceIte,Nat.reduceEqDiff,Bool.false_eq_true]
     refine aAF ?_
     simp only [go_sem]
     have a1:IntKind.i64.wrap ((p:Int)+(((((s.drop i).drop p).take (longR s (i+p))).length:Nat):Int))=((p+longR s (i+p):Nat):Int):=by rw [hlenu];exact wrapI (n:=p+longR s (i+p)) (by omega)
     refine aAB ?_
     simp only [aIh,go_sem,↓reduceIte,Nat.reduceEqDiff,henc,lenTA,Option.map_some,z2,a1]
     have hdl:(s.drop i).length=s.length - i:=by simp
     refine ⟨(s.drop i).length - (p+longR s (i+p)),by omega,p+longR s (i+p),rfl,by omega,?_,?_,hit',hn',kg',z0,rfl,z14⟩
     · rw [← Nat.add_assoc];exact gp.next hip
     · rw [hw,aY1 hip hm,← Nat.add_assoc]
 rintro z g ⟨n,z2,z0,hwn,kg⟩
 have hle:=aMQ s (s.length - i) i hi
 have hcnt:(wordP s i).1=i↔(wordP s i).2=0:=hle.2.2
 have hnl:i+n≤s.length:=by rw [← hwn];exact hle.2.1
 have Rg:=R.keepX kg
 have tk:=TK.ofX (o:=o) kg (by omega)
 have l0:=Rg.at0
 have l1:=Rg.at1
 refine aAG (aAA (aAB ?_))
 simp only [aIj,go_sem,↓reduceIte,Nat.reduceEqDiff,z2]
 refine aAD ?_
 simp only [go_sem,↓reduceIte,Nat.reduceEqDiff]
 by_cases hn0:n=0
 · subst hn0
   simp only [Int.natCast_zero,Int.cast_ofNat_Int,decide_true,go_sem,↓reduceIte,Nat.reduceEqDiff]
   rw [if_pos (by rw [hwn];rfl)]
   obtain ⟨h2,e2,R2,k2⟩:=Rg.err 30
   refine aAB ?_
   simp only [aHu,go_sem,↓reduceIte,Nat.reduceEqDiff,aAC,Nat.zero_add,Nat.add_zero,Nat.reduceAdd,z0,e2]
   exact ⟨rfl,R2,tk.trans k2⟩
 have hn0' : ¬ (n:Int)=0:=by omega
 simp only [hn0',decide_false,go_sem,↓reduceIte,Nat.reduceEqDiff,Bool.false_eq_true]
 rw [if_neg (by rw [hwn];omega)]
 have a1:IntKind.i64.wrap ((i:Int)+(n:Int))=((i+n:Nat):Int):=wrapI (n:=i+n) (by omega)
 have q2:aBy (some (.int .i64 (i:Int))) (some (.int .i64 ((i+n:Nat):Int))) (.str s)=some (.str ((s.drop i).take n)):=by
  simp only [aBy,bounds]
  rw [if_pos ⟨by omega,by omega⟩]
  simp only [Int.toNat_natCast]
  rw [if_pos ⟨by omega,by omega⟩]
  simp only [Option.map_some,Int.toNat_natCast,Nat.add_sub_cancel_left]
 have hnw:nameG ((s.drop i).take n)=decide ((wordP s i).2≤24):=by
  have:=a0D hi
  rw [hwn,Nat.add_sub_cancel_left] at this
  rw [this]
  have:0<(wordP s i).2:=by
   rcases Nat.eq_zero_or_pos (wordP s i).2 with q | q
   · rw [← hcnt] at q;omega
   · exact q
  simp [this]
 refine aAA (aAS ?_)
 simp only [aIf,go_sem,↓reduceIte,Nat.reduceEqDiff,aAC,Nat.zero_add,Nat.add_zero,Nat.reduceAdd,wanted,z0,z2,l0,l1,a1,q2,Option.map_some,Option.map_none,and_self,true_and,List.filter_cons,List.filter_nil,Nat.testBit,Nat.reduceShiftRight,Nat.reduceAnd,Nat.reduceBNe,Bool.not_false,Bool.not_true,Bool.false_eq_true,bne_self_eq_false,WV]
 refine aX2 rfl (by simp;omega) ?_
 rw [hnw]
 simp only [go_sem,↓reduceIte,Nat.reduceEqDiff,aAC,Nat.zero_add,Nat.add_zero,Nat.reduceAdd,l0,l1,and_self,true_and,List.filter_cons,List.filter_nil,Nat.testBit,Nat.reduceShiftRight,Nat.reduceAnd,Nat.reduceBNe,Bool.not_false,Bool.not_true,Bool.false_eq_true,bne_self_eq_false,WV]
 refine aAD ?_
 by_cases hc:(wordP s i).2≤24
 · rw [if_neg (by omega)]
   simp only [hc,decide_true,Bool.not_true,go_sem,↓reduceIte,Nat.reduceEqDiff,Bool.false_eq_true]
   refine aAB ?_
   simp only [aH3,go_sem,↓reduceIte,Nat.reduceEqDiff,z0,z2]
   refine (aTS Rg 1 n hnl hs ha).mono ?_
   rintro r h' ⟨rfl,R',k'⟩
   simp only [go_sem,↓reduceIte,Nat.reduceEqDiff]
   rw [hwn,Nat.add_sub_cancel_left]
   exact ⟨rfl,R',tk.trans k'⟩
 · rw [if_pos (by omega)]
   simp only [hc,decide_false,Bool.not_false,go_sem,↓reduceIte,Nat.reduceEqDiff]
   obtain ⟨h2,e2,R2,k2⟩:=Rg.err 31
   refine aAB ?_
   simp only [aHJ,go_sem,↓reduceIte,Nat.reduceEqDiff,aAC,Nat.zero_add,Nat.add_zero,Nat.reduceAdd,z0,e2]
   exact ⟨rfl,R2,tk.trans k2⟩
end Go.Proofs.YtdbmeidhlijopaaGreatDoor.Ev.C

/- All tokens of a text. -/
namespace Go.Proofs.YtdbmeidhlijopaaGreatDoor.Ev.C
open Go Go.Proofs.YtdbmeidhlijopaaGreatDoor.Ev
set_option linter.unusedSimpArgs false
set_option linter.unusedVariables false
/-! ### the map of what to do -/
def doL:List (Int×Nat) := [(32,aAU),(9,aAU),(10,aAU),(47,aAh),(123,aAN),(125,aAN),(40,aAN),(41,aAN),(58,aAN),(44,aAN),(59,aAN),(124,aAN),(38,aAN),(45,aAN),(46,aAN),(35,aAN)]
def mkE (o:Nat):Nat→List (Int×Nat)→List (AV×AV×Nat)
 | _,[] => []
 | n,x::r=>(.int .u8 x.1,.meth x.2 (.ptr o 0),n)::mkE o (n+1) r
theorem aYM (o:Nat) (c:Int) (f:Nat) : ∀ (l:List (Int×Nat)) (n:Nat),mkE o n (l ++ [(c,f)])=mkE o n l ++ [(.int .u8 c,.meth f (.ptr o 0),n+l.length)]
 | [],n=>rfl
 | x::r,n=>by simp only [List.cons_append,mkE,aYM o c f r (n+1),List.length_cons];rw [show n+1+r.length=n+(r.length+1) by omega]
theorem aTM (o:Nat) (c:Int) : ∀ (l:List (Int×Nat)) (n:Nat),(∃ i x id,l.find? (fun y=>c==y.1)=some x∧idxM .int (.int .u8 c) (mkE o n l)=some (some i)∧(mkE o n l)[i]? = some (.int .u8 x.1,.meth x.2 (.ptr o 0),id))∨(l.find? (fun y=>c==y.1)=none∧idxM .int (.int .u8 c) (mkE o n l)=some none)
 | [],n => .inr ⟨rfl,rfl⟩
 | x::r,n=>by
  by_cases hx:(c==x.1)=true
  · left
    exact ⟨0,x,n,by rw [List.find?_cons,hx],by simp only [mkE,idxM,keyEq,if_true,hx],rfl⟩
  · have hx':(c==x.1)=false:=by simpa using hx
    rcases aTM o c r (n+1) with ⟨i,y,id,h1,h2,h3⟩ | ⟨h1,h2⟩
    · left
      exact ⟨i+1,y,id,by rw [List.find?_cons,hx'];exact h1,by simp only [mkE,idxM,keyEq,if_true,hx',h2,Option.map_some],by simp only [mkE,List.getElem?_cons_succ];exact h3⟩
    · right
      exact ⟨by rw [List.find?_cons,hx'];exact h1,by simp only [mkE,idxM,keyEq,if_true,hx',h2,Option.map_some,Option.map_none]⟩
theorem do_put {h:H} {o om:Nat} {l:List (Int×Nat)} (hg:h.get om=some (.mem (.map (mkE o 0 l) l.length))) (c:Int) (f:Nat) (hn:l.find? (fun y=>c==y.1)=none) :
 aDW h .int (.int .u8 c) (.meth f (.ptr o 0)) (.map om)=some (h.setMem om (.map (mkE o 0 (l ++ [(c,f)])) (l ++ [(c,f)]).length)):=by
 rcases aTM o c l 0 with ⟨i,x,id,h1,_⟩ | ⟨h1,h2⟩
 · rw [h1] at hn;cases hn
 · simp only [aDW,hg,keyEq,if_true,Option.isSome_some,h2]
   rw [aYM];simp
theorem do_get {h:H} {o om:Nat} {l:List (Int×Nat)} (hg:h.get om=some (.mem (.map (mkE o 0 l) l.length))) (c:Int) :
 aCn h .int true .nilf (.int .u8 c) (.map om)=some (match l.find? (fun y=>c==y.1) with | some x => .tup [.meth x.2 (.ptr o 0),.bool true] | none => .tup [.nilf,.bool false]):=by
 rcases aTM o c l 0 with ⟨i,x,id,h1,h2,h3⟩ | ⟨h1,h2⟩
 · simp only [aCn,hg,keyEq,if_true,Option.isSome_some,h1,h2,h3]
 · simp only [aCn,hg,keyEq,if_true,Option.isSome_some,h1,h2]
/-! ### the plain law -/
def signB (c:Nat):Bool := [123,125,40,41,58,44,59,124,38,45,46,35].contains c
/-- what stands at a place: a token, or none; the next place; what is wrong -/
def lexS (s:List UInt8) (i:Nat):Option Tk×Nat×Int :=
 if bt s i=32∨bt s i=9∨bt s i=10 then (none,i+1,0)
 else if bt s i=47 then (if (s.drop i).take 2 = [47,47] then (none,i+(cutS (s.drop i) 10).1.length,0) else (none,i,30))
 else if signB (bt s i)=true then (some (2,(s.drop i).take 1,i),i+1,0)
 else if (wordP s i).1=i then (none,i,30) else if 24<(wordP s i).2 then (none,i,31) else (some (1,(s.drop i).take ((wordP s i).1 - i),i),(wordP s i).1,0)
def lexF (s:List UInt8):Nat→Nat→List Tk→Except (Int×Nat) (List Tk)
 | 0,i,acc => .ok (acc ++ [(3,[],i)])
 | f+1,i,acc=>if i<s.length then (if (lexS s i).2.2=0 then lexF s f (lexS s i).2.1 (acc++(lexS s i).1.toList) else .error ((lexS s i).2.2,i)) else .ok (acc ++ [(3,[],i)])
def lexP (s:List UInt8):Except (Int×Nat) (List Tk) :=
 if 2048<s.length then .error (13,0) else if 0≤aEx s then .error (11,(aEx s).toNat) else lexF s s.length 0 []
/-- what is done at a byte -/
theorem a2N : ∀ c:Nat,c<256→doL.find? (fun y=>(c:Int)==y.1)=if c=32∨c=9∨c=10 then some ((c:Int),aAU) else if c=47 then some ((c:Int),aAh) else if signB c=true then some ((c:Int),aAN) else none:=by
 decide +kernel
theorem aZW (s:List UInt8) (p j:Nat) (h0:0<j) (hj:j<longR s p):128≤bt s (p+j):=by
 unfold longR longV at hj
 by_cases c1:bt s p<128
 · rw [if_pos c1] at hj;omega
 rw [if_neg c1] at hj
 by_cases c2:194≤bt s p∧bt s p≤223
 · rw [if_pos c2] at hj
   by_cases q:p+1<s.length∧128≤bt s (p+1)∧bt s (p+1)≤191
   · rw [if_pos q] at hj
     have:j=1:=by omega
     subst this;exact q.2.1
   · rw [if_neg q] at hj;omega
 rw [if_neg c2] at hj
 by_cases c3:224≤bt s p∧bt s p≤239
 · rw [if_pos c3] at hj
   by_cases q:(p+1<s.length∧(if bt s p=224 then 160 else 128)≤bt s (p+1)∧bt s (p+1)≤(if bt s p=237 then 159 else 191))∧p+2<s.length∧128≤bt s (p+2)∧bt s (p+2)≤191
   · rw [if_pos q] at hj
     have q1:=q.1.2.1
     have q2:128≤bt s (p+1):=by split at q1 <;> omega
     have:j=1∨j=2:=by omega
     rcases this with rfl | rfl
     · exact q2
     · exact q.2.2.1
   · rw [if_neg q] at hj;omega
 rw [if_neg c3] at hj
 by_cases c4:240≤bt s p∧bt s p≤244
 · rw [if_pos c4] at hj
   by_cases q:(p+1<s.length∧(if bt s p=240 then 144 else 128)≤bt s (p+1)∧bt s (p+1)≤(if bt s p=244 then 143 else 191))∧(p+2<s.length∧128≤bt s (p+2)∧bt s (p+2)≤191)∧p+3<s.length∧128≤bt s (p+3)∧bt s (p+3)≤191
   · rw [if_pos q] at hj
     have q1:=q.1.2.1
     have q2:128≤bt s (p+1):=by split at q1 <;> omega
     have:j=1∨j=2∨j=3:=by omega
     rcases this with rfl | rfl | rfl
     · exact q2
     · exact q.2.1.2.1
     · exact q.2.2.2.1
   · rw [if_neg q] at hj;omega
 · rw [if_neg c4] at hj;omega
theorem aXJ (s:List UInt8) : ∀ (f p:Nat),s.length - p≤f→Good s p→p≤s.length→Good s (p+(cutS (s.drop p) 10).1.length)
 | 0,p,hf,g,hp=>by
  have:s.drop p = []:=List.drop_eq_nil_of_le (by omega)
  rw [this];exact g
 | f+1,p,hf,g,hp=>by
  by_cases hp':p<s.length
  case neg =>
   have:s.drop p = []:=List.drop_eq_nil_of_le (by omega)
   rw [this];exact g
  have hl:=g.here hp'
  have hfit:=aHW s p hp'
  have hb0:bt s p=s[p].toNat:=by simp [bt,List.getD_eq_getElem?_getD,hp']
  by_cases h10:s[p]=10
  · have:(cutS (s.drop p) 10).1 = []:=by rw [List.drop_eq_getElem_cons hp',cutS,if_pos h10]
    rw [this];exact g
  · have key : ∀ k,k≤longR s p→p+k≤s.length→(cutS (s.drop p) 10).1.length=k+(cutS (s.drop (p+k)) 10).1.length:=by
     intro k
     induction k with
     | zero=>intro _ _;simp
     | succ k ih =>
      intro h1 h2
      have hk:p+k<s.length:=by omega
      rw [ih (by omega) (by omega),List.drop_eq_getElem_cons hk,cutS]
      have hne:s[p+k]≠10:=by
       rcases Nat.eq_zero_or_pos k with rfl | hk0
       · exact h10
       · intro e
         have hc:128≤bt s (p+k):=by
          exact aZW s p k hk0 (by omega)
         have:bt s (p+k)=s[p+k].toNat:=by simp [bt,List.getD_eq_getElem?_getD,hk]
         rw [this,e] at hc
         exact absurd hc (by decide)
      rw [if_neg hne,← Nat.add_assoc]
      simp only [List.length_cons]
      omega
    rw [key (longR s p) (Nat.le_refl _) hfit,← Nat.add_assoc]
    exact aXJ s f _ (by omega) (g.next hp') hfit
theorem aZi {s:List UInt8} {i:Nat} (g:Good s i) (hi:i<s.length):Good s (lexS s i).2.1∧(lexS s i).2.1≤s.length∧((lexS s i).2.2=0→i<(lexS s i).2.1)∧((lexS s i).2.2≠0→(lexS s i).2.1=i)∧((lexS s i).1.toList.length≤1):=by
 have hl:=g.here hi
 have one:bt s i<128→Good s (i+1):=by
  intro h
  have:=g.next hi
  rwa [aXz h] at this
 unfold lexS
 split
 · rename_i h
   exact ⟨one (by omega),by simp only;omega,by simp,by simp,by simp⟩
 split
 · rename_i h47
   have hcl:=aUn (s.drop i) 10
   simp at hcl
   split
   · rename_i h2
     refine ⟨aXJ s _ i (Nat.le_refl _) g (by omega),by simp only;omega,?_,by simp,by simp⟩
     intro _
     have hb0:bt s i=s[i].toNat:=by simp [bt,List.getD_eq_getElem?_getD,hi]
     have hne : ¬ s[i]=10:=by intro e;rw [hb0,e] at h47;exact absurd h47 (by decide)
     have:0<(cutS (s.drop i) 10).1.length:=by
      rw [List.drop_eq_getElem_cons hi,cutS,if_neg hne];simp
     simp only;omega
   · exact ⟨g,by simp only;omega,by simp,by simp,by simp⟩
 split
 · rename_i h
   refine ⟨one ?_,by simp only;omega,by simp,by simp,by simp⟩
   unfold signB at h
   simp at h
   omega
 have hw:=aMQ s (s.length - i) i (by omega)
 have hw1:i≤(wordP s i).1:=hw.1
 have hw2:(wordP s i).1≤s.length:=hw.2.1
 split
 · exact ⟨g,by simp only;omega,by simp,by simp,by simp⟩
 split
 · exact ⟨g,by simp only;omega,by simp,by simp,by simp⟩
 · exact ⟨g.word _ _,hw2,by simp only;omega,by simp,by simp⟩
end Go.Proofs.YtdbmeidhlijopaaGreatDoor.Ev.C

/- token.All walked. -/
namespace Go.Proofs.YtdbmeidhlijopaaGreatDoor.Ev.C
open Go Go.Proofs.YtdbmeidhlijopaaGreatDoor.Ev
set_option linter.unusedSimpArgs false
set_option linter.unusedVariables false
/-- what is done behind the choice -/
theorem aPH {s:List UInt8} {o j f:Nat} {acc:List Tk} {e:Int} {k:List Fr1} {Q:Post} {z:S} {g:H} (z10:z 10 = .meth f (.ptr o 0)) (z6:z 6 = .ptr o 0)
 (hc:WCall (EL LX) f [.ptr o 0] g (TA s o g j acc e))
 (h0:e=0 → ∀ z' g',TR s o g' j acc 0→TK o g g'→z' 0=z 0→z' 6=z 6→z' 7=z 7→WNext (EL LX) k Q z' g')
 (h1:e≠0 → ∀ z' g',TK o g g'→z' 2 = .nils→z' 3 = .int .i64 e→z' 4 = .int .i64 (j:Int)→Q .ret z' g') :
 WS (EL LX) (.seq (.ops aLK) (.seq (.ops aLH) (.cond (.tmp 73) (.seq (.draw aLE) .ret) .skip))) k Q z g:=by
 refine aAA (aAB ?_)
 simp only [aLK,go_sem,↓reduceIte,Nat.reduceEqDiff,z10,WFn]
 refine hc.mono ?_
 rintro r g' ⟨rfl,R,tk⟩
 have l3:=R.at3
 have l1:=R.at1
 simp only [go_sem,↓reduceIte,Nat.reduceEqDiff]
 refine aAA (aAB ?_)
 simp only [aLH,go_sem,↓reduceIte,Nat.reduceEqDiff,aAC,Nat.zero_add,Nat.add_zero,Nat.reduceAdd,z6,l3]
 refine aAD ?_
 by_cases he:e=0
 · subst he
   simp only [decide_true,Bool.not_true,go_sem,↓reduceIte,Nat.reduceEqDiff,Bool.false_eq_true]
   refine aAF ?_
   exact h0 rfl _ _ R tk rfl (by simp only [go_sem,↓reduceIte,Nat.reduceEqDiff]) rfl
 · simp only [he,decide_false,Bool.not_false,go_sem,↓reduceIte,Nat.reduceEqDiff]
   refine aAA (aAS ?_)
   simp only [aLE,go_sem,↓reduceIte,Nat.reduceEqDiff,aAC,Nat.zero_add,Nat.add_zero,Nat.reduceAdd,wanted,z6,l3,l1,and_self,true_and,List.filter_cons,List.filter_nil,Nat.testBit,Nat.reduceShiftRight,Nat.reduceAnd,Nat.reduceBNe,Bool.not_false,Bool.not_true,Bool.false_eq_true,bne_self_eq_false,WV]
   refine aAE ?_
   exact h1 he _ _ tk rfl rfl rfl
theorem _root_.Go.Proofs.YtdbmeidhlijopaaGreatDoor.Ev.Box.setMem {r o:Nat} {cs:List AV} {h:H} (b:Box r cs h) (hr:r≠o) (X:MObj):Box r cs (h.setMem o X) :=
 ⟨by rw [H.get_setMem,if_neg hr];exact b.get,b.tip,b.live⟩
/-- while the map is made -/
structure Mk (s:List UInt8) (h:H) (g:H) (l:List (Int×Nat)):Prop where
 wf:g.Wf
 box:Box h.n [.str s,.int .i64 0,.nils,.int .i64 0] g
 map:g.get (h.n+1)=some (.mem (.map (mkE h.n 0 l) l.length))
 k:Keep (Old h.n) h g
theorem Mk.put {s:List UInt8} {h g:H} {l:List (Int×Nat)} (M:Mk s h g l) (c:Int) (f:Nat) (hn:l.find? (fun y=>c==y.1)=none) :
 ∃ g',aDW g .int (.int .u8 c) (.meth f (.ptr h.n 0)) (.map (h.n+1))=some g'∧Mk s h g' (l ++ [(c,f)]) ∧ ∀ r cs,r≠h.n+1→Box r cs g→Box r cs g':=by
 have hlt:h.n+1<g.n:=M.wf.ob _ _ M.map
 refine ⟨_,do_put M.map c f hn,⟨(Keep.setX (N:=h.n) (Nat.le_succ _) hlt _).wf M.wf,M.box.setMem (by omega) _,by rw [H.get_setMem,if_pos rfl],M.k.trans (Keep.setX (Nat.le_succ _) hlt _)⟩,fun r cs hr b=>b.setMem hr _⟩
def sgA:List AV := [.int .u8 123,.int .u8 125,.int .u8 40,.int .u8 41,.int .u8 58,.int .u8 44,.int .u8 59,.int .u8 124,.int .u8 38,.int .u8 45,.int .u8 46,.int .u8 35]
theorem a0l:afill (zeros [AV.int .u8 0] (12*1)) [(0,1,.int .u8 123),(1,1,.int .u8 125),(2,1,.int .u8 40),(3,1,.int .u8 41),(4,1,.int .u8 58),(5,1,.int .u8 44),(6,1,.int .u8 59),(7,1,.int .u8 124),(8,1,.int .u8 38),(9,1,.int .u8 45),(10,1,.int .u8 46),(11,1,.int .u8 35)]=some sgA:=rfl
theorem a2y : ∀ k,k<12 → ∃ c:Int,sgA[k]? = some (.int .u8 c)∧(doL.take (4+k)).find? (fun y=>c==y.1)=none∧doL.take (4+(k+1))=doL.take (4+k) ++ [(c,aAN)]:=by
 intro k hk
 have:k=0∨k=1∨k=2∨k=3∨k=4∨k=5∨k=6∨k=7∨k=8∨k=9∨k=10∨k=11:=by omega
 rcases this with rfl | rfl | rfl | rfl | rfl | rfl | rfl | rfl | rfl | rfl | rfl | rfl <;> exact ⟨_,rfl,by decide +kernel,rfl⟩
theorem afillR (s:List UInt8):afill [AV.str [],AV.int .i64 0,AV.nils,AV.int .i64 0] [(0,1,.str s)]=some [AV.str s,AV.int .i64 0,AV.nils,AV.int .i64 0]:=rfl
def AllQ (s:List UInt8) (h:H):AOut→H→Prop:=fun r h'=>Keep (Old h.n) h h'∧match lexP s with
 | .ok l => ∃ v,r = .val (.tup [v,.int .i64 0,.int .i64 0])∧Sl h' 3 v l.length (l.flatMap aBw)∧OwnF h.n h' v
 | .error x=>r = .val (.tup [.nils,.int .i64 x.1,.int .i64 (x.2:Int)])
theorem a1q (s:List UInt8) (hs:s.length<1000000) (h:H) (wf:h.Wf):WCall (EL LX) aN9 [.str s] h (AllQ s h):=by
 refine aAI ((EL_ov _ _).trans rfl) (EL_T aXc) (by simp [aGc]) ?_
 refine aAA (aAB ?_)
 simp only [aRS,go_sem,↓reduceIte,Nat.reduceEqDiff,enterS,List.getD_cons_zero,List.getD_cons_succ]
 refine aAA (aAA (aAB ?_))
 simp only [aR2,go_sem,↓reduceIte,Nat.reduceEqDiff,enterS,List.getD_cons_zero,List.getD_cons_succ,lenTA,Option.map_some]
 refine aAD ?_
 simp only [go_sem,↓reduceIte,Nat.reduceEqDiff]
 by_cases hbig:2048<s.length
 · have hb:(2048:Int)<((s.length:Nat):Int):=by omega
   simp only [hb,decide_true,go_sem,↓reduceIte,Nat.reduceEqDiff]
   refine aAA (aAB ?_)
   simp only [aSG,go_sem,↓reduceIte,Nat.reduceEqDiff]
   refine aAE ?_
   simp only [go_sem,aGc,List.map_cons,List.map_nil,go_sem,↓reduceIte,Nat.reduceEqDiff]
   refine ⟨Keep.refl _ _,?_⟩
   unfold lexP
   rw [if_pos hbig]
   rfl
 have hb : ¬ (2048:Int)<((s.length:Nat):Int):=by omega
 simp only [hb,decide_false,go_sem,↓reduceIte,Nat.reduceEqDiff,Bool.false_eq_true]
 refine aAF ?_
 simp only [go_sem]
 refine aAA (aAA (aAB ?_))
 simp only [aRC,go_sem,↓reduceIte,Nat.reduceEqDiff,enterS,List.getD_cons_zero,List.getD_cons_succ]
 refine txF_at (F:=fun s => .int .i64 (aEx s)) rfl (by omega) ?_
 simp only [go_sem,↓reduceIte,Nat.reduceEqDiff]
 refine aAA (aAB ?_)
 simp only [aRr,go_sem,↓reduceIte,Nat.reduceEqDiff]
 refine aAD ?_
 simp only [go_sem,↓reduceIte,Nat.reduceEqDiff]
 by_cases hbr:0≤aEx s
 · simp only [hbr,decide_true,go_sem,↓reduceIte,Nat.reduceEqDiff]
   refine aAA (aAB ?_)
   simp only [aSJ,go_sem,↓reduceIte,Nat.reduceEqDiff]
   refine aAE ?_
   simp only [go_sem,aGc,List.map_cons,List.map_nil,go_sem,↓reduceIte,Nat.reduceEqDiff]
   refine ⟨Keep.refl _ _,?_⟩
   unfold lexP
   rw [if_neg hbig,if_pos hbr]
   simp only [Int.toNat_of_nonneg hbr]
 simp only [hbr,decide_false,go_sem,↓reduceIte,Nat.reduceEqDiff,Bool.false_eq_true]
 refine aAF ?_
 simp only [go_sem]
 have gd0:=aWG.1 hbr
 refine aAA (aAB ?_)
 simp only [aRA,go_sem,↓reduceIte,Nat.reduceEqDiff,enterS,List.getD_cons_zero,List.getD_cons_succ,parts,List.map_cons,List.map_nil,afillR,Option.map_some,AV.cells]
 have b1:=Box.new wf [AV.str s,.int .i64 0,.nils,.int .i64 0]
 have k1:Keep (Old h.n) h (h.new [AV.str s,.int .i64 0,.nils,.int .i64 0]):=Keep.new (Nat.le_refl _) _
 have hn1:(h.new [AV.str s,.int .i64 0,.nils,.int .i64 0]).n=h.n+1:=rfl
 have wf1:=k1.wf wf
 generalize h.new [AV.str s,.int .i64 0,.nils,.int .i64 0]=h1 at b1 k1 hn1 wf1
 have M0:Mk s h (h1.push (.mem (.map [] 0))) []:=by
  have kp:Keep (Old h1.n) h1 (h1.push (.mem (.map [] 0))):=Keep.pushX (Nat.le_refl _) _
  refine ⟨kp.wf wf1,b1.keep kp (by show h.n<h1.n;omega),?_,k1.trans (kp.less (by omega))⟩
  rw [H.get_push,hn1,if_pos rfl];rfl
 generalize hh2:h1.push (.mem (.map [] 0))=h2 at M0
 obtain ⟨h3,e3,M1,_⟩:=M0.put 32 aAU rfl
 obtain ⟨h4,e4,M2,_⟩:=M1.put 9 aAU rfl
 obtain ⟨h5,e5,M3,_⟩:=M2.put 10 aAU rfl
 obtain ⟨h6,e6,M4,_⟩:=M3.put 47 aAh rfl
 refine aAA (aAB ?_)
 simp only [aRN,go_sem,↓reduceIte,Nat.reduceEqDiff,hn1,hh2,e3,e4,e5,e6,Option.map_some]
 have M4':Mk s h h6 (doL.take (4+0)):=M4
 have b7:=Box.new M4'.wf sgA
 have k7:Keep (Old h6.n) h6 (h6.new sgA):=Keep.new (Nat.le_refl _) _
 have hl6:h.n+1<h6.n:=M4'.wf.ob _ _ M4'.map
 have M7:Mk s h (h6.new sgA) (doL.take (4+0)):=⟨k7.wf M4'.wf,M4'.box.keep k7 (by show h.n<h6.n;omega),by rw [k7.get _ hl6];exact M4'.map,M4'.k.trans (k7.less (by omega))⟩
 have hcv:cvB2BA (h6.new sgA) (.slice h6.n 0 12 1)=some (.slice h6.n 0 12 1):=by simp [cvB2BA,b7.get]
 refine WS_mid (fun z g=>Mk s h g doL∧z 0 = .str s∧z 6 = .ptr h.n 0∧z 7 = .map (h.n+1)) ?_ ?_
 · refine aAA (aAB ?_)
   simp only [aRp,go_sem,↓reduceIte,Nat.reduceEqDiff,parts,List.map_cons,List.map_nil,a0l,hcv,lenSA]
   refine aAG (aAP (fun m z g => ∃ k:Nat,m=12 - k∧k≤12∧Mk s h g (doL.take (4+k))∧Box h6.n sgA g∧z 0 = .str s∧z 6 = .ptr h.n 0∧z 7 = .map (h.n+1)∧z 34 = .slice h6.n 0 12 1∧z 35 = .int .i64 12∧z 36 = .int .i64 (k:Int)) ?_ 12 ?_)
   case refine_2=>exact ⟨0,rfl,by omega,M7,b7,rfl,rfl,rfl,rfl,rfl,rfl⟩
   rintro m z g ⟨k,rfl,hk,M,b,z0,z6,z7,z34,z35,z36⟩
   show WS (EL LX) aPv _ _ _ _
   refine aAA (aAB ?_)
   simp only [aR8,go_sem,↓reduceIte,Nat.reduceEqDiff,z35,z36]
   refine aAA (aAD ?_)
   simp only [go_sem,↓reduceIte,Nat.reduceEqDiff]
   by_cases hk12:k<12
   case neg =>
    have:k=12:=by omega
    subst this
    simp only [show ¬ ((12:Nat):Int)<12 by decide,decide_false,go_sem,↓reduceIte,Nat.reduceEqDiff,Bool.false_eq_true]
    refine aAK ?_
    simp only [go_sem,↓reduceIte,Nat.reduceEqDiff]
    exact ⟨trivial,M,z0,z6,z7⟩
   have hk':(k:Int)<12:=by omega
   simp only [hk',decide_true,go_sem,↓reduceIte,Nat.reduceEqDiff]
   refine aAF ?_
   simp only [go_sem]
   obtain ⟨c,hc,hf,hnext⟩:=a2y k hk12
   have hia:aAJ 1 (.slice h6.n 0 12 1) (.int .i64 (k:Int))=some (.ptr h6.n k):=by
    simp only [aAJ]
    rw [if_pos ⟨trivial,by omega,by omega⟩]
    simp
   have hld:loadA g false 1 (.ptr h6.n k)=some (.int .u8 c):=by rw [b.load];exact hc
   refine aAA (aAG (aAA (aAB ?_)))
   simp only [aQ0,go_sem,↓reduceIte,Nat.reduceEqDiff,z34,z36,hia,hld]
   obtain ⟨g2,eg,Mg,bg⟩:=M.put c aAN hf
   refine aAB ?_
   simp only [aPo,go_sem,↓reduceIte,Nat.reduceEqDiff,z7,z6,eg,Option.map_some]
   have a1:IntKind.i64.wrap ((k:Int)+1)=((k+1:Nat):Int):=wrapI (n:=k+1) (by omega)
   refine aAB ?_
   simp only [aQT,go_sem,↓reduceIte,Nat.reduceEqDiff,z36,a1]
   rw [← hnext] at Mg
   exact ⟨12 - (k+1),by omega,k+1,rfl,by omega,Mg,bg _ _ (by omega) b,z0,z6,z7,z34,z35,rfl⟩
 clear e3 e4 e5 e6 hh2 M0 M1 M2 M3 M4 M4' b7 k7 M7 hcv
 rintro z g ⟨M,z0,z6,z7⟩
 have R0:TR s h.n g 0 [] 0:=⟨M.wf,.nils,M.box,Sl.nil _ _,trivial⟩
 have fin:lexP s=lexF s s.length 0 []:=by unfold lexP;rw [if_neg hbig,if_neg hbr]
 refine aAA (aAG (aAP (fun m z g' => ∃ i acc f,m=s.length - i∧i≤s.length∧acc.length≤i∧s.length - i≤f∧Good s i∧lexP s=lexF s f i acc∧TR s h.n g' i acc 0∧Keep (Old h.n) h g'∧g'.get (h.n+1)=some (.mem (.map (mkE h.n 0 doL) doL.length))∧z 0 = .str s∧z 6 = .ptr h.n 0∧z 7 = .map (h.n+1)) ?_ s.length ?_))
 case refine_2=>exact ⟨0,[],s.length,rfl,Nat.zero_le _,Nat.le_refl _,Nat.le_refl _,gd0,fin,R0,M.k,M.map,z0,z6,z7⟩
 clear R0 M z0 z6 z7
 rintro m z g ⟨i,acc,f,rfl,hi,hacc,hf,gd,hfin,R,kg,hmap,z0,z6,z7⟩
 show WS (EL LX) aPy _ _ _ _
 have l1:=R.at1
 refine aAA (aAA (aAB ?_))
 simp only [aQK,go_sem,↓reduceIte,Nat.reduceEqDiff,aAC,Nat.zero_add,Nat.add_zero,Nat.reduceAdd,z0,z6,l1,lenTA,Option.map_some]
 refine aAD ?_
 simp only [go_sem,↓reduceIte,Nat.reduceEqDiff]
 by_cases hil:i<s.length
 case neg =>
  have hil' : ¬ (i:Int)<((s.length:Nat):Int):=by omega
  simp only [hil',decide_false,go_sem,↓reduceIte,Nat.reduceEqDiff,Bool.false_eq_true]
  refine aAK ?_
  simp only [go_sem,↓reduceIte,Nat.reduceEqDiff]
  have hie:i=s.length:=by omega
  have hend:lexP s = .ok (acc ++ [(3,[],i)]):=by
   rw [hfin]
   cases f with
   | zero=>rfl
   | succ f=>simp only [lexF];rw [if_neg hil]
  refine aAA (aAB ?_)
  simp only [aPj,go_sem,↓reduceIte,Nat.reduceEqDiff,z6]
  refine (aTS R 3 0 (by omega) (by omega) (by omega)).mono ?_
  rintro r g' ⟨rfl,R',tk⟩
  obtain ⟨wf',v,b',sl',own'⟩:=R'
  have l2:loadA g' false 1 (.ptr h.n 2)=some v:=b'.load 1 2
  simp only [go_sem,↓reduceIte,Nat.reduceEqDiff]
  refine aAA (aAB ?_)
  simp only [aQV,go_sem,↓reduceIte,Nat.reduceEqDiff,aAC,Nat.zero_add,Nat.add_zero,Nat.reduceAdd,z6,l2]
  refine aAE ?_
  simp only [go_sem,aGc,List.map_cons,List.map_nil,go_sem,↓reduceIte,Nat.reduceEqDiff]
  refine ⟨kg.trans tk.1,?_⟩
  rw [hend]
  rw [List.take_zero] at sl'
  exact ⟨v,rfl,sl',own'.less (Nat.le_succ _)⟩
 have hil':(i:Int)<((s.length:Nat):Int):=by omega
 simp only [hil',decide_true,go_sem,↓reduceIte,Nat.reduceEqDiff]
 refine aAF ?_
 simp only [go_sem]
 obtain ⟨f,rfl⟩ : ∃ f',f=f'+1:=⟨f - 1,by omega⟩
 have hlex:=aZi gd hil
 have hstep:lexP s=if (lexS s i).2.2=0 then lexF s f (lexS s i).2.1 (acc++(lexS s i).1.toList) else .error ((lexS s i).2.2,i):=by
  rw [hfin];simp only [lexF];rw [if_pos hil]
 have hgm:=do_get hmap (bt s i:Int)
 rw [a2N _ (bt_lt s i)] at hgm
 have hom:Apart [h.n] g (h.n+1):=⟨R.wf.ob _ _ hmap,by simp,fun cs g2 e=>by rw [hmap] at e;cases e⟩
 have F0 : ∀ (z':S) (g':H),(lexS s i).2.2=0→TR s h.n g' (lexS s i).2.1 (acc++(lexS s i).1.toList) 0→TK h.n g g'→z' 0 = .str s→z' 6 = .ptr h.n 0→z' 7 = .map (h.n+1) →
  ∃ m,m<s.length - i ∧ ∃ i acc f,m=s.length - i∧i≤s.length∧acc.length≤i∧s.length - i≤f∧Good s i∧lexP s=lexF s f i acc∧TR s h.n g' i acc 0∧Keep (Old h.n) h g'∧g'.get (h.n+1)=some (.mem (.map (mkE h.n 0 doL) doL.length))∧z' 0 = .str s∧z' 6 = .ptr h.n 0∧z' 7 = .map (h.n+1):=by
  intro z' g' he R' tk q0 q6 q7
  have hlt:=hlex.2.2.1 he
  have hal:=hlex.2.2.2.2
  rw [if_pos he] at hstep
  exact ⟨s.length - (lexS s i).2.1,by omega,_,_,f,rfl,hlex.2.1,by rw [List.length_append];omega,by omega,hlex.1,hstep,R',kg.trans tk.1,by rw [tk.2.get _ hom];exact hmap,q0,q6,q7⟩
 have F1 : ∀ (z':S) (g':H),(lexS s i).2.2≠0→TK h.n g g'→z' 2 = .nils→z' 3 = .int .i64 (lexS s i).2.2→z' 4 = .int .i64 ((lexS s i).2.1:Int)→AllQ s h (.val (.tup [z' 2,z' 3,z' 4])) g':=by
  intro z' g' he tk q2 q3 q4
  rw [if_neg he] at hstep
  rw [q2,q3,q4,hlex.2.2.2.1 he]
  refine ⟨kg.trans tk.1,?_⟩
  rw [hstep]
 have hacc2:acc.length<1000000:=by omega
 have c0:bt s i=32∨bt s i=9∨bt s i=10→WCall (EL LX) aAU [.ptr h.n 0] g (TA s h.n g (lexS s i).2.1 (acc++(lexS s i).1.toList) (lexS s i).2.2):=by
  intro hc
  have:lexS s i=(none,i+1,0):=by unfold lexS;rw [if_pos hc]
  rw [this]
  simp only [Option.toList_none,List.append_nil]
  exact aYW R (by omega)
 have c1 : ¬ (bt s i=32∨bt s i=9∨bt s i=10)→bt s i=47→WCall (EL LX) aAh [.ptr h.n 0] g (TA s h.n g (lexS s i).2.1 (acc++(lexS s i).1.toList) (lexS s i).2.2):=by
  intro hc hc2
  have:lexS s i=if (s.drop i).take 2 = [47,47] then (none,i+(cutS (s.drop i) 10).1.length,0) else (none,i,30):=by unfold lexS;rw [if_neg hc,if_pos hc2]
  rw [this]
  have:=a0R R hi hs
  split at this
  · rename_i h2
    rw [if_pos h2]
    simp only [Option.toList_none,List.append_nil]
    exact this
  · rename_i h2
    rw [if_neg h2]
    simp only [Option.toList_none,List.append_nil]
    exact this
 have c2 : ¬ (bt s i=32∨bt s i=9∨bt s i=10) → ¬ bt s i=47→signB (bt s i)=true→WCall (EL LX) aAN [.ptr h.n 0] g (TA s h.n g (lexS s i).2.1 (acc++(lexS s i).1.toList) (lexS s i).2.2):=by
  intro hc hc2 hc3
  have:lexS s i=(some (2,(s.drop i).take 1,i),i+1,0):=by unfold lexS;rw [if_neg hc,if_neg hc2,if_pos hc3]
  rw [this]
  simp only [Option.toList_some]
  exact aZE R hil hs hacc2
 have c3 : ¬ (bt s i=32∨bt s i=9∨bt s i=10) → ¬ bt s i=47 → ¬ signB (bt s i)=true→WCall (EL LX) aCa [.ptr h.n 0] g (TA s h.n g (lexS s i).2.1 (acc++(lexS s i).1.toList) (lexS s i).2.2):=by
  intro hc hc2 hc3
  have:lexS s i=if (wordP s i).1=i then (none,i,30) else if 24<(wordP s i).2 then (none,i,31) else (some (1,(s.drop i).take ((wordP s i).1 - i),i),(wordP s i).1,0):=by unfold lexS;rw [if_neg hc,if_neg hc2,if_neg hc3]
  rw [this]
  have:=aZ9 R hi hs hacc2 gd
  split at this
  · rename_i h2
    rw [if_pos h2]
    simp only [Option.toList_none,List.append_nil]
    exact this
  rename_i h2
  rw [if_neg h2]
  split at this
  · rename_i h3
    rw [if_pos h3]
    simp only [Option.toList_none,List.append_nil]
    exact this
  · rename_i h3
    rw [if_neg h3]
    simp only [Option.toList_some]
    exact this
 generalize hlx:lexS s i=lx at F0 F1 c0 c1 c2 c3
 clear hlex hstep hlx
 refine aAG (aAA (aAB ?_))
 by_cases q1:bt s i=32∨bt s i=9∨bt s i=10
 · rw [if_pos q1] at hgm
   simp only [aEl,go_sem,↓reduceIte,Nat.reduceEqDiff,aAC,Nat.zero_add,Nat.add_zero,Nat.reduceAdd,aAM,List.getElem?_cons_zero,List.getElem?_cons_succ,z0,z6,z7,l1,bt_idx hil,hgm]
   refine aAA (aAA (aAB ?_))
   simp only [aEp,go_sem,↓reduceIte,Nat.reduceEqDiff]
   refine aAD ?_
   simp only [go_sem,↓reduceIte,Nat.reduceEqDiff,Bool.not_true,Bool.false_eq_true]
   refine aAF ?_
   simp only [go_sem]
   refine aPH (f:=aAU) (o:=h.n) rfl z6 (c0 q1) (fun he z' g' R' tk q0 q6 q7 => ?_) (fun he z' g' tk q2 q3 q4 => ?_)
   · simp only [go_sem]
     exact F0 z' g' he R' tk (q0.trans z0) (q6.trans z6) (q7.trans z7)
   · simp only [go_sem]
     exact F1 z' g' he tk q2 q3 q4
 by_cases q2:bt s i=47
 · rw [if_neg q1,if_pos q2] at hgm
   simp only [aEl,go_sem,↓reduceIte,Nat.reduceEqDiff,aAC,Nat.zero_add,Nat.add_zero,Nat.reduceAdd,aAM,List.getElem?_cons_zero,List.getElem?_cons_succ,z0,z6,z7,l1,bt_idx hil,hgm]
   refine aAA (aAA (aAB ?_))
   simp only [aEp,go_sem,↓reduceIte,Nat.reduceEqDiff]
   refine aAD ?_
   simp only [go_sem,↓reduceIte,Nat.reduceEqDiff,Bool.not_true,Bool.false_eq_true]
   refine aAF ?_
   simp only [go_sem]
   refine aPH (f:=aAh) (o:=h.n) rfl z6 (c1 q1 q2) (fun he z' g' R' tk q0 q6 q7 => ?_) (fun he z' g' tk q2 q3 q4 => ?_)
   · simp only [go_sem]
     exact F0 z' g' he R' tk (q0.trans z0) (q6.trans z6) (q7.trans z7)
   · simp only [go_sem]
     exact F1 z' g' he tk q2 q3 q4
 by_cases q3:signB (bt s i)=true
 · rw [if_neg q1,if_neg q2,if_pos q3] at hgm
   simp only [aEl,go_sem,↓reduceIte,Nat.reduceEqDiff,aAC,Nat.zero_add,Nat.add_zero,Nat.reduceAdd,aAM,List.getElem?_cons_zero,List.getElem?_cons_succ,z0,z6,z7,l1,bt_idx hil,hgm]
   refine aAA (aAA (aAB ?_))
   simp only [aEp,go_sem,↓reduceIte,Nat.reduceEqDiff]
   refine aAD ?_
   simp only [go_sem,↓reduceIte,Nat.reduceEqDiff,Bool.not_true,Bool.false_eq_true]
   refine aAF ?_
   simp only [go_sem]
   refine aPH (f:=aAN) (o:=h.n) rfl z6 (c2 q1 q2 q3) (fun he z' g' R' tk q0 q6 q7 => ?_) (fun he z' g' tk q2 q3 q4 => ?_)
   · simp only [go_sem]
     exact F0 z' g' he R' tk (q0.trans z0) (q6.trans z6) (q7.trans z7)
   · simp only [go_sem]
     exact F1 z' g' he tk q2 q3 q4
 · rw [if_neg q1,if_neg q2,if_neg q3] at hgm
   simp only [aEl,go_sem,↓reduceIte,Nat.reduceEqDiff,aAC,Nat.zero_add,Nat.add_zero,Nat.reduceAdd,aAM,List.getElem?_cons_zero,List.getElem?_cons_succ,z0,z6,z7,l1,bt_idx hil,hgm]
   refine aAA (aAA (aAB ?_))
   simp only [aEp,go_sem,↓reduceIte,Nat.reduceEqDiff]
   refine aAD ?_
   simp only [go_sem,↓reduceIte,Nat.reduceEqDiff,Bool.not_false]
   refine aAB ?_
   simp only [aQL,go_sem,↓reduceIte,Nat.reduceEqDiff,z6]
   refine aPH (f:=aCa) (o:=h.n) rfl z6 (c3 q1 q2 q3) (fun he z' g' R' tk q0 q6 q7 => ?_) (fun he z' g' tk q2 q3 q4 => ?_)
   · simp only [go_sem]
     exact F0 z' g' he R' tk (q0.trans z0) (q6.trans z6) (q7.trans z7)
   · simp only [go_sem]
     exact F1 z' g' he tk q2 q3 q4
end Go.Proofs.YtdbmeidhlijopaaGreatDoor.Ev.C

/- The parser's reader of tokens: what its methods do. -/
namespace Go.Proofs.YtdbmeidhlijopaaGreatDoor.Ev.C
open Go Go.Proofs.YtdbmeidhlijopaaGreatDoor.Ev
set_option linter.unusedSimpArgs false
set_option linter.unusedVariables false
/-- a reader of tokens -/
structure PR (o:Nat) (ts:List Tk) (deep:Nat) (h:H):Prop where
 wf:h.Wf
 ks:KStart h
 ho:2≤o
 fin:EndT ts
 box : ∃ lv,Box o [lv,.int .i64 (deep:Int)] h∧Toks h lv ts∧Slot (Old o) h lv
theorem KStart.keepO {h h':H} (ks:KStart h) {o:Nat} (ho:2≤o) (k:Keep (Old o) h h'):KStart h':=⟨by rw [k.get 0 (by show 0<o;omega)];exact ks.glob,by rw [k.get 1 (by show 1<o;omega)];exact ks.row⟩
theorem PR.keep {o:Nat} {ts:List Tk} {deep:Nat} {h h':H} (R:PR o ts deep h) (k:Keep (Old (o+1)) h h'):PR o ts deep h':=by
 obtain ⟨wf,ks,ho,fin,lv,b,t,s⟩:=R
 have k0:=k.less (Nat.le_succ o)
 exact ⟨k.wf wf,ks.keepO ho k0,ho,fin,lv,b.keep k (Nat.lt_succ_self o),t.keep k0 s,s.keep k0 fun _ q=>q⟩
theorem PR.lt {o:Nat} {ts:List Tk} {deep:Nat} {h:H} (R:PR o ts deep h):o<h.n:=by obtain ⟨wf,ks,ho,fin,lv,b,t,s⟩:=R;exact b.lt wf
def faultV (e:Int×Nat):AV := .iface aEq (.agg [.int .i64 e.1,.int .i64 (e.2:Int)])
/-- what a part of the parser answers -/
def PQ {α:Type} (o deep:Nat) (h:H) (φ:H→AV→α→Prop) (res:PRs α):AOut→H→Prop:=fun r h'=>KeepA [o] h h'∧match res with
 | .ok (a,ts)=>PR o ts deep h' ∧ ∃ v,r = .val v∧φ h' v a
 | .error e=>r = .panic (faultV e)
theorem aGn {o:Nat} {ts:List Tk} {deep:Nat} {h:H} (R:PR o ts deep h) : ∃ t r lv to tj lv',ts=t::r∧loadA h false 1 (.ptr o 0)=some lv∧loadA h false 1 (.ptr o 1)=some (.int .i64 (deep:Int))∧aAJ 3 lv (.int .i64 0)=some (.ptr to tj) ∧
 loadA h false 1 (.ptr to (tj+0))=some (.int .i64 (t.1:Int))∧loadA h false 1 (.ptr to (tj+1))=some (.str t.2.1)∧loadA h false 1 (.ptr to (tj+2))=some (.int .i64 (t.2.2:Int))∧loadA h true 3 (.ptr to tj)=some (.agg (aBw t)) ∧
 aAX 3 (some (.int .i64 1)) none lv=some lv'∧(EndT r → ∃ h',storeA h 1 (.ptr o 0) lv'=some h'∧PR o r deep h'∧KeepA [o] h h'):=by
 obtain ⟨wf,ks,ho,fin,lv,b,tk,s⟩:=R
 cases ts with
 | nil=>exact absurd rfl fin.ne
 | cons t r =>
 obtain ⟨to,tj,e1,e2,e3,e4⟩:=tk.first
 obtain ⟨lv',e5,tk',s'⟩:=tk.rest
 have e6:loadA h true 3 (.ptr to tj)=some (.agg (aBw t)):=by
  obtain ⟨o2,j2,q1,_,q2⟩:=Sl.elem tk (fun x _=>aGe x) (i:=0) (by simp) (by decide) .i64
  have:some (AV.ptr to tj)=some (AV.ptr o2 j2):=by rw [← e1,← q1];rfl
  cases this
  exact q2
 refine ⟨t,r,lv,to,tj,lv',rfl,b.load 1 0,b.load 1 1,e1,e2,e3,e4,e6,e5,fun er => ?_⟩
 have hc:lv'.cells = [lv']∧AV.one lv'=true:=by
  have h1:=tk'.len
  cases lv' <;> simp only [lenSA] at h1 <;> first | (cases h1;done) | exact ⟨rfl,rfl⟩
 obtain ⟨h',e7,b',k⟩:=Box.put wf b (i:=0) (n:=1) (v:=lv') (by rw [hc.1];rfl) (by rw [hc.1];simp [hc.2]) (by simp)
 have ap:Slot (Apart [o] h) h lv':=(s' _ s).apart wf (by have:=b.lt wf;omega) (by simp)
 have kO:Keep (Old o) h h':=k.old wf (by have:=b.lt wf;omega) (by simp)
 rw [hc.1] at b'
 exact ⟨h',e7,⟨k.wf wf,ks.keepO ho kO,ho,er,lv',b',tk'.keep k ap,(s' _ s).keep kO fun _ q=>q⟩,k⟩
theorem aK0 {o:Nat} {ts:List Tk} {deep:Nat} {h:H} (R:PR o ts deep h) (e:Int):WCall (EL LX) aBK [.ptr o 0,.int .i64 e] h fun r h'=>h'=h∧r = .panic (faultV (e,headAt ts)):=by
 obtain ⟨t,r,lv,to,tj,lv',rfl,l0,l1,e1,e2,e3,e4,e5,e6,_⟩:=aGn R
 refine aAI ((EL_ov _ _).trans rfl) (EL_T aQc) (by simp [aJD]) ?_
 refine aAB ?_
 have af : ∀ x y:Int,afill [AV.int .i64 0,AV.int .i64 0] [(0,1,.int .i64 x),(1,1,.int .i64 y)]=some [.int .i64 x,.int .i64 y]:=fun _ _=>rfl
 simp only [aIe,go_sem,↓reduceIte,Nat.reduceEqDiff,enterS,List.getD_cons_zero,List.getD_cons_succ,aAC,Nat.zero_add,Nat.add_zero,l0,e1,e4,parts,List.map_cons,List.map_nil,af,Option.map_some]
 exact ⟨trivial,rfl⟩
theorem aSD (t:Tk) (r:List Tk) (s:T8s):isAt (t.1:Int) t.2.1 s=isNext (t::r) s:=by
 unfold isAt isNext
 have:decide ((t.1:Int)=2)=(t.1==2):=by rw [Bool.eq_iff_iff];simp;omega
 simp only [this]
theorem is_pr {o:Nat} {ts:List Tk} {deep:Nat} {h:H} (R:PR o ts deep h) (s:T8s):WCall (EL LX) aAx [.ptr o 0,.str s] h fun r h'=>h'=h∧r = .val (.bool (isNext ts s)):=by
 obtain ⟨t,r,lv,to,tj,lv',rfl,l0,l1,e1,e2,e3,e4,e5,e6,_⟩:=aGn R
 refine (aW3 (i:=0) R.ks l0 e1 e2 e3).mono ?_
 rintro r' h' ⟨rfl,rfl⟩
 exact ⟨rfl,by rw [aSD]⟩
theorem aHO {o:Nat} {ts:List Tk} {deep:Nat} {h:H} (R:PR o ts deep h) {s:T8s} (hs:s ≠ []):WCall (EL LX) aAW [.ptr o 0,.str s] h fun r h' =>
 r = .val (.bool (isNext ts s))∧PR o (if isNext ts s=true then ts.tail else ts) deep h'∧KeepA [o] h h':=by
 have hfin:=R.fin
 obtain ⟨t,r,lv,to,tj,lv',rfl,l0,l1,e1,e2,e3,e4,e5,e6,hput⟩:=aGn R
 have hp:isNext (t::r) s=true → ∃ h',storeA h 1 (.ptr o 0) lv'=some h'∧PR o r deep h'∧KeepA [o] h h':=fun hn=>hput (hfin.pass hs hn)
 refine (aTz (i:=0) (l':=lv') R.ks l0 e1 e2 e3 (fun ha => ?_)).mono ?_
 · rw [aSD (r:=r)] at ha
   obtain ⟨h',e7,_⟩:=hp ha
   exact ⟨e6,h',e7⟩
 · rintro r' h' ⟨rfl,hst⟩
   rw [aSD (r:=r)] at hst ⊢
   refine ⟨rfl,?_⟩
   by_cases hn:isNext (t::r) s=true
   · rw [if_pos hn] at hst ⊢
     obtain ⟨h2,e7,R2,k2⟩:=hp hn
     have:some h'=some h2:=by rw [← hst,← e7]
     cases this
     exact ⟨R2,k2⟩
   · rw [if_neg hn] at hst ⊢
     subst hst
     exact ⟨R,KeepA.refl _ _⟩
theorem aEv {o:Nat} {ts:List Tk} {deep:Nat} {h:H} (R:PR o ts deep h) {s:T8s} (hs:s ≠ []):WCall (EL LX) aAY [.ptr o 0,.str s] h (PQ o deep h (fun _ v _=>v = .tup []) (needP s ts)):=by
 refine aAI ((EL_ov _ _).trans rfl) (EL_T aQu) (by simp [aFD]) ?_
 refine aAA (aAB ?_)
 simp only [aIt,go_sem,↓reduceIte,Nat.reduceEqDiff,enterS,List.getD_cons_zero,List.getD_cons_succ]
 refine (aHO R hs).mono ?_
 rintro r h1 ⟨rfl,R1,k1⟩
 simp only [go_sem,↓reduceIte,Nat.reduceEqDiff]
 refine aAD ?_
 simp only [go_sem,↓reduceIte,Nat.reduceEqDiff]
 unfold needP
 by_cases hn:isNext ts s=true
 · rw [if_pos hn] at R1 ⊢
   simp only [hn,Bool.not_true,go_sem,↓reduceIte,Nat.reduceEqDiff,Bool.false_eq_true]
   refine aAF ?_
   simp only [go_sem,aFD,List.map_nil]
   exact ⟨k1,R1,_,rfl,rfl⟩
 · rw [if_neg hn] at R1 ⊢
   simp only [hn,Bool.not_false,go_sem,↓reduceIte,Nat.reduceEqDiff]
   refine aAB ?_
   simp only [aI5,go_sem,↓reduceIte,Nat.reduceEqDiff]
   refine (aK0 R1 30).mono ?_
   rintro r h2 ⟨rfl,rfl⟩
   simp only [go_sem,↓reduceIte,Nat.reduceEqDiff]
   exact ⟨k1,rfl⟩
theorem aFm {o:Nat} {ts:List Tk} {deep:Nat} {h:H} (R:PR o ts deep h):WCall (EL LX) aA1 [.ptr o 0] h (PQ o deep h (fun _ v a=>v = .str a) (nameP ts)):=by
 have hfin:=R.fin
 have hon:=R.lt
 obtain ⟨t,r,lv,to,tj,lv',rfl,l0,l1,e1,e2,e3,e4,e5,e6,hput⟩:=aGn R
 refine aAI ((EL_ov _ _).trans rfl) (EL_T aQk) (by simp [aDO]) ?_
 refine aAA (aAB ?_)
 simp only [aHv,go_sem,↓reduceIte,Nat.reduceEqDiff,enterS,List.getD_cons_zero,List.getD_cons_succ]
 refine aAA (aAB ?_)
 simp only [aIN,go_sem,↓reduceIte,Nat.reduceEqDiff,enterS,List.getD_cons_zero,List.getD_cons_succ,aAC,Nat.zero_add,Nat.add_zero,l0,e1,e5]
 obtain ⟨h1,e7,b1,k1⟩:=Box.init R.wf (z := [AV.int .i64 0,.str [],.int .i64 0]) (cs:=aBw t) (n:=3) rfl rfl rfl
 rw [e7]
 have R1:=R.keep (k1.less (by omega))
 have ka1:KeepA [o] h h1:=KeepA.of k1
 have m0:loadA h1 false 1 (.ptr h.n 0)=some (.int .i64 (t.1:Int)):=b1.load 1 0
 have m1:loadA h1 false 1 (.ptr h.n 1)=some (.str t.2.1):=b1.load 1 1
 clear hput
 obtain ⟨t',r',lw,to',tj',lw',ht,l0,l1,e1,e2,e3,e4,e5,e6,hput⟩:=aGn R1
 cases ht
 have done:t.1=1∧isKey t.2.1=false → ∀ z:S,z 0 = .ptr o 0→z 3 = .ptr h.n 0→WS (EL LX) (.seq (.ops aEZ) (.seq (.ops aEM) .ret)) [] (atEnd aDO.results (PQ o deep h (fun _ v a=>v = .str a) (nameP (t::r)))) z h1:=by
  intro hc z z0 z3
  obtain ⟨h2,e8,R2,k2⟩:=hput (hfin.tail (.inl (by rw [hc.1];decide)))
  refine aAA (aAB ?_)
  simp only [aEZ,go_sem,↓reduceIte,Nat.reduceEqDiff,aAC,Nat.zero_add,Nat.add_zero,z0,l0,e6,e8]
  have m1:loadA h2 false 1 (.ptr h.n 1)=some (.str t.2.1):=(b1.keepA R1.wf k2 (by simp;omega)).load 1 1
  refine aAA (aAB ?_)
  simp only [aEM,go_sem,↓reduceIte,Nat.reduceEqDiff,aAC,Nat.zero_add,Nat.add_zero,Nat.reduceAdd,z3,m1]
  refine aAE ?_
  simp only [go_sem,aDO,List.map_cons,List.map_nil,go_sem,↓reduceIte,Nat.reduceEqDiff]
  unfold nameP
  simp only [if_pos hc]
  exact ⟨ka1.trans (k2.weaken fun j hj=>Apart.rk ka1.rk hj),R2,_,rfl,rfl⟩
 have bad : ¬ (t.1=1∧isKey t.2.1=false)→nameP (t::r) = .error (30,headAt (t::r)):=by
  intro hc;unfold nameP;simp only [if_neg hc];rfl
 refine aAA (aAA (aAB ?_))
 by_cases hk:t.1=1
 · have hk':((t.1:Nat):Int)=1:=by omega
   simp only [aES,go_sem,↓reduceIte,Nat.reduceEqDiff,aAC,Nat.zero_add,Nat.add_zero,Nat.reduceAdd,m0,hk',decide_true,wanted,decide_true,decide_false,beq_self_eq_true,pickA,show (false==true)=false from rfl,show (true==false)=false from rfl,Bool.false_eq_true,undefA,Bool.not_true,Bool.not_false,m1]
   refine (aVB R1.ks).mono ?_
   rintro _ h2 ⟨rfl,rfl⟩
   simp only [go_sem,↓reduceIte,Nat.reduceEqDiff,wanted,decide_true,decide_false,beq_self_eq_true,pickA,show (false==true)=false from rfl,show (true==false)=false from rfl,Bool.false_eq_true,undefA,Bool.not_true,Bool.not_false]
   refine aAD ?_
   cases hkey:isKey t.2.1
   · simp only [go_sem,↓reduceIte,Nat.reduceEqDiff,Bool.false_eq_true]
     refine aAF ?_
     simp only [go_sem]
     exact done ⟨hk,hkey⟩ _ rfl rfl
   · simp only [go_sem,↓reduceIte,Nat.reduceEqDiff]
     refine aAB ?_
     simp only [aEe,go_sem,↓reduceIte,Nat.reduceEqDiff]
     refine (aK0 R1 30).mono ?_
     rintro _ h3 ⟨rfl,rfl⟩
     simp only [go_sem,↓reduceIte,Nat.reduceEqDiff]
     rw [bad (by rw [hkey];simp)]
     exact ⟨ka1,rfl⟩
 · have hk' : ¬ ((t.1:Nat):Int)=1:=by omega
   simp only [aES,go_sem,↓reduceIte,Nat.reduceEqDiff,aAC,Nat.zero_add,Nat.add_zero,Nat.reduceAdd,m0,hk',decide_false,wanted,decide_true,decide_false,beq_self_eq_true,pickA,show (false==true)=false from rfl,show (true==false)=false from rfl,Bool.false_eq_true,undefA,Bool.not_true,Bool.not_false]
   refine aAD ?_
   simp only [go_sem,↓reduceIte,Nat.reduceEqDiff]
   refine aAB ?_
   simp only [aEe,go_sem,↓reduceIte,Nat.reduceEqDiff]
   refine (aK0 R1 30).mono ?_
   rintro _ h3 ⟨rfl,rfl⟩
   simp only [go_sem,↓reduceIte,Nat.reduceEqDiff]
   rw [bad (by simp [hk])]
   exact ⟨ka1,rfl⟩
/-! ### the sign between parts -/
theorem a0Y {n0:Nat} {h1 h2:H} (w:Weak n0 h1 h2):Keep (Old n0) h2 h1:=by
 refine ⟨fun wf=>⟨?_,?_,?_,?_,?_⟩,Nat.le_of_eq w.n,fun o ho => ?_,fun g _=>(w.tip g).symm,fun g _=>(w.kill g).symm⟩
 · intro g p e;rw [← w.n];exact wf.gr g p (by rw [w.gr];exact e)
 · intro o cs g e
   have:=wf.mem o cs g (w.cells e)
   rw [w.tip] at this;exact this
 · intro o x e
   rw [← w.n]
   rcases w.ob o with q | ⟨_,q,_⟩
   · exact wf.ob o x (by rw [q];exact e)
   · exact wf.ob o _ q
 · intro g p e;exact wf.kt g p (by rw [w.gr];exact e)
 · intro g hg;rw [← w.n] at hg ⊢;have:=wf.tl g hg;rw [w.tip] at this;exact this
 · rcases w.ob o with q | ⟨q,_⟩
   · exact q.symm
   · exact absurd ho (by show ¬ o<n0;omega)
theorem a3K (t:T8s):((sgn t).toNat:Int)=sgn t:=by
 unfold sgn;split;rfl;split;rfl;split <;> rfl
theorem slice1 {to tj L:Nat} (hL:0<L):aAX 3 (some (.int .i64 1)) none (.slice to tj L 3)=some (.slice to (tj+3) (L - 1) 3):=by
 have:(1:Int)≤(L:Int):=by omega
 simp [aAX,bounds,this]
theorem aYT {o:Nat} {ts:List Tk} {deep:Nat} {h:H} (R:PR o ts deep h):WCall (EL LX) aAc [.ptr o 0] h fun r h' =>
 r = .val (.int .i64 (sgnP ts:Int))∧PR o (if sgnP ts=0 then ts else ts.tail) deep h'∧KeepA [o] h h':=by
 have hfin:=R.fin
 have hon:=R.lt
 obtain ⟨wf,ks,ho,_,lv,b,tk,sl⟩:=R
 cases ts with
 | nil=>exact absurd rfl hfin.ne
 | cons t r =>
 obtain ⟨to,tj,row,rfl,ea,hrow,hle,hcs⟩:=Sl.addr tk (i:=0) (by simp) (by decide) .i64
 have R:PR o (t::r) deep h:=⟨wf,ks,ho,hfin,_,b,tk,sl⟩
 have hto:to<o:=sl.1
 obtain ⟨to2,tj2,e1,e2,e3,_⟩:=tk.first
 have hx:some (AV.ptr to2 tj2)=some (AV.ptr to tj):=by rw [← e1];simpa using ea
 cases hx
 have c0:row[tj]? = some (.int .i64 (t.1:Int)):=by simpa [loadA,hrow] using e2
 have c1:row[tj+1]? = some (.str t.2.1):=by simpa [loadA,hrow] using e3
 have kp:Keep (Old h.n) h ((h.push .other).push .other):=(Keep.push (by simp)).trans ((Keep.push (by simp)).less (by show h.n≤h.n+1;omega))
 have R2:=R.keep (kp.less (by omega))
 have hv:(sgnP (t::r):Int)=if (t.1:Int)=2 then sgn t.2.1 else 0:=by
  unfold sgnP
  simp only
  by_cases h2:t.1=2
  · rw [if_pos h2,if_pos (by omega),a3K]
  · rw [if_neg h2,if_neg (by omega)];rfl
 have hgo : ∃ h',signG [.ptr o 0] h=some (.val (.int .i64 (sgnP (t::r):Int)),h')∧PR o (if sgnP (t::r)=0 then t::r else r) deep h'∧KeepA [o] h h':=by
  unfold signG
  have hst:(startB g_token_keys 4 (aBU keysL) h&&decide (2≤h.n∧o<h.n))=true:=by
   rw [aVD ks];simp;omega
  simp only
  rw [if_pos hst]
  simp only [b.row,List.getElem?_cons_zero]
  rw [if_neg (by simp;omega)]
  simp only [hrow,c0,c1]
  rw [← hv]
  by_cases h0:sgnP (t::r)=0
  · rw [if_pos h0,if_pos (by omega)]
    rw [h0]
    exact ⟨_,rfl,R2,KeepA.of kp⟩
  · rw [if_neg h0,if_neg (by omega)]
    obtain ⟨t',r',lw,to',tj',lw',ht,l0,l1,q1,q2,q3,q4,q5,q6,hput⟩:=aGn R2
    cases ht
    obtain ⟨h3,e7,R3,k3⟩:=hput (aOz hfin h0).1
    have b2:=b.keep kp hon
    have:some lw=some (AV.slice to tj (t::r).length 3):=by rw [← l0,b2.load];rfl
    cases this
    have L4:aAX 3 (some (.int .i64 1)) none (.slice to tj (t::r).length 3)=some (.slice to (tj+3) ((t::r).length - 1) 3):=slice1 (by simp)
    rw [L4] at q6
    cases q6
    have e8:((h.push .other).push .other).put o 0 [.slice to (tj+3) ((t::r).length - 1) 3]=some h3:=by
     have:=e7
     rw [storeA,if_pos ⟨rfl,rfl⟩] at this
     exact this
    rw [e8]
    exact ⟨h3,rfl,R3,(KeepA.of kp).trans (k3.weaken fun j hj=>Apart.rk (KeepA.of kp:KeepA [o] h _).rk hj)⟩
 obtain ⟨h',hg,R',k'⟩:=hgo
 refine (a0f hg).mono ?_
 rintro r1 h1 ⟨rfl,w⟩
 have kw:=a0Y w
 exact ⟨rfl,R'.keep (kw.less (by omega)),k'.trans (kw.weaken fun j hj=>hj.1)⟩
end Go.Proofs.YtdbmeidhlijopaaGreatDoor.Ev.C

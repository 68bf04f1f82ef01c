/- A schema is copied (doormanlaw10.of): the copy lists the same. -/
import Derived.Test.YtdbmeidhlijopaaGreatDoorTS2
import Derived.Test.YtdbmeidhlijopaaGreatDoorTD
import Derived.Test.YtdbmeidhlijopaaGreatDoorTT2
import Derived.Test.YtdbmeidhlijopaaGreatDoorTE
namespace Go.Proofs.YtdbmeidhlijopaaGreatDoor.Ev.C
open Go Go.Proofs.YtdbmeidhlijopaaGreatDoor.Ev
set_option linter.unusedVariables false
set_option linter.unusedSimpArgs false
def Same (z s:S):Prop:=s 1=z 1∧s 3=z 3∧s 4=z 4∧s 5=z 5∧s 6=z 6∧s 7=z 7∧s 8=z 8
theorem Same.upd {z s:S} (a:Same z s) {t:Nat} (v:AV) (ht:9≤t):Same z (upd s (some t) v):=by
 obtain ⟨a1,a2,a3,a4,a5,a6,a7⟩:=a
 refine ⟨?_,?_,?_,?_,?_,?_,?_⟩ <;> simp only [go_sem] <;> rw [if_neg (by omega)] <;> assumption
theorem a2R (x:OpD):opC x = [.int .i64 (x.1:Int),.str x.2.1,.str x.2.2]:=rfl
theorem a0n (x:SubD):subC x = [.str x.1,.str x.2]:=rfl
theorem afSubs (a b:T8s):afill [AV.str [],.str []] [(0,1,.str a),(1,1,.str b)]=some [.str a,.str b]:=rfl
theorem afOps (k:Int) (a b:T8s):afill [AV.int .i64 0,.str [],.str []] [(0,1,.int .i64 k),(1,1,.str a),(2,1,.str b)]=some [.int .i64 k,.str a,.str b]:=rfl
theorem afOps1 (x y z:AV):afill (zeros [AV.int .i64 0,.str [],.str []] (1*3)) [(0,3,.agg [x,y,z])]=some [x,y,z]:=rfl
/-- a variable's field takes a list that grew by one record -/
theorem grow {α:Type} {f:α→List AV} {es:Nat} (hf : ∀ x,(f x).length=es) (h1 : ∀ x,(f x).all AV.one=true) {N br i:Nat} {g:H} {cs:List AV} {v:AV} {l:List α} (wg:g.Wf) (hN:N≤g.n) (hb:br<N) (b:Box br cs g) (hi:i<cs.length) (fl:FL f es N g v l) (x:α) (hbig:l.length+1<4294967296) :
 ∃ v' g1 g2,aCd (g.new (f x)) es v (.slice g.n 0 1 es)=some (v',g1)∧storeA g1 1 (.ptr br i) v'=some g2∧Box br (splice cs i [v']) g2∧FL f es N g2 v' (l ++ [x])∧g2.Wf ∧
  (∀ {h:H},h.Wf→h.n=N→KeepA [br] h g→KeepA [br] h g2)∧Box br cs (g.new (f x)):=by
 have kn:Keep (Old g.n) g (g.new (f x)):=Keep.new (Nat.le_refl _) _
 obtain ⟨v',g1,e,fl1,k1,_,wf1⟩:=FL.push hf h1 wg hN fl x hbig
 have b1:=b.keep k1 hb
 obtain ⟨g2,ep,b2,k2⟩:=Box.put wf1 b1 (i:=i) (n:=1) (v:=v') (by rw [fl1.2.cells.1];rfl) (by rw [fl1.2.cells.1];simp [fl1.2.cells.2]) (by omega)
 rw [fl1.2.cells.1] at b2
 refine ⟨v',g1,g2,e,ep,b2,fl1.keepA wf1 (by simp;omega) k2,k2.wf wf1,fun {h} wh hn k => ?_,b.keep kn (b.lt wg)⟩
 exact KeepA.then wh (k.stepN k1 (Nat.le_of_eq hn)) k2 (by simp)
theorem a2d {hb g0:H} {cs0:List AV} {isv:AV} {n1 n2 n3 n4:T8s} {l:List SubD} {bx br:Nat} {z:S} {k:List Fr1} {Q:Post} (w0:g0.Wf) (hlt:bx≠br) (b7:Box bx cs0 g0) (hc0:cs0[4]? = some isv) (b8:Box br [.str n1,.str n2,.str n3,.str n4,.nils,.nils] g0)
 (ils:IsL 0 2 (fun _ cs x=>cs=subC x) hb isv l) (rkh : ∀ g,KeepA [br] g0 g→RK (Old hb.n) hb g) (hl:l.length<1000000) (z7:z 7 = .ptr bx 0) (z8:z 8 = .ptr br 0) (z9:z 9 = .int .i64 0)
 (fini : ∀ s g sv,KeepA [br] g0 g→Box br [.str n1,.str n2,.str n3,.str n4,sv,.nils] g→FL subC 2 g0.n g sv l→Same z s→WNext (EL LX) k Q s g) :
 WS (EL LX) (.block 4 (.loop aJi)) k Q z g0:=by
 have hbr:=b8.lt w0
 refine aBZ (n:=l.length) (i0:=0) (by omega) (fun j s g=>KeepA [br] g0 g∧(∃ sv,Box br [.str n1,.str n2,.str n3,.str n4,sv,.nils] g∧FL subC 2 g0.n g sv (l.take j))∧Same z s) (by decide) ?_ z9 (Nat.zero_le _) ⟨KeepA.refl _ _,⟨.nils,b8,FL.nil _ _ _ _⟩,rfl,rfl,rfl,rfl,rfl,rfl,rfl⟩ ?_ ?_ ?_
 · rintro j s g t v (rfl | rfl | rfl) ⟨a,b,c⟩ <;> exact ⟨a,b,c.upd v (by decide)⟩
 · rintro j s g hj ⟨kg,bb,hs⟩ s9
   have y7:=hs.2.2.2.2.2.1.trans z7
   have b7':=b7.keepA w0 kg (by simpa using hlt)
   have u4:loadA g false 1 (.ptr bx 4)=some isv:=(b7'.load 1 4).trans hc0
   refine aAB ?_
   simp only [aJV,go_sem,↓reduceIte,Nat.reduceEqDiff,aAC,Nat.zero_add,Nat.add_zero,Nat.reduceAdd,s9,y7,u4,ils.len,decI]
   exact ⟨⟨kg,bb,hs⟩,trivial,trivial⟩
 · rintro j s g hj ⟨kg,⟨sv,b,fl⟩,hs⟩ s9
   have wg:=kg.wf w0
   have y7:=hs.2.2.2.2.2.1.trans z7
   have y8:=hs.2.2.2.2.2.2.trans z8
   have b7g:=b7.keepA w0 kg (by simpa using hlt)
   obtain ⟨so,si,cs,sa,slen,hcs,sl⟩:=IsL.el ils hj (by decide)
   subst hcs
   have htk:l.take (j+1)=l.take j ++ [l[j]]:=by rw [List.take_add_one,List.getElem?_eq_getElem hj];rfl
   obtain ⟨v',g1,g2,e1,e2,b2,fl2,w2,kk,bn⟩:=grow aHA aWw wg kg.n hbr b (i:=4) (by simp) fl l[j] (by simp;omega)
   generalize l[j]=x at *
   have kn:Keep (Old g.n) g (g.new (subC x)):=Keep.new (Nat.le_refl _) _
   have rk1:=rkh g kg
   have rk2:RK (Old hb.n) hb (g.new (subC x)):=rkh _ (kg.stepN kn kg.n)
   have b7n:=b7g.keep kn (b7g.lt wg)
   have u4:loadA g false 1 (.ptr bx 4)=some isv:=(b7g.load 1 4).trans hc0
   have u4n:loadA (g.new (subC x)) false 1 (.ptr bx 4)=some isv:=(b7n.load 1 4).trans hc0
   have t4:loadA g false 1 (.ptr br 4)=some sv:=b.load 1 4
   have t4n:loadA (g.new (subC x)) false 1 (.ptr br 4)=some sv:=bn.load 1 4
   have x0:loadA g false 1 (.ptr so si)=some (.str x.1):=by have:=(sl g rk1).2 0 (by decide);rw [Nat.add_zero] at this;exact this
   have x1:loadA g false 1 (.ptr so (si+1))=some (.str x.2):=(sl g rk1).2 1 (by decide)
   have x0n:loadA (g.new (subC x)) false 1 (.ptr so si)=some (.str x.1):=by have:=(sl _ rk2).2 0 (by decide);rw [Nat.add_zero] at this;exact this
   have x1n:loadA (g.new (subC x)) false 1 (.ptr so (si+1))=some (.str x.2):=(sl _ rk2).2 1 (by decide)
   simp only [a0n] at e1 u4n t4n x0n x1n
   refine aAS ?_
   simp only [aIx,go_sem,↓reduceIte,Nat.reduceEqDiff,aAC,Nat.zero_add,Nat.add_zero,Nat.reduceAdd,y7,y8,s9,u4,t4,sa,x0,x1,u4n,t4n,x0n,x1n,parts,List.map_cons,List.map_nil,afSubs,afSub1,Option.map_some,e1,e2,wanted,and_self,true_and,List.filter_cons,List.filter_nil,Nat.testBit,Nat.reduceShiftRight,Nat.reduceAnd,Nat.reduceBNe,Bool.not_false,Bool.not_true,Bool.false_eq_true,bne_self_eq_false]
   refine ⟨⟨kk w0 rfl kg,⟨v',b2,by rw [htk];exact fl2⟩,hs⟩,trivial⟩
 · rintro s g ⟨kg,⟨sv,b,fl⟩,hs⟩
   rw [List.take_length] at fl
   exact fini s g sv kg b fl hs
theorem of_ops {hb g0:H} {cs0:List AV} {iov:AV} {SV:AV} {n1 n2 n3 n4:T8s} {l:List OpD} {bx br:Nat} {z:S} {k:List Fr1} {Q:Post} (w0:g0.Wf) (hlt:bx≠br) (b7:Box bx cs0 g0) (hc0:cs0[5]? = some iov) (b8:Box br [.str n1,.str n2,.str n3,.str n4,SV,.nils] g0)
 (ils:IsL 0 3 (fun _ cs x=>cs=opC x) hb iov l) (rkh : ∀ g,KeepA [br] g0 g→RK (Old hb.n) hb g) (hl:l.length<1000000) (z7:z 7 = .ptr bx 0) (z8:z 8 = .ptr br 0) (z9:z 10 = .int .i64 0)
 (fini : ∀ s g ov,KeepA [br] g0 g→Box br [.str n1,.str n2,.str n3,.str n4,SV,ov] g→FL opC 3 g0.n g ov l→Same z s→WNext (EL LX) k Q s g) :
 WS (EL LX) (.block 6 (.loop aJS)) k Q z g0:=by
 have hbr:=b8.lt w0
 refine aBZ (n:=l.length) (i0:=0) (by omega) (fun j s g=>KeepA [br] g0 g∧(∃ ov,Box br [.str n1,.str n2,.str n3,.str n4,SV,ov] g∧FL opC 3 g0.n g ov (l.take j))∧Same z s) (by decide) ?_ z9 (Nat.zero_le _) ⟨KeepA.refl _ _,⟨.nils,b8,FL.nil _ _ _ _⟩,rfl,rfl,rfl,rfl,rfl,rfl,rfl⟩ ?_ ?_ ?_
 · rintro j s g t v (rfl | rfl | rfl) ⟨a,b,c⟩ <;> exact ⟨a,b,c.upd v (by decide)⟩
 · rintro j s g hj ⟨kg,bb,hs⟩ s9
   have y7:=hs.2.2.2.2.2.1.trans z7
   have b7':=b7.keepA w0 kg (by simpa using hlt)
   have u4:loadA g false 1 (.ptr bx 5)=some iov:=(b7'.load 1 5).trans hc0
   refine aAB ?_
   simp only [aJK,go_sem,↓reduceIte,Nat.reduceEqDiff,aAC,Nat.zero_add,Nat.add_zero,Nat.reduceAdd,s9,y7,u4,ils.len,decI]
   exact ⟨⟨kg,bb,hs⟩,trivial,trivial⟩
 · rintro j s g hj ⟨kg,⟨ov,b,fl⟩,hs⟩ s9
   have wg:=kg.wf w0
   have y7:=hs.2.2.2.2.2.1.trans z7
   have y8:=hs.2.2.2.2.2.2.trans z8
   have b7g:=b7.keepA w0 kg (by simpa using hlt)
   obtain ⟨so,si,cs,sa,slen,hcs,sl⟩:=IsL.el ils hj (by decide)
   subst hcs
   have htk:l.take (j+1)=l.take j ++ [l[j]]:=by rw [List.take_add_one,List.getElem?_eq_getElem hj];rfl
   obtain ⟨v',g1,g2,e1,e2,b2,fl2,w2,kk,bn⟩:=grow aLh aUl wg kg.n hbr b (i:=5) (by simp) fl l[j] (by simp;omega)
   generalize l[j]=x at *
   have kn:Keep (Old g.n) g (g.new (opC x)):=Keep.new (Nat.le_refl _) _
   have rk1:=rkh g kg
   have rk2:RK (Old hb.n) hb (g.new (opC x)):=rkh _ (kg.stepN kn kg.n)
   have b7n:=b7g.keep kn (b7g.lt wg)
   have u4:loadA g false 1 (.ptr bx 5)=some iov:=(b7g.load 1 5).trans hc0
   have u4n:loadA (g.new (opC x)) false 1 (.ptr bx 5)=some iov:=(b7n.load 1 5).trans hc0
   have t4:loadA g false 1 (.ptr br 5)=some ov:=b.load 1 5
   have t4n:loadA (g.new (opC x)) false 1 (.ptr br 5)=some ov:=bn.load 1 5
   have x0:loadA g false 1 (.ptr so si)=some (.int .i64 (x.1:Int)):=by have:=(sl g rk1).2 0 (by decide);rw [Nat.add_zero] at this;exact this
   have x1:loadA g false 1 (.ptr so (si+1))=some (.str x.2.1):=(sl g rk1).2 1 (by decide)
   have x2:loadA g false 1 (.ptr so (si+2))=some (.str x.2.2):=(sl g rk1).2 2 (by decide)
   have x0n:loadA (g.new (opC x)) false 1 (.ptr so si)=some (.int .i64 (x.1:Int)):=by have:=(sl _ rk2).2 0 (by decide);rw [Nat.add_zero] at this;exact this
   have x1n:loadA (g.new (opC x)) false 1 (.ptr so (si+1))=some (.str x.2.1):=(sl _ rk2).2 1 (by decide)
   have x2n:loadA (g.new (opC x)) false 1 (.ptr so (si+2))=some (.str x.2.2):=(sl _ rk2).2 2 (by decide)
   simp only [a2R] at e1 u4n t4n x0n x1n x2n
   refine aAS ?_
   simp only [aJL,go_sem,↓reduceIte,Nat.reduceEqDiff,aAC,Nat.zero_add,Nat.add_zero,Nat.reduceAdd,y7,y8,s9,u4,t4,sa,x0,x1,u4n,t4n,x0n,x2,x2n,x1n,parts,List.map_cons,List.map_nil,afOps,afOps1,Option.map_some,e1,e2,wanted,and_self,true_and,List.filter_cons,List.filter_nil,Nat.testBit,Nat.reduceShiftRight,Nat.reduceAnd,Nat.reduceBNe,Bool.not_false,Bool.not_true,Bool.false_eq_true,bne_self_eq_false]
   refine ⟨⟨kk w0 rfl kg,⟨v',b2,by rw [htk];exact fl2⟩,hs⟩,trivial⟩
 · rintro s g ⟨kg,⟨ov,b,fl⟩,hs⟩
   rw [List.take_length] at fl
   exact fini s g ov kg b fl hs
end Go.Proofs.YtdbmeidhlijopaaGreatDoor.Ev.C

/- A schema is copied (doormanlaw10.of): relations, then types. -/
namespace Go.Proofs.YtdbmeidhlijopaaGreatDoor.Ev.C
open Go Go.Proofs.YtdbmeidhlijopaaGreatDoor.Ev
set_option linter.unusedVariables false
set_option linter.unusedSimpArgs false
theorem af64 (a b c d:T8s):afill [AV.str [],.str [],.str [],.str [],.nils,.nils] [(0,1,.str a),(1,1,.str b),(2,1,.str c),(3,1,.str d)]=some [.str a,.str b,.str c,.str d,.nils,.nils]:=rfl
theorem OwnF.old {N:Nat} {h h':H} {v:AV} (wf:h.Wf) (a:OwnF N h v) (k:Keep (Old h.n) h h'):OwnF N h' v:=a.keep (((a.rd wf).slotA (gs := []) (by simp)).mono fun j q=>q.1) k
theorem IsRelL.old {N:Nat} {h h':H} {v:AV} {l:List RelD} (a:IsL N 6 (IsRel N) h v l) (k:RK (Old h.n) h h'):IsL N 6 (IsRel N) h' v l:=IsL.rk a (gs := []) (by simp) k.apart fun cs x q=>q.rk (gs := []) (by simp) k.apart
theorem a2I {hb gT:H} {w rvi:AV} {nm:T8s} {rels:List RelD} {r1 bt i to ti:Nat} {z:S} {k:List Fr1} {Q:Post} (wT:gT.Wf) (h1t:r1<bt) (b1:Box r1 [w] gT) (bb:Box bt [.str nm,.nils] gT)
 (il:IsL 0 6 (IsRel 0) hb rvi rels) (rkh : ∀ g,KeepA [bt] gT g→RK (Old hb.n) hb g) (sm:rels.length<1000000 ∧ ∀ r∈rels,r.subs.length<1000000∧r.ops.length<1000000)
 (ta:aAJ 2 w (.int .i64 (i:Int))=some (.ptr to ti)) (trels : ∀ g,KeepA [bt] gT g→loadA g false 1 (.ptr to (ti+1))=some rvi)
 (z1:z 1 = .ptr r1 0) (z4:z 4 = .int .i64 (i:Int)) (z5:z 5 = .ptr bt 0) (z6:z 6 = .int .i64 0)
 (fini : ∀ s g rv,KeepA [bt] gT g→Box bt [.str nm,rv] g→IsL gT.n 6 (IsRel gT.n) g rv rels→s 1=z 1→s 3=z 3→s 4=z 4→s 5=z 5→WNext (EL LX) k Q s g) :
 WS (EL LX) (.block 2 (.loop aJX)) k Q z gT:=by
 have hbt:=bb.lt wT
 refine aBZ (n:=rels.length) (i0:=0) (by omega) (fun q s g=>KeepA [bt] gT g∧(∃ rv,Box bt [.str nm,rv] g∧IsL gT.n 6 (IsRel gT.n) g rv (rels.take q)∧OwnF gT.n g rv)∧s 1=z 1∧s 3=z 3∧s 4=z 4∧s 5=z 5) (by decide) ?_ z6 (Nat.zero_le _) ⟨KeepA.refl _ _,⟨.nils,bb,IsL.nil _ _ _ _,trivial⟩,rfl,rfl,rfl,rfl⟩ ?_ ?_ ?_
 · rintro q s g t v (rfl | rfl | rfl) ⟨a1,a2,a3,a4,a5,a6⟩ <;> exact ⟨a1,a2,a3,a4,a5,a6⟩
 · rintro q s g hq ⟨kg,ex,s1,s3,s4,s5⟩ s6
   have l1:loadA g false 1 (.ptr r1 0)=some w:=(b1.keepA wT kg (by simp;omega)).load 1 0
   have y1:=s1.trans z1
   have y4:=s4.trans z4
   refine aAB ?_
   simp only [aKg,go_sem,↓reduceIte,Nat.reduceEqDiff,aAC,Nat.zero_add,Nat.add_zero,Nat.reduceAdd,s6,y1,y4,l1,ta,trels g kg,il.len,decI]
   exact ⟨⟨kg,ex,z1.symm,s3,z4.symm,s5⟩,trivial,trivial⟩
 · rintro q s g hq ⟨kg,⟨rv,bt1,ir1,ow1⟩,s1,s3,s4,s5⟩ s6
   have wg:=kg.wf wT
   have bx1:=b1.keepA wT kg (by simp;omega)
   have l1:loadA g false 1 (.ptr r1 0)=some w:=bx1.load 1 0
   have y1:=s1.trans z1
   have y4:=s4.trans z4
   have y5:=s5.trans z5
   have htk:rels.take (q+1)=rels.take q ++ [rels[q]]:=by rw [List.take_add_one,List.getElem?_eq_getElem hq];rfl
   have smr:=sm.2 _ (List.getElem_mem hq)
   obtain ⟨ro,ri,rcs,ra,rlen,ir,rl⟩:=IsL.el il hq (by decide)
   generalize rels[q]=r at *
   have rone:=ir.one
   obtain ⟨sv,ov,rfl,⟨sls,srd⟩,osl,ord⟩:=ir
   have ilo:IsL 0 3 (fun _ cs x=>cs=opC x) hb ov r.ops:=IsL.of_flat aLh osl ord
   have ils:IsL 0 2 (fun _ cs x=>cs=subC x) hb sv r.subs:=IsL.of_flat aHA sls srd
   have hng:=kg.n
   -- the variable of the relation that is read
   obtain ⟨g1,p1,c1,kk1⟩:=Box.init wg (z := [AV.str [],.str [],.str [],.str [],.nils,.nils]) (cs := [.str r.name,.str r.view,.str r.edit,.str r.check,sv,ov]) (n:=6) rfl rfl rone.2
   have wg1:=kk1.wf wg
   refine aAA (aAB ?_)
   simp only [aKv,go_sem,↓reduceIte,Nat.reduceEqDiff,aAC,Nat.zero_add,Nat.add_zero,Nat.reduceAdd,s6,y1,y4,l1,ta,trels g kg,ra,(rl g (rkh g kg)).1,p1]
   have n1:=kk1.n
   have hc1:=c1.lt wg1
   have f0:loadA g1 false 1 (.ptr g.n 0)=some (.str r.name):=c1.load 1 0
   have f1:loadA g1 false 1 (.ptr g.n 1)=some (.str r.view):=c1.load 1 1
   have f2:loadA g1 false 1 (.ptr g.n 2)=some (.str r.edit):=c1.load 1 2
   have f3:loadA g1 false 1 (.ptr g.n 3)=some (.str r.check):=c1.load 1 3
   -- the variable of the relation that is made
   obtain ⟨g2,p2,c2,kk2⟩:=Box.init wg1 (z := [AV.str [],.str [],.str [],.str [],.nils,.nils]) (cs := [.str r.name,.str r.view,.str r.edit,.str r.check,.nils,.nils]) (n:=6) rfl rfl rfl
   have wg2:=kk2.wf wg1
   refine aAA (aAB ?_)
   simp only [aKb,go_sem,↓reduceIte,Nat.reduceEqDiff,aAC,Nat.zero_add,Nat.add_zero,Nat.reduceAdd,f0,f1,f2,f3,parts,List.map_cons,List.map_nil,af64,Option.map_some,p2]
   have n2:=kk2.n
   have hc2:=c2.lt wg2
   have c12:=c1.keep kk2 hc1
   have k02:Keep (Old g.n) g g2:=kk1.trans (kk2.less n1)
   have toA : ∀ g',KeepA [g1.n] g2 g'→Keep (Old g.n) g g':=fun g' k'=>k02.trans (k'.old wg2 (by omega) (by simp;omega))
   have toB : ∀ g',KeepA [g1.n] g2 g'→KeepA [bt] gT g':=fun g' k'=>kg.stepN (toA g' k') hng
   have rkr : ∀ g',KeepA [g1.n] g2 g'→RK (Old hb.n) hb g':=fun g' k'=>rkh g' (toB g' k')
   refine aAA (aAA (aAB ?_))
   simp only [aK3,go_sem,↓reduceIte,Nat.reduceEqDiff]
   refine a2d (bx:=g.n) (br:=g1.n) wg2 (by omega) c12 (isv:=sv) rfl c2 ils rkr smr.1 rfl rfl rfl ?_
   rintro s' g3 sv3 k3 c3 fl3 hs
   obtain ⟨q1,q3,q4,q5,q6,q7,q8⟩:=hs
   simp only [go_sem,↓reduceIte,Nat.reduceEqDiff] at q1 q3 q4 q5 q6 q7 q8
   have wg3:=k3.wf wg2
   have n3:=k3.n
   refine aAA (aAA (aAB ?_))
   simp only [aJM,go_sem,↓reduceIte,Nat.reduceEqDiff]
   have c13:=c12.keepA wg2 k3 (by simp;omega)
   refine of_ops (bx:=g.n) (br:=g1.n) wg3 (by omega) c13 (iov:=ov) rfl c3 ilo (fun g' k'=>rkr g' (Keep.step k3 k')) smr.2 (by simp only [go_sem,↓reduceIte,Nat.reduceEqDiff];exact q7) (by simp only [go_sem,↓reduceIte,Nat.reduceEqDiff];exact q8) rfl ?_
   rintro s'' g4 ov4 k4 c4 fl4 hs
   obtain ⟨t1,t3,t4,t5,t6,t7,t8⟩:=hs
   simp only [go_sem,↓reduceIte,Nat.reduceEqDiff] at t1 t3 t4 t5 t6 t7 t8
   have wg4:=k4.wf wg3
   have n4:=k4.n
   have fl34:=fl3.keepA wg3 (gs := [g1.n]) (by simp;omega) k4
   have k24:KeepA [g1.n] g2 g4:=Keep.step k3 k4
   have kA4:=toA g4 k24
   have kB4:=toB g4 k24
   have bt4:=bt1.keep kA4 (bt1.lt wg)
   have ir4:=IsRelL.old ir1 kA4.rk
   have ow4:=OwnF.old wg ow1 kA4
   have isr:IsRel gT.n g4 [.str r.name,.str r.view,.str r.edit,.str r.check,sv3,ov4] r:=⟨sv3,ov4,rfl,⟨fl34.1,(fl34.2.rd wg4).less (by omega)⟩,fl4.1,(fl4.2.rd wg4).less (by omega)⟩
   have l4:loadA g4 true 6 (.ptr g1.n 0)=some (.agg [.str r.name,.str r.view,.str r.edit,.str r.check,sv3,ov4]):=c4.loadAgg rfl
   have lb4:loadA g4 false 1 (.ptr bt 1)=some rv:=bt4.load 1 1
   have y5':s'' 5 = .ptr bt 0:=(t5.trans q5).trans y5
   have y8':s'' 8 = .ptr g1.n 0:=t8.trans q8
   -- one relation more
   have hone:=isr.one
   have hsl : ∀ cs:List AV,cs.length=6→Sl (g4.new cs) 6 (.slice g4.n 0 1 6) 1 cs:=fun cs hc=>(Box.new wg4 cs).sl1 hc
   have k5:Keep (Old g4.n) g4 (g4.new [.str r.name,.str r.view,.str r.edit,.str r.check,sv3,ov4]):=Keep.new (Nat.le_refl _) _
   have n5:(g4.new [.str r.name,.str r.view,.str r.edit,.str r.check,sv3,ov4]).n=g4.n+1:=rfl
   have wg5:=k5.wf wg4
   obtain ⟨v6,g6,e6,ir6,ow6,k6,rk6⟩:=IsL.app wg5 (by omega:gT.n≤_) (IsRelL.old ir4 k5.rk) (OwnF.old wg4 ow4 k5) (Nat.le_refl _) (x:=r) rfl hone.2 (hsl _ rfl) (isr.rk (gs := []) (by simp) k5.rk.apart) (by simp;omega) (fun h' rk cs x q=>q.rk (gs := []) (by simp) rk.apart)
   have wg6:=k6.wf wg5
   have bt6:=(bt4.keep k5 (bt4.lt wg4)).keep k6 hbt
   obtain ⟨g7,e7,bt7,k7⟩:=Box.put wg6 bt6 (i:=1) (n:=1) (v:=v6) (by rw [ow6.cells.1];rfl) (by rw [ow6.cells.1];simp [ow6.cells.2]) (by simp)
   rw [ow6.cells.1] at bt7
   refine aAB ?_
   simp only [aJl,go_sem,↓reduceIte,Nat.reduceEqDiff,aAC,Nat.zero_add,Nat.add_zero,Nat.reduceAdd,y5',y8',l4,lb4,parts,List.map_cons,List.map_nil,af61 hone.1,Option.map_some,e6,e7]
   have k47:KeepA [bt] gT g7:=KeepA.then wT ((kB4.stepN k5 (by omega)).stepN k6 (Nat.le_refl _)) k7 (by simp)
   refine ⟨⟨k47,⟨v6,bt7,?_,?_⟩,(t1.trans q1).trans s1,(t3.trans q3).trans s3,(t4.trans q4).trans s4,z5.symm⟩,(t6.trans q6).trans s6⟩
   · rw [htk]
     exact IsL.rk ir6 (gs := [bt]) (by simp;omega) k7.rk fun cs x q=>q.rk (gs := [bt]) (by simp;omega) k7.rk
   · exact ow6.keep ((ow6.rd wg6).slotA (by simp;omega)) k7
 · rintro s g ⟨kg,⟨rv,bt1,ir1,ow1⟩,s1,s3,s4,s5⟩
   rw [List.take_length] at ir1
   exact fini s g rv kg bt1 ir1 s1 s3 s4 s5
theorem a3H {w:AV} {l:List TypD} {hb h:H} (wf:h.Wf) (is:IsSch 0 hb w l) (kb:Keep (Old hb.n) hb h) (sm:SmallS l) :
 WCall (EL LX) aGI [.agg [w]] h fun r g=>Keep (Old h.n) h g ∧ ∃ v,r = .val v∧IsSch h.n g v l:=by
 obtain ⟨h1,hg1,b1,k1,w1,n1⟩:=aAR wf [w]
 refine aAI ((EL_ov _ _).trans rfl) (EL_T aSW) (by simp [aGH]) ?_
 refine aAA (aAB ?_)
 simp only [aKc,go_sem,↓reduceIte,Nat.reduceEqDiff,enterS,List.getD_cons_zero,List.getD_cons_succ,AV.cells,hg1]
 refine aAA (aAB ?_)
 simp only [aKo,go_sem,↓reduceIte,Nat.reduceEqDiff]
 refine aAA (aAA (aAB ?_))
 simp only [aKh,go_sem,↓reduceIte,Nat.reduceEqDiff]
 have hlt1:=b1.lt w1
 have rkh : ∀ g,Keep (Old h1.n) h1 g→RK (Old hb.n) hb g:=fun g k=>(kb.trans ((k1.trans (k.less k1.n)).less kb.n)).rk
 refine aBZ (n:=l.length) (i0:=0) (by have:=sm.1;omega) (fun i s g=>Keep (Old h1.n) h1 g∧(∃ v,s 3=v∧IsSch h1.n g v (l.take i)∧OwnF h1.n g v)∧s 1 = .ptr h.n 0) (by decide) ?_ rfl (Nat.zero_le _) ⟨Keep.refl _ _,⟨.nils,rfl,IsL.nil _ _ _ _,trivial⟩,rfl⟩ ?_ ?_ ?_
 · rintro i s g t v (rfl | rfl | rfl) ⟨a1,a2,a3⟩ <;> exact ⟨a1,a2,a3⟩
 · rintro i s g hi ⟨kg,ex,s1⟩ s4
   have l1:loadA g false 1 (.ptr h.n 0)=some w:=(b1.keep kg hlt1).load 1 0
   refine aAB ?_
   simp only [aKj,go_sem,↓reduceIte,Nat.reduceEqDiff,aAC,Nat.zero_add,Nat.add_zero,Nat.reduceAdd,s4,s1,l1,is.len,decI]
   exact ⟨⟨kg,ex,trivial⟩,trivial,trivial⟩
 · rintro i s g hi ⟨kg,⟨v,s3,isv,ow⟩,s1⟩ s4
   have wg:=kg.wf w1
   have bg:=b1.keep kg hlt1
   have l1:loadA g false 1 (.ptr h.n 0)=some w:=bg.load 1 0
   have htk:l.take (i+1)=l.take i ++ [l[i]]:=by rw [List.take_add_one,List.getElem?_eq_getElem hi];rfl
   have smt:=sm.2 _ (List.getElem_mem hi)
   have hlb:=sm.1
   obtain ⟨to,ti,tcs,ta,tlen,it,tl⟩:=IsL.el is hi (by decide)
   generalize l[i]=t at *
   obtain ⟨rv,rfl,il⟩:=it
   have hng:=kg.n
   have x0:loadA g false 1 (.ptr to ti)=some (.str t.name):=by have:=(tl g (rkh g kg)).2 0 (by decide);rw [Nat.add_zero] at this;exact this
   obtain ⟨g2,p2,c2,kk2⟩:=Box.init wg (z := [AV.str [],.nils]) (cs := [.str t.name,.nils]) (n:=2) rfl rfl rfl
   have wg2:=kk2.wf wg
   have hc2:=c2.lt wg2
   have n2:=kk2.n
   refine aAA (aAB ?_)
   simp only [aKw,go_sem,↓reduceIte,Nat.reduceEqDiff,aAC,Nat.zero_add,Nat.add_zero,Nat.reduceAdd,s4,s1,l1,ta,x0,parts,List.map_cons,List.map_nil,afT2,Option.map_some,p2]
   refine aAA (aAA (aAB ?_))
   simp only [aKi,go_sem,↓reduceIte,Nat.reduceEqDiff]
   have toG : ∀ g',KeepA [g.n] g2 g'→Keep (Old g.n) g g':=fun g' k'=>kk2.trans (k'.old wg2 n2 (by simp))
   have toH : ∀ g',KeepA [g.n] g2 g'→Keep (Old h1.n) h1 g':=fun g' k'=>kg.trans ((toG g' k').less hng)
   refine a2I (r1:=h.n) (bt:=g.n) (w:=w) (nm:=t.name) (rvi:=rv) (i:=i) (to:=to) (ti:=ti) wg2 (by omega) (bg.keep kk2 (bg.lt wg)) c2 il (fun g' k'=>rkh g' (toH g' k')) ⟨by have:=smt.1;omega,fun r hr=>⟨(smt.2.2 r hr).2.1,(smt.2.2 r hr).2.2⟩⟩ ta (fun g' k'=>(tl g' (rkh g' (toH g' k'))).2 1 (by decide)) s1 s4 rfl rfl ?_
   rintro s' g3 rv3 k3 bt3 il3 q1 q3 q4 q5
   simp only [go_sem,↓reduceIte,Nat.reduceEqDiff] at q1 q3 q4 q5
   have kG:=toG g3 k3
   have kH:=toH g3 k3
   have wg3:=k3.wf wg2
   have n3:=kG.n
   have is3:IsSch h1.n g3 v (l.take i):=IsSch.rk isv (gs := []) (by simp) kG.rk.apart
   have ow3:=OwnF.old wg ow kG
   have it3:IsTyp h1.n g3 [.str t.name,rv3] t:=⟨rv3,rfl,il3.mono (by omega) fun cs x q=>q.less (by omega)⟩
   have hone:=IsL.one il3
   have l3:loadA g3 true 2 (.ptr g.n 0)=some (.agg [.str t.name,rv3]):=bt3.loadAgg rfl
   have k4:Keep (Old g3.n) g3 (g3.new [.str t.name,rv3]):=Keep.new (Nat.le_refl _) _
   have y4:Sl (g3.new [.str t.name,rv3]) 2 (.slice g3.n 0 1 2) 1 [.str t.name,rv3]:=(Box.new wg3 [AV.str t.name,rv3]).sl1 rfl
   have n4:(g3.new [.str t.name,rv3]).n=g3.n+1:=rfl
   have rk4:RK (Apart [] g3) g3 (g3.new [.str t.name,rv3]):=k4.rk.apart
   obtain ⟨v5,g5,e5,is5,ow5,k5,rk5⟩:=IsL.app (k4.wf wg3) (by omega:h1.n≤(g3.new [.str t.name,rv3]).n) (IsSch.rk is3 (gs := []) (by simp) rk4) (OwnF.old wg3 ow3 k4) (Nat.le_refl _) (x:=t) rfl (by simp only [List.all_cons,List.all_nil,hone.1,Bool.and_true];rfl) y4 (it3.rk (gs := []) (by simp) rk4) (by simp;omega) (fun h' rk cs x q=>q.rk (gs := []) (by simp) rk.apart)
   have y3:s' 3=v:=q3.trans s3
   refine aAB ?_
   simp only [aJg,go_sem,↓reduceIte,Nat.reduceEqDiff,aAC,Nat.zero_add,Nat.add_zero,Nat.reduceAdd,y3,q5,l3,parts,List.map_cons,List.map_nil,afT21,Option.map_some,e5]
   refine ⟨⟨kH.trans ((k4.less (by omega)).trans k5),⟨v5,rfl,by rw [htk];exact is5,ow5⟩,q1.trans s1⟩,q4.trans s4⟩
 · rintro s g ⟨kg,⟨v,s3,isv,ow⟩,s1⟩
   rw [List.take_length] at isv
   refine aAA (aAB ?_)
   simp only [aJh,go_sem,↓reduceIte,Nat.reduceEqDiff,s3]
   refine aAE ?_
   simp only [go_sem,aGH,↓reduceIte,Nat.reduceEqDiff]
   exact ⟨k1.trans (kg.less k1.n),v,rfl,isv.less k1.n⟩
end Go.Proofs.YtdbmeidhlijopaaGreatDoor.Ev.C

/- What a schema that is right gives the reference. -/
namespace Go.Proofs.YtdbmeidhlijopaaGreatDoor.Ev.C
open Go Go.Proofs.YtdbmeidhlijopaaGreatDoor.Ev
set_option linter.unusedVariables false
set_option linter.unusedSimpArgs false
theorem aZq (s:T8s) (i:Nat) (t:Tk) (h:(lexS s i).1=some t) (h1:t.1=1):t.2.1 ≠ []:=by
 unfold lexS at h
 split at h
 · cases h
 split at h
 · split at h <;> cases h
 split at h
 · cases h;cases h1
 split at h
 · cases h
 rename_i hw
 split at h
 · cases h
 · cases h
   have hi:i<s.length:=by
    refine Nat.lt_of_not_le fun hle=>hw ?_
    unfold wordP;rw [Nat.sub_eq_zero_of_le hle];rfl
   have:=(aMQ s (s.length - i) i (Nat.le_of_lt hi)).1
   have h2:i≤(wordP s i).1:=this
   intro e
   have e':((s.drop i).take ((wordP s i).1 - i)).length=0:=by
    have:(s.drop i).take ((wordP s i).1 - i) = []:=e
    rw [this];rfl
   rw [List.length_take,List.length_drop] at e'
   omega
theorem aSr {s:T8s} {l:List TypD} (h:parseP (lexP s) = .ok l) : ∀ t∈l,GoodT (fun n=>n ≠ []) True t:=by
 unfold parseP at h
 split at h
 · cases h
 rename_i ts hts
 split at h
 case h_2=>cases h
 rename_i l' t2 hl
 cases h
 have:=aWo (Q:=fun t=>t.1=1→t.2.1 ≠ []) s (aZq s) (fun i h=>by cases h) hts
 exact aTj (M:=True) (fun t ht=>⟨fun a _=>this t ht a,fun _=>trivial⟩) hl
theorem aV0 : ∀ {l:List TypD},(l.map (·.name)).Nodup → ∀ {t:TypD},t∈l→kindP l t.name=some t
 | [],_,t,h=>by cases h
 | x::l,nd,t,h=>by
  rw [List.map_cons,List.nodup_cons] at nd
  unfold kindP
  rw [List.find?_cons]
  by_cases e:x.name=t.name
  · simp only [e,decide_true]
    rcases List.mem_cons.1 h with rfl | h
    · rfl
    · exact absurd (by rw [e];exact List.mem_map.2 ⟨t,h,rfl⟩) nd.1
  · simp only [e,decide_false]
    rcases List.mem_cons.1 h with rfl | h
    · exact absurd rfl e
    · exact aV0 nd.2 h
theorem aWW : ∀ {l:List RelD} {rel:T8s} {r:RelD},l.find? (fun r=>decide (r.name=rel))=some r → ∃ k,ixR rel l=some k
 | [],rel,r,h=>by cases h
 | x::l,rel,r,h=>by
  simp only [ixR]
  by_cases e:x.name=rel
  · exact ⟨0,if_pos e⟩
  · rw [List.find?_cons] at h
    simp only [e,decide_false] at h
    obtain ⟨k,hk⟩:=aWW h
    exact ⟨k+1,by rw [if_neg e,hk];rfl⟩
theorem aUy {l:List TypD} {t:TypD} : ∀ {m:List RelD},(chkRs l t m).1=0 → ∀ r∈m,r.ops.all (opP l t)=true
 | [],h,r,hr=>by cases hr
 | x::m,h,r,hr=>by
  simp only [chkRs] at h
  split at h
  · rename_i h1
    rcases List.mem_cons.1 hr with rfl | hr
    · unfold chkR at h1
      split at h1
      · cases h1
      split at h1
      · rename_i h2;exact absurd h1 h2
      split at h1
      · assumption
      · cases h1
    · exact aUy h r hr
  · rename_i h1;exact absurd h h1
theorem aVS {l:List TypD} : ∀ {m:List TypD},(chkTs l m).1=0 → ∀ t∈m,∀ r∈t.rels,r.ops.all (opP l t)=true
 | [],h,t,ht=>by cases ht
 | x::m,h,t,ht=>by
  simp only [chkTs] at h
  split at h
  · rename_i h1
    rcases List.mem_cons.1 ht with rfl | ht
    · exact aUy h1
    · exact aVS h t ht
  · rename_i h1;exact absurd h h1
theorem a0T {l:List TypD} (h:(checkP l).1=0) : ∀ t∈l,∀ r∈t.rels,r.ops.all (opP l t)=true:=by
 unfold checkP at h
 split at h
 · exact aVS h
 · rename_i h2;exact absurd h h2
theorem a2k (t:TypD) (r:RelD) (o:OpD):(toR t r o).length≤r.subs.length+subsN t.rels+1:=by
 unfold toR
 split
 · exact Nat.le_trans (List.length_filter_le _ _) (by omega)
 split
 · simp
 split
 · rw [List.length_map]
   have h2:(subsOf t o.2.1).length≤subsN t.rels:=by
    unfold subsOf
    split
    · rename_i k hk
      obtain ⟨r',hr',_⟩:=aPJ hk
      rw [List.getD_eq_getElem?_getD,hr',Option.getD_some]
      have:=aKM (fun r:RelD=>r.subs.length) (List.mem_of_getElem? hr')
      refine Nat.le_trans this ?_
      clear this hr' hk
      induction t.rels with
      | nil=>exact Nat.le_refl _
      | cons x m ih=>simp only [List.map_cons,List.sum_cons,subsN];omega
    · exact Nat.zero_le _
   exact Nat.le_trans (List.length_filter_le _ _) (by omega)
 · exact Nat.zero_le _
theorem aWV (ps:List Pth) (n:Nat) (t:TypD) (r:RelD) (c:Nat) (hc:r.subs.length+subsN t.rels+1≤c) : ∀ (l:List OpD) (j:Nat),(refK ps n t r j l).length≤l.length*c
 | [],j=>by simp [refK]
 | o::l,j=>by
  have h1:=aWV ps n t r c hc l (j+1)
  have h2:(refO ps n t r j o).length≤c:=by unfold refO;rw [List.length_map];exact Nat.le_trans (a2k t r o) hc
  simp only [refK,List.length_append,List.length_cons,Nat.add_mul];omega
theorem aWU (ps:List Pth) (t:TypD) (c:Nat) (hc:2*subsN t.rels+1≤c) : ∀ (l:List RelD) (n:Nat),(∀ r∈l,r∈t.rels)→(refR ps t n l).length≤(l.map szR).sum*c
 | [],n,_=>by simp [refR]
 | r::l,n,hm=>by
  have h1:=aWU ps t c hc l (n+1) fun x hx=>hm x (List.mem_cons_of_mem _ hx)
  have hs:r.subs.length≤subsN t.rels:=by
   have:=aKM (fun r:RelD=>r.subs.length) (hm r List.mem_cons_self)
   refine Nat.le_trans this ?_
   clear this h1 hm hc
   induction t.rels with
   | nil=>exact Nat.le_refl _
   | cons x m ih=>simp only [List.map_cons,List.sum_cons,subsN];omega
  have h2:=aWV ps n t r c (by omega) r.ops 0
  have h3:r.ops.length*c≤szR r*c:=Nat.mul_le_mul_right _ (by unfold szR;omega)
  simp only [refR,List.length_append,List.map_cons,List.sum_cons,Nat.add_mul];omega
theorem aXK (ps:List Pth) (c:Nat) : ∀ (l:List TypD) (n:Nat),(∀ t∈l,2*subsN t.rels+1≤c)→(refT ps n l).length≤szS l*c
 | [],n,_=>by simp [refT]
 | t::l,n,hc=>by
  have h1:=aXK ps c l (n+t.rels.length) fun x hx=>hc x (List.mem_cons_of_mem _ hx)
  have h2:=aWU ps t c (hc t List.mem_cons_self) t.rels n fun _ h=>h
  have h3:(t.rels.map szR).sum*c≤szT t*c:=Nat.mul_le_mul_right _ (by unfold szT;omega)
  simp only [refT,List.length_append,szS,List.map_cons,List.sum_cons,Nat.add_mul] at *;omega
theorem aZz {s:T8s} {l:List TypD} (h:parseP (lexP s) = .ok l) (hc:(checkP l).1=0):RefH l:=by
 have hn:=aNP hc
 have ht:=aTo h
 have hp:=aSr h
 obtain ⟨_,hz⟩:=aPL h
 have hst : ∀ t∈l,szT t≤2049:=fun t ht=>Nat.le_trans (aKM szT ht) hz
 refine ⟨hn,ht.sm,?_,fun t ht r hr=>((hp t ht).rels r hr).pf,fun t ht r hr o ho h3 => ?_,?_⟩
 · have:=a0z hn;omega
 · have:=List.all_eq_true.1 (a0T hc t ht r hr) o ho
   unfold opP at this
   rw [if_neg (by omega),if_pos h3] at this
   split at this
   · rename_i r' hr'
     unfold findP at hr'
     rw [aV0 hn.typs ht,Option.getD_some] at hr'
     exact aWW hr'
   · cases this
 · have h1:=aXK (pathsP l) 4099 l 0 fun t ht=>by have:=hst t ht;have:=aTF t.rels;unfold szT at *;omega
   have h2:szS l*4099≤2049*4099:=Nat.mul_le_mul_right _ hz
   omega
theorem aYc {s:T8s} {l:List TypD} (h:parseP (lexP s) = .ok l) (hc:(checkP l).1=0):edgesP l=refP l :=
 aZd (aSr h) (fun n hn=>hn) (aNP hc)
end Go.Proofs.YtdbmeidhlijopaaGreatDoor.Ev.C

/- Rewrites are read. -/
import Derived.Test.YtdbmeidhlijopaaGreatDoorTT
namespace Go.Proofs.YtdbmeidhlijopaaGreatDoor.Ev.C
open Go Go.Proofs.YtdbmeidhlijopaaGreatDoor.Ev
set_option linter.unusedSimpArgs false
set_option linter.unusedVariables false
def opC (o:OpD):List AV := [.int .i64 (o.1:Int),.str o.2.1,.str o.2.2]
theorem aLh (o:OpD):(opC o).length=3:=rfl
theorem aUl (o:OpD):(opC o).all AV.one=true:=rfl
/-! ### no more operations than tokens -/
def Few (p:List Tk→PRs (List OpD)):Prop := ∀ ts a t2,EndT ts→p ts = .ok (a,t2)→a.length+t2.length≤ts.length
theorem aPC {can:Bool} {rw:List Tk→PRs (List OpD)} (hl:can=true→Less rw) (hr:can=true→Few rw):Few (partP can rw):=by
 intro ts a t2 e h
 unfold partP at h
 split at h
 · rename_i hn;cases h;have:=aAg hn;simp;omega
 split at h
 · rename_i hn
   split at h
   · cases h
   · rename_i hc
     obtain ⟨x,t1,h1,h2⟩:=aAH h
     obtain ⟨y,t3,h3,h4⟩:=aAH h2
     cases h4
     have hc':can=true:=by simpa using hc
     obtain ⟨e1,l1⟩:=hl hc' _ _ _ (e.pass (by decide) hn) h1
     have q1:=hr hc' _ _ _ (e.pass (by decide) hn) h1
     obtain ⟨e2,l2⟩:=aA0 (by decide) _ _ _ e1 h3
     have:=aAg hn;omega
 · obtain ⟨x,t1,h1,h2⟩:=aAH h
   obtain ⟨e1,l1⟩:=aA5 _ _ _ e h1
   split at h2
   · rename_i hn
     obtain ⟨y,t3,h3,h4⟩:=aAH h2
     cases h4
     obtain ⟨e2,l2⟩:=aA5 _ _ _ (e1.pass (by decide) hn) h3
     have:=aAg hn;simp;omega
   · cases h2;simp;omega
theorem aT5 {part:List Tk→PRs (List OpD)} (hp:Less part) (hf:Few part) : ∀ (f:Nat) (out:List OpD) (ts:List Tk) (a:List OpD) (t2:List Tk),EndT ts→loopP part f out ts = .ok (a,t2)→a.length+t2.length≤out.length+ts.length
 | 0,out,ts,a,t2,e,h=>by cases h;exact Nat.le_refl _
 | f+1,out,ts,a,t2,e,h=>by
  simp only [loopP] at h
  split at h
  · cases h;exact Nat.le_refl _
  · rename_i hs
    obtain ⟨e1,l1⟩:=aOz e hs
    obtain ⟨x,t1,h1,h2⟩:=aAH h
    obtain ⟨e3,l3⟩:=hp _ _ _ e1 h1
    have q3:=hf _ _ _ e1 h1
    have q4:=aT5 hp hf f _ _ _ _ e3 h2
    simp at q4;omega
theorem aN3 : ∀ d,Few (aA4 d)
 | 0=>by
  intro ts a t2 e h
  simp only [aA4] at h
  obtain ⟨x,t1,h1,h2⟩:=aAH h
  have hp:=aHP (can:=false) (rw:=fun t=>failP 0 t) (fun h=>by cases h)
  have hf:=aPC (can:=false) (rw:=fun t=>failP 0 t) (fun h=>by cases h) (fun h=>by cases h)
  obtain ⟨e1,l1⟩:=hp _ _ _ e h1
  have q1:=hf _ _ _ e h1
  have q2:=aT5 hp hf _ _ _ _ _ e1 h2
  omega
 | d+1=>by
  intro ts a t2 e h
  simp only [aA4] at h
  obtain ⟨x,t1,h1,h2⟩:=aAH h
  have hp:=aHP (can:=true) (rw:=aA4 d) (fun _=>aDN d)
  have hf:=aPC (can:=true) (rw:=aA4 d) (fun _=>aDN d) (fun _=>aN3 d)
  obtain ⟨e1,l1⟩:=hp _ _ _ e h1
  have q1:=hf _ _ _ e h1
  have q2:=aT5 hp hf _ _ _ _ _ e1 h2
  omega
/-! ### the walks -/
theorem PR.at1 {o:Nat} {ts:List Tk} {deep:Nat} {h:H} (R:PR o ts deep h):loadA h false 1 (.ptr o 1)=some (.int .i64 (deep:Int)):=by
 obtain ⟨wf,ks,ho,fin,lv,b,t,s⟩:=R;exact b.load 1 1
theorem PR.set {o:Nat} {ts:List Tk} {deep:Nat} {h:H} (R:PR o ts deep h) (d:Nat) : ∃ h',storeA h 1 (.ptr o 1) (.int .i64 (d:Int))=some h'∧PR o ts d h'∧KeepA [o] h h':=by
 obtain ⟨wf,ks,ho,fin,lv,b,t,s⟩:=R
 obtain ⟨h',e,b',k⟩:=Box.put wf b (i:=1) (n:=1) (v := .int .i64 (d:Int)) rfl rfl (by simp)
 have kO:Keep (Old o) h h':=k.old wf (by have:=b.lt wf;omega) (by simp)
 exact ⟨h',e,⟨k.wf wf,ks.keepO ho kO,ho,fin,lv,b',t.keep kO s,s.keep kO fun _ q=>q⟩,k⟩
theorem _root_.Go.Proofs.YtdbmeidhlijopaaGreatDoor.Ev.Keep.step {gs:List Nat} {h h1 h2:H} (a:KeepA gs h h1) (b:KeepA gs h1 h2):KeepA gs h h2:=a.trans (b.weaken fun j hj=>Apart.rk a.rk hj)
theorem _root_.Go.Proofs.YtdbmeidhlijopaaGreatDoor.Ev.Keep.stepN {gs:List Nat} {h h1 h2:H} (a:KeepA gs h h1) {N:Nat} (b:Keep (Old N) h1 h2) (hN:h.n≤N):KeepA gs h h2:=a.trans (b.weaken fun j hj=>Nat.lt_of_lt_of_le hj.1 hN)
theorem afOp1 (x y z:AV):afill (zeros [AV.int .i64 0,AV.str [],AV.str []] (1*3)) [(0,3,.agg [x,y,z])]=some [x,y,z]:=rfl
theorem afOpK (k:Int):afill [AV.int .i64 0,AV.str [],AV.str []] [(0,1,.int .i64 k)]=some [.int .i64 k,.str [],.str []]:=rfl
theorem afOpN (k:Int) (n:T8s):afill [AV.int .i64 0,AV.str [],AV.str []] [(0,1,.int .i64 k),(1,1,.str n)]=some [.int .i64 k,.str n,.str []]:=rfl
abbrev OpsQ (o deep:Nat) (h:H) (res:PRs (List OpD)):AOut→H→Prop:=PQ o deep h (fun h' v a=>FL opC 3 h.n h' v a) res
theorem aYU {o:Nat} {ts:List Tk} {deep:Nat} {h:H} {rw:List Tk→PRs (List OpD)} (R:PR o ts deep h) (hd:deep≤8) (hts:ts.length<1000000)
 (hrw:deep≠8 → ∀ (h:H) (ts:List Tk),PR o ts (deep+1) h→ts.length<1000000→WCall (EL LX) aAw [.ptr o 0] h (OpsQ o (deep+1) h (rw ts))) :
 WCall (EL LX) aC8 [.ptr o 0] h (OpsQ o deep h (partP (decide (deep≠8)) rw ts)):=by
 have hon:=R.lt
 refine aAI ((EL_ov _ _).trans rfl) (EL_T aQe) (by simp [aBL]) ?_
 refine aAA (aAB ?_)
 simp only [aHt,go_sem,↓reduceIte,Nat.reduceEqDiff,enterS,List.getD_cons_zero,List.getD_cons_succ]
 refine aAA (aAG (aAA (aAB ?_)))
 simp only [aIl,go_sem,↓reduceIte,Nat.reduceEqDiff,enterS,List.getD_cons_zero,List.getD_cons_succ]
 refine (aHO R (s:=kThis) (by decide)).mono ?_
 rintro _ h1 ⟨rfl,R1,k1⟩
 simp only [go_sem,↓reduceIte,Nat.reduceEqDiff]
 refine aAD ?_
 simp only [go_sem,↓reduceIte,Nat.reduceEqDiff]
 by_cases hthis:isNext ts kThis=true
 · have hres:partP (decide (deep≠8)) rw ts = .ok ([(1,[],[])],ts.tail):=by unfold partP;rw [if_pos hthis]
   rw [hres]
   rw [if_pos hthis] at R1
   simp only [hthis,go_sem,↓reduceIte,Nat.reduceEqDiff]
   have kn:Keep (Old h1.n) h1 (h1.new (opC (1,[],[]))):=Keep.new (Nat.le_refl _) _
   refine aAA (aAB ?_)
   simp only [aIM,go_sem,↓reduceIte,Nat.reduceEqDiff,parts,List.map_cons,List.map_nil,afOpK,Option.map_some,afOp1]
   refine aAE ?_
   simp only [go_sem,aBL,List.map_cons,List.map_nil,go_sem,↓reduceIte,Nat.reduceEqDiff]
   exact ⟨k1.stepN kn k1.n,R1.keep (kn.less (by have:=k1.n;omega)),_,rfl,FL.one (x:=((1,[],[]):OpD)) R1.wf k1.n rfl⟩
 rw [if_neg hthis] at R1
 simp only [hthis,go_sem,↓reduceIte,Nat.reduceEqDiff,Bool.false_eq_true]
 refine aAA (aAB ?_)
 simp only [aIb,go_sem,↓reduceIte,Nat.reduceEqDiff,enterS,List.getD_cons_zero,List.getD_cons_succ]
 refine (is_pr R1 [40]).mono ?_
 rintro _ h2 ⟨rfl,rfl⟩
 simp only [go_sem,↓reduceIte,Nat.reduceEqDiff]
 refine aAD ?_
 simp only [go_sem,↓reduceIte,Nat.reduceEqDiff]
 by_cases hopen:isNext ts [40]=true
 · simp only [hopen,go_sem,↓reduceIte,Nat.reduceEqDiff]
   have l1:=R1.at1
   refine aAA (aAA (aAB ?_))
   simp only [aIc,go_sem,↓reduceIte,Nat.reduceEqDiff,aAC,Nat.zero_add,Nat.add_zero,Nat.reduceAdd,enterS,List.getD_cons_zero,List.getD_cons_succ,l1]
   refine aAD ?_
   simp only [go_sem,↓reduceIte,Nat.reduceEqDiff]
   by_cases h8:deep=8
   · have h8':(deep:Int)=8:=by omega
     have hres:partP (decide (deep≠8)) rw ts=failP 13 ts:=by unfold partP;rw [if_neg hthis,if_pos hopen,if_pos (by simp [h8])]
     rw [hres]
     simp only [h8',decide_true,go_sem,↓reduceIte,Nat.reduceEqDiff]
     refine aAB ?_
     simp only [aII,go_sem,↓reduceIte,Nat.reduceEqDiff,enterS,List.getD_cons_zero,List.getD_cons_succ]
     refine (aK0 R1 13).mono ?_
     rintro _ h3 ⟨rfl,rfl⟩
     simp only [go_sem,↓reduceIte,Nat.reduceEqDiff]
     exact ⟨k1,rfl⟩
   have h8' : ¬ (deep:Int)=8:=by omega
   have hres:partP (decide (deep≠8)) rw ts=thenP (rw ts.tail) fun out t2=>thenP (needP [41] t2) fun _ t3 => .ok (out,t3):=by unfold partP;rw [if_neg hthis,if_pos hopen,if_neg (by simp [h8])]
   rw [hres]
   simp only [h8',decide_false,go_sem,↓reduceIte,Nat.reduceEqDiff,Bool.false_eq_true]
   refine aAF ?_
   simp only [go_sem]
   refine aAA (aAB ?_)
   simp only [aIu,go_sem,↓reduceIte,Nat.reduceEqDiff,enterS,List.getD_cons_zero,List.getD_cons_succ]
   refine (aEv R1 (s := [40]) (by decide)).mono ?_
   have hneed:needP [40] ts = .ok ((),ts.tail):=by unfold needP;rw [if_pos hopen]
   rw [hneed]
   rintro _ h2 ⟨k2,R2,_,rfl,rfl⟩
   simp only [go_sem,↓reduceIte,Nat.reduceEqDiff]
   have l1:=R2.at1
   have a1:IntKind.i64.wrap ((deep:Int)+1)=((deep+1:Nat):Int):=wrapI (n:=deep+1) (by omega)
   obtain ⟨h3,e3,R3,k3⟩:=R2.set (deep+1)
   refine aAA (aAB ?_)
   simp only [aIA,go_sem,↓reduceIte,Nat.reduceEqDiff,aAC,Nat.zero_add,Nat.add_zero,Nat.reduceAdd,enterS,List.getD_cons_zero,List.getD_cons_succ,l1,a1,e3]
   refine aAA (aAB ?_)
   simp only [aHn,go_sem,↓reduceIte,Nat.reduceEqDiff,enterS,List.getD_cons_zero,List.getD_cons_succ]
   have k13:=(k1.step k2).step k3
   refine (hrw h8 h3 ts.tail R3 (by have:=aAg hopen;omega)).mono ?_
   rintro rr h4 ⟨k4,q⟩
   cases hrr:rw ts.tail with
   | error e =>
    rw [hrr] at q
    subst q
    simp only [go_sem,↓reduceIte,Nat.reduceEqDiff]
    exact ⟨k13.step k4,rfl⟩
   | ok x =>
   obtain ⟨out,t2⟩:=x
   rw [hrr] at q
   obtain ⟨R4,v,rfl,fl⟩:=q
   simp only [go_sem,↓reduceIte,Nat.reduceEqDiff]
   refine aAA (aAB ?_)
   simp only [aIP,go_sem,↓reduceIte,Nat.reduceEqDiff,enterS,List.getD_cons_zero,List.getD_cons_succ]
   refine (aEv R4 (s := [41]) (by decide)).mono ?_
   rintro rr h5 ⟨k5,q⟩
   simp only [thenP]
   cases hrr2:needP [41] t2 with
   | error e =>
    rw [hrr2] at q
    subst q
    simp only [go_sem,↓reduceIte,Nat.reduceEqDiff]
    exact ⟨(k13.step k4).step k5,rfl⟩
   | ok x =>
   obtain ⟨u,t3⟩:=x
   rw [hrr2] at q
   obtain ⟨R5,_,rfl,rfl⟩:=q
   simp only [go_sem,↓reduceIte,Nat.reduceEqDiff]
   have l1:=R5.at1
   have a2:IntKind.i64.wrap (((deep+1:Nat):Int) - 1)=((deep:Nat):Int):=by rw [show ((deep+1:Nat):Int) - 1=(deep:Int) by omega];exact wrapI (n:=deep) (by omega)
   obtain ⟨h6,e6,R6,k6⟩:=R5.set deep
   refine aAA (aAB ?_)
   simp only [aHI,go_sem,↓reduceIte,Nat.reduceEqDiff,aAC,Nat.zero_add,Nat.add_zero,Nat.reduceAdd,enterS,List.getD_cons_zero,List.getD_cons_succ,l1,a2,e6]
   refine aAA (aAB ?_)
   simp only [aHb,go_sem,↓reduceIte,Nat.reduceEqDiff,enterS,List.getD_cons_zero,List.getD_cons_succ]
   refine aAE ?_
   simp only [go_sem,aBL,List.map_cons,List.map_nil,go_sem,↓reduceIte,Nat.reduceEqDiff]
   have n3:=k13.n
   have fl5:=fl.keepA R4.wf (gs := [o]) (by simp;omega) k5
   have fl6:=fl5.keepA R5.wf (gs := [o]) (by simp;omega) k6
   exact ⟨((k13.step k4).step k5).step k6,R6,v,rfl,fl6.less (by omega)⟩
 have hres:partP (decide (deep≠8)) rw ts=thenP (nameP ts) fun n t1=>if isNext t1 [46]=true then thenP (nameP t1.tail) fun m t2 => .ok ([(3,n,m)],t2) else .ok ([(2,n,[])],t1):=by unfold partP;rw [if_neg hthis,if_neg hopen]
 rw [hres]
 simp only [hopen,go_sem,↓reduceIte,Nat.reduceEqDiff,Bool.false_eq_true]
 refine aAF ?_
 simp only [go_sem]
 refine aAA (aAB ?_)
 simp only [aHR,go_sem,↓reduceIte,Nat.reduceEqDiff,enterS,List.getD_cons_zero,List.getD_cons_succ]
 refine (aFm R1).mono ?_
 rintro rr h2 ⟨k2,q⟩
 cases hrr:nameP ts with
 | error e =>
  rw [hrr] at q
  subst q
  simp only [go_sem,↓reduceIte,Nat.reduceEqDiff]
  exact ⟨k1.step k2,rfl⟩
 | ok x =>
 obtain ⟨n,t1⟩:=x
 rw [hrr] at q
 obtain ⟨R2,_,rfl,rfl⟩:=q
 obtain ⟨h3,e3,b3,k3⟩:=Box.init R2.wf (z := [AV.int .i64 0,.str [],.str []]) (cs:=opC (2,n,[])) (n:=3) rfl rfl rfl
 have e3':storeA (h2.new [AV.int .i64 0,.str [],.str []]) 3 (.ptr h2.n 0) (.agg [.int .i64 2,.str n,.str []])=some h3:=e3
 simp only [go_sem,↓reduceIte,Nat.reduceEqDiff,parts,List.map_cons,List.map_nil,afOpN,Option.map_some,e3']
 have R3:=R2.keep (k3.less (by have:=k1.n;have:=k2.n;omega))
 have n12:h.n≤h2.n:=Nat.le_trans k1.n k2.n
 have k13:KeepA [o] h h3:=(k1.step k2).stepN k3 n12
 refine aAA (aAA (aAB ?_))
 simp only [aH6,go_sem,↓reduceIte,Nat.reduceEqDiff,enterS,List.getD_cons_zero,List.getD_cons_succ]
 refine (aHO R3 (s := [46]) (by decide)).mono ?_
 rintro _ h4 ⟨rfl,R4,k4⟩
 simp only [go_sem,↓reduceIte,Nat.reduceEqDiff]
 have b4:=b3.keepA R3.wf k4 (by simp;omega)
 refine aAD ?_
 simp only [go_sem,↓reduceIte,Nat.reduceEqDiff,thenP]
 by_cases hdot:isNext t1 [46]=true
 · rw [if_pos hdot] at R4
   simp only [hdot,go_sem,↓reduceIte,Nat.reduceEqDiff]
   obtain ⟨h5,e5,b5,k5⟩:=Box.put R4.wf b4 (i:=0) (n:=1) (v := .int .i64 3) rfl rfl (by simp [opC])
   have n4:h.n≤h4.n:=Nat.le_trans k13.n k4.n
   have hb4:h2.n<h4.n:=b4.lt R4.wf
   have k5':Keep (Old (o+1)) h4 h5:=k5.old R4.wf (by omega) (by simp;omega)
   have R5:=R4.keep k5'
   refine aAA (aAB ?_)
   simp only [aHS,go_sem,↓reduceIte,Nat.reduceEqDiff,aAC,Nat.zero_add,Nat.add_zero,Nat.reduceAdd,enterS,List.getD_cons_zero,List.getD_cons_succ,e5]
   refine aAB ?_
   simp only [aHe,go_sem,↓reduceIte,Nat.reduceEqDiff,enterS,List.getD_cons_zero,List.getD_cons_succ]
   refine (aFm R5).mono ?_
   rintro rr h6 ⟨k6,q⟩
   have k15:KeepA [o] h h5:=KeepA.then R.wf (k13.step k4) k5 (by simp;omega)
   cases hrr2:nameP t1.tail with
   | error e =>
    rw [hrr2] at q
    subst q
    simp only [go_sem,↓reduceIte,Nat.reduceEqDiff]
    exact ⟨k15.step k6,rfl⟩
   | ok x =>
   obtain ⟨m,t2⟩:=x
   rw [hrr2] at q
   obtain ⟨R6,_,rfl,rfl⟩:=q
   have b6:=b5.keepA R5.wf k6 (by simp;omega)
   obtain ⟨h7,e7,b7,k7⟩:=Box.put R6.wf b6 (i:=2) (n:=1) (v := .str m) rfl rfl (by simp [opC,splice,AV.cells])
   simp only [go_sem,↓reduceIte,Nat.reduceEqDiff,aAC,Nat.zero_add,Nat.add_zero,Nat.reduceAdd,e7]
   have hb6:h2.n<h6.n:=b6.lt R6.wf
   have R7:=R6.keep (k7.old R6.wf (by omega) (by simp;omega))
   have hld:loadA h7 true 3 (.ptr h2.n 0)=some (.agg (opC (3,n,m))):=b7.loadAgg rfl
   refine aAA (aAB ?_)
   simp only [aDj,go_sem,↓reduceIte,Nat.reduceEqDiff,hld,opC,parts,List.map_cons,List.map_nil,afOp1]
   refine aAE ?_
   simp only [go_sem,aBL,List.map_cons,List.map_nil,go_sem,↓reduceIte,Nat.reduceEqDiff]
   have k17:KeepA [o] h h7:=KeepA.then R.wf (k15.step k6) k7 (by simp;omega)
   have kn:Keep (Old h7.n) h7 (h7.new (opC (3,n,m))):=Keep.new (Nat.le_refl _) _
   exact ⟨k17.stepN kn k17.n,R7.keep (kn.less (by have:=k17.n;omega)),_,rfl,FL.one (x:=((3,n,m):OpD)) R7.wf k17.n rfl⟩
 · rw [if_neg hdot] at R4
   simp only [hdot,go_sem,↓reduceIte,Nat.reduceEqDiff,Bool.false_eq_true]
   refine aAF ?_
   simp only [go_sem]
   have hld:loadA h4 true 3 (.ptr h2.n 0)=some (.agg (opC (2,n,[]))):=b4.loadAgg rfl
   refine aAA (aAB ?_)
   simp only [aDj,go_sem,↓reduceIte,Nat.reduceEqDiff,hld,opC,parts,List.map_cons,List.map_nil,afOp1]
   refine aAE ?_
   simp only [go_sem,aBL,List.map_cons,List.map_nil,go_sem,↓reduceIte,Nat.reduceEqDiff]
   have k14:=k13.step k4
   have kn:Keep (Old h4.n) h4 (h4.new (opC (2,n,[]))):=Keep.new (Nat.le_refl _) _
   exact ⟨k14.stepN kn k14.n,R4.keep (kn.less (by have:=k14.n;omega)),_,rfl,FL.one (x:=((2,n,[]):OpD)) R4.wf k14.n rfl⟩
theorem aUN {o deep:Nat} {p:List Tk→PRs (List OpD)} (hl:Less p) (hf:Few p)
 (hp : ∀ (h:H) (ts:List Tk),PR o ts deep h→ts.length<1000000→WCall (EL LX) aC8 [.ptr o 0] h (OpsQ o deep h (p ts)))
 {h:H} {ts:List Tk} (R:PR o ts deep h) (hts:ts.length<1000000) :
 WCall (EL LX) aAw [.ptr o 0] h (OpsQ o deep h (thenP (p ts) fun out t1=>loopP p t1.length out t1)):=by
 have hon:=R.lt
 refine aAI ((EL_ov _ _).trans rfl) (EL_T aNU) (by simp [aDc]) ?_
 refine aAA (aAB ?_)
 simp only [aGC,go_sem,↓reduceIte,Nat.reduceEqDiff,enterS,List.getD_cons_zero,List.getD_cons_succ]
 refine aAA (aAB ?_)
 simp only [aGB,go_sem,↓reduceIte,Nat.reduceEqDiff,enterS,List.getD_cons_zero,List.getD_cons_succ]
 refine (hp h ts R hts).mono ?_
 rintro rr h1 ⟨k1,q⟩
 cases hrr:p ts with
 | error e =>
  rw [hrr] at q
  subst q
  simp only [go_sem,↓reduceIte,Nat.reduceEqDiff]
  exact ⟨k1,rfl⟩
 | ok x =>
 obtain ⟨out,t1⟩:=x
 rw [hrr] at q
 obtain ⟨R1,v,rfl,fl⟩:=q
 simp only [go_sem,↓reduceIte,Nat.reduceEqDiff,thenP]
 have hl1:=(hl _ _ _ R.fin hrr).2
 have hf1:=hf _ _ _ R.fin hrr
 refine aAA (aAA (aAB ?_))
 simp only [aFz,go_sem,↓reduceIte,Nat.reduceEqDiff,enterS,List.getD_cons_zero,List.getD_cons_succ]
 refine (aYT R1).mono ?_
 rintro _ h2 ⟨rfl,R2,k2⟩
 simp only [go_sem,↓reduceIte,Nat.reduceEqDiff]
 generalize hres:loopP p t1.length out t1=res
 refine aAG (aAP (fun m z g => ∃ t f out,m=t.length∧t.length≤f∧EndT t∧loopP p f out t=res∧out.length+t.length<1000000∧PR o (if sgnP t=0 then t else t.tail) deep g∧KeepA [o] h g∧FL opC 3 h.n g (z 3) out∧z 0 = .ptr o 0∧z 4 = .int .i64 (sgnP t:Int)) ?_ t1.length ?_)
 case refine_2=>exact ⟨t1,t1.length,out,rfl,Nat.le_refl _,R1.fin,hres,by omega,R2,k1.step k2,fl.keepA R1.wf (gs := [o]) (by simp;omega) k2,rfl,rfl⟩
 clear fl R2 R1 k2 k1 hf1 hl1 hrr hres
 rintro m z g ⟨t,f,out,rfl,hf0,et,hres,hlen,Rg,kg,fl,z0,z4⟩
 show WS (EL LX) aFy _ _ _ _
 refine aAA (aAA (aAB ?_))
 simp only [aFr,go_sem,↓reduceIte,Nat.reduceEqDiff,z4]
 obtain ⟨f,rfl⟩ : ∃ f',f=f'+1:=⟨f - 1,by have:=List.length_pos_iff.2 et.ne;omega⟩
 refine aAD ?_
 simp only [loopP] at hres
 by_cases hs:sgnP t=0
 · rw [if_pos hs] at hres Rg
   simp only [hs,Int.natCast_zero,Int.cast_ofNat_Int,decide_true,Bool.not_true,go_sem,↓reduceIte,Nat.reduceEqDiff,Bool.false_eq_true]
   refine aAK ?_
   simp only [go_sem,↓reduceIte,Nat.reduceEqDiff]
   refine aAA (aAB ?_)
   simp only [aFw,go_sem,↓reduceIte,Nat.reduceEqDiff]
   refine aAE ?_
   simp only [go_sem,aDc,List.map_cons,List.map_nil,go_sem,↓reduceIte,Nat.reduceEqDiff]
   rw [← hres]
   exact ⟨kg,Rg,_,rfl,fl⟩
 rw [if_neg hs] at hres Rg
 have hs' : ¬ (sgnP t:Int)=0:=by omega
 simp only [hs',decide_false,Bool.not_false,go_sem,↓reduceIte,Nat.reduceEqDiff]
 refine aAF ?_
 simp only [go_sem]
 refine aAA (aAG (aAB ?_))
 have htl:=(aOz et hs).2
 simp only [aGD,go_sem,↓reduceIte,Nat.reduceEqDiff,z0]
 refine (hp g t.tail Rg (by omega)).mono ?_
 rintro rr g1 ⟨k1,q⟩
 cases hrr:p t.tail with
 | error e =>
  rw [hrr] at q hres
  subst q
  simp only [go_sem,↓reduceIte,Nat.reduceEqDiff]
  rw [← hres]
  exact ⟨kg.step k1,rfl⟩
 | ok x =>
 obtain ⟨x,t2⟩:=x
 rw [hrr] at q hres
 simp only [thenP] at hres
 obtain ⟨R1,vx,rfl,flx⟩:=q
 have hl1:=(hl _ _ _ Rg.fin hrr).2
 have hf1:=hf _ _ _ Rg.fin hrr
 have n1:=kg.n
 have n2:=k1.n
 have fl1:=fl.keepA Rg.wf (gs := [o]) (by simp;omega) k1
 obtain ⟨v2,g2,e2,fl2,k2,_⟩:=FL.app aLh aUl R1.wf (by omega:h.n≤g1.n) fl1 flx.1 (by omega)
 have wf2:=k2.wf R1.wf
 have k3:Keep (Old g2.n) g2 (g2.new (opC (sgnP t,[],[]))):=Keep.new (Nat.le_refl _) _
 have one:FL opC 3 g2.n (g2.new (opC (sgnP t,[],[]))) (.slice g2.n 0 1 3) [((sgnP t,[],[]):OpD)]:=FL.one wf2 (Nat.le_refl _) rfl
 have fl3:=fl2.keepN wf2 k3
 have n3:=k2.n
 obtain ⟨v4,g4,e4,fl4,k4,_⟩:=FL.app aLh aUl (k3.wf wf2) (by show h.n≤g2.n+1;omega) fl3 one.1 (by simp;omega)
 have R4:=((R1.keep (k2.less (by omega))).keep (k3.less (by omega))).keep (k4.less (by omega))
 have k04:KeepA [o] h g4:=(((kg.step k1).stepN k2 (Nat.le_refl _)).stepN k3 (by omega)).stepN k4 (Nat.le_refl _)
 simp only [opC] at e4
 simp only [go_sem,↓reduceIte,Nat.reduceEqDiff,e2,z4,parts,List.map_cons,List.map_nil,afOpK,Option.map_some,afOp1,e4]
 refine aAB ?_
 simp only [aFv,go_sem,↓reduceIte,Nat.reduceEqDiff,z0]
 refine (aYT R4).mono ?_
 rintro _ g5 ⟨rfl,R5,k5⟩
 simp only [go_sem,↓reduceIte,Nat.reduceEqDiff]
 refine ⟨t2.length,by omega,t2,f,_,rfl,by omega,R1.fin,hres,?_,R5,k04.step k5,fl4.keepA R4.wf (gs := [o]) (by simp;omega) k5,z0,rfl⟩
 simp;omega
theorem aTk (o:Nat) : ∀ (d deep:Nat),deep+d=8 → ∀ (h:H) (ts:List Tk),PR o ts deep h→ts.length<1000000→WCall (EL LX) aAw [.ptr o 0] h (OpsQ o deep h (aA4 d ts))
 | 0,deep,hd,h,ts,R,hts=>by
  have hdeep:deep=8:=by omega
  subst hdeep
  refine aUN (p:=partP false (fun t=>failP 0 t)) (aHP (fun h=>by cases h)) (aPC (fun h=>by cases h) (fun h=>by cases h)) ?_ R hts
  intro h ts R hts
  exact aYU R (by omega) hts (fun h=>absurd rfl h)
 | d+1,deep,hd,h,ts,R,hts=>by
  refine aUN (p:=partP true (aA4 d)) (aHP (fun _=>aDN d)) (aPC (fun _=>aDN d) (fun _=>aN3 d)) ?_ R hts
  intro h ts R hts
  have:=aYU (rw:=aA4 d) R (by omega) hts (fun _ h ts R hts=>aTk o d (deep+1) (by omega) h ts R hts)
  rwa [show decide (deep≠8)=true by simp;omega] at this
end Go.Proofs.YtdbmeidhlijopaaGreatDoor.Ev.C

/- Relations are read. -/
namespace Go.Proofs.YtdbmeidhlijopaaGreatDoor.Ev.C
open Go Go.Proofs.YtdbmeidhlijopaaGreatDoor.Ev
set_option linter.unusedSimpArgs false
set_option linter.unusedVariables false
def subC (x:SubD):List AV := [.str x.1,.str x.2]
theorem aHA (x:SubD):(subC x).length=2:=rfl
theorem aWw (x:SubD):(subC x).all AV.one=true:=rfl
theorem afSub (n:T8s):afill [AV.str [],AV.str []] [(0,1,.str n)]=some [.str n,.str []]:=rfl
theorem afSub1 (x y:AV):afill (zeros [AV.str [],AV.str []] (1*2)) [(0,2,.agg [x,y])]=some [x,y]:=rfl
theorem a2o {o deep:Nat} {h:H} {ts:List Tk} (R:PR o ts deep h) (hts:ts.length<1000000) :
 WCall (EL LX) aFC [.ptr o 0] h (PQ o deep h (fun h' v a=>FL subC 2 h.n h' v a) (subsP ts.length [] ts)):=by
 have hon:=R.lt
 refine aAI ((EL_ov _ _).trans rfl) (EL_T aQ6) (by simp [aDP]) ?_
 refine aAA (aAB ?_)
 simp only [aIV,go_sem,↓reduceIte,Nat.reduceEqDiff,enterS,List.getD_cons_zero,List.getD_cons_succ]
 refine aAA (aAB ?_)
 simp only [aIH,go_sem,↓reduceIte,Nat.reduceEqDiff,enterS,List.getD_cons_zero,List.getD_cons_succ]
 generalize hres:subsP ts.length [] ts=res
 refine aAG (aAP (fun m z g => ∃ t f acc,m=t.length∧t.length≤f∧subsP f acc t=res∧acc.length+t.length<1000000∧PR o t deep g∧KeepA [o] h g∧FL subC 2 h.n g (z 3) acc∧z 0 = .ptr o 0) ?_ ts.length ?_)
 case refine_2=>exact ⟨ts,ts.length,[],rfl,Nat.le_refl _,hres,by simpa using hts,R,KeepA.refl _ _,FL.nil _ _ _ _,rfl⟩
 have wf:=R.wf
 clear hres R hts
 rintro m z g ⟨t,f,acc,rfl,hf0,hres,hlen,Rg,kg,fl,z0⟩
 show WS (EL LX) aI6 _ _ _ _
 obtain ⟨f,rfl⟩ : ∃ f',f=f'+1:=⟨f - 1,by have:=List.length_pos_iff.2 Rg.fin.ne;omega⟩
 have ng:=kg.n
 refine aAG (aAA (aAB ?_))
 simp only [aIS,go_sem,↓reduceIte,Nat.reduceEqDiff,z0]
 refine (aFm Rg).mono ?_
 rintro rr g1 ⟨k1,q⟩
 cases hrr:nameP t with
 | error e =>
  rw [hrr] at q
  subst q
  simp only [go_sem,↓reduceIte,Nat.reduceEqDiff]
  have:res = .error e:=by rw [← hres];simp only [subsP,subP,thenP,hrr]
  rw [this]
  exact ⟨kg.step k1,rfl⟩
 | ok x =>
 obtain ⟨n,t1⟩:=x
 rw [hrr] at q
 obtain ⟨R1,_,rfl,rfl⟩:=q
 have n1:=k1.n
 have hl1:=(aA5 _ _ _ Rg.fin hrr).2
 obtain ⟨g2,e2,b2,k2⟩:=Box.init R1.wf (z := [AV.str [],.str []]) (cs:=subC (n,[])) (n:=2) rfl rfl rfl
 have e2':storeA (g1.new [AV.str [],.str []]) 2 (.ptr g1.n 0) (.agg [.str n,.str []])=some g2:=e2
 simp only [go_sem,↓reduceIte,Nat.reduceEqDiff,parts,List.map_cons,List.map_nil,afSub,Option.map_some,e2']
 have R2:=R1.keep (k2.less (by omega))
 have k02:KeepA [o] h g2:=(kg.step k1).stepN k2 (by omega)
 have fl2:=(fl.keepA Rg.wf (gs := [o]) (by simp;omega) k1).keepN R1.wf k2
 refine aAA (aAA (aAB ?_))
 simp only [aHr,go_sem,↓reduceIte,Nat.reduceEqDiff,z0]
 refine (aHO R2 (s := [35]) (by decide)).mono ?_
 rintro _ g3 ⟨rfl,R3,k3⟩
 simp only [go_sem,↓reduceIte,Nat.reduceEqDiff]
 have b3:=b2.keepA R2.wf k3 (by simp;omega)
 have hb3:g1.n<g3.n:=b3.lt R3.wf
 have k03:=k02.step k3
 have fl3:=fl2.keepA R2.wf (gs := [o]) (by simp;omega) k3
 -- behind the relation
 have tail : ∀ (g:H) (z1:S) (x:SubD) (t2:List Tk),subP t = .ok (x,t2)→z1 0 = .ptr o 0→z1 4 = .ptr g1.n 0→z1 3=z 3→t2.length+1≤t.length→PR o t2 deep g→KeepA [o] h g→FL subC 2 h.n g (z 3) acc→Box g1.n (subC x) g →
  WS (EL LX) (.seq (.ops aEU) (.seq (.ops aEi) (.cond (.tmp 19) (.seq (.ops aEY) .ret) .skip))) [.blk 1] (fun ex s_1 h_1=>match ex with
   | .normal => ∃ m,m<t.length ∧ ∃ t f acc,m=t.length∧t.length≤f∧subsP f acc t=res∧acc.length+t.length<1000000∧PR o t deep h_1∧KeepA [o] h h_1∧FL subC 2 h.n h_1 (s_1 3) acc∧s_1 0 = .ptr o 0
   | ex=>fin (EL LX) [.blk 0] (atEnd aDP.results (PQ o deep h (fun h' v a=>FL subC 2 h.n h' v a) res)) ex s_1 h_1) z1 g:=by
  intro g z1 x t2 hx z10 z14 z13 hlt Rg kg fl b
  have hb:g1.n<g.n:=b.lt Rg.wf
  have hld:loadA g true 2 (.ptr g1.n 0)=some (.agg (subC x)):=b.loadAgg rfl
  have kn:Keep (Old g.n) g (g.new (subC x)):=Keep.new (Nat.le_refl _) _
  have one:FL subC 2 g.n (g.new (subC x)) (.slice g.n 0 1 2) [x]:=FL.one Rg.wf (Nat.le_refl _) rfl
  have fl1:=fl.keepN Rg.wf kn
  obtain ⟨v4,g4,e4,fl4,k4,_⟩:=FL.app aHA aWw (kn.wf Rg.wf) (by show h.n≤g.n+1;omega) fl1 one.1 (by simp;omega)
  have R4:=(Rg.keep (kn.less (by omega))).keep (k4.less (by omega))
  have k04:KeepA [o] h g4:=(kg.stepN kn (by omega)).stepN k4 (Nat.le_refl _)
  simp only [subC] at e4
  refine aAA (aAB ?_)
  simp only [aEU,go_sem,↓reduceIte,Nat.reduceEqDiff,z14,z13,hld,subC,parts,List.map_cons,List.map_nil,afSub1,e4]
  refine aAA (aAB ?_)
  simp only [aEi,go_sem,↓reduceIte,Nat.reduceEqDiff,z10]
  refine (aHO R4 (s := [44]) (by decide)).mono ?_
  rintro _ g5 ⟨rfl,R5,k5⟩
  have fl5:=fl4.keepA R4.wf (gs := [o]) (by simp;omega) k5
  simp only [go_sem,↓reduceIte,Nat.reduceEqDiff]
  refine aAD ?_
  simp only [go_sem,↓reduceIte,Nat.reduceEqDiff]
  by_cases hc:isNext t2 [44]=true
  · rw [if_pos hc] at R5
    simp only [hc,Bool.not_true,go_sem,↓reduceIte,Nat.reduceEqDiff,Bool.false_eq_true]
    refine aAF ?_
    simp only [go_sem]
    have hpl:=aAg hc
    refine ⟨t2.tail.length,by omega,t2.tail,f,_,rfl,by omega,?_,?_,R5,k04.step k5,fl5,z10⟩
    · rw [← hres];simp only [subsP,hx,thenP,if_pos hc]
    · simp;simp at hpl;omega
  · rw [if_neg hc] at R5
    simp only [hc,Bool.not_false,go_sem,↓reduceIte,Nat.reduceEqDiff]
    refine aAA (aAB ?_)
    simp only [aEY,go_sem,↓reduceIte,Nat.reduceEqDiff]
    refine aAE ?_
    simp only [go_sem,aDP,List.map_cons,List.map_nil,go_sem,↓reduceIte,Nat.reduceEqDiff]
    have:res = .ok (acc ++ [x],t2):=by rw [← hres];simp only [subsP,hx,thenP,if_neg hc]
    rw [this]
    exact ⟨k04.step k5,R5,_,rfl,fl5⟩
 refine aAD ?_
 simp only [go_sem,↓reduceIte,Nat.reduceEqDiff]
 by_cases hash:isNext t1 [35]=true
 · rw [if_pos hash] at R3
   simp only [hash,go_sem,↓reduceIte,Nat.reduceEqDiff]
   have hpl:=aAg hash
   refine aAB ?_
   simp only [aHo,go_sem,↓reduceIte,Nat.reduceEqDiff,z0]
   refine (aFm R3).mono ?_
   rintro rr g4 ⟨k4,q⟩
   cases hrr2:nameP t1.tail with
   | error e =>
    rw [hrr2] at q
    subst q
    simp only [go_sem,↓reduceIte,Nat.reduceEqDiff]
    have:res = .error e:=by rw [← hres];simp only [subsP,subP,thenP,hrr,if_pos hash,hrr2]
    rw [this]
    exact ⟨k03.step k4,rfl⟩
   | ok x =>
   obtain ⟨m,t2⟩:=x
   rw [hrr2] at q
   obtain ⟨R4,_,rfl,rfl⟩:=q
   have hl2:=(aA5 _ _ _ R3.fin hrr2).2
   have b4:=b3.keepA R3.wf k4 (by simp;omega)
   have fl4:=fl3.keepA R3.wf (gs := [o]) (by simp;omega) k4
   have hb4:g1.n<g4.n:=b4.lt R4.wf
   obtain ⟨g5,e5,b5,k5⟩:=Box.put R4.wf b4 (i:=1) (n:=1) (v := .str m) rfl rfl (by simp [subC])
   have R5:=R4.keep (k5.old R4.wf (by omega) (by simp;omega))
   have k05:KeepA [o] h g5:=KeepA.then wf (k03.step k4) k5 (by simp;omega)
   have fl5:FL subC 2 h.n g5 (z 3) acc:=by
    have s1:Slot (Apart [o,g1.n] g1) g1 (z 3):=((fl.keepA Rg.wf (gs := [o]) (by simp;omega) k1).2.rd R1.wf).slotNew (by simp;omega)
    have s2:=Slot.keepA s1 (KeepA.of k2)
    have s3:=Slot.keepA s2 (KeepA.mono k3 (gs' := [o,g1.n]) (by simp))
    have s4:=Slot.keepA s3 (KeepA.mono k4 (gs' := [o,g1.n]) (by simp))
    exact fl4.keepS s4 (KeepA.mono k5 (gs' := [o,g1.n]) (by simp))
   simp only [go_sem,↓reduceIte,Nat.reduceEqDiff,aAC,Nat.zero_add,Nat.add_zero,Nat.reduceAdd,e5]
   have hx:subP t = .ok ((n,m),t2):=by simp only [subP,thenP,hrr,if_pos hash,hrr2]
   refine tail g5 _ (n,m) t2 hx z0 rfl rfl (by omega) R5 k05 fl5 b5
 · rw [if_neg hash] at R3
   simp only [hash,go_sem,↓reduceIte,Nat.reduceEqDiff,Bool.false_eq_true]
   refine aAF ?_
   simp only [go_sem]
   have hx:subP t = .ok ((n,[]),t1):=by simp only [subP,thenP,hrr,if_neg hash]
   exact tail g3 _ (n,[]) t1 hx z0 rfl rfl (by omega) R3 k03 fl3 b3
def IsRel (N:Nat) (h:H) (cs:List AV) (r:RelD):Prop := ∃ sv ov,cs = [.str r.name,.str r.view,.str r.edit,.str r.check,sv,ov]∧(Sl h 2 sv r.subs.length (r.subs.flatMap subC)∧Rd N h sv)∧(Sl h 3 ov r.ops.length (r.ops.flatMap opC)∧Rd N h ov)
theorem af6 (v:AV) (hv:v.cells = [v]):afill [AV.str [],.str [],.str [],.str [],.nils,.nils] [(5,1,v)]=some [AV.str [],.str [],.str [],.str [],.nils,v]:=by
 simp [afill,hv,splice]
/-- while a relation is read -/
structure RS (o deep:Nat) (h:H) (ts:List Tk) (cs:List AV) (g:H):Prop where
 R:PR o ts deep g
 k:KeepA [o] h g
 b2:Box h.n [AV.str [],.str [],.str [],.str [],.nils,.nils] g
 b1:Box (h.n+1) (opC (1,[],[])) g
 b3:Box (h.n+2) cs g
theorem RS.call {o deep:Nat} {h:H} {ts t2:List Tk} {cs:List AV} {g g2:H} (S:RS o deep h ts cs g) (ho:o<h.n) (k:KeepA [o] g g2) (R:PR o t2 deep g2):RS o deep h t2 cs g2 :=
 ⟨R,S.k.step k,S.b2.keepA S.R.wf k (by simp;omega),S.b1.keepA S.R.wf k (by simp;omega),S.b3.keepA S.R.wf k (by simp;omega)⟩
theorem RS.put {o deep:Nat} {h:H} {ts:List Tk} {cs:List AV} {g:H} (S:RS o deep h ts cs g) (wf:h.Wf) (ho:o<h.n) (i:Nat) (v:AV) (hv:v.cells = [v]∧AV.one v=true) (hi:i+1≤cs.length) :
 ∃ g2,storeA g 1 (.ptr (h.n+2) i) v=some g2∧RS o deep h ts (splice cs i [v]) g2∧KeepA [h.n+2] g g2:=by
 have hlt:=S.b3.lt S.R.wf
 obtain ⟨g2,e,b,k⟩:=Box.put S.R.wf S.b3 (i:=i) (n:=1) (v:=v) (by rw [hv.1];rfl) (by rw [hv.1];simp [hv.2]) hi
 rw [hv.1] at b
 exact ⟨g2,e,⟨S.R.keep (k.old S.R.wf (by omega) (by simp;omega)),KeepA.then wf S.k k (by simp),S.b2.keepA S.R.wf k (by simp),S.b1.keepA S.R.wf k (by simp),b⟩,k⟩
theorem strOne (s:T8s):(AV.str s).cells = [AV.str s]∧AV.one (AV.str s)=true:=⟨rfl,rfl⟩
theorem rel_pr {o deep:Nat} {h:H} {ts:List Tk} (R:PR o ts deep h) (hdeep:deep=0) (hts:ts.length<1000000) :
 WCall (EL LX) aFX [.ptr o 0] h (PQ o deep h (fun h' v a => ∃ cs,v = .agg cs∧IsRel h.n h' cs a) (relP ts)):=by
 have hon:=R.lt
 have wf:=R.wf
 refine aAI ((EL_ov _ _).trans rfl) (EL_T aSA) (by simp [aCm]) ?_
 refine aAA (aAB ?_)
 simp only [aJC,go_sem,↓reduceIte,Nat.reduceEqDiff,enterS,List.getD_cons_zero,List.getD_cons_succ]
 have q1:=Box.new wf [AV.str [],.str [],.str [],.str [],.nils,.nils]
 have k1:Keep (Old h.n) h (h.new [AV.str [],.str [],.str [],.str [],.nils,.nils]):=Keep.new (Nat.le_refl _) _
 have hn1:(h.new [AV.str [],.str [],.str [],.str [],.nils,.nils]).n=h.n+1:=rfl
 generalize h.new [AV.str [],.str [],.str [],.str [],.nils,.nils]=h1 at q1 k1 hn1
 have wf1:=k1.wf wf
 have q2:=Box.new wf1 (opC (1,[],[]))
 have k2:Keep (Old h1.n) h1 (h1.new (opC (1,[],[]))):=Keep.new (Nat.le_refl _) _
 have hn2:(h1.new (opC (1,[],[]))).n=h.n+2:=by show h1.n+1=_;omega
 have e2:h1.new [AV.int .i64 ((1:Nat):Int),.str [],.str []]=h1.new (opC (1,[],[])):=rfl
 rw [hn1] at q2
 refine aAA (aAB ?_)
 simp only [aJ3,go_sem,↓reduceIte,Nat.reduceEqDiff,enterS,List.getD_cons_zero,List.getD_cons_succ,parts,List.map_cons,List.map_nil,afOpK,Option.map_some,afOp1]
 simp only [show h1.new [AV.int .i64 1,.str [],.str []]=h1.new (opC (1,[],[])) from rfl,hn1]
 generalize h1.new (opC (1,[],[]))=h2 at q2 k2 hn2
 have wf2:=k2.wf wf1
 rw [af6 _ rfl]
 obtain ⟨h3,e3,b3,k3⟩:=Box.init wf2 (z := [AV.str [],.str [],.str [],.str [],.nils,.nils]) (cs := [AV.str [],.str [],.str [],.str [],.nils,.slice (h.n+1) 0 1 3]) (n:=6) rfl rfl rfl
 simp only [hn2] at e3 b3
 simp only [go_sem,↓reduceIte,Nat.reduceEqDiff,Option.map_some,hn2,e3]
 have S0:RS o deep h ts [AV.str [],.str [],.str [],.str [],.nils,.slice (h.n+1) 0 1 3] h3:=by
  have kk:Keep (Old h.n) h h3:=(k1.trans (k2.less (by omega))).trans (k3.less (by omega))
  exact ⟨R.keep (kk.less (by omega)),KeepA.of kk,(q1.keep k2 (by show h.n<h1.n;omega)).keep k3 (by show h.n<h2.n;omega),q2.keep k3 (by show h.n+1<h2.n;omega),b3⟩
 clear q1 q2 k1 k2 k3 b3 e3 hn1 hn2 wf1 wf2
 generalize hres:relP ts=res
 refine aAA (aAB ?_)
 simp only [aJZ,go_sem,↓reduceIte,Nat.reduceEqDiff,enterS,List.getD_cons_zero,List.getD_cons_succ]
 refine (aFm S0.R).mono ?_
 rintro rr g1 ⟨k1,q⟩
 cases hn1:nameP ts with
 | error e =>
  rw [hn1] at q
  subst q
  simp only [go_sem,↓reduceIte,Nat.reduceEqDiff]
  have:res = .error e:=by rw [← hres];simp only [relP,thenP,hn1]
  rw [this]
  exact ⟨S0.k.step k1,rfl⟩
 | ok x =>
 obtain ⟨x1,t1⟩:=x
 rw [hn1] at q
 obtain ⟨R1,_,rfl,rfl⟩:=q
 have len1:=(aA5 _ _ _ S0.R.fin hn1).2
 have S1':=S0.call hon k1 R1
 obtain ⟨f1,e1,S1,_⟩:=S1'.put wf hon 0 (.str x1) (strOne _) (by simp)
 simp only [go_sem,↓reduceIte,Nat.reduceEqDiff,aAC,Nat.zero_add,Nat.add_zero,Nat.reduceAdd,e1]
 simp only [splice,List.take_succ_cons,List.take_zero,List.length_cons,List.length_nil,List.drop_succ_cons,List.drop_zero,List.cons_append,List.nil_append,Nat.reduceAdd] at S1
 refine aAA (aAB ?_)
 simp only [aJc,go_sem,↓reduceIte,Nat.reduceEqDiff,enterS,List.getD_cons_zero,List.getD_cons_succ]
 refine (aEv S1.R (s := [40]) (by decide)).mono ?_
 rintro rr g2 ⟨k2,q⟩
 cases hn2:needP [40] t1 with
 | error e =>
  rw [hn2] at q
  subst q
  simp only [go_sem,↓reduceIte,Nat.reduceEqDiff]
  have:res = .error e:=by rw [← hres];simp only [relP,thenP,hn1,hn2]
  rw [this]
  exact ⟨S1.k.step k2,rfl⟩
 | ok x =>
 obtain ⟨⟨⟩,t2⟩:=x
 rw [hn2] at q
 obtain ⟨R2,_,rfl,rfl⟩:=q
 have len2:=(aA0 (by decide) _ _ _ S1.R.fin hn2).2
 have S2:=S1.call hon k2 R2
 simp only [go_sem,↓reduceIte,Nat.reduceEqDiff]
 refine aAA (aAB ?_)
 simp only [aJA,go_sem,↓reduceIte,Nat.reduceEqDiff,enterS,List.getD_cons_zero,List.getD_cons_succ]
 refine (aFm S2.R).mono ?_
 rintro rr g3 ⟨k3,q⟩
 cases hn3:nameP t2 with
 | error e =>
  rw [hn3] at q
  subst q
  simp only [go_sem,↓reduceIte,Nat.reduceEqDiff]
  have:res = .error e:=by rw [← hres];simp only [relP,thenP,hn1,hn2,hn3]
  rw [this]
  exact ⟨S2.k.step k3,rfl⟩
 | ok x =>
 obtain ⟨x3,t3⟩:=x
 rw [hn3] at q
 obtain ⟨R3,_,rfl,rfl⟩:=q
 have len3:=(aA5 _ _ _ S2.R.fin hn3).2
 have S3':=S2.call hon k3 R3
 obtain ⟨f3,e3,S3,_⟩:=S3'.put wf hon 1 (.str x3) (strOne _) (by simp)
 simp only [go_sem,↓reduceIte,Nat.reduceEqDiff,aAC,Nat.zero_add,Nat.add_zero,Nat.reduceAdd,e3]
 simp only [splice,List.take_succ_cons,List.take_zero,List.length_cons,List.length_nil,List.drop_succ_cons,List.drop_zero,List.cons_append,List.nil_append,Nat.reduceAdd] at S3
 refine aAA (aAB ?_)
 simp only [aJG,go_sem,↓reduceIte,Nat.reduceEqDiff,enterS,List.getD_cons_zero,List.getD_cons_succ]
 refine (aEv S3.R (s := [44]) (by decide)).mono ?_
 rintro rr g4 ⟨k4,q⟩
 cases hn4:needP [44] t3 with
 | error e =>
  rw [hn4] at q
  subst q
  simp only [go_sem,↓reduceIte,Nat.reduceEqDiff]
  have:res = .error e:=by rw [← hres];simp only [relP,thenP,hn1,hn2,hn3,hn4]
  rw [this]
  exact ⟨S3.k.step k4,rfl⟩
 | ok x =>
 obtain ⟨⟨⟩,t4⟩:=x
 rw [hn4] at q
 obtain ⟨R4,_,rfl,rfl⟩:=q
 have len4:=(aA0 (by decide) _ _ _ S3.R.fin hn4).2
 have S4:=S3.call hon k4 R4
 simp only [go_sem,↓reduceIte,Nat.reduceEqDiff]
 refine aAA (aAB ?_)
 simp only [aJ9,go_sem,↓reduceIte,Nat.reduceEqDiff,enterS,List.getD_cons_zero,List.getD_cons_succ]
 refine (aFm S4.R).mono ?_
 rintro rr g5 ⟨k5,q⟩
 cases hn5:nameP t4 with
 | error e =>
  rw [hn5] at q
  subst q
  simp only [go_sem,↓reduceIte,Nat.reduceEqDiff]
  have:res = .error e:=by rw [← hres];simp only [relP,thenP,hn1,hn2,hn3,hn4,hn5]
  rw [this]
  exact ⟨S4.k.step k5,rfl⟩
 | ok x =>
 obtain ⟨x5,t5⟩:=x
 rw [hn5] at q
 obtain ⟨R5,_,rfl,rfl⟩:=q
 have len5:=(aA5 _ _ _ S4.R.fin hn5).2
 have S5':=S4.call hon k5 R5
 obtain ⟨f5,e5,S5,_⟩:=S5'.put wf hon 2 (.str x5) (strOne _) (by simp)
 simp only [go_sem,↓reduceIte,Nat.reduceEqDiff,aAC,Nat.zero_add,Nat.add_zero,Nat.reduceAdd,e5]
 simp only [splice,List.take_succ_cons,List.take_zero,List.length_cons,List.length_nil,List.drop_succ_cons,List.drop_zero,List.cons_append,List.nil_append,Nat.reduceAdd] at S5
 refine aAA (aAB ?_)
 simp only [aJd,go_sem,↓reduceIte,Nat.reduceEqDiff,enterS,List.getD_cons_zero,List.getD_cons_succ]
 refine (aEv S5.R (s := [44]) (by decide)).mono ?_
 rintro rr g6 ⟨k6,q⟩
 cases hn6:needP [44] t5 with
 | error e =>
  rw [hn6] at q
  subst q
  simp only [go_sem,↓reduceIte,Nat.reduceEqDiff]
  have:res = .error e:=by rw [← hres];simp only [relP,thenP,hn1,hn2,hn3,hn4,hn5,hn6]
  rw [this]
  exact ⟨S5.k.step k6,rfl⟩
 | ok x =>
 obtain ⟨⟨⟩,t6⟩:=x
 rw [hn6] at q
 obtain ⟨R6,_,rfl,rfl⟩:=q
 have len6:=(aA0 (by decide) _ _ _ S5.R.fin hn6).2
 have S6:=S5.call hon k6 R6
 simp only [go_sem,↓reduceIte,Nat.reduceEqDiff]
 refine aAA (aAB ?_)
 simp only [aJf,go_sem,↓reduceIte,Nat.reduceEqDiff,enterS,List.getD_cons_zero,List.getD_cons_succ]
 refine (aFm S6.R).mono ?_
 rintro rr g7 ⟨k7,q⟩
 cases hn7:nameP t6 with
 | error e =>
  rw [hn7] at q
  subst q
  simp only [go_sem,↓reduceIte,Nat.reduceEqDiff]
  have:res = .error e:=by rw [← hres];simp only [relP,thenP,hn1,hn2,hn3,hn4,hn5,hn6,hn7]
  rw [this]
  exact ⟨S6.k.step k7,rfl⟩
 | ok x =>
 obtain ⟨x7,t7⟩:=x
 rw [hn7] at q
 obtain ⟨R7,_,rfl,rfl⟩:=q
 have len7:=(aA5 _ _ _ S6.R.fin hn7).2
 have S7':=S6.call hon k7 R7
 obtain ⟨f7,e7,S7,_⟩:=S7'.put wf hon 3 (.str x7) (strOne _) (by simp)
 simp only [go_sem,↓reduceIte,Nat.reduceEqDiff,aAC,Nat.zero_add,Nat.add_zero,Nat.reduceAdd,e7]
 simp only [splice,List.take_succ_cons,List.take_zero,List.length_cons,List.length_nil,List.drop_succ_cons,List.drop_zero,List.cons_append,List.nil_append,Nat.reduceAdd] at S7
 refine aAA (aAB ?_)
 simp only [aJN,go_sem,↓reduceIte,Nat.reduceEqDiff,enterS,List.getD_cons_zero,List.getD_cons_succ]
 refine (aEv S7.R (s := [41]) (by decide)).mono ?_
 rintro rr g8 ⟨k8,q⟩
 cases hn8:needP [41] t7 with
 | error e =>
  rw [hn8] at q
  subst q
  simp only [go_sem,↓reduceIte,Nat.reduceEqDiff]
  have:res = .error e:=by rw [← hres];simp only [relP,thenP,hn1,hn2,hn3,hn4,hn5,hn6,hn7,hn8]
  rw [this]
  exact ⟨S7.k.step k8,rfl⟩
 | ok x =>
 obtain ⟨⟨⟩,t8⟩:=x
 rw [hn8] at q
 obtain ⟨R8,_,rfl,rfl⟩:=q
 have len8:=(aA0 (by decide) _ _ _ S7.R.fin hn8).2
 have S8:=S7.call hon k8 R8
 simp only [go_sem,↓reduceIte,Nat.reduceEqDiff]
 refine aAA (aAB ?_)
 simp only [aI7,go_sem,↓reduceIte,Nat.reduceEqDiff,enterS,List.getD_cons_zero,List.getD_cons_succ]
 refine (aEv S8.R (s := [58]) (by decide)).mono ?_
 rintro rr g9 ⟨k9,q⟩
 cases hn9:needP [58] t8 with
 | error e =>
  rw [hn9] at q
  subst q
  simp only [go_sem,↓reduceIte,Nat.reduceEqDiff]
  have:res = .error e:=by rw [← hres];simp only [relP,thenP,hn1,hn2,hn3,hn4,hn5,hn6,hn7,hn8,hn9]
  rw [this]
  exact ⟨S8.k.step k9,rfl⟩
 | ok x =>
 obtain ⟨⟨⟩,t9⟩:=x
 rw [hn9] at q
 obtain ⟨R9,_,rfl,rfl⟩:=q
 have len9:=(aA0 (by decide) _ _ _ S8.R.fin hn9).2
 have S9:=S8.call hon k9 R9
 simp only [go_sem,↓reduceIte,Nat.reduceEqDiff]
 -- who may stand in tuples
 have S9':=S9
 clear e1 e2 e3 e5 e7
 have hgs : ∀ x∈([o]:List Nat),x ∈ [o,h.n,h.n+2]:=by simp
 -- the end
 have tail2 : ∀ (g:H) (z:S) (sv ov:AV) (subs:List SubD) (ops:List OpD) (t11:List Tk),RS o deep h t11 [.str x1,.str x3,.str x5,.str x7,sv,ov] g→DL subC 2 [o,h.n,h.n+2] h.n g sv subs→DL opC 3 [o,h.n,h.n+2] h.n g ov ops→z 0 = .ptr o 0→z 2 = .ptr h.n 0→z 3 = .ptr (h.n+2) 0 →
  (∀ e,needP [59] t11 = .error e→res = .error e)→(∀ t12,needP [59] t11 = .ok ((),t12)→res = .ok (⟨x1,x3,x5,x7,subs,ops⟩,t12)) →
  WS (EL LX) (.seq (.ops aDH) (.seq (.ops aDI) .ret)) [] (atEnd aCm.results (PQ o deep h (fun h' v a => ∃ cs,v = .agg cs∧IsRel h.n h' cs a) res)) z g:=by
  intro g z sv ov subs ops t11 S ds do_ z0 z2 z3 he hk
  have hsv:AV.one sv=true:=by
   have h1:=ds.1.len
   cases sv <;> simp only [lenSA] at h1 <;> first | (cases h1;done) | rfl
  have hov:AV.one ov=true:=by
   have h1:=do_.1.len
   cases ov <;> simp only [lenSA] at h1 <;> first | (cases h1;done) | rfl
  refine aAA (aAB ?_)
  simp only [aDH,go_sem,↓reduceIte,Nat.reduceEqDiff,z0]
  refine (aEv S.R (s := [59]) (by decide)).mono ?_
  rintro rr g2 ⟨k,q⟩
  cases hn:needP [59] t11 with
  | error e =>
   rw [hn] at q
   subst q
   simp only [go_sem,↓reduceIte,Nat.reduceEqDiff]
   rw [he e hn]
   exact ⟨S.k.step k,rfl⟩
  | ok x =>
  obtain ⟨⟨⟩,t12⟩:=x
  rw [hn] at q
  obtain ⟨R2,_,rfl,rfl⟩:=q
  have S2:=S.call hon k R2
  have ds2:=ds.keepA k hgs
  have do2:=do_.keepA k hgs
  have hld:loadA g2 true 6 (.ptr (h.n+2) 0)=some (.agg [.str x1,.str x3,.str x5,.str x7,sv,ov]):=S2.b3.loadAgg rfl
  obtain ⟨g3,e3,b3,k3⟩:=Box.putAll R2.wf S2.b2 (vs := [.str x1,.str x3,.str x5,.str x7,sv,ov]) (n:=6) rfl (by simp only [List.all_cons,List.all_nil,hsv,hov,Bool.and_true];rfl) rfl
  have hlt:=S2.b2.lt R2.wf
  have R3:=R2.keep (k3.old R2.wf (by omega) (by simp;omega))
  have ds3:=ds2.keepA k3 (by simp)
  have do3:=do2.keepA k3 (by simp)
  simp only [go_sem,↓reduceIte,Nat.reduceEqDiff]
  refine aAA (aAB ?_)
  simp only [aDI,go_sem,↓reduceIte,Nat.reduceEqDiff,z2,z3,hld,e3]
  have hld2:loadA g3 true 6 (.ptr h.n 0)=some (.agg [.str x1,.str x3,.str x5,.str x7,sv,ov]):=b3.loadAgg rfl
  refine aAE ?_
  simp only [go_sem,aCm,List.map_cons,List.map_nil,go_sem,↓reduceIte,Nat.reduceEqDiff,z2,hld2]
  rw [hk t12 hn]
  have kk:KeepA [o] h g3:=KeepA.then wf S2.k k3 (by simp)
  exact ⟨kk,R3,_,rfl,_,rfl,sv,ov,rfl,⟨ds3.1,ds3.2.1⟩,⟨do3.1,do3.2.1⟩⟩
 have tail1 : ∀ (g:H) (z:S) (sv:AV) (subs:List SubD) (t10:List Tk),t10.length<1000000→RS o deep h t10 [.str x1,.str x3,.str x5,.str x7,sv,.slice (h.n+1) 0 1 3] g→DL subC 2 [o,h.n,h.n+2] h.n g sv subs→z 0 = .ptr o 0→z 2 = .ptr h.n 0→z 3 = .ptr (h.n+2) 0 →
  res=(thenP (if isNext t10 kIs=true then aA4 8 t10.tail else .ok ([(1,[],[])],t10)) fun ops t11=>thenP (needP [59] t11) fun _ t12 => .ok (⟨x1,x3,x5,x7,subs,ops⟩,t12)) →
  WS (EL LX) (.seq (.seq (.ops aEP) (.cond (.tmp 41) (.ops aE3) .skip)) (.seq (.ops aDH) (.seq (.ops aDI) .ret))) [] (atEnd aCm.results (PQ o deep h (fun h' v a => ∃ cs,v = .agg cs∧IsRel h.n h' cs a) res)) z g:=by
  intro g z sv subs t10 hlen S ds z0 z2 z3 hr
  refine aAA (aAA (aAB ?_))
  simp only [aEP,go_sem,↓reduceIte,Nat.reduceEqDiff,z0]
  refine (aHO S.R (s:=kIs) (by decide)).mono ?_
  rintro _ g2 ⟨rfl,R2,k2⟩
  simp only [go_sem,↓reduceIte,Nat.reduceEqDiff]
  have S2:=S.call hon k2 R2
  have ds2:=ds.keepA k2 hgs
  refine aAD ?_
  simp only [go_sem,↓reduceIte,Nat.reduceEqDiff]
  by_cases hc:isNext t10 kIs=true
  · rw [if_pos hc] at hr R2
    simp only [if_pos hc] at S2
    simp only [hc,go_sem,↓reduceIte,Nat.reduceEqDiff]
    refine aAB ?_
    simp only [aE3,go_sem,↓reduceIte,Nat.reduceEqDiff,z0]
    refine (aTk o 8 deep (by omega) g2 t10.tail R2 (by have:=aAg hc;omega)).mono ?_
    rintro rr g3 ⟨k3,q⟩
    cases hn:aA4 8 t10.tail with
    | error e =>
     rw [hn] at q
     subst q
     simp only [go_sem,↓reduceIte,Nat.reduceEqDiff]
     rw [hr,hn]
     exact ⟨S2.k.step k3,rfl⟩
    | ok x =>
    obtain ⟨ops,t11⟩:=x
    rw [hn] at q
    obtain ⟨R3,ov,rfl,fl⟩:=q
    have S3:=S2.call hon k3 R3
    have ds3:=ds2.keepA k3 hgs
    have hlt:=S2.b3.lt R2.wf
    obtain ⟨g4,e4,S4,k4⟩:=S3.put wf hon 5 ov fl.2.cells (by simp)
    simp only [splice,List.take_succ_cons,List.take_zero,List.length_cons,List.length_nil,List.drop_succ_cons,List.drop_zero,List.cons_append,List.nil_append,Nat.reduceAdd] at S4
    have dop:=fl.dl R3.wf (gs := [o,h.n,h.n+2]) (N:=h.n) (by omega) (by simp;omega)
    simp only [go_sem,↓reduceIte,Nat.reduceEqDiff,aAC,Nat.zero_add,Nat.add_zero,Nat.reduceAdd,z3,e4]
    refine tail2 g4 _ sv ov subs ops t11 S4 (ds3.keepA k4 (by simp)) (dop.keepA k4 (by simp)) z0 z2 z3 ?_ ?_
    · intro e he;rw [hr,hn];simp only [thenP,he]
    · intro t12 he;rw [hr,hn];simp only [thenP,he]
  · rw [if_neg hc] at hr R2
    simp only [if_neg hc] at S2
    simp only [hc,go_sem,↓reduceIte,Nat.reduceEqDiff,Bool.false_eq_true]
    refine aAF ?_
    simp only [go_sem]
    have dop:DL opC 3 [o,h.n,h.n+2] h.n g2 (.slice (h.n+1) 0 1 3) [((1,[],[]):OpD)]:=S2.b1.dl R2.wf rfl (by simp;omega) (by omega)
    refine tail2 g2 _ sv _ subs _ t10 S2 ds2 dop z0 z2 z3 ?_ ?_
    · intro e he;rw [hr];simp only [thenP,he]
    · intro t12 he;rw [hr];simp only [thenP,he]
 refine aAA (aAA (aAB ?_))
 simp only [aI8,go_sem,↓reduceIte,Nat.reduceEqDiff,enterS,List.getD_cons_zero,List.getD_cons_succ]
 refine (is_pr S9'.R [105,115]).mono ?_
 rintro _ ga ⟨rfl,rfl⟩
 have hrest:res=thenP (if isNext t9 kIs=false∧isNext t9 [59]=false then subsP t9.length [] t9 else .ok ([],t9)) fun subs t10=>thenP (if isNext t10 kIs=true then aA4 8 t10.tail else .ok ([(1,[],[])],t10)) fun ops t11=>thenP (needP [59] t11) fun _ t12 => .ok (⟨x1,x3,x5,x7,subs,ops⟩,t12):=by
  rw [← hres];unfold relP;rw [hn1];simp only [thenP,hn2,hn3,hn4,hn5,hn6,hn7,hn8,hn9]
 have hlast:t9.length<1000000:=by omega
 cases hi1:isNext t9 kIs
 · have hi1':isNext t9 [105,115]=false:=hi1
   simp only [hi1',Bool.not_false,go_sem,↓reduceIte,Nat.reduceEqDiff,wanted,decide_true,decide_false,beq_self_eq_true,pickA,show (false==true)=false from rfl,show (true==false)=false from rfl,Bool.false_eq_true,undefA,Bool.not_true,Bool.not_false]
   refine (is_pr S9'.R [59]).mono ?_
   rintro _ ga ⟨rfl,rfl⟩
   simp only [go_sem,↓reduceIte,Nat.reduceEqDiff,wanted,decide_true,decide_false,beq_self_eq_true,pickA,show (false==true)=false from rfl,show (true==false)=false from rfl,Bool.false_eq_true,undefA,Bool.not_true,Bool.not_false]
   refine aAD ?_
   cases hi2:isNext t9 [59]
   · simp only [Bool.not_false,go_sem,↓reduceIte,Nat.reduceEqDiff]
     refine aAB ?_
     simp only [aIO,go_sem,↓reduceIte,Nat.reduceEqDiff,enterS,List.getD_cons_zero,List.getD_cons_succ]
     refine (a2o S9'.R hlast).mono ?_
     rintro rr gb ⟨kb,q⟩
     rw [if_pos ⟨hi1,hi2⟩] at hrest
     cases hn:subsP t9.length [] t9 with
     | error e =>
      rw [hn] at q hrest
      subst q
      simp only [go_sem,↓reduceIte,Nat.reduceEqDiff]
      rw [hrest]
      exact ⟨S9'.k.step kb,rfl⟩
     | ok x =>
     obtain ⟨subs,t10⟩:=x
     rw [hn] at q hrest
     obtain ⟨Rb,sv,rfl,fl⟩:=q
     have Sb:=S9'.call hon kb Rb
     have hlt:=S9'.b3.lt S9'.R.wf
     obtain ⟨gc,ec,Sc,kc⟩:=Sb.put wf hon 4 sv fl.2.cells (by simp)
     simp only [splice,List.take_succ_cons,List.take_zero,List.length_cons,List.length_nil,List.drop_succ_cons,List.drop_zero,List.cons_append,List.nil_append,Nat.reduceAdd] at Sc
     have dsv:=fl.dl Rb.wf (gs := [o,h.n,h.n+2]) (N:=h.n) (by omega) (by simp;omega)
     simp only [go_sem,↓reduceIte,Nat.reduceEqDiff,aAC,Nat.zero_add,Nat.add_zero,Nat.reduceAdd,ec]
     have hlb:=(aMn _ _ _ _ _ S9'.R.fin hn).2
     exact tail1 gc _ sv subs t10 (by omega) Sc (dsv.keepA kc (by simp)) rfl rfl rfl hrest
   · simp only [Bool.not_true,go_sem,↓reduceIte,Nat.reduceEqDiff,Bool.false_eq_true]
     refine aAF ?_
     simp only [go_sem]
     rw [if_neg (by rw [hi2];simp)] at hrest
     exact tail1 _ _ .nils [] t9 hlast S9' (DL.nil _ _ _ _ _) rfl rfl rfl hrest
 · have hi1':isNext t9 [105,115]=true:=hi1
   simp only [hi1',Bool.not_true,go_sem,↓reduceIte,Nat.reduceEqDiff,wanted,decide_true,decide_false,beq_self_eq_true,pickA,show (false==true)=false from rfl,show (true==false)=false from rfl,Bool.false_eq_true,undefA,Bool.not_true,Bool.not_false]
   refine aAD ?_
   simp only [go_sem,↓reduceIte,Nat.reduceEqDiff,Bool.false_eq_true]
   refine aAF ?_
   simp only [go_sem]
   rw [if_neg (by rw [hi1];simp)] at hrest
   exact tail1 _ _ .nils [] t9 hlast S9' (DL.nil _ _ _ _ _) rfl rfl rfl hrest
end Go.Proofs.YtdbmeidhlijopaaGreatDoor.Ev.C

/- Schemas are read. -/
namespace Go.Proofs.YtdbmeidhlijopaaGreatDoor.Ev.C
open Go Go.Proofs.YtdbmeidhlijopaaGreatDoor.Ev
set_option linter.unusedSimpArgs false
set_option linter.unusedVariables false
theorem IsRel.rk {N:Nat} {h h':H} {cs:List AV} {r:RelD} (a:IsRel N h cs r) {gs:List Nat} (hg : ∀ g∈gs,g<N) (k:RK (Apart gs h) h h'):IsRel N h' cs r:=by
 obtain ⟨sv,ov,rfl,⟨s1,r1⟩,s2,r2⟩:=a
 exact ⟨sv,ov,rfl,⟨s1.rk k (r1.slotA hg),r1.rk hg k⟩,s2.rk k (r2.slotA hg),r2.rk hg k⟩
theorem IsRel.less {N N':Nat} {h:H} {cs:List AV} {r:RelD} (a:IsRel N h cs r) (hn:N'≤N):IsRel N' h cs r:=by
 obtain ⟨sv,ov,rfl,⟨s1,r1⟩,s2,r2⟩:=a
 exact ⟨sv,ov,rfl,⟨s1,r1.less hn⟩,s2,r2.less hn⟩
theorem aLf {h:H} {es n:Nat} {v:AV} {cs:List AV} (a:Sl h es v n cs):AV.one v=true∧v.cells = [v]:=by
 have h1:=a.len
 cases v <;> simp only [lenSA] at h1 <;> first | (cases h1;done) | exact ⟨rfl,rfl⟩
theorem IsRel.one {N:Nat} {h:H} {cs:List AV} {r:RelD} (a:IsRel N h cs r):cs.length=6∧cs.all AV.one=true:=by
 obtain ⟨sv,ov,rfl,⟨s1,r1⟩,s2,r2⟩:=a
 refine ⟨rfl,?_⟩
 simp only [List.all_cons,List.all_nil,(aLf s1).1,(aLf s2).1,Bool.and_true];rfl
def IsTyp (N:Nat) (h:H) (cs:List AV) (t:TypD):Prop := ∃ rv,cs = [.str t.name,rv]∧IsL N 6 (IsRel N) h rv t.rels
def IsSch (N:Nat) (h:H) (v:AV) (l:List TypD):Prop:=IsL N 2 (IsTyp N) h v l
theorem IsTyp.rk {N:Nat} {h h':H} {cs:List AV} {t:TypD} (a:IsTyp N h cs t) {gs:List Nat} (hg : ∀ g∈gs,g<N) (k:RK (Apart gs h) h h'):IsTyp N h' cs t:=by
 obtain ⟨rv,rfl,l⟩:=a
 exact ⟨rv,rfl,l.rk hg k fun cs x q=>q.rk hg k⟩
theorem IsTyp.less {N N':Nat} {h:H} {cs:List AV} {t:TypD} (a:IsTyp N h cs t) (hn:N'≤N):IsTyp N' h cs t:=by
 obtain ⟨rv,rfl,l⟩:=a
 exact ⟨rv,rfl,l.mono hn fun cs x q=>q.less hn⟩
theorem IsL.one {α:Type} {N es:Nat} {P:H→List AV→α→Prop} {h:H} {v:AV} {l:List α} (a:IsL N es P h v l):AV.one v=true∧v.cells = [v]:=by
 obtain ⟨_,css,s,_⟩:=a;exact aLf s
theorem IsSch.rk {N:Nat} {h h':H} {v:AV} {l:List TypD} (a:IsSch N h v l) {gs:List Nat} (hg : ∀ g∈gs,g<N) (k:RK (Apart gs h) h h'):IsSch N h' v l:=IsL.rk a hg k fun cs x q=>q.rk hg k
theorem IsSch.less {N N':Nat} {h:H} {v:AV} {l:List TypD} (a:IsSch N h v l) (hn:N'≤N):IsSch N' h v l:=IsL.mono a hn fun cs x q=>q.less hn
theorem af61 {cs:List AV} (hc:cs.length=6):afill (zeros [AV.str [],.str [],.str [],.str [],.nils,.nils] (1*6)) [(0,6,.agg cs)]=some cs:=by
 have:zeros [AV.str [],.str [],.str [],.str [],.nils,.nils] (1*6) = [AV.str [],.str [],.str [],.str [],.nils,.nils]:=rfl
 rw [this]
 simp only [afill,AV.cells,hc,List.length_cons,List.length_nil,Nat.reduceAdd]
 rw [if_pos ⟨trivial,by omega⟩,aUJ (by rw [hc];rfl)]
theorem afT2 (n:T8s):afill [AV.str [],.nils] [(0,1,.str n)]=some [.str n,.nils]:=rfl
theorem afT21 (x y:AV):afill (zeros [AV.str [],.nils] (1*2)) [(0,2,.agg [x,y])]=some [x,y]:=rfl
/-! ### the relations of one type -/
/-- while a type is read: bt is its variable -/
structure TS (o bt:Nat) (h:H) (n:T8s) (ts:List Tk) (rels:List RelD) (g:H):Prop where
 R:PR o ts 0 g
 k:KeepA [o] h g
 b : ∃ rv,Box bt [.str n,rv] g∧IsL (bt+1) 6 (IsRel (bt+1)) g rv rels∧OwnF (bt+1) g rv
theorem aZk {o bt:Nat} {h:H} {n:T8s} (wf:h.Wf) (hob:o<bt) (hob2:o<h.n) (hbt:h.n≤bt) {c:Nat} (hc:c<1000000) {res:PRs (List RelD)} {k:List Fr1} {Q:Post} {z:S} {g:H} {ts:List Tk} (T:TS o bt h n ts [] g)
 (hres:relsP ts.length [] ts=res) (hts:ts.length≤c) (z0:z 0 = .ptr o 0) (z4:z 4 = .ptr bt 0) (z3:z 3=z 3)
 (herr : ∀ e,res = .error e → ∀ s' g',KeepA [o] h g'→Q (.panic (faultV e)) s' g')
 (hok : ∀ rels t2,res = .ok (rels,t2) → ∀ s' g',TS o bt h n t2 rels g'→s' 0 = .ptr o 0→s' 4 = .ptr bt 0→s' 3=z 3→s' 2=z 2→WNext (EL LX) k Q s' g') :
 WS (EL LX) (.block 2 (.loop aDe)) k Q z g:=by
 refine aAG (aAP (fun m s g => ∃ t f acc,m=t.length∧t.length≤f∧relsP f acc t=res∧acc.length+t.length≤c∧TS o bt h n t acc g∧s 0 = .ptr o 0∧s 4 = .ptr bt 0∧s 3=z 3∧s 2=z 2) ?_ ts.length ?_)
 case refine_2=>exact ⟨ts,ts.length,[],rfl,Nat.le_refl _,hres,by simpa using hts,T,z0,z4,rfl,rfl⟩
 clear T hres hts z0 z4 z3
 rintro m s g ⟨t,f,acc,rfl,hf0,hres,hlen,T,z0,z4,z3,z2⟩
 show WS (EL LX) aDe _ _ _ _
 obtain ⟨f,rfl⟩ : ∃ f',f=f'+1:=⟨f - 1,by have:=List.length_pos_iff.2 T.R.fin.ne;omega⟩
 refine aAA (aAA (aAB ?_))
 simp only [aG8,go_sem,↓reduceIte,Nat.reduceEqDiff,z0]
 refine (aHO T.R (s:=kRel) (by decide)).mono ?_
 rintro _ g1 ⟨rfl,R1,k1⟩
 simp only [go_sem,↓reduceIte,Nat.reduceEqDiff]
 obtain ⟨rv,b,il,own⟩:=T.b
 have hbg:=b.lt T.R.wf
 have b1:=b.keepA T.R.wf k1 (by simp;omega)
 have il1:IsL (bt+1) 6 (IsRel (bt+1)) g1 rv acc:=IsL.rk il (gs := [o]) (by simp;omega) k1.rk fun cs x q=>q.rk (gs := [o]) (by simp;omega) k1.rk
 have own1:OwnF (bt+1) g1 rv:=own.keep ((own.rd T.R.wf).slotA (by simp;omega)) k1
 refine aAD ?_
 simp only [go_sem,↓reduceIte,Nat.reduceEqDiff]
 by_cases hr:isNext t kRel=true
 case neg =>
  rw [if_neg hr] at R1
  simp only [hr,go_sem,↓reduceIte,Nat.reduceEqDiff,Bool.false_eq_true]
  refine aAK ?_
  simp only [go_sem,↓reduceIte,Nat.reduceEqDiff]
  refine hok acc t ?_ _ _ ⟨R1,T.k.step k1,rv,b1,il1,own1⟩ z0 z4 z3 z2
  rw [← hres];simp only [relsP,if_neg hr]
 rw [if_pos hr] at R1
 simp only [hr,go_sem,↓reduceIte,Nat.reduceEqDiff]
 refine aAF ?_
 simp only [go_sem]
 have hpl:=aAg hr
 have l1:loadA g1 false 1 (.ptr bt 1)=some rv:=b1.load 1 1
 refine aAG (aSm (fun v g' => ∃ e,v=faultV e∧relP t.tail = .error e∧KeepA [o] h g') ?_ ?_)
 · rintro v g' ⟨e,rfl,he,kg⟩
   intro s' _
   simp only [go_sem]
   refine herr e ?_ s' g' kg
   rw [← hres];simp only [relsP,if_pos hr,he,thenP]
 simp only [aGY,go_sem,↓reduceIte,Nat.reduceEqDiff,aAC,Nat.zero_add,Nat.add_zero,Nat.reduceAdd,z0,z4,l1,wanted,and_self,true_and,List.filter_cons,List.filter_nil,Nat.testBit,Nat.reduceShiftRight,Nat.reduceAnd,Nat.reduceBNe,Bool.not_false,Bool.not_true,Bool.false_eq_true,bne_self_eq_false,WV]
 refine (rel_pr R1 rfl (by omega)).mono ?_
 rintro rr g2 ⟨k2,q⟩
 cases hrr:relP t.tail with
 | error e =>
  rw [hrr] at q
  subst q
  simp only [go_sem,↓reduceIte,Nat.reduceEqDiff]
  exact ⟨e,rfl,rfl,(T.k.step k1).step k2⟩
 | ok x =>
 obtain ⟨r,t2⟩:=x
 rw [hrr] at q
 obtain ⟨R2,_,rfl,cs,rfl,ir⟩:=q
 have hless:=(aTJ _ _ _ R1.fin hrr).2
 have n1:=k1.n
 have n2:=k2.n
 have b2:=b1.keepA R1.wf k2 (by simp;omega)
 have il2:IsL (bt+1) 6 (IsRel (bt+1)) g2 rv acc:=IsL.rk il1 (gs := [o]) (by simp;omega) k2.rk fun cs x q=>q.rk (gs := [o]) (by simp;omega) k2.rk
 have own2:OwnF (bt+1) g2 rv:=own1.keep ((own1.rd R1.wf).slotA (by simp;omega)) k2
 have ir2:IsRel (bt+1) g2 cs r:=ir.less (by omega)
 have l2:loadA g2 false 1 (.ptr bt 1)=some rv:=b2.load 1 1
 have k3:Keep (Old g2.n) g2 (g2.new cs):=Keep.new (Nat.le_refl _) _
 have y3:Sl (g2.new cs) 6 (.slice g2.n 0 1 6) 1 cs:=(Box.new R2.wf cs).sl1 ir.one.1
 have hn3:(g2.new cs).n=g2.n+1:=rfl
 have rk3:RK (Apart [] g2) g2 (g2.new cs):=k3.rk.apart
 have il3:IsL (bt+1) 6 (IsRel (bt+1)) (g2.new cs) rv acc:=IsL.rk il2 (gs := []) (by simp) rk3 fun cs x q=>q.rk (gs := []) (by simp) rk3
 have ir3:IsRel (bt+1) (g2.new cs) cs r:=ir2.rk (gs := []) (by simp) rk3
 have own3:OwnF (bt+1) (g2.new cs) rv:=own2.keep (((own2.rd R2.wf).slotA (gs := []) (by simp)).mono fun j q=>q.1) k3
 have b3:=b2.keep k3 (by show bt<g2.n;omega)
 have l3:loadA (g2.new cs) false 1 (.ptr bt 1)=some rv:=b3.load 1 1
 obtain ⟨v4,g4,e4,il4,own4,k4,rk4⟩:=IsL.app (k3.wf R2.wf) (by omega:bt+1≤(g2.new cs).n) il3 own3 (Nat.le_refl _) ir.one.1 ir.one.2 y3 ir3 (by omega) (fun h' rk cs x q=>q.rk (gs := []) (by simp) rk.apart)
 have b4:=b3.keep k4 (Nat.lt_succ_self bt)
 have wf4:=k4.wf (k3.wf R2.wf)
 obtain ⟨g5,e5,b5,k5⟩:=Box.put wf4 b4 (i:=1) (n:=1) (v:=v4) (by rw [own4.cells.1];rfl) (by rw [own4.cells.1];simp [own4.cells.2]) (by simp)
 have n4:=k4.n
 rw [own4.cells.1] at b5
 have R5:=((R2.keep (k3.less (by omega))).keep (k4.less (by omega))).keep (k5.old wf4 (by omega) (by simp;omega))
 have il5:IsL (bt+1) 6 (IsRel (bt+1)) g5 v4 (acc ++ [r]):=IsL.rk il4 (gs := [bt]) (by simp) k5.rk fun cs x q=>q.rk (gs := [bt]) (by simp) k5.rk
 have own5:OwnF (bt+1) g5 v4:=own4.keep ((own4.rd wf4).slotA (by simp)) k5
 have hng:=T.k.n
 have k05:KeepA [o] h g5:=KeepA.then wf (((((T.k.step k1).step k2).stepN k3 (by omega)).stepN k4 (by omega))) k5 (by simp;omega)
 simp only [go_sem,↓reduceIte,Nat.reduceEqDiff,aAC,Nat.zero_add,Nat.add_zero,Nat.reduceAdd,parts,List.map_cons,List.map_nil,af61 ir.one.1,l2,l3,e4,e5,z4,and_self,true_and,List.filter_cons,List.filter_nil,Nat.testBit,Nat.reduceShiftRight,Nat.reduceAnd,Nat.reduceBNe,Bool.not_false,Bool.not_true,Bool.false_eq_true,bne_self_eq_false,WV]
 refine ⟨t2.length,by omega,t2,f,_,rfl,by omega,?_,?_,⟨R5,k05,v4,b5,il5,own5⟩,z0,z3,z2⟩
 · rw [← hres];simp only [relsP,if_pos hr,hrr,thenP]
 · simp;omega
/-- while a schema is read -/
structure SS (o:Nat) (h:H) (ts:List Tk) (acc:List TypD) (g:H):Prop where
 R:PR o ts 0 g
 k:KeepA [o] h g
 b2:Box h.n [.nils] g
 b3 : ∃ v,Box (h.n+1) [v] g∧IsSch (h.n+2) g v acc∧OwnF (h.n+2) g v
theorem SS.call {o:Nat} {h:H} {ts t2:List Tk} {acc:List TypD} {g g2:H} (S:SS o h ts acc g) (ho:o<h.n) (k:KeepA [o] g g2) (R:PR o t2 0 g2):SS o h t2 acc g2:=by
 obtain ⟨v,b,i,w⟩:=S.b3
 exact ⟨R,S.k.step k,S.b2.keepA S.R.wf k (by simp;omega),v,b.keepA S.R.wf k (by simp;omega),i.rk (gs := [o]) (by simp;omega) k.rk,w.keep ((w.rd S.R.wf).slotA (by simp;omega)) k⟩
theorem a0K {o:Nat} {h:H} {ts:List Tk} (R:PR o ts 0 h) (hts:ts.length<100000) :
 WCall (EL LX) aDo [.ptr o 0] h (PQ o 0 h (fun h' v a => ∃ w,v = .agg [w]∧IsSch h.n h' w a) (aDX ts)):=by
 have hon:=R.lt
 have wf:=R.wf
 refine aAI ((EL_ov _ _).trans rfl) (EL_T aOP) (by simp [aDg]) ?_
 refine aAA (aAB ?_)
 simp only [aG5,go_sem,↓reduceIte,Nat.reduceEqDiff,enterS,List.getD_cons_zero,List.getD_cons_succ]
 have q1:=Box.new wf [AV.nils]
 have k1:Keep (Old h.n) h (h.new [AV.nils]):=Keep.new (Nat.le_refl _) _
 have hn1:(h.new [AV.nils]).n=h.n+1:=rfl
 generalize h.new [AV.nils]=h1 at q1 k1 hn1
 have wf1:=k1.wf wf
 have q2:=Box.new wf1 [AV.nils]
 have k2:Keep (Old h1.n) h1 (h1.new [AV.nils]):=Keep.new (Nat.le_refl _) _
 refine aAA (aAB ?_)
 simp only [aGL,go_sem,↓reduceIte,Nat.reduceEqDiff,enterS,List.getD_cons_zero,List.getD_cons_succ,hn1]
 rw [hn1] at q2
 generalize h1.new [AV.nils]=h2 at q2 k2
 have S0:SS o h ts [] h2:=by
  have kk:Keep (Old h.n) h h2:=k1.trans (k2.less (by omega))
  exact ⟨R.keep (kk.less (by omega)),KeepA.of kk,q1.keep k2 (by show h.n<h1.n;omega),.nils,q2,IsL.nil _ _ _ _,trivial⟩
 clear q1 q2 k1 k2 hn1 wf1
 generalize hres:aDX ts=res
 generalize hty:typsP ts.length [] ts=tres
 have hr1 : ∀ e,tres = .error e→res = .error e:=by intro e he;rw [← hres];simp only [aDX,hty,he,thenP]
 refine aAA (aAG (aAP (fun m s g => ∃ t f acc,m=t.length∧t.length≤f∧typsP f acc t=tres∧acc.length+t.length≤ts.length∧SS o h t acc g∧s 0 = .ptr o 0∧s 3 = .ptr (h.n+1) 0∧s 2 = .ptr h.n 0) ?_ ts.length ?_))
 case refine_2=>exact ⟨ts,ts.length,[],rfl,Nat.le_refl _,hty,by simp,S0,rfl,rfl,rfl⟩
 have hty0:=hty
 clear S0 hty R
 rintro m s g ⟨t,f,acc,rfl,hf0,hty,hlen,S,z0,z3,z2⟩
 show WS (EL LX) aFx _ _ _ _
 obtain ⟨f,rfl⟩ : ∃ f',f=f'+1:=⟨f - 1,by have:=List.length_pos_iff.2 S.R.fin.ne;omega⟩
 refine aAA (aAA (aAB ?_))
 simp only [aG4,go_sem,↓reduceIte,Nat.reduceEqDiff,z0]
 refine (aHO S.R (s:=kType) (by decide)).mono ?_
 rintro _ g1 ⟨rfl,R1,k1⟩
 simp only [go_sem,↓reduceIte,Nat.reduceEqDiff]
 refine aAD ?_
 simp only [go_sem,↓reduceIte,Nat.reduceEqDiff]
 by_cases hr:isNext t kType=true
 case neg =>
  rw [if_neg hr] at R1
  simp only [hr,go_sem,↓reduceIte,Nat.reduceEqDiff,Bool.false_eq_true]
  have S1:=S.call hon k1 R1
  have htr:tres = .ok (acc,t):=by rw [← hty];simp only [typsP,if_neg hr]
  refine aAK ?_
  simp only [go_sem,↓reduceIte,Nat.reduceEqDiff]
  obtain ⟨t0,r,lv,to,tj,lv',rfl,l0,l1,e1,e2,e3,e4,e5,e6,_⟩:=aGn R1
  have e2:loadA g1 false 1 (.ptr to tj)=some (.int .i64 (t0.1:Int)):=e2
  have hrs:res=if t0.1=3 then .ok (acc,t0::r) else failP 30 (t0::r):=by
   rw [← hres]
   have:typsP ts.length [] ts = .ok (acc,t0::r):=hty0.trans htr
   simp only [aDX,this,thenP]
  refine aAA (aAA (aAB ?_))
  simp only [aGA,go_sem,↓reduceIte,Nat.reduceEqDiff,aAC,Nat.zero_add,Nat.add_zero,z0,l0,e1,e2]
  refine aAD ?_
  by_cases h3:t0.1=3
  · rw [if_pos h3] at hrs
    have h3':((t0.1:Nat):Int)=3:=by omega
    simp only [h3',decide_true,Bool.not_true,go_sem,↓reduceIte,Nat.reduceEqDiff,Bool.false_eq_true]
    refine aAF ?_
    simp only [go_sem]
    obtain ⟨v,b,i,w⟩:=S1.b3
    have hld:loadA g1 true 1 (.ptr (h.n+1) 0)=some (.agg [v]):=b.loadAgg rfl
    obtain ⟨g2,ep,b2,k2⟩:=Box.putAll R1.wf S1.b2 (vs := [v]) (n:=1) rfl (by simp [(IsL.one i).1]) rfl
    have hlt:=S1.b2.lt R1.wf
    have R2:=R1.keep (k2.old R1.wf (by omega) (by simp;omega))
    have hld2:loadA g2 true 1 (.ptr h.n 0)=some (.agg [v]):=b2.loadAgg rfl
    refine aAA (aAB ?_)
    simp only [aFt,go_sem,↓reduceIte,Nat.reduceEqDiff,z2,z3,hld,ep]
    refine aAE ?_
    simp only [go_sem,aDg,List.map_cons,List.map_nil,go_sem,↓reduceIte,Nat.reduceEqDiff,z2,hld2]
    rw [hrs]
    exact ⟨KeepA.then wf S1.k k2 (by simp),R2,_,rfl,v,rfl,(i.rk (gs := [h.n]) (by simp) k2.rk).less (by omega)⟩
  · rw [if_neg h3] at hrs
    have h3' : ¬ ((t0.1:Nat):Int)=3:=by omega
    simp only [h3',decide_false,Bool.not_false,go_sem,↓reduceIte,Nat.reduceEqDiff]
    refine aAB ?_
    simp only [aFu,go_sem,↓reduceIte,Nat.reduceEqDiff,z0]
    refine (aK0 R1 30).mono ?_
    rintro _ g2 ⟨rfl,rfl⟩
    simp only [go_sem,↓reduceIte,Nat.reduceEqDiff]
    rw [hrs]
    exact ⟨S1.k,rfl⟩
 rw [if_pos hr] at R1
 simp only [hr,go_sem,↓reduceIte,Nat.reduceEqDiff]
 refine aAF ?_
 simp only [go_sem]
 have S1:=S.call hon k1 R1
 have hpl:=aAg hr
 have n1:=S1.k.n
 have hb1:h.n+1<g1.n:=by obtain ⟨v,b,_⟩:=S1.b3;exact b.lt R1.wf
 refine aAG (aAA (aAB ?_))
 simp only [aGQ,go_sem,↓reduceIte,Nat.reduceEqDiff,z0]
 refine (aFm R1).mono ?_
 rintro rr g2 ⟨k2,q⟩
 cases hn1:nameP t.tail with
 | error e =>
  rw [hn1] at q
  subst q
  simp only [go_sem,↓reduceIte,Nat.reduceEqDiff]
  rw [hr1 e (by rw [← hty];simp only [typsP,if_pos hr,typP,hn1,thenP])]
  exact ⟨S1.k.step k2,rfl⟩
 | ok x =>
 obtain ⟨n,t1⟩:=x
 rw [hn1] at q
 obtain ⟨R2,_,rfl,rfl⟩:=q
 have len1:=(aA5 _ _ _ R1.fin hn1).2
 have n2:=k2.n
 obtain ⟨g3,e3,b3,k3⟩:=Box.init R2.wf (z := [AV.str [],.nils]) (cs := [.str n,.nils]) (n:=2) rfl rfl rfl
 have R3:=R2.keep (k3.less (by omega))
 simp only [go_sem,↓reduceIte,Nat.reduceEqDiff,parts,List.map_cons,List.map_nil,afT2,Option.map_some,e3]
 refine aAA (aAB ?_)
 simp only [aGJ,go_sem,↓reduceIte,Nat.reduceEqDiff,z0]
 refine (aEv R3 (s := [123]) (by decide)).mono ?_
 rintro rr g4 ⟨k4,q⟩
 have k14:KeepA [o] g1 g3:=k2.stepN k3 n2
 cases hn2:needP [123] t1 with
 | error e =>
  rw [hn2] at q
  subst q
  simp only [go_sem,↓reduceIte,Nat.reduceEqDiff]
  rw [hr1 e (by rw [← hty];simp only [typsP,if_pos hr,typP,hn1,hn2,thenP])]
  exact ⟨(S1.k.step k14).step k4,rfl⟩
 | ok x =>
 obtain ⟨⟨⟩,t2⟩:=x
 rw [hn2] at q
 obtain ⟨R4,_,rfl,rfl⟩:=q
 have len2:=(aA0 (by decide) _ _ _ R3.fin hn2).2
 have T4:TS o g2.n g1 n t2 [] g4:=⟨R4,k14.step k4,.nils,b3.keepA R3.wf k4 (by simp;omega),IsL.nil _ _ _ _,trivial⟩
 simp only [go_sem,↓reduceIte,Nat.reduceEqDiff]
 generalize hrel:relsP t2.length [] t2=rres
 refine aAA (aZk (bt:=g2.n) (h:=g1) R1.wf (by omega) (by omega) n2 (c:=ts.length) (by omega) T4 hrel (by omega) z0 rfl rfl ?_ ?_)
 · intro e he s' g' kg
   simp only [go_sem]
   rw [hr1 e (by rw [← hty];simp only [typsP,if_pos hr,typP,hn1,hn2,hrel,he,thenP])]
   exact ⟨S1.k.step kg,rfl⟩
 intro rels t3 hok s' g5 T5 y0 y4 y3 y2
 have y3:s' 3 = .ptr (h.n+1) 0:=y3.trans z3
 have y2:s' 2 = .ptr h.n 0:=y2.trans z2
 have len3:=(aM6 _ _ _ _ _ R4.fin (hrel.trans hok)).2
 simp only [go_sem]
 refine aAA (aAB ?_)
 simp only [aGd,go_sem,↓reduceIte,Nat.reduceEqDiff,y0]
 refine (aEv T5.R (s := [125]) (by decide)).mono ?_
 rintro rr g6 ⟨k6,q⟩
 cases hn3:needP [125] t3 with
 | error e =>
  rw [hn3] at q
  subst q
  simp only [go_sem,↓reduceIte,Nat.reduceEqDiff]
  rw [hr1 e (by rw [← hty];simp only [typsP,if_pos hr,typP,hn1,hn2,hrel,hok,hn3,thenP])]
  exact ⟨(S1.k.step T5.k).step k6,rfl⟩
 | ok x =>
 obtain ⟨⟨⟩,t4⟩:=x
 rw [hn3] at q
 obtain ⟨R6,_,rfl,rfl⟩:=q
 have len4:=(aA0 (by decide) _ _ _ T5.R.fin hn3).2
 have S6:=S1.call hon (T5.k.step k6) R6
 obtain ⟨rv,b5,il5,own5⟩:=T5.b
 have hbt5:=b5.lt T5.R.wf
 have b6:=b5.keepA T5.R.wf k6 (by simp;omega)
 have il6:IsL (g2.n+1) 6 (IsRel (g2.n+1)) g6 rv rels:=IsL.rk il5 (gs := [o]) (by simp;omega) k6.rk fun cs x q=>q.rk (gs := [o]) (by simp;omega) k6.rk
 have n6:=k6.n
 have hone:=IsL.one il6
 simp only [go_sem,↓reduceIte,Nat.reduceEqDiff]
 obtain ⟨v,b,i,w⟩:=S6.b3
 have l3:loadA g6 false 1 (.ptr (h.n+1) 0)=some v:=b.load 1 0
 have l4:loadA g6 true 2 (.ptr g2.n 0)=some (.agg [.str n,rv]):=b6.loadAgg rfl
 have it:IsTyp (h.n+2) g6 [.str n,rv] ⟨n,rels⟩:=⟨rv,rfl,il6.mono (by omega) fun cs x q=>q.less (by omega)⟩
 have k7:Keep (Old g6.n) g6 (g6.new [.str n,rv]):=Keep.new (Nat.le_refl _) _
 have y7:Sl (g6.new [.str n,rv]) 2 (.slice g6.n 0 1 2) 1 [.str n,rv]:=(Box.new R6.wf [AV.str n,rv]).sl1 rfl
 have rk7:RK (Apart [] g6) g6 (g6.new [.str n,rv]):=k7.rk.apart
 have i7:IsSch (h.n+2) (g6.new [.str n,rv]) v acc:=i.rk (gs := []) (by simp) rk7
 have w7:OwnF (h.n+2) (g6.new [.str n,rv]) v:=w.keep (((w.rd R6.wf).slotA (gs := []) (by simp)).mono fun j q=>q.1) k7
 have b7:=b.keep k7 (b.lt R6.wf)
 have hn7:(g6.new [.str n,rv]).n=g6.n+1:=rfl
 have hblt:=b.lt R6.wf
 obtain ⟨v8,g8,e8,i8,w8,k8,rk8⟩:=IsL.app (k7.wf R6.wf) (by omega:h.n+2≤(g6.new [.str n,rv]).n) i7 w7 (Nat.le_refl _) (x:=(⟨n,rels⟩:TypD)) rfl (by simp only [List.all_cons,List.all_nil,hone.1,Bool.and_true];rfl) y7 (it.rk (gs := []) (by simp) rk7) (by omega) (fun h' rk cs x q=>q.rk (gs := []) (by simp) rk.apart)
 have wf8:=k8.wf (k7.wf R6.wf)
 have b8:=b7.keep k8 (by show h.n+1<h.n+2;omega)
 obtain ⟨g9,e9,b9,k9⟩:=Box.put wf8 b8 (i:=0) (n:=1) (v:=v8) (by rw [w8.cells.1];rfl) (by rw [w8.cells.1];simp [w8.cells.2]) (by simp)
 rw [w8.cells.1] at b9
 have n8:=k8.n
 have n56:=T5.k.n
 have R9:=((R6.keep (k7.less (by omega))).keep (k8.less (by omega))).keep (k9.old wf8 (by omega) (by simp;omega))
 have k09:KeepA [o] h g9:=KeepA.then wf ((S6.k.stepN k7 (by omega)).stepN k8 (by omega)) k9 (by simp)
 refine aAB ?_
 simp only [aGb,go_sem,↓reduceIte,Nat.reduceEqDiff,aAC,Nat.zero_add,Nat.add_zero,Nat.reduceAdd,y3,y4,l3,l4,parts,List.map_cons,List.map_nil,afT21,e8,e9]
 have S9:SS o h t4 (acc ++ [⟨n,rels⟩]) g9:=⟨R9,k09,((S6.b2.keep k7 (by show h.n<g6.n;omega)).keep k8 (by show h.n<h.n+2;omega)).keepA wf8 k9 (by simp),v8,b9,IsSch.rk i8 (gs := [h.n+1]) (by simp) k9.rk,w8.keep ((w8.rd wf8).slotA (by simp)) k9⟩
 refine ⟨t4.length,by omega,t4,f,_,rfl,by omega,?_,?_,S9,y0,trivial,y2⟩
 · rw [← hty];simp only [typsP,if_pos hr,typP,hn1,hn2,hrel,hok,hn3,thenP]
 · simp;omega
end Go.Proofs.YtdbmeidhlijopaaGreatDoor.Ev.C

/- parse.Parse walked. -/
namespace Go.Proofs.YtdbmeidhlijopaaGreatDoor.Ev.C
open Go Go.Proofs.YtdbmeidhlijopaaGreatDoor.Ev
set_option linter.unusedSimpArgs false
set_option linter.unusedVariables false
theorem EL_D {L:List Ovr} {i:Nat} {a:ADef} (h:tableD PP i=some a):(EL L).D i=some a:=by unfold EL;rw [env_D];exact h
theorem EL_R {L:List Ovr} {i:Nat} {a:ARec} (h:tableR PP i=some a):(EL L).R i=some a:=by unfold EL;rw [env_R];exact h
/-- what Parse answers -/
def ParseQ (s:T8s) (h:H):AOut→H→Prop:=fun r h'=>Keep (Old h.n) h h'∧match parseP (lexP s) with
 | .ok l => ∃ w,r = .val (.tup [.agg [w],.int .i64 0,.int .i64 0])∧IsSch h.n h' w l
 | .error e=>r = .val (.tup [.agg [.nils],.int .i64 e.1,.int .i64 (e.2:Int)])
/-- the three results stand in variables -/
structure P3 (h:H) (w:AV) (e a:Int) (g:H):Prop where
 wf:g.Wf
 k:Keep (Old h.n) h g
 b0:Box h.n [w] g
 b1:Box (h.n+1) [.int .i64 e] g
 b2:Box (h.n+2) [.int .i64 a] g
theorem P3.resA {h g:H} {w:AV} {e a:Int} (p:P3 h w e a g) {s:S} (s2:s 2 = .ptr h.n 0) (s3:s 3 = .ptr (h.n+1) 0) (s4:s 4 = .ptr (h.n+2) 0) :
 aA7 aEn.results s g=some (.tup [.agg [w],.int .i64 e,.int .i64 a]):=by
 have l0:loadA g true 1 (.ptr h.n 0)=some (.agg [w]):=p.b0.loadAgg rfl
 have l1:loadA g false 1 (.ptr (h.n+1) 0)=some (.int .i64 e):=p.b1.load 1 0
 have l2:loadA g false 1 (.ptr (h.n+2) 0)=some (.int .i64 a):=p.b2.load 1 0
 simp only [aEn,aA7,aFY,aJo,s2,s3,s4,l0,l1,l2,AOpd.ev,Option.map_some]
theorem P3.results {h g:H} {w:AV} {e a:Int} (p:P3 h w e a g) {s:S} (s2:s 2 = .ptr h.n 0) (s3:s 3 = .ptr (h.n+1) 0) (s4:s 4 = .ptr (h.n+2) 0) {R:AOut→H→Prop} (hR:R (.val (.tup [.agg [w],.int .i64 e,.int .i64 a])) g) :
 atLast aEn.results s R g:=by
 unfold atLast
 rw [p.resA s2 s3 s4]
 exact hR
theorem aVJ {E:Env} {g d:Nat} {cs:List AV} {fn:ARec} {u:Option AV} {h:H} {R:H→Prop} (hR:E.R g=some fn) (hl:cs.length≤fn.ntmps) (ho:fn.ops = [⟨some d,.mov (.tmp fn.dst),none⟩])
 (w:WS E fn.body [] (fun ex _ h=>(ex = .normal∨ex = .ret)∧R h) (upd (upd (enterS cs) (some fn.dst) (u.getD .nili)) (some d) (u.getD .nili)) h):WRec E (.func g cs) u h R:=by
 refine a1d hR hl ?_
 rw [ho]
 unfold WOpsG
 simp only [show ∀ s,wanted none s=true from fun _=>rfl,if_true]
 unfold WOpG
 simp only [exec,AOpd.ev,a2m]
 unfold WOpsG
 refine ⟨rfl,?_⟩
 have:(upd (enterS cs) (some fn.dst) (u.getD .nili)) fn.dst=u.getD .nili:=by simp [upd]
 rw [this]
 exact w
theorem aWy {h g:H} {w:AV} {e a:Int} (p:P3 h w e a g) {R:H→Prop} (hR : ∀ g',P3 h w e a g'→Keep (Old g.n) g g'→R g'):WRec (EL LX) (.func aFO [.ptr h.n 0,.ptr (h.n+1) 0,.ptr (h.n+2) 0]) none g R:=by
 refine aVJ (d:=3) (EL_R aMm) (by simp [aD7]) rfl ?_
 show WS (EL LX) aIC [] _ _ _
 refine aAA (aAB ?_)
 simp only [aGt,aD7,go_sem,↓reduceIte,Nat.reduceEqDiff,enterS,List.getD_cons_zero,List.getD_cons_succ,Option.getD_none,Option.getD_some]
 have as1:aHf aEq (.agg [.int .i64 0,.int .i64 0]) true .nili=some (.tup [.agg [.int .i64 0,.int .i64 0],.bool false]):=rfl
 obtain ⟨g1,e1,b1,k1⟩:=Box.init p.wf (z := [AV.int .i64 0,.int .i64 0]) (cs := [.int .i64 0,.int .i64 0]) (n:=2) rfl rfl rfl
 simp only [as1,go_sem,↓reduceIte,Nat.reduceEqDiff,aAM,List.getElem?_cons_zero,List.getElem?_cons_succ,e1]
 refine aAA (aAB ?_)
 simp only [aGv,go_sem,↓reduceIte,Nat.reduceEqDiff]
 refine aAD ?_
 simp only [go_sem,↓reduceIte,Nat.reduceEqDiff,Bool.false_eq_true]
 refine aAA (aAB ?_)
 simp only [aLm,go_sem,↓reduceIte,Nat.reduceEqDiff,show eqA .nilI .nili .nili=some true from rfl,Option.map_some]
 refine aAD ?_
 simp only [go_sem,↓reduceIte,Nat.reduceEqDiff,Bool.not_true,Bool.false_eq_true]
 refine aAF ?_
 have hlt0:=p.b0.lt p.wf
 have hlt1:=p.b1.lt p.wf
 have hlt2:=p.b2.lt p.wf
 simp only [go_sem]
 exact ⟨.inl trivial,hR g1 ⟨k1.wf p.wf,p.k.trans (k1.less (by omega)),p.b0.keep k1 hlt0,p.b1.keep k1 hlt1,p.b2.keep k1 hlt2⟩ k1⟩
theorem aVl {h g:H} {w:AV} {e a:Int} (p:P3 h w e a g) (x:Int×Nat) {R:H→Prop} (hR : ∀ g',P3 h .nils x.1 (x.2:Int) g'→R g'):WRec (EL LX) (.func aFO [.ptr h.n 0,.ptr (h.n+1) 0,.ptr (h.n+2) 0]) (some (faultV x)) g R:=by
 refine aVJ (d:=3) (EL_R aMm) (by simp [aD7]) rfl ?_
 show WS (EL LX) aIC [] _ _ _
 refine aAA (aAB ?_)
 simp only [aGt,aD7,go_sem,↓reduceIte,Nat.reduceEqDiff,enterS,List.getD_cons_zero,List.getD_cons_succ,Option.getD_none,Option.getD_some]
 have as1:aHf aEq (.agg [.int .i64 0,.int .i64 0]) true (faultV x)=some (.tup [.agg [.int .i64 x.1,.int .i64 (x.2:Int)],.bool true]):=by simp [aHf,faultV]
 obtain ⟨g1,e1,b1,k1⟩:=Box.init p.wf (z := [AV.int .i64 0,.int .i64 0]) (cs := [.int .i64 x.1,.int .i64 (x.2:Int)]) (n:=2) rfl rfl rfl
 simp only [as1,go_sem,↓reduceIte,Nat.reduceEqDiff,aAM,List.getElem?_cons_zero,List.getElem?_cons_succ,e1]
 have wf1:=k1.wf p.wf
 have hlt0:=p.b0.lt p.wf
 have hlt1:=p.b1.lt p.wf
 have hlt2:=p.b2.lt p.wf
 have p1:P3 h w e a g1:=⟨wf1,p.k.trans (k1.less (by omega)),p.b0.keep k1 hlt0,p.b1.keep k1 hlt1,p.b2.keep k1 hlt2⟩
 have m0:loadA g1 false 1 (.ptr g.n 0)=some (.int .i64 x.1):=b1.load 1 0
 have m1:loadA g1 false 1 (.ptr g.n 1)=some (.int .i64 (x.2:Int)):=b1.load 1 1
 obtain ⟨g2,e2,c2,k2⟩:=Box.put wf1 p1.b0 (i:=0) (n:=1) (v := .agg [.nils]) rfl rfl (by simp)
 have wf2:=k2.wf wf1
 have d2:=b1.keepA wf1 k2 (by simp;omega)
 have f2:=p1.b1.keepA wf1 k2 (by simp)
 have h2:=p1.b2.keepA wf1 k2 (by simp)
 obtain ⟨g3,e3,c3,k3⟩:=Box.put wf2 f2 (i:=0) (n:=1) (v := .int .i64 x.1) rfl rfl (by simp)
 have wf3:=k3.wf wf2
 have d3:=d2.keepA wf2 k3 (by simp;omega)
 have h3:=h2.keepA wf2 k3 (by simp)
 have c23:=c2.keepA wf2 k3 (by simp)
 obtain ⟨g4,e4,c4,k4⟩:=Box.put wf3 h3 (i:=0) (n:=1) (v := .int .i64 (x.2:Int)) rfl rfl (by simp)
 have wf4:=k4.wf wf3
 have m02:loadA g2 false 1 (.ptr g.n 0)=some (.int .i64 x.1):=d2.load 1 0
 have m12:loadA g2 false 1 (.ptr g.n 1)=some (.int .i64 (x.2:Int)):=d2.load 1 1
 have m13:loadA g3 false 1 (.ptr g.n 1)=some (.int .i64 (x.2:Int)):=d3.load 1 1
 have m03:loadA g3 false 1 (.ptr g.n 0)=some (.int .i64 x.1):=d3.load 1 0
 refine aAA (aAB ?_)
 simp only [aGv,go_sem,↓reduceIte,Nat.reduceEqDiff]
 refine aAD ?_
 simp only [go_sem,↓reduceIte,Nat.reduceEqDiff]
 refine aAS ?_
 have bn:afill [AV.nils] []=some [.nils]:=rfl
 simp only [aLv,go_sem,↓reduceIte,Nat.reduceEqDiff,aAC,Nat.zero_add,Nat.add_zero,Nat.reduceAdd,wanted,parts,List.map_nil,bn,Option.map_some,m0,m1,m02,m12,m13,m03,e2,e3,e4,and_self,true_and,List.filter_cons,List.filter_nil,Nat.testBit,Nat.reduceShiftRight,Nat.reduceAnd,Nat.reduceBNe,Bool.not_false,Bool.not_true,Bool.false_eq_true,bne_self_eq_false,WV]
 refine ⟨.inl trivial,hR g4 ⟨wf4,((p1.k.trans (k2.old wf1 (by have:=p1.k.n;omega) (by simp))).trans (k3.old wf2 (by have:=p1.k.n;have:=k2.n;omega) (by simp))).trans (k4.old wf3 (by have:=p1.k.n;have:=k2.n;have:=k3.n;omega) (by simp)),c23.keepA wf3 k4 (by simp),c3.keepA wf3 k4 (by simp),c4⟩⟩
theorem aXN (s:T8s) : ∀ (f i:Nat) (acc:List Tk) (l:List Tk),lexF s f i acc = .ok l→EndT l∧l.length≤acc.length+f+1
 | 0,i,acc,l,h=>by cases h;exact ⟨⟨acc,i,rfl⟩,by simp⟩
 | f+1,i,acc,l,h=>by
  simp only [lexF] at h
  split at h
  · split at h
    · obtain ⟨h1,h2⟩:=aXN s f _ _ _ h
      refine ⟨h1,?_⟩
      have:(lexS s i).1.toList.length≤1:=by cases (lexS s i).1 <;> simp
      simp at h2;omega
    · cases h
  · cases h;exact ⟨⟨acc,i,rfl⟩,by simp⟩
theorem aWt {s:T8s} {l:List Tk} (h:lexP s = .ok l):EndT l∧l.length≤2049:=by
 unfold lexP at h
 split at h
 · cases h
 split at h
 · cases h
 · rename_i h1 _
   obtain ⟨q1,q2⟩:=aXN s _ _ _ _ h
   exact ⟨q1,by simp at q2;omega⟩
theorem aWS (s:T8s) : ∀ (f i:Nat) (acc:List Tk) (e:Int×Nat),lexF s f i acc = .error e→e.1≠0
 | 0,i,acc,e,h=>by cases h
 | f+1,i,acc,e,h=>by
  simp only [lexF] at h
  split at h
  · split at h
    · exact aWS s f _ _ _ h
    · cases h;assumption
  · cases h
theorem aW7 {s:T8s} {e:Int×Nat} (h:lexP s = .error e):e.1≠0:=by
 unfold lexP at h
 split at h
 · cases h;decide
 split at h
 · cases h;show (11:Int)≠0;decide
 · exact aWS s _ _ _ _ h
theorem aYt (s:T8s) (hs:s.length<1000000) {h:H} (wf:h.Wf) (ks:KStart h) (h2:2≤h.n):WCall (EL LX) aLQ [.str s] h (ParseQ s h):=by
 refine aZu ((EL_ov _ _).trans rfl) (EL_D aV4) (by simp [aEn]) ?_
 have q0:=Box.new wf [AV.nils]
 have k0:Keep (Old h.n) h (h.new [AV.nils]):=Keep.new (Nat.le_refl _) _
 have n0:(h.new [AV.nils]).n=h.n+1:=rfl
 refine WD_seq ?_
 show WS (EL LX) _ [] _ _ _
 refine aAB ?_
 simp only [aOi,go_sem,↓reduceIte,Nat.reduceEqDiff,enterS,List.getD_cons_zero,List.getD_cons_succ,n0]
 generalize h.new [AV.nils]=h1 at q0 k0 n0
 have wf1:=k0.wf wf
 have q1:=Box.new wf1 [AV.int .i64 0]
 have k1:Keep (Old h1.n) h1 (h1.new [AV.int .i64 0]):=Keep.new (Nat.le_refl _) _
 have n1:(h1.new [AV.int .i64 0]).n=h.n+2:=by show h1.n+1=_;omega
 simp only [n1]
 generalize h1.new [AV.int .i64 0]=h2' at q1 k1 n1
 have wf2:=k1.wf wf1
 have q2:=Box.new wf2 [AV.int .i64 0]
 have k2:Keep (Old h2'.n) h2' (h2'.new [AV.int .i64 0]):=Keep.new (Nat.le_refl _) _
 have n2:(h2'.new [AV.int .i64 0]).n=h.n+3:=by show h2'.n+1=_;omega
 rw [n0] at q1
 rw [n1] at q2
 generalize h2'.new [AV.int .i64 0]=h3 at q2 k2 n2
 have wf3:=k2.wf wf2
 have p3:P3 h .nils 0 0 h3:=⟨wf3,(k0.trans (k1.less (by omega))).trans (k2.less (by omega)),(q0.keep k1 (by show h.n<h1.n;omega)).keep k2 (by show h.n<h2'.n;omega),q1.keep k2 (by show h.n+1<h2'.n;omega),q2⟩
 clear q0 k0 q1 k1 q2 k2 n0 n1 wf1 wf2
 show WD (EL LX) _ _ _ _ _
 refine WD_seq ?_
 show WS (EL LX) _ [] _ _ _
 refine aAB ?_
 simp only [aNf,go_sem,↓reduceIte,Nat.reduceEqDiff]
 refine (a1q s hs h3 wf3).mono ?_
 rintro rr g ⟨kg,q⟩
 have pg:P3 h .nils 0 0 g:=⟨kg.wf wf3,p3.k.trans (kg.less (by omega)),p3.b0.keep kg (by show h.n<h3.n;omega),p3.b1.keep kg (by show h.n+1<h3.n;omega),p3.b2.keep kg (by show h.n+2<h3.n;omega)⟩
 have hng:=kg.n
 -- storing what is wrong, and where
 have sto : ∀ (e a:Int),∃ g1 g2,storeA g 1 (.ptr (h.n+1) 0) (.int .i64 e)=some g1∧storeA g1 1 (.ptr (h.n+2) 0) (.int .i64 a)=some g2∧P3 h .nils e a g2∧KeepA [h.n+1,h.n+2] g g2:=by
  intro e a
  obtain ⟨g1,e1,c1,k1⟩:=Box.put pg.wf pg.b1 (i:=0) (n:=1) (v := .int .i64 e) rfl rfl (by simp)
  have wf1:=k1.wf pg.wf
  have c0:=pg.b0.keepA pg.wf k1 (by simp)
  have c2:=pg.b2.keepA pg.wf k1 (by simp)
  obtain ⟨g2,e2,d2,k2⟩:=Box.put wf1 c2 (i:=0) (n:=1) (v := .int .i64 a) rfl rfl (by simp)
  refine ⟨g1,g2,e1,e2,⟨k2.wf wf1,(pg.k.trans (k1.old pg.wf (by omega) (by simp))).trans (k2.old wf1 (by have:=k1.n;omega) (by simp)),c0.keepA wf1 k2 (by simp),c1.keepA wf1 k2 (by simp),d2⟩,?_⟩
  exact Keep.step (KeepA.mono k1 (by simp)) (KeepA.mono k2 (by simp))
 cases hl:lexP s with
 | error x =>
  rw [hl] at q
  subst q
  obtain ⟨g1,g2,e1,e2,p2,k2⟩:=sto x.1 x.2
  simp only [go_sem,↓reduceIte,Nat.reduceEqDiff,aAM,List.getElem?_cons_zero,List.getElem?_cons_succ,e1,e2]
  show WD (EL LX) _ _ _ _ _
  refine WD_seq ?_
  show WS (EL LX) _ [] _ _ _
  have he:=aW7 hl
  have l1:loadA g2 false 1 (.ptr (h.n+1) 0)=some (.int .i64 x.1):=p2.b1.load 1 0
  have l2:loadA g2 false 1 (.ptr (h.n+2) 0)=some (.int .i64 (x.2:Int)):=p2.b2.load 1 0
  refine aAA (aAB ?_)
  simp only [aKO,go_sem,↓reduceIte,Nat.reduceEqDiff,l1]
  refine aAD ?_
  simp only [he,decide_false,Bool.not_false,go_sem,↓reduceIte,Nat.reduceEqDiff]
  obtain ⟨g3,e3,c3,k3⟩:=Box.put p2.wf p2.b0 (i:=0) (n:=1) (v := .agg [.nils]) rfl rfl (by simp)
  have wf3:=k3.wf p2.wf
  have d3:=p2.b1.keepA p2.wf k3 (by simp)
  have f3:=p2.b2.keepA p2.wf k3 (by simp)
  have l13:loadA g3 false 1 (.ptr (h.n+1) 0)=some (.int .i64 x.1):=d3.load 1 0
  have l23:loadA g3 false 1 (.ptr (h.n+2) 0)=some (.int .i64 (x.2:Int)):=f3.load 1 0
  obtain ⟨g4,e4,c4,k4⟩:=Box.put wf3 d3 (i:=0) (n:=1) (v := .int .i64 x.1) rfl rfl (by simp)
  have wf4:=k4.wf wf3
  have d4:=c3.keepA wf3 k4 (by simp)
  have f4:=f3.keepA wf3 k4 (by simp)
  have l24:loadA g4 false 1 (.ptr (h.n+2) 0)=some (.int .i64 (x.2:Int)):=f4.load 1 0
  have l14:loadA g4 false 1 (.ptr (h.n+1) 0)=some (.int .i64 x.1):=c4.load 1 0
  obtain ⟨g5,e5,c5,k5⟩:=Box.put wf4 f4 (i:=0) (n:=1) (v := .int .i64 (x.2:Int)) rfl rfl (by simp)
  have c45:=c4.keepA wf4 k5 (by simp)
  have d5:=d4.keepA wf4 k5 (by simp)
  refine aAA (aAS ?_)
  have bn:afill [AV.nils] []=some [.nils]:=rfl
  simp only [aOU,go_sem,↓reduceIte,Nat.reduceEqDiff,aAC,Nat.zero_add,Nat.add_zero,Nat.reduceAdd,wanted,parts,List.map_nil,bn,Option.map_some,l1,l2,l13,l23,l14,l24,e3,e4,e5,and_self,true_and,List.filter_cons,List.filter_nil,Nat.testBit,Nat.reduceShiftRight,Nat.reduceAnd,Nat.reduceBNe,Bool.not_false,Bool.not_true,Bool.false_eq_true,bne_self_eq_false,WV]
  have hn2:=k2.n
  have hn3:=k3.n
  have hn4:=k4.n
  have p5:P3 h .nils x.1 (x.2:Int) g5:=⟨k5.wf wf4,((p2.k.trans (k3.old p2.wf (by omega) (by simp))).trans (k4.old wf3 (by omega) (by simp))).trans (k5.old wf4 (by omega) (by simp)),d5,c45,c5⟩
  refine aAE ?_
  simp only [go_sem]
  rw [p5.resA rfl rfl rfl]
  refine ⟨p5.k,?_⟩
  simp only [parseP,hl]
 | ok l =>
  rw [hl] at q
  obtain ⟨v,rfl,sl,own⟩:=q
  obtain ⟨hend,hlen⟩:=aWt hl
  obtain ⟨g1,g2,e1,e2,p2,k2⟩:=sto 0 0
  have sl2:Sl g2 3 v l.length (l.flatMap aBw):=sl.keep k2 ((own.rd pg.wf).slotA (by simp;omega))
  have own2:OwnF h3.n g2 v:=own.keep ((own.rd pg.wf).slotA (by simp;omega)) k2
  simp only [go_sem,↓reduceIte,Nat.reduceEqDiff,aAM,List.getElem?_cons_zero,List.getElem?_cons_succ,e1,e2]
  show WD (EL LX) _ _ _ _ _
  refine WD_seq ?_
  show WS (EL LX) _ [] _ _ _
  have l1:loadA g2 false 1 (.ptr (h.n+1) 0)=some (.int .i64 0):=p2.b1.load 1 0
  refine aAA (aAB ?_)
  simp only [aKO,go_sem,↓reduceIte,Nat.reduceEqDiff,l1]
  refine aAD ?_
  simp only [decide_true,Bool.not_true,go_sem,↓reduceIte,Nat.reduceEqDiff,Bool.false_eq_true]
  refine aAF ?_
  simp only [go_sem]
  show WD (EL LX) _ _ _ _ _
  refine WD_dfr ?_
  show WOK (EL LX) _ [] _ _ _
  simp only [aOD,go_sem,↓reduceIte,Nat.reduceEqDiff,AOpd.ev,List.map_cons,List.map_nil]
  refine ⟨trivial,⟨_,_,rfl⟩,?_⟩
  show WS (EL LX) _ [] _ _ _
  -- the reader
  have q3:=Box.new p2.wf [v,AV.int .i64 0]
  have k3:Keep (Old g2.n) g2 (g2.new [v,AV.int .i64 0]):=Keep.new (Nat.le_refl _) _
  have hone:=aLf sl2
  have af:afill [AV.nils,AV.int .i64 0] [(0,1,v)]=some [v,.int .i64 0]:=by simp [afill,hone.2,splice]
  refine aAA (aAB ?_)
  simp only [aOW,go_sem,↓reduceIte,Nat.reduceEqDiff,parts,List.map_cons,List.map_nil,af,Option.map_some,AV.cells]
  generalize g2.new [v,AV.int .i64 0]=g3 at q3 k3
  have wf3':=k3.wf p2.wf
  have sv:Slot (Old g2.n) g2 v:=((own2.rd p2.wf).slotA (gs := []) (by simp)).mono fun j q=>q.1
  have hn2:=k2.n
  have hn3:=k3.n
  have p3':P3 h .nils 0 0 g3:=⟨wf3',p2.k.trans (k3.less (by omega)),p2.b0.keep k3 (p2.b0.lt p2.wf),p2.b1.keep k3 (p2.b1.lt p2.wf),p2.b2.keep k3 (p2.b2.lt p2.wf)⟩
  have R:PR g2.n l 0 g3:=⟨wf3',ks.keepO h2 (p3'.k.less (by omega)),by omega,hend,v,q3,sl2.keep k3 sv,sv.keep k3 fun _ q=>q⟩
  refine aAA (aAB ?_)
  simp only [aNj,go_sem,↓reduceIte,Nat.reduceEqDiff]
  refine (a0K R (by omega)).mono ?_
  rintro rr g4 ⟨k4,q⟩
  have p4:P3 h .nils 0 0 g4:=⟨k4.wf wf3',p3'.k.trans (k4.old wf3' (by omega) (by simp;omega)),p3'.b0.keepA wf3' k4 (by simp;omega),p3'.b1.keepA wf3' k4 (by simp;omega),p3'.b2.keepA wf3' k4 (by simp;omega)⟩
  cases hsc:aDX l with
  | error x =>
   rw [hsc] at q
   subst q
   simp only [go_sem,↓reduceIte,Nat.reduceEqDiff]
   refine ⟨_,rfl,aVl p4 x fun g' p' => ?_⟩
   refine p'.results rfl rfl rfl ⟨p'.k,?_⟩
   simp only [parseP,hl,hsc]
  | ok y =>
  obtain ⟨S,t⟩:=y
  rw [hsc] at q
  obtain ⟨R4,_,rfl,w,rfl,is⟩:=q
  have iw:=(IsL.one is)
  obtain ⟨g5,e5,c5,k5⟩:=Box.put p4.wf p4.b0 (i:=0) (n:=1) (v := .agg [w]) rfl (by simp only [AV.cells,List.all_cons,List.all_nil,iw.1,Bool.and_true]) (by simp)
  have wf5:=k5.wf p4.wf
  have d5:=p4.b1.keepA p4.wf k5 (by simp)
  have f5:=p4.b2.keepA p4.wf k5 (by simp)
  obtain ⟨g6,e6,c6,k6⟩:=Box.put wf5 d5 (i:=0) (n:=1) (v := .int .i64 0) rfl rfl (by simp)
  have wf6:=k6.wf wf5
  have c56:=c5.keepA wf5 k6 (by simp)
  have f6:=f5.keepA wf5 k6 (by simp)
  obtain ⟨g7,e7,c7,k7⟩:=Box.put wf6 f6 (i:=0) (n:=1) (v := .int .i64 0) rfl rfl (by simp)
  have hn4:=k4.n
  have hn5:=k5.n
  have hn6:=k6.n
  have p7:P3 h w 0 0 g7:=⟨k7.wf wf6,((p4.k.trans (k5.old p4.wf (by omega) (by simp))).trans (k6.old wf5 (by omega) (by simp))).trans (k7.old wf6 (by omega) (by simp)),c56.keepA wf6 k7 (by simp),c6.keepA wf6 k7 (by simp),c7⟩
  have is7:IsSch g3.n g7 w S:=((is.rk (gs := [h.n]) (by simp;omega) k5.rk).rk (gs := [h.n+1]) (by simp;omega) k6.rk).rk (gs := [h.n+2]) (by simp;omega) k7.rk
  simp only [go_sem,↓reduceIte,Nat.reduceEqDiff,e5,e6,e7]
  refine aAE ?_
  refine ⟨_,rfl,aWy p7 fun g' p' kk => ?_⟩
  refine p'.results rfl rfl rfl ⟨p'.k,?_⟩
  simp only [parseP,hl,hsc]
  exact ⟨w,rfl,(is7.rk (gs := []) (by simp) kk.rk.apart).less (by omega)⟩
end Go.Proofs.YtdbmeidhlijopaaGreatDoor.Ev.C

/- What the parser reads: where names come from, how much there is, how operations stand. -/
import Derived.Test.YtdbmeidhlijopaaGreatDoorTT2
namespace Go.Proofs.YtdbmeidhlijopaaGreatDoor.Ev.C
open Go Go.Proofs.YtdbmeidhlijopaaGreatDoor.Ev
set_option linter.unusedSimpArgs false
set_option linter.unusedVariables false
section
variable (P:T8s→Prop) (M:Prop)
/-- what is known of tokens: of names, and of the sign that takes out -/
def HT (ts:List Tk):Prop := ∀ t∈ts,(t.1=1→isKey t.2.1=false→P t.2.1)∧(t.2.1 = [45]→M)
def GoodO (o:OpD):Prop:=o=(1,[],[])∨(∃ n,P n∧o=(2,n,[]))∨(∃ n m,P n∧P m∧o=(3,n,m))∨o=(4,[],[])∨o=(5,[],[])∨(o=(6,[],[])∧M)
def GoodU (x:SubD):Prop:=P x.1∧(x.2 = []∨P x.2)
/-- operations behind what they work on -/
inductive PF:List OpD→Prop
 | one (o:OpD) (h:o.1<4):PF [o]
 | two (a b:List OpD) (o:OpD) (ha:PF a) (hb:PF b) (h:4≤o.1):PF (a++b ++ [o])
structure GoodR (r:RelD):Prop where
 name:P r.name
 view:P r.view
 edit:P r.edit
 check:P r.check
 subs : ∀ x∈r.subs,GoodU P x
 ops : ∀ o∈r.ops,GoodO P M o
 pf:PF r.ops
structure GoodT (t:TypD):Prop where
 name:P t.name
 rels : ∀ r∈t.rels,GoodR P M r
def Inv {α:Type} (p:List Tk→PRs α) (G:α→Prop):Prop := ∀ ts a t2,HT P M ts→p ts = .ok (a,t2)→HT P M t2∧G a
variable {P M}
theorem HT.tail {ts:List Tk} (h:HT P M ts):HT P M ts.tail:=fun t ht=>h t (List.mem_of_mem_tail ht)
theorem aE0:Inv P M nameP P:=by
 intro ts a t2 hh h
 unfold nameP at h
 split at h
 · rename_i t r
   split at h
   · rename_i hc
     cases h
     exact ⟨fun x hx=>hh x (List.mem_cons_of_mem _ hx),(hh _ List.mem_cons_self).1 hc.1 hc.2⟩
   · cases h
 · cases h
theorem aEb {s:T8s}:Inv P M (needP s) (fun _=>True):=by
 intro ts a t2 hh h
 unfold needP at h
 split at h
 · cases h;exact ⟨hh.tail,trivial⟩
 · cases h
def GoodOs (l:List OpD):Prop:=(∀ o∈l,GoodO P M o)∧PF l
theorem aWK {can:Bool} {rw:List Tk→PRs (List OpD)} (hr:can=true→Inv P M rw (GoodOs (P:=P) (M:=M))):Inv P M (partP can rw) (GoodOs (P:=P) (M:=M)):=by
 intro ts a t2 hh h
 unfold partP at h
 split at h
 · cases h
   exact ⟨hh.tail,by intro o ho;simp at ho;exact .inl ho,.one _ (by simp)⟩
 split at h
 · split at h
   · cases h
   · rename_i hc
     have hc':can=true:=by simpa using hc
     obtain ⟨x,t1,h1,h2⟩:=aAH h
     obtain ⟨y,t3,h3,h4⟩:=aAH h2
     cases h4
     obtain ⟨q1,q2⟩:=hr hc' _ _ _ hh.tail h1
     exact ⟨(aEb _ _ _ q1 h3).1,q2⟩
 · obtain ⟨x,t1,h1,h2⟩:=aAH h
   obtain ⟨q1,q2⟩:=aE0 _ _ _ hh h1
   split at h2
   · obtain ⟨y,t3,h3,h4⟩:=aAH h2
     cases h4
     obtain ⟨q3,q4⟩:=aE0 _ _ _ q1.tail h3
     exact ⟨q3,by intro o ho;simp at ho;exact .inr (.inr (.inl ⟨_,_,q2,q4,ho⟩)),.one _ (by simp)⟩
   · cases h2
     exact ⟨q1,by intro o ho;simp at ho;exact .inr (.inl ⟨_,q2,ho⟩),.one _ (by simp)⟩
theorem aZQ {ts:List Tk} (hh:HT P M ts) (h:sgnP ts≠0):GoodO P M (sgnP ts,[],[])∧4≤sgnP ts:=by
 unfold sgnP at h ⊢
 split at h
 · rename_i t r
   split at h
   case isFalse=>exact absurd rfl h
   rename_i hk
   simp only [hk,if_true]
   have hm:=(hh _ List.mem_cons_self).2
   generalize t.2.1=s at h hm ⊢
   unfold sgn at h ⊢
   by_cases h1:s = [124]
   · subst h1;exact ⟨.inr (.inr (.inr (.inl rfl))),by decide⟩
   · by_cases h2:s = [38]
     · subst h2;exact ⟨.inr (.inr (.inr (.inr (.inl rfl)))),by decide⟩
     · by_cases h3:s = [45]
       · subst h3;exact ⟨.inr (.inr (.inr (.inr (.inr ⟨rfl,hm rfl⟩)))),by decide⟩
       · simp [h1,h2,h3] at h
 · exact absurd rfl h
theorem aTe {part:List Tk→PRs (List OpD)} (hp:Inv P M part (GoodOs (P:=P) (M:=M))) : ∀ (f:Nat) (out:List OpD) (ts:List Tk) (a:List OpD) (t2:List Tk),HT P M ts→GoodOs (P:=P) (M:=M) out→loopP part f out ts = .ok (a,t2)→HT P M t2∧GoodOs (P:=P) (M:=M) a
 | 0,out,ts,a,t2,hh,ho,h=>by cases h;exact ⟨hh,ho⟩
 | f+1,out,ts,a,t2,hh,ho,h=>by
  simp only [loopP] at h
  split at h
  · cases h;exact ⟨hh,ho⟩
  · rename_i hs
    obtain ⟨x,t1,h1,h2⟩:=aAH h
    obtain ⟨q1,q2⟩:=hp _ _ _ hh.tail h1
    obtain ⟨g1,g2⟩:=aZQ hh hs
    refine aTe hp f _ _ _ _ q1 ⟨?_,.two _ _ _ ho.2 q2.2 g2⟩ h2
    intro o hm
    rcases List.mem_append.1 hm with hm | hm
    · rcases List.mem_append.1 hm with hm | hm
      · exact ho.1 o hm
      · exact q2.1 o hm
    · simp at hm;subst hm;exact g1
theorem aSl : ∀ d,Inv P M (aA4 d) (GoodOs (P:=P) (M:=M))
 | 0=>by
  intro ts a t2 hh h
  simp only [aA4] at h
  obtain ⟨x,t1,h1,h2⟩:=aAH h
  have hp:=aWK (P:=P) (M:=M) (can:=false) (rw:=fun t=>failP 0 t) (fun h=>by cases h)
  obtain ⟨q1,q2⟩:=hp _ _ _ hh h1
  exact aTe hp _ _ _ _ _ q1 q2 h2
 | d+1=>by
  intro ts a t2 hh h
  simp only [aA4] at h
  obtain ⟨x,t1,h1,h2⟩:=aAH h
  have hp:=aWK (P:=P) (M:=M) (can:=true) (rw:=aA4 d) (fun _=>aSl d)
  obtain ⟨q1,q2⟩:=hp _ _ _ hh h1
  exact aTe hp _ _ _ _ _ q1 q2 h2
theorem a29:Inv P M subP (GoodU P):=by
 intro ts a t2 hh h
 unfold subP at h
 obtain ⟨x,t1,h1,h2⟩:=aAH h
 obtain ⟨q1,q2⟩:=aE0 _ _ _ hh h1
 split at h2
 · obtain ⟨y,t3,h3,h4⟩:=aAH h2
   cases h4
   obtain ⟨q3,q4⟩:=aE0 _ _ _ q1.tail h3
   exact ⟨q3,q2,.inr q4⟩
 · cases h2;exact ⟨q1,q2,.inl rfl⟩
theorem aXL : ∀ (f:Nat) (acc:List SubD) (ts:List Tk) (a:List SubD) (t2:List Tk),HT P M ts→(∀ x∈acc,GoodU P x)→subsP f acc ts = .ok (a,t2)→HT P M t2 ∧ ∀ x∈a,GoodU P x
 | 0,acc,ts,a,t2,hh,ha,h=>by cases h;exact ⟨hh,ha⟩
 | f+1,acc,ts,a,t2,hh,ha,h=>by
  simp only [subsP] at h
  obtain ⟨x,t1,h1,h2⟩:=aAH h
  obtain ⟨q1,q2⟩:=a29 _ _ _ hh h1
  have ha' : ∀ y∈acc ++ [x],GoodU P y:=by
   intro y hy
   rcases List.mem_append.1 hy with hy | hy
   · exact ha y hy
   · simp at hy;subst hy;exact q2
  split at h2
  · exact aXL f _ _ _ _ q1.tail ha' h2
  · cases h2;exact ⟨q1,ha'⟩
theorem a2s:Inv P M relP (GoodR P M):=by
 intro ts a t2 hh h
 unfold relP at h
 obtain ⟨x1,t1,h1,h⟩:=aAH h
 obtain ⟨e1,l1⟩:=aE0 _ _ _ hh h1
 obtain ⟨x2,t2',h2,h⟩:=aAH h
 obtain ⟨e2,_⟩:=aEb _ _ _ e1 h2
 obtain ⟨x3,t3,h3,h⟩:=aAH h
 obtain ⟨e3,l3⟩:=aE0 _ _ _ e2 h3
 obtain ⟨x4,t4,h4,h⟩:=aAH h
 obtain ⟨e4,_⟩:=aEb _ _ _ e3 h4
 obtain ⟨x5,t5,h5,h⟩:=aAH h
 obtain ⟨e5,l5⟩:=aE0 _ _ _ e4 h5
 obtain ⟨x6,t6,h6,h⟩:=aAH h
 obtain ⟨e6,_⟩:=aEb _ _ _ e5 h6
 obtain ⟨x7,t7,h7,h⟩:=aAH h
 obtain ⟨e7,l7⟩:=aE0 _ _ _ e6 h7
 obtain ⟨x8,t8,h8,h⟩:=aAH h
 obtain ⟨e8,_⟩:=aEb _ _ _ e7 h8
 obtain ⟨x9,t9,h9,h⟩:=aAH h
 obtain ⟨e9,_⟩:=aEb _ _ _ e8 h9
 obtain ⟨x10,t10,h10,h⟩:=aAH h
 have q10:HT P M t10 ∧ ∀ x∈x10,GoodU P x:=by
  split at h10
  · exact aXL _ _ _ _ _ e9 (by simp) h10
  · cases h10;exact ⟨e9,by simp⟩
 obtain ⟨x11,t11,h11,h⟩:=aAH h
 have q11:HT P M t11∧GoodOs (P:=P) (M:=M) x11:=by
  split at h11
  · exact aSl 8 _ _ _ q10.1.tail h11
  · cases h11;exact ⟨q10.1,by intro o ho;simp at ho;exact .inl ho,.one _ (by simp)⟩
 obtain ⟨x12,t12,h12,h⟩:=aAH h
 obtain ⟨e12,_⟩:=aEb _ _ _ q11.1 h12
 cases h
 exact ⟨e12,l1,l3,l5,l7,q10.2,q11.2.1,q11.2.2⟩
theorem aWC : ∀ (f:Nat) (acc:List RelD) (ts:List Tk) (a:List RelD) (t2:List Tk),HT P M ts→(∀ x∈acc,GoodR P M x)→relsP f acc ts = .ok (a,t2)→HT P M t2 ∧ ∀ x∈a,GoodR P M x
 | 0,acc,ts,a,t2,hh,ha,h=>by cases h;exact ⟨hh,ha⟩
 | f+1,acc,ts,a,t2,hh,ha,h=>by
  simp only [relsP] at h
  split at h
  · obtain ⟨x,t1,h1,h2⟩:=aAH h
    obtain ⟨q1,q2⟩:=a2s _ _ _ hh.tail h1
    refine aWC f _ _ _ _ q1 ?_ h2
    intro y hy
    rcases List.mem_append.1 hy with hy | hy
    · exact ha y hy
    · simp at hy;subst hy;exact q2
  · cases h;exact ⟨hh,ha⟩
theorem a2z:Inv P M typP (GoodT P M):=by
 intro ts a t2 hh h
 unfold typP at h
 obtain ⟨x1,t1,h1,h⟩:=aAH h
 obtain ⟨e1,l1⟩:=aE0 _ _ _ hh h1
 obtain ⟨x2,t2',h2,h⟩:=aAH h
 obtain ⟨e2,_⟩:=aEb _ _ _ e1 h2
 obtain ⟨x3,t3,h3,h⟩:=aAH h
 obtain ⟨e3,l3⟩:=aWC _ _ _ _ _ e2 (by simp) h3
 obtain ⟨x4,t4,h4,h⟩:=aAH h
 obtain ⟨e4,_⟩:=aEb _ _ _ e3 h4
 cases h
 exact ⟨e4,l1,l3⟩
theorem aWH : ∀ (f:Nat) (acc:List TypD) (ts:List Tk) (a:List TypD) (t2:List Tk),HT P M ts→(∀ x∈acc,GoodT P M x)→typsP f acc ts = .ok (a,t2)→HT P M t2 ∧ ∀ x∈a,GoodT P M x
 | 0,acc,ts,a,t2,hh,ha,h=>by cases h;exact ⟨hh,ha⟩
 | f+1,acc,ts,a,t2,hh,ha,h=>by
  simp only [typsP] at h
  split at h
  · obtain ⟨x,t1,h1,h2⟩:=aAH h
    obtain ⟨q1,q2⟩:=a2z _ _ _ hh.tail h1
    refine aWH f _ _ _ _ q1 ?_ h2
    intro y hy
    rcases List.mem_append.1 hy with hy | hy
    · exact ha y hy
    · simp at hy;subst hy;exact q2
  · cases h;exact ⟨hh,ha⟩
theorem aTj {ts:List Tk} {l:List TypD} {t2:List Tk} (hh:HT P M ts) (h:aDX ts = .ok (l,t2)) : ∀ t∈l,GoodT P M t:=by
 unfold aDX at h
 obtain ⟨x,t1,h1,h2⟩:=aAH h
 obtain ⟨q1,q2⟩:=aWH _ _ _ _ _ hh (by simp) h1
 split at h2
 · split at h2
   · cases h2;exact q2
   · cases h2
 · cases h2
end
/-! ### how much there is -/
def szR (r:RelD):Nat:=r.subs.length+r.ops.length+1
def szT (t:TypD):Nat:=(t.rels.map szR).sum+1
def szS (l:List TypD):Nat:=(l.map szT).sum
theorem aWh : ∀ (f:Nat) (acc:List SubD) (ts:List Tk) (a:List SubD) (t2:List Tk),EndT ts→subsP f acc ts = .ok (a,t2)→a.length+t2.length≤acc.length+ts.length
 | 0,acc,ts,a,t2,e,h=>by cases h;exact Nat.le_refl _
 | f+1,acc,ts,a,t2,e,h=>by
  simp only [subsP] at h
  obtain ⟨x,t1,h1,h2⟩:=aAH h
  obtain ⟨e1,l1⟩:=aW1 _ _ _ e h1
  split at h2
  · rename_i hn
    have:=aWh f _ _ _ _ (e1.pass (by decide) hn) h2
    have:=aAg hn
    simp at *;omega
  · cases h2;simp;omega
theorem a1W {ts:List Tk} {r:RelD} {t2:List Tk} (e:EndT ts) (h:relP ts = .ok (r,t2)):szR r+t2.length≤ts.length:=by
 unfold relP at h
 obtain ⟨x1,t1,h1,h⟩:=aAH h
 obtain ⟨e1,l1⟩:=aA5 _ _ _ e h1
 obtain ⟨x2,t2',h2,h⟩:=aAH h
 obtain ⟨e2,l2⟩:=aA0 (by decide) _ _ _ e1 h2
 obtain ⟨x3,t3,h3,h⟩:=aAH h
 obtain ⟨e3,l3⟩:=aA5 _ _ _ e2 h3
 obtain ⟨x4,t4,h4,h⟩:=aAH h
 obtain ⟨e4,l4⟩:=aA0 (by decide) _ _ _ e3 h4
 obtain ⟨x5,t5,h5,h⟩:=aAH h
 obtain ⟨e5,l5⟩:=aA5 _ _ _ e4 h5
 obtain ⟨x6,t6,h6,h⟩:=aAH h
 obtain ⟨e6,l6⟩:=aA0 (by decide) _ _ _ e5 h6
 obtain ⟨x7,t7,h7,h⟩:=aAH h
 obtain ⟨e7,l7⟩:=aA5 _ _ _ e6 h7
 obtain ⟨x8,t8,h8,h⟩:=aAH h
 obtain ⟨e8,l8⟩:=aA0 (by decide) _ _ _ e7 h8
 obtain ⟨x9,t9,h9,h⟩:=aAH h
 obtain ⟨e9,l9⟩:=aA0 (by decide) _ _ _ e8 h9
 obtain ⟨x10,t10,h10,h⟩:=aAH h
 have q10:EndT t10∧x10.length+t10.length≤t9.length:=by
  split at h10
  · exact ⟨(aMn _ _ _ _ _ e9 h10).1,by have:=aWh _ _ _ _ _ e9 h10;simpa using this⟩
  · cases h10;exact ⟨e9,by simp⟩
 obtain ⟨x11,t11,h11,h⟩:=aAH h
 have q11:EndT t11∧x11.length+t11.length≤t10.length+1:=by
  split at h11
  · rename_i hn
    obtain ⟨e,l⟩:=aDN 8 _ _ _ (q10.1.pass (by decide) hn) h11
    have:=aN3 8 _ _ _ (q10.1.pass (by decide) hn) h11
    have:=aAg hn
    exact ⟨e,by omega⟩
  · cases h11;exact ⟨q10.1,by simp;omega⟩
 obtain ⟨x12,t12,h12,h⟩:=aAH h
 obtain ⟨e12,l12⟩:=aA0 (by decide) _ _ _ q11.1 h12
 cases h
 simp only [szR];omega
theorem aVN : ∀ (f:Nat) (acc:List RelD) (ts:List Tk) (a:List RelD) (t2:List Tk),EndT ts→relsP f acc ts = .ok (a,t2)→(a.map szR).sum+t2.length≤(acc.map szR).sum+ts.length
 | 0,acc,ts,a,t2,e,h=>by cases h;exact Nat.le_refl _
 | f+1,acc,ts,a,t2,e,h=>by
  simp only [relsP] at h
  split at h
  · rename_i hn
    obtain ⟨x,t1,h1,h2⟩:=aAH h
    have ep:=e.pass (by decide) hn
    obtain ⟨e1,l1⟩:=aTJ _ _ _ ep h1
    have q:=a1W ep h1
    have:=aVN f _ _ _ _ e1 h2
    have:=aAg hn
    simp only [List.map_append,List.sum_append,List.map_cons,List.map_nil,List.sum_cons,List.sum_nil] at *;omega
  · cases h;exact Nat.le_refl _
theorem a1h {ts:List Tk} {t:TypD} {t2:List Tk} (e:EndT ts) (h:typP ts = .ok (t,t2)):szT t+t2.length≤ts.length:=by
 unfold typP at h
 obtain ⟨x1,t1,h1,h⟩:=aAH h
 obtain ⟨e1,l1⟩:=aA5 _ _ _ e h1
 obtain ⟨x2,t2',h2,h⟩:=aAH h
 obtain ⟨e2,l2⟩:=aA0 (by decide) _ _ _ e1 h2
 obtain ⟨x3,t3,h3,h⟩:=aAH h
 obtain ⟨e3,l3⟩:=aM6 _ _ _ _ _ e2 h3
 have q:=aVN _ _ _ _ _ e2 h3
 obtain ⟨x4,t4,h4,h⟩:=aAH h
 obtain ⟨e4,l4⟩:=aA0 (by decide) _ _ _ e3 h4
 cases h
 simp only [szT,List.map_nil,List.sum_nil] at *;omega
theorem aVT : ∀ (f:Nat) (acc:List TypD) (ts:List Tk) (a:List TypD) (t2:List Tk),EndT ts→typsP f acc ts = .ok (a,t2)→szS a+t2.length≤szS acc+ts.length
 | 0,acc,ts,a,t2,e,h=>by cases h;exact Nat.le_refl _
 | f+1,acc,ts,a,t2,e,h=>by
  simp only [typsP] at h
  split at h
  · rename_i hn
    obtain ⟨x,t1,h1,h2⟩:=aAH h
    have ep:=e.pass (by decide) hn
    obtain ⟨e1,l1⟩:=a1Z _ _ _ ep h1
    have q:=a1h ep h1
    have:=aVT f _ _ _ _ e1 h2
    have:=aAg hn
    simp only [szS,List.map_append,List.sum_append,List.map_cons,List.map_nil,List.sum_cons,List.sum_nil] at *;omega
  · cases h;exact Nat.le_refl _
theorem aXx {ts:List Tk} {l:List TypD} {t2:List Tk} (e:EndT ts) (h:aDX ts = .ok (l,t2)):szS l≤ts.length:=by
 unfold aDX at h
 obtain ⟨x,t1,h1,h2⟩:=aAH h
 have q:=aVT _ _ _ _ _ e h1
 split at h2
 · split at h2
   · cases h2;simp only [szS,List.map_nil,List.sum_nil] at *;omega
   · cases h2
 · cases h2
end Go.Proofs.YtdbmeidhlijopaaGreatDoor.Ev.C

/- What is wrong with a text is told by a number other than 0. -/
namespace Go.Proofs.YtdbmeidhlijopaaGreatDoor.Ev.C
open Go Go.Proofs.YtdbmeidhlijopaaGreatDoor.Ev
set_option linter.unusedSimpArgs false
set_option linter.unusedVariables false
def Err {α:Type} (p:List Tk→PRs α):Prop := ∀ ts e,p ts = .error e→e.1≠0
theorem aAV {α β:Type} {x:PRs α} {f:α→List Tk→PRs β} {e:Int×Nat} (h:thenP x f = .error e):x = .error e ∨ ∃ a t,x = .ok (a,t)∧f a t = .error e:=by
 unfold thenP at h
 split at h
 · exact .inr ⟨_,_,rfl,h⟩
 · cases h;exact .inl rfl
theorem aKK {α:Type} {c:Int} (hc:c≠0) {ts:List Tk} {e:Int×Nat} (h:(failP c ts:PRs α) = .error e):e.1≠0:=by cases h;exact hc
theorem aEL:Err nameP:=by
 intro ts e h
 unfold nameP at h
 split at h
 · split at h
   · cases h
   · exact aKK (by decide) h
 · exact aKK (by decide) h
theorem aE7 {s:T8s}:Err (needP s):=by
 intro ts e h
 unfold needP at h
 split at h
 · cases h
 · exact aKK (by decide) h
theorem aXM {can:Bool} {rw:List Tk→PRs (List OpD)} (hr:can=true→Err rw):Err (partP can rw):=by
 intro ts e h
 unfold partP at h
 split at h
 · cases h
 split at h
 · split at h
   · exact aKK (by decide) h
   · rename_i hc
     rcases aAV h with h | ⟨a,t,_,h⟩
     · exact hr (by simpa using hc) _ _ h
     · rcases aAV h with h | ⟨a,t,_,h⟩
       · exact aE7 _ _ h
       · cases h
 · rcases aAV h with h | ⟨a,t,_,h⟩
   · exact aEL _ _ h
   · split at h
     · rcases aAV h with h | ⟨a,t,_,h⟩
       · exact aEL _ _ h
       · cases h
     · cases h
theorem aT6 {part:List Tk→PRs (List OpD)} (hp:Err part) : ∀ (f:Nat) (out:List OpD) (ts:List Tk) (e:Int×Nat),loopP part f out ts = .error e→e.1≠0
 | 0,out,ts,e,h=>by cases h
 | f+1,out,ts,e,h=>by
  simp only [loopP] at h
  split at h
  · cases h
  · rcases aAV h with h | ⟨a,t,_,h⟩
    · exact hp _ _ h
    · exact aT6 hp f _ _ _ h
theorem aSi : ∀ d,Err (aA4 d)
 | 0=>by
  intro ts e h
  simp only [aA4] at h
  have hp:=aXM (can:=false) (rw:=fun t=>failP 0 t) (fun h=>by cases h)
  rcases aAV h with h | ⟨a,t,_,h⟩
  · exact hp _ _ h
  · exact aT6 hp _ _ _ _ h
 | d+1=>by
  intro ts e h
  simp only [aA4] at h
  have hp:=aXM (can:=true) (rw:=aA4 d) (fun _=>aSi d)
  rcases aAV h with h | ⟨a,t,_,h⟩
  · exact hp _ _ h
  · exact aT6 hp _ _ _ _ h
theorem a2x:Err subP:=by
 intro ts e h
 unfold subP at h
 rcases aAV h with h | ⟨a,t,_,h⟩
 · exact aEL _ _ h
 · split at h
   · rcases aAV h with h | ⟨a,t,_,h⟩
     · exact aEL _ _ h
     · cases h
   · cases h
theorem aX0 : ∀ (f:Nat) (acc:List SubD) (ts:List Tk) (e:Int×Nat),subsP f acc ts = .error e→e.1≠0
 | 0,acc,ts,e,h=>by cases h
 | f+1,acc,ts,e,h=>by
  simp only [subsP] at h
  rcases aAV h with h | ⟨a,t,_,h⟩
  · exact a2x _ _ h
  · split at h
    · exact aX0 f _ _ _ h
    · cases h
theorem a2f:Err relP:=by
 intro ts e h
 unfold relP at h
 rcases aAV h with h | ⟨a,t,_,h⟩
 · exact aEL _ _ h
 rcases aAV h with h | ⟨a,t,_,h⟩
 · exact aE7 _ _ h
 rcases aAV h with h | ⟨a,t,_,h⟩
 · exact aEL _ _ h
 rcases aAV h with h | ⟨a,t,_,h⟩
 · exact aE7 _ _ h
 rcases aAV h with h | ⟨a,t,_,h⟩
 · exact aEL _ _ h
 rcases aAV h with h | ⟨a,t,_,h⟩
 · exact aE7 _ _ h
 rcases aAV h with h | ⟨a,t,_,h⟩
 · exact aEL _ _ h
 rcases aAV h with h | ⟨a,t,_,h⟩
 · exact aE7 _ _ h
 rcases aAV h with h | ⟨a,t,_,h⟩
 · exact aE7 _ _ h
 rcases aAV h with h | ⟨a,t,_,h⟩
 · split at h
   · exact aX0 _ _ _ _ h
   · cases h
 rcases aAV h with h | ⟨a,t,_,h⟩
 · split at h
   · exact aSi 8 _ _ h
   · cases h
 rcases aAV h with h | ⟨a,t,_,h⟩
 · exact aE7 _ _ h
 · cases h
theorem aWg : ∀ (f:Nat) (acc:List RelD) (ts:List Tk) (e:Int×Nat),relsP f acc ts = .error e→e.1≠0
 | 0,acc,ts,e,h=>by cases h
 | f+1,acc,ts,e,h=>by
  simp only [relsP] at h
  split at h
  · rcases aAV h with h | ⟨a,t,_,h⟩
    · exact a2f _ _ h
    · exact aWg f _ _ _ h
  · cases h
theorem a2c:Err typP:=by
 intro ts e h
 unfold typP at h
 rcases aAV h with h | ⟨a,t,_,h⟩
 · exact aEL _ _ h
 rcases aAV h with h | ⟨a,t,_,h⟩
 · exact aE7 _ _ h
 rcases aAV h with h | ⟨a,t,_,h⟩
 · exact aWg _ _ _ _ h
 rcases aAV h with h | ⟨a,t,_,h⟩
 · exact aE7 _ _ h
 · cases h
theorem aXO : ∀ (f:Nat) (acc:List TypD) (ts:List Tk) (e:Int×Nat),typsP f acc ts = .error e→e.1≠0
 | 0,acc,ts,e,h=>by cases h
 | f+1,acc,ts,e,h=>by
  simp only [typsP] at h
  split at h
  · rcases aAV h with h | ⟨a,t,_,h⟩
    · exact a2c _ _ h
    · exact aXO f _ _ _ h
  · cases h
theorem aZL:Err aDX:=by
 intro ts e h
 unfold aDX at h
 rcases aAV h with h | ⟨a,t,_,h⟩
 · exact aXO _ _ _ _ h
 · split at h
   · split at h
     · cases h
     · exact aKK (by decide) h
   · exact aKK (by decide) h
theorem a0V {s:T8s} {e:Int×Nat} (h:parseP (lexP s) = .error e):e.1≠0:=by
 unfold parseP at h
 split at h
 · rename_i e' he;cases h;exact aW7 he
 · split at h
   · cases h
   · rename_i he;cases h;exact aZL _ _ he
end Go.Proofs.YtdbmeidhlijopaaGreatDoor.Ev.C

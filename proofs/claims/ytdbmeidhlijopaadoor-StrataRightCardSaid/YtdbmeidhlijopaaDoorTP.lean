/- What the parser reads: where names come from, how much there is, how operations stand. -/
import Derived.Test.YtdbmeidhlijopaaDoorTT2
namespace Go.Proofs.YtdbmeidhlijopaaDoor.Ev.C
open Go Go.Proofs.YtdbmeidhlijopaaDoor.Ev
set_option linter.unusedSimpArgs false
set_option linter.unusedVariables false
section
variable (P:T8s→Prop) (M:Prop)
/-- what is known of tokens: of names, and of the sign that takes out -/
def HT (ts:List Tk):Prop := ∀ t∈ts,(t.1=1→isKey t.2.1=false→P t.2.1)∧(t.2.1 = [45]→M)
def GoodO (o:OpD):Prop:=o=(1,[],[])∨(∃ n,P n∧o=(2,n,[]))∨(∃ n m,P n∧P m∧o=(3,n,m))∨o=(4,[],[])∨o=(5,[],[])∨(o=(6,[],[])∧M)
def GoodU (x:SubD):Prop:=P x.1∧(x.2 = []∨P x.2)
/-- operations behind what they work on -/
inductive PF:List OpD→Prop
 | one (o:OpD) (h:o.1<4):PF [o]
 | two (a b:List OpD) (o:OpD) (ha:PF a) (hb:PF b) (h:4≤o.1):PF (a++b ++ [o])
structure GoodR (r:RelD):Prop where
 name:P r.name
 view:P r.view
 edit:P r.edit
 check:P r.check
 subs : ∀ x∈r.subs,GoodU P x
 ops : ∀ o∈r.ops,GoodO P M o
 pf:PF r.ops
structure GoodT (t:TypD):Prop where
 name:P t.name
 rels : ∀ r∈t.rels,GoodR P M r
def Inv {α:Type} (p:List Tk→PRs α) (G:α→Prop):Prop := ∀ ts a t2,HT P M ts→p ts = .ok (a,t2)→HT P M t2∧G a
variable {P M}
theorem HT.tail {ts:List Tk} (h:HT P M ts):HT P M ts.tail:=fun t ht=>h t (List.mem_of_mem_tail ht)
theorem name_inv:Inv P M nameP P:=by
 intro ts a t2 hh h
 unfold nameP at h
 split at h
 · rename_i t r
   split at h
   · rename_i hc
     cases h
     exact ⟨fun x hx=>hh x (List.mem_cons_of_mem _ hx),(hh _ List.mem_cons_self).1 hc.1 hc.2⟩
   · cases h
 · cases h
theorem need_inv {s:T8s}:Inv P M (needP s) (fun _=>True):=by
 intro ts a t2 hh h
 unfold needP at h
 split at h
 · cases h;exact ⟨hh.tail,trivial⟩
 · cases h
def GoodOs (l:List OpD):Prop:=(∀ o∈l,GoodO P M o)∧PF l
theorem part_inv {can:Bool} {rw:List Tk→PRs (List OpD)} (hr:can=true→Inv P M rw (GoodOs (P:=P) (M:=M))):Inv P M (partP can rw) (GoodOs (P:=P) (M:=M)):=by
 intro ts a t2 hh h
 unfold partP at h
 split at h
 · cases h
   exact ⟨hh.tail,by intro o ho;simp at ho;exact .inl ho,.one _ (by simp)⟩
 split at h
 · split at h
   · cases h
   · rename_i hc
     have hc':can=true:=by simpa using hc
     obtain ⟨x,t1,h1,h2⟩:=thenP_ok h
     obtain ⟨y,t3,h3,h4⟩:=thenP_ok h2
     cases h4
     obtain ⟨q1,q2⟩:=hr hc' _ _ _ hh.tail h1
     exact ⟨(need_inv _ _ _ q1 h3).1,q2⟩
 · obtain ⟨x,t1,h1,h2⟩:=thenP_ok h
   obtain ⟨q1,q2⟩:=name_inv _ _ _ hh h1
   split at h2
   · obtain ⟨y,t3,h3,h4⟩:=thenP_ok h2
     cases h4
     obtain ⟨q3,q4⟩:=name_inv _ _ _ q1.tail h3
     exact ⟨q3,by intro o ho;simp at ho;exact .inr (.inr (.inl ⟨_,_,q2,q4,ho⟩)),.one _ (by simp)⟩
   · cases h2
     exact ⟨q1,by intro o ho;simp at ho;exact .inr (.inl ⟨_,q2,ho⟩),.one _ (by simp)⟩
theorem sgn_kinds {ts:List Tk} (hh:HT P M ts) (h:sgnP ts≠0):GoodO P M (sgnP ts,[],[])∧4≤sgnP ts:=by
 unfold sgnP at h ⊢
 split at h
 · rename_i t r
   split at h
   case isFalse=>exact absurd rfl h
   rename_i hk
   simp only [hk,if_true]
   have hm:=(hh _ List.mem_cons_self).2
   generalize t.2.1=s at h hm ⊢
   unfold sgn at h ⊢
   by_cases h1:s = [124]
   · subst h1;exact ⟨.inr (.inr (.inr (.inl rfl))),by decide⟩
   · by_cases h2:s = [38]
     · subst h2;exact ⟨.inr (.inr (.inr (.inr (.inl rfl)))),by decide⟩
     · by_cases h3:s = [45]
       · subst h3;exact ⟨.inr (.inr (.inr (.inr (.inr ⟨rfl,hm rfl⟩)))),by decide⟩
       · simp [h1,h2,h3] at h
 · exact absurd rfl h
theorem loop_inv {part:List Tk→PRs (List OpD)} (hp:Inv P M part (GoodOs (P:=P) (M:=M))) : ∀ (f:Nat) (out:List OpD) (ts:List Tk) (a:List OpD) (t2:List Tk),HT P M ts→GoodOs (P:=P) (M:=M) out→loopP part f out ts = .ok (a,t2)→HT P M t2∧GoodOs (P:=P) (M:=M) a
 | 0,out,ts,a,t2,hh,ho,h=>by cases h;exact ⟨hh,ho⟩
 | f+1,out,ts,a,t2,hh,ho,h=>by
  simp only [loopP] at h
  split at h
  · cases h;exact ⟨hh,ho⟩
  · rename_i hs
    obtain ⟨x,t1,h1,h2⟩:=thenP_ok h
    obtain ⟨q1,q2⟩:=hp _ _ _ hh.tail h1
    obtain ⟨g1,g2⟩:=sgn_kinds hh hs
    refine loop_inv hp f _ _ _ _ q1 ⟨?_,.two _ _ _ ho.2 q2.2 g2⟩ h2
    intro o hm
    rcases List.mem_append.1 hm with hm | hm
    · rcases List.mem_append.1 hm with hm | hm
      · exact ho.1 o hm
      · exact q2.1 o hm
    · simp at hm;subst hm;exact g1
theorem rewrite_inv : ∀ d,Inv P M (rewriteP d) (GoodOs (P:=P) (M:=M))
 | 0=>by
  intro ts a t2 hh h
  simp only [rewriteP] at h
  obtain ⟨x,t1,h1,h2⟩:=thenP_ok h
  have hp:=part_inv (P:=P) (M:=M) (can:=false) (rw:=fun t=>failP 0 t) (fun h=>by cases h)
  obtain ⟨q1,q2⟩:=hp _ _ _ hh h1
  exact loop_inv hp _ _ _ _ _ q1 q2 h2
 | d+1=>by
  intro ts a t2 hh h
  simp only [rewriteP] at h
  obtain ⟨x,t1,h1,h2⟩:=thenP_ok h
  have hp:=part_inv (P:=P) (M:=M) (can:=true) (rw:=rewriteP d) (fun _=>rewrite_inv d)
  obtain ⟨q1,q2⟩:=hp _ _ _ hh h1
  exact loop_inv hp _ _ _ _ _ q1 q2 h2
theorem sub_inv:Inv P M subP (GoodU P):=by
 intro ts a t2 hh h
 unfold subP at h
 obtain ⟨x,t1,h1,h2⟩:=thenP_ok h
 obtain ⟨q1,q2⟩:=name_inv _ _ _ hh h1
 split at h2
 · obtain ⟨y,t3,h3,h4⟩:=thenP_ok h2
   cases h4
   obtain ⟨q3,q4⟩:=name_inv _ _ _ q1.tail h3
   exact ⟨q3,q2,.inr q4⟩
 · cases h2;exact ⟨q1,q2,.inl rfl⟩
theorem subs_inv : ∀ (f:Nat) (acc:List SubD) (ts:List Tk) (a:List SubD) (t2:List Tk),HT P M ts→(∀ x∈acc,GoodU P x)→subsP f acc ts = .ok (a,t2)→HT P M t2 ∧ ∀ x∈a,GoodU P x
 | 0,acc,ts,a,t2,hh,ha,h=>by cases h;exact ⟨hh,ha⟩
 | f+1,acc,ts,a,t2,hh,ha,h=>by
  simp only [subsP] at h
  obtain ⟨x,t1,h1,h2⟩:=thenP_ok h
  obtain ⟨q1,q2⟩:=sub_inv _ _ _ hh h1
  have ha' : ∀ y∈acc ++ [x],GoodU P y:=by
   intro y hy
   rcases List.mem_append.1 hy with hy | hy
   · exact ha y hy
   · simp at hy;subst hy;exact q2
  split at h2
  · exact subs_inv f _ _ _ _ q1.tail ha' h2
  · cases h2;exact ⟨q1,ha'⟩
theorem rel_inv:Inv P M relP (GoodR P M):=by
 intro ts a t2 hh h
 unfold relP at h
 obtain ⟨x1,t1,h1,h⟩:=thenP_ok h
 obtain ⟨e1,l1⟩:=name_inv _ _ _ hh h1
 obtain ⟨x2,t2',h2,h⟩:=thenP_ok h
 obtain ⟨e2,_⟩:=need_inv _ _ _ e1 h2
 obtain ⟨x3,t3,h3,h⟩:=thenP_ok h
 obtain ⟨e3,l3⟩:=name_inv _ _ _ e2 h3
 obtain ⟨x4,t4,h4,h⟩:=thenP_ok h
 obtain ⟨e4,_⟩:=need_inv _ _ _ e3 h4
 obtain ⟨x5,t5,h5,h⟩:=thenP_ok h
 obtain ⟨e5,l5⟩:=name_inv _ _ _ e4 h5
 obtain ⟨x6,t6,h6,h⟩:=thenP_ok h
 obtain ⟨e6,_⟩:=need_inv _ _ _ e5 h6
 obtain ⟨x7,t7,h7,h⟩:=thenP_ok h
 obtain ⟨e7,l7⟩:=name_inv _ _ _ e6 h7
 obtain ⟨x8,t8,h8,h⟩:=thenP_ok h
 obtain ⟨e8,_⟩:=need_inv _ _ _ e7 h8
 obtain ⟨x9,t9,h9,h⟩:=thenP_ok h
 obtain ⟨e9,_⟩:=need_inv _ _ _ e8 h9
 obtain ⟨x10,t10,h10,h⟩:=thenP_ok h
 have q10:HT P M t10 ∧ ∀ x∈x10,GoodU P x:=by
  split at h10
  · exact subs_inv _ _ _ _ _ e9 (by simp) h10
  · cases h10;exact ⟨e9,by simp⟩
 obtain ⟨x11,t11,h11,h⟩:=thenP_ok h
 have q11:HT P M t11∧GoodOs (P:=P) (M:=M) x11:=by
  split at h11
  · exact rewrite_inv 8 _ _ _ q10.1.tail h11
  · cases h11;exact ⟨q10.1,by intro o ho;simp at ho;exact .inl ho,.one _ (by simp)⟩
 obtain ⟨x12,t12,h12,h⟩:=thenP_ok h
 obtain ⟨e12,_⟩:=need_inv _ _ _ q11.1 h12
 cases h
 exact ⟨e12,l1,l3,l5,l7,q10.2,q11.2.1,q11.2.2⟩
theorem rels_inv : ∀ (f:Nat) (acc:List RelD) (ts:List Tk) (a:List RelD) (t2:List Tk),HT P M ts→(∀ x∈acc,GoodR P M x)→relsP f acc ts = .ok (a,t2)→HT P M t2 ∧ ∀ x∈a,GoodR P M x
 | 0,acc,ts,a,t2,hh,ha,h=>by cases h;exact ⟨hh,ha⟩
 | f+1,acc,ts,a,t2,hh,ha,h=>by
  simp only [relsP] at h
  split at h
  · obtain ⟨x,t1,h1,h2⟩:=thenP_ok h
    obtain ⟨q1,q2⟩:=rel_inv _ _ _ hh.tail h1
    refine rels_inv f _ _ _ _ q1 ?_ h2
    intro y hy
    rcases List.mem_append.1 hy with hy | hy
    · exact ha y hy
    · simp at hy;subst hy;exact q2
  · cases h;exact ⟨hh,ha⟩
theorem typ_inv:Inv P M typP (GoodT P M):=by
 intro ts a t2 hh h
 unfold typP at h
 obtain ⟨x1,t1,h1,h⟩:=thenP_ok h
 obtain ⟨e1,l1⟩:=name_inv _ _ _ hh h1
 obtain ⟨x2,t2',h2,h⟩:=thenP_ok h
 obtain ⟨e2,_⟩:=need_inv _ _ _ e1 h2
 obtain ⟨x3,t3,h3,h⟩:=thenP_ok h
 obtain ⟨e3,l3⟩:=rels_inv _ _ _ _ _ e2 (by simp) h3
 obtain ⟨x4,t4,h4,h⟩:=thenP_ok h
 obtain ⟨e4,_⟩:=need_inv _ _ _ e3 h4
 cases h
 exact ⟨e4,l1,l3⟩
theorem typs_inv : ∀ (f:Nat) (acc:List TypD) (ts:List Tk) (a:List TypD) (t2:List Tk),HT P M ts→(∀ x∈acc,GoodT P M x)→typsP f acc ts = .ok (a,t2)→HT P M t2 ∧ ∀ x∈a,GoodT P M x
 | 0,acc,ts,a,t2,hh,ha,h=>by cases h;exact ⟨hh,ha⟩
 | f+1,acc,ts,a,t2,hh,ha,h=>by
  simp only [typsP] at h
  split at h
  · obtain ⟨x,t1,h1,h2⟩:=thenP_ok h
    obtain ⟨q1,q2⟩:=typ_inv _ _ _ hh.tail h1
    refine typs_inv f _ _ _ _ q1 ?_ h2
    intro y hy
    rcases List.mem_append.1 hy with hy | hy
    · exact ha y hy
    · simp at hy;subst hy;exact q2
  · cases h;exact ⟨hh,ha⟩
theorem schema_inv {ts:List Tk} {l:List TypD} {t2:List Tk} (hh:HT P M ts) (h:schemaP ts = .ok (l,t2)) : ∀ t∈l,GoodT P M t:=by
 unfold schemaP at h
 obtain ⟨x,t1,h1,h2⟩:=thenP_ok h
 obtain ⟨q1,q2⟩:=typs_inv _ _ _ _ _ hh (by simp) h1
 split at h2
 · split at h2
   · cases h2;exact q2
   · cases h2
 · cases h2
end
/-! ### how much there is -/
def szR (r:RelD):Nat:=r.subs.length+r.ops.length+1
def szT (t:TypD):Nat:=(t.rels.map szR).sum+1
def szS (l:List TypD):Nat:=(l.map szT).sum
theorem subs_few : ∀ (f:Nat) (acc:List SubD) (ts:List Tk) (a:List SubD) (t2:List Tk),EndT ts→subsP f acc ts = .ok (a,t2)→a.length+t2.length≤acc.length+ts.length
 | 0,acc,ts,a,t2,e,h=>by cases h;exact Nat.le_refl _
 | f+1,acc,ts,a,t2,e,h=>by
  simp only [subsP] at h
  obtain ⟨x,t1,h1,h2⟩:=thenP_ok h
  obtain ⟨e1,l1⟩:=sub_less _ _ _ e h1
  split at h2
  · rename_i hn
    have:=subs_few f _ _ _ _ (e1.pass (by decide) hn) h2
    have:=pass_len hn
    simp at *;omega
  · cases h2;simp;omega
theorem rel_size {ts:List Tk} {r:RelD} {t2:List Tk} (e:EndT ts) (h:relP ts = .ok (r,t2)):szR r+t2.length≤ts.length:=by
 unfold relP at h
 obtain ⟨x1,t1,h1,h⟩:=thenP_ok h
 obtain ⟨e1,l1⟩:=name_less _ _ _ e h1
 obtain ⟨x2,t2',h2,h⟩:=thenP_ok h
 obtain ⟨e2,l2⟩:=need_less (by decide) _ _ _ e1 h2
 obtain ⟨x3,t3,h3,h⟩:=thenP_ok h
 obtain ⟨e3,l3⟩:=name_less _ _ _ e2 h3
 obtain ⟨x4,t4,h4,h⟩:=thenP_ok h
 obtain ⟨e4,l4⟩:=need_less (by decide) _ _ _ e3 h4
 obtain ⟨x5,t5,h5,h⟩:=thenP_ok h
 obtain ⟨e5,l5⟩:=name_less _ _ _ e4 h5
 obtain ⟨x6,t6,h6,h⟩:=thenP_ok h
 obtain ⟨e6,l6⟩:=need_less (by decide) _ _ _ e5 h6
 obtain ⟨x7,t7,h7,h⟩:=thenP_ok h
 obtain ⟨e7,l7⟩:=name_less _ _ _ e6 h7
 obtain ⟨x8,t8,h8,h⟩:=thenP_ok h
 obtain ⟨e8,l8⟩:=need_less (by decide) _ _ _ e7 h8
 obtain ⟨x9,t9,h9,h⟩:=thenP_ok h
 obtain ⟨e9,l9⟩:=need_less (by decide) _ _ _ e8 h9
 obtain ⟨x10,t10,h10,h⟩:=thenP_ok h
 have q10:EndT t10∧x10.length+t10.length≤t9.length:=by
  split at h10
  · exact ⟨(subs_less _ _ _ _ _ e9 h10).1,by have:=subs_few _ _ _ _ _ e9 h10;simpa using this⟩
  · cases h10;exact ⟨e9,by simp⟩
 obtain ⟨x11,t11,h11,h⟩:=thenP_ok h
 have q11:EndT t11∧x11.length+t11.length≤t10.length+1:=by
  split at h11
  · rename_i hn
    obtain ⟨e,l⟩:=rewrite_less 8 _ _ _ (q10.1.pass (by decide) hn) h11
    have:=rewrite_few 8 _ _ _ (q10.1.pass (by decide) hn) h11
    have:=pass_len hn
    exact ⟨e,by omega⟩
  · cases h11;exact ⟨q10.1,by simp;omega⟩
 obtain ⟨x12,t12,h12,h⟩:=thenP_ok h
 obtain ⟨e12,l12⟩:=need_less (by decide) _ _ _ q11.1 h12
 cases h
 simp only [szR];omega
theorem rels_size : ∀ (f:Nat) (acc:List RelD) (ts:List Tk) (a:List RelD) (t2:List Tk),EndT ts→relsP f acc ts = .ok (a,t2)→(a.map szR).sum+t2.length≤(acc.map szR).sum+ts.length
 | 0,acc,ts,a,t2,e,h=>by cases h;exact Nat.le_refl _
 | f+1,acc,ts,a,t2,e,h=>by
  simp only [relsP] at h
  split at h
  · rename_i hn
    obtain ⟨x,t1,h1,h2⟩:=thenP_ok h
    have ep:=e.pass (by decide) hn
    obtain ⟨e1,l1⟩:=rel_less _ _ _ ep h1
    have q:=rel_size ep h1
    have:=rels_size f _ _ _ _ e1 h2
    have:=pass_len hn
    simp only [List.map_append,List.sum_append,List.map_cons,List.map_nil,List.sum_cons,List.sum_nil] at *;omega
  · cases h;exact Nat.le_refl _
theorem typ_size {ts:List Tk} {t:TypD} {t2:List Tk} (e:EndT ts) (h:typP ts = .ok (t,t2)):szT t+t2.length≤ts.length:=by
 unfold typP at h
 obtain ⟨x1,t1,h1,h⟩:=thenP_ok h
 obtain ⟨e1,l1⟩:=name_less _ _ _ e h1
 obtain ⟨x2,t2',h2,h⟩:=thenP_ok h
 obtain ⟨e2,l2⟩:=need_less (by decide) _ _ _ e1 h2
 obtain ⟨x3,t3,h3,h⟩:=thenP_ok h
 obtain ⟨e3,l3⟩:=rels_less _ _ _ _ _ e2 h3
 have q:=rels_size _ _ _ _ _ e2 h3
 obtain ⟨x4,t4,h4,h⟩:=thenP_ok h
 obtain ⟨e4,l4⟩:=need_less (by decide) _ _ _ e3 h4
 cases h
 simp only [szT,List.map_nil,List.sum_nil] at *;omega
theorem typs_size : ∀ (f:Nat) (acc:List TypD) (ts:List Tk) (a:List TypD) (t2:List Tk),EndT ts→typsP f acc ts = .ok (a,t2)→szS a+t2.length≤szS acc+ts.length
 | 0,acc,ts,a,t2,e,h=>by cases h;exact Nat.le_refl _
 | f+1,acc,ts,a,t2,e,h=>by
  simp only [typsP] at h
  split at h
  · rename_i hn
    obtain ⟨x,t1,h1,h2⟩:=thenP_ok h
    have ep:=e.pass (by decide) hn
    obtain ⟨e1,l1⟩:=typ_less _ _ _ ep h1
    have q:=typ_size ep h1
    have:=typs_size f _ _ _ _ e1 h2
    have:=pass_len hn
    simp only [szS,List.map_append,List.sum_append,List.map_cons,List.map_nil,List.sum_cons,List.sum_nil] at *;omega
  · cases h;exact Nat.le_refl _
theorem schema_size {ts:List Tk} {l:List TypD} {t2:List Tk} (e:EndT ts) (h:schemaP ts = .ok (l,t2)):szS l≤ts.length:=by
 unfold schemaP at h
 obtain ⟨x,t1,h1,h2⟩:=thenP_ok h
 have q:=typs_size _ _ _ _ _ e h1
 split at h2
 · split at h2
   · cases h2;simp only [szS,List.map_nil,List.sum_nil] at *;omega
   · cases h2
 · cases h2
end Go.Proofs.YtdbmeidhlijopaaDoor.Ev.C

/- What is wrong with a text is told by a number other than 0. -/
namespace Go.Proofs.YtdbmeidhlijopaaDoor.Ev.C
open Go Go.Proofs.YtdbmeidhlijopaaDoor.Ev
set_option linter.unusedSimpArgs false
set_option linter.unusedVariables false
def Err {α:Type} (p:List Tk→PRs α):Prop := ∀ ts e,p ts = .error e→e.1≠0
theorem thenP_err {α β:Type} {x:PRs α} {f:α→List Tk→PRs β} {e:Int×Nat} (h:thenP x f = .error e):x = .error e ∨ ∃ a t,x = .ok (a,t)∧f a t = .error e:=by
 unfold thenP at h
 split at h
 · exact .inr ⟨_,_,rfl,h⟩
 · cases h;exact .inl rfl
theorem fail_err {α:Type} {c:Int} (hc:c≠0) {ts:List Tk} {e:Int×Nat} (h:(failP c ts:PRs α) = .error e):e.1≠0:=by cases h;exact hc
theorem name_err:Err nameP:=by
 intro ts e h
 unfold nameP at h
 split at h
 · split at h
   · cases h
   · exact fail_err (by decide) h
 · exact fail_err (by decide) h
theorem need_err {s:T8s}:Err (needP s):=by
 intro ts e h
 unfold needP at h
 split at h
 · cases h
 · exact fail_err (by decide) h
theorem part_err {can:Bool} {rw:List Tk→PRs (List OpD)} (hr:can=true→Err rw):Err (partP can rw):=by
 intro ts e h
 unfold partP at h
 split at h
 · cases h
 split at h
 · split at h
   · exact fail_err (by decide) h
   · rename_i hc
     rcases thenP_err h with h | ⟨a,t,_,h⟩
     · exact hr (by simpa using hc) _ _ h
     · rcases thenP_err h with h | ⟨a,t,_,h⟩
       · exact need_err _ _ h
       · cases h
 · rcases thenP_err h with h | ⟨a,t,_,h⟩
   · exact name_err _ _ h
   · split at h
     · rcases thenP_err h with h | ⟨a,t,_,h⟩
       · exact name_err _ _ h
       · cases h
     · cases h
theorem loop_err {part:List Tk→PRs (List OpD)} (hp:Err part) : ∀ (f:Nat) (out:List OpD) (ts:List Tk) (e:Int×Nat),loopP part f out ts = .error e→e.1≠0
 | 0,out,ts,e,h=>by cases h
 | f+1,out,ts,e,h=>by
  simp only [loopP] at h
  split at h
  · cases h
  · rcases thenP_err h with h | ⟨a,t,_,h⟩
    · exact hp _ _ h
    · exact loop_err hp f _ _ _ h
theorem rewrite_err : ∀ d,Err (rewriteP d)
 | 0=>by
  intro ts e h
  simp only [rewriteP] at h
  have hp:=part_err (can:=false) (rw:=fun t=>failP 0 t) (fun h=>by cases h)
  rcases thenP_err h with h | ⟨a,t,_,h⟩
  · exact hp _ _ h
  · exact loop_err hp _ _ _ _ h
 | d+1=>by
  intro ts e h
  simp only [rewriteP] at h
  have hp:=part_err (can:=true) (rw:=rewriteP d) (fun _=>rewrite_err d)
  rcases thenP_err h with h | ⟨a,t,_,h⟩
  · exact hp _ _ h
  · exact loop_err hp _ _ _ _ h
theorem sub_err:Err subP:=by
 intro ts e h
 unfold subP at h
 rcases thenP_err h with h | ⟨a,t,_,h⟩
 · exact name_err _ _ h
 · split at h
   · rcases thenP_err h with h | ⟨a,t,_,h⟩
     · exact name_err _ _ h
     · cases h
   · cases h
theorem subs_err : ∀ (f:Nat) (acc:List SubD) (ts:List Tk) (e:Int×Nat),subsP f acc ts = .error e→e.1≠0
 | 0,acc,ts,e,h=>by cases h
 | f+1,acc,ts,e,h=>by
  simp only [subsP] at h
  rcases thenP_err h with h | ⟨a,t,_,h⟩
  · exact sub_err _ _ h
  · split at h
    · exact subs_err f _ _ _ h
    · cases h
theorem rel_err:Err relP:=by
 intro ts e h
 unfold relP at h
 rcases thenP_err h with h | ⟨a,t,_,h⟩
 · exact name_err _ _ h
 rcases thenP_err h with h | ⟨a,t,_,h⟩
 · exact need_err _ _ h
 rcases thenP_err h with h | ⟨a,t,_,h⟩
 · exact name_err _ _ h
 rcases thenP_err h with h | ⟨a,t,_,h⟩
 · exact need_err _ _ h
 rcases thenP_err h with h | ⟨a,t,_,h⟩
 · exact name_err _ _ h
 rcases thenP_err h with h | ⟨a,t,_,h⟩
 · exact need_err _ _ h
 rcases thenP_err h with h | ⟨a,t,_,h⟩
 · exact name_err _ _ h
 rcases thenP_err h with h | ⟨a,t,_,h⟩
 · exact need_err _ _ h
 rcases thenP_err h with h | ⟨a,t,_,h⟩
 · exact need_err _ _ h
 rcases thenP_err h with h | ⟨a,t,_,h⟩
 · split at h
   · exact subs_err _ _ _ _ h
   · cases h
 rcases thenP_err h with h | ⟨a,t,_,h⟩
 · split at h
   · exact rewrite_err 8 _ _ h
   · cases h
 rcases thenP_err h with h | ⟨a,t,_,h⟩
 · exact need_err _ _ h
 · cases h
theorem rels_err : ∀ (f:Nat) (acc:List RelD) (ts:List Tk) (e:Int×Nat),relsP f acc ts = .error e→e.1≠0
 | 0,acc,ts,e,h=>by cases h
 | f+1,acc,ts,e,h=>by
  simp only [relsP] at h
  split at h
  · rcases thenP_err h with h | ⟨a,t,_,h⟩
    · exact rel_err _ _ h
    · exact rels_err f _ _ _ h
  · cases h
theorem typ_err:Err typP:=by
 intro ts e h
 unfold typP at h
 rcases thenP_err h with h | ⟨a,t,_,h⟩
 · exact name_err _ _ h
 rcases thenP_err h with h | ⟨a,t,_,h⟩
 · exact need_err _ _ h
 rcases thenP_err h with h | ⟨a,t,_,h⟩
 · exact rels_err _ _ _ _ h
 rcases thenP_err h with h | ⟨a,t,_,h⟩
 · exact need_err _ _ h
 · cases h
theorem typs_err : ∀ (f:Nat) (acc:List TypD) (ts:List Tk) (e:Int×Nat),typsP f acc ts = .error e→e.1≠0
 | 0,acc,ts,e,h=>by cases h
 | f+1,acc,ts,e,h=>by
  simp only [typsP] at h
  split at h
  · rcases thenP_err h with h | ⟨a,t,_,h⟩
    · exact typ_err _ _ h
    · exact typs_err f _ _ _ h
  · cases h
theorem schema_err:Err schemaP:=by
 intro ts e h
 unfold schemaP at h
 rcases thenP_err h with h | ⟨a,t,_,h⟩
 · exact typs_err _ _ _ _ h
 · split at h
   · split at h
     · cases h
     · exact fail_err (by decide) h
   · exact fail_err (by decide) h
theorem parse_err {s:T8s} {e:Int×Nat} (h:parseP (lexP s) = .error e):e.1≠0:=by
 unfold parseP at h
 split at h
 · rename_i e' he;cases h;exact lexP_err he
 · split at h
   · cases h
   · rename_i he;cases h;exact schema_err _ _ he
end Go.Proofs.YtdbmeidhlijopaaDoor.Ev.C

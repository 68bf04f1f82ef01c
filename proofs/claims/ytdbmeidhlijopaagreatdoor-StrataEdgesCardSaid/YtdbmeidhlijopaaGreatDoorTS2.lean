/- What is known of a schema that is read and holds together: its size, its paths, its edges. -/
import Derived.Test.YtdbmeidhlijopaaGreatDoorTP
import Derived.Test.YtdbmeidhlijopaaGreatDoorTS
namespace Go.Proofs.YtdbmeidhlijopaaGreatDoor.Ev.C
open Go Go.Proofs.YtdbmeidhlijopaaGreatDoor.Ev Go.Sort Go.Proofs
set_option linter.unusedSimpArgs false
set_option linter.unusedVariables false
/-! ### tokens -/
theorem aW9 {Q:Tk→Prop} (s:T8s) (hq : ∀ i t,(lexS s i).1=some t→Q t) (he : ∀ i,Q (3,[],i)) : ∀ (f i:Nat) (acc l:List Tk),(∀ t∈acc,Q t)→lexF s f i acc = .ok l → ∀ t∈l,Q t
 | 0,i,acc,l,ha,h=>by
  cases h
  intro t ht
  rcases List.mem_append.1 ht with ht | ht
  · exact ha t ht
  · simp at ht;subst ht;exact he i
 | f+1,i,acc,l,ha,h=>by
  simp only [lexF] at h
  split at h
  · split at h
    · refine aW9 s hq he f _ _ _ ?_ h
      intro t ht
      rcases List.mem_append.1 ht with ht | ht
      · exact ha t ht
      · exact hq i t (by simpa using ht)
    · cases h
  · cases h
    intro t ht
    rcases List.mem_append.1 ht with ht | ht
    · exact ha t ht
    · simp at ht;subst ht;exact he i
theorem aWo {Q:Tk→Prop} (s:T8s) (hq : ∀ i t,(lexS s i).1=some t→Q t) (he : ∀ i,Q (3,[],i)) {l:List Tk} (h:lexP s = .ok l) : ∀ t∈l,Q t:=by
 unfold lexP at h
 split at h
 · cases h
 split at h
 · cases h
 exact aW9 s hq he _ _ _ _ (by simp) h
/-- a token's text is a part of the text -/
theorem aZm (s:T8s) (i:Nat) (t:Tk) (h:(lexS s i).1=some t) : ∃ a n,t.2.1=(s.drop a).take n:=by
 unfold lexS at h
 split at h
 · cases h
 split at h
 · split at h <;> cases h
 split at h
 · cases h;exact ⟨_,_,rfl⟩
 split at h
 · cases h
 split at h
 · cases h
 · cases h;exact ⟨_,_,rfl⟩
theorem lex_HT {s:T8s} {l:List Tk} (h:lexP s = .ok l):HT (fun n=>n.length≤s.length) (45∈s) l:=by
 have:=aWo (Q:=fun t => ∃ a n,t.2.1=(s.drop a).take n) s (aZm s) (fun i=>⟨s.length,0,by simp⟩) h
 intro t ht
 obtain ⟨a,n,e⟩:=this t ht
 refine ⟨fun _ _ => ?_,fun e2 => ?_⟩
 · show t.2.1.length≤s.length
   rw [e,List.length_take,List.length_drop];omega
 · have:(45:UInt8)∈t.2.1:=by rw [e2];simp
   rw [e] at this
   exact List.mem_of_mem_drop (List.mem_of_mem_take this)
theorem a0d {s:T8s} {l:List Tk} (h:lexP s = .ok l):s.length≤2048:=by
 unfold lexP at h
 split at h
 · cases h
 · omega
theorem aPL {s:T8s} {l:List TypD} (h:parseP (lexP s) = .ok l):(∀ t∈l,GoodT (fun n=>n.length≤2048) (45∈s) t)∧szS l≤2049:=by
 unfold parseP at h
 split at h
 · cases h
 rename_i ts hts
 split at h
 case h_2=>cases h
 rename_i l' t2 hl
 cases h
 have hs:=a0d hts
 obtain ⟨e,hle⟩:=aWt hts
 refine ⟨aTj (M:=45∈s) (fun t ht=>⟨fun a b=>Nat.le_trans ((lex_HT hts t ht).1 a b) hs,(lex_HT hts t ht).2⟩) hl,Nat.le_trans (aXx e hl) hle⟩
/-! ### sizes -/
theorem aKM {α:Type} (f:α→Nat) {l:List α} {x:α} (h:x∈l):f x≤(l.map f).sum:=aPI (List.mem_map.2 ⟨x,h,rfl⟩)
theorem aUo {α:Type} (f:α→Nat) (h : ∀ x,1≤f x) : ∀ l:List α,l.length≤(l.map f).sum
 | []=>Nat.le_refl _
 | x::l=>by have:=aUo f h l;have:=h x;simp only [List.length_cons,List.map_cons,List.sum_cons];omega
theorem a3F (r:RelD):1≤szR r:=by unfold szR;omega
theorem a2K (t:TypD):1≤szT t:=by unfold szT;omega
theorem aTF : ∀ l:List RelD,subsN l≤(l.map szR).sum
 | []=>Nat.le_refl _
 | r::l=>by
  have:=aTF l
  simp only [subsN,List.map_cons,List.sum_cons,szR] at *;omega
theorem to_len (t:TypD) (r:RelD) (o:OpD):(toP t r o).length≤r.subs.length+subsN t.rels+1:=by
 unfold toP
 split
 · omega
 · split
   · simp
   · split
     · rw [List.length_map];have h9:(objP t o.2.1).length≤subsN t.rels:=aOY o.2.1 t.rels;omega
     · simp
theorem aTr (ps:List Pth) (t:TypD) (r:RelD) (c:Nat) (hc:r.subs.length+subsN t.rels+1≤c) : ∀ (l:List OpD) (j:Nat),(edgesK ps t r j l).length≤l.length*c
 | [],j=>by simp [edgesK]
 | o::l,j=>by
  have h1:=aTr ps t r c hc l (j+1)
  have h2:(edgesO ps t r j o).length≤c:=by
   unfold edgesO
   exact Nat.le_trans (List.length_filterMap_le _ _) (Nat.le_trans (to_len t r o) hc)
  simp only [edgesK,List.length_append,List.length_cons,Nat.add_mul,Nat.one_mul];omega
theorem aY5 (ps:List Pth) (t:TypD) (c:Nat) (hc:2*subsN t.rels+1≤c):(edgesT ps t).length≤(t.rels.map szR).sum*c:=by
 unfold edgesT
 have : ∀ l:List RelD,(∀ r∈l,r∈t.rels)→(l.flatMap (edgesR ps t)).length≤(l.map szR).sum*c:=by
  intro l
  induction l with
  | nil=>intro _;simp
  | cons r l ih =>
   intro hm
   have h1:=ih fun x hx=>hm x (List.mem_cons_of_mem _ hx)
   have h3:r.subs.length≤subsN t.rels:=aKM (fun r:RelD=>r.subs.length) (hm r List.mem_cons_self)
   have h2:=aTr ps t r c (by omega) r.ops 0
   have h4:r.ops.length*c≤szR r*c:=Nat.mul_le_mul_right _ (by unfold szR;omega)
   simp only [List.flatMap_cons,List.length_append,List.map_cons,List.sum_cons,Nat.add_mul]
   have:(edgesR ps t r).length≤r.ops.length*c:=h2
   omega
 exact this t.rels fun r hr=>hr
theorem aVO (ps:List Pth) (c:Nat) : ∀ (l:List TypD),(∀ t∈l,2*subsN t.rels+1≤c)→(l.flatMap (edgesT ps)).length≤szS l*c
 | [],_=>by simp
 | t::l,hc=>by
  have h1:=aVO ps c l fun x hx=>hc x (List.mem_cons_of_mem _ hx)
  have h2:=aY5 ps t c (hc t List.mem_cons_self)
  have h3:(t.rels.map szR).sum*c≤szT t*c:=Nat.mul_le_mul_right _ (by unfold szT;omega)
  simp only [List.flatMap_cons,List.length_append,szS,List.map_cons,List.sum_cons,Nat.add_mul] at *;omega
theorem aTo {s:T8s} {l:List TypD} (h:parseP (lexP s) = .ok l):Tiny l:=by
 obtain ⟨hg,hz⟩:=aPL h
 have hst : ∀ t∈l,szT t≤2049:=fun t ht=>Nat.le_trans (aKM szT ht) hz
 have hsub : ∀ t∈l,subsN t.rels≤2049:=fun t ht=>by have:=hst t ht;have:=aTF t.rels;unfold szT at *;omega
 refine ⟨⟨?_,fun t ht=>⟨?_,?_,fun r hr=>⟨?_,?_,?_⟩⟩⟩,fun t ht=>by have:=hsub t ht;omega,?_⟩
 · have:=aUo szT a2K l
   have hz':(l.map szT).sum≤2049:=hz
   omega
 · have:=aUo szR a3F t.rels
   have:=hst t ht
   unfold szT at this;omega
 · have:t.name.length≤2048:=(hg t ht).name
   omega
 · have:r.name.length≤2048:=((hg t ht).rels r hr).name
   omega
 · have:=hst t ht;unfold szT at this;have h2:szR r=r.subs.length+r.ops.length+1:=rfl;have h3:=aKM szR hr;omega
 · have:=hst t ht;unfold szT at this;have h2:szR r=r.subs.length+r.ops.length+1:=rfl;have h3:=aKM szR hr;omega
 · have h1:=aVO (pathsP l) 4099 l fun t ht=>by have:=hsub t ht;omega
   have h2:szS l*4099≤2049*4099:=Nat.mul_le_mul_right _ hz
   unfold edgesL;omega
/-! ### paths -/
theorem aYH (t:TypD) : ∀ (l:List RelD) (k:Nat),(cntR t k l).1=0→t.rels.drop k=l → ∀ i (hi:i<l.length),((t.rels.take (k+i)).any fun r=>decide (r.name=l[i].name))=false
 | [],k,h,hd,i,hi=>by simp at hi
 | r::l,k,h,hd,i,hi=>by
  simp only [cntR] at h
  split at h
  · cases h
  rename_i h1
  split at h
  · cases h
  cases i with
  | zero=>simpa [hasP] using h1
  | succ i =>
   have hd2:t.rels.drop (k+1)=l:=by
    rw [show k+1=1+k by omega,← List.drop_drop,Nat.add_comm] at *
    have:=congrArg (List.drop 1) hd
    simpa [List.drop_drop,Nat.add_comm] using this
   have:=aYH t l (k+1) h hd2 i (by simpa using hi)
   simp only [List.getElem_cons_succ]
   rw [show k+(i+1)=k+1+i by omega];exact this
theorem aWJ {α β:Type} [DecidableEq β] (f:α→β) (l:List α) (h : ∀ i (hi:i<l.length),((l.take i).any fun r=>decide (f r=f l[i]))=false):(l.map f).Nodup:=by
 refine List.pairwise_iff_getElem.2 fun i j hi hj hij => ?_
 rw [List.length_map] at hi hj
 rw [List.getElem_map,List.getElem_map]
 intro e
 have:=h j hj
 rw [List.any_eq_false] at this
 have h2:=this l[i] (List.mem_take_iff_getElem.2 ⟨i,by omega,rfl⟩)
 exact h2 (decide_eq_true e)
theorem aYK (l:List TypD) : ∀ (m:List TypD) (k:Nat),(cntT l k m).1=0→l.drop k=m → ∀ i (hi:i<m.length),((l.take (k+i)).any fun t=>decide (t.name=m[i].name))=false∧(m[i].rels.map (·.name)).Nodup∧m[i].rels.length≤16
 | [],k,h,hd,i,hi=>by simp at hi
 | t::m,k,h,hd,i,hi=>by
  simp only [cntT] at h
  split at h
  · cases h
  rename_i h1
  split at h
  · cases h
  rename_i h2
  split at h
  case isFalse h3=>exact absurd h h3
  rename_i h3
  cases i with
  | zero =>
   refine ⟨?_,?_,by simp;omega⟩
   · simp only [kindP,Nat.add_zero,List.getElem_cons_zero] at h1 ⊢
     rw [List.find?_isSome] at h1
     rw [List.any_eq_false]
     intro x hx e
     exact h1 ⟨x,hx,e⟩
   · have:=aYH t t.rels 0 (by simpa using h3) rfl
     simp only [List.getElem_cons_zero]
     exact aWJ _ _ (by simpa using this)
  | succ i =>
   have hd2:l.drop (k+1)=m:=by
    have:=congrArg (List.drop 1) hd
    simpa [List.drop_drop,Nat.add_comm] using this
   have:=aYK l m (k+1) h hd2 i (by simpa using hi)
   simp only [List.getElem_cons_succ]
   rw [show k+(i+1)=k+1+i by omega];exact this
structure Names (l:List TypD):Prop where
 typs:(l.map (·.name)).Nodup
 rels : ∀ t∈l,(t.rels.map (·.name)).Nodup
 fewT:l.length≤8
 fewR : ∀ t∈l,t.rels.length≤16
theorem aXR {l:List TypD} (h:(aCw l).1=0):Names l:=by
 unfold aCw at h
 split at h
 · cases h
 rename_i h8
 have:=aYK l l 0 h rfl
 refine ⟨aWJ _ _ (by intro i hi;simpa using (this i hi).1),fun t ht => ?_,by omega,fun t ht => ?_⟩
 · obtain ⟨i,hi,rfl⟩:=List.mem_iff_getElem.1 ht
   exact (this i hi).2.1
 · obtain ⟨i,hi,rfl⟩:=List.mem_iff_getElem.1 ht
   exact (this i hi).2.2
theorem aSk {l:List TypD} (h:(l.map (·.name)).Nodup) (h2 : ∀ t∈l,(t.rels.map (·.name)).Nodup):(pathsP l).Nodup:=by
 induction l with
 | nil=>exact List.nodup_nil
 | cons t l ih =>
  unfold pathsP
  rw [List.flatMap_cons]
  rw [List.map_cons,List.nodup_cons] at h
  refine List.nodup_append.2 ⟨?_,ih h.2 fun x hx=>h2 x (List.mem_cons_of_mem _ hx),?_⟩
  · unfold pathsT
    have h3:=h2 t List.mem_cons_self
    refine List.pairwise_iff_getElem.2 fun i j hi hj hij => ?_
    rw [List.length_map] at hi hj
    rw [List.getElem_map,List.getElem_map]
    have:=List.pairwise_iff_getElem.1 h3 i j (by simpa using hi) (by simpa using hj) hij
    rw [List.getElem_map,List.getElem_map] at this
    intro e
    exact this (congrArg Prod.snd e)
  · intro a ha b hb e
    subst e
    obtain ⟨r,_,rfl⟩:=List.mem_map.1 ha
    obtain ⟨t',ht',hb'⟩:=List.mem_flatMap.1 hb
    obtain ⟨r',_,e⟩:=List.mem_map.1 hb'
    have e1:t'.name=t.name:=congrArg Prod.fst e
    exact h.1 (List.mem_map.2 ⟨t',ht',e1⟩)
theorem aNP {l:List TypD} (h:(checkP l).1=0):Names l:=by
 unfold checkP at h
 split at h
 · exact aXR (by assumption)
 · rename_i h2;exact absurd h h2
end Go.Proofs.YtdbmeidhlijopaaGreatDoor.Ev.C

/- A schema's edges: where they lead, how they stand, which are behind a minus. -/
namespace Go.Proofs.YtdbmeidhlijopaaGreatDoor.Ev.C
open Go Go.Proofs.YtdbmeidhlijopaaGreatDoor.Ev Go.Sort Go.Proofs
set_option linter.unusedSimpArgs false
set_option linter.unusedVariables false
theorem aNC : ∀ (l:List Ed) (e:Ed),e∈compP l↔e∈l
 | [],e=>Iff.rfl
 | [a],e=>Iff.rfl
 | a::b::r,e=>by
  simp only [compP]
  split
  · rename_i h;subst h
    rw [aNC (a::r) e];simp
  · rw [List.mem_cons,aNC (b::r) e];simp
theorem aZa (l:List Ed) (e:Ed):e∈sortE l↔e∈l:=List.mem_mergeSort
theorem aYu (l:List TypD) (e:Ed):e∈edgesP l↔e∈edgesL l:=by unfold edgesP;rw [aNC,aZa]
theorem le_ltE (x y:Ed):(!(ltOf cmpE) y x) = !ltE y x:=by rw [aKC]
theorem aKA (x y:Ed):ltE x y=true↔(x.1<y.1∨x.1=y.1∧(x.2.1<y.2.1∨x.2.1=y.2.1∧wt x.2.2<wt y.2.2)):=by unfold ltE;exact decide_eq_true_iff
theorem aYS {x y:Ed} (h1 : ¬ ltE x y=true) (h2 : ¬ ltE y x=true):x=y:=totE x y (by rw [aKC];simpa using h1) (by rw [aKC];simpa using h2)
theorem aVM {x y z:Ed} (h1:ltE x y=true) (h2:ltE y z=true):ltE x z=true:=by rw [aKA] at *;omega
theorem aWc (l:List Ed):(sortE l).Pairwise fun x y => ¬ ltE y x=true:=by
 have:=List.pairwise_mergeSort (le:=fun x y:Ed => !(ltOf cmpE) y x) (fun a b c h1 h2=>by
  rw [le_ltE] at *
  simp only [Bool.not_eq_true',← Bool.not_eq_true] at *
  rw [aKA] at *
  omega) (fun a b=>by
  rw [le_ltE,le_ltE]
  simp only [Bool.or_eq_true,Bool.not_eq_true',← Bool.not_eq_true]
  rw [aKA,aKA]
  omega) l
 refine List.Pairwise.imp ?_ this
 intro a b h
 rw [le_ltE] at h
 simpa using h
theorem aSF : ∀ l:List Ed,(l.Pairwise fun x y => ¬ ltE y x=true)→(compP l).Pairwise fun x y=>ltE x y=true
 | [],_ => .nil
 | [a],_=>List.pairwise_singleton _ _
 | a::b::r,h=>by
  obtain ⟨h1,h2⟩:=List.pairwise_cons.1 h
  have ih:=aSF (b::r) h2
  simp only [compP]
  split
  · exact ih
  · rename_i hab
    refine List.pairwise_cons.2 ⟨fun x hx => ?_,ih⟩
    rw [aNC] at hx
    have hb:=h1 b List.mem_cons_self
    have hlt:ltE a b=true:=Classical.byContradiction fun hc=>hab (aYS hc hb)
    rcases List.mem_cons.1 hx with rfl | hx
    · exact hlt
    · have:=(List.pairwise_cons.1 h2).1 x hx
      rw [aKA] at *
      omega
theorem aVj (l:List TypD):(edgesP l).Pairwise fun x y=>ltE x y=true:=aSF _ (aWc _)
/-- how many relations there are -/
def relsN (l:List TypD):Nat:=(l.map fun t=>t.rels.length).sum
theorem aV1 : ∀ l:List TypD,(pathsP l).length=relsN l
 | []=>rfl
 | t::l=>by
  have:=aV1 l
  unfold pathsP relsN at *
  simp only [List.flatMap_cons,List.length_append,List.map_cons,List.sum_cons,this,pathsT,List.length_map]
/-! ### behind a minus -/
theorem a0z {l:List TypD} (h:Names l):relsN l≤128:=by
 have : ∀ m:List TypD,(∀ t∈m,t.rels.length≤16)→relsN m≤m.length*16:=by
  intro m
  induction m with
  | nil=>intro _;simp [relsN]
  | cons t m ih =>
   intro hm
   have h1:=ih fun x hx=>hm x (List.mem_cons_of_mem _ hx)
   have h2:=hm t List.mem_cons_self
   simp only [relsN,List.map_cons,List.sum_cons,List.length_cons] at *;omega
 have h1:=this l h.fewR
 have:=h.fewT
 omega
end Go.Proofs.YtdbmeidhlijopaaGreatDoor.Ev.C

/- Behind a minus: where parts begin, by the reference and by the stack. -/
namespace Go.Proofs.YtdbmeidhlijopaaGreatDoor.Ev.C
open Go Go.Proofs.YtdbmeidhlijopaaGreatDoor.Ev
set_option linter.unusedSimpArgs false
set_option linter.unusedVariables false
abbrev opAt (l:List OpD) (i:Nat):OpD:=l.getD i (0,[],[])
/-- where the operations of the part begin whose last one is at a place -/
def fromP:Nat→List OpD→Nat→Nat
 | 0,_,at_=>at_
 | f+1,l,at_=>if (opAt l at_).1<4 then at_ else fromP f l (fromP f l (at_ - 1) - 1)
theorem PF.pos {a:List OpD} (h:PF a):0<a.length:=by
 induction h with
 | one o h=>simp
 | two a b o ha hb h iha ihb=>simp only [List.length_append];omega
theorem aPU (pre:List OpD) (o:OpD) (post:List OpD):opAt (pre++o::post) pre.length=o:=by
 unfold opAt
 rw [List.getD_eq_getElem?_getD,List.getElem?_append_right (Nat.le_refl _),Nat.sub_self];rfl
theorem aSM {a:List OpD} (h:PF a) : ∀ (f:Nat) (pre post:List OpD),a.length≤f→fromP f (pre++a++post) (pre.length+a.length - 1)=pre.length:=by
 induction h with
 | one o h =>
  intro f pre post hf
  cases f with
  | zero=>simp at hf
  | succ f =>
   simp only [fromP,List.length_singleton,Nat.add_sub_cancel]
   rw [List.append_assoc,List.singleton_append,aPU,if_pos h]
 | two a b o ha hb h iha ihb =>
  intro f pre post hf
  have h1:=ha.pos
  have h2:=hb.pos
  simp only [List.length_append,List.length_singleton] at hf ⊢
  cases f with
  | zero=>omega
  | succ f =>
   simp only [fromP]
   have e1:pre.length+(a.length+b.length+1) - 1=(pre++a++b).length:=by simp only [List.length_append];omega
   have e2:pre++(a++b ++ [o])++post=(pre++a++b)++o::post:=by simp
   rw [e1,e2,aPU,if_neg (by omega)]
   have i2:=ihb f (pre++a) (o::post) (by omega)
   have i1:=iha f pre (b++o::post) (by omega)
   rw [show (pre++a++b).length - 1=(pre++a).length+b.length - 1 by simp;try omega,i2]
   rw [show pre++a++b++o::post=pre++a++(b++o::post) by simp]
   rw [show (pre++a).length - 1=pre.length+a.length - 1 by simp]
   exact i1
/-- each place is a part's last one -/
theorem PF.ends {a:List OpD} (h:PF a) : ∀ m,m<a.length → ∃ x p y,a=x++p++y∧PF p∧m=x.length+p.length - 1:=by
 induction h with
 | one o h=>intro m hm;exact ⟨[],[o],[],rfl,.one o h,by simp at hm ⊢;omega⟩
 | two a b o ha hb h iha ihb =>
  intro m hm
  simp only [List.length_append,List.length_singleton] at hm
  by_cases h1:m<a.length
  · obtain ⟨x,p,y,e,hp,em⟩:=iha m h1
    exact ⟨x,p,y++b ++ [o],by rw [e];simp,hp,em⟩
  · by_cases h2:m<a.length+b.length
    · obtain ⟨x,p,y,e,hp,em⟩:=ihb (m - a.length) (by omega)
      have:=hp.pos
      exact ⟨a++x,p,y ++ [o],by rw [e];simp,hp,by simp;omega⟩
    · exact ⟨[],a++b ++ [o],[],by simp,.two a b o ha hb h,by simp;omega⟩
theorem aXP {a:List OpD} (h:PF a) {m:Nat} (hm:m<a.length) (f:Nat) (hf:a.length≤f) (X Y:List OpD):fromP f (X++a++Y) (X.length+m)=X.length+fromP a.length a m∧fromP a.length a m≤m:=by
 obtain ⟨x,p,y,e,hp,em⟩:=h.ends m hm
 have hpp:=hp.pos
 have hl:a.length=x.length+p.length+y.length:=by rw [e];simp only [List.length_append]
 have h1:=aSM hp a.length x y (by omega)
 have h2:=aSM hp f (X++x) (y++Y) (by omega)
 rw [← e,← em] at h1
 rw [show X++x++p++(y++Y)=X++a++Y by rw [e];simp,show (X++x).length+p.length - 1=X.length+m by simp;omega] at h2
 rw [h1,h2]
 exact ⟨by simp,by omega⟩
/-- does a place stand behind a minus? -/
def behA (a:List OpD) (k:Nat):Bool:=(List.range a.length).any fun m=>decide (k<m)&&(decide ((opAt a m).1=6)&&decide (fromP a.length a (m - 1)≤k))
theorem aF2 {a:List OpD} {k:Nat}:behA a k=true ↔ ∃ m,k<m∧m<a.length∧(opAt a m).1=6∧fromP a.length a (m - 1)≤k:=by
 unfold behA
 rw [List.any_eq_true]
 constructor
 · rintro ⟨m,hm,h⟩
   simp only [Bool.and_eq_true,decide_eq_true_eq] at h
   exact ⟨m,h.1,List.mem_range.1 hm,h.2.1,h.2.2⟩
 · rintro ⟨m,h1,h2,h3,h4⟩
   exact ⟨m,List.mem_range.2 h2,by simp only [Bool.and_eq_true,decide_eq_true_eq];exact ⟨h1,h3,h4⟩⟩
theorem aKl (a b:List OpD) {m:Nat} (h:m<a.length):opAt (a++b) m=opAt a m:=by
 unfold opAt;rw [List.getD_eq_getElem?_getD,List.getD_eq_getElem?_getD,List.getElem?_append_left h]
theorem aVG (a b:List OpD) {m:Nat} (h:a.length≤m):opAt (a++b) m=opAt b (m - a.length):=by
 unfold opAt;rw [List.getD_eq_getElem?_getD,List.getD_eq_getElem?_getD,List.getElem?_append_right h]
/-- behind a minus in a part of two parts -/
theorem a1L {a b:List OpD} {o:OpD} (ha:PF a) (hb:PF b) (h4:4≤o.1) (k:Nat):behA (a++b ++ [o]) k=true↔(k<a.length∧behA a k=true)∨(a.length≤k∧k<a.length+b.length∧(behA b (k - a.length)=true∨o.1=6)):=by
 have hpa:=ha.pos
 have hpb:=hb.pos
 have hlen:(a++b ++ [o]).length=a.length+b.length+1:=by simp only [List.length_append,List.length_singleton]
 have fa : ∀ m,m<a.length→fromP (a++b ++ [o]).length (a++b ++ [o]) m=fromP a.length a m:=by
  intro m hm
  have:=(aXP ha hm (a++b ++ [o]).length (by omega) [] (b ++ [o])).1
  simpa using this
 have fb : ∀ m,m<b.length→fromP (a++b ++ [o]).length (a++b ++ [o]) (a.length+m)=a.length+fromP b.length b m:=fun m hm=>(aXP hb hm (a++b ++ [o]).length (by omega) a [o]).1
 have fbe:fromP b.length b (b.length - 1)=0:=by
  have:=aSM hb b.length [] [] (Nat.le_refl _)
  simpa using this
 have b0:(opAt b 0).1<4∨1<b.length∧(opAt b 0).1<4:=by
  have : ∀ {c:List OpD},PF c→(opAt c 0).1<4:=by
   intro c hc
   induction hc with
   | one o h=>exact h
   | two a b o ha hb h iha ihb =>
    have:=ha.pos
    rw [List.append_assoc,aKl _ _ ha.pos];exact iha
  exact .inl (this hb)
 have b0':(opAt b 0).1<4:=by rcases b0 with h | h;exact h;exact h.2
 rw [aF2]
 constructor
 · rintro ⟨m,h1,h2,h3,h5⟩
   rw [hlen] at h2
   by_cases c1:m<a.length
   · left
     rw [List.append_assoc,aKl _ _ c1] at h3
     rw [fa (m - 1) (by omega)] at h5
     exact ⟨by omega,aF2.2 ⟨m,h1,c1,h3,h5⟩⟩
   · right
     by_cases c2:m<a.length+b.length
     · rw [List.append_assoc,aVG _ _ (by omega),aKl _ _ (by omega)] at h3
       have c3:m≠a.length:=by
        rintro rfl
        rw [Nat.sub_self] at h3;omega
       rw [show m - 1=a.length+(m - a.length - 1) by omega,fb _ (by omega)] at h5
       exact ⟨by omega,by omega,.inl (aF2.2 ⟨m - a.length,by omega,by omega,h3,by omega⟩)⟩
     · have c3:m=a.length+b.length:=by omega
       subst c3
       rw [show a.length+b.length - 1=a.length+(b.length - 1) by omega,fb _ (by omega),fbe] at h5
       rw [show a.length+b.length=(a++b).length by simp,aPU] at h3
       exact ⟨by omega,by omega,.inr h3⟩
 · rintro (⟨h1,h2⟩ | ⟨h1,h2,h3 | h3⟩)
   · obtain ⟨m,q1,q2,q3,q4⟩:=aF2.1 h2
     refine ⟨m,q1,by omega,?_,?_⟩
     · rw [List.append_assoc,aKl _ _ q2];exact q3
     · rw [fa (m - 1) (by omega)];exact q4
   · obtain ⟨m,q1,q2,q3,q4⟩:=aF2.1 h3
     refine ⟨a.length+m,by omega,by omega,?_,?_⟩
     · rw [List.append_assoc,aVG _ _ (by omega),aKl _ _ (by omega),Nat.add_sub_cancel_left];exact q3
     · rw [show a.length+m - 1=a.length+(m - 1) by omega,fb _ (by omega)];omega
   · refine ⟨a.length+b.length,by omega,by omega,?_,?_⟩
     · rw [show a.length+b.length=(a++b).length by simp,aPU];exact h3
     · rw [show a.length+b.length - 1=a.length+(b.length - 1) by omega,fb _ (by omega),fbe];omega
theorem aZb (bs:List Bool) (a b j:Nat):(setT bs a b).getD j false=(bs.getD j false||(decide (j<bs.length)&&(decide (a≤j)&&decide (j<b)))):=by
 simp only [List.getD_eq_getElem?_getD,setT,List.getElem?_mapIdx]
 by_cases h:j<bs.length
 · rw [List.getElem?_eq_getElem h];simp [h]
 · rw [List.getElem?_eq_none (by omega)];simp [h]
/-- the stack's way through a part -/
theorem a2C {a:List OpD} (h:PF a) : ∀ (i:Nat) (out:List Bool) (fr:List Nat) (rest:List OpD),∃ out',notsG i out fr (a++rest)=notsG (i+a.length) out' (fr ++ [i]) rest∧out'.length=out.length ∧
 ∀ j,out'.getD j false=(out.getD j false||(decide (j<out.length)&&(decide (i≤j)&&behA a (j - i)))):=by
 induction h with
 | one o h =>
  intro i out fr rest
  refine ⟨out,?_,rfl,fun j => ?_⟩
  · simp only [List.singleton_append,notsG,List.length_singleton];rw [if_pos (.inl h)]
  · have:behA [o] (j - i)=false:=by
     rw [← Bool.not_eq_true,aF2]
     rintro ⟨m,h1,h2,_⟩
     simp at h2;omega
    rw [this];simp
 | two a b o ha hb h iha ihb =>
  intro i out fr rest
  obtain ⟨o1,e1,l1,g1⟩:=iha i out fr (b++o::rest)
  obtain ⟨o2,e2,l2,g2⟩:=ihb (i+a.length) o1 (fr ++ [i]) (o::rest)
  have hpa:=ha.pos
  have hpb:=hb.pos
  refine ⟨if o.1=6 then setT o2 (i+a.length) (i+a.length+b.length) else o2,?_,?_,fun j => ?_⟩
  · rw [show a++b ++ [o]++rest=a++(b++o::rest) by simp,e1,e2]
    simp only [notsG]
    rw [if_neg (by simp;omega)]
    have hf:fr ++ [i] ++ [i+a.length]=(fr ++ [i]) ++ [i+a.length]:=rfl
    have hl:(fr ++ [i] ++ [i+a.length]).length - 1=(fr ++ [i]).length:=by simp
    rw [hl,List.take_left,List.getD_eq_getElem?_getD,List.getElem?_append_right (Nat.le_refl _),Nat.sub_self]
    simp only [List.getElem?_cons_zero,Option.getD_some,List.length_append,List.length_singleton]
    rw [show i+a.length+b.length+1=i+(a.length+b.length+1) by omega]
  · split
    · rw [aPP,l2,l1]
    · rw [l2,l1]
  · have hb2:=a1L ha hb h (j - i)
    rw [Bool.eq_iff_iff]
    have key:(if o.1=6 then setT o2 (i+a.length) (i+a.length+b.length) else o2).getD j false=true↔o2.getD j false=true∨(o.1=6∧j<o2.length∧i+a.length≤j∧j<i+a.length+b.length):=by
     split
     · rename_i h6
       rw [aZb];simp [h6]
     · rename_i h6;simp [h6]
    rw [key,g2,g1,l1,l2,l1]
    simp only [Bool.or_eq_true,Bool.and_eq_true,decide_eq_true_eq,hb2,l1]
    have hba : ∀ k,behA a k=true→k<a.length:=by
     intro k hk;obtain ⟨m,q1,q2,_⟩:=aF2.1 hk;omega
    have hbb : ∀ k,behA b k=true→k<b.length:=by
     intro k hk;obtain ⟨m,q1,q2,_⟩:=aF2.1 hk;omega
    constructor
    · rintro (((h1 | ⟨h1,h2,h3⟩) | ⟨h1,h2,h3⟩) | ⟨h1,h2,h3,h4⟩)
      · exact .inl h1
      · exact .inr ⟨h1,h2,.inl ⟨hba _ h3,h3⟩⟩
      · have:=hbb _ h3
        exact .inr ⟨h1,by omega,.inr ⟨by omega,by omega,.inl (by rw [Nat.sub_sub];exact h3)⟩⟩
      · exact .inr ⟨h2,by omega,.inr ⟨by omega,by omega,.inr h1⟩⟩
    · rintro (h1 | ⟨h1,h2,⟨h3,h4⟩ | ⟨h3,h4,h5 | h5⟩⟩)
      · exact .inl (.inl (.inl h1))
      · exact .inl (.inl (.inr ⟨h1,h2,h4⟩))
      · exact .inl (.inr ⟨h1,by omega,by rw [Nat.sub_sub] at h5;exact h5⟩)
      · exact .inr ⟨h5,h1,by omega,by omega⟩
/-- the stack tells what the reference tells -/
theorem a1p {a:List OpD} (h:PF a) {j:Nat} (hj:j<a.length):(notsP a).getD j false=behA a j:=by
 obtain ⟨o,e,l,g⟩:=a2C h 0 (List.replicate a.length false) [] []
 rw [List.append_nil] at e
 unfold notsP
 rw [e]
 simp only [notsG]
 rw [g,Nat.sub_zero]
 have:(List.replicate a.length false).getD j false=false:=by
  rw [List.getD_eq_getElem?_getD,List.getElem?_replicate];split <;> rfl
 rw [this]
 simp [hj]
end Go.Proofs.YtdbmeidhlijopaaGreatDoor.Ev.C

/- A schema's edges as the reference has them: the plain law. -/
namespace Go.Proofs.YtdbmeidhlijopaaGreatDoor.Ev.C
open Go Go.Proofs.YtdbmeidhlijopaaGreatDoor.Ev Go.Sort Go.Proofs
set_option linter.unusedSimpArgs false
set_option linter.unusedVariables false
/-- the number of a path, or -1 -/
def numQ (ps:List Pth) (p:Pth):Int:=match idxP p ps with | some i=>(i:Int) | none => -1
/-- the first relation of a name -/
def ixR (rel:T8s):List RelD→Option Nat
 | []=>none
 | r::l=>if r.name=rel then some 0 else (ixR rel l).map (· + 1)
/-- the reference's number -/
def aFl (typ rel:T8s):Nat→List TypD→Int
 | _,[] => -1
 | n,t::l=>if t.name=typ then (match ixR rel t.rels with | some k=>((n+k:Nat):Int) | none => -1) else aFl typ rel (n+t.rels.length) l
theorem a1g (p:Pth) (a b:List Pth):idxP p (a++b)=match idxP p a with | some i=>some i | none=>(idxP p b).map (· + a.length):=by
 induction a with
 | nil=>simp only [List.nil_append,idxP,List.length_nil];cases idxP p b <;> rfl
 | cons q a ih =>
  simp only [List.cons_append,idxP,List.length_cons]
  split
  · rfl
  · rw [ih]
    cases idxP p a with
    | some i=>rfl
    | none=>cases idxP p b with
     | none=>rfl
     | some i=>rfl
theorem aYm (t:TypD) (typ rel:T8s):idxP (typ,rel) (pathsT t)=if t.name=typ then ixR rel t.rels else none:=by
 unfold pathsT
 induction t.rels with
 | nil=>simp [idxP,ixR]
 | cons r l ih =>
  simp only [List.map_cons,idxP,Prod.mk.injEq,ixR]
  by_cases h:t.name=typ
  · simp only [h,true_and,if_true] at ih ⊢
    split
    · rfl
    · rw [ih]
  · simp only [h,false_and,if_false] at ih ⊢
    rw [ih];rfl
theorem aVL (typ rel:T8s) : ∀ (l:List TypD) (n:Nat),(l.map (·.name)).Nodup→aFl typ rel n l=match idxP (typ,rel) (pathsP l) with | some i=>((n+i:Nat):Int) | none => -1
 | [],n,_=>rfl
 | t::l,n,nd=>by
  rw [List.map_cons,List.nodup_cons] at nd
  have e:pathsP (t::l)=pathsT t++pathsP l:=by unfold pathsP;rw [List.flatMap_cons]
  rw [e,a1g,aYm]
  simp only [aFl]
  by_cases h:t.name=typ
  · simp only [h,if_true]
    cases hx:ixR rel t.rels with
    | some k=>rfl
    | none =>
     have hn:idxP (typ,rel) (pathsP l)=none:=by
      rw [aRv]
      intro hm
      obtain ⟨t',ht',hm'⟩:=List.mem_flatMap.1 hm
      obtain ⟨r',_,e'⟩:=List.mem_map.1 hm'
      have e1:t'.name=typ:=congrArg Prod.fst e'
      exact nd.1 (List.mem_map.2 ⟨t',ht',by rw [e1,h]⟩)
     rw [hn];rfl
  · simp only [h,if_false]
    rw [aVL typ rel l _ nd.2]
    cases idxP (typ,rel) (pathsP l) with
    | none=>rfl
    | some i =>
     simp only [Option.map_some]
     have:(pathsT t).length=t.rels.length:=by unfold pathsT;simp
     rw [this];congr 1;omega
theorem aY6 {l:List TypD} (nd:(l.map (·.name)).Nodup) (p:Pth):aFl p.1 p.2 0 l=numQ (pathsP l) p:=by
 rw [aVL _ _ _ _ nd]
 unfold numQ
 cases idxP (p.1,p.2) (pathsP l) <;> simp
/-! ### an edge is put where it belongs -/
/-- how many stand ahead -/
def below:Ed→List Ed→Nat
 | _,[]=>0
 | x,a::l=>if ltE a x=true then below x l+1 else 0
def addP (l:List Ed) (x:Ed):List Ed:=if x.2.1<0∨l[below x l]? = some x then l else l.take (below x l)++x::l.drop (below x l)
theorem aTc (x:Ed) : ∀ l,below x l≤l.length
 | []=>Nat.le_refl _
 | a::l=>by
  have:=aTc x l
  simp only [below,List.length_cons];split <;> omega
theorem aWd (x:Ed) : ∀ (l:List Ed),∀ e∈l.take (below x l),ltE e x=true
 | [],e,h=>by simp at h
 | a::l,e,h=>by
  simp only [below] at h
  split at h
  · rename_i ha
    rw [List.take_succ_cons] at h
    rcases List.mem_cons.1 h with rfl | h
    · exact ha
    · exact aWd x l e h
  · simp at h
theorem aXU (x:Ed) : ∀ (l:List Ed) (h:below x l<l.length),¬ ltE l[below x l] x=true
 | [],h=>by simp at h
 | a::l,h=>by
  by_cases ha:ltE a x=true
  · have hb:below x (a::l)=below x l+1:=by simp only [below];rw [if_pos ha]
    have:=aXU x l (by rw [hb] at h;simpa using h)
    simp only [hb,List.getElem_cons_succ];exact this
  · have hb:below x (a::l)=0:=by simp only [below];rw [if_neg ha]
    simp only [hb,List.getElem_cons_zero];exact ha
theorem a2Q (l:List Ed) (x e:Ed):e∈addP l x↔e∈l∨(e=x∧0≤x.2.1):=by
 unfold addP
 split
 · rename_i h
   constructor
   · exact .inl
   · rintro (h1 | ⟨rfl,h2⟩)
     · exact h1
     · rcases h with h | h
       · omega
       · exact List.mem_of_getElem? h
 · rename_i h
   have h0:0≤x.2.1:=by rcases Int.lt_or_le x.2.1 0 with q | q;exact absurd (.inl q) h;exact q
   conv=>rhs;rw [← List.take_append_drop (below x l) l]
   simp only [List.mem_append,List.mem_cons]
   constructor
   · rintro (h1 | rfl | h1)
     · exact .inl (.inl h1)
     · exact .inr ⟨rfl,h0⟩
     · exact .inl (.inr h1)
   · rintro ((h1 | h1) | ⟨rfl,_⟩)
     · exact .inl h1
     · exact .inr (.inr h1)
     · exact .inr (.inl rfl)
theorem aYs {l:List Ed} (h:l.Pairwise fun x y=>ltE x y=true) (x:Ed):(addP l x).Pairwise fun x y=>ltE x y=true:=by
 unfold addP
 split
 · exact h
 · rename_i hc
   have hs:=h
   rw [← List.take_append_drop (below x l) l] at h
   obtain ⟨p1,p2,p3⟩:=List.pairwise_append.1 h
   refine List.pairwise_append.2 ⟨p1,List.pairwise_cons.2 ⟨?_,p2⟩,?_⟩
   · intro y hy
     by_cases hlt:below x l<l.length
     · have hat:=aXU x l hlt
       have hne:l[below x l]≠x:=by
        intro e
        exact hc (.inr (by rw [List.getElem?_eq_getElem hlt,e]))
       have hxa:ltE x l[below x l]=true:=Classical.byContradiction fun q=>hne (aYS hat q)
       rw [List.drop_eq_getElem_cons hlt] at hy p2
       rcases List.mem_cons.1 hy with rfl | hy
       · exact hxa
       · exact aVM hxa ((List.pairwise_cons.1 p2).1 y hy)
     · rw [List.drop_eq_nil_of_le (by omega)] at hy;cases hy
   · intro a ha b hb
     have ha':=aWd x l a ha
     rcases List.mem_cons.1 hb with rfl | hb
     · exact ha'
     · exact p3 a ha b hb
theorem aWz (e:Ed) : ∀ (m l:List Ed),e∈m.foldl addP l↔e∈l∨(e∈m∧0≤e.2.1)
 | [],l=>by simp
 | x::m,l=>by
  rw [List.foldl_cons,aWz e m,a2Q,List.mem_cons]
  constructor
  · rintro ((h | ⟨rfl,h⟩) | ⟨h,h2⟩)
    · exact .inl h
    · exact .inr ⟨.inl rfl,h⟩
    · exact .inr ⟨.inr h,h2⟩
  · rintro (h | ⟨rfl | h,h2⟩)
    · exact .inl (.inl h)
    · exact .inl (.inr ⟨rfl,h2⟩)
    · exact .inr ⟨h,h2⟩
theorem aSd : ∀ (m l:List Ed),(l.Pairwise fun x y=>ltE x y=true)→(m.foldl addP l).Pairwise fun x y=>ltE x y=true
 | [],l,h=>h
 | x::m,l,h=>aSd m _ (aYs h x)
theorem aU3 (x:Ed) : ¬ ltE x x=true:=by rw [aKA];omega
theorem aUv : ∀ {a b:List Ed},(a.Pairwise fun x y=>ltE x y=true)→(b.Pairwise fun x y=>ltE x y=true)→(∀ e,e∈a↔e∈b)→a=b
 | [],[],_,_,_=>rfl
 | [],y::b,_,_,h=>by have:=(h y).2 (by simp);cases this
 | x::a,[],_,_,h=>by have:=(h x).1 (by simp);cases this
 | x::a,y::b,ha,hb,h=>by
  obtain ⟨a1,a2⟩:=List.pairwise_cons.1 ha
  obtain ⟨b1,b2⟩:=List.pairwise_cons.1 hb
  have hxy:x=y:=by
   rcases List.mem_cons.1 ((h x).1 (by simp)) with e | hx
   · exact e
   · rcases List.mem_cons.1 ((h y).2 (by simp)) with e | hy
     · exact e.symm
     · exact absurd (aVM (b1 x hx) (a1 y hy)) (aU3 y)
  subst hxy
  rw [aUv a2 b2 fun e => ?_]
  constructor
  · intro he
    rcases List.mem_cons.1 ((h e).1 (List.mem_cons_of_mem _ he)) with rfl | q
    · exact absurd (a1 e he) (aU3 e)
    · exact q
  · intro he
    rcases List.mem_cons.1 ((h e).2 (List.mem_cons_of_mem _ he)) with rfl | q
    · exact absurd (b1 e he) (aU3 e)
    · exact q
/-! ### all edges of the reference -/
/-- the first relation of a name, its own subjects -/
def subsOf (t:TypD) (rel:T8s):List SubD:=match ixR rel t.rels with | some k=>(t.rels.getD k emptyR).subs | none => []
def toR (t:TypD) (r:RelD) (o:OpD):List Pth :=
 if o.1=1 then r.subs.filter fun x => !decide (x.2 = []) else if o.1=2 then [(t.name,o.2.1)] else if o.1=3 then ((subsOf t o.2.1).filter fun x=>decide (x.2 = [])).map fun x=>(x.1,o.2.2) else []
def refO (ps:List Pth) (n:Nat) (t:TypD) (r:RelD) (j:Nat) (o:OpD):List Ed:=(toR t r o).map fun p=>((n:Int),numQ ps p,behA r.ops j)
def refK (ps:List Pth) (n:Nat) (t:TypD) (r:RelD):Nat→List OpD→List Ed
 | _,[] => []
 | j,o::rest=>refO ps n t r j o++refK ps n t r (j+1) rest
def refR (ps:List Pth) (t:TypD):Nat→List RelD→List Ed
 | _,[] => []
 | n,r::l=>refK ps n t r 0 r.ops++refR ps t (n+1) l
def refT (ps:List Pth):Nat→List TypD→List Ed
 | _,[] => []
 | n,t::l=>refR ps t n t.rels++refT ps (n+t.rels.length) l
def refP (l:List TypD):List Ed:=(refT (pathsP l) 0 l).foldl addP []
theorem aPJ {rel:T8s} : ∀ {l:List RelD} {k:Nat},ixR rel l=some k → ∃ r,l[k]? = some r∧r.name=rel
 | [],k,h=>by cases h
 | r::l,k,h=>by
  simp only [ixR] at h
  split at h
  · rename_i e;cases h;exact ⟨r,rfl,e⟩
  · obtain ⟨i,hi,rfl⟩:=Option.map_eq_some_iff.1 h
    obtain ⟨r',h1,h2⟩:=aPJ hi
    exact ⟨r',by simpa using h1,h2⟩
theorem aYN {rel:T8s} : ∀ {l:List RelD},(l.map (·.name)).Nodup→l.flatMap (objR rel)=(((match ixR rel l with | some k=>(l.getD k emptyR).subs | none => []):List SubD).filter fun x=>decide (x.2 = [])).map (fun x:SubD=>x.1)
 | [],_=>rfl
 | r::l,nd=>by
  rw [List.map_cons,List.nodup_cons] at nd
  rw [List.flatMap_cons]
  simp only [ixR]
  by_cases h:r.name=rel
  · have hno:l.flatMap (objR rel) = []:=by
     rw [List.flatMap_eq_nil_iff]
     intro x hx
     unfold objR
     rw [if_neg]
     rintro rfl
     exact nd.1 (List.mem_map.2 ⟨x,hx,h ▸ rfl⟩)
    rw [if_pos h,hno,List.append_nil]
    unfold objR
    rw [if_pos h];rfl
  · rw [if_neg h]
    have:objR rel r = []:=by unfold objR;rw [if_neg h]
    rw [this,List.nil_append,aYN nd.2]
    cases ixR rel l <;> rfl
theorem a1v {t:TypD} (nd:(t.rels.map (·.name)).Nodup) (rel:T8s):objP t rel=((subsOf t rel).filter fun x=>decide (x.2 = [])).map (·.1):=by
 unfold objP subsOf;exact aYN nd
theorem to_mem {t:TypD} {r:RelD} {o:OpD} {ps:List Pth} (nd:(t.rels.map (·.name)).Nodup) (hne : ∀ ty,(ty,[])∉ps) (p:Pth) (hp:p∈ps):p∈toP t r o↔p∈toR t r o:=by
 unfold toP toR
 by_cases h1:o.1=1
 · simp only [h1,if_true,List.mem_filter,Bool.not_eq_true',decide_eq_false_iff_not]
   constructor
   · intro h
     refine ⟨h,fun e=>hne p.1 ?_⟩
     rw [← e];exact hp
   · exact fun h=>h.1
 · by_cases h2:o.1=2
   · simp [h1,h2]
   · by_cases h3:o.1=3
     · simp only [h1,h2,h3,if_true,if_false]
       rw [a1v nd,List.map_map];rfl
     · simp [h1,h2,h3]
theorem aWf {ps:List Pth} {n:Nat} {t:TypD} {r:RelD} {e:Ed} : ∀ (l:List OpD) (j:Nat),e∈refK ps n t r j l ↔ ∃ (m:Nat) (hm:m<l.length),e∈refO ps n t r (j+m) l[m]
 | [],j=>by simp [refK]
 | o::l,j=>by
  simp only [refK,List.mem_append,aWf l (j+1)]
  constructor
  · rintro (h | ⟨m,hm,h⟩)
    · exact ⟨0,by simp,h⟩
    · exact ⟨m+1,by simpa using hm,by rw [show j+(m+1)=j+1+m by omega];exact h⟩
  · rintro ⟨m,hm,h⟩
    cases m with
    | zero=>exact .inl h
    | succ m=>exact .inr ⟨m,by simpa using hm,by rw [show j+1+m=j+(m+1) by omega];exact h⟩
theorem aSo {ps:List Pth} {t:TypD} {r:RelD} {e:Ed} : ∀ (l:List OpD) (j:Nat),e∈edgesK ps t r j l ↔ ∃ (m:Nat) (hm:m<l.length),e∈edgesO ps t r (j+m) l[m]
 | [],j=>by simp [edgesK]
 | o::l,j=>by
  simp only [edgesK,List.mem_append,aSo l (j+1)]
  constructor
  · rintro (h | ⟨m,hm,h⟩)
    · exact ⟨0,by simp,h⟩
    · exact ⟨m+1,by simpa using hm,by rw [show j+(m+1)=j+1+m by omega];exact h⟩
  · rintro ⟨m,hm,h⟩
    cases m with
    | zero=>exact .inl h
    | succ m=>exact .inr ⟨m,by simpa using hm,by rw [show j+1+m=j+(m+1) by omega];exact h⟩
/-- an operation's edges -/
theorem a1Y {ps:List Pth} {n:Nat} {t:TypD} {r:RelD} {j:Nat} {o:OpD} {e:Ed} (nd:(t.rels.map (·.name)).Nodup) (hne : ∀ ty,(ty,[])∉ps) (hn:numP ps (t.name,r.name)=(n:Int)) (hb:(notsP r.ops).getD j false=behA r.ops j) :
 (e∈refO ps n t r j o∧0≤e.2.1)↔e∈edgesO ps t r j o:=by
 unfold refO edgesO
 rw [hn,hb,List.mem_map,List.mem_filterMap]
 constructor
 · rintro ⟨⟨p,hp,rfl⟩,h0⟩
   simp only [numQ] at h0
   unfold edgeX numQ
   cases hi:idxP p ps with
   | none=>rw [hi] at h0;simp only at h0;omega
   | some i =>
    have hin:p∈ps:=List.mem_of_getElem? (aKq hi)
    exact ⟨p,(to_mem nd hne p hin).2 hp,by rw [hi];rfl⟩
 · rintro ⟨p,hp,he⟩
   unfold edgeX at he
   obtain ⟨i,hi,rfl⟩:=Option.map_eq_some_iff.1 he
   have hin:p∈ps:=List.mem_of_getElem? (aKq hi)
   refine ⟨⟨p,(to_mem nd hne p hin).1 hp,?_⟩,by simp only;omega⟩
   unfold numQ;rw [hi]
theorem aTY {ps:List Pth} {t:TypD} {e:Ed} : ∀ (l:List RelD) (n:Nat),e∈refR ps t n l ↔ ∃ (k:Nat) (hk:k<l.length),e∈refK ps (n+k) t l[k] 0 l[k].ops
 | [],n=>by simp [refR]
 | r::l,n=>by
  simp only [refR,List.mem_append,aTY l (n+1)]
  constructor
  · rintro (h | ⟨m,hm,h⟩)
    · exact ⟨0,by simp,h⟩
    · exact ⟨m+1,by simpa using hm,by rw [show n+(m+1)=n+1+m by omega];exact h⟩
  · rintro ⟨m,hm,h⟩
    cases m with
    | zero=>exact .inl h
    | succ m=>exact .inr ⟨m,by simpa using hm,by rw [show n+1+m=n+(m+1) by omega];exact h⟩
theorem aXG {ps:List Pth} {e:Ed} : ∀ (l:List TypD) (n:Nat),e∈refT ps n l ↔ ∃ (i:Nat) (hi:i<l.length),e∈refR ps l[i] (n+relsN (l.take i)) l[i].rels
 | [],n=>by simp [refT]
 | t::l,n=>by
  simp only [refT,List.mem_append,aXG l (n+t.rels.length)]
  constructor
  · rintro (h | ⟨m,hm,h⟩)
    · exact ⟨0,by simp,by simpa [relsN] using h⟩
    · refine ⟨m+1,by simpa using hm,?_⟩
      rw [List.take_succ_cons,List.getElem_cons_succ,show relsN (t::l.take m)=t.rels.length+relsN (l.take m) by simp [relsN],← Nat.add_assoc];exact h
  · rintro ⟨m,hm,h⟩
    cases m with
    | zero=>exact .inl (by simpa [relsN] using h)
    | succ m =>
     refine .inr ⟨m,by simpa using hm,?_⟩
     rw [List.take_succ_cons,List.getElem_cons_succ,show relsN (t::l.take m)=t.rels.length+relsN (l.take m) by simp [relsN],← Nat.add_assoc] at h;exact h
theorem num_at {l:List TypD} (nd:(pathsP l).Nodup) {i k:Nat} (hi:i<l.length) (hk:k<l[i].rels.length):numP (pathsP l) (l[i].name,(l[i].rels[k]).name)=((relsN (l.take i)+k:Nat):Int):=by
 have h:(pathsP l)[relsN (l.take i)+k]? = some (l[i].name,(l[i].rels[k]).name):=by
  rw [aUC hi,← aV1,List.getElem?_append_right (by omega),Nat.add_sub_cancel_left,List.getElem?_append_left (by unfold pathsT;simpa using hk)]
  unfold pathsT
  rw [List.getElem?_map,List.getElem?_eq_getElem hk];rfl
 unfold numP
 rw [aYG nd h]
/-- the edges are the reference's -/
theorem aZd {P:T8s→Prop} {M:Prop} {l:List TypD} (hg : ∀ t∈l,GoodT P M t) (hP : ∀ n,P n→n ≠ []) (hn:Names l):edgesP l=refP l:=by
 have nd:=aSk hn.typs hn.rels
 have hne : ∀ ty,(ty,[])∉pathsP l:=by
  intro ty hm
  obtain ⟨t,ht,h⟩:=List.mem_flatMap.1 hm
  obtain ⟨r,hr,e⟩:=List.mem_map.1 h
  exact hP _ ((hg t ht).rels r hr).name (congrArg Prod.snd e)
 refine aUv (aVj l) (aSd _ _ .nil) fun e => ?_
 unfold refP
 rw [aYu,aWz,aXG]
 simp only [List.not_mem_nil,false_or]
 unfold edgesL
 rw [List.mem_flatMap]
 have hops : ∀ {i k:Nat} (hi:i<l.length) (hk:k<l[i].rels.length),(e∈edgesR (pathsP l) l[i] l[i].rels[k]↔e∈refK (pathsP l) (0+relsN (l.take i)+k) l[i] l[i].rels[k] 0 l[i].rels[k].ops∧0≤e.2.1):=by
  intro i k hi hk
  unfold edgesR
  rw [aSo,aWf]
  have hm : ∀ (m:Nat) (hm:m<l[i].rels[k].ops.length),(e∈refO (pathsP l) (0+relsN (l.take i)+k) l[i] l[i].rels[k] (0+m) l[i].rels[k].ops[m]∧0≤e.2.1)↔e∈edgesO (pathsP l) l[i] l[i].rels[k] (0+m) l[i].rels[k].ops[m]:=by
   intro m hm
   refine a1Y (hn.rels _ (List.getElem_mem hi)) hne ?_ ?_
   · rw [num_at nd hi hk,Nat.zero_add]
   · rw [Nat.zero_add];exact a1p ((hg _ (List.getElem_mem hi)).rels _ (List.getElem_mem hk)).pf hm
  constructor
  · rintro ⟨m,h1,h2⟩
    have:=(hm m h1).2 h2
    exact ⟨⟨m,h1,this.1⟩,this.2⟩
  · rintro ⟨⟨m,h1,h2⟩,h3⟩
    exact ⟨m,h1,(hm m h1).1 ⟨h2,h3⟩⟩
 constructor
 · rintro ⟨t,ht,h⟩
   obtain ⟨i,hi,rfl⟩:=List.mem_iff_getElem.1 ht
   obtain ⟨r,hr,h⟩:=List.mem_flatMap.1 h
   obtain ⟨k,hk,rfl⟩:=List.mem_iff_getElem.1 hr
   obtain ⟨q1,q2⟩:=(hops hi hk).1 h
   exact ⟨⟨i,hi,(aTY _ _).2 ⟨k,hk,q1⟩⟩,q2⟩
 · rintro ⟨⟨i,hi,h⟩,h0⟩
   obtain ⟨k,hk,h⟩:=(aTY _ _).1 h
   exact ⟨l[i],List.getElem_mem hi,List.mem_flatMap.2 ⟨l[i].rels[k],List.getElem_mem hk,(hops hi hk).2 ⟨h,h0⟩⟩⟩
end Go.Proofs.YtdbmeidhlijopaaGreatDoor.Ev.C

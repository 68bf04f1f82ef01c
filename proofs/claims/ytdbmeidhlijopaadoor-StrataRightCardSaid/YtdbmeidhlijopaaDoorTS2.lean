/- What is known of a schema that is read and holds together: its size, its paths, its edges. -/
import Derived.Test.YtdbmeidhlijopaaDoorTP
import Derived.Test.YtdbmeidhlijopaaDoorTS
namespace Go.Proofs.YtdbmeidhlijopaaDoor.Ev.C
open Go Go.Proofs.YtdbmeidhlijopaaDoor.Ev Go.Sort Go.Proofs
set_option linter.unusedSimpArgs false
set_option linter.unusedVariables false
/-! ### tokens -/
theorem lexF_all {Q:Tk→Prop} (s:T8s) (hq : ∀ i t,(lexS s i).1=some t→Q t) (he : ∀ i,Q (3,[],i)) : ∀ (f i:Nat) (acc l:List Tk),(∀ t∈acc,Q t)→lexF s f i acc = .ok l → ∀ t∈l,Q t
 | 0,i,acc,l,ha,h=>by
  cases h
  intro t ht
  rcases List.mem_append.1 ht with ht | ht
  · exact ha t ht
  · simp at ht;subst ht;exact he i
 | f+1,i,acc,l,ha,h=>by
  simp only [lexF] at h
  split at h
  · split at h
    · refine lexF_all s hq he f _ _ _ ?_ h
      intro t ht
      rcases List.mem_append.1 ht with ht | ht
      · exact ha t ht
      · exact hq i t (by simpa using ht)
    · cases h
  · cases h
    intro t ht
    rcases List.mem_append.1 ht with ht | ht
    · exact ha t ht
    · simp at ht;subst ht;exact he i
theorem lexP_all {Q:Tk→Prop} (s:T8s) (hq : ∀ i t,(lexS s i).1=some t→Q t) (he : ∀ i,Q (3,[],i)) {l:List Tk} (h:lexP s = .ok l) : ∀ t∈l,Q t:=by
 unfold lexP at h
 split at h
 · cases h
 split at h
 · cases h
 exact lexF_all s hq he _ _ _ _ (by simp) h
/-- a token's text is a part of the text -/
theorem lexS_part (s:T8s) (i:Nat) (t:Tk) (h:(lexS s i).1=some t) : ∃ a n,t.2.1=(s.drop a).take n:=by
 unfold lexS at h
 split at h
 · cases h
 split at h
 · split at h <;> cases h
 split at h
 · cases h;exact ⟨_,_,rfl⟩
 split at h
 · cases h
 split at h
 · cases h
 · cases h;exact ⟨_,_,rfl⟩
theorem lex_HT {s:T8s} {l:List Tk} (h:lexP s = .ok l):HT (fun n=>n.length≤s.length) (45∈s) l:=by
 have:=lexP_all (Q:=fun t => ∃ a n,t.2.1=(s.drop a).take n) s (lexS_part s) (fun i=>⟨s.length,0,by simp⟩) h
 intro t ht
 obtain ⟨a,n,e⟩:=this t ht
 refine ⟨fun _ _ => ?_,fun e2 => ?_⟩
 · show t.2.1.length≤s.length
   rw [e,List.length_take,List.length_drop];omega
 · have:(45:UInt8)∈t.2.1:=by rw [e2];simp
   rw [e] at this
   exact List.mem_of_mem_drop (List.mem_of_mem_take this)
theorem lexP_len {s:T8s} {l:List Tk} (h:lexP s = .ok l):s.length≤2048:=by
 unfold lexP at h
 split at h
 · cases h
 · omega
theorem parse_good {s:T8s} {l:List TypD} (h:parseP (lexP s) = .ok l):(∀ t∈l,GoodT (fun n=>n.length≤2048) (45∈s) t)∧szS l≤2049:=by
 unfold parseP at h
 split at h
 · cases h
 rename_i ts hts
 split at h
 case h_2=>cases h
 rename_i l' t2 hl
 cases h
 have hs:=lexP_len hts
 obtain ⟨e,hle⟩:=lexP_end hts
 refine ⟨schema_inv (M:=45∈s) (fun t ht=>⟨fun a b=>Nat.le_trans ((lex_HT hts t ht).1 a b) hs,(lex_HT hts t ht).2⟩) hl,Nat.le_trans (schema_size e hl) hle⟩
/-! ### sizes -/
theorem mem_sum {α:Type} (f:α→Nat) {l:List α} {x:α} (h:x∈l):f x≤(l.map f).sum:=mem_le_sum (List.mem_map.2 ⟨x,h,rfl⟩)
theorem len_sum {α:Type} (f:α→Nat) (h : ∀ x,1≤f x) : ∀ l:List α,l.length≤(l.map f).sum
 | []=>Nat.le_refl _
 | x::l=>by have:=len_sum f h l;have:=h x;simp only [List.length_cons,List.map_cons,List.sum_cons];omega
theorem szR_pos (r:RelD):1≤szR r:=by unfold szR;omega
theorem szT_pos (t:TypD):1≤szT t:=by unfold szT;omega
theorem subsN_sz : ∀ l:List RelD,subsN l≤(l.map szR).sum
 | []=>Nat.le_refl _
 | r::l=>by
  have:=subsN_sz l
  simp only [subsN,List.map_cons,List.sum_cons,szR] at *;omega
theorem to_len (t:TypD) (r:RelD) (o:OpD):(toP t r o).length≤r.subs.length+subsN t.rels+1:=by
 unfold toP
 split
 · omega
 · split
   · simp
   · split
     · rw [List.length_map];have h9:(objP t o.2.1).length≤subsN t.rels:=obj_len o.2.1 t.rels;omega
     · simp
theorem edgesK_len (ps:List Pth) (t:TypD) (r:RelD) (c:Nat) (hc:r.subs.length+subsN t.rels+1≤c) : ∀ (l:List OpD) (j:Nat),(edgesK ps t r j l).length≤l.length*c
 | [],j=>by simp [edgesK]
 | o::l,j=>by
  have h1:=edgesK_len ps t r c hc l (j+1)
  have h2:(edgesO ps t r j o).length≤c:=by
   unfold edgesO
   exact Nat.le_trans (List.length_filterMap_le _ _) (Nat.le_trans (to_len t r o) hc)
  simp only [edgesK,List.length_append,List.length_cons,Nat.add_mul,Nat.one_mul];omega
theorem edgesT_len (ps:List Pth) (t:TypD) (c:Nat) (hc:2*subsN t.rels+1≤c):(edgesT ps t).length≤(t.rels.map szR).sum*c:=by
 unfold edgesT
 have : ∀ l:List RelD,(∀ r∈l,r∈t.rels)→(l.flatMap (edgesR ps t)).length≤(l.map szR).sum*c:=by
  intro l
  induction l with
  | nil=>intro _;simp
  | cons r l ih =>
   intro hm
   have h1:=ih fun x hx=>hm x (List.mem_cons_of_mem _ hx)
   have h3:r.subs.length≤subsN t.rels:=mem_sum (fun r:RelD=>r.subs.length) (hm r List.mem_cons_self)
   have h2:=edgesK_len ps t r c (by omega) r.ops 0
   have h4:r.ops.length*c≤szR r*c:=Nat.mul_le_mul_right _ (by unfold szR;omega)
   simp only [List.flatMap_cons,List.length_append,List.map_cons,List.sum_cons,Nat.add_mul]
   have:(edgesR ps t r).length≤r.ops.length*c:=h2
   omega
 exact this t.rels fun r hr=>hr
theorem edges_len (ps:List Pth) (c:Nat) : ∀ (l:List TypD),(∀ t∈l,2*subsN t.rels+1≤c)→(l.flatMap (edgesT ps)).length≤szS l*c
 | [],_=>by simp
 | t::l,hc=>by
  have h1:=edges_len ps c l fun x hx=>hc x (List.mem_cons_of_mem _ hx)
  have h2:=edgesT_len ps t c (hc t List.mem_cons_self)
  have h3:(t.rels.map szR).sum*c≤szT t*c:=Nat.mul_le_mul_right _ (by unfold szT;omega)
  simp only [List.flatMap_cons,List.length_append,szS,List.map_cons,List.sum_cons,Nat.add_mul] at *;omega
theorem parse_tiny {s:T8s} {l:List TypD} (h:parseP (lexP s) = .ok l):Tiny l:=by
 obtain ⟨hg,hz⟩:=parse_good h
 have hst : ∀ t∈l,szT t≤2049:=fun t ht=>Nat.le_trans (mem_sum szT ht) hz
 have hsub : ∀ t∈l,subsN t.rels≤2049:=fun t ht=>by have:=hst t ht;have:=subsN_sz t.rels;unfold szT at *;omega
 refine ⟨⟨?_,fun t ht=>⟨?_,?_,fun r hr=>⟨?_,?_,?_⟩⟩⟩,fun t ht=>by have:=hsub t ht;omega,?_⟩
 · have:=len_sum szT szT_pos l
   have hz':(l.map szT).sum≤2049:=hz
   omega
 · have:=len_sum szR szR_pos t.rels
   have:=hst t ht
   unfold szT at this;omega
 · have:t.name.length≤2048:=(hg t ht).name
   omega
 · have:r.name.length≤2048:=((hg t ht).rels r hr).name
   omega
 · have:=hst t ht;unfold szT at this;have h2:szR r=r.subs.length+r.ops.length+1:=rfl;have h3:=mem_sum szR hr;omega
 · have:=hst t ht;unfold szT at this;have h2:szR r=r.subs.length+r.ops.length+1:=rfl;have h3:=mem_sum szR hr;omega
 · have h1:=edges_len (pathsP l) 4099 l fun t ht=>by have:=hsub t ht;omega
   have h2:szS l*4099≤2049*4099:=Nat.mul_le_mul_right _ hz
   unfold edgesL;omega
/-! ### paths -/
theorem cntR_nd (t:TypD) : ∀ (l:List RelD) (k:Nat),(cntR t k l).1=0→t.rels.drop k=l → ∀ i (hi:i<l.length),((t.rels.take (k+i)).any fun r=>decide (r.name=l[i].name))=false
 | [],k,h,hd,i,hi=>by simp at hi
 | r::l,k,h,hd,i,hi=>by
  simp only [cntR] at h
  split at h
  · cases h
  rename_i h1
  split at h
  · cases h
  cases i with
  | zero=>simpa [hasP] using h1
  | succ i =>
   have hd2:t.rels.drop (k+1)=l:=by
    rw [show k+1=1+k by omega,← List.drop_drop,Nat.add_comm] at *
    have:=congrArg (List.drop 1) hd
    simpa [List.drop_drop,Nat.add_comm] using this
   have:=cntR_nd t l (k+1) h hd2 i (by simpa using hi)
   simp only [List.getElem_cons_succ]
   rw [show k+(i+1)=k+1+i by omega];exact this
theorem nodup_of {α β:Type} [DecidableEq β] (f:α→β) (l:List α) (h : ∀ i (hi:i<l.length),((l.take i).any fun r=>decide (f r=f l[i]))=false):(l.map f).Nodup:=by
 refine List.pairwise_iff_getElem.2 fun i j hi hj hij => ?_
 rw [List.length_map] at hi hj
 rw [List.getElem_map,List.getElem_map]
 intro e
 have:=h j hj
 rw [List.any_eq_false] at this
 have h2:=this l[i] (List.mem_take_iff_getElem.2 ⟨i,by omega,rfl⟩)
 exact h2 (decide_eq_true e)
theorem cntT_nd (l:List TypD) : ∀ (m:List TypD) (k:Nat),(cntT l k m).1=0→l.drop k=m → ∀ i (hi:i<m.length),((l.take (k+i)).any fun t=>decide (t.name=m[i].name))=false∧(m[i].rels.map (·.name)).Nodup∧m[i].rels.length≤16
 | [],k,h,hd,i,hi=>by simp at hi
 | t::m,k,h,hd,i,hi=>by
  simp only [cntT] at h
  split at h
  · cases h
  rename_i h1
  split at h
  · cases h
  rename_i h2
  split at h
  case isFalse h3=>exact absurd h h3
  rename_i h3
  cases i with
  | zero =>
   refine ⟨?_,?_,by simp;omega⟩
   · simp only [kindP,Nat.add_zero,List.getElem_cons_zero] at h1 ⊢
     rw [List.find?_isSome] at h1
     rw [List.any_eq_false]
     intro x hx e
     exact h1 ⟨x,hx,e⟩
   · have:=cntR_nd t t.rels 0 (by simpa using h3) rfl
     simp only [List.getElem_cons_zero]
     exact nodup_of _ _ (by simpa using this)
  | succ i =>
   have hd2:l.drop (k+1)=m:=by
    have:=congrArg (List.drop 1) hd
    simpa [List.drop_drop,Nat.add_comm] using this
   have:=cntT_nd l m (k+1) h hd2 i (by simpa using hi)
   simp only [List.getElem_cons_succ]
   rw [show k+(i+1)=k+1+i by omega];exact this
structure Names (l:List TypD):Prop where
 typs:(l.map (·.name)).Nodup
 rels : ∀ t∈l,(t.rels.map (·.name)).Nodup
 fewT:l.length≤8
 fewR : ∀ t∈l,t.rels.length≤16
theorem counts_names {l:List TypD} (h:(countsP l).1=0):Names l:=by
 unfold countsP at h
 split at h
 · cases h
 rename_i h8
 have:=cntT_nd l l 0 h rfl
 refine ⟨nodup_of _ _ (by intro i hi;simpa using (this i hi).1),fun t ht => ?_,by omega,fun t ht => ?_⟩
 · obtain ⟨i,hi,rfl⟩:=List.mem_iff_getElem.1 ht
   exact (this i hi).2.1
 · obtain ⟨i,hi,rfl⟩:=List.mem_iff_getElem.1 ht
   exact (this i hi).2.2
theorem names_paths {l:List TypD} (h:(l.map (·.name)).Nodup) (h2 : ∀ t∈l,(t.rels.map (·.name)).Nodup):(pathsP l).Nodup:=by
 induction l with
 | nil=>exact List.nodup_nil
 | cons t l ih =>
  unfold pathsP
  rw [List.flatMap_cons]
  rw [List.map_cons,List.nodup_cons] at h
  refine List.nodup_append.2 ⟨?_,ih h.2 fun x hx=>h2 x (List.mem_cons_of_mem _ hx),?_⟩
  · unfold pathsT
    have h3:=h2 t List.mem_cons_self
    refine List.pairwise_iff_getElem.2 fun i j hi hj hij => ?_
    rw [List.length_map] at hi hj
    rw [List.getElem_map,List.getElem_map]
    have:=List.pairwise_iff_getElem.1 h3 i j (by simpa using hi) (by simpa using hj) hij
    rw [List.getElem_map,List.getElem_map] at this
    intro e
    exact this (congrArg Prod.snd e)
  · intro a ha b hb e
    subst e
    obtain ⟨r,_,rfl⟩:=List.mem_map.1 ha
    obtain ⟨t',ht',hb'⟩:=List.mem_flatMap.1 hb
    obtain ⟨r',_,e⟩:=List.mem_map.1 hb'
    have e1:t'.name=t.name:=congrArg Prod.fst e
    exact h.1 (List.mem_map.2 ⟨t',ht',e1⟩)
theorem check_names {l:List TypD} (h:(checkP l).1=0):Names l:=by
 unfold checkP at h
 split at h
 · exact counts_names (by assumption)
 · rename_i h2;exact absurd h h2
end Go.Proofs.YtdbmeidhlijopaaDoor.Ev.C

/- A schema's edges: where they lead, how they stand, which are behind a minus. -/
namespace Go.Proofs.YtdbmeidhlijopaaDoor.Ev.C
open Go Go.Proofs.YtdbmeidhlijopaaDoor.Ev Go.Sort Go.Proofs
set_option linter.unusedSimpArgs false
set_option linter.unusedVariables false
theorem compP_mem : ∀ (l:List Ed) (e:Ed),e∈compP l↔e∈l
 | [],e=>Iff.rfl
 | [a],e=>Iff.rfl
 | a::b::r,e=>by
  simp only [compP]
  split
  · rename_i h;subst h
    rw [compP_mem (a::r) e];simp
  · rw [List.mem_cons,compP_mem (b::r) e];simp
theorem sortE_mem (l:List Ed) (e:Ed):e∈sortE l↔e∈l:=List.mem_mergeSort
theorem edgesP_mem (l:List TypD) (e:Ed):e∈edgesP l↔e∈edgesL l:=by unfold edgesP;rw [compP_mem,sortE_mem]
theorem le_ltE (x y:Ed):(!(ltOf cmpE) y x) = !ltE y x:=by rw [lt_cmpE]
theorem ltE_iff (x y:Ed):ltE x y=true↔(x.1<y.1∨x.1=y.1∧(x.2.1<y.2.1∨x.2.1=y.2.1∧wt x.2.2<wt y.2.2)):=by unfold ltE;exact decide_eq_true_iff
theorem ltE_tot {x y:Ed} (h1 : ¬ ltE x y=true) (h2 : ¬ ltE y x=true):x=y:=totE x y (by rw [lt_cmpE];simpa using h1) (by rw [lt_cmpE];simpa using h2)
theorem sortE_sorted (l:List Ed):(sortE l).Pairwise fun x y => ¬ ltE y x=true:=by
 have:=List.pairwise_mergeSort (le:=fun x y:Ed => !(ltOf cmpE) y x) (fun a b c h1 h2=>by
  rw [le_ltE] at *
  simp only [Bool.not_eq_true',← Bool.not_eq_true] at *
  rw [ltE_iff] at *
  omega) (fun a b=>by
  rw [le_ltE,le_ltE]
  simp only [Bool.or_eq_true,Bool.not_eq_true',← Bool.not_eq_true]
  rw [ltE_iff,ltE_iff]
  omega) l
 refine List.Pairwise.imp ?_ this
 intro a b h
 rw [le_ltE] at h
 simpa using h
theorem compP_strict : ∀ l:List Ed,(l.Pairwise fun x y => ¬ ltE y x=true)→(compP l).Pairwise fun x y=>ltE x y=true
 | [],_ => .nil
 | [a],_=>List.pairwise_singleton _ _
 | a::b::r,h=>by
  obtain ⟨h1,h2⟩:=List.pairwise_cons.1 h
  have ih:=compP_strict (b::r) h2
  simp only [compP]
  split
  · exact ih
  · rename_i hab
    refine List.pairwise_cons.2 ⟨fun x hx => ?_,ih⟩
    rw [compP_mem] at hx
    have hb:=h1 b List.mem_cons_self
    have hlt:ltE a b=true:=Classical.byContradiction fun hc=>hab (ltE_tot hc hb)
    rcases List.mem_cons.1 hx with rfl | hx
    · exact hlt
    · have:=(List.pairwise_cons.1 h2).1 x hx
      rw [ltE_iff] at *
      omega
theorem edgesP_strict (l:List TypD):(edgesP l).Pairwise fun x y=>ltE x y=true:=compP_strict _ (sortE_sorted _)
/-- how many relations there are -/
def relsN (l:List TypD):Nat:=(l.map fun t=>t.rels.length).sum
theorem paths_len : ∀ l:List TypD,(pathsP l).length=relsN l
 | []=>rfl
 | t::l=>by
  have:=paths_len l
  unfold pathsP relsN at *
  simp only [List.flatMap_cons,List.length_append,List.map_cons,List.sum_cons,this,pathsT,List.length_map]
theorem idxP_lt {p:Pth} {l:List Pth} {i:Nat} (h:idxP p l=some i):i<l.length:=(List.getElem?_eq_some_iff.1 (idxP_some h)).1
theorem edgesK_mem {ps:List Pth} {t:TypD} {r:RelD} {e:Ed} : ∀ {l:List OpD} {j:Nat},e∈edgesK ps t r j l → ∃ (m:Nat) (hm:m<l.length),e∈edgesO ps t r (j+m) l[m]
 | [],j,h=>by cases h
 | o::l,j,h=>by
  rcases List.mem_append.1 h with h | h
  · exact ⟨0,by simp,h⟩
  · obtain ⟨m,hm,h⟩:=edgesK_mem (l:=l) (j:=j+1) h
    exact ⟨m+1,by simpa using hm,by rw [show j+(m+1)=j+1+m by omega];exact h⟩
theorem edgesL_mem {l:List TypD} {e:Ed} (h:e∈edgesL l) : ∃ t∈l,∃ r∈t.rels,∃ (m:Nat) (hm:m<r.ops.length),e∈edgesO (pathsP l) t r m r.ops[m]:=by
 obtain ⟨t,ht,h⟩:=List.mem_flatMap.1 h
 obtain ⟨r,hr,h⟩:=List.mem_flatMap.1 h
 obtain ⟨m,hm,h⟩:=edgesK_mem h
 rw [Nat.zero_add] at h
 exact ⟨t,ht,r,hr,m,hm,h⟩
theorem path_in {l:List TypD} {t:TypD} {r:RelD} (ht:t∈l) (hr:r∈t.rels):(t.name,r.name)∈pathsP l:=List.mem_flatMap.2 ⟨t,ht,List.mem_map.2 ⟨r,hr,rfl⟩⟩
theorem num_in {ps:List Pth} {p:Pth} (h:p∈ps) : ∃ i,idxP p ps=some i∧numP ps p=(i:Int)∧i<ps.length:=by
 cases hi:idxP p ps with
 | none=>exact absurd h (idxP_none.1 hi)
 | some i=>exact ⟨i,rfl,by unfold numP;rw [hi],idxP_lt hi⟩
theorem edge_in {l:List TypD} {e:Ed} (h:e∈edgesP l):off (relsN l:Int) e=false:=by
 rw [edgesP_mem] at h
 obtain ⟨t,ht,r,hr,m,hm,h⟩:=edgesL_mem h
 obtain ⟨p,hp,he⟩:=List.mem_filterMap.1 h
 unfold edgeX at he
 obtain ⟨k,hk,rfl⟩:=Option.map_eq_some_iff.1 he
 obtain ⟨i,h1,h2,h3⟩:=num_in (path_in ht hr)
 have h4:=idxP_lt hk
 rw [paths_len] at h3 h4
 rw [h2]
 simp only [off,Bool.or_eq_false_iff,decide_eq_false_iff_not]
 omega
/-! ### behind a minus -/
theorem notsG_no : ∀ (ops:List OpD) (i:Nat) (out:List Bool) (fr:List Nat),(∀ o∈ops,o.1≠6)→notsG i out fr ops=out
 | [],i,out,fr,h=>rfl
 | o::r,i,out,fr,h=>by
  simp only [notsG]
  have ih:=fun i fr=>notsG_no r i out fr fun x hx=>h x (List.mem_cons_of_mem _ hx)
  split
  · exact ih _ _
  · rw [if_neg (h o List.mem_cons_self)];exact ih _ _
theorem nots_no {ops:List OpD} (h : ∀ o∈ops,o.1≠6) (j:Nat):(notsP ops).getD j false=false:=by
 unfold notsP
 rw [notsG_no _ _ _ _ h,List.getD_eq_getElem?_getD,List.getElem?_replicate]
 split <;> rfl
theorem edge_not {P:T8s→Prop} {M:Prop} {l:List TypD} (hg : ∀ t∈l,GoodT P M t) {e:Ed} (h:e∈edgesP l) (hn:e.2.2=true):M:=by
 rw [edgesP_mem] at h
 obtain ⟨t,ht,r,hr,m,hm,h⟩:=edgesL_mem h
 obtain ⟨p,hp,he⟩:=List.mem_filterMap.1 h
 unfold edgeX at he
 obtain ⟨k,hk,rfl⟩:=Option.map_eq_some_iff.1 he
 simp only at hn
 refine Classical.byContradiction fun hM => ?_
 rw [nots_no] at hn
 · cases hn
 · intro o ho h6
   rcases ((hg t ht).rels r hr).ops o ho with rfl | ⟨n,_,rfl⟩ | ⟨n,m,_,_,rfl⟩ | rfl | rfl | ⟨rfl,h⟩
   · cases h6
   · cases h6
   · cases h6
   · cases h6
   · cases h6
   · exact hM h
theorem rels_few {l:List TypD} (h:Names l):relsN l≤128:=by
 have : ∀ m:List TypD,(∀ t∈m,t.rels.length≤16)→relsN m≤m.length*16:=by
  intro m
  induction m with
  | nil=>intro _;simp [relsN]
  | cons t m ih =>
   intro hm
   have h1:=ih fun x hx=>hm x (List.mem_cons_of_mem _ hx)
   have h2:=hm t List.mem_cons_self
   simp only [relsN,List.map_cons,List.sum_cons,List.length_cons] at *;omega
 have h1:=this l h.fewR
 have:=h.fewT
 omega
end Go.Proofs.YtdbmeidhlijopaaDoor.Ev.C

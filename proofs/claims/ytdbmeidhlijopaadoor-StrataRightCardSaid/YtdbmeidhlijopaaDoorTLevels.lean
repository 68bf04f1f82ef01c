/- Levels of edges, in plain words. -/
import Derived.Test.YtdbmeidhlijopaaDoorEvL2
import Derived.Test.YtdbmeidhlijopaaDoorTBase
namespace Go.Proofs.YtdbmeidhlijopaaDoor.Ev.C
set_option linter.unusedVariables false
/-- an edge: from, to, with a Not? -/
abbrev Ed:=Int×Int×Bool
def wt (b:Bool):Nat:=if b then 1 else 0
/-- an edge leads out of the places -/
def off (n:Int) (e:Ed):Bool:=decide (e.1<0)||decide (n≤e.1)||decide (e.2.1<0)||decide (n≤e.2.1)
def Bad (n:Int) (l:List Ed):Prop := ∃ e∈l,off n e=true
/-- levels that are as edges ask -/
def Sol (l:List Ed) (g:Nat→Nat):Prop := ∀ e∈l,g e.2.1.toNat+wt e.2.2≤g e.1.toNat
def lv (f:List Nat) (i:Nat):Nat:=f.getD i 0
structure Least (k:Nat) (l:List Ed) (f:List Nat):Prop where
 len:f.length=k
 sol:Sol l (lv f)
 least : ∀ g,Sol l g → ∀ i,lv f i≤g i
 le : ∀ i,lv f i≤k
/-- no levels so low -/
def NoSol (k:Nat) (l:List Ed):Prop := ∀ g,Sol l g → ∃ i,k<g i
theorem off_in {n:Nat} {e:Ed} (h:off (n:Int) e=false) : ∃ (a b:Nat) (w:Bool),e=((a:Int),(b:Int),w)∧a<n∧b<n:=by
 obtain ⟨a,b,w⟩:=e
 simp only [off,Bool.or_eq_false_iff,decide_eq_false_iff_not] at h
 refine ⟨a.toNat,b.toNat,w,?_,by omega,by omega⟩
 simp only [Prod.mk.injEq,and_true]
 exact ⟨by omega,by omega⟩
theorem not_bad {n:Int} {l:List Ed} (h : ¬ Bad n l) : ∀ e∈l,off n e=false:=by
 intro e he
 cases ho:off n e
 · rfl
 · exact absurd ⟨e,he,ho⟩ h
theorem lv_set {f:List Nat} {i v j:Nat} (hi:i<f.length):lv (f.set i v) j=if j=i then v else lv f j:=by
 unfold lv
 by_cases h:j=i
 · subst h
   rw [if_pos rfl,List.getD_eq_getElem?_getD,List.getElem?_set_self hi];rfl
 · rw [if_neg h,List.getD_eq_getElem?_getD,List.getElem?_set_ne (by omega),List.getD_eq_getElem?_getD]
theorem lv_get {f:List Nat} {i:Nat} (hi:i<f.length):f[i]=lv f i:=by
 unfold lv;rw [List.getD_eq_getElem?_getD,List.getElem?_eq_getElem hi];rfl
theorem sum_set : ∀ {f:List Nat} {i v:Nat} (hi:i<f.length),(f.set i v).sum+f[i]=f.sum+v
 | a::r,0,v,_=>by simp;omega
 | a::r,i+1,v,hi=>by
  have:=sum_set (f:=r) (i:=i) (v:=v) (by simpa using hi)
  simp;omega
theorem sum_le : ∀ {f:List Nat} {k:Nat},(∀ i,lv f i≤k)→f.sum≤f.length*k
 | [],k,_=>by simp
 | a::r,k,h=>by
  have h0:a≤k:=h 0
  have h1:=sum_le (f:=r) (k:=k) fun i=>h (i+1)
  simp only [List.sum_cons,List.length_cons,Nat.add_mul,Nat.one_mul]
  omega
end Go.Proofs.YtdbmeidhlijopaaDoor.Ev.C

/- Least levels, in plain words: what asks for them. -/
namespace Go.Proofs.YtdbmeidhlijopaaDoor.Ev.C
open Go Go.Proofs.YtdbmeidhlijopaaDoor.Ev
set_option linter.unusedVariables false
theorem Least.gap {k:Nat} {l:List Ed} {f:List Nat} (L:Least k l f) {i v:Nat} (hv:0<v) (hi:v≤lv f i) : ∃ e∈l,e.2.2=true∧lv f e.1.toNat=v:=by
 refine Classical.byContradiction fun hno => ?_
 have hno' : ∀ e∈l,e.2.2=true→lv f e.1.toNat≠v:=fun e he h1 h2=>hno ⟨e,he,h1,h2⟩
 have hs:Sol l (fun j=>if v≤lv f j then lv f j - 1 else lv f j):=by
  intro e he
  have h1:=L.sol e he
  show (if v≤lv f e.2.1.toNat then lv f e.2.1.toNat - 1 else lv f e.2.1.toNat)+wt e.2.2≤if v≤lv f e.1.toNat then lv f e.1.toNat - 1 else lv f e.1.toNat
  generalize lv f e.2.1.toNat=B at h1 ⊢
  cases hw:e.2.2
  · rw [hw] at h1
    simp only [wt,Bool.false_eq_true,if_false] at h1 ⊢
    generalize lv f e.1.toNat=A at h1 ⊢
    split <;> split <;> omega
  · have h2:=hno' e he hw
    rw [hw] at h1
    simp only [wt,if_true] at h1 ⊢
    generalize lv f e.1.toNat=A at h1 h2 ⊢
    split <;> split <;> omega
 have:=L.least _ hs i
 simp only [hi,if_true] at this
 omega
theorem Least.nots {k:Nat} {l:List Ed} {f:List Nat} (L:Least k l f) (i:Nat):lv f i≤(l.filter (·.2.2)).length:=by
 have h:=nodup_sub_len (l:=(List.range (lv f i)).map (· + 1)) (m:=(l.filter (·.2.2)).map fun e=>lv f e.1.toNat) ?_ ?_
 · simpa using h
 · rw [List.nodup_iff_pairwise_ne,List.pairwise_map]
   exact (List.nodup_iff_pairwise_ne.1 List.nodup_range).imp fun h=>by omega
 · intro x hx
   obtain ⟨v,hv,rfl⟩:=List.mem_map.1 hx
   obtain ⟨e,he,hn,hl⟩:=L.gap (v:=v+1) (i:=i) (by omega) (by have:=List.mem_range.1 hv;omega)
   exact List.mem_map.2 ⟨e,List.mem_filter.2 ⟨he,by simpa using hn⟩,hl⟩
theorem NoSol.nots {k:Nat} {l:List Ed} (n:NoSol k l):0<(l.filter (·.2.2)).length:=by
 refine Classical.byContradiction fun hno => ?_
 have h0:l.filter (·.2.2) = []:=List.eq_nil_of_length_eq_zero (by omega)
 obtain ⟨i,hi⟩:=n (fun _=>0) fun e he=>by
  cases hw:e.2.2
  · simp [wt]
  · have:e∈l.filter (·.2.2):=List.mem_filter.2 ⟨he,by simpa using hw⟩
    rw [h0] at this;cases this
 omega
end Go.Proofs.YtdbmeidhlijopaaDoor.Ev.C

/- Edges in memory; an edge that leads out. -/
namespace Go.Proofs.YtdbmeidhlijopaaDoor.Ev.C
open Go Go.Proofs.YtdbmeidhlijopaaDoor.Ev
set_option linter.unusedSimpArgs false
set_option linter.unusedVariables false
def edC (e:Ed):List AV := [intC e.1,intC e.2.1,.bool e.2.2]
abbrev Eds (h:H) (v:AV) (l:List Ed):Prop:=Sl h 3 v l.length (l.flatMap edC)
theorem Eds.at {h:H} {v:AV} {l:List Ed} (b:Eds h v l) {i:Nat} (hi:i<l.length) :
 ∃ o j,indexAddrA 3 v (.int .i64 (i:Int))=some (.ptr o j)∧loadA h false 1 (.ptr o (j+0))=some (intC l[i].1)∧loadA h false 1 (.ptr o (j+1))=some (intC l[i].2.1)∧loadA h false 1 (.ptr o (j+2))=some (.bool l[i].2.2) ∧
  loadA h true 3 (.ptr o j)=some (.agg (edC l[i])):=by
 obtain ⟨o,j,e,h1,h2⟩:=Sl.elem b (fun x _=>rfl) hi (by decide) .i64
 exact ⟨o,j,e,h1 0 (by decide),h1 1 (by decide),h1 2 (by decide),h2⟩
end Go.Proofs.YtdbmeidhlijopaaDoor.Ev.C

/- strata.Levels: the least levels. -/
namespace Go.Proofs.YtdbmeidhlijopaaDoor.Ev.C
open Go Go.Proofs.YtdbmeidhlijopaaDoor.Ev
set_option linter.unusedSimpArgs false
set_option linter.unusedVariables false

/-- so many rounds at most -/
def lvM (k:Nat) (f:List Nat) (again:Bool):Nat:=2*(k*k - f.sum)+(if again then 1 else 0)
/-- levels that may still rise -/
structure LvI (k:Nat) (l:List Ed) (f:List Nat):Prop where
 len:f.length=k
 least : ∀ g,Sol l g → ∀ i,lv f i≤g i
 le : ∀ i,lv f i≤k
theorem LvI.sum {k:Nat} {l:List Ed} {f:List Nat} (I:LvI k l f):f.sum≤k*k:=by
 have:=sum_le I.le;rw [I.len] at this;exact this
theorem LvI.zero (k:Nat) (l:List Ed):LvI k l (List.replicate k 0):=by
 have h : ∀ i,lv (List.replicate k 0) i=0:=by
  intro i;unfold lv
  rw [List.getD_eq_getElem?_getD,List.getElem?_replicate]
  split <;> rfl
 exact ⟨by simp,fun g _ i=>by rw [h];exact Nat.zero_le _,fun i=>by rw [h];exact Nat.zero_le _⟩
/-- what strata.Levels comes to -/
def LvPost (n:Int) (l:List Ed) (h:H) (r:AOut) (h':H):Prop :=
 Keep (Old h.n) h h' ∧
 (((n<0∨4096<n∨Bad n l)∧r = .val (.tup [.nils,intC 1])) ∨
  (¬ (n<0∨4096<n∨Bad n l)∧((NoSol n.toNat l∧r = .val (.tup [.nils,intC 33])) ∨
   ∃ r0 f,h.n≤r0∧CBox natC r0 f h'∧Least n.toNat l f∧r = .val (.tup [.slice r0 0 n.toNat 1,intC 0]))))

/-- levels of a few places -/
def LvRes (k:Nat) (l:List Ed) (N:Nat) (h':H) (a:AV) (e:Int):Prop :=
 (Bad k l∧a = .nils∧e=1)∨(¬ Bad k l∧NoSol k l∧a = .nils∧e=33)∨(¬ Bad k l ∧ ∃ r0 f,N≤r0∧CBox natC r0 f h'∧Least k l f∧a = .slice r0 0 k 1∧e=0)
theorem LvRes.keep {k:Nat} {l:List Ed} {N:Nat} {h h':H} {a:AV} {e:Int} (r:LvRes k l N h a e) (wf:h.Wf) (kk:Keep (Old h.n) h h'):LvRes k l N h' a e:=by
 rcases r with r | r | ⟨hb,r0,f,h1,h2,h3,h4,h5⟩
 · exact .inl r
 · exact .inr (.inl r)
 · exact .inr (.inr ⟨hb,r0,f,h1,h2.keep kk (h2.lt wf),h3,h4,h5⟩)
theorem Eds.push {N:Nat} {h:H} (wf:h.Wf) (hN:N≤h.n) {v:AV} {l:List Ed} (a:Eds h v l) (o:Own N h v) (x:Ed) (hbig:l.length+1<4294967296) :
 ∃ v' h',appendA (h.new (edC x)) 3 v (.slice h.n 0 1 3)=some (v',h')∧Eds h' v' (l ++ [x])∧Own N h' v'∧Keep (Old N) h h':=by
 have sl:=o.slot wf
 have kn:Keep (Old h.n) h (h.new (edC x)):=Keep.new (Nat.le_refl _) _
 have wn:=wf.new (edC x)
 have sb:Sl (h.new (edC x)) 3 (.slice h.n 0 1 3) 1 (edC x):=by
  have:=Sl.new (n:=1) (es:=3) wf (vs:=edC x) (by simp [edC])
  simpa [edC] using this
 obtain ⟨v',h',e,s',o',k'⟩:=append_own (N:=N) wn (Nat.le_trans hN kn.n) (Sl.keep a kn sl) (o.keep sl kn) sb (by simp [edC,AV.one]) (by omega)
 refine ⟨v',h',e,?_,o',(kn.less hN).trans k'⟩
 have e2:(l ++ [x]).flatMap edC=l.flatMap edC++edC x:=by simp
 show Sl h' 3 v' (l ++ [x]).length _
 rw [e2,List.length_append]
 exact s'
theorem NoSol.congr {k:Nat} {l m:List Ed} (hm : ∀ e,e∈m↔e∈l) (n:NoSol k l):NoSol k m:=fun g hs=>n g fun e he=>hs e ((hm e).2 he)
theorem Bad.congr {k:Int} {l m:List Ed} (hm : ∀ e,e∈m↔e∈l) (n:Bad k l):Bad k m:=by
 obtain ⟨e,he,ho⟩:=n
 exact ⟨e,(hm e).2 he,ho⟩
theorem Least.congr {k:Nat} {l m:List Ed} (hm : ∀ e,e∈m↔e∈l) {f:List Nat} (n:Least k l f):Least k m f :=
 ⟨n.len,fun e he=>n.sol e ((hm e).1 he),fun g hs=>n.least g fun e he=>hs e ((hm e).2 he),n.le⟩
end Go.Proofs.YtdbmeidhlijopaaDoor.Ev.C

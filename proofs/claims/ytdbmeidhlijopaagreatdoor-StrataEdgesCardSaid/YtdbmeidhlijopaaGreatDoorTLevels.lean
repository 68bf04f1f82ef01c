/- Levels of edges, in plain words. -/
import Derived.Test.YtdbmeidhlijopaaGreatDoorEvL2
import Derived.Test.YtdbmeidhlijopaaGreatDoorTBase
namespace Go.Proofs.YtdbmeidhlijopaaGreatDoor.Ev.C
set_option linter.unusedVariables false
/-- an edge: from, to, with a Not? -/
abbrev Ed:=Int×Int×Bool
def wt (b:Bool):Nat:=if b then 1 else 0
/-- an edge leads out of the places -/
def off (n:Int) (e:Ed):Bool:=decide (e.1<0)||decide (n≤e.1)||decide (e.2.1<0)||decide (n≤e.2.1)
/-- levels that are as edges ask -/
def Sol (l:List Ed) (g:Nat→Nat):Prop := ∀ e∈l,g e.2.1.toNat+wt e.2.2≤g e.1.toNat
def lv (f:List Nat) (i:Nat):Nat:=f.getD i 0
end Go.Proofs.YtdbmeidhlijopaaGreatDoor.Ev.C

/- Least levels, in plain words: what asks for them. -/
namespace Go.Proofs.YtdbmeidhlijopaaGreatDoor.Ev.C
open Go Go.Proofs.YtdbmeidhlijopaaGreatDoor.Ev
set_option linter.unusedVariables false
end Go.Proofs.YtdbmeidhlijopaaGreatDoor.Ev.C

/- Edges in memory; an edge that leads out. -/
namespace Go.Proofs.YtdbmeidhlijopaaGreatDoor.Ev.C
open Go Go.Proofs.YtdbmeidhlijopaaGreatDoor.Ev
set_option linter.unusedSimpArgs false
set_option linter.unusedVariables false
def edC (e:Ed):List AV := [intC e.1,intC e.2.1,.bool e.2.2]
abbrev Eds (h:H) (v:AV) (l:List Ed):Prop:=Sl h 3 v l.length (l.flatMap edC)
theorem Eds.at {h:H} {v:AV} {l:List Ed} (b:Eds h v l) {i:Nat} (hi:i<l.length) :
 ∃ o j,aAJ 3 v (.int .i64 (i:Int))=some (.ptr o j)∧loadA h false 1 (.ptr o (j+0))=some (intC l[i].1)∧loadA h false 1 (.ptr o (j+1))=some (intC l[i].2.1)∧loadA h false 1 (.ptr o (j+2))=some (.bool l[i].2.2) ∧
  loadA h true 3 (.ptr o j)=some (.agg (edC l[i])):=by
 obtain ⟨o,j,e,h1,h2⟩:=Sl.elem b (fun x _=>rfl) hi (by decide) .i64
 exact ⟨o,j,e,h1 0 (by decide),h1 1 (by decide),h1 2 (by decide),h2⟩
end Go.Proofs.YtdbmeidhlijopaaGreatDoor.Ev.C

/- strata.Levels: the least levels. -/
namespace Go.Proofs.YtdbmeidhlijopaaGreatDoor.Ev.C
open Go Go.Proofs.YtdbmeidhlijopaaGreatDoor.Ev
set_option linter.unusedSimpArgs false
set_option linter.unusedVariables false

/-- levels that may still rise -/
structure LvI (k:Nat) (l:List Ed) (f:List Nat):Prop where
 len:f.length=k
 least : ∀ g,Sol l g → ∀ i,lv f i≤g i
 le : ∀ i,lv f i≤k
theorem LvI.zero (k:Nat) (l:List Ed):LvI k l (List.replicate k 0):=by
 have h : ∀ i,lv (List.replicate k 0) i=0:=by
  intro i;unfold lv
  rw [List.getD_eq_getElem?_getD,List.getElem?_replicate]
  split <;> rfl
 exact ⟨by simp,fun g _ i=>by rw [h];exact Nat.zero_le _,fun i=>by rw [h];exact Nat.zero_le _⟩

theorem Eds.push {N:Nat} {h:H} (wf:h.Wf) (hN:N≤h.n) {v:AV} {l:List Ed} (a:Eds h v l) (o:Own N h v) (x:Ed) (hbig:l.length+1<4294967296) :
 ∃ v' h',aCd (h.new (edC x)) 3 v (.slice h.n 0 1 3)=some (v',h')∧Eds h' v' (l ++ [x])∧Own N h' v'∧Keep (Old N) h h':=by
 have sl:=o.slot wf
 have kn:Keep (Old h.n) h (h.new (edC x)):=Keep.new (Nat.le_refl _) _
 have wn:=wf.new (edC x)
 have sb:Sl (h.new (edC x)) 3 (.slice h.n 0 1 3) 1 (edC x):=by
  have:=Sl.new (n:=1) (es:=3) wf (vs:=edC x) (by simp [edC])
  simpa [edC] using this
 obtain ⟨v',h',e,s',o',k'⟩:=aUG (N:=N) wn (Nat.le_trans hN kn.n) (Sl.keep a kn sl) (o.keep sl kn) sb (by simp [edC,AV.one]) (by omega)
 refine ⟨v',h',e,?_,o',(kn.less hN).trans k'⟩
 have e2:(l ++ [x]).flatMap edC=l.flatMap edC++edC x:=by simp
 show Sl h' 3 v' (l ++ [x]).length _
 rw [e2,List.length_append]
 exact s'
theorem a1B (x:Ed):afill (zeros [AV.int .i64 0,.int .i64 0,.bool false] (1*3)) [(0,3,.agg (edC x))]=some (edC x):=rfl
end Go.Proofs.YtdbmeidhlijopaaGreatDoor.Ev.C

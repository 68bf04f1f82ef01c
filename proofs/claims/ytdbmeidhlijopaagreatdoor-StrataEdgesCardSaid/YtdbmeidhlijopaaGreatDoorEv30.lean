/- Arguments of any shape that holds no pointer, map, interface: opened as plain values. -/
import Derived.Test.YtdbmeidhlijopaaGreatDoorEvL2
import Derived.DataElems
import Derived.Test.YtdbmeidhlijopaaGreatDoorEv19
import Derived.SliceStrings
import Derived.Lib.LaidTab
import Derived.Below
namespace Go.Proofs.YtdbmeidhlijopaaGreatDoor.Ev
open Go.ChangeShapes Go.WideShapes Go.RowKit
set_option linter.unusedVariables false
set_option linter.unusedSimpArgs false

/-- values of the type t, of n cells, stand for α: R tells how they lie in memory -/
structure Opens (P:Program) (t:TypeId) (n:Nat) {α:Type} (R:H→List AV→α→Prop):Prop where
 stab : ∀ h h' us a,R h us a→Keep (Old h.n) h h'→R h' us a
 op : ∀ {X:Type} (enc:TypeId×Value→X) (W:World) (fuel:Nat) (cs:List Value) (x:DataW X×List MemPlace),DataW.trod enc P W 0 (fun _=>true) true fuel t cs=some x→0<W.heap.size →
  ∀ (m:M) (h:H),Rel P W.heap.size m h W → ∃ m' h' us a,Rel P W.heap.size m' h' W∧M.le m m'∧Keep (Old h.n) h h'∧us.length=n∧VRels m' us cs∧R h' us a

theorem a26 {w:World} {a:Addr} {v:Value} (h:w.cell? a=some v):a.block<w.heap.size:=by
 unfold World.cell? at h
 split at h
 · rename_i hb;exact (Array.getElem?_eq_some_iff.1 hb).1
 · cases h
theorem VRels.length {m:M} : ∀ {l:List AV} {l':List Value},VRels m l l'→l.length=l'.length
 | _,_,.nil=>rfl
 | _,_,.cons h t=>by simp [VRels.length t]
theorem VRels.at {m:M} : ∀ {l:List AV} {l':List Value},VRels m l l' → ∀ {i:Nat} {u:AV},l[i]? = some u → ∃ v,l'[i]? = some v∧VRel m u v
 | _,_,.nil,i,u,h=>by simp at h
 | _,_,.cons h t,0,u,e=>by simp at e;subst e;exact ⟨_,rfl,h⟩
 | _,_,.cons h t,i+1,u,e=>by simpa using VRels.at t (by simpa using e)
theorem VRels.app {m:M} : ∀ {l1:List AV} {l1':List Value} {l2:List AV} {l2':List Value},VRels m l1 l1'→VRels m l2 l2'→VRels m (l1++l2) (l1'++l2')
 | _,_,_,_,.nil,h=>h
 | _,_,_,_,.cons h t,k => .cons h (VRels.app t k)

section
variable {P:Program} {t:TypeId} {n:Nat} {α:Type} {R:H→List AV→α→Prop}
theorem Opens.int {k:IntKind} (ht:P.underlying t=some (.int k)):Opens P t 1 (fun _ us (z:Int)=>us = [.int k z]∧(Lit.int k z).wf=true) where
 stab:=fun _ _ _ _ r _=>r
 op:=by
  intro X enc W fuel cs x hx hp m h r
  obtain ⟨z,rfl,rfl,hw⟩:=DataW.trod_int ht hx
  exact ⟨m,h,[.int k z],z,r,M.le_refl m,Keep.refl _ _,rfl,.cons (.int k z) .nil,rfl,hw⟩
theorem Opens.bool (ht:P.underlying t=some .bool):Opens P t 1 (fun _ us (b:Bool)=>us = [.bool b]) where
 stab:=fun _ _ _ _ r _=>r
 op:=by
  intro X enc W fuel cs x hx hp m h r
  obtain ⟨b,rfl,rfl⟩:=DataW.trod_bool ht hx
  exact ⟨m,h,[.bool b],b,r,M.le_refl m,Keep.refl _ _,rfl,.cons (.bool b) .nil,rfl⟩

/-- a slice, its elements each in n cells -/
def SliceR (n:Nat) (R:H→List AV→α→Prop) (h:H) (us:List AV) (as:List α):Prop :=
 ∃ v,us = [v] ∧ ∃ q:List (List AV×α),as=q.map (·.2)∧Sl h n v q.length (q.flatMap (·.1))∧Slot (Old h.n) h v∧q.length≤maxLen ∧ ∀ x∈q,x.1.length=n∧R h x.1 x.2
theorem SliceR.none (n:Nat) (R:H→List AV→α→Prop) (h:H):SliceR n R h [.nils] []:=⟨_,rfl,[],rfl,Sl.nil h n,trivial,Nat.zero_le _,fun x hx=>by cases hx⟩
end

/-! ### structs -/
section
variable {P:Program}

/-! ### shapes -/
def BytesR (h:H) (us:List AV) (bs:List UInt8):Prop := ∃ v,us = [v]∧Bytes h v bs∧Slot (Old h.n) h v∧bs.length≤maxLen
abbrev BoolsA (h:H) (v:AV) (l:List Bool):Prop:=Sl h 1 v l.length (l.map AV.bool)
def BoolsR (h:H) (us:List AV) (bs:List Bool):Prop := ∃ v,us = [v]∧BoolsA h v bs∧Slot (Old h.n) h v∧bs.length≤maxLen
theorem BytesR.stab (h h':H) (us:List AV) (a:List UInt8) (r:BytesR h us a) (k:Keep (Old h.n) h h'):BytesR h' us a:=by
 obtain ⟨v,rfl,s,sl,hl⟩:=r
 exact ⟨v,rfl,s.keep k sl,sl.keep k (fun o ho=>Nat.lt_of_lt_of_le ho k.n),hl⟩
theorem BoolsR.stab (h h':H) (us:List AV) (a:List Bool) (r:BoolsR h us a) (k:Keep (Old h.n) h h'):BoolsR h' us a:=by
 obtain ⟨v,rfl,s,sl,hl⟩:=r
 exact ⟨v,rfl,s.keep k sl,sl.keep k (fun o ho=>Nat.lt_of_lt_of_le ho k.n),hl⟩
end
end Go.Proofs.YtdbmeidhlijopaaGreatDoor.Ev

/- A package variable whose row is laid: the start of a memory. A struct among the arguments. -/
namespace Go.Proofs.YtdbmeidhlijopaaGreatDoor.Ev
open Go.ChangeShapes Go.WideShapes Go.RowKit
set_option linter.unusedVariables false
set_option linter.unusedSimpArgs false

/-- a listed variable that is a slice of texts: the memory starts with it -/
theorem aYD {P:Program} {W:World} {name:String} {l:List (List UInt8)} {rest:List (String×DataW Unit)} {g:Nat} {t e:TypeId} {ps:List MemPlace} (hL:DataW.LaidVars P W ((name,.slice (l.map fun s => .lit (.string s)) [])::rest) ps)
 (hg:P.globalNamed name=some g) (hty:(P.globals[g]?).map (·.type)=some t) (ht:P.underlying t=some (.slice e)) (he:P.underlying e=some .string) (hc:P.cellsOf e=1) (hl:l ≠ []) :
 ∃ mS,Rel P W.heap.size mS (HG g l.length (aBU l)) W:=by
 obtain ⟨g',t',cs,fuel,p,q,hg',ht',hvar,hd,_,_⟩:=hL
 obtain rfl:=Option.some.inj (hg.symm.trans hg')
 obtain rfl:=Option.some.inj (hty.symm.trans ht')
 rcases open_strings ht he hc hd with ⟨_,hx⟩ | ⟨a,len,cap,ss,hcs,_,hlen,_,hssl,hx,hcell,_⟩
 · cases hx
 simp only [Prod.mk.injEq,DataW.slice.injEq] at hx
 obtain ⟨⟨h1,h2⟩,_⟩:=hx
 have hdrop:ss.drop len = []:=by
  cases hd':ss.drop len with
  | nil=>rfl
  | cons y r=>rw [hd'] at h2;simp [strs] at h2
 have htake:ss.take len=ss:=by
  have:=List.take_append_drop len ss
  rw [hdrop,List.append_nil] at this;exact this
 rw [htake] at h1
 have hstr:ss.map (fun s=>s.data.toList)=l:=by
  have:(l.map fun s=>(DataW.lit (.string s):DataW Unit))=(ss.map fun s=>s.data.toList).map fun s=>DataW.lit (.string s):=by
   rw [h1];simp [strs]
  have hinj : ∀ (x y:List (List UInt8)),(x.map fun s=>(DataW.lit (.string s):DataW Unit))=(y.map fun s=>DataW.lit (.string s))→x=y:=by
   intro x
   induction x with
   | nil=>intro y hy;cases y with | nil=>rfl | cons b r=>simp at hy
   | cons b r ih =>
    intro y hy
    cases y with
    | nil=>simp at hy
    | cons c r' =>
     simp only [List.map_cons,List.cons.injEq,DataW.lit.injEq,Lit.string.injEq] at hy
     rw [hy.1,ih r' hy.2]
  exact (hinj _ _ this).symm
 have hsl:ss.length=l.length:=by rw [← hstr];simp
 have hlenl:len=l.length:=by
  have:(ss.drop len).length=0:=by rw [hdrop];rfl
  simp only [List.length_drop] at this
  simp only [if_true] at hssl
  omega
 have hcap:cap=l.length:=by simp only [if_true] at hssl;omega
 obtain ⟨ab,ao,asp⟩:=a
 have hpos:0<ss.length:=by rw [hsl];exact List.length_pos_iff.2 hl
 have hc0:=hcell 0 hpos
 have hasp:asp=none:=by
  simp only [Addr.add,World.cell?] at hc0
  split at hc0
  · cases asp with
    | none=>rfl
    | some x=>simp at hc0
  · cases hc0
 subst hasp
 have hadd : ∀ i,(⟨ab,ao,none⟩:Addr).add i=⟨ab,ao+i,none⟩:=by
  intro i;unfold Addr.add;split <;> simp_all
 simp only [hadd] at hcell hc0
 obtain ⟨CS,et,fr,hb⟩ : ∃ CS et fr,W.heap[ab]? = some (.cells CS et fr):=by
  simp only [World.cell?] at hc0
  split at hc0
  · rename_i c e' f' hh;exact ⟨c,e',f',hh⟩
  · cases hc0
 have hcellg:W.cell? ⟨g,0,none⟩=some (.slice (some ⟨ab,ao,none⟩) len cap):=by
  unfold World.var? at hvar
  rw [hg] at hvar
  simp only [Option.bind_some] at hvar
  split at hvar
  · rename_i c t' f hh
    cases hvar
    simp only [World.cell?,hh]
    have:cs[0]? = some (.slice (some ⟨ab,ao,none⟩) len cap):=by
     rw [← Array.getElem?_toList,hcs];rfl
    simpa using this
  · cases hvar
 have hgl:g<W.heap.size:=a26 hcellg
 have hat : ∀ i,i<ss.length→CS[ao+i]? = some (.string (ss.getD i ByteArray.empty)):=by
  intro i hi
  have:=hcell i hi
  simp only [World.cell?,hb] at this
  simpa using this
 have hsz:ao+ss.length≤CS.size:=by
  have:=hat (ss.length - 1) (by omega)
  have:=(Array.getElem?_eq_some_iff.1 this).1
  omega
 have hsz2:ao+(aBU l).length≤CS.size:=by simp only [aBU,List.length_map];omega
 refine ⟨_,Rel.startG (cap:=cap) hb rfl hsz2 ?_ hgl (by rw [← hlenl];exact hcellg) (by omega) (by omega)⟩
 intro i a hi
 have hil:i<l.length:=by
  have:=(List.getElem?_eq_some_iff.1 hi).1
  simpa [aBU] using this
 have h5:a = .str l[i]:=by
  simp only [aBU,List.getElem?_map,List.getElem?_eq_getElem hil,Option.map_some,Option.some.injEq] at hi
  exact hi.symm
 subst h5
 refine ⟨_,hcell i (by omega),?_⟩
 have h6:ss.getD i ByteArray.empty=⟨⟨l[i]⟩⟩:=by
  have hil2:i<ss.length:=by omega
  have h7:l[i]=ss[i].data.toList:=by
   have:l[i]? = (ss.map fun s=>s.data.toList)[i]? := by rw [hstr]
   rw [List.getElem?_eq_getElem hil,List.getElem?_map,List.getElem?_eq_getElem hil2] at this
   simpa using this
  rw [List.getD_eq_getElem?_getD,List.getElem?_eq_getElem hil2,Option.getD_some,h7]
 rw [h6]
 exact .str _
theorem aYa {P:Program} {W:World} {name:String} {l:List (List UInt8)} {rest:List (String×DataW Unit)} {g:Nat} {t e:TypeId} (hL:laidMet P ((name,.slice (l.map fun s => .lit (.string s)) [])::rest) W)
 (hg:P.globalNamed name=some g) (hty:(P.globals[g]?).map (·.type)=some t) (ht:P.underlying t=some (.slice e)) (he:P.underlying e=some .string) (hc:P.cellsOf e=1) (hl:l ≠ []) :
 ∃ mS,Rel P W.heap.size mS (HG g l.length (aBU l)) W:=by
 obtain ⟨ps,h,_⟩:=hL
 exact aYD h hg hty ht he hc hl
theorem StartG.hg (g len:Nat) (cs:List AV):StartG g len cs (HG g len cs):=⟨HG_0 g len cs,HG_1 g len cs⟩
section
variable {P:Program} {t:TypeId} {n:Nat} {α:Type} {R:H→List AV→α→Prop}
end
end Go.Proofs.YtdbmeidhlijopaaGreatDoor.Ev

/- A memory that is read alone: what a call makes there is behind it. -/
namespace Go.Proofs.YtdbmeidhlijopaaGreatDoor.Ev
open Go Go.RowKit
set_option linter.unusedVariables false

def Tr.mapI {α:Type} (f:Nat→α→α):(Nat→Nat)→Tr α→Tr α
 | _,.nil => .nil
 | p,.node v l r => .node (v.map (f (p 0))) (Tr.mapI f (fun i=>p (2*i+1)) l) (Tr.mapI f (fun i=>p (2*i+2)) r)
theorem Tr.get_mapI {α:Type} (f:Nat→α→α) : ∀ (t:Tr α) (p:Nat→Nat) (i:Nat),(Tr.mapI f p t).get i=(t.get i).map (f (p i))
 | .nil,p,i=>rfl
 | .node v l r,p,i=>by
  simp only [Tr.mapI,Tr.get]
  by_cases h0:i=0
  · subst h0;simp
  · rw [if_neg h0,if_neg h0]
    by_cases h1:i % 2=1
    · rw [if_pos h1,if_pos h1,Tr.get_mapI f l]
      rw [show 2*(i / 2)+1=i by omega]
    · rw [if_neg h1,if_neg h1,Tr.get_mapI f r]
      rw [show 2*(i / 2 - 1)+2=i by omega]
/-- all that may be read is read alone; all else is told no more -/
def H.roX (h:H) (o:Nat):AObj→AObj
 | .cells cs none => .cells cs none
 | .cells cs (some g)=>if h.kill g≤o then .cells cs none else .other
 | .glob g v => .glob g v
 | _ => .other
def H.ro (h:H):H:={ n:=h.n,gr := .nil,ob:=Tr.mapI h.roX (fun i=>i) h.ob }
theorem H.ro_get (h:H) (o:Nat):h.ro.get o=(h.get o).map (h.roX o):=Tr.get_mapI _ _ _ _
theorem H.ro_cells {h:H} {o:Nat} {cs:List AV} {g:Option Nat} (e:h.ro.get o=some (.cells cs g)):g=none∧h.row o=some cs:=by
 rw [H.ro_get] at e
 obtain ⟨x,hx,he⟩:=Option.map_eq_some_iff.1 e
 unfold H.roX at he
 split at he
 · cases he;refine ⟨rfl,?_⟩;unfold H.row;rw [hx]
 · split at he
   · rename_i hk;cases he;refine ⟨rfl,?_⟩;unfold H.row;rw [hx];simp [hk]
   · cases he
 · cases he
 · cases he
theorem H.ro_row {h:H} {o:Nat} {cs:List AV} (e:h.row o=some cs):h.ro.get o=some (.cells cs none):=by
 rw [H.ro_get]
 unfold H.row at e
 split at e
 · rename_i c hx;cases e;rw [hx];rfl
 · rename_i c g hx
   split at e
   · rename_i hk;cases e;rw [hx];simp [H.roX,hk]
   · cases e
 · cases e
theorem H.row_ro (h:H) (o:Nat):h.ro.row o=h.row o:=by
 cases e:h.row o with
 | some cs =>
  have:=H.ro_row e
  show (match h.ro.get o with | some (.cells cs none)=>some cs | some (.cells cs (some g))=>if h.ro.kill g≤o then some cs else none | _=>none)=_
  rw [this]
 | none =>
  cases e2:h.ro.row o with
  | none=>rfl
  | some cs =>
   unfold H.row at e2
   split at e2
   · rename_i c hx;have:=(H.ro_cells hx).2;rw [e] at this;cases this
   · rename_i c g hx;have:=(H.ro_cells hx).1;cases this
   · cases e2
theorem H.ro_glob {h:H} {o g:Nat} {v:AV} (e:h.ro.get o=some (.glob g v)):h.get o=some (.glob g v):=by
 rw [H.ro_get] at e
 obtain ⟨x,hx,he⟩:=Option.map_eq_some_iff.1 e
 unfold H.roX at he
 split at he
 · cases he
 · split at he <;> cases he
 · cases he;exact hx
 · cases he
theorem H.ro_no {h:H} {o:Nat} {x:AObj} (e:h.ro.get o=some x):(∀ L,x ≠ .loop L)∧(∀ X,x ≠ .mem X):=by
 rw [H.ro_get] at e
 obtain ⟨y,hy,he⟩:=Option.map_eq_some_iff.1 e
 unfold H.roX at he
 split at he
 · cases he;exact ⟨fun _=>nofun,fun _=>nofun⟩
 · split at he <;> cases he <;> exact ⟨fun _=>nofun,fun _=>nofun⟩
 · cases he;exact ⟨fun _=>nofun,fun _=>nofun⟩
 · cases he;exact ⟨fun _=>nofun,fun _=>nofun⟩
/-! a value that points nowhere -/
mutual
def plainV:AV→Bool
 | .bool _ | .int _ _ | .str _=>true
 | .agg cs=>aNl cs
 | .tup cs=>aNl cs
 | _=>false
def aNl:List AV→Bool
 | []=>true
 | a::r=>plainV a&&aNl r
end
mutual
theorem VRel.plain_any {m m':M} : ∀ {a:AV} {v:Value},VRel m a v→plainV a=true→VRel m' a v
 | _,_,.bool b,_ => .bool b
 | _,_,.int k n,_ => .int k n
 | _,_,.str s,_ => .str s
 | _,_,.agg h,hp => .agg (VRels.plain_any h hp)
 | _,_,.tup h,hp => .tup (VRels.plain_any h hp)
theorem VRels.plain_any {m m':M} : ∀ {l:List AV} {l':List Value},VRels m l l'→aNl l=true→VRels m' l l'
 | _,_,.nil,_ => .nil
 | _,_,.cons h t,hp=>by
  simp only [aNl,Bool.and_eq_true] at hp
  exact .cons (VRel.plain_any h hp.1) (VRels.plain_any t hp.2)
end
section
variable {B0:Nat} {P:Program}
theorem Rel.toRo {m:M} {h:H} {w:World} (r:Rel P B0 m h w):Rel P w.heap.size m h.ro w where
 base:=Nat.le_refl _
 lt:=r.lt
 row:=fun {o cs g b base sz} e hm=>by
  obtain ⟨_,hr⟩:=H.ro_cells e
  unfold H.row at hr
  split at hr
  · rename_i hx;cases hr;exact r.row hx hm
  · rename_i hx
    split at hr
    · cases hr;exact r.row hx hm
    · cases hr
  · cases hr
 val:=fun e hm=>r.val (by rw [← H.row_ro];exact e) hm
 own:=fun e hm=>by have:=(H.ro_cells e).1;cases this
 ro:=fun e hm=>r.blk hm
 sep:=fun h1 _ _ hb=>absurd (r.blk h1) (by omega)
 ord:=fun _ e _ _ _ _=>by have:=(H.ro_cells e).1;cases this
 blk:=r.blk
 any:=fun {o x} hm=>by
  obtain ⟨ob,e⟩:=r.any hm
  rw [H.ro_get,e];exact ⟨_,rfl⟩
 lp:=fun e _=>absurd rfl ((H.ro_no e).1 _)
 mm:=fun e _=>absurd rfl ((H.ro_no e).2 _)
 gb:=fun e=>by
  obtain ⟨h1,v',h2,h3⟩:=r.gb (H.ro_glob e)
  exact ⟨Nat.lt_of_lt_of_le h1 r.base,v',h2,h3⟩
 wf:={
  gr:=fun g p h=>by cases h
  mem:=fun o cs g e=>by have:=(H.ro_cells e).1;cases this
  ob:=fun o x e=>by
   rw [H.ro_get] at e
   obtain ⟨y,hy,_⟩:=Option.map_eq_some_iff.1 e
   exact r.wf.ob o y hy
  kt:=fun g p h=>by cases h
  tl:=fun g h=>h }
/-- a call on memory that is read alone: behind it all is as it was -/
theorem FnOK.apart {f:Nat} {args:List AV} {h:H} {v:AV} (hv:plainV v=true) (hB:B0≠0) (c : ∀ B,B≠0→FnOK P B f args h.ro (fun r1 _=>r1 = .val v)) {m:M} {w:World} (hr:Rel P B0 m h w) {cargs:List Value} (ha:VRels m args cargs) :
 Runs P f ⟨cargs⟩ w (fun e w' => ∃ v',e = .returned v'∧(∀ m',VRel m' v v')∧Below w.heap.size w w'):=by
 refine (c w.heap.size (by have:=hr.base;omega) m w cargs hr.toRo ha).mono ?_
 rintro e w' ⟨r1,h2,rfl,m1,hE,r1,f1⟩
 cases hE with
 | val hvr =>
  exact ⟨_,rfl,fun m'=>hvr.plain_any hv,f1.os,f1.tape,f1.output,f1.size,fun b hb=>f1.blk b hb (.inl hb)⟩
/-- .. and so it stands for itself -/
theorem FnOK.same {f:Nat} {args:List AV} {h:H} {v:AV} (hB:B0≠0) (c : ∀ (m:M) (w:World) (cargs:List Value),Rel P B0 m h w→VRels m args cargs→Runs P f ⟨cargs⟩ w (fun e w' => ∃ v',e = .returned v'∧(∀ m',VRel m' v v')∧Below w.heap.size w w')) :
 FnOK P B0 f args h (fun r1 h1=>r1 = .val v∧h1=h):=by
 intro m w cargs hr ha
 refine (c m w cargs hr ha).mono ?_
 rintro e w' ⟨v',rfl,hv,bel⟩
 have hsame : ∀ b,b<w.heap.size→w'.heap[b]? = w.heap[b]? := fun b hb=>bel.block b hb
 exact ⟨.val v,h,⟨rfl,rfl⟩,m,.val (hv _),hr.same bel.size hsame,⟨M.le_refl m,bel.os,bel.tape,bel.output,bel.size,fun b hb _=>hsame b hb,Nat.le_refl _,fun o _ hmo=>⟨rfl,hmo⟩,fun o b base sz h1 h2=>(by rw [h2] at h1;cases h1),fun h=>absurd h hB⟩⟩
/-- what a walk says of a call that points nowhere, the call does, and leaves memory as it was -/
theorem FnOK.pure {E:Env} (hmix:P.follows .mixedOrders=true) (hT:TableOK P E) (hO : ∀ B,B≠0→OvOK P B E.ov) (hB:B0≠0) {f:Nat} {args:List AV} {v:AV} (hv:plainV v=true) (hw : ∀ h:H,h.Wf→WCall E f args h (fun r _=>r = .val v)) (h:H) :
 FnOK P B0 f args h (fun r1 h1=>r1 = .val v∧h1=h) :=
 FnOK.same hB fun m w cargs hr ha=>FnOK.apart hv hB (fun B hB' m' w' cargs' hr' ha'=>aLr hmix hT (hO B hB') (hw h.ro hr'.wf) m' w' cargs' hr' ha') hr ha
abbrev Ovr:=Nat×(List AV→H→Option (AOut×H))
/-- functions that stand for themselves, ahead of others -/
def ovP (b:Ovs) (L:List Ovr):Ovs:=fun f=>match L.find? (·.1==f) with | some p=>some p.2 | none=>b f
theorem ovP_ok {b:Ovs} {L:List Ovr} {B:Nat} (hb:OvOK P B b) (hL : ∀ p∈L,∀ args h r h',p.2 args h=some (r,h')→FnOK P B p.1 args h (fun r1 h1=>r1=r∧h1=h')):OvOK P B (ovP b L):=by
 intro f g hf args h r h' hg
 unfold ovP at hf
 split at hf
 · rename_i p hp
   cases hf
   have h1:=List.mem_of_find?_eq_some hp
   have h2:=List.find?_some hp
   simp only [beq_iff_eq] at h2
   have:=hL p h1 args h r h' hg
   rw [h2] at this
   exact this
 · exact hb f g hf args h r h' hg
/-- a function of what points nowhere -/
def pureO (F:List AV→Option AV):List AV→H→Option (AOut×H):=fun args h=>(F args).map fun v=>(.val v,h)
theorem a0r {E:Env} (hmix:P.follows .mixedOrders=true) (hT:TableOK P E) (hO : ∀ B,B≠0→OvOK P B E.ov) {f:Nat} {F:List AV→Option AV} (hw : ∀ args v,F args=some v→plainV v=true ∧ ∀ h:H,h.Wf→WCall E f args h (fun r _=>r = .val v))
 {B:Nat} (hB:B≠0) {args:List AV} {h h':H} {r:AOut} (hg:pureO F args h=some (r,h')):FnOK P B f args h (fun r1 h1=>r1=r∧h1=h'):=by
 obtain ⟨v,hv,e⟩:=Option.map_eq_some_iff.1 hg
 cases e
 exact FnOK.pure hmix hT hO hB (hw args v hv).1 (hw args v hv).2 h
theorem aZv {E:Env} {f:Nat} {F:List AV→Option AV} {args:List AV} {v:AV} {h:H} {R:AOut→H→Prop} (ho:E.ov f=some (pureO F)) (hF:F args=some v) (hR:R (.val v) h):WCall E f args h R :=
 aGm ho (by simp [pureO,hF]) hR
end
end Go.Proofs.YtdbmeidhlijopaaGreatDoor.Ev

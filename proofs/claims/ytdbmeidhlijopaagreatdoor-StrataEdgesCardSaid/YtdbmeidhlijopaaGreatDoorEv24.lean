/- More single operations, for symbolic runs. -/
import Derived.Test.YtdbmeidhlijopaaGreatDoorEv19
import Derived.SliceStrings
import Derived.Lib.SmallJoins
namespace Go.Proofs.YtdbmeidhlijopaaGreatDoor.Ev
set_option linter.unusedVariables false
set_option linter.unusedSimpArgs false
@[go_sem] theorem a6K (a b:Bool):eqA .bool (.bool a) (.bool b)=some (a==b):=id rfl
@[go_sem] theorem a3U:eqA .slice .nils .nils=some true:=id rfl
@[go_sem] theorem a2n (o i l e:Nat):eqA .slice .nils (.slice o i l e)=some false:=id rfl
@[go_sem] theorem a1u (o i l e:Nat):eqA .slice (.slice o i l e) .nils=some false:=id rfl
@[go_sem] theorem a3P (t:Nat) (v:AV):eqA .iface .nili (.iface t v)=some false:=id rfl
@[go_sem] theorem a2e (t:Nat) (v:AV):eqA .iface (.iface t v) .nili=some false:=id rfl
@[go_sem] theorem a3w:eqA .ptr .nilp .nilp=some true:=id rfl
@[go_sem] theorem a3d (o i:Nat):eqA .ptr .nilp (.ptr o i)=some false:=id rfl
@[go_sem] theorem a3T (o i:Nat):eqA .ptr (.ptr o i) .nilp=some false:=id rfl
@[go_sem] theorem a5B {α β:Type} (f:α→β) (x:α):Option.map f (some x)=some (f x):=id rfl
@[go_sem] theorem a5D {α β:Type} (f:α→β):Option.map f none=none:=id rfl
@[go_sem] theorem a4s {α β:Type} (f:α→β) (x:α) (l:List α):List.map f (x::l)=f x::List.map f l:=id rfl
@[go_sem] theorem a5m {α β:Type} (f:α→β):List.map f [] = []:=id rfl
@[go_sem] theorem a5f {α:Type} (l:List α):l ++ []=l:=List.append_nil l
@[go_sem] theorem a5k {α:Type} (l:List α) : []++l=l:=id rfl
@[go_sem] theorem a5J {α:Type} (x:α) (l:List α):(x::l)[0]? = some x:=id rfl
@[go_sem] theorem a58 {α:Type} (x y:α) (l:List α):(x::y::l)[1]? = some y:=id rfl
@[go_sem] theorem a51 {α:Type} (x y z:α) (l:List α):(x::y::z::l)[2]? = some z:=id rfl
@[go_sem] theorem a4U {α:Type} (x y z w:α) (l:List α):(x::y::z::w::l)[3]? = some w:=id rfl
@[go_sem] theorem a4R (a b:Bool):(AV.bool a=AV.bool b)=(a=b):=by simp
/-! ### bytes: cut, and put together -/
theorem aKk {n k:Nat} (hk:k≤n) (kd:IntKind):bounds n none (some (.int kd (k:Int)))=some (0,k):=by
 simp only [bounds]
 rw [if_pos ⟨by omega,by omega⟩]
 simp
theorem aEw {n k:Nat} (hk:k≤n) (kd:IntKind):bounds n (some (.int kd (k:Int))) none=some (k,n):=by
 simp only [bounds]
 rw [if_pos ⟨by omega,by omega⟩]
 simp
end Go.Proofs.YtdbmeidhlijopaaGreatDoor.Ev

/- Rows that a function may change, and all others: groups of rows, boxes, slices of one's own. -/
namespace Go.Proofs.YtdbmeidhlijopaaGreatDoor.Ev
set_option linter.unusedVariables false
set_option linter.unusedSimpArgs false

/-- the rows that were there, but for those of these groups -/
def Apart (gs:List Nat) (h:H):Nat→Prop:=fun j=>j<h.n∧j∉gs ∧ ∀ cs g,h.get j=some (.cells cs (some g))→g∉gs
theorem Apart.of_old {gs:List Nat} {h:H} (wf:h.Wf) {N:Nat} (hN:N≤h.n) (hg : ∀ g∈gs,N≤g) {j:Nat} (hj:j<N):Apart gs h j :=
 ⟨by omega,fun hm=>by have:=hg _ hm;omega,fun cs g e hm=>by have:=hg _ hm;have:=(wf.mem _ _ _ e).1;omega⟩
/-- as a frame over all that was there -/
abbrev KeepA (gs:List Nat) (h h':H):Prop:=Keep (Apart gs h) h h'
theorem KeepA.refl (gs:List Nat) (h:H):KeepA gs h h:=Keep.refl _ h
theorem KeepA.of {gs:List Nat} {h h':H} (k:Keep (Old h.n) h h'):KeepA gs h h':=k.weaken fun o ho=>ho.1
theorem KeepA.old {gs:List Nat} {h h':H} (k:KeepA gs h h') (wf:h.Wf) {N:Nat} (hN:N≤h.n) (hg : ∀ g∈gs,N≤g):Keep (Old N) h h':=k.weaken fun o ho=>Apart.of_old wf hN hg ho
theorem KeepA.mono {gs gs':List Nat} {h h':H} (k:KeepA gs h h') (hs : ∀ g∈gs,g∈gs'):KeepA gs' h h':=k.weaken fun o ho=>⟨ho.1,fun hm=>ho.2.1 (hs _ hm),fun cs g e hm=>ho.2.2 cs g e (hs _ hm)⟩
theorem KeepA.then {gs gs':List Nat} {h h1 h2:H} (wf:h.Wf) (a:KeepA gs h h1) (b:KeepA gs' h1 h2) (hs : ∀ g∈gs',g∈gs∨h.n≤g):KeepA gs h h2:=by
 refine a.trans (b.weaken fun o ho => ?_)
 refine ⟨Nat.lt_of_lt_of_le ho.1 a.n,fun hm => ?_,fun cs g e hm => ?_⟩
 · rcases hs _ hm with x | x
   · exact ho.2.1 x
   · have:=ho.1;omega
 · rw [a.get _ ho] at e
   rcases hs _ hm with x | x
   · exact ho.2.2 _ _ e x
   · have:=ho.1;have:=(wf.mem _ _ _ e).1;omega
theorem Slot.apart {gs:List Nat} {h:H} (wf:h.Wf) {N:Nat} (hN:N≤h.n) (hg : ∀ g∈gs,N≤g) {v:AV} (s:Slot (Old N) h v):Slot (Apart gs h) h v:=s.mono fun o ho=>Apart.of_old wf hN hg ho
theorem Slot.keepA {gs:List Nat} {h h':H} {v:AV} (s:Slot (Apart gs h) h v) (k:KeepA gs h h'):Slot (Apart gs h') h' v :=
 s.keep k fun o ho=>⟨Nat.lt_of_lt_of_le ho.1 k.n,ho.2.1,fun cs g e=>ho.2.2 cs g (by rw [← k.get _ ho];exact e)⟩

/-- a slice of one's own, with its group -/
def Grp (g:Nat) (h:H):AV→Prop
 | .slice o i len es => ∃ cs,h.get o=some (.cells cs (some g))∧h.tip g=o∧h.kill g≤o∧i+len*es≤cs.length ∧ ∃ cs',h.get g=some (.cells cs' (some g))
 | _=>False
theorem Own.grp {N:Nat} {h:H} {v:AV} (o:Own N h v):v = .nils ∨ ∃ g,N≤g∧Grp g h v:=by
 cases v <;> first | exact .inl rfl | exact o.elim | skip
 obtain ⟨cs,g,h1,h2,h3,h4,h5,h6,h7⟩:=o
 exact .inr ⟨g,h4,cs,h1,h2,h3,h6,h7⟩
theorem Grp.slot {gs:List Nat} {g:Nat} {h:H} (wf:h.Wf) {v:AV} (a:Grp g h v) (hg:g∉gs) (hgs : ∀ x∈gs,∀ cs,h.get x≠some (.cells cs (some g))):Slot (Apart gs h) h v:=by
 cases v <;> first | exact a.elim | skip
 obtain ⟨cs,h1,h2,h3,h4,cs',h5⟩:=a
 refine ⟨⟨wf.ob _ _ h1,fun hm=>hgs _ hm _ h1,fun cs1 g1 e => ?_⟩,fun cs1 g1 e => ?_⟩
 · rw [h1] at e;cases e;exact hg
 · rw [h1] at e;cases e
   refine ⟨wf.ob _ _ h5,hg,fun cs2 g2 e2 => ?_⟩
   rw [h5] at e2;cases e2;exact hg

/-- a row that is its own group, and its cells -/
structure Box (r:Nat) (cs:List AV) (h:H):Prop where
 get:h.get r=some (.cells cs (some r))
 tip:h.tip r=r
 live:h.kill r≤r
theorem Box.new {h:H} (wf:h.Wf) (vs:List AV):Box h.n vs (h.new vs) :=
 ⟨aLj h vs,by rw [show (h.new vs).tip h.n=h.tip h.n from rfl,wf.tip_new],by rw [show (h.new vs).kill h.n=h.kill h.n from rfl,wf.kill_new];exact Nat.zero_le _⟩
theorem Box.lt {r:Nat} {cs:List AV} {h:H} (wf:h.Wf) (b:Box r cs h):r<h.n:=wf.ob _ _ b.get
theorem Box.apart {r:Nat} {cs:List AV} {h:H} (wf:h.Wf) (b:Box r cs h) {gs:List Nat} (hr:r∉gs):Apart gs h r :=
 ⟨b.lt wf,hr,fun cs' g e=>by rw [b.get] at e;cases e;exact hr⟩
theorem Box.keep {r:Nat} {cs:List AV} {h h':H} (b:Box r cs h) {K:Nat→Prop} (k:Keep K h h') (hr:K r):Box r cs h' :=
 ⟨by rw [k.get _ hr];exact b.get,by rw [k.tip _ hr];exact b.tip,by rw [k.kill _ hr];exact b.live⟩
theorem Box.keepA {r:Nat} {cs:List AV} {h h':H} (b:Box r cs h) (wf:h.Wf) {gs:List Nat} (k:KeepA gs h h') (hr:r∉gs):Box r cs h':=b.keep k (b.apart wf hr)
theorem Box.row {r:Nat} {cs:List AV} {h:H} (b:Box r cs h):h.row r=some cs:=by
 unfold H.row;rw [b.get];simp only;rw [if_pos b.live]
theorem Box.load {r:Nat} {cs:List AV} {h:H} (b:Box r cs h) (n i:Nat):loadA h false n (.ptr r i)=cs[i]? := by
 simp only [loadA,b.row,Bool.false_eq_true,if_false]
theorem Box.loadAgg {r:Nat} {cs:List AV} {h:H} (b:Box r cs h) {n:Nat} (hn:cs.length=n):loadA h true n (.ptr r 0)=some (.agg cs):=by
 simp only [loadA,b.row,if_true]
 rw [if_pos (by omega)]
 simp [← hn]
theorem aUJ {cs vs:List AV} (hl:vs.length=cs.length):splice cs 0 vs=vs:=by simp [splice,hl]
theorem Box.put {r:Nat} {cs:List AV} {h:H} (wf:h.Wf) (b:Box r cs h) {i n:Nat} {v:AV} (hn:v.cells.length=n) (h1:v.cells.all AV.one=true) (hi:i+n≤cs.length) :
 ∃ h',storeA h n (.ptr r i) v=some h'∧Box r (splice cs i v.cells) h'∧KeepA [r] h h':=by
 have hrn:=b.lt wf
 refine ⟨{ h with ob:=h.ob.set r (.cells (splice cs i v.cells) (some r)) },?_,⟨?_,b.tip,b.live⟩,?_⟩
 · simp only [storeA]
   rw [if_pos ⟨hn,h1⟩]
   simp only [H.put,b.get]
   rw [if_pos ⟨b.tip,by omega⟩,if_pos trivial]
 · show (h.ob.set r _).get r=_
   rw [Tr.get_set,if_pos rfl]
 · have hg : ∀ j,(h.ob.set r (.cells (splice cs i v.cells) (some r))).get j=if j=r then some (.cells (splice cs i v.cells) (some r)) else h.get j:=fun j=>Tr.get_set _ _ _ _
   refine ⟨fun w=>⟨w.gr,fun o cs' g e => ?_,fun o x e => ?_,w.kt,w.tl⟩,Nat.le_refl _,fun o ho => ?_,fun _ _=>rfl,fun _ _=>rfl⟩
   · rw [show ({ h with ob:=h.ob.set r (.cells (splice cs i v.cells) (some r)) }:H).get o=_ from hg o] at e
     split at e
     · rename_i e';subst e';cases e;exact ⟨Nat.le_refl _,Nat.le_of_eq b.tip.symm⟩
     · exact w.mem o cs' g e
   · rw [show ({ h with ob:=h.ob.set r (.cells (splice cs i v.cells) (some r)) }:H).get o=_ from hg o] at e
     split at e
     · rename_i e';subst e';exact hrn
     · exact w.ob o x e
   · rw [show ({ h with ob:=h.ob.set r (.cells (splice cs i v.cells) (some r)) }:H).get o=_ from hg o,if_neg]
     rintro rfl
     exact ho.2.1 (by simp)

/-- a group's first row -/
def Root (g:Nat) (h:H):Prop := ∃ cs,h.get g=some (.cells cs (some g))
theorem Box.root {r:Nat} {cs:List AV} {h:H} (b:Box r cs h):Root r h:=⟨cs,b.get⟩
theorem Grp.away {gs:List Nat} {g:Nat} {h:H} (wf:h.Wf) {v:AV} (a:Grp g h v) (hg:g∉gs) (hr : ∀ x∈gs,Root x h):Slot (Apart gs h) h v:=by
 refine a.slot wf hg fun x hx cs e => ?_
 obtain ⟨cs',e'⟩:=hr x hx
 rw [e] at e';cases e'
 exact hg hx


theorem Own.away {N:Nat} {gs:List Nat} {h:H} (wf:h.Wf) {v:AV} (o:Own N h v) (hg : ∀ x∈gs,x<N∧Root x h):Slot (Apart gs h) h v:=by
 rcases o.grp with rfl | ⟨g,hn,a⟩
 · trivial
 · exact a.away wf (fun hm=>by have:=(hg _ hm).1;omega) (fun x hx=>(hg x hx).2)
/-! ### texts, one a cell -/
abbrev aBU (l:List (List UInt8)):List AV:=l.map AV.str
abbrev Strs (h:H) (v:AV) (l:List (List UInt8)):Prop:=Sl h 1 v l.length (aBU l)
theorem Strs.at {h:H} {v:AV} {l:List (List UInt8)} (b:Strs h v l) {i:Nat} (hi:i<l.length) (k:IntKind) : ∃ p,aAJ 1 v (.int k (i:Int))=some p∧loadA h false 1 p=some (.str l[i]):=by
 obtain ⟨p,e1,e2⟩:=Sl.at b hi k
 refine ⟨p,e1,?_⟩
 rw [e2];simp [aBU,hi]
end Go.Proofs.YtdbmeidhlijopaaGreatDoor.Ev

/- Arguments of a row: slices of texts. -/
namespace Go.Proofs.YtdbmeidhlijopaaGreatDoor.Ev
open Go.ChangeShapes Go.WideShapes Go.RowKit
set_option linter.unusedVariables false
set_option linter.unusedSimpArgs false



end Go.Proofs.YtdbmeidhlijopaaGreatDoor.Ev

/- Texts cut and looked at, one byte as a text, results that stand in cells. -/
namespace Go.Proofs.YtdbmeidhlijopaaGreatDoor.Ev
set_option linter.unusedVariables false
set_option linter.unusedSimpArgs false
@[go_sem] theorem res_tc (s:S) (h:H) (t u n:Nat) (agg:Bool):aA7 [.tmp t,.cell u agg n] s h=(loadA h agg n (s u)).map fun v => .tup [s t,v]:=by
 simp only [aA7,aFY,aJo]
 cases loadA h agg n (s u) <;> rfl
@[go_sem] theorem res_c (s:S) (h:H) (u n:Nat) (agg:Bool):aA7 [.cell u agg n] s h=loadA h agg n (s u):=by
 simp only [aA7,aFY,aJo]
 cases loadA h agg n (s u) <;> rfl
theorem aXk {t:List UInt8} {i:Nat} (hi:i<t.length) (k:IntKind):aCC (.str t) (.int k (i:Int))=some (.int .u8 (t[i].toNat:Int)):=by
 simp only [aCC]
 rw [if_pos (by omega),Int.toNat_natCast,List.getElem?_eq_getElem hi]
 rfl
theorem aSC {t:List UInt8} {k:Nat} (hk:k≤t.length) (kd:IntKind):aBy none (some (.int kd (k:Int))) (.str t)=some (.str (t.take k)):=by
 simp only [aBy,aKk hk,Option.map_some,List.drop_zero,Nat.sub_zero]
theorem aEs {t:List UInt8} {k:Nat} (hk:k≤t.length) (kd:IntKind):aBy (some (.int kd (k:Int))) none (.str t)=some (.str (t.drop k)):=by
 simp only [aBy,aEw hk,Option.map_some]
 rw [List.take_of_length_le (by simp)]
theorem Box.putAll {r:Nat} {cs vs:List AV} {h:H} (wf:h.Wf) (b:Box r cs h) {n:Nat} (hn:vs.length=n) (h1:vs.all AV.one=true) (hi:n=cs.length) :
 ∃ h',storeA h n (.ptr r 0) (.agg vs)=some h'∧Box r vs h'∧KeepA [r] h h':=by
 obtain ⟨h',e,b',k⟩:=b.put wf (i:=0) (n:=n) (v := .agg vs) hn h1 (by omega)
 refine ⟨h',e,?_,k⟩
 rw [aUJ (by show vs.length=_;omega)] at b'
 exact b'
theorem wrapI {n:Nat} (h:n<9223372036854775808):IntKind.i64.wrap (n:Int)=(n:Int):=a0t (by have:=Int.natCast_nonneg n;omega) (by omega)
end Go.Proofs.YtdbmeidhlijopaaGreatDoor.Ev

/- Slices of one's own out of one stretch of time, appended to later: all that was made ahead of it or behind it stays. -/
namespace Go.Proofs.YtdbmeidhlijopaaGreatDoor.Ev
set_option linter.unusedVariables false
set_option linter.unusedSimpArgs false
/-- rows whose group was not made between these -/
def Mid (N M:Nat) (h:H):Nat→Prop:=fun j=>j<h.n ∧ ¬ (N≤j∧j<M) ∧ ∀ cs g,h.get j=some (.cells cs (some g)) → ¬ (N≤g∧g<M)
theorem Mid.old {N M:Nat} {h:H} (wf:h.Wf) {j:Nat} (hj:j<N) (hN:N≤h.n):Mid N M h j :=
 ⟨by omega,by omega,fun cs g e=>by have:=(wf.mem _ _ _ e).1;omega⟩
@[go_sem] theorem res_ct (s:S) (h:H) (t u n:Nat) (agg:Bool):aA7 [.cell u agg n,.tmp t] s h=(loadA h agg n (s u)).map fun v => .tup [v,s t]:=by
 simp only [aA7,aFY,aJo]
 cases loadA h agg n (s u) <;> rfl
end Go.Proofs.YtdbmeidhlijopaaGreatDoor.Ev

/- A struct of six cells among the arguments of a row. -/
namespace Go.Proofs.YtdbmeidhlijopaaGreatDoor.Ev
open Go.ChangeShapes Go.WideShapes Go.RowKit Go.Deep Go.Joins
set_option linter.unusedVariables false
set_option linter.unusedSimpArgs false
section
variable {H:Type} {enc:TypeId×Value→H} {P:Program} {w:World} {base:Nat} {spare:Nat→Bool} {held:Bool}
end
end Go.Proofs.YtdbmeidhlijopaaGreatDoor.Ev

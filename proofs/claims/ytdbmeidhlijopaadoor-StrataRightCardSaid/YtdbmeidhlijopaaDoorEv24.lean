/- More single operations, for symbolic runs. -/
import Derived.Test.YtdbmeidhlijopaaDoorEv19
import Derived.SliceStrings
import Derived.Lib.SmallJoins
namespace Go.Proofs.YtdbmeidhlijopaaDoor.Ev
set_option linter.unusedVariables false
set_option linter.unusedSimpArgs false
@[go_sem] theorem eq_bool (a b:Bool):eqA .bool (.bool a) (.bool b)=some (a==b):=id rfl
@[go_sem] theorem eq_slice_nils:eqA .slice .nils .nils=some true:=id rfl
@[go_sem] theorem eq_slice_nils' (o i l e:Nat):eqA .slice .nils (.slice o i l e)=some false:=id rfl
@[go_sem] theorem eq_slice_nils'' (o i l e:Nat):eqA .slice (.slice o i l e) .nils=some false:=id rfl
@[go_sem] theorem eq_iface_nili (t:Nat) (v:AV):eqA .iface .nili (.iface t v)=some false:=id rfl
@[go_sem] theorem eq_iface_nili' (t:Nat) (v:AV):eqA .iface (.iface t v) .nili=some false:=id rfl
@[go_sem] theorem eq_ptr_nilp:eqA .ptr .nilp .nilp=some true:=id rfl
@[go_sem] theorem eq_ptr_nilp' (o i:Nat):eqA .ptr .nilp (.ptr o i)=some false:=id rfl
@[go_sem] theorem eq_ptr_nilp'' (o i:Nat):eqA .ptr (.ptr o i) .nilp=some false:=id rfl
@[go_sem] theorem omap_some {α β:Type} (f:α→β) (x:α):Option.map f (some x)=some (f x):=id rfl
@[go_sem] theorem omap_none {α β:Type} (f:α→β):Option.map f none=none:=id rfl
@[go_sem] theorem lmap_cons {α β:Type} (f:α→β) (x:α) (l:List α):List.map f (x::l)=f x::List.map f l:=id rfl
@[go_sem] theorem lmap_nil {α β:Type} (f:α→β):List.map f [] = []:=id rfl
@[go_sem] theorem lapp_nil {α:Type} (l:List α):l ++ []=l:=List.append_nil l
@[go_sem] theorem nil_lapp {α:Type} (l:List α) : []++l=l:=id rfl
@[go_sem] theorem lget_zero {α:Type} (x:α) (l:List α):(x::l)[0]? = some x:=id rfl
@[go_sem] theorem lget_one {α:Type} (x y:α) (l:List α):(x::y::l)[1]? = some y:=id rfl
@[go_sem] theorem lget_two {α:Type} (x y z:α) (l:List α):(x::y::z::l)[2]? = some z:=id rfl
@[go_sem] theorem lget_three {α:Type} (x y z w:α) (l:List α):(x::y::z::w::l)[3]? = some w:=id rfl
@[go_sem] theorem avbool_inj (a b:Bool):(AV.bool a=AV.bool b)=(a=b):=by simp
/-! ### bytes: cut, and put together -/
theorem bounds_to {n k:Nat} (hk:k≤n) (kd:IntKind):bounds n none (some (.int kd (k:Int)))=some (0,k):=by
 simp only [bounds]
 rw [if_pos ⟨by omega,by omega⟩]
 simp
theorem bounds_from {n k:Nat} (hk:k≤n) (kd:IntKind):bounds n (some (.int kd (k:Int))) none=some (k,n):=by
 simp only [bounds]
 rw [if_pos ⟨by omega,by omega⟩]
 simp
theorem Bytes.keep {K:Nat→Prop} {h h':H} {v:AV} {s:List UInt8} (a:Bytes h v s) (k:Keep K h h') (sl:Slot K h v):Bytes h' v s:=Sl.keep a k sl
theorem Bytes.part {h:H} {v:AV} {s:List UInt8} (b:Bytes h v s) {lo hi:Nat} (h1:lo≤hi) (h2:hi≤s.length) (hlo hhi:Option AV) (hb:bounds s.length hlo hhi=some (lo,hi)) :
 ∃ v',sliceSA 1 hlo hhi v=some v'∧Bytes h v' ((s.drop lo).take (hi - lo))∧(∀ K,Slot K h v→Slot K h v'):=by
 obtain ⟨v',e,c,k⟩:=Sl.cut b h1 h2 hlo hhi hb
 refine ⟨v',e,?_,k⟩
 have hl:((s.drop lo).take (hi - lo)).length=hi - lo:=by simp;omega
 unfold Bytes
 rw [hl]
 have:byteCells ((s.drop lo).take (hi - lo))=((byteCells s).drop (lo*1)).take ((hi - lo)*1):=by simp [byteCells,List.map_take,List.map_drop]
 rw [this];exact c
theorem Bytes.take {h:H} {v:AV} {s:List UInt8} (b:Bytes h v s) {k:Nat} (hk:k≤s.length) (kd:IntKind) :
 ∃ v',sliceSA 1 none (some (.int kd (k:Int))) v=some v'∧Bytes h v' (s.take k)∧(∀ K,Slot K h v→Slot K h v'):=by
 have:=b.part (Nat.zero_le _) hk _ _ (bounds_to hk kd)
 simpa using this
theorem Bytes.drop {h:H} {v:AV} {s:List UInt8} (b:Bytes h v s) {k:Nat} (hk:k≤s.length) (kd:IntKind) :
 ∃ v',sliceSA 1 (some (.int kd (k:Int))) none v=some v'∧Bytes h v' (s.drop k)∧(∀ K,Slot K h v→Slot K h v'):=by
 have:=b.part hk (Nat.le_refl _) _ _ (bounds_from hk kd)
 rw [List.take_of_length_le (by simp)] at this
 exact this
theorem Bytes.nil (h:H):Bytes h .nils []:=Sl.nil h 1
theorem Own.nils (N:Nat) (h:H):Own N h .nils:=trivial
theorem Bytes.app {N:Nat} {h:H} (wf:h.Wf) (hN:N≤h.n) {v y:AV} {s t:List UInt8} (a:Bytes h v s) (o:Own N h v) (b:Bytes h y t) (hbig:s.length+t.length<4294967296) :
 ∃ v' h',appendA h 1 v y=some (v',h')∧Bytes h' v' (s++t)∧Own N h' v'∧Keep (Old N) h h':=by
 obtain ⟨v',h',e,sl,o',k⟩:=append_own wf hN a o b (byteCells_one _) hbig
 refine ⟨v',h',e,?_,o',k⟩
 unfold Bytes
 rw [List.length_append,byteCells_append]
 exact sl
end Go.Proofs.YtdbmeidhlijopaaDoor.Ev

/- Rows that a function may change, and all others: groups of rows, boxes, slices of one's own. -/
namespace Go.Proofs.YtdbmeidhlijopaaDoor.Ev
set_option linter.unusedVariables false
set_option linter.unusedSimpArgs false

/-- the rows that were there, but for those of these groups -/
def Apart (gs:List Nat) (h:H):Nat→Prop:=fun j=>j<h.n∧j∉gs ∧ ∀ cs g,h.get j=some (.cells cs (some g))→g∉gs
theorem apart_none {h:H} {j:Nat}:Apart [] h j↔j<h.n:=by simp [Apart]
theorem Apart.of_old {gs:List Nat} {h:H} (wf:h.Wf) {N:Nat} (hN:N≤h.n) (hg : ∀ g∈gs,N≤g) {j:Nat} (hj:j<N):Apart gs h j :=
 ⟨by omega,fun hm=>by have:=hg _ hm;omega,fun cs g e hm=>by have:=hg _ hm;have:=(wf.mem _ _ _ e).1;omega⟩
/-- as a frame over all that was there -/
abbrev KeepA (gs:List Nat) (h h':H):Prop:=Keep (Apart gs h) h h'
theorem KeepA.refl (gs:List Nat) (h:H):KeepA gs h h:=Keep.refl _ h
theorem KeepA.of {gs:List Nat} {h h':H} (k:Keep (Old h.n) h h'):KeepA gs h h':=k.weaken fun o ho=>ho.1
theorem KeepA.old {gs:List Nat} {h h':H} (k:KeepA gs h h') (wf:h.Wf) {N:Nat} (hN:N≤h.n) (hg : ∀ g∈gs,N≤g):Keep (Old N) h h':=k.weaken fun o ho=>Apart.of_old wf hN hg ho
theorem KeepA.none {h h':H} (k:KeepA [] h h'):Keep (Old h.n) h h':=k.weaken fun o ho=>apart_none.2 ho
theorem KeepA.mono {gs gs':List Nat} {h h':H} (k:KeepA gs h h') (hs : ∀ g∈gs,g∈gs'):KeepA gs' h h':=k.weaken fun o ho=>⟨ho.1,fun hm=>ho.2.1 (hs _ hm),fun cs g e hm=>ho.2.2 cs g e (hs _ hm)⟩
theorem KeepA.then {gs gs':List Nat} {h h1 h2:H} (wf:h.Wf) (a:KeepA gs h h1) (b:KeepA gs' h1 h2) (hs : ∀ g∈gs',g∈gs∨h.n≤g):KeepA gs h h2:=by
 refine a.trans (b.weaken fun o ho => ?_)
 refine ⟨Nat.lt_of_lt_of_le ho.1 a.n,fun hm => ?_,fun cs g e hm => ?_⟩
 · rcases hs _ hm with x | x
   · exact ho.2.1 x
   · have:=ho.1;omega
 · rw [a.get _ ho] at e
   rcases hs _ hm with x | x
   · exact ho.2.2 _ _ e x
   · have:=ho.1;have:=(wf.mem _ _ _ e).1;omega
theorem KeepA.new {gs:List Nat} (h:H) (vs:List AV):KeepA gs h (h.new vs):=KeepA.of (Keep.new (Nat.le_refl _) vs)
theorem Slot.apart {gs:List Nat} {h:H} (wf:h.Wf) {N:Nat} (hN:N≤h.n) (hg : ∀ g∈gs,N≤g) {v:AV} (s:Slot (Old N) h v):Slot (Apart gs h) h v:=s.mono fun o ho=>Apart.of_old wf hN hg ho
theorem Slot.old {gs:List Nat} {h:H} {v:AV} (s:Slot (Apart gs h) h v):Slot (Old h.n) h v:=s.mono fun o ho=>ho.1
theorem Slot.keepA {gs:List Nat} {h h':H} {v:AV} (s:Slot (Apart gs h) h v) (k:KeepA gs h h'):Slot (Apart gs h') h' v :=
 s.keep k fun o ho=>⟨Nat.lt_of_lt_of_le ho.1 k.n,ho.2.1,fun cs g e=>ho.2.2 cs g (by rw [← k.get _ ho];exact e)⟩
/-- as another frame's slot, that keeps away from it -/
theorem Slot.keepN {gs gs':List Nat} {h h':H} (wf:h.Wf) {v:AV} (s:Slot (Apart gs h) h v) (k:KeepA gs' h h') (s':Slot (Apart gs' h) h v):Slot (Apart gs h') h' v:=by
 cases v <;> first | trivial | skip
 all_goals
  obtain ⟨a1,a2⟩:=s
  obtain ⟨b1,b2⟩:=s'
  have up : ∀ o,Apart gs h o→Apart gs' h o→Apart gs h' o:=fun o x y=>⟨Nat.lt_of_lt_of_le x.1 k.n,x.2.1,fun cs g e=>x.2.2 cs g (by rw [← k.get _ y];exact e)⟩
  exact ⟨up _ a1 b1,fun cs g e=>by rw [k.get _ b1] at e;exact up _ (a2 cs g e) (b2 cs g e)⟩

/-- a slice of one's own, with its group -/
def Grp (g:Nat) (h:H):AV→Prop
 | .slice o i len es => ∃ cs,h.get o=some (.cells cs (some g))∧h.tip g=o∧h.kill g≤o∧i+len*es≤cs.length ∧ ∃ cs',h.get g=some (.cells cs' (some g))
 | _=>False
theorem Own.grp {N:Nat} {h:H} {v:AV} (o:Own N h v):v = .nils ∨ ∃ g,N≤g∧Grp g h v:=by
 cases v <;> first | exact .inl rfl | exact o.elim | skip
 obtain ⟨cs,g,h1,h2,h3,h4,h5,h6,h7⟩:=o
 exact .inr ⟨g,h4,cs,h1,h2,h3,h6,h7⟩
theorem Grp.own {g:Nat} {h:H} (wf:h.Wf) {v:AV} (a:Grp g h v) {N:Nat} (hN:N≤g):Own N h v:=by
 cases v <;> first | exact a.elim | skip
 obtain ⟨cs,h1,h2,h3,h4,h5⟩:=a
 exact ⟨cs,g,h1,h2,h3,hN,Nat.le_trans hN (wf.mem _ _ _ h1).1,h4,h5⟩
theorem Grp.lt {g:Nat} {h:H} (wf:h.Wf) {v:AV} (a:Grp g h v):g<h.n:=by
 cases v <;> first | exact a.elim | skip
 obtain ⟨cs,h1,h2,h3,h4,cs',h5⟩:=a
 exact wf.ob _ _ h5
theorem Grp.slot {gs:List Nat} {g:Nat} {h:H} (wf:h.Wf) {v:AV} (a:Grp g h v) (hg:g∉gs) (hgs : ∀ x∈gs,∀ cs,h.get x≠some (.cells cs (some g))):Slot (Apart gs h) h v:=by
 cases v <;> first | exact a.elim | skip
 obtain ⟨cs,h1,h2,h3,h4,cs',h5⟩:=a
 refine ⟨⟨wf.ob _ _ h1,fun hm=>hgs _ hm _ h1,fun cs1 g1 e => ?_⟩,fun cs1 g1 e => ?_⟩
 · rw [h1] at e;cases e;exact hg
 · rw [h1] at e;cases e
   refine ⟨wf.ob _ _ h5,hg,fun cs2 g2 e2 => ?_⟩
   rw [h5] at e2;cases e2;exact hg
theorem Grp.keep {g:Nat} {K:Nat→Prop} {h h':H} {v:AV} (a:Grp g h v) (s:Slot K h v) (k:Keep K h h'):Grp g h' v:=by
 cases v <;> first | exact a | skip
 obtain ⟨cs,h1,h2,h3,h4,cs',h5⟩:=a
 have kg:=s.2 cs g h1
 exact ⟨cs,by rw [k.get _ s.1];exact h1,by rw [k.tip _ kg];exact h2,by rw [k.kill _ kg];exact h3,h4,cs',by rw [k.get _ kg];exact h5⟩

/-- a row that is its own group, and its cells -/
structure Box (r:Nat) (cs:List AV) (h:H):Prop where
 get:h.get r=some (.cells cs (some r))
 tip:h.tip r=r
 live:h.kill r≤r
theorem Box.new {h:H} (wf:h.Wf) (vs:List AV):Box h.n vs (h.new vs) :=
 ⟨get_new h vs,by rw [show (h.new vs).tip h.n=h.tip h.n from rfl,wf.tip_new],by rw [show (h.new vs).kill h.n=h.kill h.n from rfl,wf.kill_new];exact Nat.zero_le _⟩
theorem Box.lt {r:Nat} {cs:List AV} {h:H} (wf:h.Wf) (b:Box r cs h):r<h.n:=wf.ob _ _ b.get
theorem Box.apart {r:Nat} {cs:List AV} {h:H} (wf:h.Wf) (b:Box r cs h) {gs:List Nat} (hr:r∉gs):Apart gs h r :=
 ⟨b.lt wf,hr,fun cs' g e=>by rw [b.get] at e;cases e;exact hr⟩
theorem Box.keep {r:Nat} {cs:List AV} {h h':H} (b:Box r cs h) {K:Nat→Prop} (k:Keep K h h') (hr:K r):Box r cs h' :=
 ⟨by rw [k.get _ hr];exact b.get,by rw [k.tip _ hr];exact b.tip,by rw [k.kill _ hr];exact b.live⟩
theorem Box.keepA {r:Nat} {cs:List AV} {h h':H} (b:Box r cs h) (wf:h.Wf) {gs:List Nat} (k:KeepA gs h h') (hr:r∉gs):Box r cs h':=b.keep k (b.apart wf hr)
theorem Box.row {r:Nat} {cs:List AV} {h:H} (b:Box r cs h):h.row r=some cs:=by
 unfold H.row;rw [b.get];simp only;rw [if_pos b.live]
theorem Box.load {r:Nat} {cs:List AV} {h:H} (b:Box r cs h) (n i:Nat):loadA h false n (.ptr r i)=cs[i]? := by
 simp only [loadA,b.row,Bool.false_eq_true,if_false]
theorem Box.loadAgg {r:Nat} {cs:List AV} {h:H} (b:Box r cs h) {n:Nat} (hn:cs.length=n):loadA h true n (.ptr r 0)=some (.agg cs):=by
 simp only [loadA,b.row,if_true]
 rw [if_pos (by omega)]
 simp [← hn]
theorem splice_all {cs vs:List AV} (hl:vs.length=cs.length):splice cs 0 vs=vs:=by simp [splice,hl]
theorem Box.put {r:Nat} {cs:List AV} {h:H} (wf:h.Wf) (b:Box r cs h) {i n:Nat} {v:AV} (hn:v.cells.length=n) (h1:v.cells.all AV.one=true) (hi:i+n≤cs.length) :
 ∃ h',storeA h n (.ptr r i) v=some h'∧Box r (splice cs i v.cells) h'∧KeepA [r] h h':=by
 have hrn:=b.lt wf
 refine ⟨{ h with ob:=h.ob.set r (.cells (splice cs i v.cells) (some r)) },?_,⟨?_,b.tip,b.live⟩,?_⟩
 · simp only [storeA]
   rw [if_pos ⟨hn,h1⟩]
   simp only [H.put,b.get]
   rw [if_pos ⟨b.tip,by omega⟩,if_pos trivial]
 · show (h.ob.set r _).get r=_
   rw [Tr.get_set,if_pos rfl]
 · have hg : ∀ j,(h.ob.set r (.cells (splice cs i v.cells) (some r))).get j=if j=r then some (.cells (splice cs i v.cells) (some r)) else h.get j:=fun j=>Tr.get_set _ _ _ _
   refine ⟨fun w=>⟨w.gr,fun o cs' g e => ?_,fun o x e => ?_,w.kt,w.tl⟩,Nat.le_refl _,fun o ho => ?_,fun _ _=>rfl,fun _ _=>rfl⟩
   · rw [show ({ h with ob:=h.ob.set r (.cells (splice cs i v.cells) (some r)) }:H).get o=_ from hg o] at e
     split at e
     · rename_i e';subst e';cases e;exact ⟨Nat.le_refl _,Nat.le_of_eq b.tip.symm⟩
     · exact w.mem o cs' g e
   · rw [show ({ h with ob:=h.ob.set r (.cells (splice cs i v.cells) (some r)) }:H).get o=_ from hg o] at e
     split at e
     · rename_i e';subst e';exact hrn
     · exact w.ob o x e
   · rw [show ({ h with ob:=h.ob.set r (.cells (splice cs i v.cells) (some r)) }:H).get o=_ from hg o,if_neg]
     rintro rfl
     exact ho.2.1 (by simp)

/-- a group's first row -/
def Root (g:Nat) (h:H):Prop := ∃ cs,h.get g=some (.cells cs (some g))
theorem Box.root {r:Nat} {cs:List AV} {h:H} (b:Box r cs h):Root r h:=⟨cs,b.get⟩
theorem Grp.root {g:Nat} {h:H} {v:AV} (a:Grp g h v):Root g h:=by
 cases v <;> first | exact a.elim | skip
 obtain ⟨cs,h1,h2,h3,h4,h5⟩:=a
 exact h5
theorem Grp.away {gs:List Nat} {g:Nat} {h:H} (wf:h.Wf) {v:AV} (a:Grp g h v) (hg:g∉gs) (hr : ∀ x∈gs,Root x h):Slot (Apart gs h) h v:=by
 refine a.slot wf hg fun x hx cs e => ?_
 obtain ⟨cs',e'⟩:=hr x hx
 rw [e] at e';cases e'
 exact hg hx
theorem Root.keep {g:Nat} {h h':H} (a:Root g h) {K:Nat→Prop} (k:Keep K h h') (hg:K g):Root g h':=by
 obtain ⟨cs,e⟩:=a
 exact ⟨cs,by rw [k.get _ hg];exact e⟩
theorem Root.apart {g:Nat} {h:H} (wf:h.Wf) (a:Root g h) {gs:List Nat} (hg:g∉gs):Apart gs h g:=by
 obtain ⟨cs,e⟩:=a
 exact ⟨wf.ob _ _ e,hg,fun cs' g' e'=>by rw [e] at e';cases e';exact hg⟩


theorem Own.away {N:Nat} {gs:List Nat} {h:H} (wf:h.Wf) {v:AV} (o:Own N h v) (hg : ∀ x∈gs,x<N∧Root x h):Slot (Apart gs h) h v:=by
 rcases o.grp with rfl | ⟨g,hn,a⟩
 · trivial
 · exact a.away wf (fun hm=>by have:=(hg _ hm).1;omega) (fun x hx=>(hg x hx).2)
/-! ### texts, one a cell -/
abbrev strCells (l:List (List UInt8)):List AV:=l.map AV.str
abbrev Strs (h:H) (v:AV) (l:List (List UInt8)):Prop:=Sl h 1 v l.length (strCells l)
theorem Strs.keep {K:Nat→Prop} {h h':H} {v:AV} {s:List (List UInt8)} (a:Strs h v s) (k:Keep K h h') (sl:Slot K h v):Strs h' v s:=Sl.keep a k sl
theorem Strs.at {h:H} {v:AV} {l:List (List UInt8)} (b:Strs h v l) {i:Nat} (hi:i<l.length) (k:IntKind) : ∃ p,indexAddrA 1 v (.int k (i:Int))=some p∧loadA h false 1 p=some (.str l[i]):=by
 obtain ⟨p,e1,e2⟩:=Sl.at b hi k
 refine ⟨p,e1,?_⟩
 rw [e2];simp [strCells,hi]
theorem strCells_one (l:List (List UInt8)):(strCells l).all AV.one=true:=by simp [strCells,AV.one]
theorem Strs.one {h:H} (wf:h.Wf) (s:List UInt8):Strs (h.new [.str s]) (.slice h.n 0 1 1) [s]:=Sl.new (n:=1) (es:=1) wf (vs := [.str s]) (by simp)
theorem Strs.nil (h:H):Strs h .nils []:=Sl.nil h 1
theorem Strs.app {N:Nat} {h:H} (wf:h.Wf) (hN:N≤h.n) {v y:AV} {s t:List (List UInt8)} (a:Strs h v s) (o:Own N h v) (b:Strs h y t) (hbig:s.length+t.length<4294967296) :
 ∃ v' h',appendA h 1 v y=some (v',h')∧Strs h' v' (s++t)∧Own N h' v'∧Keep (Old N) h h':=by
 obtain ⟨v',h',e,sl,o',k⟩:=append_own wf hN a o b (strCells_one _) hbig
 refine ⟨v',h',e,?_,o',k⟩
 unfold Strs
 rw [List.length_append,strCells,List.map_append]
 exact sl
/-- numbers, one a cell -/
abbrev U64s (h:H) (v:AV) (l:List Nat):Prop:=Sl h 1 v l.length (l.map fun x=>AV.int .u64 (x:Nat))
theorem U64s.at {h:H} {v:AV} {l:List Nat} (b:U64s h v l) {i:Nat} (hi:i<l.length) (k:IntKind) : ∃ p,indexAddrA 1 v (.int k (i:Int))=some p∧loadA h false 1 p=some (.int .u64 (l[i]:Nat)):=by
 obtain ⟨p,e1,e2⟩:=Sl.at b hi k
 refine ⟨p,e1,?_⟩
 rw [e2];simp [hi]
end Go.Proofs.YtdbmeidhlijopaaDoor.Ev

/- Arguments of a row: slices of texts. -/
namespace Go.Proofs.YtdbmeidhlijopaaDoor.Ev
open Go.ChangeShapes Go.WideShapes Go.RowKit
set_option linter.unusedVariables false
set_option linter.unusedSimpArgs false

def StrRow (W:World) (a:Option Addr) (len cap:Nat) (zs:List ByteArray):Prop :=
 (a=none∧len=0∧cap=0∧zs = []) ∨
 ∃ x,a=some x∧x.block<W.heap.size∧len≤cap∧cap≤maxLen∧zs.length=cap∧(∀ i,i<zs.length→W.cell? (x.add i)=some (.string (zs.getD i ByteArray.empty))) ∧ ∀ s∈zs,s.size≤maxLen
abbrev bytesL (s:ByteArray):List UInt8:=s.data.toList
theorem StrRow.size {W:World} {a:Option Addr} {len cap:Nat} {zs:List ByteArray} (w:StrRow W a len cap zs) : ∀ s∈zs,(bytesL s).length≤maxLen:=by
 rcases w with ⟨_,_,_,rfl⟩ | ⟨x,_,_,_,_,_,_,h⟩
 · intro n hn;cases hn
 · intro s hs
   have:=h s hs
   rw [Array.length_toList]
   exact this
theorem StrRow.len {W:World} {a:Option Addr} {len cap:Nat} {zs:List ByteArray} (w:StrRow W a len cap zs):len≤zs.length:=by
 rcases w with ⟨_,h,_,rfl⟩ | ⟨x,_,_,h,_,h2,_,_⟩
 · rw [h];exact Nat.zero_le _
 · omega


end Go.Proofs.YtdbmeidhlijopaaDoor.Ev

/- Texts cut and looked at, one byte as a text, results that stand in cells. -/
namespace Go.Proofs.YtdbmeidhlijopaaDoor.Ev
set_option linter.unusedVariables false
set_option linter.unusedSimpArgs false
@[go_sem] theorem res_tc (s:S) (h:H) (t u n:Nat) (agg:Bool):resultsA [.tmp t,.cell u agg n] s h=(loadA h agg n (s u)).map fun v => .tup [s t,v]:=by
 simp only [resultsA,resultsL,result1]
 cases loadA h agg n (s u) <;> rfl
@[go_sem] theorem res_c (s:S) (h:H) (u n:Nat) (agg:Bool):resultsA [.cell u agg n] s h=loadA h agg n (s u):=by
 simp only [resultsA,resultsL,result1]
 cases loadA h agg n (s u) <;> rfl
theorem indexStr_at {t:List UInt8} {i:Nat} (hi:i<t.length) (k:IntKind):indexStrA (.str t) (.int k (i:Int))=some (.int .u8 (t[i].toNat:Int)):=by
 simp only [indexStrA]
 rw [if_pos (by omega),Int.toNat_natCast,List.getElem?_eq_getElem hi]
 rfl
theorem sliceT_to {t:List UInt8} {k:Nat} (hk:k≤t.length) (kd:IntKind):sliceTA none (some (.int kd (k:Int))) (.str t)=some (.str (t.take k)):=by
 simp only [sliceTA,bounds_to hk,Option.map_some,List.drop_zero,Nat.sub_zero]
theorem sliceT_from {t:List UInt8} {k:Nat} (hk:k≤t.length) (kd:IntKind):sliceTA (some (.int kd (k:Int))) none (.str t)=some (.str (t.drop k)):=by
 simp only [sliceTA,bounds_from hk,Option.map_some]
 rw [List.take_of_length_le (by simp)]
theorem Box.putAll {r:Nat} {cs vs:List AV} {h:H} (wf:h.Wf) (b:Box r cs h) {n:Nat} (hn:vs.length=n) (h1:vs.all AV.one=true) (hi:n=cs.length) :
 ∃ h',storeA h n (.ptr r 0) (.agg vs)=some h'∧Box r vs h'∧KeepA [r] h h':=by
 obtain ⟨h',e,b',k⟩:=b.put wf (i:=0) (n:=n) (v := .agg vs) hn h1 (by omega)
 refine ⟨h',e,?_,k⟩
 rw [splice_all (by show vs.length=_;omega)] at b'
 exact b'
theorem KeepA.newbox {h h':H} {r N:Nat} (k:KeepA [r] h h') (wf:h.Wf) (hN:N≤h.n) (hr:N≤r):Keep (Old N) h h':=k.old wf hN (by simpa using hr)
theorem wrapI {n:Nat} (h:n<9223372036854775808):IntKind.i64.wrap (n:Int)=(n:Int):=wrap_i64 (by have:=Int.natCast_nonneg n;omega) (by omega)
end Go.Proofs.YtdbmeidhlijopaaDoor.Ev

/- Slices of one's own out of one stretch of time, appended to later: all that was made ahead of it or behind it stays. -/
namespace Go.Proofs.YtdbmeidhlijopaaDoor.Ev
set_option linter.unusedVariables false
set_option linter.unusedSimpArgs false
/-- rows whose group was not made between these -/
def Mid (N M:Nat) (h:H):Nat→Prop:=fun j=>j<h.n ∧ ¬ (N≤j∧j<M) ∧ ∀ cs g,h.get j=some (.cells cs (some g)) → ¬ (N≤g∧g<M)
structure OwnS (N M:Nat) (h:H) (v:AV):Prop where
 own:v = .nils ∨ ∃ g,N≤g∧g<M∧Grp g h v
 slot:Slot (Old M) h v
theorem OwnS.keep {N M:Nat} {h h':H} {v:AV} (o:OwnS N M h v) (k:Keep (Old M) h h'):OwnS N M h' v:=by
 refine ⟨?_,o.slot.keep k fun o ho=>ho⟩
 rcases o.own with rfl | ⟨g,h1,h2,a⟩
 · exact .inl rfl
 · exact .inr ⟨g,h1,h2,a.keep o.slot k⟩
theorem Mid.old {N M:Nat} {h:H} (wf:h.Wf) {j:Nat} (hj:j<N) (hN:N≤h.n):Mid N M h j :=
 ⟨by omega,by omega,fun cs g e=>by have:=(wf.mem _ _ _ e).1;omega⟩
theorem Box.strs {r:Nat} {s:List UInt8} {h:H} (b:Box r [.str s] h):Strs h (.slice r 0 1 1) [s]:=by
 refine ⟨rfl,?_⟩
 simp only [H.firstCells,b.row]
 rfl
theorem Box.slot {r:Nat} {cs:List AV} {h:H} (wf:h.Wf) (b:Box r cs h) (i len es:Nat):Slot (Old h.n) h (.slice r i len es) :=
 ⟨b.lt wf,fun cs' g e=>by rw [b.get] at e;cases e;exact b.lt wf⟩
@[go_sem] theorem res_ct (s:S) (h:H) (t u n:Nat) (agg:Bool):resultsA [.cell u agg n,.tmp t] s h=(loadA h agg n (s u)).map fun v => .tup [v,s t]:=by
 simp only [resultsA,resultsL,result1]
 cases loadA h agg n (s u) <;> rfl
theorem Box.bytes {r:Nat} {t:List UInt8} {h:H} (b:Box r (byteCells t) h):Bytes h (.slice r 0 t.length 1) t:=by
 refine ⟨rfl,?_⟩
 simp only [H.firstCells,b.row]
 rw [if_pos ⟨trivial,Nat.le_refl _⟩,if_pos (by simp [byteCells])]
 simp only [List.drop_zero,Nat.mul_one]
 rw [List.take_of_length_le (by simp [byteCells])]
end Go.Proofs.YtdbmeidhlijopaaDoor.Ev

/- A struct of six cells among the arguments of a row. -/
namespace Go.Proofs.YtdbmeidhlijopaaDoor.Ev
open Go.ChangeShapes Go.WideShapes Go.RowKit Go.Deep Go.Joins
set_option linter.unusedVariables false
set_option linter.unusedSimpArgs false
section
variable {H:Type} {enc:TypeId×Value→H} {P:Program} {w:World} {base:Nat} {spare:Nat→Bool} {held:Bool}
end
end Go.Proofs.YtdbmeidhlijopaaDoor.Ev

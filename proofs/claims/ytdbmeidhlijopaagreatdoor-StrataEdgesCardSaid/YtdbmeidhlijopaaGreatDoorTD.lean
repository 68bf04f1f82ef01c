/- Data in memory: lists of records that hold slices; lists that grow. -/
import Derived.Test.YtdbmeidhlijopaaGreatDoorTBase
import Derived.Test.YtdbmeidhlijopaaGreatDoorEvL2
namespace Go.Proofs.YtdbmeidhlijopaaGreatDoor.Ev
set_option linter.unusedVariables false
set_option linter.unusedSimpArgs false
/-- what is read stays as it was -/
structure RK (K:Nat→Prop) (h h':H):Prop where
 wf:h.Wf→h'.Wf
 n:h.n≤h'.n
 get : ∀ o,K o→h'.get o=h.get o
 kill : ∀ g,K g→h'.kill g=h.kill g
theorem Keep.rk {K:Nat→Prop} {h h':H} (k:Keep K h h'):RK K h h':=⟨k.wf,k.n,k.get,k.kill⟩
theorem RK.refl (K:Nat→Prop) (h:H):RK K h h:=(Keep.refl K h).rk
theorem RK.weaken {K K':Nat→Prop} {h h':H} (k:RK K h h') (hk : ∀ o,K' o→K o):RK K' h h':=⟨k.wf,k.n,fun o q=>k.get o (hk o q),fun o q=>k.kill o (hk o q)⟩
theorem RK.trans {K:Nat→Prop} {h h1 h2:H} (a:RK K h h1) (b:RK K h1 h2):RK K h h2 :=
 ⟨fun w=>b.wf (a.wf w),Nat.le_trans a.n b.n,fun o k=>(b.get o k).trans (a.get o k),fun o k=>(b.kill o k).trans (a.kill o k)⟩
theorem RK.row {K:Nat→Prop} {h h':H} (k:RK K h h') {o:Nat} (ho:K o) (hg : ∀ cs g,h.get o=some (.cells cs (some g))→K g):h'.row o=h.row o:=by
 unfold H.row
 rw [k.get o ho]
 cases hx:h.get o with
 | none=>rfl
 | some x =>
  cases x with
  | other=>rfl
  | loop L=>rfl
  | mem X=>rfl
  | glob g v=>rfl
  | cells cs g =>
   cases g with
   | none=>rfl
   | some g=>simp only;rw [k.kill g (hg cs g hx)]
theorem Sl.rk {K:Nat→Prop} {h h':H} {es n:Nat} {v:AV} {cs:List AV} (a:Sl h es v n cs) (k:RK K h h') (s:Slot K h v):Sl h' es v n cs:=by
 refine ⟨a.len,?_⟩
 rw [← a.cells]
 cases v <;> first | rfl | skip
 simp only [H.firstCells]
 rw [k.row s.1 s.2]
/-- data that were made behind the first N objects -/
def Rd (N:Nat) (h:H):AV→Prop
 | .slice o _ _ _ | .ptr o _=>(N≤o∧o<h.n) ∧ ∀ cs g,h.get o=some (.cells cs (some g))→N≤g∧g<h.n∧Root g h
 | _=>True
theorem Rd.less {N N':Nat} {h:H} {v:AV} (a:Rd N h v) (hn:N'≤N):Rd N' h v:=by
 cases v <;> first | trivial | exact ⟨⟨Nat.le_trans hn a.1.1,a.1.2⟩,fun cs g e=>⟨Nat.le_trans hn (a.2 cs g e).1,(a.2 cs g e).2⟩⟩
theorem Rd.slotA {N:Nat} {h:H} {v:AV} (a:Rd N h v) {gs:List Nat} (hg : ∀ g∈gs,g<N):Slot (Apart gs h) h v:=by
 have hn : ∀ g,N≤g→g∉gs:=fun g h1 h2=>by have:=hg g h2;omega
 cases v <;> first | trivial | skip
 all_goals
  refine ⟨⟨a.1.2,hn _ a.1.1,fun cs g e=>hn _ (a.2 cs g e).1⟩,fun cs g e => ?_⟩
  obtain ⟨h1,h2,cs',h3⟩:=a.2 cs g e
  refine ⟨h2,hn _ h1,fun cs2 g2 e2 => ?_⟩
  rw [h3] at e2;cases e2;exact hn _ h1
theorem Rd.slotNew {N:Nat} {h:H} {v:AV} (a:Rd N h v) {gs:List Nat} (hg : ∀ g∈gs,g<N∨h.n≤g):Slot (Apart gs h) h v:=by
 have hn : ∀ g,N≤g→g<h.n→g∉gs:=fun g h1 h2 h3=>by have:=hg g h3;omega
 cases v <;> first | trivial | skip
 all_goals
  refine ⟨⟨a.1.2,hn _ a.1.1 a.1.2,fun cs g e=>hn _ (a.2 cs g e).1 (a.2 cs g e).2.1⟩,fun cs g e => ?_⟩
  obtain ⟨h1,h2,cs',h3⟩:=a.2 cs g e
  refine ⟨h2,hn _ h1 h2,fun cs2 g2 e2 => ?_⟩
  rw [h3] at e2;cases e2;exact hn _ h1 h2
theorem Rd.rk {N:Nat} {h h':H} {v:AV} (a:Rd N h v) {gs:List Nat} (hg : ∀ g∈gs,g<N) (k:RK (Apart gs h) h h'):Rd N h' v:=by
 have hs:=a.slotA hg
 have hn:=k.n
 cases v <;> first | trivial | skip
 all_goals
  refine ⟨⟨a.1.1,by have:=a.1.2;omega⟩,fun cs g e => ?_⟩
  rw [k.get _ hs.1] at e
  obtain ⟨h1,h2,cs',h3⟩:=a.2 cs g e
  refine ⟨h1,by omega,cs',?_⟩
  rw [k.get _ (hs.2 cs g e)];exact h3
theorem Apart.rk {gs:List Nat} {h h1:H} (k:RK (Apart gs h) h h1) {j:Nat} (a:Apart gs h j):Apart gs h1 j:=⟨Nat.lt_of_lt_of_le a.1 k.n,a.2.1,fun cs g e=>a.2.2 cs g (by rw [← k.get _ a];exact e)⟩
theorem RK.then {gs:List Nat} {h h1 h2:H} (a:RK (Apart gs h) h h1) (b:RK (Apart gs h1) h1 h2):RK (Apart gs h) h h2:=a.trans (b.weaken fun o ho=>Apart.rk a ho)
theorem RK.apart {gs:List Nat} {h h':H} (k:RK (Old h.n) h h'):RK (Apart gs h) h h':=k.weaken fun o ho=>ho.1
/-- a list of records -/
def IsL {α:Type} (N es:Nat) (P:H→List AV→α→Prop) (h:H) (v:AV) (l:List α):Prop :=
 Rd N h v ∧ ∃ css:List (List AV),Sl h es v l.length css.flatten∧css.length=l.length∧(∀ cs∈css,cs.length=es) ∧ ∀ i (h1:i<css.length) (h2:i<l.length),P h css[i] l[i]
theorem IsL.nil {α:Type} (N es:Nat) (P:H→List AV→α→Prop) (h:H):IsL N es P h .nils []:=⟨trivial,[],Sl.nil h es,rfl,by simp,fun i h1 _=>absurd h1 (by simp)⟩
theorem IsL.mono {α:Type} {N es N':Nat} {P P':H→List AV→α→Prop} {h:H} {v:AV} {l:List α} (a:IsL N es P h v l) (hN:N'≤N) (hp : ∀ cs x,P h cs x→P' h cs x):IsL N' es P' h v l:=by
 obtain ⟨r,css,h1,h2,h3,h4⟩:=a
 exact ⟨r.less hN,css,h1,h2,h3,fun i q1 q2=>hp _ _ (h4 i q1 q2)⟩
theorem IsL.rk {α:Type} {N es:Nat} {P:H→List AV→α→Prop} {h h':H} {v:AV} {l:List α} (a:IsL N es P h v l) {gs:List Nat} (hg : ∀ g∈gs,g<N) (k:RK (Apart gs h) h h') (hp : ∀ cs x,P h cs x→P h' cs x):IsL N es P h' v l:=by
 obtain ⟨r,css,h1,h2,h3,h4⟩:=a
 exact ⟨r.rk hg k,css,h1.rk k (r.slotA hg),h2,h3,fun i q1 q2=>hp _ _ (h4 i q1 q2)⟩
theorem IsL.at {α:Type} {N es:Nat} {P:H→List AV→α→Prop} {h:H} {v:AV} {l:List α} (a:IsL N es P h v l) {i:Nat} (hi:i<l.length) (hes:0<es) (kd:IntKind) :
 ∃ o j cs,aAJ es v (.int kd (i:Int))=some (.ptr o j)∧cs.length=es∧P h cs l[i]∧(∀ k,k<es→loadA h false 1 (.ptr o (j+k))=cs[k]?)∧loadA h true es (.ptr o j)=some (.agg cs):=by
 obtain ⟨r,css,h1,h2,h3,h4⟩:=a
 have hi':i<css.length:=by omega
 rw [← h2,show css.flatten=css.flatMap (fun x=>x) by rw [List.flatMap_id']] at h1
 obtain ⟨o,j,e1,e2,e3⟩:=Sl.elem h1 h3 hi' hes kd
 exact ⟨o,j,css[i],e1,h3 _ (List.getElem_mem _),h4 i hi' hi,e2,e3⟩
/-- .. as it is read later -/
theorem IsL.atK {α:Type} {N es:Nat} {P:H→List AV→α→Prop} {h g:H} {v:AV} {l:List α} (a:IsL N es P h v l) (k:Keep (Old h.n) h g) {i:Nat} (hi:i<l.length) (hes:0<es) (kd:IntKind) :
 ∃ o j cs,aAJ es v (.int kd (i:Int))=some (.ptr o j)∧cs.length=es∧P h cs l[i]∧(∀ k,k<es→loadA g false 1 (.ptr o (j+k))=cs[k]?)∧loadA g true es (.ptr o j)=some (.agg cs):=by
 obtain ⟨r,css,h1,h2,h3,h4⟩:=a
 have hi':i<css.length:=by omega
 have s:Slot (Old h.n) h v:=(r.slotA (gs := []) (by simp)).mono fun j q=>q.1
 have h1:=h1.keep k s
 rw [← h2,show css.flatten=css.flatMap (fun x=>x) by rw [List.flatMap_id']] at h1
 obtain ⟨o,j,e1,e2,e3⟩:=Sl.elem h1 h3 hi' hes kd
 exact ⟨o,j,css[i],e1,h3 _ (List.getElem_mem _),h4 i hi' hi,e2,e3⟩
/-- a beginning of a list -/
theorem IsL.take {α:Type} {N es:Nat} {P:H→List AV→α→Prop} {h:H} {v:AV} {l:List α} (a:IsL N es P h v l) {i:Nat} (hi:i≤l.length) (kd:IntKind) :
 ∃ v',aAX es none (some (.int kd (i:Int))) v=some v'∧IsL N es P h v' (l.take i):=by
 obtain ⟨r,css,h1,h2,h3,h4⟩:=a
 obtain ⟨v',e,s,hs⟩:=h1.cut (lo:=0) (hi:=i) (Nat.zero_le _) hi none (some (.int kd (i:Int))) (aKk hi kd)
 refine ⟨v',e,?_,css.take i,?_,by simp [h2],fun cs hc=>h3 cs (List.mem_of_mem_take hc),fun j q1 q2 => ?_⟩
 · have hk:Slot (fun o=>N≤o∧o<h.n) h v→Slot (fun o=>N≤o∧o<h.n) h v':=hs _
   have hroot:Slot (fun o => ∀ cs g,h.get o=some (.cells cs (some g))→Root g h) h v→Slot (fun o => ∀ cs g,h.get o=some (.cells cs (some g))→Root g h) h v':=hs _
   have q1:Slot (fun o=>N≤o∧o<h.n) h v:=by
    cases v <;> first | trivial | exact ⟨r.1,fun cs g q=>⟨(r.2 cs g q).1,(r.2 cs g q).2.1⟩⟩
   have q2:Slot (fun o => ∀ cs g,h.get o=some (.cells cs (some g))→Root g h) h v:=by
    cases v <;> first | trivial | skip
    all_goals
     refine ⟨fun cs g q=>(r.2 cs g q).2.2,fun cs g q cs2 g2 q2 => ?_⟩
     obtain ⟨cs3,q3⟩:=(r.2 cs g q).2.2
     rw [q3] at q2;cases q2;exact ⟨_,q3⟩
   have q3:=hk q1
   have q4:=hroot q2
   clear hk hroot q1 q2 hs r
   cases v' <;> first | trivial | exact ⟨q3.1,fun cs g q=>⟨(q3.2 cs g q).1,(q3.2 cs g q).2,q4.1 cs g q⟩⟩
 · have hl:(l.take i).length=i:=by simp;omega
   rw [hl]
   have e1:(css.take i).flatten=(css.flatten.drop (0*es)).take ((i - 0)*es):=by
    have hlen:(css.take i).flatten.length=i*es:=by
     rw [List.length_flatten]
     have : ∀ (m:List (List AV)),(∀ c∈m,c.length=es)→(m.map List.length).sum=m.length*es:=by
      intro m;induction m with
      | nil=>intro _;simp
      | cons c m ih=>intro hm;simp only [List.map_cons,List.sum_cons,List.length_cons];rw [ih fun c hc=>hm c (List.mem_cons_of_mem _ hc),hm c List.mem_cons_self,Nat.add_mul];omega
     rw [this _ fun c hc=>h3 c (List.mem_of_mem_take hc)]
     rw [List.length_take,h2,Nat.min_eq_left hi]
    have hsplit:css.flatten=(css.take i).flatten++(css.drop i).flatten:=by rw [← List.flatten_append,List.take_append_drop]
    rw [Nat.zero_mul,List.drop_zero,Nat.sub_zero,hsplit,← hlen,List.take_left]
   rw [e1];simpa using s
 · simp only [List.getElem_take]
   exact h4 j (by simp at q1;omega) (by simp at q2;omega)
theorem aAR {g:H} (wf:g.Wf) (cs:List AV) : ∃ g',g.new cs=g'∧Box g.n cs g'∧Keep (Old g.n) g g'∧g'.Wf∧g'.n=g.n+1 :=
 ⟨_,rfl,Box.new wf cs,Keep.new (Nat.le_refl _) _,(Keep.new (N:=g.n) (Nat.le_refl _) _).wf wf,rfl⟩
theorem IsL.len {α:Type} {N es:Nat} {P:H→List AV→α→Prop} {h:H} {v:AV} {l:List α} (a:IsL N es P h v l):lenSA v=some l.length:=by
 obtain ⟨r,css,h1,_⟩:=a;exact h1.len
/-- flat records -/
theorem IsL.of_flat {α:Type} {N es:Nat} {f:α→List AV} {h:H} {v:AV} {l:List α} (hf : ∀ x,(f x).length=es) (a:Sl h es v l.length (l.flatMap f)) (r:Rd N h v):IsL N es (fun _ cs x=>cs=f x) h v l:=by
 refine ⟨r,l.map f,?_,by simp,?_,?_⟩
 · rw [← List.flatMap_def];exact a
 · intro cs hc;obtain ⟨x,_,rfl⟩:=List.mem_map.1 hc;exact hf x
 · intro i h1 h2;simp
/-! ### lists that grow -/
/-- may be appended to, ends where its row ends -/
def OwnF (N:Nat) (h:H):AV→Prop
 | .nils=>True
 | .slice o i len es => ∃ cs g,h.get o=some (.cells cs (some g))∧h.tip g=o∧h.kill g≤o∧N≤g∧N≤o∧i+len*es=cs.length∧Root g h
 | _=>False
theorem OwnF.cells {N:Nat} {h:H} {v:AV} (a:OwnF N h v):v.cells = [v]∧AV.one v=true:=by
 cases v <;> first | exact ⟨rfl,rfl⟩ | exact a.elim
theorem OwnF.own {N:Nat} {h:H} {v:AV} (a:OwnF N h v):Own N h v:=by
 cases v <;> first | exact a | skip
 obtain ⟨cs,g,h1,h2,h3,h4,h5,h6,h7⟩:=a
 exact ⟨cs,g,h1,h2,h3,h4,h5,by omega,h7⟩
theorem OwnF.less {N N':Nat} {h:H} {v:AV} (a:OwnF N h v) (hn:N'≤N):OwnF N' h v:=by
 cases v <;> first | exact a | skip
 obtain ⟨cs,g,h1,h2,h3,h4,h5,h6⟩:=a
 exact ⟨cs,g,h1,h2,h3,by omega,by omega,h6⟩
theorem OwnF.rd {N:Nat} {h:H} (wf:h.Wf) {v:AV} (a:OwnF N h v):Rd N h v:=by
 cases v <;> first | trivial | skip
 obtain ⟨cs,g,h1,h2,h3,h4,h5,h6,h7⟩:=a
 refine ⟨⟨h5,wf.ob _ _ h1⟩,fun cs2 g2 e => ?_⟩
 rw [h1] at e;cases e
 obtain ⟨_,hr⟩:=h7
 exact ⟨h4,wf.ob _ _ hr,_,hr⟩
theorem OwnF.keep {N:Nat} {K:Nat→Prop} {h h':H} {v:AV} (a:OwnF N h v) (s:Slot K h v) (k:Keep K h h'):OwnF N h' v:=by
 cases v <;> first | exact a | skip
 obtain ⟨cs,g,h1,h2,h3,h4,h5,h6,cs',h7⟩:=a
 have hg:=s.2 _ _ h1
 exact ⟨cs,g,by rw [k.get _ s.1];exact h1,by rw [k.tip _ hg];exact h2,by rw [k.kill _ hg];exact h3,h4,h5,h6,cs',by rw [k.get _ hg];exact h7⟩
theorem OwnF.new {N:Nat} {h:H} (wf:h.Wf) (hN:N≤h.n) {vs:List AV} {n es:Nat} (hl:n*es=vs.length):OwnF N (h.new vs) (.slice h.n 0 n es) :=
 ⟨vs,h.n,aLj h vs,by rw [show (h.new vs).tip h.n=h.tip h.n from rfl,wf.tip_new],by rw [show (h.new vs).kill h.n=h.kill h.n from rfl,wf.kill_new];exact Nat.zero_le _,hN,hN,by omega,_,aLj h vs⟩
/-- an append behind a list that ends where its row ends: all that is read stays -/
theorem a1M {N:Nat} {h:H} (wf:h.Wf) (hN:N≤h.n) {v:AV} {es n k:Nat} {cs new:List AV} (a:Sl h es v n cs) (o:OwnF N h v) (hl:new.length=k*es) (hone:new.all AV.one=true) (hbig:n+k<4294967296) :
 ∃ v' h',h.app v es k new=some (v',h')∧Sl h' es v' (n+k) (cs++new)∧OwnF N h' v'∧Keep (Old N) h h'∧RK (Old h.n) h h':=by
 by_cases hk:k=0
 · subst hk
   have:new = []:=by cases new <;> simp at hl ⊢
   subst this
   refine ⟨v,h,?_,by simpa using a,o,Keep.refl _ _,RK.refl _ _⟩
   obtain ⟨h1,h2⟩:=a
   cases v <;> simp only [lenSA] at h1 <;> (try (cases h1;done))
   case nils=>simp [H.app]
   case slice o i len es' =>
    cases h1
    simp only [H.firstCells] at h2
    split at h2
    · rename_i hc;simp [H.app,hc.1]
    · cases h2
 · cases v <;> simp only [OwnF] at o <;> (try exact o.elim)
   case nils =>
    obtain ⟨h1,h2⟩:=a
    cases h1
    simp [H.firstCells] at h2;subst h2
    refine ⟨.slice h.n 0 k es,h.new new,by simp [H.app,hk];omega,?_,OwnF.new wf hN (by omega),Keep.new hN _,(Keep.new (Nat.le_refl _) _).rk⟩
    have:=Sl.new (es:=es) (n:=k) wf (vs:=new) (by omega)
    rw [← hl,List.take_length] at this
    simpa using this
   case slice o' i len es' =>
    obtain ⟨row,g,h1,h2,h3,h4,h5,h6,rt,hrt⟩:=o
    obtain ⟨a1,a2⟩:=a
    cases a1
    have hrow:h.row o'=some row:=by unfold H.row;rw [h1];simp only;rw [if_pos h3]
    simp only [H.firstCells] at a2
    split at a2
    case isFalse=>cases a2
    rename_i hc
    obtain ⟨rfl,_⟩:=hc
    rw [hrow] at a2
    simp only at a2
    rw [if_pos (by omega)] at a2
    cases a2
    have hon:=wf.ob _ _ h1
    have C:=H.child_to ((row.drop i).take (n*es')++new) h1 h2 h3 (Nat.le_of_eq h6) hon
    have hkill : ∀ j,(h.child o' g (i+n*es') row ((row.drop i).take (n*es')++new)).kill j=h.kill j:=by
     intro j
     unfold H.child
     rw [if_pos h6]
     unfold H.kill
     simp only [Tr.get_set]
     by_cases hj:j=g
     · subst hj;simp
     · rw [if_neg hj]
    have hlive:(h.child o' g (i+n*es') row ((row.drop i).take (n*es')++new)).kill g≤h.n:=by rw [hkill];omega
    have hget:(h.child o' g (i+n*es') row ((row.drop i).take (n*es')++new)).get h.n=some (.cells ((row.drop i).take (n*es')++new) (some g)):=by rw [C.get,if_pos rfl]
    have hold : ∀ j,j<h.n→(h.child o' g (i+n*es') row ((row.drop i).take (n*es')++new)).get j=h.get j:=by
     intro j hj
     rw [C.get,if_neg (by omega)]
     split
     · rename_i e;subst e;rw [h1,h6,List.take_length]
     · rfl
    have hroot : ∃ cs',(h.child o' g (i+n*es') row ((row.drop i).take (n*es')++new)).get g=some (.cells cs' (some g)):=by
     rw [hold _ (wf.ob _ _ hrt)];exact ⟨_,hrt⟩
    have hlen:((row.drop i).take (n*es')++new).length=(n+k)*es':=by
     rw [List.length_append,hl,Nat.add_mul];simp;omega
    refine ⟨.slice h.n 0 (n+k) es',_,?_,⟨rfl,?_⟩,⟨_,g,hget,C.tipg,hlive,h4,hN,by omega,hroot⟩,⟨C.wf,by rw [C.n];omega,?_,?_,?_⟩,⟨C.wf,by rw [C.n];omega,hold,fun j _=>hkill j⟩⟩
    · simp only [H.app,if_neg hk,h1]
      rw [if_pos ⟨h2,trivial,Nat.le_of_eq h6,hbig,h3,hone⟩]
    · simp only [H.firstCells]
      rw [if_pos ⟨trivial,Nat.le_refl _⟩]
      have:(h.child o' g (i+n*es') row ((row.drop i).take (n*es')++new)).row h.n=some ((row.drop i).take (n*es')++new):=by
       unfold H.row;rw [hget];simp only;rw [if_pos hlive]
      rw [this]
      simp only [Nat.zero_add,List.drop_zero]
      rw [if_pos (by omega),← hlen,List.take_length]
    · intro j hj
      rw [C.get,if_neg (by omega),if_neg (by omega)]
    · intro j hj;exact C.tipo j (by omega)
    · intro j hj;exact C.kill j (by omega)
theorem aSq {N:Nat} {h:H} (wf:h.Wf) (hN:N≤h.n) {v y:AV} {es n k:Nat} {cs new:List AV} (a:Sl h es v n cs) (o:OwnF N h v) (b:Sl h es y k new) (hone:new.all AV.one=true) (hbig:n+k<4294967296) :
 ∃ v' h',aCd h es v y=some (v',h')∧Sl h' es v' (n+k) (cs++new)∧OwnF N h' v'∧Keep (Old N) h h'∧RK (Old h.n) h h':=by
 unfold aCd
 rw [b.lenA]
 simp only [b.cells]
 exact a1M wf hN a o b.size hone hbig
/-- a growing list of flat records -/
theorem aXB {α:Type} {f:α→List AV} {es:Nat} (hf : ∀ x,(f x).length=es) (h1 : ∀ x,(f x).all AV.one=true) {N:Nat} {h:H} (wf:h.Wf) (hN:N≤h.n) {v y:AV} {l m:List α} (a:Sl h es v l.length (l.flatMap f)) (o:OwnF N h v) (b:Sl h es y m.length (m.flatMap f)) (hbig:l.length+m.length<4294967296) :
 ∃ v' h',aCd h es v y=some (v',h')∧Sl h' es v' (l++m).length ((l++m).flatMap f)∧OwnF N h' v'∧Keep (Old N) h h'∧RK (Old h.n) h h':=by
 have hone:(m.flatMap f).all AV.one=true:=by
  rw [List.all_eq_true];intro x hx;obtain ⟨y,_,hy⟩:=List.mem_flatMap.1 hx
  exact List.all_eq_true.1 (h1 y) x hy
 obtain ⟨v',h',e,s,o',k,r⟩:=aSq wf hN a o b hone hbig
 rw [← List.flatMap_append,← List.length_append] at s
 exact ⟨v',h',e,s,o',k,r⟩
/-- a growing list of records, one more -/
theorem IsL.app {α:Type} {N M es:Nat} {P:H→List AV→α→Prop} {h:H} (wf:h.Wf) (hN:N≤h.n) {v y:AV} {l:List α} {x:α} {cs:List AV} (a:IsL M es P h v l) (o:OwnF N h v) (hM:M≤N) (hcs:cs.length=es) (hone:cs.all AV.one=true)
 (b:Sl h es y 1 cs) (hx:P h cs x) (hbig:l.length+1<4294967296) (hp : ∀ h',RK (Old h.n) h h' → ∀ cs x,P h cs x→P h' cs x) :
 ∃ v' h',aCd h es v y=some (v',h')∧IsL M es P h' v' (l ++ [x])∧OwnF N h' v'∧Keep (Old N) h h'∧RK (Old h.n) h h':=by
 obtain ⟨r,css,h1,h2,h3,h4⟩:=a
 obtain ⟨v',h',e,s,o',k,rk⟩:=aSq wf hN h1 o b hone hbig
 refine ⟨v',h',e,⟨(o'.rd (k.wf wf)).less hM,css ++ [cs],?_,by simp [h2],?_,?_⟩,o',k,rk⟩
 · simpa using s
 · intro c hc
   rcases List.mem_append.1 hc with hc | hc
   · exact h3 c hc
   · rw [List.mem_singleton.1 hc];exact hcs
 · intro i q1 q2
   by_cases hi:i<l.length
   · rw [List.getElem_append_left (by omega),List.getElem_append_left hi];exact hp h' rk _ _ (h4 i (by omega) hi)
   · rw [List.getElem_append_right (by omega),List.getElem_append_right (by omega)]
     simp only [List.getElem_singleton];exact hp h' rk _ _ hx
/-- a list of flat records of one's own -/
def FL {α:Type} (f:α→List AV) (es N:Nat) (h:H) (v:AV) (l:List α):Prop:=Sl h es v l.length (l.flatMap f)∧OwnF N h v
theorem FL.keep {α:Type} {f:α→List AV} {es N:Nat} {h h':H} {v:AV} {l:List α} (a:FL f es N h v l) (wf:h.Wf) {gs:List Nat} (hg : ∀ g∈gs,g<N) {K:Nat→Prop} (k:Keep K h h') (hK : ∀ j,Apart gs h j→K j):FL f es N h' v l:=by
 have s:Slot K h v:=((a.2.rd wf).slotA hg).mono hK
 exact ⟨a.1.keep k s,a.2.keep s k⟩
theorem FL.keepA {α:Type} {f:α→List AV} {es N:Nat} {h h':H} {v:AV} {l:List α} (a:FL f es N h v l) (wf:h.Wf) {gs:List Nat} (hg : ∀ g∈gs,g<N) (k:KeepA gs h h'):FL f es N h' v l:=a.keep wf hg k fun _ q=>q
theorem FL.keepN {α:Type} {f:α→List AV} {es N:Nat} {h h':H} {v:AV} {l:List α} (a:FL f es N h v l) (wf:h.Wf) (k:Keep (Old h.n) h h'):FL f es N h' v l:=a.keep wf (gs := []) (by simp) k fun _ q=>q.1
theorem FL.keepS {α:Type} {f:α→List AV} {es N:Nat} {h h':H} {v:AV} {l:List α} (a:FL f es N h v l) {K:Nat→Prop} (s:Slot K h v) (k:Keep K h h'):FL f es N h' v l:=⟨a.1.keep k s,a.2.keep s k⟩
theorem FL.less {α:Type} {f:α→List AV} {es N N':Nat} {h:H} {v:AV} {l:List α} (a:FL f es N h v l) (hn:N'≤N):FL f es N' h v l:=⟨a.1,a.2.less hn⟩
theorem FL.nil {α:Type} (f:α→List AV) (es N:Nat) (h:H):FL f es N h .nils []:=⟨Sl.nil h es,trivial⟩
theorem FL.one {α:Type} {f:α→List AV} {es N:Nat} {h:H} (wf:h.Wf) (hN:N≤h.n) {x:α} (hx:(f x).length=es):FL f es N (h.new (f x)) (.slice h.n 0 1 es) [x]:=by
 refine ⟨?_,OwnF.new wf hN (by omega)⟩
 have:=Sl.new (n:=1) (es:=es) wf (vs:=f x) (by omega)
 rw [List.take_of_length_le (by omega)] at this
 simpa using this
theorem FL.app {α:Type} {f:α→List AV} {es:Nat} (hf : ∀ x,(f x).length=es) (h1 : ∀ x,(f x).all AV.one=true) {N:Nat} {h:H} (wf:h.Wf) (hN:N≤h.n) {v y:AV} {l m:List α} (a:FL f es N h v l) (b:Sl h es y m.length (m.flatMap f)) (hbig:l.length+m.length<4294967296) :
 ∃ v' h',aCd h es v y=some (v',h')∧FL f es N h' v' (l++m)∧Keep (Old N) h h'∧RK (Old h.n) h h':=by
 obtain ⟨v',h',e,s,o,k,r⟩:=aXB hf h1 wf hN a.1 a.2 b hbig
 exact ⟨v',h',e,⟨s,o⟩,k,r⟩
theorem Rd.keepS {N:Nat} {h h':H} {v:AV} (a:Rd N h v) {K:Nat→Prop} (s:Slot K h v) (k:Keep K h h'):Rd N h' v:=by
 have hn:=k.n
 cases v <;> first | trivial | skip
 all_goals
  refine ⟨⟨a.1.1,Nat.lt_of_lt_of_le a.1.2 hn⟩,fun cs g e => ?_⟩
  rw [k.get _ s.1] at e
  obtain ⟨h1,h2,cs',h3⟩:=a.2 cs g e
  exact ⟨h1,Nat.lt_of_lt_of_le h2 hn,cs',by rw [k.get _ (s.2 cs g e)];exact h3⟩
/-- flat data apart from some variables -/
def DL {α:Type} (f:α→List AV) (es:Nat) (gs:List Nat) (N:Nat) (g:H) (v:AV) (l:List α):Prop:=Sl g es v l.length (l.flatMap f)∧Rd N g v∧Slot (Apart gs g) g v
theorem DL.keepA {α:Type} {f:α→List AV} {es:Nat} {gs:List Nat} {N:Nat} {g g':H} {v:AV} {l:List α} (a:DL f es gs N g v l) {gs':List Nat} (k:KeepA gs' g g') (hs : ∀ x∈gs',x∈gs):DL f es gs N g' v l:=by
 have k':=KeepA.mono k hs
 exact ⟨a.1.keep k' a.2.2,a.2.1.keepS a.2.2 k',Slot.keepA a.2.2 k'⟩
theorem DL.nil {α:Type} (f:α→List AV) (es:Nat) (gs:List Nat) (N:Nat) (g:H):DL f es gs N g .nils []:=⟨Sl.nil g es,trivial,trivial⟩
theorem FL.dl {α:Type} {f:α→List AV} {es M:Nat} {g:H} {v:AV} {l:List α} (a:FL f es M g v l) (wf:g.Wf) {gs:List Nat} {N:Nat} (hN:N≤M) (hg : ∀ x∈gs,x<M∨g.n≤x):DL f es gs N g v l :=
 ⟨a.1,(a.2.rd wf).less hN,(a.2.rd wf).slotNew hg⟩
theorem Box.sl1 {r es:Nat} {cs:List AV} {h:H} (b:Box r cs h) (hl:cs.length=es):Sl h es (.slice r 0 1 es) 1 cs:=by
 refine ⟨rfl,?_⟩
 simp only [H.firstCells,b.row]
 rw [if_pos ⟨trivial,Nat.le_refl _⟩,if_pos (by omega)]
 rw [Nat.one_mul,List.drop_zero,List.take_of_length_le (by omega)]
theorem Box.dl {α:Type} {f:α→List AV} {r es:Nat} {x:α} {g:H} (b:Box r (f x) g) (wf:g.Wf) (hl:(f x).length=es) {gs:List Nat} (hr:r∉gs) {N:Nat} (hN:N≤r):DL f es gs N g (.slice r 0 1 es) [x]:=by
 have hlt:=b.lt wf
 refine ⟨by have:=b.sl1 hl;simpa using this,⟨⟨hN,hlt⟩,fun cs g2 e => ?_⟩,⟨b.apart wf hr,fun cs g2 e => ?_⟩⟩
 · rw [b.get] at e;cases e;exact ⟨hN,hlt,_,b.get⟩
 · rw [b.get] at e;cases e;exact b.apart wf hr
/-- a variable of one's own, as it is first set -/
theorem Box.init {h:H} (wf:h.Wf) {z cs:List AV} {n:Nat} (hz:z.length=n) (hc:cs.length=n) (h1:cs.all AV.one=true) : ∃ h',storeA (h.new z) n (.ptr h.n 0) (.agg cs)=some h'∧Box h.n cs h'∧Keep (Old h.n) h h':=by
 have k:Keep (Old h.n) h (h.new z):=Keep.new (Nat.le_refl _) z
 obtain ⟨h',e,b,k'⟩:=Box.putAll (k.wf wf) (Box.new wf z) hc h1 (by omega)
 exact ⟨h',e,b,k.trans (k'.old (k.wf wf) (by show h.n≤h.n+1;omega) (by simp))⟩
end Go.Proofs.YtdbmeidhlijopaaGreatDoor.Ev

/- What a schema's text says: the plain law of the parser. -/
namespace Go.Proofs.YtdbmeidhlijopaaGreatDoor.Ev.C
open Go Go.Proofs.YtdbmeidhlijopaaGreatDoor.Ev
set_option linter.unusedSimpArgs false
set_option linter.unusedVariables false
abbrev T8s:=List UInt8
/-- an operation: its kind, its names -/
abbrev OpD:=Nat×T8s×T8s
/-- who may stand in a tuple -/
abbrev SubD:=T8s×T8s
structure RelD where
 name:T8s
 view:T8s
 edit:T8s
 check:T8s
 subs:List SubD
 ops:List OpD
structure TypD where
 name:T8s
 rels:List RelD
/-- what a part of the parser answers: what is wrong, and where; or what it says, and the tokens behind it -/
abbrev PRs (α:Type):=Except (Int×Nat) (α×List Tk)
def headAt:List Tk→Nat
 | t::_=>t.2.2
 | []=>0
def failP {α:Type} (e:Int) (ts:List Tk):PRs α := .error (e,headAt ts)
def thenP {α β:Type} (x:PRs α) (f:α→List Tk→PRs β):PRs β:=match x with
 | .ok (a,ts)=>f a ts
 | .error e => .error e
def needP (s:T8s) (ts:List Tk):PRs Unit:=if isNext ts s=true then .ok ((),ts.tail) else failP 30 ts
def nameP (ts:List Tk):PRs T8s:=match ts with
 | t::r=>if t.1=1∧isKey t.2.1=false then .ok (t.2.1,r) else failP 30 ts
 | []=>failP 30 ts
def kThis:T8s := [116,104,105,115]
def kIs:T8s := [105,115]
def kRel:T8s := [114,101,108]
def kType:T8s := [116,121,112,101]
def partP (can:Bool) (rw:List Tk→PRs (List OpD)) (ts:List Tk):PRs (List OpD) :=
 if isNext ts kThis=true then .ok ([(1,[],[])],ts.tail)
 else if isNext ts [40]=true then (if can=false then failP 13 ts else thenP (rw ts.tail) fun out t2=>thenP (needP [41] t2) fun _ t3 => .ok (out,t3))
 else thenP (nameP ts) fun n t1=>if isNext t1 [46]=true then thenP (nameP t1.tail) fun m t2 => .ok ([(3,n,m)],t2) else .ok ([(2,n,[])],t1)
/-- the sign between parts: its kind; 0: there is none -/
def sgnP (ts:List Tk):Nat:=match ts with
 | t::_=>if t.1=2 then (sgn t.2.1).toNat else 0
 | []=>0
def loopP (part:List Tk→PRs (List OpD)):Nat→List OpD→List Tk→PRs (List OpD)
 | 0,out,ts => .ok (out,ts)
 | f+1,out,ts=>if sgnP ts=0 then .ok (out,ts) else thenP (part ts.tail) fun x t2=>loopP part f (out++x ++ [(sgnP ts,[],[])]) t2
/-- a rewrite, within which so many more may stand -/
def aA4:Nat→List Tk→PRs (List OpD)
 | 0,ts=>thenP (partP false (fun t=>failP 0 t) ts) fun out t1=>loopP (partP false (fun t=>failP 0 t)) t1.length out t1
 | d+1,ts=>thenP (partP true (aA4 d) ts) fun out t1=>loopP (partP true (aA4 d)) t1.length out t1
def subP (ts:List Tk):PRs SubD:=thenP (nameP ts) fun n t1=>if isNext t1 [35]=true then thenP (nameP t1.tail) fun m t2 => .ok ((n,m),t2) else .ok ((n,[]),t1)
def subsP:Nat→List SubD→List Tk→PRs (List SubD)
 | 0,acc,ts => .ok (acc,ts)
 | f+1,acc,ts=>thenP (subP ts) fun x t1=>if isNext t1 [44]=true then subsP f (acc ++ [x]) t1.tail else .ok (acc ++ [x],t1)
def relP (ts:List Tk):PRs RelD :=
 thenP (nameP ts) fun n t1=>thenP (needP [40] t1) fun _ t2=>thenP (nameP t2) fun v t3=>thenP (needP [44] t3) fun _ t4=>thenP (nameP t4) fun e t5=>thenP (needP [44] t5) fun _ t6 =>
 thenP (nameP t6) fun c t7=>thenP (needP [41] t7) fun _ t8=>thenP (needP [58] t8) fun _ t9 =>
 thenP (if isNext t9 kIs=false∧isNext t9 [59]=false then subsP t9.length [] t9 else .ok ([],t9)) fun subs t10 =>
 thenP (if isNext t10 kIs=true then aA4 8 t10.tail else .ok ([(1,[],[])],t10)) fun ops t11 =>
 thenP (needP [59] t11) fun _ t12 => .ok (⟨n,v,e,c,subs,ops⟩,t12)
def relsP:Nat→List RelD→List Tk→PRs (List RelD)
 | 0,acc,ts => .ok (acc,ts)
 | f+1,acc,ts=>if isNext ts kRel=true then thenP (relP ts.tail) fun r t1=>relsP f (acc ++ [r]) t1 else .ok (acc,ts)
def typP (ts:List Tk):PRs TypD :=
 thenP (nameP ts) fun n t1=>thenP (needP [123] t1) fun _ t2=>thenP (relsP t2.length [] t2) fun rels t3=>thenP (needP [125] t3) fun _ t4 => .ok (⟨n,rels⟩,t4)
def typsP:Nat→List TypD→List Tk→PRs (List TypD)
 | 0,acc,ts => .ok (acc,ts)
 | f+1,acc,ts=>if isNext ts kType=true then thenP (typP ts.tail) fun t t1=>typsP f (acc ++ [t]) t1 else .ok (acc,ts)
/-- the tokens end -/
def EndT (ts:List Tk):Prop := ∃ init at_,ts=init ++ [(3,[],at_)]
def aDX (ts:List Tk):PRs (List TypD) :=
 thenP (typsP ts.length [] ts) fun l t1=>match t1 with
  | t::_=>if t.1=3 then .ok (l,t1) else failP 30 t1
  | []=>failP 30 t1
theorem EndT.ne {ts:List Tk} (e:EndT ts):ts ≠ []:=by obtain ⟨i,a,rfl⟩:=e;simp
/-- a token that isn't the last one -/
theorem EndT.tail {t:Tk} {ts:List Tk} (e:EndT (t::ts)) (h:t.1≠3∨t.2.1 ≠ []):EndT ts:=by
 obtain ⟨i,a,hi⟩:=e
 cases i with
 | nil =>
  simp only [List.nil_append,List.cons.injEq] at hi
  obtain ⟨rfl,rfl⟩:=hi
  rcases h with h | h <;> simp at h
 | cons x r=>simp only [List.cons_append,List.cons.injEq] at hi;exact ⟨r,a,hi.2⟩
theorem EndT.pass {ts:List Tk} (e:EndT ts) {s:T8s} (hs:s ≠ []) (h:isNext ts s=true):EndT ts.tail:=by
 cases ts with
 | nil=>exact absurd rfl e.ne
 | cons t ts =>
  refine e.tail (.inr ?_)
  simp only [isNext,Bool.and_eq_true,decide_eq_true_eq] at h
  rw [h.1];exact hs
theorem aAg {ts:List Tk} {s:T8s} (h:isNext ts s=true):ts.tail.length+1=ts.length:=by
 cases ts with
 | nil=>cases h
 | cons t ts=>rfl
/-! ### what is left is shorter, and ends -/
/-- a part of the parser leaves tokens that end, fewer than there were -/
def Less {α:Type} (p:List Tk→PRs α):Prop := ∀ ts a t2,EndT ts→p ts = .ok (a,t2)→EndT t2∧t2.length<ts.length
theorem aAH {α β:Type} {x:PRs α} {f:α→List Tk→PRs β} {b:β} {t:List Tk} (h:thenP x f = .ok (b,t)) : ∃ a t1,x = .ok (a,t1)∧f a t1 = .ok (b,t):=by
 unfold thenP at h
 split at h
 · exact ⟨_,_,rfl,h⟩
 · cases h
theorem aA5:Less nameP:=by
 intro ts a t2 e h
 unfold nameP at h
 split at h
 · rename_i t r
   split at h
   · rename_i hc
     cases h
     exact ⟨e.tail (.inl (by rw [hc.1];decide)),by simp⟩
   · cases h
 · cases h
theorem aA0 {s:T8s} (hs:s ≠ []):Less (needP s):=by
 intro ts a t2 e h
 unfold needP at h
 split at h
 · rename_i hn
   cases h
   exact ⟨e.pass hs hn,by have:=aAg hn;omega⟩
 · cases h
theorem aHP {can:Bool} {rw:List Tk→PRs (List OpD)} (hr:can=true→Less rw):Less (partP can rw):=by
 intro ts a t2 e h
 unfold partP at h
 split at h
 · rename_i hn;cases h;exact ⟨e.pass (by decide) hn,by have:=aAg hn;omega⟩
 split at h
 · rename_i hn
   split at h
   · cases h
   · rename_i hc
     obtain ⟨x,t1,h1,h2⟩:=aAH h
     obtain ⟨y,t3,h3,h4⟩:=aAH h2
     cases h4
     obtain ⟨e1,l1⟩:=hr (by simpa using hc) _ _ _ (e.pass (by decide) hn) h1
     obtain ⟨e2,l2⟩:=aA0 (by decide) _ _ _ e1 h3
     exact ⟨e2,by have:=aAg hn;omega⟩
 · obtain ⟨x,t1,h1,h2⟩:=aAH h
   obtain ⟨e1,l1⟩:=aA5 _ _ _ e h1
   split at h2
   · rename_i hn
     obtain ⟨y,t3,h3,h4⟩:=aAH h2
     cases h4
     obtain ⟨e2,l2⟩:=aA5 _ _ _ (e1.pass (by decide) hn) h3
     exact ⟨e2,by have:=aAg hn;omega⟩
   · cases h2;exact ⟨e1,l1⟩
theorem aOz {ts:List Tk} (e:EndT ts) (h:sgnP ts≠0):EndT ts.tail∧ts.tail.length+1=ts.length:=by
 cases ts with
 | nil=>exact absurd rfl e.ne
 | cons t ts =>
  refine ⟨e.tail (.inl ?_),rfl⟩
  intro h3
  simp [sgnP,h3] at h
theorem aRi {part:List Tk→PRs (List OpD)} (hp:Less part) : ∀ (f:Nat) (out:List OpD) (ts:List Tk) (a:List OpD) (t2:List Tk),EndT ts→loopP part f out ts = .ok (a,t2)→EndT t2∧t2.length≤ts.length
 | 0,out,ts,a,t2,e,h=>by cases h;exact ⟨e,Nat.le_refl _⟩
 | f+1,out,ts,a,t2,e,h=>by
  simp only [loopP] at h
  split at h
  · cases h;exact ⟨e,Nat.le_refl _⟩
  · rename_i hs
    obtain ⟨e1,l1⟩:=aOz e hs
    obtain ⟨x,t1,h1,h2⟩:=aAH h
    obtain ⟨e3,l3⟩:=hp _ _ _ e1 h1
    obtain ⟨e4,l4⟩:=aRi hp f _ _ _ _ e3 h2
    exact ⟨e4,by omega⟩
theorem aDN : ∀ d,Less (aA4 d)
 | 0=>by
  intro ts a t2 e h
  simp only [aA4] at h
  obtain ⟨x,t1,h1,h2⟩:=aAH h
  have hp:=aHP (can:=false) (rw:=fun t=>failP 0 t) (fun h=>by cases h)
  obtain ⟨e1,l1⟩:=hp _ _ _ e h1
  obtain ⟨e2,l2⟩:=aRi hp _ _ _ _ _ e1 h2
  exact ⟨e2,by omega⟩
 | d+1=>by
  intro ts a t2 e h
  simp only [aA4] at h
  obtain ⟨x,t1,h1,h2⟩:=aAH h
  have hp:=aHP (can:=true) (rw:=aA4 d) (fun _=>aDN d)
  obtain ⟨e1,l1⟩:=hp _ _ _ e h1
  obtain ⟨e2,l2⟩:=aRi hp _ _ _ _ _ e1 h2
  exact ⟨e2,by omega⟩
theorem aW1:Less subP:=by
 intro ts a t2 e h
 unfold subP at h
 obtain ⟨x,t1,h1,h2⟩:=aAH h
 obtain ⟨e1,l1⟩:=aA5 _ _ _ e h1
 split at h2
 · rename_i hn
   obtain ⟨y,t3,h3,h4⟩:=aAH h2
   cases h4
   obtain ⟨e2,l2⟩:=aA5 _ _ _ (e1.pass (by decide) hn) h3
   exact ⟨e2,by have:=aAg hn;omega⟩
 · cases h2;exact ⟨e1,l1⟩
theorem aMn : ∀ (f:Nat) (acc:List SubD) (ts:List Tk) (a:List SubD) (t2:List Tk),EndT ts→subsP f acc ts = .ok (a,t2)→EndT t2∧t2.length≤ts.length
 | 0,acc,ts,a,t2,e,h=>by cases h;exact ⟨e,Nat.le_refl _⟩
 | f+1,acc,ts,a,t2,e,h=>by
  simp only [subsP] at h
  obtain ⟨x,t1,h1,h2⟩:=aAH h
  obtain ⟨e1,l1⟩:=aW1 _ _ _ e h1
  split at h2
  · rename_i hn
    obtain ⟨e2,l2⟩:=aMn f _ _ _ _ (e1.pass (by decide) hn) h2
    exact ⟨e2,by have:=aAg hn;omega⟩
  · cases h2;exact ⟨e1,by omega⟩
theorem aTJ:Less relP:=by
 intro ts a t2 e h
 unfold relP at h
 obtain ⟨x1,t1,h1,h⟩:=aAH h
 obtain ⟨e1,l1⟩:=aA5 _ _ _ e h1
 obtain ⟨x2,t2',h2,h⟩:=aAH h
 obtain ⟨e2,l2⟩:=aA0 (by decide) _ _ _ e1 h2
 obtain ⟨x3,t3,h3,h⟩:=aAH h
 obtain ⟨e3,l3⟩:=aA5 _ _ _ e2 h3
 obtain ⟨x4,t4,h4,h⟩:=aAH h
 obtain ⟨e4,l4⟩:=aA0 (by decide) _ _ _ e3 h4
 obtain ⟨x5,t5,h5,h⟩:=aAH h
 obtain ⟨e5,l5⟩:=aA5 _ _ _ e4 h5
 obtain ⟨x6,t6,h6,h⟩:=aAH h
 obtain ⟨e6,l6⟩:=aA0 (by decide) _ _ _ e5 h6
 obtain ⟨x7,t7,h7,h⟩:=aAH h
 obtain ⟨e7,l7⟩:=aA5 _ _ _ e6 h7
 obtain ⟨x8,t8,h8,h⟩:=aAH h
 obtain ⟨e8,l8⟩:=aA0 (by decide) _ _ _ e7 h8
 obtain ⟨x9,t9,h9,h⟩:=aAH h
 obtain ⟨e9,l9⟩:=aA0 (by decide) _ _ _ e8 h9
 obtain ⟨x10,t10,h10,h⟩:=aAH h
 have q10:EndT t10∧t10.length≤t9.length:=by
  split at h10
  · exact aMn _ _ _ _ _ e9 h10
  · cases h10;exact ⟨e9,Nat.le_refl _⟩
 obtain ⟨x11,t11,h11,h⟩:=aAH h
 have q11:EndT t11∧t11.length≤t10.length:=by
  split at h11
  · rename_i hn
    obtain ⟨e,l⟩:=aDN 8 _ _ _ (q10.1.pass (by decide) hn) h11
    exact ⟨e,by have:=aAg hn;omega⟩
  · cases h11;exact ⟨q10.1,Nat.le_refl _⟩
 obtain ⟨x12,t12,h12,h⟩:=aAH h
 obtain ⟨e12,l12⟩:=aA0 (by decide) _ _ _ q11.1 h12
 cases h
 exact ⟨e12,by omega⟩
theorem aM6 : ∀ (f:Nat) (acc:List RelD) (ts:List Tk) (a:List RelD) (t2:List Tk),EndT ts→relsP f acc ts = .ok (a,t2)→EndT t2∧t2.length≤ts.length
 | 0,acc,ts,a,t2,e,h=>by cases h;exact ⟨e,Nat.le_refl _⟩
 | f+1,acc,ts,a,t2,e,h=>by
  simp only [relsP] at h
  split at h
  · rename_i hn
    obtain ⟨x,t1,h1,h2⟩:=aAH h
    obtain ⟨e1,l1⟩:=aTJ _ _ _ (e.pass (by decide) hn) h1
    obtain ⟨e2,l2⟩:=aM6 f _ _ _ _ e1 h2
    exact ⟨e2,by have:=aAg hn;omega⟩
  · cases h;exact ⟨e,Nat.le_refl _⟩
theorem a1Z:Less typP:=by
 intro ts a t2 e h
 unfold typP at h
 obtain ⟨x1,t1,h1,h⟩:=aAH h
 obtain ⟨e1,l1⟩:=aA5 _ _ _ e h1
 obtain ⟨x2,t2',h2,h⟩:=aAH h
 obtain ⟨e2,l2⟩:=aA0 (by decide) _ _ _ e1 h2
 obtain ⟨x3,t3,h3,h⟩:=aAH h
 obtain ⟨e3,l3⟩:=aM6 _ _ _ _ _ e2 h3
 obtain ⟨x4,t4,h4,h⟩:=aAH h
 obtain ⟨e4,l4⟩:=aA0 (by decide) _ _ _ e3 h4
 cases h
 exact ⟨e4,by omega⟩
/-- a text's schema; else what is wrong, and where -/
def parseP (l:Except (Int×Nat) (List Tk)):Except (Int×Nat) (List TypD):=match l with
 | .error e => .error e
 | .ok ts=>match aDX ts with
  | .ok (s,_) => .ok s
  | .error e => .error e
end Go.Proofs.YtdbmeidhlijopaaGreatDoor.Ev.C

/- Counting loops: a rule for the code that a range over a slice is turned to. -/
namespace Go.Proofs.YtdbmeidhlijopaaGreatDoor.Ev
set_option linter.unusedVariables false
set_option linter.unusedSimpArgs false
/-- a round's end: the round is over, or the loop is left -/
def roundP (E:Env) (J:Nat→S→H→Prop) (j b0 b1:Nat) (k:List Fr1) (Q:Post):Post:=fun ex s h=>match ex with
 | .normal=>J (j+1) s h
 | .exit id=>if id=b1 then J (j+1) s h else if id=b0 then WNext E k Q s h else WExit E id k Q s h
 | .ret=>Q .ret s h
 | .panic v=>Q (.panic v) s h
section
variable {E:Env} {k:List Fr1} {Q:Post}
theorem aVa (J:Nat→S→H→Prop) (j b0 b1:Nat) (s:S) (h:H):roundP E J j b0 b1 k Q .normal s h=J (j+1) s h:=id rfl
theorem aXr (J:Nat→S→H→Prop) (j b0 b1 id:Nat) (s:S) (h:H):roundP E J j b0 b1 k Q (.exit id) s h=if id=b1 then J (j+1) s h else if id=b0 then WNext E k Q s h else WExit E id k Q s h:=_root_.id rfl
theorem aZA (J:Nat→S→H→Prop) (j b0 b1:Nat) (s:S) (h:H):roundP E J j b0 b1 k Q .ret s h=Q .ret s h:=id rfl
theorem aW2 (J:Nat→S→H→Prop) (j b0 b1:Nat) (v:AV) (s:S) (h:H):roundP E J j b0 b1 k Q (.panic v) s h=Q (.panic v) s h:=id rfl
attribute [go_sem] aVa aXr aZA aW2
/-- a loop over the first n numbers: t: the count, n: how many, c: the test, x: the next count -/
theorem aCz {b0 b1 ti tn tc tx:Nat} {body:ACode} {n:Nat} {s:S} {h:H} (hn:n<4611686018427387904) (I:Nat→S→H→Prop)
 (ne:(ti≠tc∧tn≠tc∧tn≠tx∧ti≠tx∧tn≠ti)∧b0≠b1)
 (hup : ∀ j s h t v,(t=tc∨t=tx∨t=ti)→I j s h→I j (upd s (some t) v) h)
 (hi:s ti = .int .i64 0) (hnn:s tn = .int .i64 (n:Int)) (h0:I 0 s h)
 (step : ∀ j s h,j<n→I j s h→s ti = .int .i64 (j:Int)→s tn = .int .i64 (n:Int)→WS E body [] (roundP E (fun j' s h=>I j' s h∧s ti = .int .i64 (j:Int)∧s tn = .int .i64 (n:Int)) j b0 b1 k Q) s h)
 (fini : ∀ s h,I n s h→WNext E k Q s h) :
 WS E (.block b0 (.loop (.seq (.ops [⟨some tc,.bin .lss (.tmp ti) (.tmp tn),none⟩]) (.seq (.cond (.tmp tc) .skip (.exit b0)) (.seq (.block b1 body) (.ops [⟨some tx,.bin .add (.tmp ti) (.con (.int .i64 1)),none⟩,⟨some ti,.mov (.tmp tx),none⟩])))))) k Q s h:=by
 obtain ⟨⟨n1,n2,n3,n4,n5⟩,n6⟩:=ne
 refine aAG (aAP (fun m s h => ∃ j,m=n - j∧j≤n∧I j s h∧s ti = .int .i64 (j:Int)∧s tn = .int .i64 (n:Int)) ?_ n ?_)
 case refine_2=>exact ⟨0,rfl,Nat.zero_le _,h0,hi,hnn⟩
 rintro m s h ⟨j,rfl,hj,hI,z1,z2⟩
 refine aAA (aAB ?_)
 simp only [go_sem,↓reduceIte,z1,z2]
 refine aAA (aAD ?_)
 simp only [go_sem,↓reduceIte]
 by_cases hjl:j<n
 case neg =>
  have hjl' : ¬ (j:Int)<(n:Int):=by omega
  simp only [hjl',decide_false,Bool.false_eq_true,↓reduceIte]
  refine aAK ?_
  simp only [go_sem,↓reduceIte]
  have e:j=n:=by omega
  subst e
  exact fini _ _ (hup _ _ _ _ _ (.inl rfl) hI)
 have hjl':(j:Int)<(n:Int):=by omega
 simp only [hjl',decide_true,↓reduceIte]
 refine aAF ?_
 simp only [go_sem]
 refine aAA (aAG ?_)
 have w:=step j (upd s (some tc) (.bool true)) h hjl (hup _ _ _ _ _ (.inl rfl) hI) (by simp only [go_sem,if_neg n1];exact z1) (by simp only [go_sem,if_neg n2];exact z2)
 refine WC.mono w ?_
 have a1:IntKind.i64.wrap ((j:Int)+1)=((j+1:Nat):Int):=by rw [show ((j:Int)+1)=((j+1:Nat):Int) from rfl];exact wrapI (by omega)
 have next : ∀ s h,(I (j+1) s h∧s ti = .int .i64 (j:Int)∧s tn = .int .i64 (n:Int))→WS E (.ops [⟨some tx,.bin .add (.tmp ti) (.con (.int .i64 1)),none⟩,⟨some ti,.mov (.tmp tx),none⟩]) [] (fun ex s h=>match ex with | .normal => ∃ m,m<n - j ∧ ∃ j,m=n - j∧j≤n∧I j s h∧s ti = .int .i64 (j:Int)∧s tn = .int .i64 (n:Int) | ex=>fin E (.blk b0::k) Q ex s h) s h:=by
  rintro s h ⟨hI,z1,z2⟩
  refine aAB ?_
  simp only [go_sem,↓reduceIte,z1,a1]
  exact ⟨n - (j+1),by omega,j+1,rfl,by omega,hup _ _ _ _ _ (.inr (.inr rfl)) (hup _ _ _ _ _ (.inr (.inl rfl)) hI),rfl,by simp only [if_neg n5,if_neg n3];exact z2⟩
 intro ex s h q
 cases ex with
 | normal=>exact next s h q
 | ret=>simp only [go_sem] at q;exact (aJp (E:=E) (Q:=Q) (s:=s) (h:=h) k).symm ▸ q
 | panic v=>simp only [go_sem] at q;exact (aFe (E:=E) (Q:=Q) (s:=s) (h:=h) v k).symm ▸ q
 | exit id =>
  simp only [go_sem] at q
  show WExit E id [.blk b1,.code _] _ s h
  simp only [go_sem]
  by_cases e1:id=b1
  · rw [if_pos e1] at q ⊢
    exact next s h q
  · rw [if_neg e1] at q ⊢
    exact q
/-- the test of a loop is over -/
def testP (T:S→H→Prop):Post:=fun ex s h=>match ex with | .normal=>T s h | _=>False
theorem aW4 (T:S→H→Prop) (s:S) (h:H):testP T .normal s h=T s h:=id rfl
attribute [go_sem] aW4
/-- a loop from a number up to n, its test in code of its own: i: the count, c: the test, u, x: what the next count is reckoned in -/
theorem aBZ {b0 b1 ti tc tu tx:Nat} {cd body:ACode} {n i0:Nat} {s:S} {h:H} (hn:n<4611686018427387904) (I:Nat→S→H→Prop)
 (ne:(ti≠tu∧ti≠tx∧tu≠tx)∧b0≠b1)
 (hup : ∀ j s h t v,(t=tu∨t=tx∨t=ti)→I j s h→I j (upd s (some t) v) h)
 (hi:s ti = .int .i64 (i0:Int)) (hin:i0≤n) (h0:I i0 s h)
 (test : ∀ j s h,j≤n→I j s h→s ti = .int .i64 (j:Int)→WS E cd [] (testP fun s' h'=>I j s' h'∧s' ti = .int .i64 (j:Int)∧s' tc = .bool (decide (j<n))) s h)
 (step : ∀ j s h,j<n→I j s h→s ti = .int .i64 (j:Int)→WS E body [] (roundP E (fun j' s h=>I j' s h∧s ti = .int .i64 (j:Int)) j b0 b1 k Q) s h)
 (fini : ∀ s h,I n s h→WNext E k Q s h) :
 WS E (.block b0 (.loop (.seq (.seq cd (.cond (.tmp tc) .skip (.exit b0))) (.seq (.block b1 body) (.ops [⟨some tu,.mov (.tmp ti),none⟩,⟨some tx,.bin .add (.tmp tu) (.con (.int .i64 1)),none⟩,⟨some ti,.mov (.tmp tx),none⟩]))))) k Q s h:=by
 obtain ⟨⟨n1,n2,n3⟩,n6⟩:=ne
 refine aAG (aAP (fun m s h => ∃ j,m=n - j∧j≤n∧I j s h∧s ti = .int .i64 (j:Int)) ?_ (n - i0) ?_)
 case refine_2=>exact ⟨i0,rfl,hin,h0,hi⟩
 rintro m s h ⟨j,rfl,hj,hI,z1⟩
 refine aAA (aAA ?_)
 refine WC.mono (test j s h hj hI z1) ?_
 intro ex s h q
 cases ex with
 | ret=>exact q.elim
 | panic v=>exact q.elim
 | exit id=>exact q.elim
 | normal =>
 obtain ⟨hI,z1,zc⟩:=q
 refine aAD ?_
 simp only [go_sem,↓reduceIte,zc]
 by_cases hjl:j<n
 case neg =>
  simp only [hjl,decide_false,Bool.false_eq_true,↓reduceIte]
  refine aAK ?_
  simp only [go_sem,↓reduceIte]
  have e:j=n:=by omega
  subst e
  exact fini _ _ hI
 simp only [hjl,decide_true,↓reduceIte]
 refine aAF ?_
 simp only [go_sem]
 refine aAA (aAG ?_)
 have w:=step j s h hjl hI z1
 refine WC.mono w ?_
 have a1:IntKind.i64.wrap ((j:Int)+1)=((j+1:Nat):Int):=by rw [show ((j:Int)+1)=((j+1:Nat):Int) from rfl];exact wrapI (by omega)
 have next : ∀ s h,(I (j+1) s h∧s ti = .int .i64 (j:Int))→WS E (.ops [⟨some tu,.mov (.tmp ti),none⟩,⟨some tx,.bin .add (.tmp tu) (.con (.int .i64 1)),none⟩,⟨some ti,.mov (.tmp tx),none⟩]) [] (fun ex s h=>match ex with | .normal => ∃ m,m<n - j ∧ ∃ j,m=n - j∧j≤n∧I j s h∧s ti = .int .i64 (j:Int) | ex=>fin E (.blk b0::k) Q ex s h) s h:=by
  rintro s h ⟨hI,z1⟩
  refine aAB ?_
  simp only [go_sem,↓reduceIte,z1,a1]
  exact ⟨n - (j+1),by omega,j+1,rfl,by omega,hup _ _ _ _ _ (.inr (.inr rfl)) (hup _ _ _ _ _ (.inr (.inl rfl)) (hup _ _ _ _ _ (.inl rfl) hI)),rfl⟩
 intro ex s h q
 cases ex with
 | normal=>exact next s h q
 | ret=>simp only [go_sem] at q;exact (aJp (E:=E) (Q:=Q) (s:=s) (h:=h) k).symm ▸ q
 | panic v=>simp only [go_sem] at q;exact (aFe (E:=E) (Q:=Q) (s:=s) (h:=h) v k).symm ▸ q
 | exit id =>
  simp only [go_sem] at q
  show WExit E id [.blk b1,.code _] _ s h
  simp only [go_sem]
  by_cases e1:id=b1
  · rw [if_pos e1] at q ⊢
    exact next s h q
  · rw [if_neg e1] at q ⊢
    exact q
end
end Go.Proofs.YtdbmeidhlijopaaGreatDoor.Ev

/- Memory: variables that are read alone, records put behind a list, maps by pairs of texts. -/
namespace Go.Proofs.YtdbmeidhlijopaaGreatDoor.Ev
set_option linter.unusedVariables false
set_option linter.unusedSimpArgs false
/-- a variable that is read -/
structure RBox (r:Nat) (cs:List AV) (h:H):Prop where
 get:h.get r=some (.cells cs (some r))
 live:h.kill r≤r
theorem Box.rb {r:Nat} {cs:List AV} {h:H} (b:Box r cs h):RBox r cs h:=⟨b.get,b.live⟩
theorem RBox.lt {r:Nat} {cs:List AV} {h:H} (wf:h.Wf) (b:RBox r cs h):r<h.n:=wf.ob _ _ b.get
theorem RBox.rk {r:Nat} {cs:List AV} {h h':H} {K:Nat→Prop} (b:RBox r cs h) (k:RK K h h') (hr:K r):RBox r cs h':=⟨by rw [k.get _ hr];exact b.get,by rw [k.kill _ hr];exact b.live⟩
theorem RBox.row {r:Nat} {cs:List AV} {h:H} (b:RBox r cs h):h.row r=some cs:=by
 unfold H.row;rw [b.get];simp only;rw [if_pos b.live]
theorem RBox.load {r:Nat} {cs:List AV} {h:H} (b:RBox r cs h) (n i:Nat):loadA h false n (.ptr r i)=cs[i]? := by
 simp only [loadA,b.row,Bool.false_eq_true,if_false]
theorem RBox.loadAgg {r:Nat} {cs:List AV} {h:H} (b:RBox r cs h) {n:Nat} (hn:cs.length=n):loadA h true n (.ptr r 0)=some (.agg cs):=by
 simp only [loadA,b.row,if_true]
 rw [if_pos (by omega)]
 simp [← hn]
theorem RK.less {N N':Nat} {h h':H} (a:RK (Old N) h h') (hn:N'≤N):RK (Old N') h h':=a.weaken fun o ho=>Nat.lt_of_lt_of_le ho hn
/-- reading: one step behind another -/
theorem RK.step {h h1 h2:H} (a:RK (Old h.n) h h1) (b:RK (Old h1.n) h1 h2):RK (Old h.n) h h2:=a.trans (b.less a.n)
/-- one record more -/
theorem FL.push {α:Type} {f:α→List AV} {es:Nat} (hf : ∀ x,(f x).length=es) (h1 : ∀ x,(f x).all AV.one=true) {N:Nat} {h:H} (wf:h.Wf) (hN:N≤h.n) {v:AV} {l:List α} (a:FL f es N h v l) (x:α) (hbig:l.length+1<4294967296) :
 ∃ v' h',aCd (h.new (f x)) es v (.slice h.n 0 1 es)=some (v',h')∧FL f es N h' v' (l ++ [x])∧Keep (Old N) h h'∧RK (Old h.n) h h'∧h'.Wf:=by
 obtain ⟨g,hg,b,k,w,hn⟩:=aAR wf (f x)
 have sl:Sl g es (.slice h.n 0 1 es) [x].length ([x].flatMap f):=by simpa using b.sl1 (hf x)
 have hNg:N≤g.n:=by omega
 obtain ⟨v',h',e,q,kk,r⟩:=FL.app hf h1 w hNg (a.keepN wf k) sl (by simpa using hbig)
 rw [hg]
 exact ⟨v',h',e,q,(k.less hN).trans kk,k.rk.step r,r.wf w⟩
/-! ### a map by pairs of texts: which number -/
abbrev Pth:=List UInt8×List UInt8
def pthC (p:Pth):List AV := [.str p.1,.str p.2]
def mkP:Nat→List Pth→List (AV×AV×Nat)
 | _,[] => []
 | n,p::r=>(.agg (pthC p),.int .i64 (n:Int),n)::mkP (n+1) r
def idxP (p:Pth):List Pth→Option Nat
 | []=>none
 | q::r=>if q=p then some 0 else (idxP p r).map (· + 1)
theorem aRv {p:Pth} : ∀ {l:List Pth},idxP p l=none↔p∉l
 | []=>by simp [idxP]
 | q::r=>by
  simp only [idxP]
  split
  · rename_i e;subst e;simp
  · rename_i e
    rw [Option.map_eq_none_iff,aRv]
    simp [Ne.symm e]
theorem aKq {p:Pth} : ∀ {l:List Pth} {i:Nat},idxP p l=some i→l[i]? = some p
 | [],i,h=>by cases h
 | q::r,i,h=>by
  simp only [idxP] at h
  split at h
  · rename_i e;subst e;cases h;rfl
  · obtain ⟨k,h1,rfl⟩:=Option.map_eq_some_iff.1 h
    simpa using aKq h1
theorem aYG : ∀ {l:List Pth},l.Nodup → ∀ {i:Nat} {p:Pth},l[i]? = some p→idxP p l=some i
 | [],_,i,p,h=>by simp at h
 | q::r,nd,i,p,h=>by
  simp only [idxP]
  cases i with
  | zero=>simp at h;rw [if_pos h]
  | succ i =>
   have h':r[i]? = some p:=by simpa using h
   rw [if_neg,aYG (List.nodup_cons.1 nd).2 h',Option.map_some]
   rintro rfl
   exact (List.nodup_cons.1 nd).1 (List.mem_of_getElem? h')
theorem aYI : ∀ (n:Nat) (l:List Pth),(mkP n l).length=l.length
 | n,[]=>rfl
 | n,p::r=>by simp [mkP,aYI (n+1) r]
theorem aYV (p:Pth) : ∀ (l:List Pth) (n:Nat),mkP n (l ++ [p])=mkP n l ++ [(.agg (pthC p),.int .i64 ((n+l.length:Nat):Int),n+l.length)]
 | [],n=>rfl
 | q::r,n=>by simp only [List.cons_append,mkP,aYV p r (n+1),List.length_cons];rw [show n+1+r.length=n+(r.length+1) by omega]
theorem pth_eq (p q:Pth):aAL [.s,.s] (pthC p) (pthC q)=some (decide (p=q)):=by
 obtain ⟨a,b⟩:=p
 obtain ⟨c,d⟩:=q
 simp only [pthC,aAL,Option.map_some,Bool.and_true,Option.some.injEq,Prod.mk.injEq]
 rw [Bool.eq_iff_iff];simp [Bool.and_eq_true,beq_iff_eq]
theorem aOx (p:Pth) : ∀ (l:List Pth) (n:Nat),idxM (.flat [.s,.s]) (.agg (pthC p)) (mkP n l)=some (idxP p l)
 | [],n=>rfl
 | q::r,n=>by
  simp only [mkP,idxM,keyEq,pth_eq,idxP]
  by_cases e:p=q
  · subst e;simp
  · have e' : ¬ q=p:=Ne.symm e
    simp only [e,e',decide_false,if_false]
    rw [aOx p r (n+1)]
    rfl
theorem aUc : ∀ (l:List Pth) (n i:Nat),i<l.length → ∃ k,(mkP n l)[i]? = some (k,.int .i64 ((n+i:Nat):Int),n+i)
 | [],n,i,h=>by simp at h
 | q::r,n,0,h=>⟨_,rfl⟩
 | q::r,n,i+1,h=>by
  obtain ⟨k,e⟩:=aUc r (n+1) i (by simpa using h)
  exact ⟨k,by simp only [mkP,List.getElem?_cons_succ,e];rw [show n+1+i=n+(i+1) by omega]⟩
/-- the map lies at an object -/
def PMap (o:Nat) (l:List Pth) (h:H):Prop:=h.get o=some (.mem (.map (mkP 0 l) l.length))
theorem PMap.rk {o:Nat} {l:List Pth} {h h':H} {K:Nat→Prop} (m:PMap o l h) (k:RK K h h') (ho:K o):PMap o l h':=by unfold PMap;rw [k.get o ho];exact m
theorem aTL (p:Pth):(keyEq (.flat [.s,.s]) (.agg (pthC p)) (.agg (pthC p))).isSome=true:=by simp only [keyEq,pth_eq];rfl
theorem PMap.getT {o:Nat} {l:List Pth} {h:H} (m:PMap o l h) (p:Pth) (z:AV):aCn h (.flat [.s,.s]) true z (.agg (pthC p)) (.map o)=some (match idxP p l with | some i => .tup [.int .i64 (i:Int),.bool true] | none => .tup [z,.bool false]):=by
 have m':h.get o=_:=m
 simp only [aCn,m',aTL,if_true,aOx]
 cases hi:idxP p l with
 | none=>rfl
 | some i =>
  have:=aKq hi
  obtain ⟨k,e⟩:=aUc l 0 i (List.getElem?_eq_some_iff.1 this).1
  simp only [e,Nat.zero_add]
theorem PMap.getF {o:Nat} {l:List Pth} {h:H} (m:PMap o l h) (p:Pth) (z:AV):aCn h (.flat [.s,.s]) false z (.agg (pthC p)) (.map o)=some (match idxP p l with | some i => .int .i64 (i:Int) | none=>z):=by
 have m':h.get o=_:=m
 simp only [aCn,m',aTL,if_true,aOx]
 cases hi:idxP p l with
 | none=>rfl
 | some i =>
  have:=aKq hi
  obtain ⟨k,e⟩:=aUc l 0 i (List.getElem?_eq_some_iff.1 this).1
  simp only [e,Nat.zero_add];rfl
theorem PMap.len {o:Nat} {l:List Pth} {h:H} (m:PMap o l h):lenMA h (.map o)=some l.length:=by
 have m':h.get o=_:=m
 simp only [lenMA,m',aYI]
theorem PMap.put {o:Nat} {l:List Pth} {h:H} (m:PMap o l h) {p:Pth} (hp:p∉l) : ∃ h',aDW h (.flat [.s,.s]) (.agg (pthC p)) (.int .i64 (l.length:Int)) (.map o)=some h'∧PMap o (l ++ [p]) h' ∧ ∃ X,h'=h.setMem o X:=by
 refine ⟨h.setMem o (.map (mkP 0 (l ++ [p])) (l ++ [p]).length),?_,by unfold PMap;rw [H.get_setMem,if_pos rfl],_,rfl⟩
 have m':h.get o=_:=m
 simp only [aDW,m',aTL,if_true,aOx,aRv.2 hp]
 rw [aYV];simp
theorem a0M {n:Nat} {lo hi:Option AV} {a b:Nat} (h:bounds n lo hi=some (a,b)):a≤b∧b≤n:=by
 unfold bounds at h
 split at h
 · cases h
 rename_i m hm
 have hmn:m≤n:=by
  split at hm
  · cases hm;exact Nat.le_refl _
  · split at hm
    · cases hm;omega
    · cases hm
  · cases hm
 split at h
 · cases h
 rename_i l hl
 cases h
 refine ⟨?_,hmn⟩
 split at hl
 · cases hl;exact Nat.zero_le _
 · split at hl
   · cases hl;omega
   · cases hl
 · cases hl
/-- a part of a slice of one's own -/
theorem Own.cut {N:Nat} {h:H} {v v':AV} (a:Own N h v) {es:Nat} {lo hi:Option AV} (e:aAX es lo hi v=some v'):Own N h v':=by
 cases v with
 | nils=>simp only [aAX] at e;obtain ⟨p,_,rfl⟩:=Option.map_eq_some_iff.1 e;trivial
 | slice o1 i1 len1 es1 =>
  simp only [aAX] at e
  split at e
  · rename_i he;subst he
    obtain ⟨p,hp,rfl⟩:=Option.map_eq_some_iff.1 e
    obtain ⟨cs,gg,q1,q2,q3,q4,q5,q6,q7⟩:=a
    refine ⟨cs,gg,q1,q2,q3,q4,q5,?_,q7⟩
    obtain ⟨b1,b2⟩:=a0M (a:=p.1) (b:=p.2) hp
    have h1:p.1*es1+(p.2 - p.1)*es1=p.2*es1:=by rw [← Nat.add_mul];congr 1;omega
    have h2:p.2*es1≤len1*es1:=Nat.mul_le_mul_right _ b2
    omega
  · cases e
 | _=>exact a.elim
/-! ### records of one's own, written -/
theorem aLc {α β:Type} {f:α→List β} {es:Nat} (hf : ∀ x,(f x).length=es) : ∀ (l:List α) (i:Nat),(l.flatMap f).take (i*es)=(l.take i).flatMap f
 | [],i=>by simp
 | x::l,0=>by simp
 | x::l,i+1=>by
  rw [List.flatMap_cons,Nat.add_mul,Nat.one_mul,List.take_succ_cons,List.flatMap_cons,← aLc hf l i]
  have:(f x).length=es:=hf x
  rw [Nat.add_comm,← this,List.take_length_add_append]
theorem aPN {α β:Type} {f:α→List β} {es:Nat} (hf : ∀ x,(f x).length=es) : ∀ (l:List α) (i:Nat),(l.flatMap f).drop (i*es)=(l.drop i).flatMap f
 | [],i=>by simp
 | x::l,0=>by simp
 | x::l,i+1=>by
  rw [List.flatMap_cons,Nat.add_mul,Nat.one_mul,List.drop_succ_cons,← aPN hf l i]
  have:(f x).length=es:=hf x
  rw [Nat.add_comm,← this,List.drop_length_add_append]
theorem aPT {α β:Type} {f:α→List β} {es:Nat} (hf : ∀ x,(f x).length=es) : ∀ (l:List α),(l.flatMap f).length=l.length*es
 | []=>by simp
 | x::l=>by rw [List.flatMap_cons,List.length_append,aPT hf l,hf x,List.length_cons,Nat.add_mul,Nat.one_mul,Nat.add_comm]
def FO {α:Type} (f:α→List AV) (es N:Nat) (h:H) (v:AV) (l:List α):Prop:=Sl h es v l.length (l.flatMap f)∧Own N h v
theorem FL.fo {α:Type} {f:α→List AV} {es N:Nat} {h:H} {v:AV} {l:List α} (a:FL f es N h v l):FO f es N h v l:=⟨a.1,a.2.own⟩
theorem FO.put {α:Type} {f:α→List AV} {es N o j n:Nat} (hes:0<es) (hf : ∀ x,(f x).length=es) {h:H} (wf:h.Wf) {l:List α} (a:FO f es N h (.slice o j n es) l) {i:Nat} {ys:List α} (hi:i+ys.length≤l.length) (h0:0<ys.length) :
 ∃ h',h.put o (j+i*es) (ys.flatMap f)=some h'∧FO f es N h' (.slice o j n es) (l.take i++ys++l.drop (i+ys.length))∧Keep (Old N) h h':=by
 obtain ⟨⟨q1,q2⟩,cs,g,h1,h2,h3,h4,h5,h6,ct,h7⟩:=a
 have hn:n=l.length:=by simpa [lenSA] using q1
 subst hn
 have hrow:h.row o=some cs:=by unfold H.row;rw [h1];simp only;rw [if_pos h3]
 simp only [H.firstCells] at q2
 rw [if_pos ⟨trivial,Nat.le_refl _⟩,hrow] at q2
 simp only at q2
 rw [if_pos h6] at q2
 have hcs:=Option.some.inj q2
 have hsz:=aPT hf ys
 have hle:(i+ys.length)*es≤l.length*es:=Nat.mul_le_mul_right _ hi
 rw [Nat.add_mul] at hle
 have hfit:j+i*es+(ys.flatMap f).length≤cs.length:=by omega
 have hp : ∃ h',h.put o (j+i*es) (ys.flatMap f)=some h':=by
  unfold H.put;rw [h1];simp only;rw [if_pos ⟨h2,hfit⟩];exact ⟨_,rfl⟩
 obtain ⟨h',hp⟩:=hp
 obtain ⟨cs2,g2,P⟩:=H.put_to hp
 have e12:=P.was
 rw [h1] at e12
 cases e12
 have hl2:h'.kill g≤o:=by rcases P.killg with ⟨_,e⟩ | ⟨_,e⟩ <;> rw [e] <;> first | exact h3 | exact Nat.le_refl _
 have hg2:h'.get o=some (.cells (splice cs (j+i*es) (ys.flatMap f)) (some g)):=by rw [P.get,if_pos rfl]
 have hln:(l.take i++ys++l.drop (i+ys.length)).length=l.length:=by simp;omega
 have hsl:(splice cs (j+i*es) (ys.flatMap f)).length=cs.length:=aGi hfit
 refine ⟨h',hp,⟨⟨by rw [hln];rfl,?_⟩,_,g,hg2,by rw [P.tipo];exact h2,hl2,h4,h5,by rw [hsl];exact h6,?_⟩,⟨fun w => ?_,Nat.le_of_eq P.n.symm,fun k hk => ?_,fun k _=>P.tipo k,fun k hk => ?_⟩⟩
 · have hrow2:h'.row o=some (splice cs (j+i*es) (ys.flatMap f)):=by unfold H.row;rw [hg2];simp only;rw [if_pos hl2]
   simp only [H.firstCells,hrow2,hln]
   rw [if_pos ⟨trivial,Nat.le_refl _⟩,if_pos (by rw [hsl];exact h6)]
   congr 1
   apply List.ext_getElem?
   intro k
   rw [List.getElem?_take,List.getElem?_drop,aUX hfit,List.flatMap_append,List.flatMap_append,← aLc hf,← aPN hf,← hcs]
   by_cases hk:k<l.length*es
   · rw [if_pos hk]
     have hti:((((cs.drop j).take (l.length*es)).take (i*es))).length=i*es:=by simp;omega
     by_cases k1:k<i*es
     · rw [if_pos (by omega),List.append_assoc,List.getElem?_append_left (by omega),List.getElem?_take,if_pos k1,List.getElem?_take,if_pos hk,List.getElem?_drop]
     · rw [if_neg (by omega)]
       by_cases k2:k<i*es+(ys.flatMap f).length
       · rw [if_pos (by omega),List.append_assoc,List.getElem?_append_right (by omega),hti,List.getElem?_append_left (by omega)]
         congr 1;omega
       · rw [if_neg (by omega),List.getElem?_append_right (by simp only [List.length_append,hti];omega)]
         simp only [List.length_append,hti]
         rw [List.getElem?_drop,List.getElem?_take,if_pos (by rw [Nat.add_mul];omega),List.getElem?_drop]
         congr 1;rw [Nat.add_mul];omega
   · rw [if_neg hk,List.getElem?_eq_none]
     simp only [List.length_append,List.length_take,List.length_drop]
     rw [Nat.add_mul];omega
 · rw [P.get]
   by_cases e:g=o
   · subst e;rw [if_pos rfl];exact ⟨_,rfl⟩
   · rw [if_neg e];exact ⟨_,h7⟩
 · have hon:=w.ob _ _ h1
   have hgn:g<h.n:=w.ob _ _ h7
   refine ⟨fun k p hk => ?_,fun k cs' g' hk => ?_,fun k x hk => ?_,fun k p hk => ?_,fun k hk => ?_⟩
   · rw [P.n]
     rcases P.gr k p hk with rfl | hk
     · exact hgn
     · exact w.gr _ _ hk
   · rw [P.get] at hk
     split at hk
     · rename_i e;subst e;cases hk;rw [P.tipo];exact w.mem _ _ _ h1
     · rw [P.tipo];exact w.mem _ _ _ hk
   · rw [P.n]
     rw [P.get] at hk
     split at hk
     · rename_i e;subst e;exact hon
     · exact w.ob _ _ hk
   · have hk2:h'.tip k=p.1:=by unfold H.tip;rw [hk]
     have hk3:h'.kill k=p.2:=by unfold H.kill;rw [hk]
     rcases P.gr k p hk with rfl | hk
     · rw [← hk2,← hk3,P.tipo,h2];exact hl2
     · exact w.kt _ _ hk
   · rw [P.tipo,P.n];rw [P.n] at hk;exact w.tl _ hk
 · rw [P.get,if_neg]
   rintro rfl
   have:k<N:=hk
   omega
 · refine P.kill k ?_
   rintro rfl
   have:k<N:=hk
   omega
/-- one record is written -/
theorem FO.set {α:Type} {f:α→List AV} {es N:Nat} (hes:0<es) (hf : ∀ x,(f x).length=es) (h1 : ∀ x,(f x).all AV.one=true) {h:H} (wf:h.Wf) {v:AV} {l:List α} (a:FO f es N h v l) {i:Nat} (hi:i<l.length) (x:α) :
 ∃ o j,aAJ es v (.int .i64 (i:Int))=some (.ptr o j) ∧ ∃ h',storeA h es (.ptr o j) (.agg (f x))=some h'∧FO f es N h' v (l.set i x)∧Keep (Old N) h h':=by
 cases v with
 | nils=>have:=a.1.len;simp [lenSA] at this;omega
 | slice o j n es' =>
  have hn:n=l.length:=by have:=a.1.len;simpa [lenSA] using this
  have he:es'=es:=by
   have:=a.1.cells
   simp only [H.firstCells] at this
   split at this
   · rename_i hc;exact hc.1
   · cases this
  subst he
  obtain ⟨h',e,q,k⟩:=FO.put hes hf wf a (i:=i) (ys := [x]) (by simp;omega) (by simp)
  refine ⟨o,j+i*es',?_,h',?_,?_,k⟩
  · simp only [aAJ]
    rw [if_pos ⟨trivial,by omega,by omega⟩,Int.toNat_natCast]
  · simp only [storeA]
    rw [if_pos ⟨hf x,h1 x⟩,show (AV.agg (f x)).cells=f x from rfl]
    simpa using e
  · rw [List.set_eq_take_append_cons_drop,if_pos hi]
    simpa using q
 | _=>exact a.2.elim
/-- an element of a list: its place and its cells, from whatever memory behind it is read -/
theorem IsL.el {α:Type} {N es:Nat} {P:H→List AV→α→Prop} {h:H} {v:AV} {l:List α} (a:IsL N es P h v l) {i:Nat} (hi:i<l.length) (hes:0<es) :
 ∃ o j cs,aAJ es v (.int .i64 (i:Int))=some (.ptr o j)∧cs.length=es∧P h cs l[i] ∧ ∀ g,RK (Old h.n) h g→loadA g true es (.ptr o j)=some (.agg cs) ∧ ∀ k,k<es→loadA g false 1 (.ptr o (j+k))=cs[k]? := by
 obtain ⟨r,css,h1,h2,h3,h4⟩:=a
 have hi':i<css.length:=by omega
 have s:Slot (Old h.n) h v:=(r.slotA (gs := []) (by simp)).mono fun j q=>q.1
 have key : ∀ g,RK (Old h.n) h g → ∃ o j,aAJ es v (.int .i64 (i:Int))=some (.ptr o j)∧(∀ k,k<es→loadA g false 1 (.ptr o (j+k))=css[i][k]?)∧loadA g true es (.ptr o j)=some (.agg css[i]):=by
  intro g k
  have h1:=h1.rk k s
  rw [← h2,show css.flatten=css.flatMap (fun x=>x) by rw [List.flatMap_id']] at h1
  exact Sl.elem h1 h3 hi' hes .i64
 obtain ⟨o,j,e,_,_⟩:=key h (RK.refl _ _)
 refine ⟨o,j,css[i],e,h3 _ (List.getElem_mem _),h4 i hi' hi,fun g k => ?_⟩
 obtain ⟨o',j',e',q1,q2⟩:=key g k
 rw [e] at e';cases e'
 exact ⟨q2,q1⟩
end Go.Proofs.YtdbmeidhlijopaaGreatDoor.Ev

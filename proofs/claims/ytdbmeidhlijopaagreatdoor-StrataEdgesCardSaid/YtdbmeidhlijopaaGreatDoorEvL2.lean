/- Ranges over functions: what an iterator is, and a rule for the loop over it. -/
import Derived.Test.YtdbmeidhlijopaaGreatDoorEv24
import Derived.Test.YtdbmeidhlijopaaGreatDoorEv19
namespace Go.Proofs.YtdbmeidhlijopaaGreatDoor.Ev
set_option linter.unusedVariables false
set_option linter.unusedSimpArgs false

theorem Keep.pushLoop {N:Nat} {h:H} (hN:N≤h.n) (L:LoopRec):Keep (Old N) h (h.push (.loop L)) where
 wf:=fun w=>by
  refine ⟨fun g p e=>Nat.lt_succ_of_lt (w.gr g p e),fun o cs g e => ?_,fun o x e => ?_,w.kt,w.tl_push _⟩
  · rw [H.get_push] at e
    split at e
    · cases e
    · exact w.mem o cs g e
  · rw [H.get_push] at e
    split at e
    · rename_i e';subst e';exact Nat.lt_succ_self _
    · exact Nat.lt_succ_of_lt (w.ob o x e)
 n:=Nat.le_succ _
 get:=fun o ho=>by rw [H.get_push,if_neg];exact Nat.ne_of_lt (Nat.lt_of_lt_of_le ho hN)
 tip:=fun _ _=>rfl
 kill:=fun _ _=>rfl
theorem H.get_setLoop (h:H) (o:Nat) (L:LoopRec) (j:Nat):(h.setLoop o L).get j=if j=o then some (.loop L) else h.get j:=Tr.get_set _ _ _ _
theorem Keep.setLoop {h:H} {o:Nat} {L L':LoopRec} (hg:h.get o=some (.loop L)):Keep (fun j=>j≠o) h (h.setLoop o L') where
 wf:=fun w=>by
  refine ⟨w.gr,fun j cs g e => ?_,fun j x e => ?_,w.kt,w.tl⟩
  · rw [H.get_setLoop] at e
    split at e
    · cases e
    · exact w.mem j cs g e
  · rw [H.get_setLoop] at e
    split at e
    · rename_i e';subst e';exact w.ob _ _ hg
    · exact w.ob j x e
 n:=Nat.le_refl _
 get:=fun j hj=>by rw [H.get_setLoop,if_neg hj]
 tip:=fun _ _=>rfl
 kill:=fun _ _=>rfl


/-! ### whose rows are whose: those of the caller (ahead of N, and G: what came of its rounds), those of the iterator -/



end Go.Proofs.YtdbmeidhlijopaaGreatDoor.Ev

/- Slices whose elements have several cells: an element read, cut out, and written. -/
namespace Go.Proofs.YtdbmeidhlijopaaGreatDoor.Ev
set_option linter.unusedVariables false
set_option linter.unusedSimpArgs false

theorem aWu {α:Type} {f:α→List AV} {es:Nat} : ∀ {l:List α},(∀ x∈l,(f x).length=es)→(l.flatMap f).length=l.length*es
 | [],_=>by simp
 | x::l,h=>by
  rw [List.flatMap_cons,List.length_append,aWu (fun y hy=>h y (by simp [hy])),h x (by simp),List.length_cons,Nat.add_mul]
  omega
theorem aU2 {α:Type} {f:α→List AV} {es:Nat} : ∀ {l:List α} {i:Nat} (hi:i<l.length),(∀ x∈l,(f x).length=es)→((l.flatMap f).drop (i*es)).take es=f l[i]
 | [],i,hi,_=>by simp at hi
 | x::l,0,hi,h=>by
  rw [List.flatMap_cons,Nat.zero_mul,List.drop_zero,List.take_append_of_le_length (by rw [h x (by simp)];exact Nat.le_refl _),List.take_of_length_le (by rw [h x (by simp)];exact Nat.le_refl _)]
  rfl
 | x::l,i+1,hi,h=>by
  have hx:=h x (by simp)
  have e:(i+1)*es=(f x).length+i*es:=by rw [hx,Nat.add_mul];omega
  rw [List.flatMap_cons,e,← List.drop_drop,List.drop_append_of_le_length (Nat.le_refl _),List.drop_length,List.nil_append]
  have:=aU2 (l:=l) (i:=i) (by simpa using hi) (fun y hy=>h y (by simp [hy]))
  simpa using this

/-- an element of a slice: its address, the row behind it -/
theorem Sl.addr {h:H} {v:AV} {es n:Nat} {cs:List AV} (a:Sl h es v n cs) {i:Nat} (hi:i<n) (hes:0<es) (k:IntKind) :
 ∃ o j row,v = .slice o j n es∧aAJ es v (.int k (i:Int))=some (.ptr o (j+i*es))∧h.row o=some row∧j+n*es≤row.length∧cs=(row.drop j).take (n*es):=by
 obtain ⟨h1,h2⟩:=a
 cases v <;> simp only [lenSA] at h1 <;> (try (cases h1;done))
 case nils=>cases h1;omega
 case slice o j len es' =>
  cases h1
  simp only [H.firstCells] at h2
  split at h2
  case isFalse=>cases h2
  rename_i hc
  obtain ⟨rfl,_⟩:=hc
  split at h2
  · rename_i row hrow
    split at h2
    case isFalse=>cases h2
    rename_i hle
    cases h2
    refine ⟨o,j,row,rfl,?_,hrow,hle,rfl⟩
    simp only [aAJ]
    rw [if_pos ⟨trivial,by omega,by omega⟩]
    simp
  · split at h2
    · rename_i h0
      have:0<n*es':=Nat.mul_pos (by omega) hes
      omega
    · cases h2
theorem mul_in {i n es:Nat} (hi:i<n):i*es+es≤n*es:=by
 have:(i+1)*es≤n*es:=Nat.mul_le_mul_right _ hi
 rw [Nat.add_mul] at this
 omega
theorem cut_in {row:List AV} {j i n es:Nat} (hi:i<n):((((row.drop j).take (n*es)).drop (i*es)).take es)=((row.drop (j+i*es)).take es):=by
 have:=mul_in (es:=es) hi
 rw [List.drop_take,List.take_take,List.drop_drop]
 congr 1
 omega

end Go.Proofs.YtdbmeidhlijopaaGreatDoor.Ev

/- An answer's heap may be told with fewer objects: what is within the model's memory alone is left out. -/
namespace Go.Proofs.YtdbmeidhlijopaaGreatDoor.Ev
set_option linter.unusedVariables false
set_option linter.unusedSimpArgs false

/-- the same heap, but from an object on maps and the like are told no more -/
structure Weak (n0:Nat) (h1 h2:H):Prop where
 n:h2.n=h1.n
 gr : ∀ g,h2.gr.get g=h1.gr.get g
 ob : ∀ o,h2.get o=h1.get o∨(n0≤o∧h2.get o=some .other ∧ ∃ X,h1.get o=some (.mem X))
theorem Weak.tip {n0:Nat} {h1 h2:H} (k:Weak n0 h1 h2) (g:Nat):h2.tip g=h1.tip g:=by unfold H.tip;rw [k.gr]
theorem Weak.kill {n0:Nat} {h1 h2:H} (k:Weak n0 h1 h2) (g:Nat):h2.kill g=h1.kill g:=by unfold H.kill;rw [k.gr]
theorem Weak.get {n0:Nat} {h1 h2:H} (k:Weak n0 h1 h2) {o:Nat} {x:AObj} (e:h2.get o=some x) (hx:x ≠ .other):h1.get o=some x:=by
 rcases k.ob o with h | ⟨_,h,_⟩
 · rw [← h];exact e
 · rw [h] at e;cases e;exact absurd rfl hx
theorem Weak.cells {n0:Nat} {h1 h2:H} (k:Weak n0 h1 h2) {o:Nat} {cs:List AV} {g:Option Nat} (e:h1.get o=some (.cells cs g)):h2.get o=some (.cells cs g):=by
 rcases k.ob o with h | ⟨_,h,X,hX⟩
 · rw [h];exact e
 · rw [hX] at e;cases e
theorem Weak.row {n0:Nat} {h1 h2:H} (k:Weak n0 h1 h2) {o:Nat} {cs:List AV} (e:h2.row o=some cs):h1.row o=some cs:=by
 unfold H.row at e ⊢
 split at e
 · rename_i cs' h;rw [k.get h (by simp)];exact e
 · rename_i cs' g h;rw [k.get h (by simp)];rw [k.kill] at e;exact e
 · cases e
theorem Weak.put {n0:Nat} {g h2 h':H} {o i:Nat} {vs:List AV} (k:Weak n0 g h2) (e:h2.put o i vs=some h') : ∃ g',g.put o i vs=some g'∧Weak n0 g' h':=by
 unfold H.put at e ⊢
 split at e
 case h_2=>cases e
 rename_i cs gr hget
 rw [k.get hget (by simp)]
 simp only [k.tip] at e ⊢
 split at e
 case isFalse=>cases e
 rename_i hc
 rw [if_pos hc]
 cases e
 refine ⟨_,rfl,?_⟩
 by_cases hgo:gr=o
 · rw [if_pos hgo,if_pos hgo]
   refine ⟨k.n,k.gr,fun o' => ?_⟩
   show Tr.get (Tr.set _ _ _) _=Tr.get (Tr.set _ _ _) _∨_∧Tr.get (Tr.set _ _ _) _=_ ∧ ∃ X,Tr.get (Tr.set _ _ _) _=_
   simp only [Tr.get_set]
   by_cases ho:o'=o
   · simp [ho]
   · simp only [ho,if_false];exact k.ob o'
 · rw [if_neg hgo,if_neg hgo]
   refine ⟨k.n,fun g1 => ?_,fun o' => ?_⟩
   · show Tr.get (Tr.set _ _ _) _=Tr.get (Tr.set _ _ _) _
     simp only [Tr.get_set,k.gr]
   · show Tr.get (Tr.set _ _ _) _=Tr.get (Tr.set _ _ _) _∨_∧Tr.get (Tr.set _ _ _) _=_ ∧ ∃ X,Tr.get (Tr.set _ _ _) _=_
     simp only [Tr.get_set]
     by_cases ho:o'=o
     · simp [ho]
     · simp only [ho,if_false];exact k.ob o'
section
variable {P:Program} {B0:Nat}
theorem Rel.weak {m:M} {h1 h2:H} {w:World} {n0:Nat} (r:Rel P B0 m h1 w) (k:Weak n0 h1 h2):Rel P B0 m h2 w where
 base:=r.base
 lt:=fun o x h=>by rw [k.n];exact r.lt o x h
 row:=fun h1' h2'=>r.row (k.get h1' (by simp)) h2'
 val:=fun h1' h2'=>r.val (k.row h1') h2'
 own:=fun h1' h2'=>r.own (k.get h1' (by simp)) h2'
 ro:=fun h1' h2'=>r.ro (k.get h1' (by simp)) h2'
 sep:=fun h1' h2' h3 h4=>by
  obtain ⟨g,c1,c2,e1,e2⟩:=r.sep h1' h2' h3 h4
  exact ⟨g,c1,c2,k.cells e1,k.cells e2⟩
 ord:=fun h1' h2' h3 h4 h5 h6=>r.ord h1' (k.get h2' (by simp)) (k.get h3 (by simp)) (by rw [← k.kill];exact h4) h5 h6
 blk:=r.blk
 any:=fun h1'=>by
  obtain ⟨ob,e⟩:=r.any h1'
  rcases k.ob _ with h | ⟨_,h,_⟩
  · exact ⟨ob,by rw [h];exact e⟩
  · exact ⟨_,h⟩
 lp:=fun h1' h2'=>r.lp (k.get h1' (by simp)) h2'
 mm:=fun h1' h2'=>r.mm (k.get h1' (by simp)) h2'
 gb:=fun h1'=>r.gb (k.get h1' (by simp))
 wf:={
  gr:=fun g p h=>by rw [k.n];exact r.wf.gr g p (by rw [← k.gr];exact h)
  mem:=fun o cs g h=>by rw [k.tip];exact r.wf.mem o cs g (k.get h (by simp))
  ob:=fun o x h=>by
   rw [k.n]
   rcases k.ob o with h' | ⟨_,_,X,h'⟩
   · exact r.wf.ob o x (by rw [← h'];exact h)
   · exact r.wf.ob o _ h'
  kt:=fun g p h=>r.wf.kt g p (by rw [← k.gr];exact h)
  tl:=fun g h=>by rw [k.n,k.tip];rw [k.n] at h;exact r.wf.tl g h }
theorem FnOK.weak {f:Nat} {args:List AV} {h:H} {R R':AOut→H→Prop} (c:FnOK P B0 f args h R) (hr : ∀ r h1,R r h1 → ∃ h2,Weak h.n h1 h2∧R' r h2):FnOK P B0 f args h R':=by
 intro m w cargs h1 h2
 refine (c m w cargs h1 h2).mono ?_
 rintro e w' ⟨r,h',q,m',he,hrel,hf⟩
 obtain ⟨h2',k,q'⟩:=hr r h' q
 refine ⟨r,h2',q',m',he,hrel.weak k,{ hf with n:=by rw [k.n];exact hf.n,keep:=fun o ho hm => ?_ }⟩
 refine ⟨?_,(hf.keep o ho hm).2⟩
 rcases k.ob o with h | ⟨hn,_,_⟩
 · rw [h];exact (hf.keep o ho hm).1
 · omega
end

/-- code, then code: what is between them -/
theorem WS_mid {E:Env} {k:List Fr1} {Q:Post} {s:S} {h:H} {a b:ACode} (M:S→H→Prop) (w:WS E a [] (fun ex s h=>ex = .normal∧M s h) s h) (kk : ∀ s h,M s h→WS E b k Q s h):WS E (.seq a b) k Q s h:=by
 refine aAA ?_
 have w':WC E a (fun ex s h=>ex = .normal∧M s h) s h:=w
 refine w'.mono ?_
 rintro ex s' h' ⟨rfl,m⟩
 exact kk s' h' m

/-! ### a map that is ranged over, unchanged -/
theorem H.get_setMem (h:H) (o:Nat) (X:MObj) (j:Nat):(h.setMem o X).get j=if j=o then some (.mem X) else h.get j:=Tr.get_set _ _ _ _
/-- a map whose entries' stamps are in order -/
structure MapAt (h:H) (mo:Nat) (es:List (AV×AV×Nat)) (c:Nat):Prop where
 get:h.get mo=some (.mem (.map es c))
 lt : ∀ e∈es,e.2.2<c
 nd:(es.map (·.2.2)).Nodup
/-- the entries that were met -/
structure IterAt (h:H) (o mo:Nat) (es:List (AV×AV×Nat)) (c:Nat) (seen:List Nat):Prop where
 get:h.get o=some (.mem (.miter (some mo) c seen c))
 nd:seen.Nodup
 sub : ∀ x∈seen,x∈es.map (·.2.2)
theorem aPn : ∀ {l m:List Nat},l.Nodup→(∀ x∈l,x∈m)→l.length≤m.length
 | [],m,_,_=>Nat.zero_le _
 | a::r,m,hn,hs=>by
  rw [List.nodup_cons] at hn
  have ha:a∈m:=hs a List.mem_cons_self
  have h1:=aPn (l:=r) (m:=m.erase a) hn.2 fun x hx=>(List.mem_erase_of_ne (by rintro rfl;exact hn.1 hx)).2 (hs x (List.mem_cons_of_mem _ hx))
  rw [List.length_erase_of_mem ha] at h1
  have:=List.length_pos_of_mem ha
  simp only [List.length_cons];omega
theorem aUI {h:H} {o mo:Nat} {es:List (AV×AV×Nat)} {c:Nat} {seen:List Nat} {K:AV→H→Prop} (hm:MapAt h mo es c) (hi:IterAt h o mo es c seen) (hne:mo≠o)
 (hend:(∀ e∈es,e.2.2∈seen)→K (.tup [.bool false]) h)
 (hnext : ∀ e∈es,e.2.2∉seen → ∀ h',h'=h.setMem o (.miter (some mo) c (seen ++ [e.2.2]) c)→MapAt h' mo es c→IterAt h' o mo es c (seen ++ [e.2.2])→aJs h' (.ptr o 0)=some (.tup [e.1,e.2.1]) →
  es.length - (seen ++ [e.2.2]).length<es.length - seen.length→K (.tup [.bool true,e.1,e.2.1]) h') :
 nextP h K (.ptr o 0):=by
 unfold nextP
 simp only [hi.get,hm.get]
 refine ⟨?_,?_,?_⟩
 · cases es with
   | nil=>exact .inr (.inl rfl)
   | cons e r=>exact .inr (.inr ⟨e,List.mem_cons_self,hm.lt e List.mem_cons_self⟩)
 · intro hall
   refine hend fun e he => ?_
   refine Decidable.byContradiction fun hn => ?_
   have:=hall e he (by simpa using hn)
   have:=hm.lt e he
   omega
 · intro e he hs
   have hs':e.2.2∉seen:=by simpa using hs
   have hm':MapAt (h.setMem o (.miter (some mo) c (seen ++ [e.2.2]) c)) mo es c:=⟨by rw [H.get_setMem,if_neg hne];exact hm.get,hm.lt,hm.nd⟩
   have hi':IterAt (h.setMem o (.miter (some mo) c (seen ++ [e.2.2]) c)) o mo es c (seen ++ [e.2.2]):=by
    refine ⟨by rw [H.get_setMem,if_pos rfl],?_,?_⟩
    · rw [List.nodup_append]
      refine ⟨hi.nd,by simp,?_⟩
      intro a ha b hb;simp only [List.mem_singleton] at hb;subst hb
      intro e';subst e';exact hs' ha
    · intro x hx
      rcases List.mem_append.1 hx with hx | hx
      · exact hi.sub x hx
      · simp only [List.mem_singleton] at hx;subst hx;exact List.mem_map.2 ⟨e,he,rfl⟩
   refine hnext e he hs' _ rfl hm' hi' ?_ ?_
   · unfold aJs
     simp only [hi'.get,hm'.get,List.getLast?_append,List.getLast?_singleton,Option.some_or,if_true]
     have hf:es.find? (fun x=>x.2.2==e.2.2)=some e:=by
      have : ∀ (l:List (AV×AV×Nat)),(l.map (·.2.2)).Nodup→e∈l→l.find? (fun x=>x.2.2==e.2.2)=some e:=by
       intro l
       induction l with
       | nil=>intro _ h;cases h
       | cons a r ih =>
        intro hnd hmem
        simp only [List.map_cons,List.nodup_cons] at hnd
        rcases List.mem_cons.1 hmem with rfl | hmem
        · simp
        · have hne':(a.2.2==e.2.2)=false:=by
           rw [beq_eq_false_iff_ne]
           intro e';exact hnd.1 (by rw [e'];exact List.mem_map.2 ⟨e,hmem,rfl⟩)
          rw [List.find?_cons,hne']
          exact ih hnd.2 hmem
      exact this es hm.nd he
     rw [hf];rfl
   · have hle:(seen ++ [e.2.2]).length≤(es.map (·.2.2)).length:=aPn hi'.nd hi'.sub
     rw [List.length_map] at hle
     simp only [List.length_append,List.length_singleton] at hle ⊢
     omega
end Go.Proofs.YtdbmeidhlijopaaGreatDoor.Ev

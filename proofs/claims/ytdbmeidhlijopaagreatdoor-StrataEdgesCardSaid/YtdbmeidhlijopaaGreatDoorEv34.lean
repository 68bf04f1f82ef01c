/- slices.SortFunc over structs of plain cells stands for itself: what it does, by the kit's contract. -/
import Derived.Test.YtdbmeidhlijopaaGreatDoorEv30
import Derived.Shelf.SlSortCmp.NoneTotal
namespace Go.Proofs.YtdbmeidhlijopaaGreatDoor.Ev
open Go.Sort Go.Proofs Go.Lib Go.Shelf
set_option linter.unusedVariables false
set_option linter.unusedSimpArgs false
section
variable {P:Program} {ρ:Ren} {α:Type} [Inhabited α]
/-- a comparison that is walked over the interpreter, as the contract asks for it -/
theorem a1r {E : Env} (hm : P.follows .mixedOrders = true) (hT : TableOK P E) (hO : OvOK P 0 E.ov) {g : Nat} {fn : Func} (hf : P.funcs[g]? = some fn) (hn : (fn.name == "runtime.NumGoroutine") = false) (hb : fn.body.isSome = true)
 {encA:α→List AV} {enc:α→List Value} {k:Nat} (hV : ∀ (m:M) x,VRels m (encA x) (enc x)) {cf:α→α→Int} (hw : ∀ x y (h:H),h.Wf→WCall E g [.agg (encA x),.agg (encA y)] h fun r _=>r = .val (.int .i64 (cf x y)))
 (blk off size:Nat) (w:World):CmpLays P g #[] enc k cf blk off size w:=by
 intro mm os dk hdk x y
 generalize sortWorldK enc k w blk off mm dk os=W
 obtain ⟨c,hc⟩:=Option.isSome_iff_exists.1 hb
 have r0:Rel P 0 M0 H0 W:=Rel.start (Nat.zero_le _)
 have hok:=aLr (B0:=0) hm hT hO (hw x y H0 r0.wf)
 have hv:VRels M0 [.agg (encA x),.agg (encA y)] [.agg (enc x).toArray,.agg (enc y).toArray] := .cons (.agg (hV _ x)) (.cons (.agg (hV _ y)) .nil)
 obtain ⟨h1,h2⟩:=aPX hf hn hc (hok M0 W _ r0 hv)
 have h3:=CallsIn.mono h2 (R':=fun e w'=>e = .returned (.int .i64 (cf x y)) ∧ ∃ q os',w'=grow (W.drewN q) os') ?_
 · exact callsIn_wide.1 h3
 rintro e w' ⟨r1,h',rfl,m1,hE,r1,f1⟩
 cases hE with
 | val hvr =>
  cases hvr
  refine ⟨rfl,w'.drawn - W.drawn,w'.heap.extract W.heap.size w'.heap.size,?_⟩
  have hd:=f1.dr rfl
  have hheap:w'.heap=W.heap++w'.heap.extract W.heap.size w'.heap.size:=by
   apply Array.ext_getElem?
   intro b
   by_cases hb:b<W.heap.size
   · rw [f1.blk b hb (.inr fun o base sz h=>by cases h),Array.getElem?_append_left hb]
   · have hs:=f1.size
     rw [Array.getElem?_append_right (by omega),Array.getElem?_extract]
     by_cases hb2:b<w'.heap.size
     · rw [if_pos (by omega)];congr 1;omega
     · rw [if_neg (by omega),Array.getElem?_eq_none (by omega)]
  unfold grow
  rw [show (W.drewN (w'.drawn - W.drawn)).heap=W.heap from rfl,← hheap]
  obtain ⟨o1,o2,o3⟩:w'.os=W.os∧w'.tape=W.tape∧w'.output=W.output:=⟨f1.os,f1.tape,f1.output⟩
  have hdn : ∀ (n:Nat) (W:World),(W.drewN n).drawn=W.drawn+n∧(W.drewN n).os=W.os∧(W.drewN n).tape=W.tape∧(W.drewN n).output=W.output:=fun n W=>⟨rfl,rfl,rfl,rfl⟩
  obtain ⟨q1,q2,q3,q4⟩:=hdn (w'.drawn - W.drawn) W
  cases w' with
  | mk heap tape drawn os output =>
   simp only at q1 o1 o2 o3 hd ⊢
   congr 1
   rw [q1];omega
omit [Inhabited α] in
theorem aK9 {β:Type} {f:α→List β} {k:Nat} (hk : ∀ x,(f x).length=k) : ∀ l:List α,(l.flatMap f).length=l.length*k
 | []=>by simp
 | x::l=>by rw [List.flatMap_cons,List.length_append,aK9 hk l,hk x,List.length_cons,Nat.add_mul,Nat.one_mul,Nat.add_comm]
theorem aMr {β:Type} [Inhabited β] {f:α→List β} {k:Nat} (hk : ∀ x,(f x).length=k) : ∀ (l:List α) (t:Nat),t<l.length*k→(l.flatMap f)[t]! = (f l[t / k]!)[t % k]!
 | [],t,h=>by simp at h
 | x::l,t,h=>by
  have k0:0<k:=by
   rcases Nat.eq_zero_or_pos k with h0 | h0
   · subst h0;simp at h
   · exact h0
  rw [List.flatMap_cons]
  by_cases ht:t<k
  · rw [Nat.div_eq_of_lt ht,Nat.mod_eq_of_lt ht]
    simp only [List.getElem!_eq_getElem?_getD]
    rw [List.getElem?_append_left (by rw [hk];exact ht)]
    rfl
  · have ih:=aMr hk l (t - k) (by simp only [List.length_cons,Nat.add_mul,Nat.one_mul] at h;omega)
    have e1:t / k=(t - k) / k+1:=by rw [Nat.div_eq_sub_div k0 (by omega)]
    have e2:t % k=(t - k) % k:=Nat.mod_eq_sub_mod (by omega)
    rw [e1,e2]
    simp only [List.getElem!_eq_getElem?_getD] at ih ⊢
    rw [List.getElem?_append_right (by rw [hk];omega),hk,ih]
    rfl
theorem aTi {enc:α→List Value} {k:Nat} (hk : ∀ x,(enc x).length=k) (l:List α):flatK enc k l.toArray=(l.flatMap enc).toArray:=by
 refine ext_get! (by simp only [size_flatK,List.size_toArray];rw [aK9 hk]) fun t ht => ?_
 have ht':t<l.length*k:=by simpa using ht
 rw [get_flatK _ _ _ _ (by simpa using ht')]
 have:=aMr hk l t ht'
 simp only [List.getElem!_toArray] at this ⊢
 exact this.symm
theorem aYE (F:Array Value) (vs:List Value) (h:vs.length=F.size):setMany F 0 vs=vs.toArray:=by
 refine ext_get! (by simp [h]) fun t ht => ?_
 have ht':t<F.size:=by simpa using ht
 rw [get_setMany _ _ _ _ ht',if_pos ⟨Nat.zero_le _,by omega⟩,Nat.sub_zero]
 simp
theorem aVr {enc:α→List Value} {k:Nat} (hk : ∀ x,(enc x).length=k) {w:World} {blk off:Nat} {l l':List α} (hH:HoldsK enc k w blk off l.toArray) (hl:l'.length=l.length) :
 putRowK enc k w blk off l'.toArray=w.setCells blk off (l'.flatMap enc):=by
 have hlen : ∀ l:List α,(l.flatMap enc).length=l.length*k:=fun l=>aK9 hk l
 have e:=setCells_putRow w blk off (l'.flatMap enc) 0 (flatK enc k l.toArray) (by simp [hlen,hl])
 rw [Nat.add_zero,putRow_self id w blk off _ hH,aYE _ _ (by simp [hlen,hl])] at e
 rw [e,← aTi hk]
 rfl
theorem Fr.grown {B0:Nat} {m:M} {h:H} {w w':World} (h1:w'.os=w.os) (h2:w'.tape=w.tape) (h3:w'.output=w.output) (h4:w.heap.size≤w'.heap.size) (h5 : ∀ b,b<w.heap.size→w'.heap[b]? = w.heap[b]?) (h6:w.drawn≤w'.drawn):Fr B0 m m h h w w' :=
 ⟨M.le_refl m,h1,h2,h3,h4,fun b hb _=>h5 b hb,Nat.le_refl _,fun o _ hmo=>⟨rfl,hmo⟩,fun o b base sz h1 h2=>(by rw [h2] at h1;cases h1),fun _=>h6⟩
/-- a slice is sorted where it lies -/
def sortG (es:Nat) (f:Nat) (dec:List AV→Option (List α)) (encA:α→List AV) (le:α→α→Bool):List AV→H→Option (AOut×H)
 | [.nils,.func g []],h=>if g=f then some (.val (.tup []),h) else none
 | [.slice o i len es',.func g []],h =>
  if (g=f∧es'=es)∧len<4611686018427387904 then
   (if len=0 then some (.val (.tup []),h) else
   match h.firstCells es len (.slice o i len es) with
   | some cs=>match dec cs with
    | some l=>(h.put o i ((l.mergeSort le).flatMap encA)).map (.val (.tup []),·)
    | none=>none
   | none=>none)
  else none
 | _,_=>none
theorem a1P {B : Nat} {E : Env} (hm : P.follows .mixedOrders = true) (hT : TableOK P E) (hO : OvOK P 0 E.ov) {g : Nat} {fn : Func} (hf : P.funcs[g]? = some fn) (hn : (fn.name == "runtime.NumGoroutine") = false) (hb : fn.body.isSome = true)
 (eg : ∀ args w,(callFunc g args).run P w = .ok (.enter g args) w) (ef : ∀ args w,(callFunc (ρ.f 6) args).run P w = .ok (.enter (ρ.f 6) args) w)
 {encA:α→List AV} {enc:α→List Value} {k:Nat} (hk0:0<k) (hk : ∀ x,(enc x).length=k) (h1 : ∀ x,∀ v∈enc x,v.oneCell'=true) (hV : ∀ (m:M) x,VRels m (encA x) (enc x))
 {cf:α→α→Int} (hw : ∀ x y (h:H),h.Wf→WCall E g [.agg (encA x),.agg (encA y)] h fun r _=>r = .val (.int .i64 (cf x y)))
 (hS:SWO (ltOf cf)) (hTt : ∀ x y,(ltOf cf) x y=false→(ltOf cf) y x=false→x=y)
 (hU : ∀ (m:M) (v:Value) (x:α) (j:Nat) (a:AV),(encA x)[j]? = some a→VRel m a v→(enc x)[j]? = some v)
 (L:SlLaysF0.n6 P ρ) (aE : ∀ w,(isAgg (ρ.t 24)).run P w = .ok true w) (zE : ∀ w,(Go.sizeOf (ρ.t 24)).run P w = .ok k w)
 {dec:List AV→Option (List α)} (hd : ∀ cs l,dec cs=some l→cs=l.flatMap encA)
 {args:List AV} {h h':H} {r:AOut} (hg:sortG k g dec encA (fun x y => !(ltOf cf) y x) args h=some (r,h')):FnOK P B (ρ.f 6) args h (fun r1 h1=>r1=r∧h1=h'):=by
 have none_case : ∀ (m:M) (w:World) (p:Option Addr) (cap:Nat) (fv:Value),Rel P B m h w→Runs P (ρ.f 6) ⟨[.slice p 0 cap,fv]⟩ w (CallR P B m h w fun r1 h1=>r1 = .val (.tup [])∧h1=h):=by
  intro m w p cap fv hr
  refine .inl ⟨ef _ _,CallsIn.mono (callsIn_wide (n:=0).2 (AnyF.slices_SortFunc_none L p cap fv w)) ?_⟩
  rintro e w' ⟨rfl,rfl⟩
  exact ⟨_,_,⟨rfl,rfl⟩,m,.val (.tup .nil),hr,Fr.refl _ _ _ _⟩
 intro m w cargs hr hv
 unfold sortG at hg
 split at hg
 case h_3=>cases hg
 · rename_i hx g'
   split at hg
   case isFalse=>cases hg
   cases hg
   cases hv with
   | cons v1 t =>
    cases t with
    | cons v2 t2=>cases t2;cases v1;exact none_case m w _ _ _ hr
 · rename_i hx o i len es' g'
   split at hg
   case isFalse=>cases hg
   rename_i hc
   obtain ⟨⟨rfl,rfl⟩,hbig⟩:=hc
   split at hg
   · rename_i h0;subst h0;cases hg
     cases hv with
     | cons v1 t =>
      cases t with
      | cons v2 t2=>cases t2;cases v1 <;> exact none_case m w _ _ _ hr
   rename_i h0
   split at hg
   case h_2=>cases hg
   rename_i cs hcs
   split at hg
   case h_2=>cases hg
   rename_i l hl
   obtain ⟨h2,hp,e⟩:=Option.map_eq_some_iff.1 hg
   cases e
   obtain rfl:=hd _ _ hl
   have hkA : ∀ x,(encA x).length=es':=fun x=>(hV m x).len.trans (hk x)
   -- the row
   simp only [H.firstCells] at hcs
   rw [if_pos ⟨trivial,Nat.le_refl _⟩] at hcs
   split at hcs
   case h_2 =>
    split at hcs
    · rename_i h3
      rcases Nat.mul_eq_zero.1 h3 with h4 | h4 <;> omega
    · cases hcs
   rename_i row hrow
   split at hcs
   case isFalse=>cases hcs
   rename_i hle
   have hcs':=Option.some.inj hcs
   have hfl : ∀ l:List α,(l.flatMap encA).length=l.length*es':=fun l=>aK9 hkA l
   have hfl' : ∀ l:List α,(l.flatMap enc).length=l.length*es':=fun l=>aK9 hk l
   have hll:len=l.length:=by
    have h5:=congrArg List.length hcs'
    rw [hfl,List.length_take,List.length_drop,Nat.min_eq_left (by omega)] at h5
    exact Nat.eq_of_mul_eq_mul_right hk0 h5
   cases hv with
   | cons v1 t =>
    cases t with
    | cons v2 t2 =>
     cases t2
     cases v2 with
     | func _ hcb =>
     cases hcb
     cases v1 with
     | slice0=>exact absurd rfl h0
     | @slice _ b base sz _ _ _ cap hmo hlc hsz =>
      subst hll
      obtain ⟨csp,gp,PT⟩:=H.put_to hp
      obtain ⟨hrw,CS,e,fr,hbk,hszc⟩:=hr.row PT.was hmo
      obtain ⟨hB,hfz⟩:=hr.own PT.was hmo
      have hrc:row=csp:=by
       unfold H.row at hrow
       rw [PT.was] at hrow
       simp only at hrow
       split at hrow
       · exact (Option.some.inj hrow).symm
       · cases hrow
      subst hrc
      have hH:HoldsK enc es' w b (base+i) l.toArray:=by
       intro j hj
       rw [aTi hk] at hj ⊢
       have hj':j<l.length*es':=by simpa [hfl'] using hj
       have hjA:j<(l.flatMap encA).length:=by rw [hfl];exact hj'
       have hrj:row[i+j]? = some (l.flatMap encA)[j]:=by
        have:((row.drop i).take (l.length*es'))[j]? = (l.flatMap encA)[j]? := by rw [hcs']
        rw [List.getElem?_take,if_pos hj',List.getElem?_drop,List.getElem?_eq_getElem hjA] at this
        exact this
       obtain ⟨v,hv1,hv2⟩:=hr.val hrow hmo (i+j) _ hrj
       constructor
       · rw [Nat.add_assoc,hv1]
         have q1:=aMr (β:=Value) hk l j hj'
         have q2:=aMr (β:=AV) hkA l j hj'
         have k1:j % es'<es':=Nat.mod_lt _ hk0
         have q3:(l.flatMap encA)[j]=(encA l[j / es']!)[j % es']'(by rw [hkA];exact k1):=by
          rw [getElem!_pos (l.flatMap encA) j hjA,getElem!_pos _ _ (by rw [hkA];exact k1)] at q2
          exact q2
         have q4:=hU m v (l[j / es']!) (j % es') _ (List.getElem?_eq_getElem (by rw [hkA];exact k1)) (by rw [← q3];exact hv2)
         have q5:(enc l[j / es']!)[j % es']! = v:=by
          rw [List.getElem!_eq_getElem?_getD,q4];rfl
         show some v=some ((l.flatMap enc).toArray[j]!)
         rw [List.getElem!_toArray,q1,q5]
       · exact unf.frozen (by have:=hfz (base+i+j) (by omega);exact this)
      have key:=AnyQ.slices_SortFunc_total L es' aE zE enc hk h1 cf hS g' #[] b (base+i) cap l.toArray w eg (a1r hm hT hO hf hn hb hV hw b (base+i) _ w) hH (hr.blk hmo) (by rw [List.size_toArray];exact hbig) hTt
      simp only [List.size_toArray,List.toList_toArray] at key
      refine .inl ⟨ef _ _,CallsIn.mono (callsIn_wide (n:=0).2 key) ?_⟩
      rintro e w' ⟨rfl,n,os,rfl⟩
      generalize hL:l.mergeSort (fun x y => !(ltOf cf) y x)=l' at hp PT ⊢
      have hl':l'.length=l.length:=by rw [← hL,List.length_mergeSort]
      unfold sortWorldK
      rw [aVr hk (w:=Sort.ahead w n) (l:=l) (holdsK_ahead enc es' w n b (base+i) _ hH) hl']
      have r1:Rel P B m h (Sort.ahead w n):=hr.same (Nat.le_refl _) (fun b hb=>rfl)
      have f1:Fr B m m h h w (Sort.ahead w n):=Fr.grown rfl rfl rfl (Nat.le_refl _) (fun b hb=>rfl) (Nat.le_add_right _ _)
      have hvs:VRels m (l'.flatMap encA) (l'.flatMap enc):=by
       clear hL hl' hp PT
       induction l' with
       | nil=>exact .nil
       | cons x l' ih=>rw [List.flatMap_cons,List.flatMap_cons];exact (hV m x).append ih
      obtain ⟨r2,f2,_,_⟩:=r1.put hp hmo hvs
      generalize (Sort.ahead w n).setCells b (base+i) (l'.flatMap enc)=W2 at r2 f2 ⊢
      refine ⟨_,_,⟨rfl,rfl⟩,m,.val (.tup .nil),r2.same (by simp) (fun b hb=>heap_grow_old W2 os hb),(f1.trans f2).trans (Fr.grown rfl rfl rfl (by simp) (fun b hb=>heap_grow_old W2 os hb) (Nat.le_refl _))⟩
end
end Go.Proofs.YtdbmeidhlijopaaGreatDoor.Ev

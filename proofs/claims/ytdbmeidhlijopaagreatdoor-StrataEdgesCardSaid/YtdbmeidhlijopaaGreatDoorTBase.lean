/- What stands for calls of law10: the row that looks for a byte, and the example. -/
import Derived.Test.YtdbmeidhlijopaaGreatDoorCode
import Derived.Test.YtdbmeidhlijopaaGreatDoorEvL2
import Derived.Lib.Bytealg
import Derived.Laws.StandIn
import Derived.Test.YtdbmeidhlijopaaGreatDoorEv24
import Derived.Test.YtdbmeidhlijopaaGreatDoorEv30
namespace Go.Proofs.YtdbmeidhlijopaaGreatDoor.Ev.C
open Go Go.Proofs.YtdbmeidhlijopaaGreatDoor.Ev
set_option linter.unusedSimpArgs false
set_option linter.unusedVariables false
abbrev nAwake:Nat:=aId
/-- the program's words that may be no names -/
def keysL:List (List UInt8) := [[116,121,112,101],[114,101,108],[105,115],[116,104,105,115]]
abbrev KStart (h:H):Prop:=StartG g_token_keys 4 (aBU keysL) h
/-- where a byte is in a text, from a place on; below 0: nowhere -/
def idxB:List UInt8→UInt8→Nat→Int
 | [],_,_ => -1
 | b::l,c,k=>if b=c then (k:Int) else idxB l c (k+1)
theorem aXE : ∀ (l:List UInt8) (c:UInt8) (k:Nat),idxB l c k=if Lib.indexByte l c = -1 then -1 else Lib.indexByte l c+k
 | [],c,k=>rfl
 | b::l,c,k=>by
  simp only [idxB,Lib.indexByte]
  by_cases h:b=c
  · subst h;simp
  · rw [if_neg h,aXE l c (k+1)]
    have hb:(b==c)=false:=by simpa using h
    have hge:=Lib.indexByte_ge l c
    simp only [hb,Bool.false_eq_true,if_false,beq_iff_eq]
    by_cases h1:Lib.indexByte l c = -1
    · simp [h1]
    · rw [if_neg h1,if_neg h1,if_neg (by omega)];omega
def ibs:List AV→H→Option (AOut×H)
 | [.str s,.int .u8 c],h=>some (.val (.int .i64 (idxB s (UInt8.ofNat c.toNat) 0)),h)
 | _,_=>none
/-- the runes below 161 that may stand in a name -/
def lettersL:List UInt8 := [97,98,99,100,101,102,103,104,105,106,107,108,109,110,111,112,113,114,115,116,117,118,119,120,121,122,65,66,67,68,69,70,71,72,73,74,75,76,77,78,79,80,81,82,83,84,85,86,87,88,89,90,48,49,50,51,52,53,54,55,56,57,95]
def aFj (n:Nat):Bool:=lettersL.any fun b=>b.toNat==n
def crG:List AV→H→Option (AOut×H)
 | [.str s,.int .i32 c],h=>if s=lettersL∧0≤c∧c<161 then some (.val (.bool (aFj c.toNat)),h) else none
 | _,_=>none
def yes:List AV→H→Option (AOut×H):=fun args h=>match args with | []=>if startB g_token_keys 4 (aBU keysL) h then some (.val (.bool true),h) else none | _=>none
def ov0:Ovs:=fun f=>if f=aAT then some ibs else if f=aA3 then some crG else if f=nAwake then some yes else none
/-- what is stood for -/
def isOv (f:Nat):Bool:=f==aAT||f==aA3||f==nAwake
noncomputable def E0:Env:=Env.mk (table PP) ov0 (tableD PP) (tableR PP)
/-- the program, with the row that looks for a byte; the example may stand for itself -/
structure Std (E:Env):Prop where
 tT : ∀ {i:Nat} {a:AFunc},table PP i=some a→E.T i=some a
 tD : ∀ {i:Nat} {a:ADef},tableD PP i=some a→E.D i=some a
 tR : ∀ {i:Nat} {a:ARec},tableR PP i=some a→E.R i=some a
 ov : ∀ f,isOv f=false→E.ov f=none
 ibs:E.ov aAT=some ibs
 cr:E.ov aA3=some crG
theorem E0_ov (i:Nat):E0.ov i=ov0 i:=by unfold E0;rw [env_ov]
theorem std0:Std E0 where
 tT:=fun {i a} h=>by unfold E0;rw [env_T];exact h
 tD:=fun {i a} h=>by unfold E0;rw [env_D];exact h
 tR:=fun {i a} h=>by unfold E0;rw [env_R];exact h
 ov:=fun f h=>by
  simp only [isOv,Bool.or_eq_false_iff,beq_eq_false_iff_ne] at h
  rw [E0_ov]
  unfold ov0
  rw [if_neg h.1.1,if_neg h.1.2,if_neg h.2]
 ibs:=by rw [E0_ov];rfl
 cr:=by rw [E0_ov];rfl
def ov1:Ovs:=fun f=>if f=aAT then some ibs else if f=aA3 then some crG else none
noncomputable def E1:Env:=Env.mk (table PP) ov1 (tableD PP) (tableR PP)
theorem E1_ov (i:Nat):E1.ov i=ov1 i:=by unfold E1;rw [env_ov]
theorem std1:Std E1 where
 tT:=fun {i a} h=>by unfold E1;rw [env_T];exact h
 tD:=fun {i a} h=>by unfold E1;rw [env_D];exact h
 tR:=fun {i a} h=>by unfold E1;rw [env_R];exact h
 ov:=fun f h=>by
  simp only [isOv,Bool.or_eq_false_iff,beq_eq_false_iff_ne] at h
  rw [E1_ov]
  unfold ov1
  rw [if_neg h.1.1,if_neg h.1.2]
 ibs:=by rw [E1_ov];rfl
 cr:=by rw [E1_ov];rfl
theorem tT {i:Nat} {a:AFunc} (h:table PP i=some a):E0.T i=some a:=std0.tT h
theorem a1G {E:Env} (he:Std E) (s:List UInt8) (c:UInt8) (h:H):WCall E aAT [.str s,.int .u8 (c.toNat:Int)] h fun r h'=>r = .val (.int .i64 (idxB s c 0))∧h'=h :=
 aGm (g:=ibs) he.ibs rfl ⟨by simp,rfl⟩
theorem a2S {E:Env} (he:Std E) (c:Nat) (hc:c<161) (h:H):WCall E aA3 [.str lettersL,.int .i32 (c:Int)] h fun r h'=>r = .val (.bool (aFj c))∧h'=h :=
 aGm (g:=crG) he.cr (by
  unfold crG
  simp only
  rw [if_pos ⟨trivial,by omega,by omega⟩,Int.toNat_natCast]) ⟨rfl,rfl⟩
end Go.Proofs.YtdbmeidhlijopaaGreatDoor.Ev.C

/- The reader of tokens: what is next, what is passed. -/
namespace Go.Proofs.YtdbmeidhlijopaaGreatDoor.Ev.C
open Go Go.Proofs.YtdbmeidhlijopaaGreatDoor.Ev
set_option linter.unusedSimpArgs false
set_option linter.unusedVariables false

def isKey (s:List UInt8):Bool:=keysL.contains s
theorem aUa {E:Env} (he:Std E) {v:AV} {l:List (List UInt8)} {s:List UInt8} {h:H} (b:Strs h v l) (hl:l.length<4611686018427387904) :
 WCall E aBG [v,.str s] h fun r h'=>h'=h ∧ ∃ z:Int,r = .val (.int .i64 z)∧(0≤z↔s∈l):=by
 refine aAI (he.ov _ rfl) (he.tT aDm) (by simp [aA2]) ?_
 refine aAA (aAB ?_)
 simp only [aCZ,go_sem,↓reduceIte,Nat.reduceEqDiff]
 refine aAA (aAA (aAB ?_))
 simp only [aCV,go_sem,↓reduceIte,Nat.reduceEqDiff,enterS,List.getD_cons_zero,b.len]
 refine aAG (aAP (fun m z g=>g=h ∧ ∃ i,m=l.length - i∧i≤l.length∧s∉l.take i∧z 0=v∧z 1 = .str s∧z 7 = .int .i64 (l.length:Int)∧z 8 = .int .i64 (i:Int)) ?_ l.length ?_)
 · rintro m z g ⟨rfl,i,rfl,hi,hno,z0,z1,z7,z8⟩
   show WS E aCX _ _ _ _
   refine aAA (aAB ?_)
   simp only [aCT,go_sem,↓reduceIte,Nat.reduceEqDiff,z7,z8]
   refine aAA (aAD ?_)
   simp only [go_sem,↓reduceIte]
   by_cases hil:i<l.length
   case neg =>
    have hie:i=l.length:=by omega
    subst hie
    simp only [Int.lt_irrefl,decide_false,Bool.false_eq_true,↓reduceIte]
    refine aAK ?_
    simp only [go_sem,↓reduceIte]
    refine aAA (aAB ?_)
    simp only [aCS,go_sem,↓reduceIte,Nat.reduceEqDiff]
    refine aAE ?_
    simp only [go_sem,aA2,↓reduceIte,Nat.reduceEqDiff]
    rw [List.take_length] at hno
    exact ⟨trivial,-1,rfl,by simp [hno]⟩
   have hil':(i:Int)<(l.length:Int):=by omega
   simp only [hil',decide_true,↓reduceIte]
   refine aAF ?_
   simp only [go_sem]
   refine aAA (aAG (aAA (aAB ?_)))
   simp only [aCU,go_sem,↓reduceIte,Nat.reduceEqDiff,z8]
   refine aAA (aAB ?_)
   obtain ⟨p,e1,e2⟩:=b.at hil .i64
   simp only [aCY,go_sem,↓reduceIte,Nat.reduceEqDiff,z0,z1,e1,e2]
   refine aAD ?_
   simp only [go_sem,↓reduceIte]
   by_cases hs:s=l[i]
   · simp only [hs,decide_true,↓reduceIte]
     refine aAA (aAB ?_)
     simp only [aC0,go_sem,↓reduceIte,Nat.reduceEqDiff]
     refine aAE ?_
     simp only [go_sem,aA2,↓reduceIte,Nat.reduceEqDiff]
     exact ⟨trivial,i,rfl,by simp⟩
   · simp only [hs,decide_false,Bool.false_eq_true,↓reduceIte]
     refine aAF ?_
     simp only [go_sem]
     refine aAB ?_
     simp only [aCW,go_sem,↓reduceIte,Nat.reduceEqDiff,z8]
     refine ⟨l.length - (i+1),by omega,trivial,i+1,rfl,by omega,?_,z0,z1,z7,?_⟩
     · rw [List.take_add_one]
       simp only [List.getElem?_eq_getElem hil,Option.toList_some,List.mem_append,List.mem_singleton,not_or]
       exact ⟨hno,hs⟩
     · have:IntKind.i64.wrap ((i:Int)+1)=((i+1:Nat):Int):=by rw [show ((i:Int)+1)=((i+1:Nat):Int) from rfl];exact wrapI (by omega)
       rw [this]
 · exact ⟨rfl,0,by simp,by omega,by simp,rfl,rfl,rfl,rfl⟩
theorem aS1 {E:Env} (he:Std E) {v:AV} {l:List (List UInt8)} {s:List UInt8} {h:H} (b:Strs h v l) (hl:l.length<4611686018427387904) :
 WCall E aAu [v,.str s] h fun r h'=>h'=h∧r = .val (.bool (l.contains s)):=by
 refine aAI (he.ov _ rfl) (he.tT aDS) (by simp [aAe]) ?_
 refine aAA (aAB ?_)
 simp only [aBS,go_sem,↓reduceIte,Nat.reduceEqDiff]
 refine aAA (aAB ?_)
 simp only [aBR,go_sem,↓reduceIte,Nat.reduceEqDiff,enterS,List.getD_cons_zero,List.getD_cons_succ]
 refine (aUa he b hl).mono ?_
 rintro r h' ⟨rfl,z,rfl,hz⟩
 simp only [go_sem,↓reduceIte,Nat.reduceEqDiff]
 refine aAE ?_
 simp only [go_sem,aAe,↓reduceIte,Nat.reduceEqDiff]
 refine ⟨trivial,?_⟩
 congr 2
 rw [Bool.eq_iff_iff]
 simp [hz]
theorem aVW {h:H} (ks:KStart h):loadA h false 1 (.gptr g_token_keys)=some (.slice 1 0 4 1):=by
 simp [loadA,ks.glob]
theorem aVC {h:H} (ks:KStart h):Strs h (.slice 1 0 4 1) keysL:=by
 refine ⟨rfl,?_⟩
 have hr:h.row 1=some (aBU keysL):=by unfold H.row;rw [ks.row]
 simp [H.firstCells,hr,aBU,keysL]
theorem a1E {E:Env} (he:Std E) {s:List UInt8} {h:H} (ks:KStart h):WCall E aG0 [.str s] h fun r h'=>h'=h∧r = .val (.bool (isKey s)):=by
 refine aAI (he.ov _ rfl) (he.tT aSv) (by simp [aG6]) ?_
 refine aAA (aAB ?_)
 simp only [aLu,go_sem,↓reduceIte,Nat.reduceEqDiff]
 refine aAA (aAB ?_)
 simp only [aMF,go_sem,↓reduceIte,Nat.reduceEqDiff,enterS,List.getD_cons_zero,aVW ks]
 refine (aS1 he (aVC ks) (by decide)).mono ?_
 rintro r h' ⟨rfl,rfl⟩
 simp only [go_sem,↓reduceIte,Nat.reduceEqDiff]
 refine aAE ?_
 simp only [go_sem,aG6,↓reduceIte,Nat.reduceEqDiff]
 exact ⟨trivial,rfl⟩

/-! ### tokens -/
/-- a token: its kind, its text, its place -/
abbrev Tk:=Nat×List UInt8×Nat
def aBw (t:Tk):List AV := [.int .i64 (t.1:Int),.str t.2.1,.int .i64 (t.2.2:Int)]
abbrev Toks (h:H) (v:AV) (l:List Tk):Prop:=Sl h 3 v l.length (l.flatMap aBw)
theorem aGe (t:Tk):(aBw t).length=3:=rfl
/-- the first token -/
theorem Toks.first {h:H} {v:AV} {t:Tk} {l:List Tk} (b:Toks h v (t::l)) :
 ∃ o j,aAJ 3 v (.int .i64 0)=some (.ptr o j)∧loadA h false 1 (.ptr o (j+0))=some (.int .i64 (t.1:Int))∧loadA h false 1 (.ptr o (j+1))=some (.str t.2.1)∧loadA h false 1 (.ptr o (j+2))=some (.int .i64 (t.2.2:Int)):=by
 obtain ⟨o,j,row,rfl,e,hrow,hle,hcs⟩:=b.addr (i:=0) (by simp) (by decide) .i64
 refine ⟨o,j,by simpa using e,?_,?_,?_⟩
 all_goals
  simp only [loadA,hrow,Bool.false_eq_true,if_false]
  have hlen:j+3≤row.length:=by simp at hle;omega
  have hget : ∀ k,k<3→row[j+k]? = (aBw t)[k]? := by
   intro k hk
   have h1:((row.drop j).take ((t::l).length*3))[k]? = row[j+k]? := by
    rw [List.getElem?_take,if_pos (by simp;omega),List.getElem?_drop]
   rw [← h1,← hcs,List.flatMap_cons,List.getElem?_append_left (by rw [aGe];exact hk)]
 · exact hget 0 (by decide)
 · exact hget 1 (by decide)
 · exact hget 2 (by decide)
/-- the tokens behind the first one -/
theorem Toks.rest {h:H} {v:AV} {t:Tk} {l:List Tk} (b:Toks h v (t::l)) : ∃ v',aAX 3 (some (.int .i64 1)) none v=some v'∧Toks h v' l∧(∀ K,Slot K h v→Slot K h v'):=by
 obtain ⟨v',e,s,k⟩:=b.cut (lo:=1) (hi:=(t::l).length) (by simp) (Nat.le_refl _) (some (.int .i64 1)) none (aEw (k:=1) (by simp) .i64)
 refine ⟨v',e,?_,k⟩
 have e1:(((t::l).flatMap aBw).drop (1*3)).take (((t::l).length - 1)*3)=l.flatMap aBw:=by
  rw [List.flatMap_cons,Nat.one_mul]
  have:(aBw t).length=3:=rfl
  rw [← this,List.drop_left]
  simp only [List.length_cons,Nat.add_sub_cancel]
  rw [List.take_of_length_le]
  rw [aWu (es:=3) (fun x _=>aGe x)];simp [aGe]
 rw [e1] at s
 simpa using s
/-- is a key, or a sign, next? -/
def isNext (l:List Tk) (s:List UInt8):Bool:=match l with | t::_=>decide (t.2.1=s)&&(t.1==2||isKey s) | []=>false
/-- is s next, before a token of the kind k and the text t? -/
def isAt (k:Int) (t s:List UInt8):Bool:=decide (t=s)&&(decide (k=2)||isKey s)
theorem a2j {E:Env} (he:Std E) {o i to tj:Nat} {l:AV} {k:Int} {t s:List UInt8} {h:H} (ks:KStart h) (hl:loadA h false 1 (.ptr o (i+0))=some l)
 (e1:aAJ 3 l (.int .i64 0)=some (.ptr to tj)) (e2:loadA h false 1 (.ptr to (tj+0))=some (.int .i64 k)) (e3:loadA h false 1 (.ptr to (tj+1))=some (.str t)) :
 WCall E aAx [.ptr o i,.str s] h fun r h'=>h'=h∧r = .val (.bool (isAt k t s)):=by
 refine aAI (he.ov _ rfl) (he.tT aL6) (by simp [aAj]) ?_
 refine aAA (aAB ?_)
 simp only [aF3,go_sem,↓reduceIte,Nat.reduceEqDiff]
 refine aAA (aAB ?_)
 simp only [aFV,go_sem,↓reduceIte,Nat.reduceEqDiff,enterS,List.getD_cons_zero,List.getD_cons_succ,hl,e1,e2,e3,wanted]
 by_cases h1:t=s
 · simp only [h1,decide_true,beq_self_eq_true,go_sem,↓reduceIte,Nat.reduceEqDiff,hl,e1,e2]
   by_cases h2:k=2
   · simp only [h2,decide_true,beq_self_eq_true,Bool.true_eq_false,Bool.false_eq_true,reduceCtorEq,go_sem,↓reduceIte,Nat.reduceEqDiff,pickA,show (true==false)=false from rfl]
     refine aAE ?_
     simp only [go_sem,aAj,↓reduceIte,Nat.reduceEqDiff]
     exact ⟨trivial,by simp [isAt,h1,h2]⟩
   · simp only [h2,decide_false,beq_self_eq_true,go_sem,↓reduceIte,Nat.reduceEqDiff,pickA]
     refine (a1E he ks).mono ?_
     rintro r h' ⟨rfl,rfl⟩
     simp only [go_sem,↓reduceIte,Nat.reduceEqDiff,pickA,wanted,beq_self_eq_true,Bool.false_eq_true]
     refine aAE ?_
     simp only [go_sem,aAj,↓reduceIte,Nat.reduceEqDiff]
     exact ⟨trivial,by simp [isAt,h1,h2]⟩
 · simp only [h1,decide_false,go_sem,↓reduceIte,Nat.reduceEqDiff,show (false==true)=false from rfl,Bool.false_eq_true,pickA,wanted,undefA]
   refine aAE ?_
   simp only [go_sem,aAj,↓reduceIte,Nat.reduceEqDiff]
   exact ⟨trivial,by simp [isAt,h1]⟩
/-- pass: what is next is passed, if it is s -/
theorem aZV {E:Env} (he:Std E) {o i to tj:Nat} {l l':AV} {k:Int} {t s:List UInt8} {h:H} (ks:KStart h) (hl:loadA h false 1 (.ptr o (i+0))=some l)
 (e1:aAJ 3 l (.int .i64 0)=some (.ptr to tj)) (e2:loadA h false 1 (.ptr to (tj+0))=some (.int .i64 k)) (e3:loadA h false 1 (.ptr to (tj+1))=some (.str t))
 (e4:isAt k t s=true→aAX 3 (some (.int .i64 1)) none l=some l' ∧ ∃ h',storeA h 1 (.ptr o (i+0)) l'=some h') :
 WCall E aAW [.ptr o i,.str s] h fun r h'=>r = .val (.bool (isAt k t s))∧if isAt k t s=true then storeA h 1 (.ptr o (i+0)) l'=some h' else h'=h:=by
 refine aAI (he.ov _ rfl) (he.tT aJ2) (by simp [aAy]) ?_
 refine aAA (aAB ?_)
 simp only [aEJ,go_sem,↓reduceIte,Nat.reduceEqDiff]
 refine aAA (aAA (aAB ?_))
 simp only [aEK,go_sem,↓reduceIte,Nat.reduceEqDiff,enterS,List.getD_cons_zero,List.getD_cons_succ]
 refine (a2j he ks hl e1 e2 e3).mono ?_
 rintro r h' ⟨rfl,rfl⟩
 simp only [go_sem,↓reduceIte,Nat.reduceEqDiff]
 refine aAD ?_
 cases hat:isAt k t s
 · simp only [go_sem,↓reduceIte,Nat.reduceEqDiff,Bool.not_false]
   refine aAA (aAB ?_)
   simp only [aEI,go_sem,↓reduceIte,Nat.reduceEqDiff]
   refine aAE ?_
   simp only [go_sem,aAy,↓reduceIte,Nat.reduceEqDiff]
   simp
 · obtain ⟨e5,h2,e6⟩:=e4 hat
   simp only [go_sem,↓reduceIte,Nat.reduceEqDiff,Bool.not_true,Bool.false_eq_true]
   refine aAF ?_
   simp only [go_sem]
   refine aAA (aAB ?_)
   simp only [aE4,go_sem,↓reduceIte,Nat.reduceEqDiff,hl,e5,e6]
   refine aAA (aAB ?_)
   simp only [aE8,go_sem,↓reduceIte,Nat.reduceEqDiff]
   refine aAE ?_
   simp only [go_sem,aAy,↓reduceIte,Nat.reduceEqDiff]
   exact ⟨trivial,trivial⟩

/-! ### sign: a map of three signs is ranged over, in whichever order -/
def sgn (t:List UInt8):Int:=if t = [124] then 4 else if t = [38] then 5 else if t = [45] then 6 else 0
/-- what sign answers, in one step: two objects are made that nothing is told of -/
def signG:List AV→H→Option (AOut×H)
 | [.ptr o i],h=>if (startB g_token_keys 4 (aBU keysL) h&&decide (2≤h.n∧o<h.n))=true then match h.row o with
  | some cs=>match cs[i]? with
   | some (.slice tl j len 3)=>if len=0∨h.n≤tl then none else match h.row tl with
    | some ts=>match ts[j]?,ts[j+1]? with
     | some (.int .i64 k),some (.str t) =>
      let v:=if k=2 then sgn t else 0
      let h2:=(h.push .other).push .other
      if v=0 then some (.val (.int .i64 0),h2) else ((h2.put o i [.slice tl (j+3) (len - 1) 3]).map fun h3=>(.val (.int .i64 v),h3))
     | _,_=>none
    | none=>none
   | _=>none
  | none=>none
  else none
 | _,_=>none
def signEs:List (AV×AV×Nat) := [(.str [124],.int .i64 4,0),(.str [38],.int .i64 5,1),(.str [45],.int .i64 6,2)]
theorem sgn_at (k:Int) (t w:List UInt8) (v:Int) (hw:(w = [124]∧v=4)∨(w = [38]∧v=5)∨(w = [45]∧v=6)):isAt k t w=true↔(if k=2 then sgn t else 0)=v:=by
 have hk:isKey w=false:=by rcases hw with ⟨rfl,_⟩ | ⟨rfl,_⟩ | ⟨rfl,_⟩ <;> rfl
 unfold isAt sgn
 rw [hk]
 by_cases h2:k=2
 · subst h2
   simp only [decide_true,Bool.true_or,Bool.and_true,decide_eq_true_eq,if_true]
   rcases hw with ⟨rfl,rfl⟩ | ⟨rfl,rfl⟩ | ⟨rfl,rfl⟩
   · constructor
     · rintro rfl;rfl
     · intro h;split at h
       · assumption
       · split at h
         · cases h
         · split at h <;> cases h
   · constructor
     · rintro rfl;rfl
     · intro h;split at h
       · cases h
       · split at h
         · assumption
         · split at h <;> cases h
   · constructor
     · rintro rfl;rfl
     · intro h;split at h
       · cases h
       · split at h
         · cases h
         · split at h
           · assumption
           · cases h
 · simp only [h2,decide_false,Bool.or_false,Bool.and_false,Bool.false_eq_true,if_false,false_iff]
   rcases hw with ⟨_,rfl⟩ | ⟨_,rfl⟩ | ⟨_,rfl⟩ <;> decide
/-- a heap that has grown by two objects -/
structure Up2 (h g:H):Prop where
 n:g.n=h.n+2
 gr : ∀ i,g.gr.get i=h.gr.get i
 ob : ∀ o,o≠h.n→o≠h.n+1→g.get o=h.get o
 m1 : ∃ X,g.get h.n=some (.mem X)
 m2 : ∃ X,g.get (h.n+1)=some (.mem X)
theorem Up2.get {h g:H} (u:Up2 h g) (o:Nat) (ho:o<h.n):g.get o=h.get o:=u.ob o (by omega) (by omega)
theorem Up2.weak {h g:H} (u:Up2 h g):Weak h.n g ((h.push .other).push .other):=by
 refine ⟨by rw [u.n];rfl,fun i=>by rw [u.gr];rfl,fun o => ?_⟩
 have h1:(h.push .other).n=h.n+1:=rfl
 rw [H.get_push,h1,H.get_push]
 by_cases e1:o=h.n+1
 · subst e1;exact .inr ⟨by omega,by simp,u.m2⟩
 · by_cases e2:o=h.n
   · subst e2;exact .inr ⟨Nat.le_refl _,by simp,u.m1⟩
   · rw [if_neg e1,if_neg e2];exact .inl (u.ob o e2 e1).symm
theorem Up2.row {h g:H} (u:Up2 h g) {o:Nat} (ho:o<h.n):g.row o=h.row o:=by
 unfold H.row;rw [u.get o ho]
 have : ∀ i,g.kill i=h.kill i:=fun i=>by unfold H.kill;rw [u.gr]
 simp only [this]
theorem Up2.load {h g:H} (u:Up2 h g) {o:Nat} (ho:o<h.n) (a:Bool) (n i:Nat):loadA g a n (.ptr o i)=loadA h a n (.ptr o i):=by
 simp only [loadA,u.row ho]
theorem Up2.start {h g:H} (u:Up2 h g) (ks:KStart h) (h2:2≤h.n):KStart g:=⟨by rw [u.get 0 (by omega)];exact ks.glob,by rw [u.get 1 (by omega)];exact ks.row⟩
theorem a24 {E:Env} (he:Std E) {h h':H} {o i:Nat} {r:AOut} (hg:signG [.ptr o i] h=some (r,h')):WCall E aAc [.ptr o i] h fun r1 h1=>r1=r∧Weak h.n h1 h':=by
 unfold signG at hg
 simp only at hg
 split at hg
 case isFalse=>cases hg
 rename_i hc
 simp only [Bool.and_eq_true,decide_eq_true_eq] at hc
 obtain ⟨hst,hn2,hon⟩:=hc
 have ks:KStart h:=aR5 hst
 split at hg
 case h_2=>cases hg
 rename_i cs hrow
 split at hg
 case h_2=>cases hg
 rename_i tl j len hcell
 split at hg
 case isTrue=>cases hg
 rename_i hlen
 split at hg
 case h_2=>cases hg
 rename_i ts htrow
 split at hg
 case h_2=>cases hg
 rename_i k t hk ht
 have htn:tl<h.n:=by omega
 have hl0:0<len:=by omega
 have L0:loadA h false 1 (.ptr o (i+0))=some (.slice tl j len 3):=by simp [loadA,hrow,hcell]
 have L1:aAJ 3 (.slice tl j len 3) (.int .i64 0)=some (.ptr tl j):=by simp [aAJ,hl0]
 have L2:loadA h false 1 (.ptr tl (j+0))=some (.int .i64 k):=by simp [loadA,htrow,hk]
 have L3:loadA h false 1 (.ptr tl (j+1))=some (.str t):=by simp [loadA,htrow,ht]
 have L4:aAX 3 (some (.int .i64 1)) none (.slice tl j len 3)=some (.slice tl (j+3) (len - 1) 3):=by
  have:(1:Int)≤(len:Int):=by omega
  simp [aAX,bounds,this]
 refine aAI (he.ov _ rfl) (he.tT aJe) (by simp [aAz]) ?_
 refine aAA (aAB ?_)
 simp only [aE6,go_sem,↓reduceIte,Nat.reduceEqDiff,enterS]
 refine aAA (aAA (aAB ?_))
 simp only [aEO,go_sem,↓reduceIte,Nat.reduceEqDiff,aDW,H.get_push,H.get_setMem,keyEq,idxM,beq_self_eq_true,Option.isSome_some,List.nil_append,List.cons_append,aKE,
  show ([38]==([124]:List UInt8))=false from rfl,show ([45]==([124]:List UInt8))=false from rfl,show ([45]==([38]:List UInt8))=false from rfl,Option.map_some,Option.map_none,List.getD_cons_zero]
 refine aAG (aAP (fun m z g=>Up2 h g∧MapAt g h.n signEs 3 ∧ ∃ seen,m=signEs.length - seen.length∧IterAt g (h.n+1) h.n signEs 3 seen∧(∀ e∈signEs,e.2.2∈seen → ∃ w,e.1 = .str w∧isAt k t w=false)∧z 0 = .ptr o i∧z 7 = .ptr (h.n+1) 0) ?_ 3 ?_)
 · rintro m z g ⟨u,hm,seen,rfl,hi,hno,z0,z7⟩
   show WS E aEN _ _ _ _
   refine aAA (aAB ?_)
   simp only [aEj,go_sem,↓reduceIte,Nat.reduceEqDiff,z7]
   refine aUI hm hi (by omega) ?_ ?_
   · intro hall
     have hv0:(if k=2 then sgn t else 0)=0:=by
      have h1 : ∀ w v,(.str w,v)∈signEs.map (fun e=>(e.1,e.2.1))→isAt k t w=false:=by
       intro w v hmem
       obtain ⟨e,he1,he2⟩:=List.mem_map.1 hmem
       obtain ⟨w',e3,e4⟩:=hno e he1 (hall e he1)
       simp only [Prod.mk.injEq] at he2
       rw [he2.1] at e3;cases e3;exact e4
      have a1:=h1 [124] _ (by simp [signEs];rfl)
      have a2:=h1 [38] _ (by simp [signEs];rfl)
      have a3:=h1 [45] _ (by simp [signEs];rfl)
      have b1:=sgn_at k t [124] 4 (.inl ⟨rfl,rfl⟩)
      have b2:=sgn_at k t [38] 5 (.inr (.inl ⟨rfl,rfl⟩))
      have b3:=sgn_at k t [45] 6 (.inr (.inr ⟨rfl,rfl⟩))
      rw [a1] at b1;rw [a2] at b2;rw [a3] at b3
      by_cases hk2:k=2
      · simp only [hk2,if_true,Bool.false_eq_true,false_iff] at b1 b2 b3 ⊢
        unfold sgn at b1 b2 b3 ⊢
        split
        · rename_i ht1;simp [ht1] at b1
        · split
          · rename_i ht1 ht2;simp [ht2] at b2
          · split
            · rename_i ht1 ht2 ht3;simp [ht3] at b3
            · rfl
      · simp [hk2]
     rw [if_pos hv0] at hg
     cases hg
     simp only [go_sem,↓reduceIte,Nat.reduceEqDiff,aAM,List.getElem?_cons_zero]
     refine aAA (aAD ?_)
     simp only [go_sem,↓reduceIte,Bool.false_eq_true]
     refine aAK ?_
     simp only [go_sem,↓reduceIte]
     refine aAA (aAB ?_)
     simp only [aE5,go_sem,↓reduceIte,Nat.reduceEqDiff]
     refine aAE ?_
     simp only [go_sem,aAz,↓reduceIte,Nat.reduceEqDiff]
     exact ⟨trivial,u.weak⟩
   · rintro e hmem hns g' hg' hm' hi' hent hlt
     have u':Up2 h g':=by
      subst hg'
      refine ⟨u.n,u.gr,fun o' h1 h2=>by rw [H.get_setMem,if_neg h2];exact u.ob o' h1 h2,?_,?_⟩
      · rw [H.get_setMem,if_neg (by omega)];exact u.m1
      · rw [H.get_setMem,if_pos rfl];exact ⟨_,rfl⟩
     obtain ⟨w,v,hw1,hw2,hwv⟩ : ∃ w v,e.1 = .str w∧e.2.1 = .int .i64 v∧((w = [124]∧v=4)∨(w = [38]∧v=5)∨(w = [45]∧v=6)):=by
      simp only [signEs,List.mem_cons,List.not_mem_nil,or_false] at hmem
      rcases hmem with rfl | rfl | rfl
      · exact ⟨_,_,rfl,rfl,.inl ⟨rfl,rfl⟩⟩
      · exact ⟨_,_,rfl,rfl,.inr (.inl ⟨rfl,rfl⟩)⟩
      · exact ⟨_,_,rfl,rfl,.inr (.inr ⟨rfl,rfl⟩)⟩
     rw [hw1,hw2] at hent
     simp only [hw1,hw2,go_sem,↓reduceIte,Nat.reduceEqDiff,aAM,List.getElem?_cons_zero]
     refine aAA (aAD ?_)
     simp only [go_sem,↓reduceIte]
     refine aAF ?_
     simp only [go_sem]
     refine aAG (aAA (aAB ?_))
     simp only [aEg,go_sem,↓reduceIte,Nat.reduceEqDiff,z7,hent,aAM,List.getElem?_cons_zero,List.getElem?_cons_succ]
     refine aAA (aAB ?_)
     simp only [aEc,go_sem,↓reduceIte,Nat.reduceEqDiff,z0]
     have hat:=sgn_at k t w v hwv
     have hput:isAt k t w=true → ∃ g2,storeA g' 1 (.ptr o (i+0)) (.slice tl (j+3) (len - 1) 3)=some g2∧r = .val (.int .i64 v)∧Weak h.n g2 h':=by
      intro ha
      have hv:=hat.1 ha
      have hv0:v≠0:=by rcases hwv with ⟨_,rfl⟩ | ⟨_,rfl⟩ | ⟨_,rfl⟩ <;> decide
      rw [hv,if_neg hv0] at hg
      rw [Option.map_eq_some_iff] at hg
      obtain ⟨h3,hp,hr⟩:=hg
      cases hr
      obtain ⟨g2,hp2,hw2⟩:=u'.weak.put hp
      exact ⟨g2,by simpa [storeA,AV.cells,AV.one] using hp2,rfl,hw2⟩
     refine (aZV he (l' := .slice tl (j+3) (len - 1) 3) (u'.start ks hn2) (by rw [u'.load hon];exact L0) L1 (by rw [u'.load htn];exact L2) (by rw [u'.load htn];exact L3) ?_).mono ?_
     · intro ha
       obtain ⟨g2,e1,_⟩:=hput ha
       exact ⟨L4,g2,e1⟩
     · rintro r1 g2 ⟨rfl,hif⟩
       simp only [go_sem,↓reduceIte,Nat.reduceEqDiff]
       refine aAD ?_
       cases hat':isAt k t w
       · rw [hat'] at hif
         simp only [Bool.false_eq_true,if_false] at hif
         subst hif
         simp only [go_sem,↓reduceIte,Bool.false_eq_true]
         refine aAF ?_
         simp only [go_sem,↓reduceIte,Nat.reduceEqDiff]
         refine ⟨_,hlt,u',hm',_,rfl,hi',?_,z0,z7⟩
         intro e' he' hs'
         rcases List.mem_append.1 hs' with hs' | hs'
         · exact hno e' he' hs'
         · simp only [List.mem_singleton] at hs'
           have:e'=e:=by
            simp only [signEs,List.mem_cons,List.not_mem_nil,or_false] at hmem he'
            rcases hmem with rfl | rfl | rfl <;> rcases he' with rfl | rfl | rfl <;> first | rfl | (simp at hs')
           subst this
           exact ⟨w,hw1,hat'⟩
       · rw [hat'] at hif
         simp only [if_true] at hif
         obtain ⟨g3,e1,e2,e3⟩:=hput hat'
         rw [e1] at hif;cases hif
         simp only [go_sem,↓reduceIte]
         refine aAA (aAB ?_)
         simp only [aEf,go_sem,↓reduceIte,Nat.reduceEqDiff]
         refine aAE ?_
         simp only [go_sem,aAz,↓reduceIte,Nat.reduceEqDiff]
         exact ⟨e2.symm,e3⟩
 · have g1 : ∀ (g:H) (n:Nat),g.n=n → ∀ X o',(g.push X).get o'=if o'=n then some X else g.get o':=by
    rintro g n rfl X o';exact H.get_push _ _ _
   have gm : ∀ X1 X2 X3 X4 o',(((((h.push (.mem X1)).setMem h.n X2).setMem h.n X3).setMem h.n (.map signEs 3)).push (.mem X4)).get o'=if o'=h.n+1 then some (.mem X4) else if o'=h.n then some (.mem (.map signEs 3)) else h.get o':=by
    intro X1 X2 X3 X4 o'
    rw [g1 _ (h.n+1) rfl,H.get_setMem,H.get_setMem,H.get_setMem,H.get_push]
    by_cases e1:o'=h.n+1
    · rw [if_pos e1,if_pos e1]
    · rw [if_neg e1,if_neg e1]
      by_cases e2:o'=h.n
      · rw [if_pos e2,if_pos e2]
      · simp only [e2,if_false]
   have hmap : ∀ X1 X2 X3 X4,(((((h.push (.mem X1)).setMem h.n X2).setMem h.n X3).setMem h.n (.map signEs 3)).push (.mem X4)).get h.n=some (.mem (.map signEs 3)):=by
    intro X1 X2 X3 X4;rw [gm,if_neg (by omega),if_pos rfl]
   have hit : ∀ X1 X2 X3 X4,(((((h.push (.mem X1)).setMem h.n X2).setMem h.n X3).setMem h.n (.map signEs 3)).push (.mem X4)).get (h.n+1)=some (.mem X4):=by
    intro X1 X2 X3 X4;rw [gm,if_pos rfl]
   refine ⟨⟨rfl,fun _=>rfl,?_,⟨_,hmap _ _ _ _⟩,⟨_,hit _ _ _ _⟩⟩,⟨hmap _ _ _ _,by decide,by decide⟩,[],rfl,⟨hit _ _ _ _,List.nodup_nil,by simp⟩,by simp,rfl,rfl⟩
   intro o' h1 h2
   refine (gm _ _ _ _ _).trans ?_
   rw [if_neg h2,if_neg h1]
end Go.Proofs.YtdbmeidhlijopaaGreatDoor.Ev.C

/- Slices of cells of one kind: made, read, written. Slices of structs: their elements' cells. -/
namespace Go.Proofs.YtdbmeidhlijopaaGreatDoor.Ev
set_option linter.unusedVariables false
set_option linter.unusedSimpArgs false

abbrev intC (x:Int):AV := .int .i64 x
section
variable {α:Type} {mk:α→AV}
/-- a row of one's own of such cells -/
abbrev CBox (mk:α→AV) (r:Nat) (f:List α) (h:H):Prop:=Box r (f.map mk) h
theorem CBox.make {h:H} (wf:h.Wf) {n bytes:Nat} {z:α} (hn:n≤1000000) (hb:bytes≤64) :
 aBQ h 1 bytes [mk z] (.int .i64 (n:Int)) (.int .i64 (n:Int))=some (.slice h.n 0 n 1,h.new ((List.replicate n z).map mk)):=by
 have hz:zeros [mk z] (n*1)=(List.replicate n z).map mk:=by
  rw [Nat.mul_one,List.map_replicate]
  have : ∀ k,zeros [mk z] k=List.replicate k (mk z):=by
   intro k
   unfold zeros
   apply List.ext_getElem
   · simp
   · intro i h1 h2;simp [Nat.mod_one]
  exact this n
 unfold aBQ
 simp only
 have hb':n*bytes≤1000000*64:=Nat.mul_le_mul hn hb
 rw [if_pos ⟨by omega,Int.le_refl _,by omega,by
  have:((n:Int)*(bytes:Int))=((n*bytes:Nat):Int):=by simp
  omega⟩]
 rw [Int.toNat_natCast,hz]
end
/-- an element of a slice of structs: its address, its cells -/
theorem Sl.elem {β:Type} {f:β→List AV} {h:H} {v:AV} {es:Nat} {l:List β} (b:Sl h es v l.length (l.flatMap f)) (hf : ∀ x∈l,(f x).length=es) {i:Nat} (hi:i<l.length) (hes:0<es) (kd:IntKind) :
 ∃ o j,aAJ es v (.int kd (i:Int))=some (.ptr o j)∧(∀ k,k<es→loadA h false 1 (.ptr o (j+k))=(f l[i])[k]?)∧loadA h true es (.ptr o j)=some (.agg (f l[i])):=by
 obtain ⟨o,j,row,rfl,e,hrow,hle,hcs⟩:=b.addr hi hes kd
 have hm:=mul_in (es:=es) hi
 have hcut:(row.drop (j+i*es)).take es=f l[i]:=by rw [← cut_in hi,← hcs,aU2 hi hf]
 refine ⟨o,j+i*es,e,fun k hk => ?_,?_⟩
 · simp only [loadA,hrow,Bool.false_eq_true,if_false]
   rw [← hcut,List.getElem?_take,if_pos hk,List.getElem?_drop]
 · simp only [loadA,hrow,if_true]
   rw [if_pos (by omega),hcut]
end Go.Proofs.YtdbmeidhlijopaaGreatDoor.Ev

/- Texts rune by rune: what glyph's functions come to. -/
namespace Go.Proofs.YtdbmeidhlijopaaGreatDoor.Ev.C
open Go Go.Proofs.YtdbmeidhlijopaaGreatDoor.Ev
set_option linter.unusedSimpArgs false
set_option linter.unusedVariables false
theorem Keep.pushX {N:Nat} {h:H} (hN:N≤h.n) (X:MObj):Keep (Old N) h (h.push (.mem X)) where
 wf:=fun w=>by
  refine ⟨fun g p e=>Nat.lt_succ_of_lt (w.gr g p e),fun o cs g e => ?_,fun o x e => ?_,w.kt,fun g hg => ?_⟩
  · rw [H.get_push] at e
    split at e
    · cases e
    · exact w.mem o cs g e
  · rw [H.get_push] at e
    split at e
    · rename_i h;rw [h];exact Nat.lt_succ_self _
    · exact Nat.lt_succ_of_lt (w.ob o x e)
  · exact w.tl_push _ g hg
 n:=Nat.le_succ _
 get:=fun o ho=>by rw [H.get_push,if_neg];exact Nat.ne_of_lt (Nat.lt_of_lt_of_le ho hN)
 tip:=fun _ _=>rfl
 kill:=fun _ _=>rfl
theorem Keep.setX {N o:Nat} {h:H} (hN:N≤o) (ho:o<h.n) (X:MObj):Keep (Old N) h (h.setMem o X) where
 wf:=fun w=>by
  refine ⟨w.gr,fun o' cs g e => ?_,fun o' x e => ?_,w.kt,w.tl⟩
  · rw [H.get_setMem] at e
    split at e
    · cases e
    · exact w.mem o' cs g e
  · rw [H.get_setMem] at e
    split at e
    · rename_i h;rw [h];exact ho
    · exact w.ob o' x e
 n:=Nat.le_refl _
 get:=fun o' ho'=>by rw [H.get_setMem,if_neg];intro e;subst e;exact absurd ho' (Nat.not_lt.2 hN)
 tip:=fun _ _=>rfl
 kill:=fun _ _=>rfl
/-- the rune at a place, and how many bytes it has -/
def dec (s:List UInt8) (p:Nat):Nat×Nat:=Utf8.decode ⟨⟨s⟩⟩ p
theorem aNo (s:List UInt8) (p:Nat):0<(dec s p).2:=by
 unfold dec Utf8.decode
 simp only
 repeat' split
 all_goals simp
def runesF:Nat→List UInt8→Nat→List (Nat×Nat)
 | 0,_,_ => []
 | f+1,s,p=>if p<s.length then (p,(dec s p).1)::runesF f s (p+(dec s p).2) else []
/-- a text's runes from a place on -/
def runes (s:List UInt8) (p:Nat):List (Nat×Nat):=runesF (s.length - p) s p
theorem aYB (s:List UInt8) : ∀ (f p:Nat),s.length - p≤f→runesF f s p=runesF (s.length - p) s p:=by
 intro f
 induction f using Nat.strongRecOn with
 | _ f ih =>
  intro p hf
  cases f with
  | zero=>rw [Nat.le_zero.1 hf]
  | succ f =>
   by_cases hp:p<s.length
   · obtain ⟨q,hq⟩ : ∃ q,s.length - p=q+1:=⟨s.length - p - 1,by omega⟩
     rw [hq]
     simp only [runesF,if_pos hp]
     have h1:=aNo s p
     rw [ih f (by omega) _ (by omega),ih q (by omega) _ (by omega)]
   · have:s.length - p=0:=by omega
     rw [this]
     simp only [runesF,if_neg hp]
theorem aCi {s:List UInt8} {p:Nat} (hp:p<s.length):runes s p=(p,(dec s p).1)::runes s (p+(dec s p).2):=by
 unfold runes
 obtain ⟨q,hq⟩ : ∃ q,s.length - p=q+1:=⟨s.length - p - 1,by omega⟩
 rw [hq]
 simp only [runesF,if_pos hp]
 have h1:=aNo s p
 rw [aYB s q _ (by omega)]
theorem aEG {s:List UInt8} {p:Nat} (hp : ¬ p<s.length):runes s p = []:=by
 unfold runes
 have:s.length - p=0:=by omega
 rw [this];rfl
/-- no broken byte stands there -/
def aDt (s:List UInt8) (x:Nat×Nat):Bool := !(x.2==65533)||((s.drop x.1).take 3 == [239,191,189])
def validG (s:List UInt8):Bool:=(runes s 0).all (aDt s)
def countG (s:List UInt8):Nat:=(runes s 0).length
/-- a text that is ranged over -/
theorem aJq {h:H} {o p:Nat} {s:List UInt8} (hs:h.get o=some (.mem (.siter s p))) :
 nextTA h (.ptr o 0)=if p<s.length then some (.tup [.bool true,.int .i64 (p:Int),.int .i32 ((dec s p).1:Int)],h.setMem o (.siter s (p+(dec s p).2))) else some (.tup [.bool false],h):=by
 simp only [nextTA,hs];rfl

/-- does a text begin so? -/
theorem aSn {E:Env} (he:Std E) (s t:List UInt8) (h:H) (ht:t.length<4611686018427387904) :
 WCall E aAi [.str s,.str t] h fun r h'=>h'=h∧r = .val (.bool (s.take t.length==t)):=by
 refine aAI (he.ov _ rfl) (he.tT aQ3) (by simp [aFE]) ?_
 refine aAA (aAB ?_)
 simp only [aIU,go_sem,↓reduceIte,Nat.reduceEqDiff]
 refine aAA (aAB ?_)
 simp only [aIB,go_sem,↓reduceIte,Nat.reduceEqDiff,enterS,List.getD_cons_zero,List.getD_cons_succ]
 have key:WCall E aDT [.str s,.str t] h fun r h'=>h'=h∧r = .val (.bool (s.take t.length==t)):=by
  refine aAI (he.ov _ rfl) (he.tT aMT) (by simp [aC2]) ?_
  refine aAA (aAB ?_)
  simp only [aF8,go_sem,↓reduceIte,Nat.reduceEqDiff]
  refine aAA (aAB ?_)
  simp only [aF1,go_sem,↓reduceIte,Nat.reduceEqDiff,enterS,List.getD_cons_zero,List.getD_cons_succ,lenTA,Option.map_some]
  by_cases hle:t.length≤s.length
  · have hle':(t.length:Int)≤(s.length:Int):=by omega
    simp only [hle',decide_true,wanted,beq_self_eq_true,go_sem,↓reduceIte,Nat.reduceEqDiff,lenTA,Option.map_some,Option.map_none,aSC hle,pickA]
    refine aAE ?_
    simp only [go_sem,aC2,↓reduceIte,Nat.reduceEqDiff]
    exact ⟨trivial,by rw [Bool.eq_iff_iff.2 (by simp:(s.take t.length==t)=true↔decide (s.take t.length=t)=true)]⟩
  · have hle' : ¬ (t.length:Int)≤(s.length:Int):=by omega
    simp only [hle',decide_false,wanted,go_sem,↓reduceIte,Nat.reduceEqDiff,show (false==true)=false from rfl,Bool.false_eq_true,pickA,undefA]
    refine aAE ?_
    simp only [go_sem,aC2,↓reduceIte,Nat.reduceEqDiff]
    refine ⟨trivial,?_⟩
    have : ¬ s.take t.length=t:=by
     intro e
     have:=congrArg List.length e
     simp at this;omega
    simp [this]
 refine key.mono ?_
 rintro r h' ⟨rfl,rfl⟩
 simp only [go_sem,↓reduceIte,Nat.reduceEqDiff]
 refine aAE ?_
 simp only [go_sem,aFE,↓reduceIte,Nat.reduceEqDiff]
 exact ⟨trivial,trivial⟩
theorem aTt {E:Env} (he:Std E) (s:List UInt8) (h:H) (hl:s.length<4611686018427387904) :
 WCall E aDV [.str s] h fun r h'=>Keep (Old h.n) h h'∧r = .val (.bool (validG s)):=by
 refine aAI (he.ov _ rfl) (he.tT aV5) (by simp [aGj]) ?_
 refine aAA (aAB ?_)
 simp only [aOA,go_sem,↓reduceIte,Nat.reduceEqDiff]
 refine aAA (aAA (aAB ?_))
 simp only [aOw,go_sem,↓reduceIte,Nat.reduceEqDiff,enterS,List.getD_cons_zero,aDh]
 refine aAG (aAP (fun m z g=>Keep (Old h.n) h g ∧ ∃ p,m=s.length - p∧g.get h.n=some (.mem (.siter s p))∧h.n<g.n∧validG s=(runes s p).all (aDt s)∧z 0 = .str s∧z 6 = .ptr h.n 0) ?_ s.length ?_)
 case refine_2=>exact ⟨Keep.pushX (Nat.le_refl _) _,0,by simp,by rw [H.get_push,if_pos rfl],Nat.lt_succ_self _,rfl,rfl,rfl⟩
 rintro m z g ⟨kg,p,rfl,hit,hn,hv,z0,z6⟩
 show WS E aOl _ _ _ _
 refine aAA (aAB ?_)
 simp only [aOB,go_sem,↓reduceIte,Nat.reduceEqDiff,z6,aJq hit]
 by_cases hp:p<s.length
 case neg =>
  simp only [hp,↓reduceIte,go_sem,Nat.reduceEqDiff,aAM,List.getElem?_cons_zero]
  refine aAA (aAD ?_)
  simp only [go_sem,↓reduceIte,Bool.false_eq_true]
  refine aAK ?_
  simp only [go_sem,↓reduceIte]
  refine aAA (aAB ?_)
  simp only [aON,go_sem,↓reduceIte,Nat.reduceEqDiff]
  refine aAE ?_
  simp only [go_sem,aGj,↓reduceIte,Nat.reduceEqDiff]
  rw [hv,aEG hp]
  exact ⟨kg,rfl⟩
 simp only [hp,↓reduceIte,go_sem,Nat.reduceEqDiff,aAM,List.getElem?_cons_zero]
 have hdp:=aNo s p
 have kg':Keep (Old h.n) h (g.setMem h.n (.siter s (p+(dec s p).2))):=kg.trans (Keep.setX (Nat.le_refl _) hn _)
 have hit':(g.setMem h.n (.siter s (p+(dec s p).2))).get h.n=some (.mem (.siter s (p+(dec s p).2))):=by rw [H.get_setMem,if_pos rfl]
 have hn':h.n<(g.setMem h.n (.siter s (p+(dec s p).2))).n:=hn
 rw [aCi hp,List.all_cons] at hv
 generalize g.setMem h.n (.siter s (p+(dec s p).2))=g2 at kg' hit' hn'
 refine aAA (aAD ?_)
 simp only [go_sem,↓reduceIte]
 refine aAF ?_
 simp only [go_sem]
 refine aAG (aAA (aAB ?_))
 simp only [aOH,go_sem,↓reduceIte,Nat.reduceEqDiff,aAM,List.getElem?_cons_zero,List.getElem?_cons_succ]
 refine aAA (aAB ?_)
 simp only [aNm,go_sem,↓reduceIte,Nat.reduceEqDiff,wanted]
 by_cases hc:(dec s p).1=65533
 · have hc':((dec s p).1:Int)=65533:=by omega
   simp only [hc',decide_true,beq_self_eq_true,go_sem,↓reduceIte,Nat.reduceEqDiff,z0,Option.map_some,Option.map_none,aEs (Nat.le_of_lt hp)]
   refine (aSn he _ _ _ (by decide)).mono ?_
   rintro r g3 ⟨rfl,rfl⟩
   simp only [go_sem,↓reduceIte,Nat.reduceEqDiff,pickA,wanted,beq_self_eq_true,List.length_cons,List.length_nil,Nat.zero_add,Nat.reduceAdd]
   refine aAD ?_
   cases hw:(List.take 3 (List.drop p s) == [239,191,189])
   · simp only [go_sem,↓reduceIte,Bool.not_false]
     refine aAA (aAB ?_)
     simp only [aNq,go_sem,↓reduceIte,Nat.reduceEqDiff]
     refine aAE ?_
     simp only [go_sem,aGj,↓reduceIte,Nat.reduceEqDiff]
     rw [hv]
     simp only [aDt,hc,hw]
     exact ⟨kg',rfl⟩
   · simp only [go_sem,↓reduceIte,Bool.not_true,Bool.false_eq_true]
     refine aAF ?_
     simp only [go_sem]
     refine ⟨s.length - (p+(dec s p).2),by omega,kg',_,rfl,hit',hn',?_,z0,z6⟩
     rw [hv];simp [aDt,hw]
 · have hc' : ¬ ((dec s p).1:Int)=65533:=by omega
   simp only [hc',decide_false,go_sem,↓reduceIte,Nat.reduceEqDiff,show (false==true)=false from rfl,Bool.false_eq_true,pickA,undefA,wanted]
   refine aAD ?_
   simp only [go_sem,↓reduceIte,Bool.false_eq_true]
   refine aAF ?_
   simp only [go_sem]
   refine ⟨s.length - (p+(dec s p).2),by omega,kg',_,rfl,hit',hn',?_,z0,z6⟩
   rw [hv];simp [aDt,hc]
theorem aY8 {E:Env} (he:Std E) (s:List UInt8) (h:H) (hl:s.length<4611686018427387904) :
 WCall E aKx [.str s] h fun r h'=>Keep (Old h.n) h h'∧r = .val (.int .i64 (countG s:Int)):=by
 refine aAI (he.ov _ rfl) (he.tT aVo) (by simp [aLR]) ?_
 refine aAA (aAB ?_)
 simp only [aO1,go_sem,↓reduceIte,Nat.reduceEqDiff]
 refine aAA (aAB ?_)
 simp only [aNi,go_sem,↓reduceIte,Nat.reduceEqDiff]
 refine aAA (aAA (aAB ?_))
 simp only [aNh,go_sem,↓reduceIte,Nat.reduceEqDiff,enterS,List.getD_cons_zero,aDh]
 refine aAG (aAP (fun m z g=>Keep (Old h.n) h g ∧ ∃ p c,m=s.length - p∧c≤p∧p≤s.length+4∧g.get h.n=some (.mem (.siter s p))∧h.n<g.n∧countG s=c+(runes s p).length∧z 5 = .ptr h.n 0∧z 3 = .int .i64 (c:Int)) ?_ s.length ?_)
 case refine_2=>exact ⟨Keep.pushX (Nat.le_refl _) _,0,0,by simp,by simp,by omega,by rw [H.get_push,if_pos rfl],Nat.lt_succ_self _,by simp [countG],rfl,rfl⟩
 rintro m z g ⟨kg,p,c,rfl,hcp,hpl,hit,hn,hv,z5,z3⟩
 show WS E aNt _ _ _ _
 refine aAA (aAB ?_)
 simp only [aO5,go_sem,↓reduceIte,Nat.reduceEqDiff,z5,aJq hit]
 by_cases hp:p<s.length
 case neg =>
  simp only [hp,↓reduceIte,go_sem,Nat.reduceEqDiff,aAM,List.getElem?_cons_zero]
  refine aAA (aAD ?_)
  simp only [go_sem,↓reduceIte,Bool.false_eq_true]
  refine aAK ?_
  simp only [go_sem,↓reduceIte]
  refine aAA (aAB ?_)
  simp only [aOt,go_sem,↓reduceIte,Nat.reduceEqDiff,z3]
  refine aAE ?_
  simp only [go_sem,aLR,↓reduceIte,Nat.reduceEqDiff]
  rw [hv,aEG hp]
  exact ⟨kg,rfl⟩
 simp only [hp,↓reduceIte,go_sem,Nat.reduceEqDiff,aAM,List.getElem?_cons_zero]
 have hdp:=aNo s p
 have hd4:(dec s p).2≤4:=by
  unfold dec Utf8.decode
  simp only
  repeat' split
  all_goals simp
 have kg':Keep (Old h.n) h (g.setMem h.n (.siter s (p+(dec s p).2))):=kg.trans (Keep.setX (Nat.le_refl _) hn _)
 have hit':(g.setMem h.n (.siter s (p+(dec s p).2))).get h.n=some (.mem (.siter s (p+(dec s p).2))):=by rw [H.get_setMem,if_pos rfl]
 have hn':h.n<(g.setMem h.n (.siter s (p+(dec s p).2))).n:=hn
 rw [aCi hp,List.length_cons] at hv
 generalize g.setMem h.n (.siter s (p+(dec s p).2))=g2 at kg' hit' hn'
 refine aAA (aAD ?_)
 simp only [go_sem,↓reduceIte]
 refine aAF ?_
 simp only [go_sem]
 refine aAG (aAB ?_)
 simp only [aNg,go_sem,↓reduceIte,Nat.reduceEqDiff,z3]
 refine ⟨s.length - (p+(dec s p).2),by omega,kg',_,c+1,rfl,by omega,by omega,hit',hn',by omega,z5,?_⟩
 rw [show ((c:Int)+1)=((c+1:Nat):Int) from rfl,wrapI (by omega)]
/-- may a rune stand in a name? -/
def runeB (c:Nat):Bool:=decide (161≤c)||aFj c
def nameG (s:List UInt8):Bool:=validG s&&(!(s == [])&&(decide (countG s≤24)&&(runes s 0).all fun x=>runeB x.2))
theorem a0a {E:Env} (he:Std E) (s:List UInt8) (h:H) (hl:s.length<4611686018427387904) :
 WCall E aCj [.str s] h fun r h'=>Keep (Old h.n) h h'∧r = .val (.bool (nameG s)):=by
 refine aAI (he.ov _ rfl) (he.tT aW8) (by simp [aDL]) ?_
 refine aAA (aAB ?_)
 simp only [aQN,go_sem,↓reduceIte,Nat.reduceEqDiff]
 refine aAA (aAA (aAB ?_))
 simp only [aPp,go_sem,↓reduceIte,Nat.reduceEqDiff,enterS,List.getD_cons_zero]
 refine (aTt he s h hl).mono ?_
 rintro _ g1 ⟨k1,rfl⟩
 cases hv:validG s
 case false =>
  simp only [go_sem,↓reduceIte,Nat.reduceEqDiff,Bool.not_false,wanted,show (true==false)=false from rfl,Bool.false_eq_true,pickA]
  refine aAD ?_
  simp only [go_sem,↓reduceIte]
  refine aAA (aAB ?_)
  simp only [aGl,go_sem,↓reduceIte,Nat.reduceEqDiff]
  refine aAE ?_
  simp only [go_sem,aDL,↓reduceIte,Nat.reduceEqDiff]
  exact ⟨k1,by simp [nameG,hv]⟩
 simp only [go_sem,↓reduceIte,Nat.reduceEqDiff,Bool.not_true,wanted,beq_self_eq_true,enterS,List.getD_cons_zero,pickA]
 by_cases h0:s = []
 · simp only [h0,decide_true,go_sem,↓reduceIte,Nat.reduceEqDiff,wanted,show (true==false)=false from rfl,Bool.false_eq_true,pickA]
   refine aAD ?_
   simp only [go_sem,↓reduceIte]
   refine aAA (aAB ?_)
   simp only [aGl,go_sem,↓reduceIte,Nat.reduceEqDiff]
   refine aAE ?_
   simp only [go_sem,aDL,↓reduceIte,Nat.reduceEqDiff]
   exact ⟨k1,by simp [nameG]⟩
 simp only [h0,decide_false,go_sem,↓reduceIte,Nat.reduceEqDiff,wanted,beq_self_eq_true,Bool.false_eq_true,pickA,enterS,List.getD_cons_zero]
 refine (aY8 he s g1 hl).mono ?_
 rintro _ g2 ⟨k2,rfl⟩
 have k12:=k1.then (Nat.le_refl _) k2
 simp only [go_sem,↓reduceIte,Nat.reduceEqDiff,pickA]
 by_cases hc:countG s≤24
 case neg =>
  have hc':(24:Int)<(countG s:Int):=by omega
  simp only [hc',decide_true]
  refine aAD ?_
  simp only [go_sem,↓reduceIte]
  refine aAA (aAB ?_)
  simp only [aGl,go_sem,↓reduceIte,Nat.reduceEqDiff]
  refine aAE ?_
  simp only [go_sem,aDL,↓reduceIte,Nat.reduceEqDiff]
  exact ⟨k12,by simp [nameG,hc]⟩
 have hc' : ¬ (24:Int)<(countG s:Int):=by omega
 simp only [hc',decide_false]
 refine aAD ?_
 simp only [go_sem,↓reduceIte,Bool.false_eq_true]
 refine aAF ?_
 simp only [go_sem]
 have hN:nameG s=(runes s 0).all fun x=>runeB x.2:=by simp [nameG,hv,h0,hc]
 rw [hN]
 refine aAA (aAA (aAB ?_))
 simp only [aQW,go_sem,↓reduceIte,Nat.reduceEqDiff,enterS,List.getD_cons_zero,aDh]
 refine aAG (aAP (fun m z g=>Keep (Old h.n) h g ∧ ∃ p,m=s.length - p∧g.get g2.n=some (.mem (.siter s p))∧g2.n<g.n∧((runes s 0).all fun x=>runeB x.2)=((runes s p).all fun x=>runeB x.2)∧z 18 = .ptr g2.n 0) ?_ s.length ?_)
 case refine_2=>exact ⟨k12.trans (Keep.pushX k12.n _),0,by simp,by rw [H.get_push,if_pos rfl],Nat.lt_succ_self _,rfl,rfl⟩
 rintro m z g ⟨kg,p,rfl,hit,hn,hav,z18⟩
 show WS E aPa _ _ _ _
 refine aAA (aAB ?_)
 simp only [aQR,go_sem,↓reduceIte,Nat.reduceEqDiff,z18,aJq hit]
 by_cases hp:p<s.length
 case neg =>
  simp only [hp,↓reduceIte,go_sem,Nat.reduceEqDiff,aAM,List.getElem?_cons_zero]
  refine aAA (aAD ?_)
  simp only [go_sem,↓reduceIte,Bool.false_eq_true]
  refine aAK ?_
  simp only [go_sem,↓reduceIte]
  refine aAA (aAB ?_)
  simp only [aQM,go_sem,↓reduceIte,Nat.reduceEqDiff]
  refine aAE ?_
  simp only [go_sem,aDL,↓reduceIte,Nat.reduceEqDiff]
  rw [hav,aEG hp]
  exact ⟨kg,rfl⟩
 simp only [hp,↓reduceIte,go_sem,Nat.reduceEqDiff,aAM,List.getElem?_cons_zero]
 have hdp:=aNo s p
 have hg2:h.n≤g2.n:=k12.n
 have kg':Keep (Old h.n) h (g.setMem g2.n (.siter s (p+(dec s p).2))):=kg.trans (Keep.setX hg2 hn _)
 have hit':(g.setMem g2.n (.siter s (p+(dec s p).2))).get g2.n=some (.mem (.siter s (p+(dec s p).2))):=by rw [H.get_setMem,if_pos rfl]
 have hn':g2.n<(g.setMem g2.n (.siter s (p+(dec s p).2))).n:=hn
 rw [aCi hp,List.all_cons] at hav
 generalize g.setMem g2.n (.siter s (p+(dec s p).2))=g3 at kg' hit' hn'
 refine aAA (aAD ?_)
 simp only [go_sem,↓reduceIte]
 refine aAF ?_
 simp only [go_sem]
 refine aAG (aAA (aAB ?_))
 simp only [aQA,go_sem,↓reduceIte,Nat.reduceEqDiff,aAM,List.getElem?_cons_zero,List.getElem?_cons_succ]
 refine aAA (aAB ?_)
 have hR:aKz = [⟨(some 22),(.mov (.tmp 4)),none⟩,⟨(some 23),(.bin .lss (.tmp 22) (.con (.int .i32 161))),none⟩,⟨(some 24),(.mov (.tmp 23)),none⟩,⟨(some 25),(.mov (.tmp 4)),(some (24,true))⟩,⟨(some 26),(.call (.con (.func aA3 [])) [(.con (.str lettersL)),(.tmp 25)]),(some (24,true))⟩,⟨(some 27),(.not (.tmp 26)),(some (24,true))⟩,⟨(some 28),(.pick (.tmp 24) (.tmp 27) (.con (.bool false))),none⟩]:=by unfold aKz lettersL;rfl
 rw [hR]
 clear hR
 simp only [go_sem,↓reduceIte,Nat.reduceEqDiff,wanted]
 have q3:(dec s p).1<161∨161≤(dec s p).1:=Nat.lt_or_ge _ _
 cases q3 with
 | inl hlt =>
  have hlt':((dec s p).1:Int)<161:=by omega
  simp only [hlt',decide_true,beq_self_eq_true,go_sem,↓reduceIte,Nat.reduceEqDiff]
  refine (a2S he _ hlt _).mono ?_
  rintro _ _ ⟨rfl,rfl⟩
  simp only [go_sem,↓reduceIte,Nat.reduceEqDiff,pickA,wanted,beq_self_eq_true]
  refine aAD ?_
  cases hb:aFj (dec s p).1
  · simp only [go_sem,↓reduceIte,Bool.not_false]
    refine aAA (aAB ?_)
    simp only [aPc,go_sem,↓reduceIte,Nat.reduceEqDiff]
    refine aAE ?_
    simp only [go_sem,aDL,↓reduceIte,Nat.reduceEqDiff]
    rw [hav]
    have:runeB (dec s p).1=false:=by simp [runeB,hb];omega
    simp only [this]
    exact ⟨kg',rfl⟩
  · simp only [go_sem,↓reduceIte,Bool.not_true,Bool.false_eq_true]
    refine aAF ?_
    simp only [go_sem]
    refine ⟨s.length - (p+(dec s p).2),by omega,kg',_,rfl,hit',hn',?_,z18⟩
    rw [hav];simp [runeB,hb]
 | inr hlt =>
  have hlt' : ¬ ((dec s p).1:Int)<161:=by omega
  simp only [hlt',decide_false,go_sem,↓reduceIte,Nat.reduceEqDiff,show (false==true)=false from rfl,Bool.false_eq_true,pickA,undefA,wanted]
  refine aAD ?_
  simp only [go_sem,↓reduceIte,Bool.false_eq_true]
  refine aAF ?_
  simp only [go_sem]
  refine ⟨s.length - (p+(dec s p).2),by omega,kg',_,rfl,hit',hn',?_,z18⟩
  rw [hav]
  have:runeB (dec s p).1=true:=by simp [runeB];omega
  simp [this]
end Go.Proofs.YtdbmeidhlijopaaGreatDoor.Ev.C

/- A rune's bytes, as the reference has them and as the model decodes them. -/
namespace Go.Proofs.YtdbmeidhlijopaaGreatDoor.Ev.C
open Go Go.Proofs.YtdbmeidhlijopaaGreatDoor.Ev
set_option linter.unusedSimpArgs false
set_option linter.unusedVariables false
/-- the model's decoding, over bytes -/
def decV (b0 b1 b2 b3:Nat) (e1 e2 e3:Prop) [Decidable e1] [Decidable e2] [Decidable e3]:Nat×Nat :=
 if b0<128 then (b0,1)
 else if b0 / 32=6∧e1∧b1 / 64=2 then
  if 128≤b0 % 32*64+b1 % 64 then (b0 % 32*64+b1 % 64,2) else (65533,1)
 else if (b0 / 16=14∧e1∧b1 / 64=2)∧e2∧b2 / 64=2 then
  if 2048≤b0 % 16*4096+b1 % 64*64+b2 % 64∧(b0 % 16*4096+b1 % 64*64+b2 % 64<55296∨57344≤b0 % 16*4096+b1 % 64*64+b2 % 64) then (b0 % 16*4096+b1 % 64*64+b2 % 64,3) else (65533,1)
 else if ((b0 / 8=30∧e1∧b1 / 64=2)∧e2∧b2 / 64=2)∧e3∧b3 / 64=2 then
  if 65536≤b0 % 8*262144+b1 % 64*4096+b2 % 64*64+b3 % 64∧b0 % 8*262144+b1 % 64*4096+b2 % 64*64+b3 % 64≤1114111 then (b0 % 8*262144+b1 % 64*4096+b2 % 64*64+b3 % 64,4) else (65533,1)
 else (65533,1)
def longV (b0 b1 b2 b3:Nat) (e1 e2 e3:Prop) [Decidable e1] [Decidable e2] [Decidable e3]:Nat :=
 if b0<128 then 1
 else if 194≤b0∧b0≤223 then (if e1∧128≤b1∧b1≤191 then 2 else 0)
 else if 224≤b0∧b0≤239 then
  (if (e1∧(if b0=224 then 160 else 128)≤b1∧b1≤(if b0=237 then 159 else 191))∧e2∧128≤b2∧b2≤191 then 3 else 0)
 else if 240≤b0∧b0≤244 then
  (if (e1∧(if b0=240 then 144 else 128)≤b1∧b1≤(if b0=244 then 143 else 191))∧(e2∧128≤b2∧b2≤191)∧e3∧128≤b3∧b3≤191 then 4 else 0)
 else 0
theorem aMg (b0 b1 b2 b3:Nat) (e1 e2 e3:Prop) [Decidable e1] [Decidable e2] [Decidable e3] (h0:b0<256) (h1:b1<256) (h2:b2<256) (h3:b3<256) :
 (longV b0 b1 b2 b3 e1 e2 e3=0∧decV b0 b1 b2 b3 e1 e2 e3=(65533,1)) ∨
 (longV b0 b1 b2 b3 e1 e2 e3=1∧decV b0 b1 b2 b3 e1 e2 e3=(b0,1)∧b0<128) ∨
 (longV b0 b1 b2 b3 e1 e2 e3=2∧decV b0 b1 b2 b3 e1 e2 e3=(b0 % 32*64+b1 % 64,2)∧194≤b0∧b0≤223∧128≤b1∧b1≤191∧e1) ∨
 (longV b0 b1 b2 b3 e1 e2 e3=3∧decV b0 b1 b2 b3 e1 e2 e3=(b0 % 16*4096+b1 % 64*64+b2 % 64,3)∧2048≤b0 % 16*4096+b1 % 64*64+b2 % 64∧224≤b0∧b0≤239∧128≤b1∧b1≤191∧128≤b2∧b2≤191∧e2) ∨
 (longV b0 b1 b2 b3 e1 e2 e3=4∧decV b0 b1 b2 b3 e1 e2 e3=(b0 % 8*262144+b1 % 64*4096+b2 % 64*64+b3 % 64,4)∧65536≤b0 % 8*262144+b1 % 64*4096+b2 % 64*64+b3 % 64∧240≤b0∧e3):=by
 by_cases c1:b0<128
 · right;left
   simp only [longV,decV,c1,if_true,and_self]
 by_cases c2:b0<194
 · left
   have q1 : ¬ (194≤b0∧b0≤223):=by omega
   have q2 : ¬ (224≤b0∧b0≤239):=by omega
   have q3 : ¬ (240≤b0∧b0≤244):=by omega
   have q4 : ¬ b0 / 16=14:=by omega
   have q5 : ¬ b0 / 8=30:=by omega
   refine ⟨by simp only [longV,c1,q1,q2,q3,if_false],?_⟩
   simp only [decV,c1,q4,q5,false_and,if_false]
   split
   · rename_i h;rw [if_neg (by omega)]
   · rfl
 by_cases c3:b0≤223
 · have q1:194≤b0∧b0≤223:=by omega
   have q6:b0 / 32=6:=by omega
   have q4 : ¬ b0 / 16=14:=by omega
   have q5 : ¬ b0 / 8=30:=by omega
   by_cases k:e1∧128≤b1∧b1≤191
   · right;right;left
     have k':e1∧b1 / 64=2:=⟨k.1,by omega⟩
     have k2:128≤b0 % 32*64+b1 % 64:=by omega
     exact ⟨by simp only [longV,c1,q1,k,if_false,if_true,and_self],by simp only [decV,c1,q6,k',k2,if_false,if_true,and_self,true_and],q1.1,q1.2,k.2.1,k.2.2,k.1⟩
   · left
     have k' : ¬ (e1∧b1 / 64=2):=fun hh=>k ⟨hh.1,by omega,by omega⟩
     exact ⟨by simp only [longV,c1,q1,k,if_false,if_true,and_self],by simp only [decV,c1,q4,q5,q6,k',if_false,if_true,false_and,true_and]⟩
 by_cases c4:b0≤239
 · have q1 : ¬ (194≤b0∧b0≤223):=by omega
   have q2:224≤b0∧b0≤239:=by omega
   have q6 : ¬ b0 / 32=6:=by omega
   have q4:b0 / 16=14:=by omega
   have q5 : ¬ b0 / 8=30:=by omega
   by_cases k:(e1∧(if b0=224 then 160 else 128)≤b1∧b1≤(if b0=237 then 159 else 191))∧e2∧128≤b2∧b2≤191
   · right;right;right;left
     have k3:128≤b1∧b1≤191∧(b0=224→160≤b1)∧(b0=237→b1≤159):=by
      obtain ⟨⟨_,x,y⟩,_⟩:=k
      split at x <;> split at y <;> omega
     have k':((e1∧b1 / 64=2)∧e2∧b2 / 64=2):=⟨⟨k.1.1,by omega⟩,k.2.1,by omega⟩
     have k2:2048≤b0 % 16*4096+b1 % 64*64+b2 % 64:=by omega
     have k4:b0 % 16*4096+b1 % 64*64+b2 % 64<55296∨57344≤b0 % 16*4096+b1 % 64*64+b2 % 64:=by omega
     exact ⟨by simp only [longV,c1,q1,q2,k,if_false,if_true,and_self],by simp only [decV,c1,q4,q6,k',k2,k4,if_false,if_true,and_self,true_and,false_and],k2,q2.1,q2.2,k3.1,k3.2.1,k.2.2.1,k.2.2.2,k.2.1⟩
   · left
     refine ⟨by simp only [longV,c1,q1,q2,k,if_false,if_true,and_self],?_⟩
     simp only [decV,c1,q4,q5,q6,if_false,if_true,false_and,true_and]
     split
     · rename_i h
       rw [if_neg]
       intro hh
       refine k ⟨⟨h.1.1,?_,?_⟩,h.2.1,by omega,by omega⟩
       · split <;> omega
       · split <;> omega
     · rfl
 have q1 : ¬ (194≤b0∧b0≤223):=by omega
 have q2 : ¬ (224≤b0∧b0≤239):=by omega
 have q6 : ¬ b0 / 32=6:=by omega
 have q4 : ¬ b0 / 16=14:=by omega
 by_cases c5:b0≤244
 · have q3:240≤b0∧b0≤244:=by omega
   have q5:b0 / 8=30:=by omega
   by_cases k:(e1∧(if b0=240 then 144 else 128)≤b1∧b1≤(if b0=244 then 143 else 191))∧(e2∧128≤b2∧b2≤191)∧e3∧128≤b3∧b3≤191
   · right;right;right;right
     have k3:128≤b1∧b1≤191∧(b0=240→144≤b1)∧(b0=244→b1≤143):=by
      obtain ⟨⟨_,x,y⟩,_⟩:=k
      split at x <;> split at y <;> omega
     have k':(((e1∧b1 / 64=2)∧e2∧b2 / 64=2)∧e3∧b3 / 64=2):=⟨⟨⟨k.1.1,by omega⟩,k.2.1.1,by omega⟩,k.2.2.1,by omega⟩
     have k2:65536≤b0 % 8*262144+b1 % 64*4096+b2 % 64*64+b3 % 64:=by omega
     have k4:b0 % 8*262144+b1 % 64*4096+b2 % 64*64+b3 % 64≤1114111:=by omega
     exact ⟨by simp only [longV,c1,q1,q2,q3,k,if_false,if_true,and_self],by simp only [decV,c1,q4,q5,q6,k',k2,k4,if_false,if_true,and_self,true_and,false_and],k2,q3.1,k.2.2.1⟩
   · left
     refine ⟨by simp only [longV,c1,q1,q2,q3,k,if_false,if_true,and_self],?_⟩
     simp only [decV,c1,q4,q5,q6,if_false,if_true,false_and,true_and]
     split
     · rename_i h
       rw [if_neg]
       intro hh
       refine k ⟨⟨h.1.1.1,?_,?_⟩,⟨h.1.2.1,by omega,by omega⟩,h.2.1,by omega,by omega⟩
       · split <;> omega
       · split <;> omega
     · rfl
 · left
   have q3 : ¬ (240≤b0∧b0≤244):=by omega
   refine ⟨by simp only [longV,c1,q1,q2,q3,if_false],?_⟩
   simp only [decV,c1,q4,q6,if_false,false_and]
   split
   · rename_i h
     rw [if_neg]
     omega
   · rfl
def bt (s:List UInt8) (i:Nat):Nat:=(s.getD i 0).toNat
theorem bt_lt (s:List UInt8) (i:Nat):bt s i<256:=UInt8.toNat_lt _
/-- how many bytes the rune at a place has; 0: a broken byte stands there -/
def longR (s:List UInt8) (i:Nat):Nat:=longV (bt s i) (bt s (i+1)) (bt s (i+2)) (bt s (i+3)) (i+1<s.length) (i+2<s.length) (i+3<s.length)
theorem get_bt (s:List UInt8) (i:Nat):((⟨⟨s⟩⟩:ByteArray).get! i).toNat=bt s i:=by
 unfold bt
 congr 1
 show (Array.mk s)[i]! = _
 rw [List.getD_eq_getElem?_getD]
 simp [Array.getElem!_eq_getD,Array.getD_eq_getD_getElem?]
 rfl
theorem a27 (s:List UInt8):(⟨⟨s⟩⟩:ByteArray).size=s.length:=rfl
theorem aOy (s:List UInt8) (p:Nat):dec s p=decV (bt s p) (bt s (p+1)) (bt s (p+2)) (bt s (p+3)) (p+1<s.length) (p+2<s.length) (p+3<s.length):=by
 have h0:=bt_lt s p
 have h1:=bt_lt s (p+1)
 have h2:=bt_lt s (p+2)
 have h3:=bt_lt s (p+3)
 unfold dec Utf8.decode decV
 simp only [get_bt,a27,Nat.add_zero,Utf8.valid,Utf8.runeError,Bool.and_eq_true,Bool.or_eq_true,decide_eq_true_eq,beq_iff_eq,ge_iff_le]
 generalize bt s p=b0 at *
 generalize bt s (p+1)=b1 at *
 generalize bt s (p+2)=b2 at *
 generalize bt s (p+3)=b3 at *
 have i1 : ∀ {a b:Prop} [Decidable a] [Decidable b] {x y:Nat×Nat},(a↔b)→(if a then x else y)=if b then x else y:=by
  intro a b _ _ x y hab
  by_cases ha:a
  · rw [if_pos ha,if_pos (hab.1 ha)]
  · rw [if_neg ha,if_neg (fun hb=>ha (hab.2 hb))]
 by_cases c1:b0<128
 · simp only [c1,if_true]
 simp only [c1,if_false]
 by_cases c2:b0 / 32=6∧p+1<s.length∧b1 / 64=2
 · simp only [c2,if_true,and_self]
 simp only [c2,if_false]
 by_cases c3:(b0 / 16=14∧p+1<s.length∧b1 / 64=2)∧p+2<s.length∧b2 / 64=2
 · simp only [c3,if_true,and_self]
   exact i1 (by omega)
 simp only [c3,if_false]
 by_cases c4:((b0 / 8=30∧p+1<s.length∧b1 / 64=2)∧p+2<s.length∧b2 / 64=2)∧p+3<s.length∧b3 / 64=2
 · simp only [c4,if_true,and_self]
   exact i1 (by omega)
 simp only [c4,if_false]
/-- where the next rune begins -/
def stepR (s:List UInt8) (i:Nat):Nat:=if longR s i=0 then i+1 else i+longR s i
/-- may the rune at a place stand in a name? -/
def asciiR (c:Nat):Bool:=(c==95)||((decide (97≤c)&&decide (c≤122))||((decide (65≤c)&&decide (c≤90))||(decide (48≤c)&&decide (c≤57))))
def mayR (s:List UInt8) (i:Nat):Bool :=
 if longR s i=1 then asciiR (bt s i) else decide (1<longR s i)&&(!(bt s i==194)||decide (160<bt s (i+1)))
theorem aWR : ∀ c,c<128→aFj c=asciiR c:=by decide +kernel
theorem aZG {c:Nat} (h:128≤c):aFj c=false:=by
 unfold aFj
 rw [List.any_eq_false]
 intro b hb
 have : ∀ b∈lettersL,b.toNat<128:=by decide +kernel
 have:=this b hb
 simp;omega
theorem aYR {s:List UInt8} {p:Nat} (h:(s.drop p).take 3 = [239,191,189]):bt s p=239∧bt s (p+1)=191∧bt s (p+2)=189∧p+2<s.length:=by
 have e : ∀ k,k<3→s[p+k]? = ([239,191,189]:List UInt8)[k]? := by
  intro k hk
  rw [← h,List.getElem?_take,if_pos hk,List.getElem?_drop]
 have e0:=e 0 (by decide)
 have e1:=e 1 (by decide)
 have e2:=e 2 (by decide)
 simp only [Nat.add_zero,List.getElem?_cons_zero,List.getElem?_cons_succ] at e0 e1 e2
 refine ⟨?_,?_,?_,(List.getElem?_eq_some_iff.1 e2).1⟩
 · unfold bt;rw [List.getD_eq_getElem?_getD,e0];rfl
 · unfold bt;rw [List.getD_eq_getElem?_getD,e1];rfl
 · unfold bt;rw [List.getD_eq_getElem?_getD,e2];rfl
theorem aYQ {s:List UInt8} {p:Nat} (h0:bt s p=239) (h1:bt s (p+1)=191) (h2:bt s (p+2)=189) (hp:p+2<s.length):(s.drop p).take 3 = [239,191,189]:=by
 have g : ∀ k (hk:p+k<s.length),s[p+k]=UInt8.ofNat (bt s (p+k)):=by
  intro k hk
  unfold bt
  rw [List.getD_eq_getElem?_getD,List.getElem?_eq_getElem hk]
  simp
 have g0:=g 0 (by omega)
 have g1:=g 1 (by omega)
 have g2:=g 2 (by omega)
 simp only [Nat.add_zero] at g0
 rw [h0] at g0
 rw [h1] at g1
 rw [h2] at g2
 rw [List.drop_eq_getElem_cons (by omega),List.drop_eq_getElem_cons (by omega),List.drop_eq_getElem_cons (by omega)]
 simp only [List.take_succ_cons,List.take_zero]
 rw [g0,g1,show s[p+1+1]=s[p+2] from rfl,g2]
 rfl
theorem aFa (s:List UInt8) (p:Nat):p+(dec s p).2=stepR s p:=by
 have h:=aMg (bt s p) (bt s (p+1)) (bt s (p+2)) (bt s (p+3)) (p+1<s.length) (p+2<s.length) (p+3<s.length) (bt_lt _ _) (bt_lt _ _) (bt_lt _ _) (bt_lt _ _)
 rw [← aOy] at h
 unfold stepR longR
 rcases h with ⟨h1,h2⟩ | ⟨h1,h2,_⟩ | ⟨h1,h2,_⟩ | ⟨h1,h2,_⟩ | ⟨h1,h2,_⟩ <;> rw [h1,h2] <;> simp
theorem a1H (s:List UInt8) (p:Nat):(aDt s (p,(dec s p).1)&&runeB (dec s p).1)=mayR s p:=by
 have h:=aMg (bt s p) (bt s (p+1)) (bt s (p+2)) (bt s (p+3)) (p+1<s.length) (p+2<s.length) (p+3<s.length) (bt_lt _ _) (bt_lt _ _) (bt_lt _ _) (bt_lt _ _)
 rw [← aOy] at h
 have hL:longR s p=longV (bt s p) (bt s (p+1)) (bt s (p+2)) (bt s (p+3)) (p+1<s.length) (p+2<s.length) (p+3<s.length):=rfl
 rw [← hL] at h
 unfold mayR aDt runeB
 rcases h with ⟨h1,h2⟩ | ⟨h1,h2,h3⟩ | ⟨h1,h2,h3,h4,h5,h6,_⟩ | ⟨h1,h2,h3,h4,h5,h6,h7,h8,h9,h10⟩ | ⟨h1,h2,h3,h4,_⟩
 · rw [h1,h2]
   have : ¬ (s.drop p).take 3 = [239,191,189]:=by
    intro hh
    obtain ⟨q0,q1,q2,q3⟩:=aYR hh
    have q4:p+1<s.length:=by omega
    rw [hL,q0,q1,q2] at h1
    simp [longV,q3,q4] at h1
   simp [this]
 · rw [h1,h2]
   have : ¬ bt s p=65533:=by omega
   have h5 : ¬ 161≤bt s p:=by omega
   simp [this,h5,aWR _ h3]
 · rw [h1,h2]
   have h7 : ¬ bt s p % 32*64+bt s (p+1) % 64=65533:=by omega
   have h8:aFj (bt s p % 32*64+bt s (p+1) % 64)=false:=aZG (by omega)
   simp only [h7,h8]
   by_cases h9:bt s p=194
   · have:bt s p % 32*64+bt s (p+1) % 64=bt s (p+1):=by omega
     rw [this] at h7 ⊢
     have b1:(bt s (p+1)==65533)=false:=beq_eq_false_iff_ne.2 h7
     have b2:decide (161≤bt s (p+1))=decide (160<bt s (p+1)):=by rw [Bool.eq_iff_iff];simp;omega
     simp [h9,b1,b2]
   · have:161≤bt s p % 32*64+bt s (p+1) % 64:=by omega
     have b1:=beq_eq_false_iff_ne.2 h7
     have b2:=beq_eq_false_iff_ne.2 h9
     simp [this,b1,b2]
 · rw [h1,h2]
   have q1:161≤bt s p % 16*4096+bt s (p+1) % 64*64+bt s (p+2) % 64:=by omega
   have q2 : ¬ bt s p=194:=by omega
   by_cases q3:bt s p % 16*4096+bt s (p+1) % 64*64+bt s (p+2) % 64=65533
   · have:=aYQ (s:=s) (p:=p) (by omega) (by omega) (by omega) h10
     simp [q1,q2,this]
   · have b1:=beq_eq_false_iff_ne.2 q3
     have b2:=beq_eq_false_iff_ne.2 q2
     simp [q1,b1,b2]
 · rw [h1,h2]
   have q1:161≤bt s p % 8*262144+bt s (p+1) % 64*4096+bt s (p+2) % 64*64+bt s (p+3) % 64:=by omega
   have q2 : ¬ bt s p=194:=by omega
   have q3 : ¬ bt s p % 8*262144+bt s (p+1) % 64*4096+bt s (p+2) % 64*64+bt s (p+3) % 64=65533:=by omega
   have b1:=beq_eq_false_iff_ne.2 q3
   have b2:=beq_eq_false_iff_ne.2 q2
   simp [q1,b1,b2]
theorem aUu (s:List UInt8) : ∀ (f p:Nat),∀ x∈runesF f s p,x.2=(dec s x.1).1
 | 0,p,x,h=>by cases h
 | f+1,p,x,h=>by
  simp only [runesF] at h
  split at h
  · rcases List.mem_cons.1 h with rfl | h
    · rfl
    · exact aUu s f _ x h
  · cases h
/-- a name, as the reference has it -/
def nameR (s:List UInt8):Bool:=((runes s 0).all fun x=>mayR s x.1)&&(decide (0<countG s)&&decide (countG s≤24))
theorem aVZ (s:List UInt8):nameG s=nameR s:=by
 have h1:((runes s 0).all fun x=>mayR s x.1)=(validG s&&(runes s 0).all fun x=>runeB x.2):=by
  unfold validG
  have : ∀ l:List (Nat×Nat),(∀ x∈l,x.2=(dec s x.1).1)→(l.all fun x=>mayR s x.1)=(l.all (aDt s)&&l.all fun x=>runeB x.2):=by
   intro l
   induction l with
   | nil=>intro _;rfl
   | cons a r ih =>
    intro h
    simp only [List.all_cons]
    rw [ih fun x hx=>h x (List.mem_cons_of_mem _ hx)]
    have h2:=h a List.mem_cons_self
    rw [← a1H,← h2]
    cases aDt s (a.1,a.2) <;> cases runeB a.2 <;> simp
  exact this _ fun x hx=>aUu s _ _ x hx
 have h2:decide (0<countG s) = !(s == []):=by
  unfold countG
  cases s with
  | nil=>rfl
  | cons a r=>rw [aCi (by simp)];simp
 unfold nameG nameR
 rw [h1,h2]
 cases validG s <;> cases (s == []) <;> simp
 cases decide (countG s≤24) <;> cases (runes s 0).all fun x=>runeB x.2 <;> simp
end Go.Proofs.YtdbmeidhlijopaaGreatDoor.Ev.C

/- Texts: where a byte stands, the text cut there. -/
namespace Go.Proofs.YtdbmeidhlijopaaGreatDoor.Ev.C
open Go Go.Proofs.YtdbmeidhlijopaaGreatDoor.Ev
set_option linter.unusedSimpArgs false
set_option linter.unusedVariables false
/-- a text up to the first such byte, and behind it -/
def cutS:List UInt8→UInt8→List UInt8×List UInt8×Bool
 | [],_=>([],[],false)
 | b::r,c=>if b=c then ([],r,true) else (b::(cutS r c).1,(cutS r c).2.1,(cutS r c).2.2)
theorem aYL : ∀ (s:List UInt8) (c:UInt8) (k:Nat),(idxB s c k = -1∧cutS s c=(s,[],false)) ∨ ∃ i,i<s.length∧idxB s c k=((k+i:Nat):Int)∧cutS s c=(s.take i,s.drop (i+1),true)
 | [],c,k => .inl ⟨rfl,rfl⟩
 | b::r,c,k=>by
  by_cases h:b=c
  · right;exact ⟨0,by simp,by simp [idxB,h],by simp [cutS,h]⟩
  · rcases aYL r c (k+1) with ⟨h1,h2⟩ | ⟨i,hi,h1,h2⟩
    · left;exact ⟨by simp only [idxB,if_neg h];exact h1,by simp only [cutS,if_neg h,h2]⟩
    · right
      refine ⟨i+1,by simp;omega,?_,?_⟩
      · simp only [idxB,if_neg h];rw [h1];congr 1;omega
      · simp only [cutS,if_neg h,h2];rfl
theorem a1N {E:Env} (he:Std E) (s:List UInt8) (c:UInt8) (h:H):WCall E aC1 [.str s,.int .u8 (c.toNat:Int)] h fun r h'=>h'=h∧r = .val (.int .i64 (idxB s c 0)):=by
 refine aAI (he.ov _ rfl) (he.tT aMU) (by simp [aDU]) ?_
 refine aAA (aAB ?_)
 simp only [aF9,go_sem,↓reduceIte,Nat.reduceEqDiff]
 refine aAA (aAB ?_)
 simp only [aFZ,go_sem,↓reduceIte,Nat.reduceEqDiff,enterS,List.getD_cons_zero,List.getD_cons_succ]
 refine (a1G he s c h).mono ?_
 rintro r h' ⟨rfl,rfl⟩
 simp only [go_sem,↓reduceIte,Nat.reduceEqDiff]
 refine aAE ?_
 simp only [go_sem,aDU,↓reduceIte,Nat.reduceEqDiff]
 exact ⟨trivial,trivial⟩
theorem aYA {E:Env} (he:Std E) (s:List UInt8) (c:UInt8) (h:H):WCall E aFG [.str s,.str [c]] h fun r h'=>h'=h∧r = .val (.int .i64 (idxB s c 0)):=by
 refine aAI (he.ov _ rfl) (he.tT aQr) (by simp [aDR]) ?_
 refine aAA (aAB ?_)
 simp only [aIq,go_sem,↓reduceIte,Nat.reduceEqDiff]
 refine aAA (aAB ?_)
 simp only [aIJ,go_sem,↓reduceIte,Nat.reduceEqDiff,enterS,List.getD_cons_zero,List.getD_cons_succ,lenTA,Option.map_some]
 refine aAA (aAG (aAA (aAB ?_)))
 simp only [aHw,go_sem,↓reduceIte,Nat.reduceEqDiff,enterS,List.getD_cons_zero,List.getD_cons_succ,List.length_cons,List.length_nil,Nat.zero_add,show ¬ (((1:Nat):Int)=0) by decide,decide_false,wanted,beq_self_eq_true,pickA]
 refine aAD ?_
 simp only [go_sem]
 by_cases hs:([c]:List UInt8)=s
 · simp only [hs,decide_true,↓reduceIte]
   refine aAA (aAB ?_)
   simp only [aIo,go_sem,↓reduceIte,Nat.reduceEqDiff]
   refine aAE ?_
   simp only [go_sem,aDR,↓reduceIte,Nat.reduceEqDiff]
   subst hs
   exact ⟨trivial,by simp [idxB]⟩
 simp only [hs,decide_false,Bool.false_eq_true,↓reduceIte]
 refine aAA (aAB ?_)
 simp only [aIm,go_sem,↓reduceIte,Nat.reduceEqDiff,List.length_cons,List.length_nil,Nat.zero_add,show (((1:Nat):Int)=1) by decide,decide_true]
 refine aAD ?_
 simp only [go_sem,↓reduceIte]
 refine aAA (aAB ?_)
 have hi:aCC (.str [c]) (.int .i64 0)=some (.int .u8 (c.toNat:Int)):=by simp [aCC]
 simp only [aIY,go_sem,↓reduceIte,Nat.reduceEqDiff,enterS,List.getD_cons_zero,List.getD_cons_succ,hi]
 refine (a1N he s c h).mono ?_
 rintro r h' ⟨rfl,rfl⟩
 simp only [go_sem,↓reduceIte,Nat.reduceEqDiff]
 refine aAE ?_
 simp only [go_sem,aDR,↓reduceIte,Nat.reduceEqDiff]
 exact ⟨trivial,trivial⟩
theorem a1s {E:Env} (he:Std E) (s:List UInt8) (c:UInt8) (h:H) (hl:s.length<4611686018427387904):WCall E aDD [.str s,.str [c]] h fun r h'=>h'=h∧r = .val (.tup [.str (cutS s c).1,.str (cutS s c).2.1,.bool (cutS s c).2.2]):=by
 refine aAI (he.ov _ rfl) (he.tT aVv) (by simp [aLI]) ?_
 refine aAA (aAB ?_)
 simp only [aOK,go_sem,↓reduceIte,Nat.reduceEqDiff]
 refine aAA (aAB ?_)
 simp only [aOp,go_sem,↓reduceIte,Nat.reduceEqDiff,enterS,List.getD_cons_zero,List.getD_cons_succ]
 have key:WCall E aGF [.str s,.str [c]] h fun r h'=>h'=h∧r = .val (.tup [.str (cutS s c).1,.str (cutS s c).2.1,.bool (cutS s c).2.2]):=by
  refine aAI (he.ov _ rfl) (he.tT aS3) (by simp [aDf]) ?_
  refine aAA (aAB ?_)
  simp only [aKf,go_sem,↓reduceIte,Nat.reduceEqDiff]
  refine aAA (aAA (aAB ?_))
  simp only [aKr,go_sem,↓reduceIte,Nat.reduceEqDiff,enterS,List.getD_cons_zero,List.getD_cons_succ]
  refine (aYA he s c h).mono ?_
  rintro r h' ⟨rfl,rfl⟩
  simp only [go_sem,↓reduceIte,Nat.reduceEqDiff]
  refine aAA (aAB ?_)
  simp only [aK2,go_sem,↓reduceIte,Nat.reduceEqDiff]
  refine aAD ?_
  simp only [go_sem]
  rcases aYL s c 0 with ⟨h1,h2⟩ | ⟨i,hi,h1,h2⟩
  · rw [h1,h2]
    simp only [show ¬ ((0:Int) ≤ -1) by decide,decide_false,Bool.false_eq_true,↓reduceIte]
    refine aAF ?_
    simp only [go_sem]
    refine aAA (aAB ?_)
    simp only [aKp,go_sem,↓reduceIte,Nat.reduceEqDiff,enterS,List.getD_cons_zero]
    refine aAE ?_
    simp only [go_sem,aDf,↓reduceIte,Nat.reduceEqDiff]
    exact ⟨trivial,trivial⟩
  · rw [h1,h2,Nat.zero_add]
    have h0:(0:Int)≤(i:Int):=by omega
    simp only [h0,decide_true,↓reduceIte]
    refine aAA (aAS ?_)
    have hw:IntKind.i64.wrap ((i:Int)+((1:Nat):Int))=((i+1:Nat):Int):=by rw [show ((i:Int)+((1:Nat):Int))=((i+1:Nat):Int) from rfl,wrapI (by omega)]
    have q1:=aSC (t:=s) (k:=i) (by omega) .i64
    have q2:=aEs (t:=s) (k:=i+1) (by omega) .i64
    simp only [aKu,go_sem,↓reduceIte,Nat.reduceEqDiff,wanted,enterS,List.getD_cons_zero,List.getD_cons_succ,lenTA,Option.map_some,Option.map_none,List.length_cons,List.length_nil,Nat.zero_add,h1,hw,q1,q2]
    refine ⟨trivial,aAE ?_⟩
    simp only [go_sem,aDf,↓reduceIte,Nat.reduceEqDiff]
    exact ⟨trivial,trivial⟩
 refine key.mono ?_
 rintro r h' ⟨rfl,rfl⟩
 simp only [go_sem,↓reduceIte,Nat.reduceEqDiff,aAM,List.getElem?_cons_zero,List.getElem?_cons_succ]
 refine aAE ?_
 simp only [go_sem,aLI,↓reduceIte,Nat.reduceEqDiff]
 exact ⟨trivial,trivial⟩
end Go.Proofs.YtdbmeidhlijopaaGreatDoor.Ev.C

/- Environments in which pure functions stand for some: the names and cuts of texts. -/
namespace Go.Proofs.YtdbmeidhlijopaaGreatDoor.Ev.C
open Go Go.Proofs.YtdbmeidhlijopaaGreatDoor.Ev
set_option linter.unusedSimpArgs false
set_option linter.unusedVariables false
noncomputable def EL (L:List Ovr):Env:=Env.mk (table PP) (ovP ov1 L) (tableD PP) (tableR PP)
theorem EL_T {L:List Ovr} {i:Nat} {a:AFunc} (h:table PP i=some a):(EL L).T i=some a:=by unfold EL;rw [env_T];exact h
theorem EL_ov (L:List Ovr) (f:Nat):(EL L).ov f=ovP ov1 L f:=by unfold EL;rw [env_ov]
theorem a0s (L:List Ovr):TableOK PP (EL L):=aHC PP (ovP ov1 L)
/-- a call that a pure function stands for -/
theorem aSN {L:List Ovr} {f:Nat} {F:List AV→Option AV} {args:List AV} {v:AV} {h:H} {R:AOut→H→Prop} (ho:ovP ov1 L f=some (pureO F)) (hF:F args=some v) (hR:R (.val v) h):WCall (EL L) f args h R :=
 aZv ((EL_ov L f).trans ho) hF hR
theorem bt_idx {s:List UInt8} {i:Nat} (hi:i<s.length):aCC (.str s) (.int .i64 (i:Int))=some (.int .u8 (bt s i:Int)):=by
 rw [aXk hi];simp [bt,List.getD_eq_getElem?_getD,List.getElem?_eq_getElem hi]
def inB (s:List UInt8) (i lo hi:Nat):Bool:=decide (i<s.length)&&(decide (lo≤bt s i)&&decide (bt s i≤hi))
def longB (s:List UInt8) (i:Nat):Nat :=
 if bt s i<128 then 1
 else if 194≤bt s i∧bt s i≤223 then (if inB s (i+1) 128 191=true then 2 else 0)
 else if 224≤bt s i∧bt s i≤239 then (if (if bt s i=224 then inB s (i+1) 160 191 else if bt s i=237 then inB s (i+1) 128 159 else inB s (i+1) 128 191)=true∧inB s (i+2) 128 191=true then 3 else 0)
 else if 240≤bt s i∧bt s i≤244 then (if ((if bt s i=240 then inB s (i+1) 144 191 else if bt s i=244 then inB s (i+1) 128 143 else inB s (i+1) 128 191)=true∧inB s (i+2) 128 191=true)∧inB s (i+3) 128 191=true then 4 else 0)
 else 0
theorem aFW (s:List UInt8) (i:Nat):longB s i=longR s i:=by
 have hin : ∀ j lo hi,inB s j lo hi=true↔(j<s.length∧lo≤bt s j∧bt s j≤hi):=by intro j lo hi;simp [inB]
 unfold longB longR longV
 simp only [hin]
 by_cases h1:bt s i<128
 · simp only [h1,if_true]
 simp only [h1,if_false]
 by_cases h2:194≤bt s i∧bt s i≤223
 · simp only [h2,and_self,if_true]
 simp only [h2,if_false]
 by_cases h3:224≤bt s i∧bt s i≤239
 · simp only [h3,and_self,if_true]
   by_cases h4:bt s i=224
   · simp only [h4,if_true,hin];simp
   · by_cases h5:bt s i=237
     · simp only [h5,if_true,hin];simp [hin]
     · simp only [h4,h5,if_false,hin]
 simp only [h3,if_false]
 by_cases h4:240≤bt s i∧bt s i≤244
 · simp only [h4,and_self,if_true]
   by_cases h5:bt s i=240
   · simp only [h5,if_true,hin];simp [and_assoc]
   · by_cases h6:bt s i=244
     · simp only [h6,if_true,hin];simp [hin,and_assoc]
     · simp only [h5,h6,if_false,hin,and_assoc]
 simp only [h4,if_false]
/-- functions of a text -/
def txF (F:List UInt8→AV):List AV→Option AV
 | [.str s]=>if s.length<1000000000 then some (F s) else none
 | _=>none
theorem aTd {L:List Ovr} {f:Nat} {F:List UInt8→AV} (hp : ∀ s,plainV (F s)=true) (w : ∀ (s:List UInt8),s.length<1000000000 → ∀ h:H,h.Wf→WCall (EL L) f [.str s] h fun r _=>r = .val (F s))
 (args:List AV) (v:AV) (e:txF F args=some v):plainV v=true ∧ ∀ h:H,h.Wf→WCall (EL L) f args h (fun r _=>r = .val v):=by
 unfold txF at e
 split at e
 case h_2=>cases e
 rename_i s
 split at e
 case isFalse=>cases e
 rename_i hc
 cases e
 exact ⟨hp s,fun h wf=>w s hc h wf⟩
theorem txF_at {L:List Ovr} {f:Nat} {F:List UInt8→AV} (ho:ovP ov1 L f=some (pureO (txF F))) {s:List UInt8} (hl:s.length<1000000000) {h:H} {R:AOut→H→Prop} (hR:R (.val (F s)) h):WCall (EL L) f [.str s] h R :=
 aSN ho (by unfold txF;simp only;rw [if_pos hl]) hR
theorem a0x (s:List UInt8) (i:Nat):longR s i≤4:=by
 rw [← aFW];unfold longB
 repeat' split
 all_goals omega
theorem aP4 (s:List UInt8) (i:Nat):i<stepR s i∧stepR s i≤i+4:=by
 have:=a0x s i
 unfold stepR;split <;> omega
def nmF:List AV→Option AV:=txF fun s => .bool (nameG s)
theorem E1_EL:E1=EL []:=by
 unfold E1 EL
 congr 1
theorem std1':Std (EL []):=E1_EL ▸ std1
def cutF:List AV→Option AV
 | [.str s,.str [c]]=>if s.length<1000000000 then some (.tup [.str (cutS s c).1,.str (cutS s c).2.1,.bool (cutS s c).2.2]) else none
 | _=>none
theorem a0j (args:List AV) (v:AV) (e:cutF args=some v):plainV v=true ∧ ∀ h:H,h.Wf→WCall (EL []) aDD args h (fun r _=>r = .val v):=by
 unfold cutF at e
 split at e
 case h_2=>cases e
 rename_i s c
 split at e
 case isFalse=>cases e
 rename_i hc
 cases e
 exact ⟨rfl,fun h wf=>(a1s std1' s c h (by omega)).mono fun r h' q=>q.2⟩
theorem cut_at {L:List Ovr} (ho:ovP ov1 L aDD=some (pureO cutF)) {s:List UInt8} {c:UInt8} (hl:s.length<1000000000) {h:H} {R:AOut→H→Prop} (hR:R (.val (.tup [.str (cutS s c).1,.str (cutS s c).2.1,.bool (cutS s c).2.2])) h):WCall (EL L) aDD [.str s,.str [c]] h R :=
 aSN ho (by unfold cutF;simp only;rw [if_pos hl]) hR
theorem aYh (s:List UInt8) (hl:s.length<1000000000) (h:H) (wf:h.Wf):WCall (EL []) aCj [.str s] h fun r _=>r = .val (.bool (nameG s)) :=
 (a0a std1' s h (by omega)).mono fun r h' q=>q.2
end Go.Proofs.YtdbmeidhlijopaaGreatDoor.Ev.C

/- The law DevicePlays: a disk beside its reference in memory. -/
import Derived.Test.YtmfbememiffkjaaTRef5
namespace Go.Proofs.Ytmfbememiffkjaa.Ev.C
open Go Go.Proofs.Ytmfbememiffkjaa.Ev
set_option linter.unusedSimpArgs false
set_option linter.unusedVariables false
structure Play (hA h : H) (o bw : Nat) (gs : List Nat) (D : Dk) (kv wv : AV) : Prop where
  d : DiskAt h o gs D
  b : Box bw (dcells kv wv D) h
  r : RefIs h kv wv D
  sk : Slot (Apart (bw :: gs) h) h kv
  sw : Slot (Apart (bw :: gs) h) h wv
  nb : bw ∉ gs
  hg : ∀ g ∈ bw :: gs, hA.n ≤ g
  k : Keep (Old hA.n) hA h
theorem Play.keep {hA h h' : H} {o bw : Nat} {gs : List Nat} {D : Dk} {kv wv : AV} (p : Play hA h o bw gs D kv wv) (wf : h.Wf) (k : Keep (Old h.n) h h') : Play hA h' o bw gs D kv wv :=
  ⟨p.d.keep wf k, p.b.keep k (p.b.lt wf), p.r.keep k, p.sk.keepA (KeepA.of k), p.sw.keepA (KeepA.of k), p.nb, p.hg, p.k.trans (k.weaken fun q hq => Nat.lt_of_lt_of_le hq p.k.n)⟩
/-- both disks go a step, then the reference's is stored -/
theorem Play.step {hA h h2 h3 h5 : H} {o o2 bw : Nat} {gs gs2 : List Nat} {D D2 : Dk} {kv wv : AV} {cs : List AV} (wfA : hA.Wf) (p : Play hA h o bw gs D kv wv) (k2 : KeepA gs h h2) (d2 : DiskAt h2 o2 gs2 D2) (n2 : Next gs gs2 h)
    (rt : RefTo h2 h3 kv wv cs D2) (k3 : Keep (Old h2.n) h2 h3) (k5 : Keep (Old h3.n) h3 h5) :
    ∃ h6 kv' wv', storeA h5 4 (.ptr bw 0) (.agg cs) = some h6 ∧ cs = dcells kv' wv' D2 ∧ Play hA h6 o2 bw gs2 D2 kv' wv' ∧ KeepA [bw] h5 h6 := by
  have wf := p.k.wf wfA
  have wf2 := k2.wf wf
  have wf3 := k3.wf wf2
  have wf5 := k5.wf wf3
  have hbl := p.b.lt wf
  have nb2 : bw ∉ gs2 := fun hm => by
    rcases n2 _ hm with x | x
    · exact p.nb x
    · omega
  have nx : Next (bw :: gs) (bw :: gs2) h := fun g hg => by
    rcases List.mem_cons.1 hg with rfl | hg
    · exact .inl (by simp)
    · rcases n2 g hg with x | x
      · exact .inl (by simp [x])
      · exact .inr x
  have km : KeepA (bw :: gs) h h2 := k2.mono fun g hg => by simp [hg]
  have sk2 := Slot.next wf p.sk km nx
  have sw2 := Slot.next wf p.sw km nx
  have b2 := p.b.keepA wf k2 p.nb
  have hroot : ∀ g ∈ bw :: gs2, g < h2.n ∧ Root g h2 := fun g hg => by
    rcases List.mem_cons.1 hg with rfl | hg
    · exact ⟨b2.lt wf2, b2.root⟩
    · exact ⟨d2.lt wf2 g hg, d2.root g hg⟩
  obtain ⟨kv', wv', rfl, r3, fk, fw⟩ := rt
  have sk3 := from_apart wf3 fk k3 hroot sk2
  have sw3 := from_apart wf3 fw k3 hroot sw2
  have sk5 := sk3.keepA (KeepA.of k5)
  have sw5 := sw3.keepA (KeepA.of k5)
  have r5 := r3.keep k5
  have k25 : Keep (Old h2.n) h2 h5 := k3.trans (k5.weaken fun q hq => Nat.lt_of_lt_of_le hq k3.n)
  have b5 := b2.keep k25 (b2.lt wf2)
  obtain ⟨h6, e6, b6, k6⟩ := b5.putAll (n := 4) (vs := dcells kv' wv' D2) wf5 rfl (r5.all _ _) rfl
  have d5 := d2.keep wf2 k25
  have sk5' := apart_less (gs' := [bw]) sk5 (by simp)
  have sw5' := apart_less (gs' := [bw]) sw5 (by simp)
  have wf6 := k6.wf wf5
  have km6 : KeepA (bw :: gs2) h5 h6 := k6.mono (by simp)
  have hA2 : Keep (Old hA.n) hA h2 := p.k.trans (k2.old wf p.k.n fun g hg => p.hg g (by simp [hg]))
  refine ⟨h6, kv', wv', e6, rfl, ⟨d5.apart wf5 nb2 b5.root k6, b6, ⟨r5.ks.keep k6 sk5', (sk5'.keepA k6).old, r5.ws.keep k6 sw5', (sw5'.keepA k6).old, r5.ok, r5.da⟩, sk5.keepA km6, sw5.keepA km6, nb2, ?_, ?_⟩, k6⟩
  · intro g hg
    rcases nx g hg with x | x
    · exact p.hg g x
    · exact Nat.le_trans p.k.n x
  · exact (hA2.trans (k25.weaken fun q hq => Nat.lt_of_lt_of_le hq hA2.n)).trans (k6.old wf5 (by have := hA2.n; have := k25.n; omega) (by simpa using p.hg bw (by simp)))
theorem acts_agg {h : H} {v : AV} {al : List Act} (s : SliceR 4 ActR h [v] al) {i : Nat} (hi : i < al.length) :
    ∃ p ub uk, indexAddrA 4 v (.int .i64 (i : Int)) = some p ∧ (Bytes h ub al[i].b ∧ Slot (Old h.n) h ub) ∧ (Bools h uk al[i].keep ∧ Slot (Old h.n) h uk) ∧
      (al[i].kind < 256 ∧ -9223372036854775808 ≤ al[i].at' ∧ al[i].at' < 9223372036854775808) ∧
      ∀ h', Keep (Old h.n) h h' → loadA h' true 4 p = some (.agg [.int .u8 (al[i].kind : Int), .int .i64 al[i].at', ub, uk]) := by
  obtain ⟨v', e, css, hcl, sl, slot, hmax, hu, hr⟩ := s.at
  cases e
  have hci : css[i]? = some (css[i]'(by omega)) := List.getElem?_eq_getElem (by omega)
  obtain ⟨ub, uk, hcs, rb, rk, w⟩ := hr i _ _ hci (List.getElem?_eq_getElem hi)
  obtain ⟨p, e, _⟩ := sl.atAgg hi (by decide) .i64
  refine ⟨p, ub, uk, e, bytesR_get rb, boolsR_get rk, w, fun h' k => ?_⟩
  obtain ⟨p', e', l'⟩ := (sl.keep k slot).atAgg hi (by decide) .i64
  rw [e] at e'
  cases e'
  have hf := flat_at (f := id) (es := 4) (l := css) (by omega : i < css.length) hu
  rw [hf] at l'
  rw [l', id, hcs]
theorem byteCells_set {bs : List UInt8} {i : Nat} (hi : i < bs.length) (x : UInt8) : splice (byteCells bs) (i * 1) [.int .u8 (x.toNat : Int)] = byteCells (bs.set i x) := by
  rw [Nat.mul_one]
  simp only [byteCells, splice]
  rw [List.map_set, List.set_eq_take_append_cons_drop, if_pos (by simpa using hi)]
  simp
theorem Bytes.put {h : H} (wf : h.Wf) {v : AV} {l : List UInt8} {g : Nat} (b : Bytes h v l) (o : Grp g h v) {i : Nat} (hi : i < l.length) (x : UInt8) :
    ∃ p h', indexAddrA 1 v (.int .i64 (i : Int)) = some p ∧ loadA h false 1 p = some (.int .u8 (l[i].toNat : Int)) ∧ storeA h 1 p (.int .u8 (x.toNat : Int)) = some h' ∧ Bytes h' v (l.set i x) ∧ Grp g h' v ∧ KeepA [g] h h' := by
  obtain ⟨p, e, f⟩ := Grp.put wf b o hi (by decide) .i64 (new := [.int .u8 (x.toNat : Int)]) rfl rfl
  obtain ⟨h', e1, s1, g1, k1⟩ := f (.int .u8 (x.toNat : Int)) rfl
  obtain ⟨p', e', l'⟩ := Sl.at b hi .i64
  rw [e] at e'
  cases e'
  refine ⟨p, h', e, ?_, e1, ?_, g1, k1⟩
  · rw [l']; simp [byteCells, hi]
  · rw [byteCells_set hi] at s1
    show Sl h' 1 v (l.set i x).length _
    rw [List.length_set]
    exact s1
end Go.Proofs.Ytmfbememiffkjaa.Ev.C

/- A part of this claim. -/
import Derived.Test.YtlhcoanbhnphgaaGreatDoorWm22
import Derived.Test.YtlhcoanbhnphgaaGreatDoorWm28
namespace Go.Proofs.YtlhcoanbhnphgaaGreatDoor
open Tryz
set_option maxHeartbeats 64000000
set_option maxRecDepth 100000
section
open Go.RowKit Go.Maps
structure Dm where
 seen:Nat → ByteArray → Option Nat
 sett:Nat → ByteArray → Option Nat
 dat:Nat → ByteArray × Nat
structure Pl where
 top:Nat
 dir:Nat → Nat
 sn:Nat → Nat
 st:Nat → Nat
 pd:Nat → Value
def upN {α:Type} (f:Nat → α) (k:Nat) (v:α):Nat → α:=fun j => if j = k then v else f j
theorem aJ {α:Type} (f:Nat → α) (k:Nat) (v:α):upN f k v k = v:=if_pos rfl
theorem aD {α:Type} {f:Nat → α} {k j:Nat} {v:α} (h:j ≠ k):upN f k v j = f j:=if_neg h
def dR (N:Nat) (f:ByteArray → Option Nat):Prop:=∃ L:List ByteArray,L.Nodup ∧ L.length ≤ N ∧ (∀ x ∈ L,aN x = true) ∧ ∀ x,(f x).isSome = true ↔ x ∈ L
theorem dR.mono {N N':Nat} {f:ByteArray → Option Nat} (h:dR N f) (hN:N ≤ N'):dR N' f:=by obtain ⟨L,h1,h2,h3⟩:=h;exact ⟨L,h1,by omega,h3⟩
theorem dR.put {N:Nat} {f:ByteArray → Option Nat} (h:dR N f) {x:ByteArray} {b:Nat} (hx:aN x = true):dR (N + 1) fun y => if y = x then some b else f y:=by
 obtain ⟨L,h1,h2,h3,h4⟩:=h
 refine ⟨x :: L.filter fun y => decide (y ≠ x),List.nodup_cons.2 ⟨fun h => by simp at h,h1.filter _⟩,?_,fun y hy => ?_,fun y => ?_⟩
 ·have:=List.length_filter_le (fun y => decide (y ≠ x)) L
  rw [List.length_cons];omega
 ·rcases List.mem_cons.1 hy with rfl | hy
  ·exact hx
  exact h3 y (List.mem_filter.1 hy).1
 by_cases e:y = x
 ·simp [e]
 simp [e,h4]
theorem dR.ren {N:Nat} {f:ByteArray → Option Nat} (h:dR N f) {x z:ByteArray} (hz:aN z = true) (hx:(f x).isSome = true) (hne:x ≠ z):dR N fun y => if y = z then f x else if y = x then none else f y:=by
 obtain ⟨L,h1,h2,h3,h4⟩:=h
 have hxL:=(h4 x).1 hx
 refine ⟨z :: (L.filter fun y => decide (y ≠ x)).filter fun y => decide (y ≠ z),List.nodup_cons.2 ⟨fun h => by simp at h,(h1.filter _).filter _⟩,?_,fun y hy => ?_,fun y => ?_⟩
 ·have h5:=List.length_filter_le (fun y => decide (y ≠ z)) (L.filter fun y => decide (y ≠ x))
  have h6:=jd h1 hxL
  rw [List.length_cons];omega
 ·rcases List.mem_cons.1 hy with rfl | hy
  ·exact hz
  exact h3 y (List.mem_filter.1 (List.mem_filter.1 hy).1).1
 by_cases e:y = z
 ·simp [e,hx]
 by_cases e2:y = x
 ·simp [e2,hne]
 simp [e,e2,h4]
def Kp (O:Nat → Prop) (w w':World):Prop:=Chg (fun b => ¬ O b) w w'
theorem Kp.refl (O:Nat → Prop) (w:World):Kp O w w:=Chg.refl _ w
theorem Kp.trans {O:Nat → Prop} {w w' w'':World} (h:Kp O w w') (h':Kp O w' w''):Kp O w w'':=Chg.trans h h'
theorem Kp.of {O:Nat → Prop} {w w':World} (h:Below w.heap.size w w'):Kp O w w':=Chg.of_below h
theorem Kp.block {O:Nat → Prop} {w w':World} (h:Kp O w w') {b:Nat} (hl:b < w.heap.size) (hb:O b):w'.heap[b]? = w.heap[b]?:=Chg.block h b hl (fun h => h hb)
theorem Kp.sub {O O':Nat → Prop} {w w':World} (h:Kp O w w') (hO:∀ b,b < w.heap.size → O' b → O b):Kp O' w w':=h.mono fun b hb hn ho => hn (hO b hb ho)
theorem BoxL.ne {w:World} {b b':Nat} {t t':TypeId} {cs cs':List Value} (h:BoxL w b t cs) (h':BoxL w b' t' cs') (hne:t ≠ t'):b ≠ b':=fun e => by
 subst e
 have h2:w.heap[b]? = _:=h
 rw [show w.heap[b]? = _ from h'] at h2
 injection h2 with h2
 injection h2 with _ h3
 exact hne h3.symm
theorem BoxL.fC {α:Type} {enc:α → Value} {w:World} {b b' n:Nat} {t:TypeId} {cs:List Value} {f:ByteArray → Option α} (h:BoxL w b t cs) (h':MapT enc w b' n f):b ≠ b':=fun e => by
 subst e
 obtain ⟨D,⟨es,clock,hb,_⟩,_⟩:=h'
 have h2:w.heap[b]? = _:=h
 rw [hb] at h2
 injection h2 with h2
 cases h2
theorem gQ {w:World} {B sz n b:Nat} {e t:TypeId} {v:Value} {xs cs:List Value} (h:w.ownsRow B e sz v n xs) (hx:BoxL w b t cs) (hne:e ≠ t):v.ownBlock ≠ some b:=fun e1 => by
 rcases h.2 with ⟨rfl,_⟩ | ⟨g1,cap,cur,rfl,_,hg,_⟩
 ·cases e1
 have a1:g1 = b:=Option.some.inj e1
 subst a1
 have h2:w.heap[g1]? = _:=hx
 rw [hg] at h2
 injection h2 with h2
 injection h2 with _ h3
 exact hne h3
theorem nK {α:Type} {enc:α → Value} {w:World} {B sz n b m:Nat} {e:TypeId} {v:Value} {xs:List Value} {f:ByteArray → Option α} (h:w.ownsRow B e sz v n xs) (hx:MapT enc w b m f):v.ownBlock ≠ some b:=fun e1 => by
 rcases h.2 with ⟨rfl,_⟩ | ⟨g1,cap,cur,rfl,_,hg,_⟩
 ·cases e1
 have a1:g1 = b:=Option.some.inj e1
 subst a1
 obtain ⟨D,⟨es,clock,hb,_⟩,_⟩:=hx
 rw [hg] at hb
 injection hb with hb
 cases hb
theorem iN {S:Nat → Prop} {w w':World} {B sz n:Nat} {e:TypeId} {v:Value} {xs:List Value} (h:w.ownsRow B e sz v n xs) (hc:Chg S w w') (hS:∀ b,v.ownBlock = some b → ¬ S b):w'.ownsRow B e sz v n xs:=by
 rcases h with ⟨h1,⟨rfl,h2⟩ | ⟨g1,cap,cur,rfl,h2,hg,h3⟩⟩
 ·exact ⟨h1,.inl ⟨rfl,h2⟩⟩
 exact ⟨h1,.inr ⟨g1,cap,cur,rfl,h2,(hc.block g1 (Array.getElem?_eq_some_iff.1 hg).1 (hS g1 rfl)).trans hg,h3⟩⟩
theorem Gv {w:World} {B sz n b:Nat} {e:TypeId} {v:Value} {xs:List Value} (h:w.ownsRow B e sz v n xs) (hb:v.ownBlock = some b):b < w.heap.size:=by
 rcases h.2 with ⟨rfl,_⟩ | ⟨g1,cap,cur,rfl,_,hg,_⟩
 ·cases hb
 cases hb;exact (Array.getElem?_eq_some_iff.1 hg).1
def fiC (d:ByteArray × Nat):List Value:=[.string d.1,.int .i64 (d.2:Int)]
def qB (w:World) (b:Nat) (d:ByteArray × Nat):Prop:=BoxL w b 120 (fiC d)
def DskB (w:World) (g top:Nat) (q:Int):Prop:=BoxL w g 77 [.map (some top),.int .i64 q,.int .i64 0,.bool false,.bool false]
def DirB (w:World) (b sn st:Nat) (pd:Value):Prop:=BoxL w b 83 [.map (some sn),.map (some st),pd]
def PdR (w:World) (v:Value) (R:Nat):Prop:=∃ n xs,w.ownsRow 0 114 1 v n xs ∧ n ≤ R
structure DS (O:Nat → Prop) (N R M:Nat) (w:World) (g:Nat) (q:Int) (p:Pl) (m:Dm):Prop where
 box:DskB w g p.top q
 top:MapT encP w p.top 3 fun x => (bI x).map p.dir
 dir:∀ k,k < 3 → DirB w (p.dir k) (p.sn k) (p.st k) (p.pd k)
 pend:∀ k,k < 3 → PdR w (p.pd k) R
 pone:∀ k j b,k < 3 → j < 3 → (p.pd k).ownBlock = some b → (p.pd j).ownBlock = some b → k = j
 seen:∀ k,k < 3 → MapT encP w (p.sn k) (N + R) (m.seen k) ∧ dR N (m.seen k)
 sett:∀ k,k < 3 → MapT encP w (p.st k) (N + R) (m.sett k) ∧ dR N (m.sett k)
 file:∀ k x b,k < 3 → m.seen k x = some b ∨ m.sett k x = some b → qB w b (m.dat b) ∧ ¬ O b ∧ (m.dat b).1.size ≤ M ∧ (m.dat b).2 ≤ (m.dat b).1.size
 one:∀ k j x y b,k < 3 → j < 3 → m.seen k x = some b → m.seen j y = some b → k = j ∧ x = y
 off:¬ O g ∧ ¬ O p.top ∧ (∀ k,k < 3 → ¬ O (p.dir k) ∧ ¬ O (p.sn k) ∧ ¬ O (p.st k)) ∧ ∀ k b,k < 3 → (p.pd k).ownBlock = some b → ¬ O b
 mtop:∀ k,k < 3 → p.top ≠ p.sn k ∧ p.top ≠ p.st k
 mst:∀ k j,k < 3 → j < 3 → p.sn k ≠ p.st j
 msn:∀ k j,k < 3 → j < 3 → p.sn k = p.sn j → k = j
 mtt:∀ k j,k < 3 → j < 3 → p.st k = p.st j → k = j
 mdir:∀ k j,k < 3 → j < 3 → p.dir k = p.dir j → k = j
 olt:∀ b,O b → b < w.heap.size
 glob:∀ b,b < 5 → O b
section
variable {O S:Nat → Prop} {N R M:Nat} {w w':World} {g:Nat} {q:Int} {p:Pl} {m:Dm}
theorem PdR.chg {v:Value} {R:Nat} (h:PdR w v R) (hc:Chg S w w') (hS:∀ b,v.ownBlock = some b → ¬ S b):PdR w' v R:=by obtain ⟨n,xs,h1,h2⟩:=h;exact ⟨n,xs,iN h1 hc hS,h2⟩
theorem DS.chg (h:DS O N R M w g q p m) (hc:Chg S w w') (hS:∀ b,S b → O b):DS O N R M w' g q p m where
 box:=h.box.chg hc (fun hs => h.off.1 (hS _ hs))
 top:=h.top.chg hc (fun hs => h.off.2.1 (hS _ hs))
 dir:=fun k hk => (h.dir k hk).chg hc (fun hs => (h.off.2.2.1 k hk).1 (hS _ hs))
 pend:=fun k hk => (h.pend k hk).chg hc fun b hb hs => h.off.2.2.2 k b hk hb (hS _ hs)
 pone:=h.pone
 seen:=fun k hk => ⟨(h.seen k hk).1.chg hc (fun hs => (h.off.2.2.1 k hk).2.1 (hS _ hs)),(h.seen k hk).2⟩
 sett:=fun k hk => ⟨(h.sett k hk).1.chg hc (fun hs => (h.off.2.2.1 k hk).2.2 (hS _ hs)),(h.sett k hk).2⟩
 file:=fun k x b hk hb => by
  obtain ⟨h1,h2,h3⟩:=h.file k x b hk hb
  exact ⟨h1.chg hc (fun hs => h2 (hS _ hs)),h2,h3⟩
 one:=h.one
 off:=h.off
 mtop:=h.mtop
 mst:=h.mst
 msn:=h.msn
 mtt:=h.mtt
 mdir:=h.mdir
 olt:=fun b hb => Nat.lt_of_lt_of_le (h.olt b hb) hc.size
 glob:=h.glob
theorem DS.below (h:DS O N R M w g q p m) (hb:Below w.heap.size w w'):DS O N R M w' g q p m:=h.chg (S:=fun _ => False) (Chg.of_below hb) (fun _ h => h.elim)
theorem DS.own {O':Nat → Prop} (h:DS O N R M w g q p m) (hO:∀ b,O' b → b < w.heap.size) (h1:∀ b,O' b → O b ∨ ¬ (b = g ∨ b = p.top ∨ (∃ k,k < 3 ∧ (b = p.dir k ∨ b = p.sn k ∨ b = p.st k ∨ (p.pd k).ownBlock = some b)) ∨ ∃ k x,k < 3 ∧ (m.seen k x = some b ∨ m.sett k x = some b))) (h5:∀ b,b < 5 → O' b):DS O' N R M w g q p m where
 box:=h.box
 top:=h.top
 dir:=h.dir
 pend:=h.pend
 pone:=h.pone
 seen:=h.seen
 sett:=h.sett
 file:=fun k x b hk hb => by
  obtain ⟨p1,p2,p3⟩:=h.file k x b hk hb
  exact ⟨p1,fun ho => (h1 b ho).elim p2 fun hn => hn (.inr (.inr (.inr ⟨k,x,hk,hb⟩))),p3⟩
 one:=h.one
 off:=⟨fun ho => (h1 _ ho).elim h.off.1 fun hn => hn (.inl rfl),fun ho => (h1 _ ho).elim h.off.2.1 fun hn => hn (.inr (.inl rfl)),fun k hk => ⟨fun ho => (h1 _ ho).elim (h.off.2.2.1 k hk).1 fun hn => hn (.inr (.inr (.inl ⟨k,hk,.inl rfl⟩))),fun ho => (h1 _ ho).elim (h.off.2.2.1 k hk).2.1 fun hn => hn (.inr (.inr (.inl ⟨k,hk,.inr (.inl rfl)⟩))),
  fun ho => (h1 _ ho).elim (h.off.2.2.1 k hk).2.2 fun hn => hn (.inr (.inr (.inl ⟨k,hk,.inr (.inr (.inl rfl))⟩)))⟩,fun k b hk hb ho => (h1 _ ho).elim (h.off.2.2.2 k b hk hb) fun hn => hn (.inr (.inr (.inl ⟨k,hk,.inr (.inr (.inr hb))⟩)))⟩
 mtop:=h.mtop
 mst:=h.mst
 msn:=h.msn
 mtt:=h.mtt
 mdir:=h.mdir
 olt:=hO
 glob:=h5
theorem DS.lt (h:DS O N R M w g q p m) {b:Nat} (hb:b = g ∨ b = p.top ∨ (∃ k,k < 3 ∧ (b = p.dir k ∨ b = p.sn k ∨ b = p.st k ∨ (p.pd k).ownBlock = some b)) ∨ ∃ k x,k < 3 ∧ (m.seen k x = some b ∨ m.sett k x = some b)):b < w.heap.size:=by
 rcases hb with rfl | rfl | ⟨k,hk,rfl | rfl | rfl | hb⟩ | ⟨k,x,hk,hb⟩
 ·exact BoxL.lt h.box
 ·exact h.top.lt
 ·exact BoxL.lt (h.dir k hk)
 ·exact (h.seen k hk).1.lt
 ·exact (h.sett k hk).1.lt
 ·obtain ⟨n,xs,h1,_⟩:=h.pend k hk
  exact Gv h1 hb
 exact BoxL.lt (h.file k x b hk hb).1
def Ou (O:Nat → Prop) (w w':World) (b:Nat):Prop:=O b ∨ w.heap.size ≤ b ∧ b < w'.heap.size
theorem DS.on (h:DS O N R M w g q p m) (hb:Below w.heap.size w w'):DS (Ou O w w') N R M w' g q p m :=
 (h.below hb).own (fun b ho => ho.elim (fun ho => Nat.lt_of_lt_of_le (h.olt b ho) hb.size) (·.2)) (fun b ho => ho.imp id fun hn hx => absurd (h.lt hx) (by omega)) (fun b hb => .inl (h.glob b hb))
theorem DS.sub {O':Nat → Prop} (h:DS O N R M w g q p m) (hO:∀ b,O' b → O b) (h5:∀ b,b < 5 → O' b):DS O' N R M w g q p m:=h.own (fun b ho => h.olt b (hO b ho)) (fun b ho => .inl (hO b ho)) h5
theorem DS.mono {N' R' M':Nat} (h:DS O N R M w g q p m) (hN:N ≤ N') (hR:R ≤ R') (hM:M ≤ M'):DS O N' R' M' w g q p m where
 box:=h.box
 top:=h.top
 dir:=h.dir
 pend:=fun k hk => by obtain ⟨n,xs,h1,h2⟩:=h.pend k hk;exact ⟨n,xs,h1,by omega⟩
 pone:=h.pone
 seen:=fun k hk => by
  obtain ⟨⟨X,h1,h2⟩,h3⟩:=h.seen k hk
  exact ⟨⟨X,h1.mono (Nat.add_le_add hN hR),h2⟩,h3.mono hN⟩
 sett:=fun k hk => by
  obtain ⟨⟨X,h1,h2⟩,h3⟩:=h.sett k hk
  exact ⟨⟨X,h1.mono (Nat.add_le_add hN hR),h2⟩,h3.mono hN⟩
 file:=fun k x b hk hb => by
  obtain ⟨h1,h2,h3,h4⟩:=h.file k x b hk hb
  exact ⟨h1,h2,by omega,h4⟩
 one:=h.one
 off:=h.off
 mtop:=h.mtop
 mst:=h.mst
 msn:=h.msn
 mtt:=h.mtt
 mdir:=h.mdir
 olt:=h.olt
 glob:=h.glob
def Dm.vis (m:Dm):Dk:=fun k x => (m.seen k x).map fun b => (m.dat b).1
theorem DS.at (h:DS O N R M w g q p m) (hN:N + R ≤ 1000000):jg w g m.vis:=by
 refine ⟨p.top,3,_,BoxL.lt h.box,BoxL.range h.box 0 _ rfl,BoxL.range h.box 4 _ rfl,h.top,fun x hx => ?_⟩
 cases hw:bI x with
 | none => exact .inl ⟨rfl,rfl⟩
 | some k =>
  have hk:=(dM hw).1
  refine .inr ⟨p.dir k,k,rfl,rfl,p.sn k,N + R,m.seen k,BoxL.lt (h.dir k hk),BoxL.range (h.dir k hk) 0 _ rfl,(h.seen k hk).1,hN,fun y hy => ?_⟩
  cases hs:m.seen k y with
  | none => exact .inl ⟨rfl,by unfold Dm.vis;rw [hs];rfl⟩
  | some b =>
   have hf:=h.file k y b hk (.inl hs)
   exact .inr ⟨b,(m.dat b).1,rfl,by unfold Dm.vis;rw [hs];rfl,BoxL.lt hf.1,BoxL.range hf.1 0 _ rfl⟩
theorem DS.turned {k N' R':Nat} {f:ByteArray → Option Nat} {pv:Value} {dt:Nat → ByteArray × Nat} (h:DS O N R M w g q p m) (hk:k < 3) (hN:N ≤ N') (hR:R ≤ R') (hc:Chg (fun b => b = p.sn k ∨ b = p.dir k ∨ (p.pd k).ownBlock = some b) w w')
  (hm:MapT encP w' (p.sn k) (N' + R') f) (hn:dR N' f) (hd:DirB w' (p.dir k) (p.sn k) (p.st k) pv) (hp:PdR w' pv R') (hpv:∀ b,pv.ownBlock = some b → (p.pd k).ownBlock = some b ∨ w.heap.size ≤ b) (hdt:∀ b,b < w.heap.size → dt b = m.dat b)
  (hf:∀ x b,f x = some b → (∃ y,m.seen k y = some b) ∨ (w.heap.size ≤ b ∧ qB w' b (dt b) ∧ (dt b).1.size ≤ M ∧ (dt b).2 ≤ (dt b).1.size)) (h1:∀ x y b,f x = some b → f y = some b → x = y) :
  DS O N' R' M w' g q { p with pd:=upN p.pd k pv } { m with seen:=upN m.seen k f,dat:=dt }:=by
 have hfl:∀ {j x b},j < 3 → (m.seen j x = some b ∨ m.sett j x = some b) → qB w' b (dt b) ∧ ¬ O b ∧ (dt b).1.size ≤ M ∧ (dt b).2 ≤ (dt b).1.size:=by
  intro j x b hj hb
  obtain ⟨p1,p2,p3⟩:=h.file j x b hj hb
  rw [hdt b (BoxL.lt p1)]
  refine ⟨p1.chg hc ?_,p2,p3⟩
  rintro (e | e | e)
  ·exact BoxL.fC p1 (h.seen k hk).1 e
  ·exact BoxL.ne p1 (h.dir k hk) (by decide) e
  obtain ⟨n,xs,q1,_⟩:=h.pend k hk
  exact gQ q1 p1 (by decide) e
 have hpn:∀ {α:Type} {enc:α → Value} {b n:Nat} {F:ByteArray → Option α},MapT enc w b n F → (p.pd k).ownBlock ≠ some b:=fun hM => by
  obtain ⟨n,xs,q1,_⟩:=h.pend k hk
  exact nK q1 hM
 have hpb:∀ {b:Nat} {t:TypeId} {cs:List Value},BoxL w b t cs → 114 ≠ t → (p.pd k).ownBlock ≠ some b:=fun hB hne => by
  obtain ⟨n,xs,q1,_⟩:=h.pend k hk
  exact gQ q1 hB hne
 refine ⟨h.box.chg hc ?_,h.top.chg hc ?_,fun j hj => ?_,fun j hj => ?_,fun i j b hi hj e1 e2 => ?_,fun j hj => ?_,fun j hj => ?_,fun j x b hj hb => ?_,fun i j x y b hi hj e1 e2 => ?_,?_,h.mtop,h.mst,h.msn,h.mtt,h.mdir,fun b hb => Nat.lt_of_lt_of_le (h.olt b hb) hc.size,h.glob⟩
 ·rintro (e | e | e)
  ·exact BoxL.fC h.box (h.seen k hk).1 e
  ·exact BoxL.ne h.box (h.dir k hk) (by decide) e
  exact hpb h.box (by decide) e
 ·rintro (e | e | e)
  ·exact (h.mtop k hk).1 e
  ·exact BoxL.fC (h.dir k hk) h.top e.symm
  exact hpn h.top e
 ·show DirB w' (p.dir j) (p.sn j) (p.st j) (upN p.pd k pv j)
  by_cases e:j = k
  ·subst e;rw [aJ];exact hd
  rw [aD e]
  refine (h.dir j hj).chg hc ?_
  rintro (e2 | e2 | e2)
  ·exact BoxL.fC (h.dir j hj) (h.seen k hk).1 e2
  ·exact e (h.mdir j k hj hk e2)
  exact hpb (h.dir j hj) (by decide) e2
 ·show PdR w' (upN p.pd k pv j) R'
  by_cases e:j = k
  ·subst e;rw [aJ];exact hp
  rw [aD e]
  obtain ⟨n,xs,q1,q2⟩:=h.pend j hj
  refine ⟨n,xs,iN q1 hc ?_,by omega⟩
  rintro b hb (e2 | e2 | e2)
  ·subst e2;exact nK q1 (h.seen k hk).1 hb
  ·subst e2;exact gQ q1 (h.dir k hk) (by decide) hb
  exact e (h.pone j k b hj hk hb e2)
 ·have hq:∀ {j},j < 3 → j ≠ k → ∀ b,(p.pd j).ownBlock = some b → pv.ownBlock ≠ some b:=by
   intro j hj hne b e1 e2
   rcases hpv b e2 with e3 | e3
   ·exact hne (h.pone j k b hj hk e1 e3)
   obtain ⟨n,xs,q1,_⟩:=h.pend j hj
   exact absurd (Gv q1 e1) (by omega)
  have e1:(upN p.pd k pv i).ownBlock = some b:=e1
  have e2:(upN p.pd k pv j).ownBlock = some b:=e2
  by_cases a:i = k
  ·by_cases c:j = k
   ·omega
   rw [a,aJ] at e1
   rw [aD c] at e2
   exact absurd e1 (hq hj c b e2)
  by_cases c:j = k
  ·rw [aD a] at e1
   rw [c,aJ] at e2
   exact absurd e2 (hq hi a b e1)
  rw [aD a] at e1
  rw [aD c] at e2
  exact h.pone i j b hi hj e1 e2
 ·show MapT encP w' (p.sn j) (N' + R') (upN m.seen k f j) ∧ dR N' (upN m.seen k f j)
  by_cases e:j = k
  ·subst e;rw [aJ];exact ⟨hm,hn⟩
  rw [aD e]
  obtain ⟨⟨X,q1,q2⟩,q3⟩:=h.seen j hj
  refine ⟨MapT.chg ⟨X,q1.mono (Nat.add_le_add hN hR),q2⟩ hc ?_,q3.mono hN⟩
  rintro (e2 | e2 | e2)
  ·exact e (h.msn j k hj hk e2)
  ·exact BoxL.fC (h.dir k hk) (h.seen j hj).1 e2.symm
  exact hpn (h.seen j hj).1 e2
 ·obtain ⟨⟨X,q1,q2⟩,q3⟩:=h.sett j hj
  refine ⟨MapT.chg ⟨X,q1.mono (Nat.add_le_add hN hR),q2⟩ hc ?_,q3.mono hN⟩
  rintro (e2 | e2 | e2)
  ·exact h.mst k j hk hj e2.symm
  ·exact BoxL.fC (h.dir k hk) (h.sett j hj).1 e2.symm
  exact hpn (h.sett j hj).1 e2
 ·have hb:upN m.seen k f j x = some b ∨ m.sett j x = some b:=hb
  rcases hb with hb | hb
  ·by_cases e:j = k
   ·rw [e,aJ] at hb
    rcases hf x b hb with ⟨y,hy⟩ | ⟨q1,q2,q3⟩
    ·exact hfl hk (.inl hy)
    exact ⟨q2,fun ho => absurd (h.olt b ho) (by omega),q3⟩
   rw [aD e] at hb;exact hfl hj (.inl hb)
  exact hfl hj (.inr hb)
 ·have hq:∀ {j},j < 3 → j ≠ k → ∀ x y b,m.seen j x = some b → f y ≠ some b:=by
   intro j hj hne x y b e1 e2
   rcases hf y b e2 with ⟨z,hz⟩ | ⟨q1,_⟩
   ·exact hne (h.one j k x z b hj hk e1 hz).1
   exact absurd (BoxL.lt (h.file j x b hj (.inl e1)).1) (by omega)
  have e1:upN m.seen k f i x = some b:=e1
  have e2:upN m.seen k f j y = some b:=e2
  by_cases a:i = k
  ·by_cases c:j = k
   ·rw [a,aJ] at e1
    rw [c,aJ] at e2
    exact ⟨by omega,h1 x y b e1 e2⟩
   rw [a,aJ] at e1
   rw [aD c] at e2
   exact absurd e1 (hq hj c y x b e2)
  by_cases c:j = k
  ·rw [aD a] at e1
   rw [c,aJ] at e2
   exact absurd e2 (hq hi a x y b e1)
  rw [aD a] at e1
  rw [aD c] at e2
  exact h.one i j x y b hi hj e1 e2
 refine ⟨h.off.1,h.off.2.1,h.off.2.2.1,fun j b hj hb => ?_⟩
 have hb:(upN p.pd k pv j).ownBlock = some b:=hb
 by_cases e:j = k
 ·rw [e,aJ] at hb
  rcases hpv b hb with e3 | e3
  ·exact h.off.2.2.2 k b hk e3
  exact fun ho => absurd (h.olt b ho) (by omega)
 rw [aD e] at hb;exact h.off.2.2.2 j b hj hb
theorem DS.data {k fb:Nat} {x:ByteArray} {d:ByteArray × Nat} (h:DS O N R M w g q p m) (hk:k < 3) (hx:m.seen k x = some fb) (hc:Chg (fun b => b = fb) w w') (hf:qB w' fb d) (hs:d.1.size ≤ M) (h2:d.2 ≤ d.1.size):DS O N R M w' g q p { m with dat:=upN m.dat fb d }:=by
 have hfb:=(h.file k x fb hk (.inl hx)).1
 have hmap:∀ {α:Type} {enc:α → Value} {b n:Nat} {F:ByteArray → Option α},MapT enc w b n F → b ≠ fb:=fun hM e => BoxL.fC hfb hM e.symm
 have hbox:∀ {b:Nat} {t:TypeId} {cs:List Value},BoxL w b t cs → t ≠ 120 → b ≠ fb:=fun hB hne => BoxL.ne hB hfb hne
 refine ⟨h.box.chg hc (hbox h.box (by decide)),h.top.chg hc (hmap h.top),fun j hj => (h.dir j hj).chg hc (hbox (h.dir j hj) (by decide)),fun j hj => ?_,h.pone,fun j hj => ⟨(h.seen j hj).1.chg hc (hmap (h.seen j hj).1),(h.seen j hj).2⟩,fun j hj => ⟨(h.sett j hj).1.chg hc (hmap (h.sett j hj).1),(h.sett j hj).2⟩,fun j y b hj hb => ?_,h.one,h.off,h.mtop,h.mst,h.msn,h.mtt,h.mdir,fun b hb => Nat.lt_of_lt_of_le (h.olt b hb) hc.size,h.glob⟩
 ·obtain ⟨n,xs,q1,q2⟩:=h.pend j hj
  exact ⟨n,xs,iN q1 hc (fun b hb e => gQ q1 hfb (by decide) (e ▸ hb)),q2⟩
 obtain ⟨q1,q2,q3⟩:=h.file j y b hj hb
 show qB w' b (upN m.dat fb d b) ∧ ¬ O b ∧ (upN m.dat fb d b).1.size ≤ M ∧ (upN m.dat fb d b).2 ≤ (upN m.dat fb d b).1.size
 by_cases e:b = fb
 ·rw [e,aJ];exact ⟨hf,e ▸ q2,hs,h2⟩
 rw [aD e];exact ⟨q1.chg hc e,q2,q3⟩
theorem DS.settled {k:Nat} (h:DS O N R M w g q p m) (hk:k < 3) (hc:Chg (fun b => b = p.st k ∨ b = p.dir k) w w') (hm:MapT encP w' (p.st k) (N + R) (m.seen k)) (hd:DirB w' (p.dir k) (p.sn k) (p.st k) (.slice none 0 0)) :
  DS O N R M w' g q { p with pd:=upN p.pd k (.slice none 0 0) } { m with sett:=upN m.sett k (m.seen k) }:=by
 have hbox:∀ {b:Nat} {t:TypeId} {cs:List Value},BoxL w b t cs → t ≠ 83 → ¬ (b = p.st k ∨ b = p.dir k):=fun hB hne hx => hx.elim (BoxL.fC hB (h.sett k hk).1) (BoxL.ne hB (h.dir k hk) hne)
 have hdm:∀ {α:Type} {enc:α → Value} {b n:Nat} {F:ByteArray → Option α},MapT enc w b n F → b ≠ p.dir k:=fun hM e => BoxL.fC (h.dir k hk) hM e.symm
 refine ⟨h.box.chg hc (hbox h.box (by decide)),h.top.chg hc (fun hx => hx.elim (h.mtop k hk).2 (hdm h.top)),fun j hj => ?_,fun j hj => ?_,fun i j b hi hj e1 e2 => ?_,fun j hj => ⟨(h.seen j hj).1.chg hc (fun hx => hx.elim (h.mst j k hj hk) (hdm (h.seen j hj).1)),(h.seen j hj).2⟩,fun j hj => ?_,fun j x b hj hb => ?_,h.one,⟨h.off.1,h.off.2.1,h.off.2.2.1,fun j b hj hb => ?_⟩,h.mtop,h.mst,h.msn,h.mtt,h.mdir,fun b hb => Nat.lt_of_lt_of_le (h.olt b hb) hc.size,h.glob⟩
 ·show DirB w' (p.dir j) (p.sn j) (p.st j) (upN p.pd k (.slice none 0 0) j)
  by_cases e:j = k
  ·subst e;rw [aJ];exact hd
  rw [aD e]
  exact (h.dir j hj).chg hc (fun hx => hx.elim (BoxL.fC (h.dir j hj) (h.sett k hk).1) fun e2 => e (h.mdir j k hj hk e2))
 ·show PdR w' (upN p.pd k (.slice none 0 0) j) R
  by_cases e:j = k
  ·rw [e,aJ];exact ⟨0,[],World.ownsRow_nil w' _ _ _,Nat.zero_le _⟩
  rw [aD e]
  obtain ⟨n,xs,q1,q2⟩:=h.pend j hj
  exact ⟨n,xs,iN q1 hc (fun b hb hx => hx.elim (fun e2 => nK q1 (h.sett k hk).1 (e2 ▸ hb)) fun e2 => gQ q1 (h.dir k hk) (by decide) (e2 ▸ hb)),q2⟩
 ·have e1:(upN p.pd k (.slice none 0 0) i).ownBlock = some b:=e1
  have e2:(upN p.pd k (.slice none 0 0) j).ownBlock = some b:=e2
  by_cases a:i = k
  ·rw [a,aJ] at e1;cases e1
  by_cases c:j = k
  ·rw [c,aJ] at e2;cases e2
  rw [aD a] at e1
  rw [aD c] at e2
  exact h.pone i j b hi hj e1 e2
 ·show MapT encP w' (p.st j) (N + R) (upN m.sett k (m.seen k) j) ∧ dR N (upN m.sett k (m.seen k) j)
  by_cases e:j = k
  ·subst e;rw [aJ];exact ⟨hm,(h.seen j hj).2⟩
  rw [aD e]
  exact ⟨(h.sett j hj).1.chg hc (fun hx => hx.elim (fun e2 => e (h.mtt j k hj hk e2)) (hdm (h.sett j hj).1)),(h.sett j hj).2⟩
 ·have hb:m.seen j x = some b ∨ upN m.sett k (m.seen k) j x = some b:=hb
  have hb2:m.seen j x = some b ∨ m.sett j x = some b:=by
   rcases hb with hb | hb
   ·exact .inl hb
   by_cases e:j = k
   ·subst e;rw [aJ] at hb;exact .inl hb
   rw [aD e] at hb;exact .inr hb
  obtain ⟨q1,q2,q3⟩:=h.file j x b hj hb2
  exact ⟨q1.chg hc (hbox q1 (by decide)),q2,q3⟩
 have hb:(upN p.pd k (.slice none 0 0) j).ownBlock = some b:=hb
 by_cases e:j = k
 ·rw [e,aJ] at hb;cases hb
 rw [aD e] at hb;exact h.off.2.2.2 j b hj hb
end
abbrev LK:=Nat → ByteArray → Option (ByteArray × Nat)
def LK.put (L:LK) (k:Nat) (x:ByteArray) (v:Option (ByteArray × Nat)):LK:=fun j y => if j = k ∧ y = x then v else L j y
def LK.dk (L:LK):Dk:=fun k x => (L k x).map (·.1)
theorem LK.bF (L:LK) (k:Nat) (x:ByteArray) (v:Option (ByteArray × Nat)):L.put k x v k x = v:=if_pos ⟨rfl,rfl⟩
theorem LK.aI {L:LK} {k:Nat} {x:ByteArray} {v:Option (ByteArray × Nat)} {j:Nat} {y:ByteArray} (h:¬ (j = k ∧ y = x)):L.put k x v j y = L j y:=if_neg h
def DV (O:Nat → Prop) (N R M:Nat) (w:World) (g:Nat) (q:Int) (L:LK) (sy:Nat → Bool):Prop :=
 ∃ p m,DS O N R M w g q p m ∧ (∀ k x,k < 3 → L k x = (m.seen k x).map m.dat) ∧ ∀ k,k < 3 → sy k = true → m.sett k = m.seen k
section
variable {O S:Nat → Prop} {N R M:Nat} {w w':World} {g:Nat} {q:Int} {L:LK} {sy:Nat → Bool}
theorem DV.chg (h:DV O N R M w g q L sy) (hc:Chg S w w') (hS:∀ b,S b → O b):DV O N R M w' g q L sy:=by obtain ⟨p,m,h1,h2⟩:=h;exact ⟨p,m,h1.chg hc hS,h2⟩
theorem DV.below (h:DV O N R M w g q L sy) (hb:Below w.heap.size w w'):DV O N R M w' g q L sy:=by obtain ⟨p,m,h1,h2⟩:=h;exact ⟨p,m,h1.below hb,h2⟩
theorem DV.on (h:DV O N R M w g q L sy) (hb:Below w.heap.size w w'):DV (Ou O w w') N R M w' g q L sy:=by obtain ⟨p,m,h1,h2⟩:=h;exact ⟨p,m,h1.on hb,h2⟩
theorem DV.sub {O':Nat → Prop} (h:DV O N R M w g q L sy) (hO:∀ b,O' b → O b) (h5:∀ b,b < 5 → O' b):DV O' N R M w g q L sy:=by obtain ⟨p,m,h1,h2⟩:=h;exact ⟨p,m,h1.sub hO h5,h2⟩
theorem DV.mono {N' R' M':Nat} (h:DV O N R M w g q L sy) (hN:N ≤ N') (hR:R ≤ R') (hM:M ≤ M'):DV O N' R' M' w g q L sy:=by obtain ⟨p,m,h1,h2⟩:=h;exact ⟨p,m,h1.mono hN hR hM,h2⟩
theorem DV.olt (h:DV O N R M w g q L sy):∀ b,O b → b < w.heap.size:=by obtain ⟨p,m,h1,h2⟩:=h;exact h1.olt
theorem DV.glob (h:DV O N R M w g q L sy):∀ b,b < 5 → O b:=by obtain ⟨p,m,h1,h2⟩:=h;exact h1.glob
theorem DV.lt (h:DV O N R M w g q L sy):g < w.heap.size:=by obtain ⟨p,m,h1,h2⟩:=h;exact BoxL.lt h1.box
theorem DV.off (h:DV O N R M w g q L sy):¬ O g:=by obtain ⟨p,m,h1,h2⟩:=h;exact h1.off.1
theorem DV.at (h:DV O N R M w g q L sy) (hN:N + R ≤ 1000000):∃ d:Dk,jg w g d ∧ ∀ k x,k < 3 → d k x = L.dk k x:=by
 obtain ⟨p,m,h1,h2,_⟩:=h
 refine ⟨m.vis,h1.at hN,fun k x hk => ?_⟩
 unfold Dm.vis LK.dk
 rw [h2 k x hk]
 cases m.seen k x <;> rfl
theorem DV.size (h:DV O N R M w g q L sy) {k:Nat} {x:ByteArray} {v:ByteArray × Nat} (hk:k < 3) (hv:L k x = some v):v.1.size ≤ M ∧ v.2 ≤ v.1.size ∧ aN x = true:=by
 obtain ⟨p,m,h1,h2,_⟩:=h
 rw [h2 k x hk] at hv
 cases hs:m.seen k x with
 | none => rw [hs] at hv;cases hv
 | some b =>
  rw [hs] at hv
  cases hv
  have h3:=(h1.file k x b hk (.inl hs)).2.2
  obtain ⟨Ls,_,_,h5,h6⟩:=(h1.seen k hk).2
  exact ⟨h3.1,h3.2,h5 x ((h6 x).1 (by rw [hs];rfl))⟩
theorem DV.names (h:DV O N R M w g q L sy) {k:Nat} (hk:k < 3):∃ l:List ByteArray,AscT l ∧ l.length ≤ N ∧ (∀ x ∈ l,aN x = true) ∧ ∀ x,x ∈ l ↔ (L.dk k x).isSome = true:=by
 obtain ⟨p,m,h1,h2,_⟩:=h
 obtain ⟨Ls,h3,h4,h5,h6⟩:=(h1.seen k hk).2
 have hp:∀ l:List ByteArray,l.Nodup → (l.foldr putT []).length ≤ l.length ∧ AscT (l.foldr putT []) ∧ ∀ x,x ∈ l.foldr putT [] ↔ x ∈ l:=by
  intro l
  induction l with
  | nil => exact fun _ => ⟨Nat.le_refl _,List.Pairwise.nil,fun _ => Iff.rfl⟩
  | cons y l ih =>
   intro hn
   obtain ⟨i1,i2,i3⟩:=ih (List.nodup_cons.1 hn).2
   have hpl:∀ (x:ByteArray) (l:List ByteArray),(putT x l).length ≤ l.length + 1:=by
    intro x l
    induction l with
    | nil => simp [putT]
    | cons y l ih => unfold putT;split <;> (try split) <;> simp <;> omega
   rw [List.foldr_cons]
   refine ⟨?_,zf _ _ i2,fun x => by rw [sD,i3,List.mem_cons]⟩
   have:=hpl y (l.foldr putT [])
   rw [List.length_cons];omega
 obtain ⟨i1,i2,i3⟩:=hp Ls h3
 refine ⟨_,i2,by omega,fun x hx => h5 x ((i3 x).1 hx),fun x => ?_⟩
 rw [i3,← h6]
 unfold LK.dk
 rw [h2 k x hk]
 cases m.seen k x <;> rfl
end
theorem Glob.kp {O:Nat → Prop} {w w':World} (h:Glob w) (hc:Kp O w w') (hO:∀ b,b < 5 → O b):Glob w':=by
 have h5:=h.laid.lt
 have hb:Below 5 w w':=⟨hc.os,hc.tape,hc.output,hc.size,fun k hk => hc.block (Nat.lt_of_lt_of_le hk h5) (hO k hk)⟩
 exact h.gY hb (Nat.le_refl _)
theorem bU {x:ByteArray} (h:aN x = true):x.size ≤ 80:=by
 unfold aN at h
 simp only [Bool.and_eq_true,decide_eq_true_eq] at h
 exact h.2
theorem nY {k:Nat}:(dirN k).size ≤ maxLen:=by
 unfold dirN maxLen
 split
 ·decide
 split <;> decide
section
variable {O:Nat → Prop} {N R M:Nat} {g:Nat} {q:Int} {p:Pl} {m:Dm}
theorem iL (w:World) (h:DS O N R M w g q p m) {k:Nat} (hk:k < 3) (a:Option Addr) (n c:Nat) (hc:Calls prog 185 #[.slice a n c,.func (.func 186) #[] #[]] w fun e w' => e = .returned (.bool false) ∧ Below w.heap.size w w') :
  Calls prog 118 #[.pointer (some ⟨g,0,none⟩),.string (dirN k),.slice a n c] w fun e w' => e = .returned (.tuple #[.pointer (some ⟨p.dir k,0,none⟩),.int .i64 0]) ∧ Below w.heap.size w w':=by
 have HC:=ah hc
 have c0:w.cell? ⟨g,0,none⟩ = some (.map (some p.top)):=BoxL.range h.box 0 _ rfl
 have c4:w.cell? ⟨g,4,none⟩ = some (.bool false):=BoxL.range h.box 4 _ rfl
 have hg:=BoxL.lt h.box
 have hlk:=h.top.look underlying75 (mV w) (x:=dirN k) nY
 rw [fF hk] at hlk
 dsimp only [Option.map,Option.getD,encP] at hlk
 have HD4:=ah (fun (w':World) (hb:Below w.heap.size w w') => aA c4 hb hg)
 clear h hc c4 hk
 generalize p.dir k = db at hlk ⊢
 generalize dirN k = dn at hlk ⊢
 go_enter func118,ntmps118
 go_wp2_with fail
 refine HC.out.mono ?_
 rintro e w1 ⟨rfl,hb1⟩
 have c4:=HD4.out w1 hb1
 go_wp2_with fail
 go_ret2
 exact ⟨rfl,hb1⟩
theorem lQ (w:World) (h:DS O N R M w g q p m):Calls prog 183 #[.pointer (some ⟨g,0,none⟩)] w fun e w' => e = .returned (.int .i64 0) ∧ w' = w:=by
 have c3:w.cell? ⟨g,3,none⟩ = some (.bool false):=BoxL.range h.box 3 _ rfl
 clear h
 go_enter func183,ntmps183
 go_wp2_with fail
 go_ret
 exact ⟨rfl,rfl⟩
end
theorem DI (b:Nat) (x y:ByteArray) (w:World) (hc:w.cell? ⟨b,0,none⟩ = some (.string x)) (hd:w.cell? ⟨b,1,none⟩ = some (.string y)) (hx:x.size ≤ 1000000000) (hy:y.size ≤ 1000000000) (fx:aN x = true) (fy:aN y = true):Calls prog 231 #[.slice (some ⟨b,0,none⟩) 2 2,.func (.func 186) #[] #[]] w fun e w' => e = .returned (.int .i64 (-1)) ∧ Below w.heap.size w w':=by
 have HF:=ah (tN x w hx)
 have HY:=ah (fun W => tN y W hy)
 have hbl:b < w.heap.size:=World.block_lt_of_cell? w _ hc
 have HD:=ah (fun (w':World) (hb:Below w.heap.size w w') => aA hd hb hbl)
 rw [fx] at HF
 rw [fy] at HY
 clear fx fy hd
 go_enter func231,ntmps231
 go_wp2_with fail
 refine wp_loop_rounds 3 ?_
 rw [rounds_succ]
 go_wp2_with fail
 refine HF.out.mono ?_
 rintro e w1 ⟨rfl,hb1⟩
 have hd:=HD.out w1 hb1
 go_wp2_with fail
 rw [rounds_succ]
 go_wp2_with fail
 refine (HY.out w1).mono ?_
 rintro e w2 ⟨rfl,hb2⟩
 go_wp2_with fail
 rw [rounds_succ]
 go_wp2_with fail
 go_ret
 exact ⟨rfl,hb1.trans (hb2.mono hb1.size)⟩
theorem DR (b:Nat) (x y:ByteArray) (w:World) (hc:w.cell? ⟨b,0,none⟩ = some (.string x)) (hd:w.cell? ⟨b,1,none⟩ = some (.string y)) (fx:aN x = true) (fy:aN y = true):Calls prog 185 #[.slice (some ⟨b,0,none⟩) 2 2,.func (.func 186) #[] #[]] w fun e w' => e = .returned (.bool false) ∧ Below w.heap.size w w':=by
 have HI:=ah (DI b x y w hc hd (by have:=bU fx;omega) (by have:=bU fy;omega) fx fy)
 clear hc hd
 go_enter func185,ntmps185
 go_wp2_with fail
 refine HI.out.mono ?_
 rintro e w' ⟨rfl,hb1⟩
 go_wp2_with fail
 go_ret
 exact ⟨rfl,hb1⟩
theorem Ld:(prog.info? 114).map (fun i => (i.zero,i.size,i.bytes)) = some (some .nilFunc,1,8):=by kernel_rfl
theorem oM {ops:Array Oper} {rest:List Oper} {o:Oper} {a:Act} {Q:Exit → Act → World → Prop} (w:World) (hg:o.guard = none) (s x:Operand) (hop:o.op = Op.call { callee:=Callee.builtin Builtin.append,args:=#[s,x],argTypes:=#[81,81] })
  (v:Value) (n:Nat) (xs:List Value) (hs:a.eval s = v) (hown:w.ownsRow 0 114 1 v n xs) (b:Nat) (k:Value) (hx:a.eval x = .slice (some ⟨b,0,none⟩) 1 1) (hr:w.cell? ⟨b,0,none⟩ = some k) (h1:k.oneCell' = true) (hn:n ≤ 10000000)
  (hK:∀ v' w',w'.ownsRow 0 114 1 v' (n + 1) (xs ++ [k]) → w.grownBy w' v.ownBlock → Fr w v v' → wpList prog ops Q rest (a.put o.dst v') w'):wpList prog ops Q (o :: rest) a w:=by
 obtain ⟨i0,hi,hz0,hz1,hz2⟩:=info_parts Ld
 refine oL w hg s x 81 hop 0 114 i0 _ 1 8 underlying81 hi hz0 hz1 hz2 rfl (by decide) v n xs hs hown ⟨b,0,none⟩ 1 1 [k] hx rfl (fun j u hu => ?_) (fun u hu => ?_) (by unfold maxLen;omega) (by omega) (Nat.zero_le _) hK
 ·match j,hu with
  | 0,hu => simp at hu;subst hu;rw [Addr.add_mid];exact hr
 simp at hu;subst hu;exact h1
section
variable {O:Nat → Prop} {N R M:Nat} {g:Nat} {q:Int} {p:Pl} {m:Dm}
theorem tZ (w0 w:World) (h:DS O N R M w0 g q p m) (hb:Below w0.heap.size w0 w) {k N':Nat} (hk:k < 3) (hN:N ≤ N') (hR:R ≤ 1000000) {f:ByteArray → Option Nat} {dt:Nat → ByteArray × Nat} (fn:FuncId) (cs:Array Value) (hen:∀ args w,Sem.run prog (callFunc fn args) w = .ok (.enter fn args) w)
  (hdo:Calls prog fn (#[.map (some (p.sn k))] ++ cs) w fun e w' => e = .returned (.tuple #[]) ∧ MapT encP w' (p.sn k) (N' + (R + 1)) f ∧ w.grownBy w' (some (p.sn k))) (hn:dR N' f) (hdt:∀ b,b < w0.heap.size → dt b = m.dat b)
  (hf:∀ x b,f x = some b → (∃ y,m.seen k y = some b) ∨ (w0.heap.size ≤ b ∧ qB w b (dt b) ∧ (dt b).1.size ≤ M ∧ (dt b).2 ≤ (dt b).1.size)) (h1:∀ x y b,f x = some b → f y = some b → x = y) :
  Calls prog 270 #[.pointer (some ⟨g,0,none⟩),.pointer (some ⟨p.dir k,0,none⟩),.func (.func fn) #[] cs] w fun e w' => e = .returned (.int .i64 0) ∧ ∃ pv,DS O N' (R + 1) M w' g q { p with pd:=upN p.pd k pv } { m with seen:=upN m.seen k f,dat:=dt } ∧ Kp O w0 w':=by
 have hw:=h.below hb
 have HB:=ah (lQ w hw)
 have c0:w.cell? ⟨p.dir k,0,none⟩ = some (.map (some (p.sn k))):=BoxL.range (hw.dir k hk) 0 _ rfl
 go_enter func270,ntmps270
 go_wp2_with fail
 refine HB.out.mono ?_
 rintro e w1 ⟨rfl,rfl⟩
 have hpd:=hw.pend k hk
 have HD:=ah hdo
 have HW:=ah hw
 have HB0:=ah hb
 have HF:=ah hf
 have H1:=ah h1
 have HN:=ah hn
 have HDT:=ah hdt
 have H0:=ah h
 clear hdo hw hb hf h1 hn hdt h
 go_wp2_with fail
 refine HD.out.mono ?_
 rintro e w2 ⟨rfl,hm2,hg2⟩
 have hc2:Chg (fun b => b = p.sn k) w1 w2:=Chg.eB hg2 (fun b e => (Option.some.inj e).symm)
 have hdir:=(HW.out.dir k hk).chg hc2 (fun e => BoxL.fC (HW.out.dir k hk) (HW.out.seen k hk).1 e)
 obtain ⟨n,xs,hown,hnR⟩:=hpd
 have hown2:=iN hown hc2 (fun b hb e => nK hown (HW.out.seen k hk).1 (e ▸ hb))
 have HOD:=ah hown
 have HHP:Hid (HW.out.pend k hk = HW.out.pend k hk):=ah rfl
 obtain ⟨pv0,hpv0⟩:∃ v,p.pd k = v:=⟨_,rfl⟩
 rw [hpv0] at hdir hown2
 obtain ⟨oo,oc,rfl⟩:=aG hown2
 obtain ⟨W,hW⟩:∃ W,w2.alloc (.cells #[.func (.func fn) #[] cs] 114) = W:=⟨_,rfl⟩
 have hbW:Below w2.heap.size w2 W:=by rw [← hW];exact bal
 have c2:w2.cell? ⟨p.dir k,2,none⟩ = some (.slice oo n oc):=hdir.range 2 _ rfl
 have cW:W.cell? ⟨w2.heap.size,0,none⟩ = some (.func (.func fn) #[] cs):=by rw [← hW];exact (BoxL.new w2 114 [.func (.func fn) #[] cs]).range 0 _ rfl
 have HOW:=ah (iN hown2 (Chg.of_below (S:=fun _ => False) hbW) (fun _ _ h => h))
 have HDW:=ah (BoxL.below hdir hbW)
 have HM2:=ah (hm2.on hbW)
 have HC2:=ah hc2
 have HBW:=ah hbW
 have HPV:=ah hpv0
 have HNR:=ah hnR
 have HWE:=ah hW
 clear hm2 hg2 hc2 hdir hown hown2 hW hbW hpv0 hnR HB HD HHP
 go_wp2_with (rw [HWE.out];refine oM _ rfl _ _ rfl _ n xs rfl HOW.out w2.heap.size _ rfl cW rfl (by have:=HNR.out;omega) ?_)
 intro v3 w3 hown3 hg3 hfr3
 have hne3:∀ {b:Nat} {t:TypeId} {cs:List Value},BoxL W b t cs → 114 ≠ t → some b ≠ (Value.slice oo n oc).ownBlock:=fun hB hne e => gQ HOW.out hB hne e.symm
 have hd3:=HDW.out.kept hg3 (hne3 HDW.out (by decide))
 have hm3:=HM2.out.grown hg3 (fun e => nK HOW.out HM2.out e.symm)
 have hS:∀ b,(b = p.sn k ∨ b = p.dir k ∨ (p.pd k).ownBlock = some b) → b < w0.heap.size:=fun b hb => H0.out.lt (.inr (.inr (.inl ⟨k,hk,hb.elim (fun e => .inr (.inl e)) fun hb => hb.elim .inl fun e => .inr (.inr (.inr e))⟩)))
 have hset:Chg (fun b => b = p.dir k) w3 (w3.setCell ⟨p.dir k,2,none⟩ v3):=⟨rfl,rfl,rfl,by simp [World.setCell],fun j _ hj => Below.heap_setCell _ _ _ _ hj⟩
 have hc14:Chg (fun b => b = p.sn k ∨ b = p.dir k ∨ (p.pd k).ownBlock = some b) w1 (w3.setCell ⟨p.dir k,2,none⟩ v3) :=
  (((HC2.out.mono fun b _ e => .inl e).trans (Chg.of_below HBW.out)).trans (Chg.eB hg3 fun b e => .inr (.inr (by rw [HPV.out];exact e)))).trans (hset.mono fun b _ e => .inr (.inl e))
 have HE:Hid (∃ pv,DS O N' (R + 1) M (w3.setCell ⟨p.dir k,2,none⟩ v3) g q { p with pd:=upN p.pd k pv } { m with seen:=upN m.seen k f,dat:=dt } ∧ Kp O w0 (w3.setCell ⟨p.dir k,2,none⟩ v3)):=ah ⟨v3,H0.out.turned hk hN (Nat.le_succ R) ((Chg.of_below HB0.out).trans hc14) (hm3.chg hset fun e => BoxL.fC hd3 hm3 e.symm) HN.out (hd3.put 2 v3)
   ⟨n + 1,_,iN hown3 hset (fun b hb e => gQ hown3 hd3 (by decide) (e ▸ hb)),by have:=HNR.out;omega⟩ (fun b hb => hfr3.elim (fun e => .inl (by rw [HPV.out,← e];exact hb)) fun hf => .inr (by have h1:=hf b hb;have h2:=HB0.out.size;have h3:=HC2.out.size;have h4:=HBW.out.size;omega)) HDT.out
   (fun x b hx => (HF.out x b hx).imp id fun ⟨q1,q2,q3⟩ => ⟨q1,q2.chg hc14 (fun hb => by have:=hS b hb;omega),q3⟩) H1.out,
  (Kp.of HB0.out).trans (hc14.mono fun b _ hb ho => by
   rcases hb with rfl | rfl | hb
   ·exact (H0.out.off.2.2.1 k hk).2.1 ho
   ·exact (H0.out.off.2.2.1 k hk).1 ho
   exact H0.out.off.2.2.2 k b hk hb ho)⟩
 have hth:=hd3.there 2 (by simp)
 rw [Nat.zero_add] at hth
 have ht1:=hth.1
 have ht2:=hth.2
 obtain ⟨v0,hv0⟩:=Option.isSome_iff_exists.1 ht1
 clear hne3 hm3 hS hset hc14 hth ht1 hfr3 hg3 HOD HOW HDW HM2 HC2 HBW HPV HNR HWE hd3 c2 cW
 obtain ⟨o3,c3,rfl⟩:=aG hown3
 clear hown3
 go_wp2_with fail
 go_ret
 exact ⟨rfl,HE.out⟩
end
theorem zZ (x:ByteArray) (w:World):Calls prog 306 #[.string x] w fun e w' => ∃ bp bn bf,e = .returned (.func (.func 312) #[] #[.pointer (some ⟨bp,0,none⟩),.pointer (some ⟨bn,0,none⟩)]) ∧ w'.cell? ⟨bp,0,none⟩ = some (.pointer (some ⟨bf,0,none⟩)) ∧ w'.cell? ⟨bn,0,none⟩ = some (.string x) ∧ qB w' bf (⟨#[]⟩,0) ∧ w.heap.size ≤ bf ∧ Below w.heap.size w w':=by
 have hfb:∀ w,(Instr.build 120 #[]).run prog w = .ok (.agg #[.string ⟨#[]⟩,.int .i64 0]) w:=fun w => run_build w 120 _ _ (by kernel_rfl)
 have H1:=ah (BoxL.new w 9 [.string x])
 obtain ⟨W1,hW1⟩:∃ W,w.alloc (.cells #[.string x] 9) = W:=⟨_,rfl⟩
 have hb1:Below w.heap.size w W1:=by rw [← hW1];exact bal
 have hs1:W1.heap.size = w.heap.size + 1:=by rw [← hW1];simp
 have H2:=ah (BoxL.new W1 120 (fiC (⟨#[]⟩,0)))
 obtain ⟨W2,hW2⟩:∃ W,W1.alloc (.cells #[.string ⟨#[]⟩,.int .i64 0] 120) = W:=⟨_,rfl⟩
 have hb2:Below W1.heap.size W1 W2:=by rw [← hW2];exact bal
 have hs2:W2.heap.size = w.heap.size + 1 + 1:=by rw [← hW2,← hs1];simp
 have H3:=ah (BoxL.new W2 116 [.pointer (some ⟨w.heap.size + 1,0,none⟩)])
 obtain ⟨W3,hW3⟩:∃ W,W2.alloc (.cells #[.pointer (some ⟨w.heap.size + 1,0,none⟩)] 116) = W:=⟨_,rfl⟩
 have hb3:Below W2.heap.size W2 W3:=by rw [← hW3];exact bal
 have hE:BoxL W3 (w.heap.size + 1 + 1) 116 [.pointer (some ⟨w.heap.size + 1,0,none⟩)] ∧ BoxL W3 w.heap.size 9 [.string x] ∧ qB W3 (w.heap.size + 1) (⟨#[]⟩,0) ∧ Below w.heap.size w W3:=by
  refine ⟨by rw [← hs2,← hW3];exact H3.out,((BoxL.below (by rw [← hW1];exact H1.out) hb2).below hb3),(BoxL.below (by rw [← hs1,← hW2];exact H2.out) hb3),(hb1.trans (hb2.mono (by omega))).trans (hb3.mono (by omega))⟩
 have HE:=ah hE
 have HW:Hid (((w.alloc (.cells #[.string x] 9)).alloc (.cells #[.string ⟨#[]⟩,.int .i64 0] 120)).alloc (.cells #[.pointer (some ⟨w.heap.size + 1,0,none⟩)] 116) = W3):=ah (by rw [hW1,hW2,hW3])
 clear hW1 hW2 hW3 hb1 hb2 hb3 hs1 hs2 H1 H2 H3 hE
 go_enter func306,ntmps306
 go_wp2_with fail
 rw [HW.out]
 go_ret
 exact ⟨_,_,_,rfl,HE.out.1.range 0 _ rfl,HE.out.2.1.range 0 _ rfl,HE.out.2.2.1,by omega,HE.out.2.2.2⟩
theorem xV (sn bp bn bf n:Nat) (x:ByteArray) (f:ByteArray → Option Nat) (w:World) (hm:MapT encP w sn n f) (c1:w.cell? ⟨bp,0,none⟩ = some (.pointer (some ⟨bf,0,none⟩))) (c2:w.cell? ⟨bn,0,none⟩ = some (.string x)) (hx:x.size ≤ maxLen) (hn:n ≤ 1000000) :
  Calls prog 312 #[.map (some sn),.pointer (some ⟨bp,0,none⟩),.pointer (some ⟨bn,0,none⟩)] w fun e w' => e = .returned (.tuple #[]) ∧ MapT encP w' sn (n + 1) (fun y => if y = x then some bf else f y) ∧ w.grownBy w' (some sn):=by
 have HM:=ah hm
 clear hm
 go_enter func312,ntmps312
 go_wp2_with (refine jW (enc:=encP) rfl _ _ _ 80 116 rfl underlying80 sn n f rfl HM.out x hx bf rfl rfl (by unfold maxLen;omega) ?_)
 intro w' hm' hg'
 have HM':=ah hm'
 have HG':=ah hg'
 clear hm' hg'
 go_wp2_with fail
 go_end0
 exact ⟨rfl,HM'.out,HG'.out⟩
theorem qF {α:Type} {enc:α → Value} {w:World} {ops:Array Oper} {rest:List Oper} {o:Oper} {a:Act} {Q:Exit → Act → World → Prop} (hg:o.guard = none) (m x:Operand) (t e:TypeId) (hop:o.op = Op.call { callee:=Callee.builtin Builtin.delete,args:=#[m,x],argTypes:=#[t,9] })
  (ht:prog.underlying t = some (.map 9 e)) (b n:Nat) (f:ByteArray → Option α) (hm:a.eval m = .map (some b)) (hown:MapT enc w b n f) (p:ByteArray) (hp:p.size ≤ maxLen) (hx:a.eval x = .string p)
  (hK:∀ w',MapT enc w' b n (fun q => if q = p then none else f q) → w.grownBy w' (some b) → wpList prog ops Q rest (a.put o.dst (.tuple #[])) w'):wpList prog ops Q (o :: rest) a w:=by
 obtain ⟨D,hown,hD⟩:=hown
 refine wpList_delete_own w hg m x t 9 hop e bY ht cZ b n D hm hown (.string p) (keyT p) hx (gM hp) fun w' h1 h2 => hK w' ⟨_,h1,fun y hy => ?_⟩ h2.grown
 dsimp only
 by_cases e2:y = p
 ·subst e2
  rw [if_pos rfl]
  exact ⟨has_del_same,fun _ h => by cases h⟩
 have hne:keyT y ≠ keyT p:=fun h => e2 (nO h)
 rw [if_neg e2]
 exact ⟨by rw [has_del_other hne];exact (hD y hy).1,fun o ho zd => by rw [atKey_del_other hne];exact (hD y hy).2 o ho zd⟩
theorem xg (sn bp bn n fb:Nat) (x y:ByteArray) (f:ByteArray → Option Nat) (w:World) (hm:MapT encP w sn n f) (hs:f x = some fb) (hne:x ≠ y) (c1:w.cell? ⟨bp,0,none⟩ = some (.string x)) (c2:w.cell? ⟨bn,0,none⟩ = some (.string y)) (hx:x.size ≤ maxLen) (hy:y.size ≤ maxLen) (hn:n ≤ 1000000) :
  Calls prog 307 #[.map (some sn),.pointer (some ⟨bp,0,none⟩),.pointer (some ⟨bn,0,none⟩)] w fun e w' => e = .returned (.tuple #[]) ∧ MapT encP w' sn (n + 1) (fun z => if z = y then f x else if z = x then none else f z) ∧ w.grownBy w' (some sn):=by
 have HM:=ah hm
 have hlk:=hm.look underlying80 (fE w) (x:=x) hx
 rw [hs] at hlk
 dsimp only [Option.map,Option.getD,encP] at hlk
 have hbn:bp < w.heap.size:=World.block_lt_of_cell? w _ c1
 have HC:=ah c1
 have HBM:Hid (bp = sn → False):=ah (fun (e:bp = sn) => by
  subst e
  obtain ⟨D,⟨es,clock,hb,_⟩,_⟩:=hm
  simp [World.cell?,hb] at c1)
 have HS:=ah hs
 have HNE:=ah hne
 clear hm hs hne
 go_enter func307,ntmps307
 go_wp2_with (refine jW (enc:=encP) rfl _ _ _ 80 116 rfl underlying80 sn n f rfl HM.out y hy fb rfl rfl (by unfold maxLen;omega) ?_)
 intro w' hm' hg'
 have c1':w'.cell? ⟨bp,0,none⟩ = some (.string x):=by rw [World.cell?_of_block (hg'.block bp hbn (fun e => HBM.out (Option.some.inj e)))];exact HC.out
 have HM':=ah hm'
 have HG':=ah hg'
 clear hm' hg' c1 c2 hlk
 go_wp2_with (refine qF (enc:=encP) rfl _ _ 80 116 rfl underlying80 sn (n + 1) _ rfl HM'.out x hx rfl ?_)
 intro w2 hm2 hg2
 have HM2:=ah hm2
 have HG2:Hid (w.grownBy w2 (some sn)):=ah ⟨hg2.os.trans HG'.out.os,hg2.tape.trans HG'.out.tape,hg2.output.trans HG'.out.output,Nat.le_trans HG'.out.size hg2.size,fun k hk hne => (hg2.block k (Nat.lt_of_lt_of_le hk HG'.out.size) hne).trans (HG'.out.block k hk hne)⟩
 clear hm2 hg2
 go_wp2_with fail
 go_end0
 refine ⟨rfl,HM2.out.ext fun z _ => ?_,HG2.out⟩
 by_cases e1:z = x
 ·rw [if_pos e1,if_neg (fun e2 => HNE.out (e1.symm.trans e2)),if_pos e1]
 rw [if_neg e1]
 by_cases e2:z = y
 ·rw [if_pos e2,if_pos e2,HS.out]
 rw [if_neg e2,if_neg e2,if_neg e1]
section
variable {O:Nat → Prop} {N R M:Nat} {g:Nat} {q:Int} {p:Pl} {m:Dm}
def crF (f:ByteArray → Option Nat) (x:ByteArray) (b:Nat) (y:ByteArray):Option Nat:=if y = x then some b else f y
def rnF (f:ByteArray → Option Nat) (x y z:ByteArray):Option Nat:=if z = y then f x else if z = x then none else f z
theorem zX (w:World) (h:DS O N R M w g q p m) {k:Nat} (hk:k < 3) (hN:N + R ≤ 1000000) {x:ByteArray} (hx:aN x = true) (hs:m.seen k x = none) :
  Calls prog 293 #[.pointer (some ⟨g,0,none⟩),.string (dirN k),.string x] w fun e w' => e = .returned (.int .i64 0) ∧ ∃ pv fb,w.heap.size ≤ fb ∧ DS O (N + 1) (R + 1) M w' g q { p with pd:=upN p.pd k pv } { m with seen:=upN m.seen k (crF (m.seen k) x fb),dat:=upN m.dat fb (⟨#[]⟩,0) } ∧ Kp O w w':=by
 obtain ⟨W,hW⟩:∃ W,w.alloc (.cells #[.string x] 9) = W:=⟨_,rfl⟩
 have hbW:Below w.heap.size w W:=by rw [← hW];exact bal
 have hcW:W.cell? ⟨w.heap.size,0,none⟩ = some (.string x):=by rw [← hW];exact (BoxL.new w 9 [.string x]).range 0 _ rfl
 have hsz:=bU hx
 have HF:=ah (iL W (h.below hbW) hk (some ⟨w.heap.size,0,none⟩) 1 1 (by have:=lg w.heap.size x W hcW (by omega);rwa [hx] at this))
 have HH:=ah h
 have HB:=ah hbW
 have HW:=ah hW
 have hmx:x.size ≤ maxLen:=by unfold maxLen;omega
 generalize hdn:dirN k = dn at HF ⊢
 clear h hdn hW hbW hcW
 go_enter func293,ntmps293
 go_wp2_with fail
 rw [HW.out]
 refine HF.out.mono ?_
 rintro e w1 ⟨rfl,hb1⟩
 have HB1:=bth HB hb1
 have hh1:=HH.out.below HB1.out
 have hlk:=(hh1.seen k hk).1.look underlying80 (fE w1) (x:=x) hmx
 rw [hs] at hlk
 dsimp only [Option.map,Option.getD,encP] at hlk
 have c0:w1.cell? ⟨p.dir k,0,none⟩ = some (.map (some (p.sn k))):=BoxL.range (hh1.dir k hk) 0 _ rfl
 have HCR:=ah (zZ x w1)
 have HMX:=ah hmx
 have HS:=ah hs
 have HX:=ah hx
 clear hb1 HF HB hmx hs hx hh1 HW
 go_wp2_with fail
 refine HCR.out.mono ?_
 rintro e w2 ⟨bp,bn,bf,rfl,d1,d2,hfile,hbf,hb2⟩
 have HB2:=bth HB1 hb2
 have hbf0:w.heap.size ≤ bf:=Nat.le_trans HB1.out.size hbf
 have HT:=ah (tZ w w2 HH.out HB2.out hk (N':=N + 1) (Nat.le_succ N) (by omega) (f:=crF (m.seen k) x bf) (dt:=upN m.dat bf (⟨#[]⟩,0)) 312 #[.pointer (some ⟨bp,0,none⟩),.pointer (some ⟨bn,0,none⟩)] (enters_of func312 (by kernel_rfl) rfl)
  ((xV (p.sn k) bp bn bf (N + R) x (m.seen k) w2 ((HH.out.below HB2.out).seen k hk).1 d1 d2 HMX.out hN).mono fun e w' h => ⟨h.1,(by
   obtain ⟨D,q1,q2⟩:=h.2.1
   exact ⟨D,q1.mono (by omega),q2⟩),h.2.2⟩) ((HH.out.seen k hk).2.put HX.out) (fun b hb => aD (by omega))
  (fun y b hy => by
   unfold crF at hy
   split at hy
   ·cases hy
    exact .inr ⟨hbf0,by rw [aJ];exact hfile,by rw [aJ];exact Nat.zero_le _,by rw [aJ];exact Nat.zero_le _⟩
   exact .inl ⟨y,hy⟩)
  (fun y z b hy hz => by
   have hold:∀ {v},m.seen k v ≠ some bf:=fun h => absurd (BoxL.lt (HH.out.file k _ bf hk (.inl h)).1) (by omega)
   unfold crF at hy hz
   split at hy
   ·cases hy
    split at hz
    ·rename_i e1 e2;rw [e1,e2]
    exact absurd hz hold
   split at hz
   ·cases hz;exact absurd hy hold
   exact (HH.out.one k k y z b hk hk hy hz).2))
 have HBF:=ah hbf0
 clear d1 d2 hfile hbf hb2 hbf0 HCR
 go_wp2_with fail
 refine HT.out.mono ?_
 rintro e w3 ⟨rfl,pv,h3,h4⟩
 have HE:=ah (And.intro h3 h4)
 clear h3 h4 HT
 go_wp2_with fail
 go_ret
 exact ⟨rfl,pv,bf,HBF.out,HE.out⟩
theorem zW (w:World) (h:DS O N R M w g q p m) {k fb:Nat} (hk:k < 3) (hN:N + R ≤ 1000000) {x y:ByteArray} (hx:aN x = true) (hy:aN y = true) (hne:x ≠ y) (hs:m.seen k x = some fb) :
  Calls prog 294 #[.pointer (some ⟨g,0,none⟩),.string (dirN k),.string x,.string y] w fun e w' => e = .returned (.int .i64 0) ∧ ∃ pv,DS O N (R + 1) M w' g q { p with pd:=upN p.pd k pv } { m with seen:=upN m.seen k (rnF (m.seen k) x y) } ∧ Kp O w w':=by
 obtain ⟨W1,hW1⟩:∃ W,w.alloc (.cells #[.string x] 9) = W:=⟨_,rfl⟩
 have hb1:Below w.heap.size w W1:=by rw [← hW1];exact bal
 have hs1:W1.heap.size = w.heap.size + 1:=by rw [← hW1];simp
 obtain ⟨W2,hW2⟩:∃ W,W1.alloc (.cells #[.string y] 9) = W:=⟨_,rfl⟩
 have hb2:Below W1.heap.size W1 W2:=by rw [← hW2];exact bal
 have hs2:W2.heap.size = w.heap.size + 1 + 1:=by rw [← hW2,← hs1];simp
 obtain ⟨W3,hW3⟩:∃ W,W2.alloc (.cells #[.string x,.string y] 9) = W:=⟨_,rfl⟩
 have hb3:Below W2.heap.size W2 W3:=by rw [← hW3];exact bal
 have hx1:BoxL W1 w.heap.size 9 [.string x]:=by rw [← hW1];exact BoxL.new w 9 [.string x]
 have hy2:BoxL W2 (w.heap.size + 1) 9 [.string y]:=by rw [← hs1,← hW2];exact BoxL.new W1 9 [.string y]
 have h3:BoxL W3 (w.heap.size + 1 + 1) 9 [.string x,.string y]:=by rw [← hs2,← hW3];exact BoxL.new W2 9 [.string x,.string y]
 have hbW:Below w.heap.size w W3:=(hb1.trans (hb2.mono (by omega))).trans (hb3.mono (by omega))
 have HX:=ah ((hx1.below hb2).below hb3)
 have HY:=ah (hy2.below hb3)
 have a0:W2.cell? ⟨w.heap.size,0,none⟩ = some (.string x):=(hx1.below hb2).range 0 _ rfl
 have a1:W2.cell? ⟨w.heap.size + 1,0,none⟩ = some (.string y):=hy2.range 0 _ rfl
 have HF:=ah (iL W3 (h.below hbW) hk (some ⟨w.heap.size + 1 + 1,0,none⟩) 2 2 (DR (w.heap.size + 1 + 1) x y W3 (h3.range 0 _ rfl) (h3.range 1 _ rfl) hx hy))
 have HH:=ah h
 have HB:=ah hbW
 have HW:Hid ((w.alloc (.cells #[.string x] 9)).alloc (.cells #[.string y] 9) = W2):=ah (by rw [hW1,hW2])
 have HW3:=ah hW3
 have hzx:=bU hx
 have hzy:=bU hy
 have HMX:Hid (x.size ≤ maxLen):=ah (by unfold maxLen;omega)
 have HMY:Hid (y.size ≤ maxLen):=ah (by unfold maxLen;omega)
 have HFY:=ah hy
 have HS:=ah hs
 have HNE:=ah hne
 have hq:(x.toList == y.toList) = false:=by
  rw [beq_eq_false_iff_ne]
  intro e
  exact hne (iU (by rw [← Lib.toList_data,← Lib.toList_data];exact e))
 obtain ⟨n1,hn1⟩:∃ n,W2.heap.size = n:=⟨_,rfl⟩
 have hn2:n1 = w.heap.size + 1 + 1:=by rw [← hn1,hs2]
 generalize hdn:dirN k = dn at HF ⊢
 have HN1:=ah hn1
 rw [← hn2] at HF
 have HN2:=ah hn2
 clear h hdn hW1 hW2 hW3 hb1 hb2 hb3 hs1 hs2 hx1 hy2 h3 hbW hx hy hzx hzy hs hne hn1 hn2
 go_enter func294,ntmps294
 go_upto_region 1 with fail
 rw [HW.out]
 go_wp2_with fail
 rw [HN1.out,HW3.out]
 refine HF.out.mono ?_
 rintro e w1 ⟨rfl,hb1⟩
 have HB1:=bth HB hb1
 have hh1:=HH.out.below HB1.out
 have hlk:=(hh1.seen k hk).1.look underlying80 (fE w1) (x:=x) HMX.out
 rw [HS.out] at hlk
 dsimp only [Option.map,Option.getD,encP] at hlk
 have c0:w1.cell? ⟨p.dir k,0,none⟩ = some (.map (some (p.sn k))):=BoxL.range (hh1.dir k hk) 0 _ rfl
 have b0:w1.cell? ⟨w.heap.size,0,none⟩ = some (.string x):=(HX.out.below hb1).range 0 _ rfl
 have b1:w1.cell? ⟨w.heap.size + 1,0,none⟩ = some (.string y):=(HY.out.below hb1).range 0 _ rfl
 have hl0:=BoxL.lt (HX.out.below hb1)
 have hld:=BoxL.lt (hh1.dir k hk)
 have HX1:=ah (HX.out.below hb1)
 have HY1:=ah (HY.out.below hb1)
 have HLK:=ah (fun (w':World) (hb:Below w1.heap.size w1 w') => ((hh1.seen k hk).1.on hb).look underlying80 (fE w') (x:=x) HMX.out)
 rw [HS.out] at HLK
 dsimp only [Option.map,Option.getD,encP] at HLK
 clear hb1 HF HB hh1 hlk HX HY a0 a1 HN1 HN2 HW HW3
 go_upto_region 4 with fail
 have LK:=fun x:BW w1.heap.size w1 => HLK.out x.out x.hb
 refine wbq ?_
 have LQ0:=blq c0
 have LQ1:=blq b0
 repeat (go_big_quiet_step (fail))
 refine wpQuiet_nil ?_
 intro wq hbq
 clear LQ0 LQ1
 have b0':=aA b0 hbq hl0
 have b1':=aA b1 hbq (Nat.lt_of_lt_of_le (BoxL.lt HY1.out) (Nat.le_refl _))
 have HB2:=bth HB1 hbq
 clear LK HLK b0 b1
 have HT:=ah (tZ w wq HH.out HB2.out hk (N':=N) (Nat.le_refl N) (by omega) (f:=rnF (m.seen k) x y) (dt:=m.dat) 307 #[.pointer (some ⟨w.heap.size,0,none⟩),.pointer (some ⟨w.heap.size + 1,0,none⟩)] (enters_of func307 (by kernel_rfl) rfl)
  ((xg (p.sn k) w.heap.size (w.heap.size + 1) (N + R) fb x y (m.seen k) wq ((HH.out.below HB2.out).seen k hk).1 HS.out HNE.out b0' b1' HMX.out HMY.out hN).mono fun e w' h => ⟨h.1,h.2.1,h.2.2⟩) ((HH.out.seen k hk).2.ren HFY.out (by rw [HS.out];rfl) HNE.out) (fun b hb => rfl)
  (fun z b hz => by
   unfold rnF at hz
   split at hz
   ·exact .inl ⟨x,hz⟩
   split at hz
   ·cases hz
   exact .inl ⟨z,hz⟩)
  (fun u z b hu hz => by
   have h1:∀ {a c:ByteArray},m.seen k a = some b → m.seen k c = some b → a = c:=fun h1 h2 => (HH.out.one k k _ _ b hk hk h1 h2).2
   unfold rnF at hu hz
   split at hu
   ·split at hz
    ·rename_i e1 e2;rw [e1,e2]
    split at hz
    ·cases hz
    rename_i e1 e2 e3;exact absurd (h1 hz hu) e3
   split at hu
   ·cases hu
   split at hz
   ·rename_i e1 e2 e3;exact absurd (h1 hu hz) e2
   split at hz
   ·cases hz
   exact h1 hu hz))
 clear HX1 HY1 HB1
 go_wp2_with fail
 refine HT.out.mono ?_
 rintro e w3 ⟨rfl,pv,h3,h4⟩
 have HE:=ah (And.intro h3 h4)
 clear h3 h4 HT
 go_wp2_with fail
 go_ret
 exact ⟨rfl,pv,HE.out⟩
end
theorem str_slice (w:World) (x:ByteArray):BoxL (w.alloc (.cells #[.string x] 9)) w.heap.size 9 [.string x]:=BoxL.new w 9 [.string x]
section
variable {O:Nat → Prop} {N R M:Nat} {g:Nat} {q:Int} {p:Pl} {m:Dm}
theorem Fg (w:World) (h:DS O N R M w g q p m) {k:Nat} (hk:k < 3) (hN:N ≤ 1000000) :
  Calls prog 181 #[.pointer (some ⟨g,0,none⟩),.string (dirN k)] w fun e w' => e = .returned (.int .i64 0) ∧ DS O N R M w' g q { p with pd:=upN p.pd k (.slice none 0 0) } { m with sett:=upN m.sett k (m.seen k) } ∧ Kp O w w':=by
 have HF:=ah (iL w h hk none 0 0 (vK w))
 have HH:=ah h
 generalize hdn:dirN k = dn at HF ⊢
 clear h hdn
 go_enter func181,ntmps181
 go_wp2_with fail
 refine HF.out.mono ?_
 rintro e w1 ⟨rfl,hb1⟩
 have HH1:=ah (HH.out.below hb1)
 have HB1:=ah hb1
 have HBU:=ah (lQ w1 HH1.out)
 clear hb1 HF
 go_wp2_with fail
 refine HBU.out.mono ?_
 rintro e w2 ⟨rfl,rfl⟩
 obtain ⟨Ls,h3,h4,h5,h6⟩:=(HH1.out.seen k hk).2
 have hN':N ≤ 1000000:=hN
 have HS:=ah (AO (p.dir k) (p.st k) (p.sn k) (N + R) (N + R) (m.sett k) (m.seen k) (p.pd k) Ls w2 (HH1.out.dir k hk) (fun e => HH1.out.mst k k hk hk e.symm) (BoxL.fC (HH1.out.dir k hk) (HH1.out.sett k hk).1) (BoxL.fC (HH1.out.dir k hk) (HH1.out.seen k hk).1) (HH1.out.sett k hk).1 (HH1.out.seen k hk).1 h3 (fun x hx => by have:=bU (h5 x hx);unfold maxLen;omega) (fun x _ => h6 x) (by omega))
 have H4:=ah h4
 clear h3 h4 h5 h6 hN hN' HBU
 go_wp2_with fail
 refine HS.out.mono ?_
 rintro e w3 ⟨rfl,hbx,_,⟨X,hx1,hx2⟩,hc⟩
 have HE:Hid (DS O N R M w3 g q { p with pd:=upN p.pd k (.slice none 0 0) } { m with sett:=upN m.sett k (m.seen k) } ∧ Kp O w w3):=ah ⟨HH1.out.settled hk hc ⟨X,hx1.mono (Nat.le_trans H4.out (Nat.le_add_right N R)),hx2⟩ hbx,(Kp.of HB1.out).trans (hc.mono fun b _ e => by
  rcases e with rfl | rfl
  ·exact (HH1.out.off.2.2.1 k hk).2.2
  exact (HH1.out.off.2.2.1 k hk).1)⟩
 clear hbx hx1 hx2 hc HS
 go_wp2_with fail
 go_ret
 exact ⟨rfl,HE.out⟩
theorem Fe (w:World) (h:DS O N R M w g q p m) {k fb:Nat} (hk:k < 3) {x:ByteArray} (hx:aN x = true) (hs:m.seen k x = some fb) :
  Calls prog 115 #[.pointer (some ⟨g,0,none⟩),.string (dirN k),.string x] w fun e w' => e = .returned (.int .i64 0) ∧ DS O N R M w' g q p { m with dat:=upN m.dat fb ((m.dat fb).1,(m.dat fb).1.size) } ∧ Kp O w w':=by
 obtain ⟨W,hW⟩:∃ W,w.alloc (.cells #[.string x] 9) = W:=⟨_,rfl⟩
 have hbW:Below w.heap.size w W:=by rw [← hW];exact bal
 have hcW:W.cell? ⟨w.heap.size,0,none⟩ = some (.string x):=by rw [← hW];exact (str_slice w x).range 0 _ rfl
 have hsz:=bU hx
 have HF:=ah (iL W (h.below hbW) hk (some ⟨w.heap.size,0,none⟩) 1 1 (by have:=lg w.heap.size x W hcW (by omega);rwa [hx] at this))
 have HH:=ah (h.below hbW)
 have HB:=ah hbW
 have HW:=ah hW
 generalize hdn:dirN k = dn at HF ⊢
 clear h hdn hW hbW hcW
 go_enter func115,ntmps115
 go_wp2_with fail
 rw [HW.out]
 refine HF.out.mono ?_
 rintro e w1 ⟨rfl,hb1⟩
 have HH1:=ah (HH.out.below hb1)
 have HB1:=bth HB hb1
 have HBU:=ah (lQ w1 HH1.out)
 have hlk:=(HH1.out.seen k hk).1.look underlying80 (fE w1) (x:=x) (by unfold maxLen;omega)
 rw [hs] at hlk
 dsimp only [Option.map,Option.getD,encP] at hlk
 have c0:w1.cell? ⟨p.dir k,0,none⟩ = some (.map (some (p.sn k))):=BoxL.range (HH1.out.dir k hk) 0 _ rfl
 have hfl:=(HH1.out.file k x fb hk (.inl hs)).1
 have cf:w1.cell? ⟨fb,0,none⟩ = some (.string (m.dat fb).1):=BoxL.range hfl 0 _ rfl
 have cn:=hfl.there 1 (by simp [fiC])
 have cn1:(w1.cell? ⟨fb,1,none⟩).isSome = true:=by have:=cn.1;rwa [Nat.zero_add] at this
 have cn2:w1.frozen? ⟨fb,1,none⟩ = false:=by have:=cn.2;rwa [Nat.zero_add] at this
 obtain ⟨v1,hv1⟩:=Option.isSome_iff_exists.1 cn1
 have HE:Hid (DS O N R M (w1.setCell ⟨fb,1,none⟩ (.int .i64 ((m.dat fb).1.size:Int))) g q p { m with dat:=upN m.dat fb ((m.dat fb).1,(m.dat fb).1.size) } ∧ Kp O w (w1.setCell ⟨fb,1,none⟩ (.int .i64 ((m.dat fb).1.size:Int)))):=ah (by
  have hset:Chg (fun b => b = fb) w1 (w1.setCell ⟨fb,1,none⟩ (.int .i64 ((m.dat fb).1.size:Int))):=⟨rfl,rfl,rfl,by simp [World.setCell],fun j _ hj => Below.heap_setCell _ _ _ _ hj⟩
  have hf:=HH1.out.file k x fb hk (.inl hs)
  exact ⟨HH1.out.data hk hs hset (hfl.put 1 _) hf.2.2.1 (Nat.le_refl _),(Kp.of HB1.out).trans (hset.mono fun b _ e => e ▸ hf.2.1)⟩)
 clear hb1 HF cn cn1 hfl hs hx HH
 go_wp2_with fail
 refine HBU.out.mono ?_
 rintro e w2 ⟨rfl,rfl⟩
 go_wp2_with fail
 go_ret
 exact ⟨rfl,HE.out⟩
end
theorem bgr {a b:World} (h:a.grownBy b none):Below a.heap.size a b:=⟨h.os,h.tape,h.output,h.size,fun k hk => h.block k hk (by simp)⟩
theorem wV {α:Type} [DecidableEq α] (f:α → Nat) {x:α}:∀ {l:List α},l.Nodup → x ∈ l → ((l.filter fun y => decide (y ≠ x)).map f).sum + f x = (l.map f).sum
 | [],_,h => by cases h
 | z :: l,hn,h => by
  rw [List.nodup_cons] at hn
  rw [List.filter_cons]
  by_cases e:z = x
  ·subst e
   rw [if_neg (by simp)]
   have:(l.filter fun y => decide (y ≠ z)) = l:=List.filter_eq_self.2 fun y hy => decide_eq_true (fun e => hn.1 (e ▸ hy))
   rw [this,List.map_cons,List.sum_cons];omega
  rw [if_pos (decide_eq_true e),List.map_cons,List.map_cons,List.sum_cons,List.sum_cons]
  have:=wV f hn.2 ((List.mem_cons.1 h).resolve_left fun h => e h.symm)
  omega
theorem Ay {α:Type} (f:α → Nat) (M:Nat):∀ {l:List α},(∀ x ∈ l,f x ≤ M) → (l.map f).sum ≤ l.length * M
 | [],_ => by simp
 | z :: l,h => by
  have h1:=h z (List.mem_cons_self ..)
  have h2:=Ay f M (l:=l) fun x hx => h x (List.mem_cons_of_mem _ hx)
  rw [List.map_cons,List.sum_cons,List.length_cons,Nat.succ_mul];omega
def wtN (m:Dm) (k:Nat) (x:ByteArray):Nat:=match m.seen k x with
 | some b => (m.dat b).1.size
 | none => 0
def wtD (m:Dm) (Lf:Nat → List ByteArray) (x:ByteArray):Nat:=match bI x with
 | some k => ((Lf k).map (wtN m k)).sum
 | none => 0
def ug:List ByteArray:=[dirN 0,dirN 1,dirN 2]
def totD (m:Dm) (Lf:Nat → List ByteArray):Nat:=(ug.map (wtD m Lf)).sum
section
variable {O:Nat → Prop} {N R M:Nat} {g:Nat} {q:Int} {p:Pl} {m:Dm}
def uM (N:Nat) (m:Dm) (Lf:Nat → List ByteArray):Prop:=∀ k,k < 3 → (Lf k).Nodup ∧ (Lf k).length ≤ N ∧ (∀ x ∈ Lf k,aN x = true) ∧ ∀ x,(m.seen k x).isSome = true ↔ x ∈ Lf k
theorem DS.names {w:World} (h:DS O N R M w g q p m):∃ Lf,uM N m Lf:=by
 obtain ⟨L0,h0⟩:=(h.seen 0 (by omega)).2
 obtain ⟨L1,h1⟩:=(h.seen 1 (by omega)).2
 obtain ⟨L2,h2⟩:=(h.seen 2 (by omega)).2
 refine ⟨fun k => if k = 0 then L0 else if k = 1 then L1 else L2,fun k hk => ?_⟩
 obtain rfl | rfl | rfl:k = 0 ∨ k = 1 ∨ k = 2:=by omega
 ·exact h0
 ·exact h1
 exact h2
theorem F8 {w:World} (h:DS O N R M w g q p m) {Lf:Nat → List ByteArray} (hL:uM N m Lf):totD m Lf ≤ 3 * (N * M):=by
 have hk:∀ k,k < 3 → ((Lf k).map (wtN m k)).sum ≤ N * M:=fun k hk => by
  have:=Ay (wtN m k) M (l:=Lf k) fun x _ => by
   unfold wtN
   cases hs:m.seen k x with
   | none => exact Nat.zero_le _
   | some b => exact (h.file k x b hk (.inl hs)).2.2.1
  exact Nat.le_trans this (Nat.mul_le_mul_right _ (hL k hk).2.1)
 have hd:∀ x ∈ ug,wtD m Lf x ≤ N * M:=fun x _ => by
  unfold wtD
  cases hw:bI x with
  | none => exact Nat.zero_le _
  | some k => exact hk k (dM hw).1
 exact Ay (wtD m Lf) (N * M) hd
theorem Fj (x:ByteArray) (p:Pl):((bI x).map p.dir).isSome = true ↔ x ∈ ug:=by
 unfold ug
 cases hw:bI x with
 | none =>
  simp only [Option.map_none,Option.isSome_none,List.mem_cons,List.not_mem_nil,or_false]
  constructor
  ·intro h;cases h
  rintro (rfl | rfl | rfl) <;> exact absurd hw (by decide)
 | some k =>
  obtain ⟨h1,h2⟩:=dM hw
  obtain rfl | rfl | rfl:k = 0 ∨ k = 1 ∨ k = 2:=by omega
  all_goals simp [h2]
theorem BO (w:World) (h:DS O N R M w g q p m) (Lf:Nat → List ByteArray) (hL:uM N m Lf) (hM:3 * (N * M) ≤ 1000000000) :
  Calls prog 182 #[.pointer (some ⟨g,0,none⟩)] w fun e w' => e = .returned (.int .i64 (totD m Lf:Int)) ∧ Below w.heap.size w w':=by
 have HH:=ah h
 have HLF:=ah hL
 have HT:=ah (Nat.le_trans (F8 h hL) hM)
 have c0:w.cell? ⟨g,0,none⟩ = some (.map (some p.top)):=BoxL.range h.box 0 _ rfl
 obtain ⟨F,hF⟩:∃ F:ByteArray → Option Nat,(fun x => (bI x).map p.dir) = F:=⟨_,rfl⟩
 have HTOP:Hid (MapT encP w p.top 3 F):=ah (by rw [← hF];exact h.top)
 have HF1:Hid (∀ x,(F x).isSome = true ↔ x ∈ ug):=ah fun x => by rw [← hF];exact Fj x p
 have HF2:Hid (∀ x c,F x = some c → ∃ k,k < 3 ∧ bI x = some k ∧ p.dir k = c):=ah fun x c hfx => by
  rw [← hF] at hfx
  dsimp only at hfx
  cases hw:bI x with
  | none => rw [hw] at hfx;cases hfx
  | some k => rw [hw] at hfx;exact ⟨k,(dM hw).1,rfl,Option.some.inj hfx⟩
 clear h hL hM hF
 go_enter func182,ntmps182
 go_wp2_with (refine iC (enc:=encP) rfl _ 75 79 rfl underlying75 p.top 3 F ug rfl HTOP.out (by decide) (by decide) (fun x _ => HF1.out x) ?_)
 intro w2 hrg2 hg2 hs2
 have HB2:Hid (Below w.heap.size w w2):=ah (bgr hg2)
 obtain ⟨r0,hr0⟩:∃ r0,w.heap.size = r0:=⟨_,rfl⟩
 rw [hr0] at hrg2
 have HR2:=ah hrg2
 rw [hr0]
 have HR0:=ah hr0
 clear hrg2 hg2 hs2 hr0
 go_upto_region 5 with fail
 go_loopw [3,5,7] (fun n _ _ wr => ∃ (Lr:List ByteArray) (acc:Nat),n = .int .i64 (acc:Int) ∧ Hid (acc + (Lr.map (wtD m Lf)).sum = totD m Lf) ∧ Hid (RangeT encP wr p.top r0 3 F Lr) ∧ Hid (Below w.heap.size w wr)) (fun _ _ _ wr => wr.rangeLeft p.top r0)
 case atStart => exact ⟨ug,0,rfl,by unfold Hid totD;omega,HR2.out,HB2.out⟩
 obtain ⟨wl,rfl⟩:∃ wl:World,wl = wr:=⟨_,rfl⟩
 obtain ⟨Lr,acc,rfl,HA,HR,HB⟩:=hrel
 have hrg:=HR.out
 go_wp2_with (refine iX (enc:=encP) rfl _ rfl p.top r0 3 F Lr rfl hrg ?_ ?_)
 ·intro hL0
  subst hL0
  clear hrg
  have HE:Hid (acc = totD m Lf):=ah (by simpa using HA.out)
  clear HA HR
  go_wp2_with fail
  go_ret
  exact ⟨by rw [← HE.out];rfl,HB.out⟩
 intro x c w3 hxL hxz hfx hrg3 hlt3 hg3 hs3 hent
 obtain ⟨k,hk,hwk,rfl⟩:=HF2.out x c hfx
 have hb3:Below w.heap.size w w3:=HB.out.grown hg3 HB.out.size (fun j hj => by have h1:=HR0.out;have:=Option.some.inj hj;omega)
 have hh3:=HH.out.below hb3
 have c1:w3.cell? ⟨p.dir k,0,none⟩ = some (.map (some (p.sn k))):=BoxL.range (hh3.dir k hk) 0 _ rfl
 obtain ⟨l1,l2,l3,l4⟩:=HLF.out k hk
 have hep:encP (p.dir k) = .pointer (some ⟨p.dir k,0,none⟩):=rfl
 have HB3:=ah hb3
 have HRG3:=ah hrg3
 have HLT3:=ah hlt3
 have HW:Hid (wtD m Lf x = ((Lf k).map (wtN m k)).sum):=ah (by unfold wtD;rw [hwk])
 have HS:Hid (acc + ((Lr.filter fun y => decide (y ≠ x)).map (wtD m Lf)).sum + ((Lf k).map (wtN m k)).sum = totD m Lf):=ah (by
  have h1:=wV (wtD m Lf) hrg.nodup hxL
  have h2:=HA.out
  have h3:=HW.out
  omega)
 have HM3:=ah (hh3.seen k hk).1
 clear hxL hfx hrg3 hlt3 hg3 hs3 hb3 hh3 hwk hrg HA
 go_wp2_with (refine iC (enc:=encP) rfl _ 80 116 rfl underlying80 (p.sn k) (N + R) (m.seen k) (Lf k) rfl HM3.out l1 (fun y hy => by have:=bU (l3 y hy);unfold maxLen;omega) (fun y _ => l4 y) ?_)
 intro w4 hrg4 hg4 hs4
 obtain ⟨r1,hr1⟩:∃ r1,w3.heap.size = r1:=⟨_,rfl⟩
 rw [hr1] at hrg4
 rw [hr1]
 have HR1:Hid (r0 < r1 ∧ w.heap.size ≤ r1):=ah (by have h1:=HRG3.out.lt;have h2:=HB3.out.size;omega)
 have HRI:=ah hrg4
 have HRO:Hid (RangeT encP w4 p.top r0 3 F (Lr.filter fun y => decide (y ≠ x))):=ah (by have:=HRG3.out.grown hg4 (by simp) (by simp);simpa only [ne_eq,decide_not] using this)
 have HLO:Hid (w4.rangeLeft p.top r0 < wl.rangeLeft p.top r0):=ah (by rw [eH (hg4.block _ HRG3.out.map.lt (by simp)) (hg4.block _ HRG3.out.lt (by simp))];exact HLT3.out)
 have HB4:Hid (Below w.heap.size w w4):=ah (HB3.out.trans ((bgr hg4).mono HB3.out.size))
 have HFI:Hid (∀ y,y ∈ Lf k → aN y = true):=ah l3
 clear hrg4 hg4 hs4 hr1 HRG3 HLT3 HM3 c1 hent hxz l1 l2 l3 l4
 generalize hrest:(Lr.filter fun y => decide (y ≠ x)) = Lr' at HS HRO
 have HRE:=ah hrest
 clear hrest
 go_upto_region 8 with fail
 go_loopw [3,7] (fun n _ wr => ∃ (Ls:List ByteArray) (ac2:Nat),n = .int .i64 (ac2:Int) ∧ Hid (ac2 + (Lr'.map (wtD m Lf)).sum + (Ls.map (wtN m k)).sum = totD m Lf) ∧ Hid (RangeT encP wr (p.sn k) r1 (N + R) (m.seen k) Ls) ∧ Hid (RangeT encP wr p.top r0 3 F Lr') ∧ Hid (wr.rangeLeft p.top r0 < wl.rangeLeft p.top r0) ∧ Hid (Below w.heap.size w wr)) (fun _ _ wr => wr.rangeLeft (p.sn k) r1)
 case atStart => exact ⟨Lf k,acc,rfl,HS.out,HRI.out,HRO.out,HLO.out,HB4.out⟩
 obtain ⟨wi,rfl⟩:∃ wi:World,wi = wr:=⟨_,rfl⟩
 obtain ⟨Ls,ac2,rfl,HA2,HI,HO,HL,HBI⟩:=hrel
 have hrgi:=HI.out
 go_wp2_with (refine iX (enc:=encP) rfl _ rfl (p.sn k) r1 (N + R) (m.seen k) Ls rfl hrgi ?_ ?_)
 ·intro hL0
  subst hL0
  clear hrgi
  have HE:Hid (ac2 + (Lr'.map (wtD m Lf)).sum = totD m Lf):=ah (by simpa using HA2.out)
  clear HA2 HI
  go_wp2_with fail
  go_roundw
  case rel => exact ⟨Lr',ac2,rfl,HE.out,HO.out,HBI.out⟩
  case measure => exact HL.out
 intro y fb w5 hyL hyz hfy hrg5 hlt5 hg5 hs5 hent5
 have hne0:some r0 ≠ some r1:=fun e => by have h1:=HR1.out.1;have:=Option.some.inj e;omega
 have hnet:some p.top ≠ some r1:=fun e => by have h1:=HR1.out.2;have h2:=HTOP.out.lt;have:=Option.some.inj e;omega
 have hb5:Below w.heap.size w w5:=HBI.out.grown hg5 HBI.out.size (fun j hj => by have h1:=HR1.out.2;have:=Option.some.inj hj;omega)
 have HO5:=ah (HO.out.grown hg5 hnet hne0)
 have HL5:Hid (w5.rangeLeft p.top r0 < wl.rangeLeft p.top r0):=ah (by rw [eH (hg5.block _ HO.out.map.lt hnet) (hg5.block _ HO.out.lt hne0)];exact HL.out)
 have hfl:=((HH.out.below hb5).file k y fb hk (.inl hfy)).1
 have cf:w5.cell? ⟨fb,0,none⟩ = some (.string (m.dat fb).1):=BoxL.range hfl 0 _ rfl
 have hep2:encP fb = .pointer (some ⟨fb,0,none⟩):=rfl
 have HS5:Hid (ac2 + (m.dat fb).1.size + (Lr'.map (wtD m Lf)).sum + ((Ls.filter fun z => decide (z ≠ y)).map (wtN m k)).sum = totD m Lf):=ah (by
  have h1:=wV (wtN m k) hrgi.nodup hyL
  have h2:=HA2.out
  have h3:wtN m k y = (m.dat fb).1.size:=by unfold wtN;rw [hfy]
  omega)
 have hbd:ac2 + (m.dat fb).1.size ≤ 1000000000:=by have h1:=HS5.out;have h2:=HT.out;omega
 have HI5:Hid (RangeT encP w5 (p.sn k) r1 (N + R) (m.seen k) (Ls.filter fun z => decide (z ≠ y))):=ah (by simpa only [ne_eq,decide_not] using hrg5)
 have HLT5:=ah hlt5
 have HB5:=ah hb5
 have wr1:IntKind.i64.wrap ((ac2:Int) + ((m.dat fb).1.size:Int)) = (ac2:Int) + ((m.dat fb).1.size:Int):=IntWalk.i64_in _ (by omega)
 clear hne0 hnet hb5 hfl hrgi hyL hfy hrg5 hlt5 hg5 hs5 hyz HI HA2 HL HO HBI
 generalize (m.dat fb).1 = sb at cf HS5 hbd wr1
 go_wp2_with fail
 go_roundw
 case rel => exact ⟨_,ac2 + sb.size,by simp,HS5.out,HI5.out,HO5.out,HL5.out,HB5.out⟩
 case measure => exact HLT5.out
theorem zY (w:World) (h:DS O N R M w g q p m) {k fb:Nat} (hk:k < 3) {x:ByteArray} (hx:aN x = true) (hs:m.seen k x = some fb) (s:ByteArray) (hM:(m.dat fb).1.size + s.size ≤ M) (hM2:M ≤ 1048576) (hq:3 * (N * M) + s.size ≤ q) (hq2:q ≤ 1000000000) :
  Calls prog 113 #[.pointer (some ⟨g,0,none⟩),.string (dirN k),.string x,.string s] w fun e w' => e = .returned (.int .i64 0) ∧ DS O N R M w' g q p { m with dat:=upN m.dat fb ((m.dat fb).1 ++ s,(m.dat fb).2) } ∧ Kp O w w':=by
 obtain ⟨W,hW⟩:∃ W,w.alloc (.cells #[.string x] 9) = W:=⟨_,rfl⟩
 have hbW:Below w.heap.size w W:=by rw [← hW];exact bal
 have hcW:W.cell? ⟨w.heap.size,0,none⟩ = some (.string x):=by rw [← hW];exact (str_slice w x).range 0 _ rfl
 have hsz:=bU hx
 have HF:=ah (iL W (h.below hbW) hk (some ⟨w.heap.size,0,none⟩) 1 1 (by have:=lg w.heap.size x W hcW (by omega);rwa [hx] at this))
 have HH:=ah (h.below hbW)
 have HB:=ah hbW
 have HW:=ah hW
 obtain ⟨Lf,hLf⟩:=h.names
 obtain ⟨tot,htot⟩:∃ n,totD m Lf = n:=⟨_,rfl⟩
 have htl:=F8 h hLf
 rw [htot] at htl
 have HUC:Hid (∀ W,DS O N R M W g q p m → Calls prog 182 #[.pointer (some ⟨g,0,none⟩)] W fun e w' => e = .returned (.int .i64 (tot:Int)) ∧ Below W.heap.size W w'):=ah fun W hW => by rw [← htot];exact BO W hW Lf hLf (by omega)
 generalize hdn:dirN k = dn at HF ⊢
 clear h hdn hW hbW hcW hLf htot
 go_enter func113,ntmps113
 go_wp2_with fail
 rw [HW.out]
 refine HF.out.mono ?_
 rintro e w1 ⟨rfl,hb1⟩
 have HH1:=ah (HH.out.below hb1)
 have HB1:=bth HB hb1
 have hlk:=(HH1.out.seen k hk).1.look underlying80 (fE w1) (x:=x) (by unfold maxLen;omega)
 rw [hs] at hlk
 dsimp only [Option.map,Option.getD,encP] at hlk
 have c0:w1.cell? ⟨p.dir k,0,none⟩ = some (.map (some (p.sn k))):=BoxL.range (HH1.out.dir k hk) 0 _ rfl
 have cq:w1.cell? ⟨g,1,none⟩ = some (.int .i64 q):=BoxL.range HH1.out.box 1 _ rfl
 have hgl:=BoxL.lt HH1.out.box
 have hfl:=(HH1.out.file k x fb hk (.inl hs)).1
 have hfbl:=BoxL.lt hfl
 have cf:w1.cell? ⟨fb,0,none⟩ = some (.string (m.dat fb).1):=BoxL.range hfl 0 _ rfl
 have hd2:=(HH1.out.file k x fb hk (.inl hs)).2.2.2
 have HE:Hid (∀ W,Below w1.heap.size w1 W → W.cell? ⟨fb,0,none⟩ = some (.string (m.dat fb).1) ∧ W.frozen? ⟨fb,0,none⟩ = false ∧ DS O N R M (W.setCell ⟨fb,0,none⟩ (.string ((m.dat fb).1 ++ s))) g q p { m with dat:=upN m.dat fb ((m.dat fb).1 ++ s,(m.dat fb).2) } ∧ Kp O w (W.setCell ⟨fb,0,none⟩ (.string ((m.dat fb).1 ++ s)))):=ah fun W hbW => by
  have hset:Chg (fun b => b = fb) W (W.setCell ⟨fb,0,none⟩ (.string ((m.dat fb).1 ++ s))):=⟨rfl,rfl,rfl,by simp [World.setCell],fun j _ hj => Below.heap_setCell _ _ _ _ hj⟩
  have hf:=(HH1.out.below hbW).file k x fb hk (.inl hs)
  have hth:=hf.1.there 0 (by simp [fiC])
  refine ⟨BoxL.range hf.1 0 _ rfl,by have:=hth.2;rwa [Nat.zero_add] at this,(HH1.out.below hbW).data hk hs hset (hf.1.put 0 _) ?_ ?_,(Kp.of (bth HB1 hbW).out).trans (hset.mono fun b _ e => e ▸ hf.2.1)⟩
  ·show ((m.dat fb).1 ++ s).size ≤ M
   rw [ByteArray.size_append];exact hM
  show (m.dat fb).2 ≤ ((m.dat fb).1 ++ s).size
  rw [ByteArray.size_append];omega
 have HBU:=ah (fun W (hb:Below w1.heap.size w1 W) => lQ W (HH1.out.below hb))
 have HUS:=ah (fun W (hb:Below w1.heap.size w1 W) => HUC.out W (HH1.out.below hb))
 clear hb1 HF hfl hs hx HH hd2 HUC
 generalize hfd:(m.dat fb).1 = fd at cf HE hM
 have HFD:=ah hfd
 clear hfd
 have q1:IntKind.i64.wrap (1048576 - (fd.size:Int)) = 1048576 - (fd.size:Int):=IntWalk.i64_in _ (by omega)
 have q2:decide (1048576 - (fd.size:Int) < (s.size:Int)) = false:=decide_eq_false (by omega)
 have q3:decide (q < (tot:Int)) = false:=decide_eq_false (by omega)
 have q4:IntKind.i64.wrap (q - (tot:Int)) = q - (tot:Int):=IntWalk.i64_in _ (by omega)
 have q5:decide (q - (tot:Int) < (s.size:Int)) = false:=decide_eq_false (by omega)
 go_upto_region 7 with fail
 have HUQ:=fun x:BW w1.heap.size w1 => HUS.out x.out x.hb
 refine wbq ?_
 have LQ0:=blq cq
 have LQ1:=blq cf
 repeat (go_big_quiet_step ((go_at_call 182;with_reducible exact ay (HUQ _))))
 refine wpQuiet_nil ?_
 intro wq hbq
 clear LQ0 LQ1
 clear HUQ q2 q3 q5
 obtain ⟨cfq,cff,HD⟩:=HE.out wq hbq
 have HDD:=ah HD
 have HBQ:=ah (HBU.out wq hbq)
 clear HD HE HBU HUS cf cq hlk c0 q1 q4
 go_wp2_with fail
 refine HBQ.out.mono ?_
 rintro e w2 ⟨rfl,rfl⟩
 go_wp2_with fail
 go_ret
 rw [HFD.out]
 exact ⟨rfl,HDD.out⟩
end
def VAns (O:Nat → Prop) (N R M:Nat) (g:Nat) (q:Int) (L:LK) (sy:Nat → Bool) (w:World) (e:Ending) (w':World):Prop:=e = .returned (.int .i64 0) ∧ DV O N R M w' g q L sy ∧ Kp O w w'
section
variable {O:Nat → Prop} {N R M:Nat} {w:World} {g:Nat} {q:Int} {L:LK} {sy:Nat → Bool} {k:Nat} {x:ByteArray}
theorem oQ {m:Dm} {v:ByteArray × Nat} (h:(m.seen k x).map m.dat = some v):∃ b,m.seen k x = some b ∧ m.dat b = v:=by
 cases hs:m.seen k x with
 | none => rw [hs] at h;cases h
 | some b => rw [hs] at h;exact ⟨b,rfl,Option.some.inj h⟩
theorem yx (h:DV O N R M w g q L sy) (hk:k < 3) (hN:N + R ≤ 1000000) (hx:aN x = true) (hs:L k x = none) :
  Calls prog 293 #[.pointer (some ⟨g,0,none⟩),.string (dirN k),.string x] w (VAns O (N + 1) (R + 1) M g q (L.put k x (some (⟨#[]⟩,0))) (upN sy k false) w):=by
 obtain ⟨p,m,h1,h2,h3⟩:=h
 have hs2:m.seen k x = none:=by
  have:=h2 k x hk
  rw [hs] at this
  cases he:m.seen k x with
  | none => rfl
  | some b => rw [he] at this;cases this
 refine (zX w h1 hk hN hx hs2).mono ?_
 rintro e w' ⟨rfl,pv,fb,hfb,h4,h5⟩
 refine ⟨rfl,⟨_,_,h4,fun j y hj => ?_,fun j hj hy => ?_⟩,h5⟩
 ·show LK.put L k x _ j y = (upN m.seen k (crF (m.seen k) x fb) j y).map (upN m.dat fb (⟨#[]⟩,0))
  have hold:(m.seen j y).map (upN m.dat fb (⟨#[]⟩,0)) = L j y:=by
   rw [h2 j y hj]
   cases he:m.seen j y with
   | none => rfl
   | some b => exact congrArg some (aD (by have:=BoxL.lt (h1.file j y b hj (.inl he)).1;omega))
  by_cases a:j = k
  ·subst a
   rw [aJ]
   unfold crF
   by_cases b:y = x
   ·subst b;rw [LK.bF,if_pos rfl];exact congrArg some (aJ ..).symm
   rw [LK.aI (fun h => b h.2),if_neg b,hold]
  rw [aD a,LK.aI (fun h => a h.1),hold]
 show m.sett j = upN m.seen k (crF (m.seen k) x fb) j
 by_cases a:j = k
 ·rw [a,aJ] at hy;cases hy
 rw [aD a] at hy ⊢;exact h3 j hj hy
theorem CV {p:Pl} {m:Dm} {b:Nat} {v:ByteArray × Nat} (h1:DS O N R M w g q p m) (h2:∀ j y,j < 3 → L j y = (m.seen j y).map m.dat) (hk:k < 3) (hb:m.seen k x = some b) (j:Nat) (y:ByteArray) (hj:j < 3):LK.put L k x (some v) j y = (m.seen j y).map (upN m.dat b v):=by
 by_cases a:j = k ∧ y = x
 ·obtain ⟨rfl,rfl⟩:=a
  rw [LK.bF,hb]
  exact congrArg some (aJ ..).symm
 rw [LK.aI a,h2 j y hj]
 cases he:m.seen j y with
 | none => rfl
 | some c => exact congrArg some (aD (fun e => a (by subst e;exact h1.one j k y x _ hj hk he hb))).symm
theorem pK {d:ByteArray × Nat} (h:DV O N R M w g q L sy) (hk:k < 3) (hx:aN x = true) (hs:L k x = some d) (s:ByteArray) (hM:d.1.size + s.size ≤ M) (hM2:M ≤ 1048576) (hq:3 * (N * M) + s.size ≤ q) (hq2:q ≤ 1000000000) :
  Calls prog 113 #[.pointer (some ⟨g,0,none⟩),.string (dirN k),.string x,.string s] w (VAns O N R M g q (L.put k x (some (d.1 ++ s,d.2))) sy w):=by
 obtain ⟨p,m,h1,h2,h3⟩:=h
 obtain ⟨b,hb,rfl⟩:=oQ ((h2 k x hk).symm.trans hs)
 refine (zY w h1 hk hx hb s hM hM2 hq hq2).mono ?_
 rintro e w' ⟨rfl,h4,h5⟩
 exact ⟨rfl,⟨_,_,h4,fun j y hj => CV h1 h2 hk hb j y hj,h3⟩,h5⟩
theorem oO {d:ByteArray × Nat} (h:DV O N R M w g q L sy) (hk:k < 3) (hx:aN x = true) (hs:L k x = some d) :
  Calls prog 115 #[.pointer (some ⟨g,0,none⟩),.string (dirN k),.string x] w (VAns O N R M g q (L.put k x (some (d.1,d.1.size))) sy w):=by
 obtain ⟨p,m,h1,h2,h3⟩:=h
 obtain ⟨b,hb,rfl⟩:=oQ ((h2 k x hk).symm.trans hs)
 refine (Fe w h1 hk hx hb).mono ?_
 rintro e w' ⟨rfl,h4,h5⟩
 exact ⟨rfl,⟨_,_,h4,fun j y hj => CV h1 h2 hk hb j y hj,h3⟩,h5⟩
theorem yw {y:ByteArray} {d:ByteArray × Nat} (h:DV O N R M w g q L sy) (hk:k < 3) (hN:N + R ≤ 1000000) (hx:aN x = true) (hy:aN y = true) (hne:x ≠ y) (hs:L k x = some d) :
  Calls prog 294 #[.pointer (some ⟨g,0,none⟩),.string (dirN k),.string x,.string y] w (VAns O N (R + 1) M g q ((L.put k y (some d)).put k x none) (upN sy k false) w):=by
 obtain ⟨p,m,h1,h2,h3⟩:=h
 obtain ⟨b,hb,rfl⟩:=oQ ((h2 k x hk).symm.trans hs)
 refine (zW w h1 hk hN hx hy hne hb).mono ?_
 rintro e w' ⟨rfl,pv,h4,h5⟩
 refine ⟨rfl,⟨_,_,h4,fun j z hj => ?_,fun j hj hz => ?_⟩,h5⟩
 ·show LK.put _ k x none j z = (upN m.seen k (rnF (m.seen k) x y) j z).map m.dat
  by_cases a:j = k
  ·subst a
   rw [aJ]
   unfold rnF
   by_cases e1:z = x
   ·subst e1
    rw [LK.bF,if_neg hne,if_pos rfl];rfl
   rw [LK.aI (fun h => e1 h.2)]
   by_cases e2:z = y
   ·subst e2;rw [LK.bF,if_pos rfl,hb];rfl
   rw [LK.aI (fun h => e2 h.2),if_neg e2,if_neg e1,h2 j z hj]
  rw [aD a,LK.aI (fun h => a h.1),LK.aI (fun h => a h.1),h2 j z hj]
 show m.sett j = upN m.seen k (rnF (m.seen k) x y) j
 by_cases a:j = k
 ·rw [a,aJ] at hz;cases hz
 rw [aD a] at hz ⊢;exact h3 j hj hz
theorem vB (h:DV O N R M w g q L sy) (hk:k < 3) (hN:N ≤ 1000000):Calls prog 181 #[.pointer (some ⟨g,0,none⟩),.string (dirN k)] w (VAns O N R M g q L (upN sy k true) w):=by
 obtain ⟨p,m,h1,h2,h3⟩:=h
 refine (Fg w h1 hk hN).mono ?_
 rintro e w' ⟨rfl,h4,h5⟩
 refine ⟨rfl,⟨_,_,h4,h2,fun j hj hz => ?_⟩,h5⟩
 show upN m.sett k (m.seen k) j = m.seen j
 by_cases a:j = k
 ·rw [a,aJ]
 rw [aD a] at hz ⊢;exact h3 j hj hz
end
def tmpN (x:ByteArray):ByteArray:=x ++ ⟨#[46,116,109,112]⟩
def Jd (v:Option (ByteArray × Nat)) (w:World) (e:Ending) (w':World):Prop:=e = .returned (.tuple #[.string (v.elim ⟨#[]⟩ (·.1)),.int .i64 (v.elim 6 fun _ => 0)]) ∧ Below w.heap.size w w'
theorem rG {nm:ByteArray} (h:aN (tmpN nm) = true):nm.size ≤ 76:=by
 have:=bU h
 unfold tmpN at this
 rw [ByteArray.size_append] at this
 have e:(⟨#[46,116,109,112]⟩:ByteArray).size = 4:=rfl
 omega
def tkC (k:Nat) (nm data:ByteArray) (lt:Bool) (nx:Nat) (made en:Bool):List Value:=[.string (dirN k),.string nm,.string data,.bool lt,.int .i64 (nx:Int),.bool made,.bool en]
def TkB (w:World) (tb k:Nat) (nm data:ByteArray) (lt:Bool) (nx:Nat) (made en:Bool):Prop:=BoxL w tb 274 (tkC k nm data lt nx made en)
structure Own1 (O O1:Nat → Prop) (tb:Nat):Prop where
 own:O1 tb
 sub:∀ b,O b → O1 b
 off:¬ O tb
section
variable {O O1:Nat → Prop} {N R M:Nat} {w:World} {g tb:Nat} {q:Int} {L:LK} {sy:Nat → Bool} {k:Nat} {nm data:ByteArray} {lt made:Bool} {nx:Nat}
theorem oP {x:ByteArray} (h:DV O N R M w g q L sy) (hk:k < 3) (hN:N + R ≤ 1000000) (hx:aN x = true):Calls prog 71 #[.pointer (some ⟨g,0,none⟩),.string (dirN k),.string x] w (Jd (L k x) w):=by
 obtain ⟨d,h1,h2⟩:=h.at hN
 refine (qh g d (dirN k) x w h1 (by have:=nY (k:=k);unfold dirN;split <;> (try split) <;> decide) (by have:=bU hx;omega)).mono ?_
 rintro e w' ⟨rfl,hb⟩
 refine ⟨?_,hb⟩
 unfold rdD
 rw [hx,if_pos rfl,fF hk]
 dsimp only
 rw [h2 k x hk]
 unfold LK.dk
 cases L k x <;> rfl
def qw (O O1:Nat → Prop) (N R M:Nat) (g:Nat) (q:Int) (L:LK) (sy:Nat → Bool) (tb k:Nat) (nm data:ByteArray) (lt:Bool) (nx:Nat) (made did:Bool) (w:World) (e:Ending) (w':World):Prop :=
 e = .returned (.tuple #[.bool did,.int .i64 0]) ∧ DV O1 N R M w' g q L sy ∧ TkB w' tb k nm data lt nx made false ∧ Kp O w w'
theorem sG (h:DV O1 N R M w g q L sy) (hk:k < 3) (hN:N + R ≤ 1000000) (ht:TkB w tb k nm data lt nx made false) (hx:aN (tmpN nm) = true) (hs:L k (tmpN nm) = none) :
  Calls prog 264 #[.pointer (some ⟨tb,0,none⟩),.pointer (some ⟨g,0,none⟩)] w (qw O O1 N R M g q L sy tb k nm data lt nx made false w):=by
 have HT:=ah ht
 have HH:=ah h
 have HRD:Hid (∀ W,Below w.heap.size w W → Calls prog 71 #[.pointer (some ⟨g,0,none⟩),.string (dirN k),.string (tmpN nm)] W fun e w' => e = .returned (.tuple #[.string ⟨#[]⟩,.int .i64 6]) ∧ Below W.heap.size W w'):=ah fun W hb => by
  have:=oP (h.below hb) hk hN hx
  rw [hs] at this
  exact this
 have c0:w.cell? ⟨tb,0,none⟩ = some (.string (dirN k)):=BoxL.range ht 0 _ rfl
 have c1:w.cell? ⟨tb,1,none⟩ = some (.string nm):=BoxL.range ht 1 _ rfl
 have htl:=BoxL.lt ht
 have hnz:=rG hx
 unfold tmpN at HRD
 generalize hdn:dirN k = dn at HRD c0
 clear h ht hs hx hdn
 go_enter func264,ntmps264
 go_upto_region 1 with fail
 have HRQ:=fun x:BW w.heap.size w => HRD.out x.out x.hb
 refine wbq ?_
 have LQ0:=blq c0
 have LQ1:=blq c1
 repeat (go_big_quiet_step ((go_at_call 71;with_reducible exact ay (HRQ _))))
 refine wpQuiet_nil ?_
 intro wq hbq
 clear LQ0 LQ1
 go_wp2_with fail
 go_ret2
 exact ⟨rfl,HH.out.below hbq,HT.out.below hbq,Kp.of hbq⟩
theorem ny {O O1:Nat → Prop} {w w':World} {tb:Nat} {t:TypeId} {cs:List Value} (hb:BoxL w tb t cs) (hk:Kp O1 w w') (ho:Own1 O O1 tb):BoxL w' tb t cs:=(hk.block hb.lt ho.own).trans hb
theorem sV {O O1:Nat → Prop} {w w':World} {tb:Nat} (hk:Kp O1 w w') (ho:Own1 O O1 tb):Kp O w w':=hk.sub fun b _ h => ho.sub b h
theorem kM {O O1:Nat → Prop} {w:World} {tb:Nat} (ho:Own1 O O1 tb) (i:Nat) (v:Value):Kp O w (w.setCell ⟨tb,i,none⟩ v):=⟨rfl,rfl,rfl,by simp [World.setCell],fun j _ hj => Below.heap_setCell _ _ _ _ (fun e => hj (fun h => ho.off ((show j = tb from e) ▸ h)))⟩
theorem bM {w:World} {b i:Nat} {v:Value}:Chg (fun j => j = b) w (w.setCell ⟨b,i,none⟩ v):=⟨rfl,rfl,rfl,by simp [World.setCell],fun j _ hj => Below.heap_setCell _ _ _ _ hj⟩
theorem pW (h:DV O1 N R M w g q L sy) (hk:k < 3) (hN:N + R ≤ 1000000) (ht:TkB w tb k nm data lt nx made false) (ho:Own1 O O1 tb) (hx:aN (tmpN nm) = true) (hs:L k (tmpN nm) = none) :
  Calls prog 265 #[.pointer (some ⟨tb,0,none⟩),.pointer (some ⟨g,0,none⟩)] w (qw O O1 (N + 1) (R + 1) M g q (L.put k (tmpN nm) (some (⟨#[]⟩,0))) (upN sy k false) tb k nm data lt nx true true w):=by
 have HT:=ah ht
 have HO:=ah ho
 have HC:Hid (∀ W,Below w.heap.size w W → Calls prog 293 #[.pointer (some ⟨g,0,none⟩),.string (dirN k),.string (tmpN nm)] W (VAns O1 (N + 1) (R + 1) M g q (L.put k (tmpN nm) (some (⟨#[]⟩,0))) (upN sy k false) W)):=ah fun W hb => yx (h.below hb) hk hN hx hs
 have c0:w.cell? ⟨tb,0,none⟩ = some (.string (dirN k)):=BoxL.range ht 0 _ rfl
 have c1:w.cell? ⟨tb,1,none⟩ = some (.string nm):=BoxL.range ht 1 _ rfl
 have htl:=BoxL.lt ht
 have hnz:=rG hx
 obtain ⟨tn,htn⟩:∃ tn,tmpN nm = tn:=⟨_,rfl⟩
 rw [htn] at HC ⊢
 have htn2:nm ++ ⟨#[46,116,109,112]⟩ = tn:=htn
 generalize hdn:dirN k = dn at HC c0
 clear h ht hs hx hdn ho htn
 go_enter func265,ntmps265
 go_upto_region 1 with fail
 refine aZ 10 (by kernel_rfl) (by kernel_rfl) ?_
 simp only [List.take_succ_cons,List.take_zero,List.drop_succ_cons,List.drop_zero]
 have LQ0:=blq c0
 have LQ1:=blq c1
 repeat (go_big_quiet_step (fail))
 refine wpQuiet_nil ?_
 intro wq hbq
 clear LQ0 LQ1
 clear c0 c1
 go_wp2_with fail
 refine (HC.out wq hbq).mono ?_
 rintro e w1 ⟨rfl,hv,hkp⟩
 have hb1:=ny (HT.out.below hbq) hkp HO.out
 have hth:=hb1.there 5 (by simp [tkC])
 rw [Nat.zero_add] at hth
 have ht1:=hth.1
 have ht2:=hth.2
 obtain ⟨v0,hv0⟩:=Option.isSome_iff_exists.1 ht1
 have HE:Hid (DV O1 (N + 1) (R + 1) M (w1.setCell ⟨tb,5,none⟩ (.bool true)) g q (L.put k tn (some (⟨#[]⟩,0))) (upN sy k false) ∧ TkB (w1.setCell ⟨tb,5,none⟩ (.bool true)) tb k nm data lt nx true false ∧ Kp O w (w1.setCell ⟨tb,5,none⟩ (.bool true))) :=
  ah ⟨hv.chg bM (fun b e => e ▸ HO.out.own),hb1.put 5 _,((Kp.of hbq).trans (sV hkp HO.out)).trans (kM HO.out 5 _)⟩
 clear hv hkp hb1 hth ht1 HT HC
 go_wp2_with fail
 go_ret2
 exact ⟨rfl,HE.out⟩
theorem pX {d:ByteArray × Nat} (h:DV O1 N R M w g q L sy) (hk:k < 3) (ht:TkB w tb k nm data lt nx made false) (ho:Own1 O O1 tb) (hx:aN (tmpN nm) = true) (hs:L k (tmpN nm) = some d) (hM:d.1.size + data.size ≤ M) (hM2:M ≤ 1048576) (hq:3 * (N * M) + data.size ≤ q) (hq2:q ≤ 1000000000) :
  Calls prog 266 #[.pointer (some ⟨tb,0,none⟩),.pointer (some ⟨g,0,none⟩)] w (qw O O1 N R M g q (L.put k (tmpN nm) (some (d.1 ++ data,d.2))) sy tb k nm data lt nx made true w):=by
 have HT:=ah ht
 have HO:=ah ho
 have HC:Hid (∀ W,Below w.heap.size w W → Calls prog 113 #[.pointer (some ⟨g,0,none⟩),.string (dirN k),.string (tmpN nm),.string data] W (VAns O1 N R M g q (L.put k (tmpN nm) (some (d.1 ++ data,d.2))) sy W)):=ah fun W hb => pK (h.below hb) hk hx hs data hM hM2 hq hq2
 have c0:w.cell? ⟨tb,0,none⟩ = some (.string (dirN k)):=BoxL.range ht 0 _ rfl
 have c1:w.cell? ⟨tb,1,none⟩ = some (.string nm):=BoxL.range ht 1 _ rfl
 have c2:w.cell? ⟨tb,2,none⟩ = some (.string data):=BoxL.range ht 2 _ rfl
 have htl:=BoxL.lt ht
 have hnz:=rG hx
 obtain ⟨tn,htn⟩:∃ tn,tmpN nm = tn:=⟨_,rfl⟩
 rw [htn] at HC ⊢
 have htn2:nm ++ ⟨#[46,116,109,112]⟩ = tn:=htn
 generalize hdn:dirN k = dn at HC c0
 clear h ht hs hx hdn ho htn hM hM2 hq hq2
 go_enter func266,ntmps266
 go_upto_region 1 with fail
 refine aZ 14 (by kernel_rfl) (by kernel_rfl) ?_
 simp only [List.take_succ_cons,List.take_zero,List.drop_succ_cons,List.drop_zero]
 have LQ0:=blq c0
 have LQ1:=blq c1
 have LQ2:=blq c2
 repeat (go_big_quiet_step (fail))
 refine wpQuiet_nil ?_
 intro wq hbq
 clear LQ0 LQ1 LQ2
 clear c0 c1 c2
 go_wp2_with fail
 refine (HC.out wq hbq).mono ?_
 rintro e w1 ⟨rfl,hv,hkp⟩
 have HE:=ah (And.intro hv (And.intro (ny (HT.out.below hbq) hkp HO.out) ((Kp.of (O:=O) hbq).trans (sV hkp HO.out))))
 clear hv hkp HT HC
 go_wp2_with fail
 go_ret2
 exact ⟨rfl,HE.out⟩
theorem AY (h:DV O1 N R M w g q L sy) (ht:TkB w tb k nm data true nx made false) :
  Calls prog 267 #[.pointer (some ⟨tb,0,none⟩),.pointer (some ⟨g,0,none⟩)] w (qw O O1 N R M g q L sy tb k nm data true nx made false w):=by
 have HE:Hid (DV O1 N R M w g q L sy ∧ TkB w tb k nm data true nx made false ∧ Kp O w w):=ah ⟨h,ht,Kp.refl _ _⟩
 have c3:w.cell? ⟨tb,3,none⟩ = some (.bool true):=BoxL.range ht 3 _ rfl
 clear h ht
 go_enter func267,ntmps267
 go_wp2_with fail
 go_ret2
 exact ⟨rfl,HE.out⟩
theorem D7 {d:ByteArray × Nat} (h:DV O1 N R M w g q L sy) (hk:k < 3) (ht:TkB w tb k nm data false nx made false) (ho:Own1 O O1 tb) (hx:aN (tmpN nm) = true) (hs:L k (tmpN nm) = some d) :
  Calls prog 267 #[.pointer (some ⟨tb,0,none⟩),.pointer (some ⟨g,0,none⟩)] w (qw O O1 N R M g q (L.put k (tmpN nm) (some (d.1,d.1.size))) sy tb k nm data false nx made true w):=by
 have HT:=ah ht
 have HO:=ah ho
 have HC:Hid (∀ W,Below w.heap.size w W → Calls prog 115 #[.pointer (some ⟨g,0,none⟩),.string (dirN k),.string (tmpN nm)] W (VAns O1 N R M g q (L.put k (tmpN nm) (some (d.1,d.1.size))) sy W)):=ah fun W hb => oO (h.below hb) hk hx hs
 have c0:w.cell? ⟨tb,0,none⟩ = some (.string (dirN k)):=BoxL.range ht 0 _ rfl
 have c1:w.cell? ⟨tb,1,none⟩ = some (.string nm):=BoxL.range ht 1 _ rfl
 have c3:w.cell? ⟨tb,3,none⟩ = some (.bool false):=BoxL.range ht 3 _ rfl
 have htl:=BoxL.lt ht
 have hnz:=rG hx
 obtain ⟨tn,htn⟩:∃ tn,tmpN nm = tn:=⟨_,rfl⟩
 rw [htn] at HC ⊢
 have htn2:nm ++ ⟨#[46,116,109,112]⟩ = tn:=htn
 generalize hdn:dirN k = dn at HC c0
 clear h ht hs hx hdn ho htn
 go_enter func267,ntmps267
 go_upto_region 3 with fail
 refine aZ 10 (by kernel_rfl) (by kernel_rfl) ?_
 simp only [List.take_succ_cons,List.take_zero,List.drop_succ_cons,List.drop_zero]
 have LQ0:=blq c0
 have LQ1:=blq c1
 repeat (go_big_quiet_step (fail))
 refine wpQuiet_nil ?_
 intro wq hbq
 clear LQ0 LQ1
 clear c0 c1 c3
 go_wp2_with fail
 refine (HC.out wq hbq).mono ?_
 rintro e w1 ⟨rfl,hv,hkp⟩
 have HE:=ah (And.intro hv (And.intro (ny (HT.out.below hbq) hkp HO.out) ((Kp.of (O:=O) hbq).trans (sV hkp HO.out))))
 clear hv hkp HT HC
 go_wp2_with fail
 go_ret2
 exact ⟨rfl,HE.out⟩
theorem pV {d:ByteArray × Nat} (h:DV O1 N R M w g q L sy) (hk:k < 3) (hN:N + R ≤ 1000000) (ht:TkB w tb k nm data lt nx made false) (ho:Own1 O O1 tb) (hx:aN (tmpN nm) = true) (hy:aN nm = true) (hs:L k (tmpN nm) = some d) :
  Calls prog 268 #[.pointer (some ⟨tb,0,none⟩),.pointer (some ⟨g,0,none⟩)] w (qw O O1 N (R + 1) M g q ((L.put k nm (some d)).put k (tmpN nm) none) (upN sy k false) tb k nm data lt nx false true w):=by
 have HT:=ah ht
 have HO:=ah ho
 have hne:tmpN nm ≠ nm:=fun e => by
  have:=congrArg ByteArray.size e
  unfold tmpN at this
  rw [ByteArray.size_append] at this
  have e:(⟨#[46,116,109,112]⟩:ByteArray).size = 4:=rfl
  omega
 have HC:Hid (∀ W,Below w.heap.size w W → Calls prog 294 #[.pointer (some ⟨g,0,none⟩),.string (dirN k),.string (tmpN nm),.string nm] W (VAns O1 N (R + 1) M g q ((L.put k nm (some d)).put k (tmpN nm) none) (upN sy k false) W)):=ah fun W hb => yw (h.below hb) hk hN hx hy hne hs
 have c0:w.cell? ⟨tb,0,none⟩ = some (.string (dirN k)):=BoxL.range ht 0 _ rfl
 have c1:w.cell? ⟨tb,1,none⟩ = some (.string nm):=BoxL.range ht 1 _ rfl
 have htl:=BoxL.lt ht
 have hnz:=rG hx
 obtain ⟨tn,htn⟩:∃ tn,tmpN nm = tn:=⟨_,rfl⟩
 rw [htn] at HC ⊢
 have htn2:nm ++ ⟨#[46,116,109,112]⟩ = tn:=htn
 generalize hdn:dirN k = dn at HC c0
 clear h ht hs hx hy hdn ho htn hne
 go_enter func268,ntmps268
 go_upto_region 1 with fail
 refine aZ 14 (by kernel_rfl) (by kernel_rfl) ?_
 simp only [List.take_succ_cons,List.take_zero,List.drop_succ_cons,List.drop_zero]
 have LQ0:=blq c0
 have LQ1:=blq c1
 repeat (go_big_quiet_step (fail))
 refine wpQuiet_nil ?_
 intro wq hbq
 clear LQ0 LQ1
 clear c0 c1
 go_wp2_with fail
 refine (HC.out wq hbq).mono ?_
 rintro e w1 ⟨rfl,hv,hkp⟩
 have hb1:=ny (HT.out.below hbq) hkp HO.out
 have ht1:w1.cell? ⟨tb,5,none⟩ = some (.bool made):=hb1.range 5 _ rfl
 have hth:=hb1.there 5 (by simp [tkC])
 rw [Nat.zero_add] at hth
 have ht2:=hth.2
 have HE:Hid (DV O1 N (R + 1) M (w1.setCell ⟨tb,5,none⟩ (.bool false)) g q ((L.put k nm (some d)).put k tn none) (upN sy k false) ∧ TkB (w1.setCell ⟨tb,5,none⟩ (.bool false)) tb k nm data lt nx false false ∧ Kp O w (w1.setCell ⟨tb,5,none⟩ (.bool false))) :=
  ah ⟨hv.chg bM (fun b e => e ▸ HO.out.own),hb1.put 5 _,((Kp.of hbq).trans (sV hkp HO.out)).trans (kM HO.out 5 _)⟩
 clear hv hkp hb1 hth HT HC
 cases made
 all_goals
  go_wp2_with fail
  go_ret2
  exact ⟨rfl,HE.out⟩
theorem zh (h:DV O1 N R M w g q L sy) (hk:k < 3) (hN:N ≤ 1000000) (ht:TkB w tb k nm data false nx made false) (ho:Own1 O O1 tb) :
  Calls prog 269 #[.pointer (some ⟨tb,0,none⟩),.pointer (some ⟨g,0,none⟩)] w (qw O O1 N R M g q L (upN sy k true) tb k nm data false nx made true w):=by
 have HT:=ah ht
 have HO:=ah ho
 have HC:Hid (∀ W,Below w.heap.size w W → Calls prog 181 #[.pointer (some ⟨g,0,none⟩),.string (dirN k)] W (VAns O1 N R M g q L (upN sy k true) W)):=ah fun W hb => vB (h.below hb) hk hN
 have c0:w.cell? ⟨tb,0,none⟩ = some (.string (dirN k)):=BoxL.range ht 0 _ rfl
 have c3:w.cell? ⟨tb,3,none⟩ = some (.bool false):=BoxL.range ht 3 _ rfl
 generalize hdn:dirN k = dn at HC c0
 clear h ht hdn ho
 go_enter func269,ntmps269
 go_wp2_with fail
 refine (HC.out w (Below.refl _ _)).mono ?_
 rintro e w1 ⟨rfl,hv,hkp⟩
 have HE:=ah (And.intro hv (And.intro (ny HT.out hkp HO.out) (sV hkp HO.out)))
 clear hv hkp HT HC
 go_wp2_with fail
 go_ret2
 exact ⟨rfl,HE.out⟩
end
def dB:List Value:=[.func (.func 264) #[] #[],.func (.func 265) #[] #[],.func (.func 266) #[] #[],.func (.func 267) #[] #[],.func (.func 268) #[] #[],.func (.func 269) #[] #[]]
theorem infoSt:(prog.info? 312).map (·.size) = some 6:=by decide +kernel
theorem sF (w:World):Calls prog 237 #[] w fun e w' => e = .returned (.agg dB.toArray) ∧ Below w.heap.size w w':=by
 go_enter func237,ntmps237
 go_wp2_with fail
 exact dI rfl w.heap.size 0 rfl dB _ ((BoxL.new w 312 dB).range) underlying312 rfl infoSt rfl ⟨rfl,bal⟩
theorem vS (tb:Nat) (en:Bool) (w:World) (c6:w.cell? ⟨tb,6,none⟩ = some (.bool en)):Calls prog 236 #[.pointer (some ⟨tb,0,none⟩)] w fun e w' => e = .returned (.bool en) ∧ w' = w:=by
 go_enter func236,ntmps236
 go_wp2_with fail
 go_ret
 exact ⟨rfl,rfl⟩
section
variable {O:Nat → Prop} {N R M N' R':Nat} {w:World} {g tb:Nat} {q:Int} {L L':LK} {sy sy':Nat → Bool} {k:Nat} {nm data:ByteArray} {lt made made':Bool}
def endT (lt:Bool) (n:Nat):Bool:=decide (n = 6) || (lt && decide (n = 5))
def Wo (O:Nat → Prop) (tb b:Nat):Prop:=O b ∧ b ≠ tb
theorem gK {O:Nat → Prop} {tb:Nat} (h:O tb):Own1 (Wo O tb) O tb:=⟨h,fun _ h => h.1,fun h => h.2 rfl⟩
def Meth (fn:FuncId) (N R N' R' M:Nat) (g:Nat) (q:Int) (L L':LK) (sy sy':Nat → Bool) (tb k:Nat) (nm data:ByteArray) (lt:Bool) (nx:Nat) (made made' did:Bool):Prop :=
 ∀ (O:Nat → Prop) (W:World),O tb → DV O N R M W g q L sy → TkB W tb k nm data lt nx made false → Calls prog fn #[.pointer (some ⟨tb,0,none⟩),.pointer (some ⟨g,0,none⟩)] W (qw (Wo O tb) O N' R' M g q L' sy' tb k nm data lt nx made' did W)
def Db (O:Nat → Prop) (N R M:Nat) (g:Nat) (q:Int) (L:LK) (sy:Nat → Bool) (tb k:Nat) (nm data:ByteArray) (lt:Bool) (nx:Nat) (made:Bool) (w:World) (e:Ending) (w':World):Prop :=
 e = .returned (.tuple #[.bool (endT lt nx),.int .i64 0]) ∧ DV O N R M w' g q L sy ∧ TkB w' tb k nm data lt nx made (endT lt nx) ∧ Kp (Wo O tb) w w'
theorem iG (i:Nat) (hi:i < 6) (fn:FuncId) (hfn:dB[i]? = some (.func (.func fn) #[] #[])) (hen:∀ args w,Sem.run prog (callFunc fn args) w = .ok (.enter fn args) w) (hv0:DV O N R M w g q L sy) (hb:TkB w tb k nm data lt i made false) (ho:O tb)
  (hM:Meth fn N R N' R' M g q L L' sy sy' tb k nm data lt i made made' true) :
  Calls prog 193 #[.pointer (some ⟨tb,0,none⟩),.pointer (some ⟨g,0,none⟩)] w (Db O N' R' M g q L' sy' tb k nm data lt (i + 1) made' w):=by
 have HD:=ah (vS tb false w (BoxL.range hb 6 _ rfl))
 have HS:=ah (sF w)
 have HB:=ah hb
 have HO:=ah (gK ho)
 have HV0:=ah hv0
 have HM:=ah hM
 clear hb ho hv0 hM
 go_enter func193,ntmps193
 go_wp2_with fail
 refine fH 0 ?_
 generalize JmpN _ _ _ _ = J
 go_wp2_with fail
 refine HD.out.mono ?_
 rintro e w0 ⟨rfl,rfl⟩
 go_wp2_with fail
 refine HS.out.mono ?_
 rintro e w1 ⟨rfl,hb1⟩
 have HTH:=ah (there_alloc (n:=6) w1 #[.nilFunc,.nilFunc,.nilFunc,.nilFunc,.nilFunc,.nilFunc] 312 rfl)
 obtain ⟨W,hW⟩:∃ W,(w1.alloc (.cells #[.nilFunc,.nilFunc,.nilFunc,.nilFunc,.nilFunc,.nilFunc] 312)).setCells w1.heap.size 0 dB = W:=⟨_,rfl⟩
 have hbx:BoxL W w1.heap.size 312 dB:=by rw [← hW];exact (BoxL.new w1 _ [.nilFunc,.nilFunc,.nilFunc,.nilFunc,.nilFunc,.nilFunc]).set rfl
 have hbW:Below w1.heap.size w1 W:=by rw [← hW];exact below_setCells _ (Nat.le_refl _) _ _ _ bal
 have HBW:=ah (hb1.trans (hbW.mono hb1.size))
 have HW:=ah hW
 have h6:=infoSt
 have hone:∀ v ∈ dB,v.oneCell' = true:=by decide
 have hsl:dB.length = 6:=rfl
 have cfn:W.cell? ⟨w1.heap.size,i,none⟩ = some (.func (.func fn) #[] #[]):=by have:=hbx.range i _ hfn;rwa [Nat.zero_add] at this
 have HBT:=ah (BoxL.below HB.out HBW.out)
 have c4:W.cell? ⟨tb,4,none⟩ = some (.int .i64 (i:Int)):=HBT.out.range 4 _ rfl
 have d0:(0:Int) ≤ i:=by omega
 have d6:(i:Int) < 6:=by omega
 obtain ⟨sv,hsv⟩:∃ sv,dB = sv:=⟨_,rfl⟩
 rw [hsv] at HW hone hsl
 rw [hsv]
 clear hb1 hbW hbx hW HS HD hfn hsv
 go_wp2_with (refine aj rfl 312 _ _ rfl w1.heap.size 0 sv rfl rfl 6 hsl HTH.out h6 hone ?_;rw [HW.out])
 simp only [Act.put]
 rename_i hK
 refine wp_label (hK _ _ ?_)
 clear hK hone hsl HW h6 HTH
 go_wp2_with fail
 refine (HM.out O W HO.out.own (HV0.out.below HBW.out) HBT.out).mono ?_
 rintro e w2 ⟨rfl,hv,hb2,hk2⟩
 have hth4:=hb2.there 4 (by simp [tkC])
 rw [Nat.zero_add] at hth4
 have f4:=hth4.2
 have e4:w2.cell? ⟨tb,4,none⟩ = some (.int .i64 (i:Int)):=BoxL.range hb2 4 _ rfl
 have wi:IntKind.i64.wrap ((i:Int) + 1) = (i:Int) + 1:=IntWalk.i64_in _ (by omega)
 obtain ⟨W3,hW3⟩:∃ W,w2.setCell ⟨tb,4,none⟩ (.int .i64 ((i:Int) + 1)) = W:=⟨_,rfl⟩
 have hb3:TkB W3 tb k nm data lt (i + 1) made' false:=by rw [← hW3];exact hb2.put 4 _
 have hv3:DV O N' R' M W3 g q L' sy':=by rw [← hW3];exact hv.chg bM (fun b e => e ▸ HO.out.own)
 have hk3:Kp (Wo O tb) w0 W3:=((Kp.of HBW.out).trans hk2).trans (by rw [← hW3];exact kM HO.out 4 _)
 have g3:W3.cell? ⟨tb,3,none⟩ = some (.bool lt):=BoxL.range hb3 3 _ rfl
 have g4:W3.cell? ⟨tb,4,none⟩ = some (.int .i64 ((i:Int) + 1)):=BoxL.range hb3 4 _ rfl
 have hth6:=hb3.there 6 (by simp [tkC])
 rw [Nat.zero_add] at hth6
 have f6:=hth6.2
 have g6:W3.cell? ⟨tb,6,none⟩ = some (.bool false):=BoxL.range hb3 6 _ rfl
 have HE:Hid (DV O N' R' M (W3.setCell ⟨tb,6,none⟩ (.bool (endT lt (i + 1)))) g q L' sy' ∧ TkB (W3.setCell ⟨tb,6,none⟩ (.bool (endT lt (i + 1)))) tb k nm data lt (i + 1) made' (endT lt (i + 1)) ∧ Kp (Wo O tb) w0 (W3.setCell ⟨tb,6,none⟩ (.bool (endT lt (i + 1))))) :=
  ah ⟨hv3.chg bM (fun b e => e ▸ HO.out.own),hb3.put 6 _,hk3.trans (kM HO.out 6 _)⟩
 have HW3:=ah hW3
 clear hth4 hth6 hb2 hv hk2 hb3 hv3 hk3 hW3 HBT HB HBW c4 cfn HM
 go_upto_region 9 with fail
 rw [HW3.out]
 clear HW3 f4 e4
 have hcase:(((i:Int) + 1 == 6) = true ∧ endT lt (i + 1) = true) ∨ (((i:Int) + 1 == 6) = false ∧ lt = false ∧ endT lt (i + 1) = false) ∨ (((i:Int) + 1 == 6) = false ∧ lt = true ∧ ((i:Int) + 1 == 5) = true ∧ endT lt (i + 1) = true) ∨ (((i:Int) + 1 == 6) = false ∧ lt = true ∧ ((i:Int) + 1 == 5) = false ∧ endT lt (i + 1) = false):=by
  unfold endT
  by_cases x6:i = 5
  ·left;subst x6;exact ⟨by decide,by simp⟩
  have y6:((i:Int) + 1 == 6) = false:=by rw [beq_eq_false_iff_ne];omega
  rw [decide_eq_false (show ¬ i + 1 = 6 by omega)]
  cases lt with
  | false => right;left;exact ⟨y6,rfl,rfl⟩
  | true =>
   by_cases x5:i = 4
   ·right;right;left;subst x5;exact ⟨y6,rfl,by decide,by decide⟩
   right;right;right;exact ⟨y6,rfl,by rw [beq_eq_false_iff_ne];omega,by rw [decide_eq_false (show ¬ i + 1 = 5 by omega)];rfl⟩
 generalize hee:endT lt (i + 1) = en at HE hcase
 have HEE:=ah hee
 clear hee d0 d6 wi
 generalize (i:Int) + 1 = n1 at g4 hcase ⊢
 rcases hcase with ⟨y6,rfl⟩ | ⟨y6,rfl,rfl⟩ | ⟨y6,rfl,y5,rfl⟩ | ⟨y6,rfl,y5,rfl⟩
 all_goals
  go_wp2_with fail
  go_ret2
  unfold Db
  rw [HEE.out]
  exact ⟨rfl,HE.out⟩
theorem mE {N1 R1:Nat} {L1:LK} {sy1:Nat → Bool} {made1:Bool} (i:Nat) (hi:i < 5) (hnot:endT lt (i + 1) = false) (fn1:FuncId) (hfn1:dB[i]? = some (.func (.func fn1) #[] #[])) (hen1:∀ args w,Sem.run prog (callFunc fn1 args) w = .ok (.enter fn1 args) w) (fn:FuncId) (hfn:dB[i + 1]? = some (.func (.func fn) #[] #[])) (hen:∀ args w,Sem.run prog (callFunc fn args) w = .ok (.enter fn args) w) (hv0:DV O N R M w g q L sy) (hb:TkB w tb k nm data lt i made false) (ho:O tb)
  (hM1:Meth fn1 N R N1 R1 M g q L L1 sy sy1 tb k nm data lt i made made1 false) (hM:Meth fn N1 R1 N' R' M g q L1 L' sy1 sy' tb k nm data lt (i + 1) made1 made' true) :
  Calls prog 193 #[.pointer (some ⟨tb,0,none⟩),.pointer (some ⟨g,0,none⟩)] w (Db O N' R' M g q L' sy' tb k nm data lt (i + 1 + 1) made' w):=by
 have HD:=ah (vS tb false w (BoxL.range hb 6 _ rfl))
 have HS:=ah (sF w)
 have HB:=ah hb
 have HO:=ah (gK ho)
 have HV0:=ah hv0
 have HM:=ah hM
 have HM1:=ah hM1
 have HNOT:=ah hnot
 clear hb ho hv0 hM hM1 hnot
 go_enter func193,ntmps193
 go_wp2_with fail
 refine fH 1 ?_
 go_wp2_with fail
 refine HD.out.mono ?_
 rintro e w0 ⟨rfl,rfl⟩
 go_wp2_with fail
 refine HS.out.mono ?_
 rintro e w1 ⟨rfl,hb1⟩
 have HTH:=ah (there_alloc (n:=6) w1 #[.nilFunc,.nilFunc,.nilFunc,.nilFunc,.nilFunc,.nilFunc] 312 rfl)
 obtain ⟨W,hW⟩:∃ W,(w1.alloc (.cells #[.nilFunc,.nilFunc,.nilFunc,.nilFunc,.nilFunc,.nilFunc] 312)).setCells w1.heap.size 0 dB = W:=⟨_,rfl⟩
 have hbx:BoxL W w1.heap.size 312 dB:=by rw [← hW];exact (BoxL.new w1 _ [.nilFunc,.nilFunc,.nilFunc,.nilFunc,.nilFunc,.nilFunc]).set rfl
 have hbW:Below w1.heap.size w1 W:=by rw [← hW];exact below_setCells _ (Nat.le_refl _) _ _ _ bal
 have HBW:=ah (hb1.trans (hbW.mono hb1.size))
 have HW:=ah hW
 have h6:=infoSt
 have hone:∀ v ∈ dB,v.oneCell' = true:=by decide
 have hsl:dB.length = 6:=rfl
 have cfn:W.cell? ⟨w1.heap.size,i,none⟩ = some (.func (.func fn1) #[] #[]):=by have:=hbx.range i _ hfn1;rwa [Nat.zero_add] at this
 have HBX:=ah hbx
 have HFN:=ah hfn
 have HSL:=ah hbx.lt
 have HLE:Hid (w0.heap.size ≤ w1.heap.size):=ah hb1.size
 have HNE:Hid (w1.heap.size ≠ tb):=ah (by have h1:=BoxL.lt HB.out;have h2:=hb1.size;omega)
 have HBT:=ah (BoxL.below HB.out HBW.out)
 have c4:W.cell? ⟨tb,4,none⟩ = some (.int .i64 (i:Int)):=HBT.out.range 4 _ rfl
 have d0:(0:Int) ≤ i:=by omega
 have d6:(i:Int) < 6:=by omega
 obtain ⟨sv,hsv⟩:∃ sv,dB = sv:=⟨_,rfl⟩
 rw [hsv] at HW hone hsl
 rw [hsv]
 clear hb1 hbW hbx hW HS HD hfn hfn1 hsv
 go_wp2_with (refine aj rfl 312 _ _ rfl w1.heap.size 0 sv rfl rfl 6 hsl HTH.out h6 hone ?_;rw [HW.out])
 simp only [Act.put]
 rename_i hK
 refine wp_label (hK _ _ ?_)
 clear hK hone hsl HW h6 HTH
 go_wp2_with fail
 refine (HM1.out (Ou O w0 W) W (.inl HO.out.own) (HV0.out.on HBW.out) HBT.out).mono ?_
 rintro e w2 ⟨rfl,hv,hb2,hk2⟩
 have hbx2:BoxL w2 w1.heap.size 312 dB:=(hk2.block HSL.out ⟨.inr ⟨HLE.out,HSL.out⟩,HNE.out⟩).trans HBX.out
 have hk2:Kp (Wo O tb) W w2:=hk2.sub fun b _ h => ⟨.inl h.1,h.2⟩
 have hv:=hv.sub (fun b h => .inl h) HV0.out.glob
 have hth4:=hb2.there 4 (by simp [tkC])
 rw [Nat.zero_add] at hth4
 have f4:=hth4.2
 have e4:w2.cell? ⟨tb,4,none⟩ = some (.int .i64 (i:Int)):=BoxL.range hb2 4 _ rfl
 have wi:IntKind.i64.wrap ((i:Int) + 1) = (i:Int) + 1:=IntWalk.i64_in _ (by omega)
 obtain ⟨W3,hW3⟩:∃ W,w2.setCell ⟨tb,4,none⟩ (.int .i64 ((i:Int) + 1)) = W:=⟨_,rfl⟩
 have hb3:TkB W3 tb k nm data lt (i + 1) made1 false:=by rw [← hW3];exact hb2.put 4 _
 have hv3:DV O N1 R1 M W3 g q L1 sy1:=by rw [← hW3];exact hv.chg bM (fun b e => e ▸ HO.out.own)
 have hk3:Kp (Wo O tb) w0 W3:=((Kp.of HBW.out).trans hk2).trans (by rw [← hW3];exact kM HO.out 4 _)
 have g3:W3.cell? ⟨tb,3,none⟩ = some (.bool lt):=BoxL.range hb3 3 _ rfl
 have g4:W3.cell? ⟨tb,4,none⟩ = some (.int .i64 ((i:Int) + 1)):=BoxL.range hb3 4 _ rfl
 have hth6:=hb3.there 6 (by simp [tkC])
 rw [Nat.zero_add] at hth6
 have f6:=hth6.2
 have g6:W3.cell? ⟨tb,6,none⟩ = some (.bool false):=BoxL.range hb3 6 _ rfl
 have HE:Hid (DV O N1 R1 M (W3.setCell ⟨tb,6,none⟩ (.bool (endT lt (i + 1)))) g q L1 sy1 ∧ TkB (W3.setCell ⟨tb,6,none⟩ (.bool (endT lt (i + 1)))) tb k nm data lt (i + 1) made1 (endT lt (i + 1)) ∧ Kp (Wo O tb) w0 (W3.setCell ⟨tb,6,none⟩ (.bool (endT lt (i + 1))))) :=
  ah ⟨hv3.chg bM (fun b e => e ▸ HO.out.own),hb3.put 6 _,hk3.trans (kM HO.out 6 _)⟩
 have HW3:=ah hW3
 have HWA:=ah hW3
 have HBX2:=ah hbx2
 clear hbx2 hth4 hth6 hb2 hv hk2 hb3 hv3 hk3 hW3 HBT HB HBW c4 cfn HM1
 go_upto_region 9 with fail
 rw [HW3.out]
 clear HW3 f4 e4
 have hcase:(((i:Int) + 1 == 6) = true ∧ endT lt (i + 1) = true) ∨ (((i:Int) + 1 == 6) = false ∧ lt = false ∧ endT lt (i + 1) = false) ∨ (((i:Int) + 1 == 6) = false ∧ lt = true ∧ ((i:Int) + 1 == 5) = true ∧ endT lt (i + 1) = true) ∨ (((i:Int) + 1 == 6) = false ∧ lt = true ∧ ((i:Int) + 1 == 5) = false ∧ endT lt (i + 1) = false):=by
  unfold endT
  by_cases x6:i = 5
  ·left;subst x6;exact ⟨by decide,by simp⟩
  have y6:((i:Int) + 1 == 6) = false:=by rw [beq_eq_false_iff_ne];omega
  rw [decide_eq_false (show ¬ i + 1 = 6 by omega)]
  cases lt with
  | false => right;left;exact ⟨y6,rfl,rfl⟩
  | true =>
   by_cases x5:i = 4
   ·right;right;left;subst x5;exact ⟨y6,rfl,by decide,by decide⟩
   right;right;right;exact ⟨y6,rfl,by rw [beq_eq_false_iff_ne];omega,by rw [decide_eq_false (show ¬ i + 1 = 5 by omega)];rfl⟩
 rw [HNOT.out] at HE
 have hcase2:((i:Int) + 1 == 6) = false ∧ (lt = false ∨ lt = true ∧ ((i:Int) + 1 == 5) = false):=by
  have hn:=HNOT.out
  unfold endT at hn
  refine ⟨by rw [beq_eq_false_iff_ne];omega,?_⟩
  cases lt with
  | false => exact .inl rfl
  | true =>
   refine .inr ⟨rfl,?_⟩
   rw [beq_eq_false_iff_ne]
   intro e
   have:i + 1 = 5:=by omega
   rw [this] at hn
   exact absurd hn (by decide)
 obtain ⟨W4,hW4⟩:∃ W,W3.setCell ⟨tb,6,none⟩ (.bool false) = W:=⟨_,rfl⟩
 have HB3:Hid (BoxL W3 w1.heap.size 312 dB):=ah (by rw [← HWA.out];exact HBX2.out.chg bM HNE.out)
 have HB4:Hid (BoxL W4 w1.heap.size 312 dB):=ah (by rw [← hW4];exact HB3.out.chg bM HNE.out)
 rw [hW4] at HE
 have HV4:=ah HE.out.1
 have HT4:=ah HE.out.2.1
 have HK4:=ah HE.out.2.2
 have HMM:=ah (HM.out O W4 HO.out.own HV4.out HT4.out)
 have c6:W4.cell? ⟨tb,6,none⟩ = some (.bool false):=BoxL.range HT4.out 6 _ rfl
 have HW4:=ah hW4
 clear hcase hW4 HE HB3 HBX2 HBX HWA d0 d6 wi
 generalize (i:Int) + 1 = n1 at g4 hcase2
 obtain ⟨i2,hi2⟩:∃ j,i + 1 = j:=⟨_,rfl⟩
 rw [hi2] at HT4 HMM HFN
 have HI2:=ah hi2
 have hi3:i2 < 6:=by omega
 have c4:W4.cell? ⟨tb,4,none⟩ = some (.int .i64 (i2:Int)):=BoxL.range HT4.out 4 _ rfl
 have cfn:W4.cell? ⟨w1.heap.size,i2,none⟩ = some (.func (.func fn) #[] #[]):=by have:=HB4.out.range i2 _ HFN.out;rwa [Nat.zero_add] at this
 have hi1:(0:Int) ≤ (i2:Int):=by omega
 have hi6:(i2:Int) < 6:=by omega
 clear hi2 HM
 obtain ⟨y6,hlt⟩:=hcase2
 obtain ⟨lt0,hlt0⟩:∃ l,lt = l:=⟨_,rfl⟩
 have HLT0:=ah hlt0
 rw [hlt0] at g3 hlt
 clear hlt0
 rcases hlt with rfl | ⟨rfl,y5⟩
 all_goals
  go_wp2_with fail
  rw [HW4.out]
  go_wp2_with fail
  refine wp_goto ?_
  refine qO rfl ?_
  clear g3 g4 f6 g6
  go_wp2_with fail
  refine HMM.out.mono ?_
  rintro e w2 ⟨rfl,hv,hb2,hk2⟩
  have hth4:=hb2.there 4 (by simp [tkC])
  rw [Nat.zero_add] at hth4
  have f4:=hth4.2
  have e4:w2.cell? ⟨tb,4,none⟩ = some (.int .i64 (i2:Int)):=BoxL.range hb2 4 _ rfl
  have wi:IntKind.i64.wrap ((i2:Int) + 1) = (i2:Int) + 1:=IntWalk.i64_in _ (by omega)
  obtain ⟨W3,hW3⟩:∃ W,w2.setCell ⟨tb,4,none⟩ (.int .i64 ((i2:Int) + 1)) = W:=⟨_,rfl⟩
  have hb3:TkB W3 tb k nm data lt (i2 + 1) made' false:=by rw [← hW3];exact hb2.put 4 _
  have hv3:DV O N' R' M W3 g q L' sy':=by rw [← hW3];exact hv.chg bM (fun b e => e ▸ HO.out.own)
  have hk3:Kp (Wo O tb) w0 W3:=(HK4.out.trans hk2).trans (by rw [← hW3];exact kM HO.out 4 _)
  have g3:W3.cell? ⟨tb,3,none⟩ = some (.bool lt):=BoxL.range hb3 3 _ rfl
  have g4:W3.cell? ⟨tb,4,none⟩ = some (.int .i64 ((i2:Int) + 1)):=BoxL.range hb3 4 _ rfl
  have hth6:=hb3.there 6 (by simp [tkC])
  rw [Nat.zero_add] at hth6
  have f6:=hth6.2
  have g6:W3.cell? ⟨tb,6,none⟩ = some (.bool false):=BoxL.range hb3 6 _ rfl
  have HE:Hid (DV O N' R' M (W3.setCell ⟨tb,6,none⟩ (.bool (endT lt (i2 + 1)))) g q L' sy' ∧ TkB (W3.setCell ⟨tb,6,none⟩ (.bool (endT lt (i2 + 1)))) tb k nm data lt (i2 + 1) made' (endT lt (i2 + 1)) ∧ Kp (Wo O tb) w0 (W3.setCell ⟨tb,6,none⟩ (.bool (endT lt (i2 + 1))))) :=
   ah ⟨hv3.chg bM (fun b e => e ▸ HO.out.own),hb3.put 6 _,hk3.trans (kM HO.out 6 _)⟩
  have HW3:=ah hW3
  clear hth4 hth6 hb2 hv hk2 hb3 hv3 hk3 hW3 c4 cfn HMM HK4 HT4
  go_upto_region 9 with fail
  rw [HW3.out]
  clear HW3 f4 e4
  have hcase:(((i2:Int) + 1 == 6) = true ∧ endT lt (i2 + 1) = true) ∨ (((i2:Int) + 1 == 6) = false ∧ lt = false ∧ endT lt (i2 + 1) = false) ∨ (((i2:Int) + 1 == 6) = false ∧ lt = true ∧ ((i2:Int) + 1 == 5) = true ∧ endT lt (i2 + 1) = true) ∨ (((i2:Int) + 1 == 6) = false ∧ lt = true ∧ ((i2:Int) + 1 == 5) = false ∧ endT lt (i2 + 1) = false):=by
   unfold endT
   by_cases x6:i2 = 5
   ·left;obtain rfl:i2 = 5:=x6
    exact ⟨by decide,by simp⟩
   have y6:((i2:Int) + 1 == 6) = false:=by rw [beq_eq_false_iff_ne];omega
   rw [decide_eq_false (show ¬ i2 + 1 = 6 by omega)]
   cases lt with
   | false => right;left;exact ⟨y6,rfl,rfl⟩
   | true =>
    by_cases x5:i2 = 4
    ·right;right;left;obtain rfl:i2 = 4:=x5
     exact ⟨y6,rfl,by decide,by decide⟩
    right;right;right;exact ⟨y6,rfl,by rw [beq_eq_false_iff_ne];omega,by rw [decide_eq_false (show ¬ i2 + 1 = 5 by omega)];rfl⟩
  generalize hee:endT lt (i2 + 1) = en at HE hcase
  have HEE:=ah hee
  clear hee hi1 hi6 wi
  generalize (i2:Int) + 1 = n1 at g4 hcase ⊢
  rcases hcase with ⟨y6,rfl⟩ | ⟨y6,rfl,rfl⟩ | ⟨y6,rfl,y5,rfl⟩ | ⟨y6,rfl,y5,rfl⟩
  all_goals
   go_wp2_with fail
   go_ret2
   unfold Db
   rw [HI2.out]
   rw [HEE.out]
   exact ⟨rfl,HE.out⟩
end
end
end Go.Proofs.YtlhcoanbhnphgaaGreatDoor

/- A part of this claim. -/
import Derived.Test.YtlhcoanbhnphgaaGreatDoorXm22
import Derived.Test.YtlhcoanbhnphgaaGreatDoorXm28
namespace Go.Proofs.YtlhcoanbhnphgaaGreatDoor
open Tryz
set_option maxHeartbeats 64000000
set_option maxRecDepth 100000
section
open Go.RowKit Go.Maps
structure Dm where
 seen:Nat → ByteArray → Option Nat
 sett:Nat → ByteArray → Option Nat
 dat:Nat → ByteArray × Nat
structure Pl where
 top:Nat
 dir:Nat → Nat
 sn:Nat → Nat
 st:Nat → Nat
 pd:Nat → Value
def upN {α:Type} (f:Nat→α) (k:Nat) (v:α):Nat→α:=fun j=>if j=k then v else f j
theorem aI {α:Type} (f:Nat→α) (k:Nat) (v:α):upN f k v k=v:=if_pos rfl
theorem aF {α:Type} {f:Nat→α} {k j:Nat} {v:α} (h:j≠k):upN f k v j=f j:=if_neg h
def fM (N:Nat) (f:ByteArray→Option Nat):Prop:=∃L:List ByteArray,L.Nodup∧L.length≤N∧(∀x∈L,aU x=true)∧ ∀x,(f x).isSome=true↔x∈L
theorem fM.mono {N N':Nat} {f:ByteArray→Option Nat} (h:fM N f) (d:N≤N'):fM N' f:=by obtain ⟨L,h1,b,a⟩:=h;exact ⟨L,h1,by omega,a⟩
theorem fM.put {N:Nat} {f:ByteArray→Option Nat} (h:fM N f) {x:ByteArray} {b:Nat} (hx:aU x=true):fM (N+1) fun y=>if y=x then some b else f y:=by
 obtain ⟨L,h1,g,d,a⟩:=h
 refine ⟨x::L.filter fun y=>decide (y≠x),List.nodup_cons.2 ⟨fun h=>by simp at h,h1.filter _⟩,?_,fun y hy=> ?_,fun y=> ?_⟩
 ·have:=List.length_filter_le (fun y=>decide (y≠x)) L
  rw [List.length_cons];omega
 ·rcases List.mem_cons.1 hy with rfl|hy
  ·exact hx
  exact d y (List.mem_filter.1 hy).1
 by_cases e:y=x
 ·simp [e]
 simp [e,a]
theorem fM.ren {N:Nat} {f:ByteArray→Option Nat} (h:fM N f) {x z:ByteArray} (i:aU z=true) (hx:(f x).isSome=true) (b:x≠z):fM N fun y=>if y=z then f x else if y=x then none else f y:=by
 obtain ⟨L,h1,k,j,d⟩:=h
 have a:=(d x).1 hx
 refine ⟨z::(L.filter fun y=>decide (y≠x)).filter fun y=>decide (y≠z),List.nodup_cons.2 ⟨fun h=>by simp at h,(h1.filter _).filter _⟩,?_,fun y hy=> ?_,fun y=> ?_⟩
 ·have m:=List.length_filter_le (fun y=>decide (y≠z)) (L.filter fun y=>decide (y≠x))
  have l:=kL h1 a
  rw [List.length_cons];omega
 ·rcases List.mem_cons.1 hy with rfl|hy
  ·exact i
  exact j y (List.mem_filter.1 (List.mem_filter.1 hy).1).1
 by_cases e:y=z
 ·simp [e,hx]
 by_cases g:y=x
 ·simp [g,b]
 simp [e,g,d]
def Kp (O:Nat→Prop) (w w':World):Prop:=Chg (fun b=> ¬O b) w w'
theorem Kp.refl (O:Nat→Prop) (w:World):Kp O w w:=Chg.refl _ w
theorem Kp.trans {O:Nat→Prop} {w w' a:World} (h:Kp O w w') (b:Kp O w' a):Kp O w a:=Chg.trans h b
theorem Kp.of {O:Nat→Prop} {w w':World} (h:Below w.heap.size w w'):Kp O w w':=Chg.of_below h
theorem Kp.block {O:Nat→Prop} {w w':World} (h:Kp O w w') {b:Nat} (a:b<w.heap.size) (hb:O b):w'.heap[b]? = w.heap[b]?:=Chg.block h b a (fun h=>h hb)
theorem Kp.sub {O O':Nat→Prop} {w w':World} (h:Kp O w w') (d:∀b,b<w.heap.size→O' b→O b):Kp O' w w':=h.mono fun b hb e a=>e (d b hb a)
theorem ak.ne {w:World} {b g:Nat} {t i:TypeId} {cs d:List Value} (h:ak w b t cs) (j:ak w g i d) (f:t≠i):b≠g:=fun e=>by
 subst e
 have a:w.heap[b]? = _:=h
 rw [show w.heap[b]? = _ from j] at a
 injection a with a
 injection a with _ h3
 exact f h3.symm
theorem ak.gQ {α:Type} {enc:α→Value} {w:World} {b g n:Nat} {t:TypeId} {cs:List Value} {f:ByteArray→Option α} (h:ak w b t cs) (i:aZ enc w g n f):b≠g:=fun e=>by
 subst e
 obtain ⟨D,⟨es,d,hb,_⟩,_⟩:=i
 have a:w.heap[b]? = _:=h
 rw [hb] at a
 injection a with a
 cases a
theorem jy {w:World} {B sz n b:Nat} {e t:TypeId} {v:Value} {xs cs:List Value} (h:w.ownsRow B e sz v n xs) (hx:ak w b t cs) (d:e≠t):v.ownBlock≠some b:=fun f=>by
 rcases h.2 with ⟨rfl,_⟩|⟨g1,cap,cur,rfl,_,g,_⟩
 ·cases f
 have a1:g1=b:=Option.some.inj f
 subst a1
 have a:w.heap[g1]? = _:=hx
 rw [g] at a
 injection a with a
 injection a with _ h3
 exact d h3
theorem qL {α:Type} {enc:α→Value} {w:World} {B sz n b m:Nat} {e:TypeId} {v:Value} {xs:List Value} {f:ByteArray→Option α} (h:w.ownsRow B e sz v n xs) (hx:aZ enc w b m f):v.ownBlock≠some b:=fun d=>by
 rcases h.2 with ⟨rfl,_⟩|⟨g1,cap,cur,rfl,_,g,_⟩
 ·cases d
 have a1:g1=b:=Option.some.inj d
 subst a1
 obtain ⟨D,⟨es,a,hb,_⟩,_⟩:=hx
 rw [g] at hb
 injection hb with hb
 cases hb
theorem kF {S:Nat→Prop} {w w':World} {B sz n:Nat} {e:TypeId} {v:Value} {xs:List Value} (h:w.ownsRow B e sz v n xs) (f:Chg S w w') (hS:∀b,v.ownBlock=some b→ ¬S b):w'.ownsRow B e sz v n xs:=by
 rcases h with ⟨h1,⟨rfl,a⟩|⟨g1,cap,cur,rfl,a,d,g⟩⟩
 ·exact ⟨h1,.inl ⟨rfl,a⟩⟩
 exact ⟨h1,.inr ⟨g1,cap,cur,rfl,a,(f.block g1 (Array.getElem?_eq_some_iff.1 d).1 (hS g1 rfl)).trans d,g⟩⟩
theorem Mf {w:World} {B sz n b:Nat} {e:TypeId} {v:Value} {xs:List Value} (h:w.ownsRow B e sz v n xs) (hb:v.ownBlock=some b):b<w.heap.size:=by
 rcases h.2 with ⟨rfl,_⟩|⟨g1,cap,cur,rfl,_,a,_⟩
 ·cases hb
 cases hb;exact (Array.getElem?_eq_some_iff.1 a).1
def fiC (d:ByteArray×Nat):List Value:=[.string d.1,.int .i64 (d.2:Int)]
def uT (w:World) (b:Nat) (d:ByteArray×Nat):Prop:=ak w b 120 (fiC d)
def Rv (w:World) (g top:Nat) (q:Int):Prop:=ak w g 77 [.map (some top),.int .i64 q,.int .i64 0,.bool false,.bool false]
def GQ (w:World) (b sn st:Nat) (pd:Value):Prop:=ak w b 83 [.map (some sn),.map (some st),pd]
def PdR (w:World) (v:Value) (R:Nat):Prop:=∃n xs,w.ownsRow 0 114 1 v n xs∧n≤R
structure DS (O:Nat → Prop) (N R M:Nat) (w:World) (g:Nat) (q:Int) (p:Pl) (m:Dm):Prop where
 box:Rv w g p.top q
 top:aZ bF w p.top 3 fun x => (cu x).map p.dir
 dir:∀ k,k < 3 → GQ w (p.dir k) (p.sn k) (p.st k) (p.pd k)
 pend:∀ k,k < 3 → PdR w (p.pd k) R
 pone:∀ k j b,k < 3 → j < 3 → (p.pd k).ownBlock = some b → (p.pd j).ownBlock = some b → k = j
 seen:∀ k,k < 3 → aZ bF w (p.sn k) (N + R) (m.seen k) ∧ fM N (m.seen k)
 sett:∀ k,k < 3 → aZ bF w (p.st k) (N + R) (m.sett k) ∧ fM N (m.sett k)
 file:∀ k x b,k < 3 → m.seen k x = some b ∨ m.sett k x = some b → uT w b (m.dat b) ∧ ¬ O b ∧ (m.dat b).1.size ≤ M ∧ (m.dat b).2 ≤ (m.dat b).1.size
 one:∀ k j x y b,k < 3 → j < 3 → m.seen k x = some b → m.seen j y = some b → k = j ∧ x = y
 off:¬ O g ∧ ¬ O p.top ∧ (∀ k,k < 3 → ¬ O (p.dir k) ∧ ¬ O (p.sn k) ∧ ¬ O (p.st k)) ∧ ∀ k b,k < 3 → (p.pd k).ownBlock = some b → ¬ O b
 mtop:∀ k,k < 3 → p.top ≠ p.sn k ∧ p.top ≠ p.st k
 mst:∀ k j,k < 3 → j < 3 → p.sn k ≠ p.st j
 msn:∀ k j,k < 3 → j < 3 → p.sn k = p.sn j → k = j
 mtt:∀ k j,k < 3 → j < 3 → p.st k = p.st j → k = j
 mdir:∀ k j,k < 3 → j < 3 → p.dir k = p.dir j → k = j
 olt:∀ b,O b → b < w.heap.size
 ko:∀ b,b < 5 → O b
section
variable {O S:Nat → Prop} {N R M:Nat} {w w':World} {g:Nat} {q:Int} {p:Pl} {m:Dm}
theorem PdR.chg {v:Value} {R:Nat} (h:PdR w v R) (a:Chg S w w') (hS:∀b,v.ownBlock=some b→ ¬S b):PdR w' v R:=by obtain ⟨n,xs,h1,d⟩:=h;exact ⟨n,xs,kF h1 a hS,d⟩
theorem DS.chg (h:DS O N R M w g q p m) (e:Chg S w w') (hS:∀b,S b→O b):DS O N R M w' g q p m where
 box:=h.box.chg e (fun d=>h.off.1 (hS _ d))
 top:=h.top.chg e (fun d=>h.off.2.1 (hS _ d))
 dir:=fun k a=>(h.dir k a).chg e (fun d=>(h.off.2.2.1 k a).1 (hS _ d))
 pend:=fun k a=>(h.pend k a).chg e fun b hb d=>h.off.2.2.2 k b a hb (hS _ d)
 pone:=h.pone
 seen:=fun k a=>⟨(h.seen k a).1.chg e (fun d=>(h.off.2.2.1 k a).2.1 (hS _ d)),(h.seen k a).2⟩
 sett:=fun k a=>⟨(h.sett k a).1.chg e (fun d=>(h.off.2.2.1 k a).2.2 (hS _ d)),(h.sett k a).2⟩
 file:=fun k x b a hb=>by
  obtain ⟨h1,f,i⟩:=h.file k x b a hb
  exact ⟨h1.chg e (fun d=>f (hS _ d)),f,i⟩
 one:=h.one
 off:=h.off
 mtop:=h.mtop
 mst:=h.mst
 msn:=h.msn
 mtt:=h.mtt
 mdir:=h.mdir
 olt:=fun b hb=>Nat.lt_of_lt_of_le (h.olt b hb) e.size
 ko:=h.ko
theorem DS.below (h:DS O N R M w g q p m) (hb:Below w.heap.size w w'):DS O N R M w' g q p m:=h.chg (S:=fun _=>False) (Chg.of_below hb) (fun _ h=>h.elim)
theorem DS.own {O':Nat→Prop} (h:DS O N R M w g q p m) (i:∀b,O' b→b<w.heap.size) (h1:∀b,O' b→O b∨ ¬(b=g∨b=p.top∨(∃k,k<3∧(b=p.dir k∨b=p.sn k∨b=p.st k∨(p.pd k).ownBlock=some b))∨ ∃k x,k<3∧(m.seen k x=some b∨m.sett k x=some b))) (j:∀b,b<5→O' b):DS O' N R M w g q p m where
 box:=h.box
 top:=h.top
 dir:=h.dir
 pend:=h.pend
 pone:=h.pone
 seen:=h.seen
 sett:=h.sett
 file:=fun k x b e hb=>by
  obtain ⟨f,l,n⟩:=h.file k x b e hb
  exact ⟨f,fun d=>(h1 b d).elim l fun a=>a (.inr (.inr (.inr ⟨k,x,e,hb⟩))),n⟩
 one:=h.one
 off:=⟨fun d=>(h1 _ d).elim h.off.1 fun a=>a (.inl rfl),fun d=>(h1 _ d).elim h.off.2.1 fun a=>a (.inr (.inl rfl)),fun k e=>⟨fun d=>(h1 _ d).elim (h.off.2.2.1 k e).1 fun a=>a (.inr (.inr (.inl ⟨k,e,.inl rfl⟩))),fun d=>(h1 _ d).elim (h.off.2.2.1 k e).2.1 fun a=>a (.inr (.inr (.inl ⟨k,e,.inr (.inl rfl)⟩))),
  fun d=>(h1 _ d).elim (h.off.2.2.1 k e).2.2 fun a=>a (.inr (.inr (.inl ⟨k,e,.inr (.inr (.inl rfl))⟩)))⟩,fun k b e hb d=>(h1 _ d).elim (h.off.2.2.2 k b e hb) fun a=>a (.inr (.inr (.inl ⟨k,e,.inr (.inr (.inr hb))⟩)))⟩
 mtop:=h.mtop
 mst:=h.mst
 msn:=h.msn
 mtt:=h.mtt
 mdir:=h.mdir
 olt:=i
 ko:=j
theorem DS.lt (h:DS O N R M w g q p m) {b:Nat} (hb:b=g∨b=p.top∨(∃k,k<3∧(b=p.dir k∨b=p.sn k∨b=p.st k∨(p.pd k).ownBlock=some b))∨ ∃k x,k<3∧(m.seen k x=some b∨m.sett k x=some b)):b<w.heap.size:=by
 rcases hb with rfl|rfl|⟨k,a,rfl|rfl|rfl|hb⟩|⟨k,x,a,hb⟩
 ·exact ak.lt h.box
 ·exact h.top.lt
 ·exact ak.lt (h.dir k a)
 ·exact (h.seen k a).1.lt
 ·exact (h.sett k a).1.lt
 ·obtain ⟨n,xs,h1,_⟩:=h.pend k a
  exact Mf h1 hb
 exact ak.lt (h.file k x b a hb).1
def Ou (O:Nat→Prop) (w w':World) (b:Nat):Prop:=O b∨w.heap.size≤b∧b<w'.heap.size
theorem DS.on (h:DS O N R M w g q p m) (hb:Below w.heap.size w w'):DS (Ou O w w') N R M w' g q p m :=
 (h.below hb).own (fun b a=>a.elim (fun a=>Nat.lt_of_lt_of_le (h.olt b a) hb.size) (·.2)) (fun b a=>a.imp id fun d hx=>absurd (h.lt hx) (by omega)) (fun b hb=> .inl (h.ko b hb))
theorem DS.sub {O':Nat→Prop} (h:DS O N R M w g q p m) (d:∀b,O' b→O b) (e:∀b,b<5→O' b):DS O' N R M w g q p m:=h.own (fun b a=>h.olt b (d b a)) (fun b a=> .inl (d b a)) e
theorem DS.mono {N' R' i:Nat} (h:DS O N R M w g q p m) (e:N≤N') (j:R≤R') (o:M≤i):DS O N' R' i w g q p m where
 box:=h.box
 top:=h.top
 dir:=h.dir
 pend:=fun k a=>by obtain ⟨n,xs,h1,d⟩:=h.pend k a;exact ⟨n,xs,h1,by omega⟩
 pone:=h.pone
 seen:=fun k a=>by
  obtain ⟨⟨X,h1,d⟩,f⟩:=h.seen k a
  exact ⟨⟨X,h1.mono (Nat.add_le_add e j),d⟩,f.mono e⟩
 sett:=fun k a=>by
  obtain ⟨⟨X,h1,d⟩,f⟩:=h.sett k a
  exact ⟨⟨X,h1.mono (Nat.add_le_add e j),d⟩,f.mono e⟩
 file:=fun k x b a hb=>by
  obtain ⟨h1,d,f,l⟩:=h.file k x b a hb
  exact ⟨h1,d,by omega,l⟩
 one:=h.one
 off:=h.off
 mtop:=h.mtop
 mst:=h.mst
 msn:=h.msn
 mtt:=h.mtt
 mdir:=h.mdir
 olt:=h.olt
 ko:=h.ko
def Dm.vis (m:Dm):Dk:=fun k x=>(m.seen k x).map fun b=>(m.dat b).1
theorem DS.at (h:DS O N R M w g q p m) (i:N+R≤1000000):kR w g m.vis:=by
 refine ⟨p.top,3,_,ak.lt h.box,ak.range h.box 0 _ rfl,ak.range h.box 4 _ rfl,h.top,fun x hx=> ?_⟩
 cases f:cu x with
 | none=>exact .inl ⟨rfl,rfl⟩
 | some k =>
  have a:=(fJ f).1
  refine .inr ⟨p.dir k,k,rfl,rfl,p.sn k,N+R,m.seen k,ak.lt (h.dir k a),ak.range (h.dir k a) 0 _ rfl,(h.seen k a).1,i,fun y hy=> ?_⟩
  cases d:m.seen k y with
  | none=>exact .inl ⟨rfl,by unfold Dm.vis;rw [d];rfl⟩
  | some b =>
   have e:=h.file k y b a (.inl d)
   exact .inr ⟨b,(m.dat b).1,rfl,by unfold Dm.vis;rw [d];rfl,ak.lt e.1,ak.range e.1 0 _ rfl⟩
theorem DS.turned {k N' R':Nat} {f:ByteArray→Option Nat} {u:Value} {dt:Nat→ByteArray×Nat} (h:DS O N R M w g q p m) (r:k<3) (J:N≤N') (Q:R≤R') (v:Chg (fun b=>b=p.sn k∨b=p.dir k∨(p.pd k).ownBlock=some b) w w')
  (hm:aZ bF w' (p.sn k) (N'+R') f) (Y:fM N' f) (hd:GQ w' (p.dir k) (p.sn k) (p.st k) u) (U:PdR w' u R') (I:∀b,u.ownBlock=some b→(p.pd k).ownBlock=some b∨w.heap.size≤b) (K:∀b,b<w.heap.size→dt b=m.dat b)
  (P:∀x b,f x=some b→(∃y,m.seen k y=some b)∨(w.heap.size≤b∧uT w' b (dt b)∧(dt b).1.size≤M∧(dt b).2≤(dt b).1.size)) (h1:∀x y b,f x=some b→f y=some b→x=y) :
  DS O N' R' M w' g q { p with pd:=upN p.pd k u } { m with seen:=upN m.seen k f,dat:=dt }:=by
 have A:∀ {j x b},j<3→(m.seen j x=some b∨m.sett j x=some b)→uT w' b (dt b)∧ ¬O b∧(dt b).1.size≤M∧(dt b).2≤(dt b).1.size:=by
  intro j x b l hb
  obtain ⟨C,W,Z⟩:=h.file j x b l hb
  rw [K b (ak.lt C)]
  refine ⟨C.chg v ?_,W,Z⟩
  rintro (e|e|e)
  ·exact ak.gQ C (h.seen k r).1 e
  ·exact ak.ne C (h.dir k r) (by decide) e
  obtain ⟨n,xs,q1,_⟩:=h.pend k r
  exact jy q1 C (by decide) e
 have B:∀ {α:Type} {enc:α→Value} {b n:Nat} {F:ByteArray→Option α},aZ enc w b n F→(p.pd k).ownBlock≠some b:=fun V=>by
  obtain ⟨n,xs,q1,_⟩:=h.pend k r
  exact qL q1 V
 have E:∀ {b:Nat} {t:TypeId} {cs:List Value},ak w b t cs→114≠t→(p.pd k).ownBlock≠some b:=fun S s=>by
  obtain ⟨n,xs,q1,_⟩:=h.pend k r
  exact jy q1 S s
 refine ⟨h.box.chg v ?_,h.top.chg v ?_,fun j l=> ?_,fun j l=> ?_,fun i j b hi l o d=> ?_,fun j l=> ?_,fun j l=> ?_,fun j x b l hb=> ?_,fun i j x y b hi l o d=> ?_,?_,h.mtop,h.mst,h.msn,h.mtt,h.mdir,fun b hb=>Nat.lt_of_lt_of_le (h.olt b hb) v.size,h.ko⟩
 ·rintro (e|e|e)
  ·exact ak.gQ h.box (h.seen k r).1 e
  ·exact ak.ne h.box (h.dir k r) (by decide) e
  exact E h.box (by decide) e
 ·rintro (e|e|e)
  ·exact (h.mtop k r).1 e
  ·exact ak.gQ (h.dir k r) h.top e.symm
  exact B h.top e
 ·show GQ w' (p.dir j) (p.sn j) (p.st j) (upN p.pd k u j)
  by_cases e:j=k
  ·subst e;rw [aI];exact hd
  rw [aF e]
  refine (h.dir j l).chg v ?_
  rintro (d|d|d)
  ·exact ak.gQ (h.dir j l) (h.seen k r).1 d
  ·exact e (h.mdir j k l r d)
  exact E (h.dir j l) (by decide) d
 ·show PdR w' (upN p.pd k u j) R'
  by_cases e:j=k
  ·subst e;rw [aI];exact U
  rw [aF e]
  obtain ⟨n,xs,q1,q2⟩:=h.pend j l
  refine ⟨n,xs,kF q1 v ?_,by omega⟩
  rintro b hb (d|d|d)
  ·subst d;exact qL q1 (h.seen k r).1 hb
  ·subst d;exact jy q1 (h.dir k r) (by decide) hb
  exact e (h.pone j k b l r hb d)
 ·have D:∀ {j},j<3→j≠k→ ∀b,(p.pd j).ownBlock=some b→u.ownBlock≠some b:=by
   intro j l s b o d
   rcases I b d with G|G
   ·exact s (h.pone j k b l r o G)
   obtain ⟨n,xs,q1,_⟩:=h.pend j l
   exact absurd (Mf q1 o) (by omega)
  have o:(upN p.pd k u i).ownBlock=some b:=o
  have d:(upN p.pd k u j).ownBlock=some b:=d
  by_cases a:i=k
  ·by_cases c:j=k
   ·omega
   rw [a,aI] at o
   rw [aF c] at d
   exact absurd o (D l c b d)
  by_cases c:j=k
  ·rw [aF a] at o
   rw [c,aI] at d
   exact absurd d (D hi a b o)
  rw [aF a] at o
  rw [aF c] at d
  exact h.pone i j b hi l o d
 ·show aZ bF w' (p.sn j) (N'+R') (upN m.seen k f j)∧fM N' (upN m.seen k f j)
  by_cases e:j=k
  ·subst e;rw [aI];exact ⟨hm,Y⟩
  rw [aF e]
  obtain ⟨⟨X,q1,q2⟩,H⟩:=h.seen j l
  refine ⟨aZ.chg ⟨X,q1.mono (Nat.add_le_add J Q),q2⟩ v ?_,H.mono J⟩
  rintro (d|d|d)
  ·exact e (h.msn j k l r d)
  ·exact ak.gQ (h.dir k r) (h.seen j l).1 d.symm
  exact B (h.seen j l).1 d
 ·obtain ⟨⟨X,q1,q2⟩,H⟩:=h.sett j l
  refine ⟨aZ.chg ⟨X,q1.mono (Nat.add_le_add J Q),q2⟩ v ?_,H.mono J⟩
  rintro (d|d|d)
  ·exact h.mst k j r l d.symm
  ·exact ak.gQ (h.dir k r) (h.sett j l).1 d.symm
  exact B (h.sett j l).1 d
 ·have hb:upN m.seen k f j x=some b∨m.sett j x=some b:=hb
  rcases hb with hb|hb
  ·by_cases e:j=k
   ·rw [e,aI] at hb
    rcases P x b hb with ⟨y,hy⟩|⟨q1,q2,H⟩
    ·exact A r (.inl hy)
    exact ⟨q2,fun L=>absurd (h.olt b L) (by omega),H⟩
   rw [aF e] at hb;exact A l (.inl hb)
  exact A l (.inr hb)
 ·have D:∀ {j},j<3→j≠k→ ∀x y b,m.seen j x=some b→f y≠some b:=by
   intro j l s x y b o d
   rcases P y b d with ⟨z,T⟩|⟨q1,_⟩
   ·exact s (h.one j k x z b l r o T).1
   exact absurd (ak.lt (h.file j x b l (.inl o)).1) (by omega)
  have o:upN m.seen k f i x=some b:=o
  have d:upN m.seen k f j y=some b:=d
  by_cases a:i=k
  ·by_cases c:j=k
   ·rw [a,aI] at o
    rw [c,aI] at d
    exact ⟨by omega,h1 x y b o d⟩
   rw [a,aI] at o
   rw [aF c] at d
   exact absurd o (D l c y x b d)
  by_cases c:j=k
  ·rw [aF a] at o
   rw [c,aI] at d
   exact absurd d (D hi a x y b o)
  rw [aF a] at o
  rw [aF c] at d
  exact h.one i j x y b hi l o d
 refine ⟨h.off.1,h.off.2.1,h.off.2.2.1,fun j b l hb=> ?_⟩
 have hb:(upN p.pd k u j).ownBlock=some b:=hb
 by_cases e:j=k
 ·rw [e,aI] at hb
  rcases I b hb with G|G
  ·exact h.off.2.2.2 k b r G
  exact fun L=>absurd (h.olt b L) (by omega)
 rw [aF e] at hb;exact h.off.2.2.2 j b l hb
theorem DS.data {k fb:Nat} {x:ByteArray} {d:ByteArray×Nat} (h:DS O N R M w g q p m) (C:k<3) (hx:m.seen k x=some fb) (i:Chg (fun b=>b=fb) w w') (u:uT w' fb d) (v:d.1.size≤M) (A:d.2≤d.1.size):DS O N R M w' g q p { m with dat:=upN m.dat fb d }:=by
 have o:=(h.file k x fb C (.inl hx)).1
 have f:∀ {α:Type} {enc:α→Value} {b n:Nat} {F:ByteArray→Option α},aZ enc w b n F→b≠fb:=fun z e=>ak.gQ o z e.symm
 have l:∀ {b:Nat} {t:TypeId} {cs:List Value},ak w b t cs→t≠120→b≠fb:=fun s r=>ak.ne s o r
 refine ⟨h.box.chg i (l h.box (by decide)),h.top.chg i (f h.top),fun j a=>(h.dir j a).chg i (l (h.dir j a) (by decide)),fun j a=> ?_,h.pone,fun j a=>⟨(h.seen j a).1.chg i (f (h.seen j a).1),(h.seen j a).2⟩,fun j a=>⟨(h.sett j a).1.chg i (f (h.sett j a).1),(h.sett j a).2⟩,fun j y b a hb=> ?_,h.one,h.off,h.mtop,h.mst,h.msn,h.mtt,h.mdir,fun b hb=>Nat.lt_of_lt_of_le (h.olt b hb) i.size,h.ko⟩
 ·obtain ⟨n,xs,q1,q2⟩:=h.pend j a
  exact ⟨n,xs,kF q1 i (fun b hb e=>jy q1 o (by decide) (e▸hb)),q2⟩
 obtain ⟨q1,q2,B⟩:=h.file j y b a hb
 show uT w' b (upN m.dat fb d b)∧ ¬O b∧(upN m.dat fb d b).1.size≤M∧(upN m.dat fb d b).2≤(upN m.dat fb d b).1.size
 by_cases e:b=fb
 ·rw [e,aI];exact ⟨u,e▸q2,v,A⟩
 rw [aF e];exact ⟨q1.chg i e,q2,B⟩
theorem DS.settled {k:Nat} (h:DS O N R M w g q p m) (l:k<3) (o:Chg (fun b=>b=p.st k∨b=p.dir k) w w') (hm:aZ bF w' (p.st k) (N+R) (m.seen k)) (hd:GQ w' (p.dir k) (p.sn k) (p.st k) (.slice none 0 0)) :
  DS O N R M w' g q { p with pd:=upN p.pd k (.slice none 0 0) } { m with sett:=upN m.sett k (m.seen k) }:=by
 have r:∀ {b:Nat} {t:TypeId} {cs:List Value},ak w b t cs→t≠83→ ¬(b=p.st k∨b=p.dir k):=fun z y hx=>hx.elim (ak.gQ z (h.sett k l).1) (ak.ne z (h.dir k l) y)
 have s:∀ {α:Type} {enc:α→Value} {b n:Nat} {F:ByteArray→Option α},aZ enc w b n F→b≠p.dir k:=fun A e=>ak.gQ (h.dir k l) A e.symm
 refine ⟨h.box.chg o (r h.box (by decide)),h.top.chg o (fun hx=>hx.elim (h.mtop k l).2 (s h.top)),fun j d=> ?_,fun j d=> ?_,fun i j b hi d u f=> ?_,fun j d=>⟨(h.seen j d).1.chg o (fun hx=>hx.elim (h.mst j k d l) (s (h.seen j d).1)),(h.seen j d).2⟩,fun j d=> ?_,fun j x b d hb=> ?_,h.one,⟨h.off.1,h.off.2.1,h.off.2.2.1,fun j b d hb=> ?_⟩,h.mtop,h.mst,h.msn,h.mtt,h.mdir,fun b hb=>Nat.lt_of_lt_of_le (h.olt b hb) o.size,h.ko⟩
 ·show GQ w' (p.dir j) (p.sn j) (p.st j) (upN p.pd k (.slice none 0 0) j)
  by_cases e:j=k
  ·subst e;rw [aI];exact hd
  rw [aF e]
  exact (h.dir j d).chg o (fun hx=>hx.elim (ak.gQ (h.dir j d) (h.sett k l).1) fun f=>e (h.mdir j k d l f))
 ·show PdR w' (upN p.pd k (.slice none 0 0) j) R
  by_cases e:j=k
  ·rw [e,aI];exact ⟨0,[],World.ownsRow_nil w' _ _ _,Nat.zero_le _⟩
  rw [aF e]
  obtain ⟨n,xs,q1,q2⟩:=h.pend j d
  exact ⟨n,xs,kF q1 o (fun b hb hx=>hx.elim (fun f=>qL q1 (h.sett k l).1 (f▸hb)) fun f=>jy q1 (h.dir k l) (by decide) (f▸hb)),q2⟩
 ·have u:(upN p.pd k (.slice none 0 0) i).ownBlock=some b:=u
  have f:(upN p.pd k (.slice none 0 0) j).ownBlock=some b:=f
  by_cases a:i=k
  ·rw [a,aI] at u;cases u
  by_cases c:j=k
  ·rw [c,aI] at f;cases f
  rw [aF a] at u
  rw [aF c] at f
  exact h.pone i j b hi d u f
 ·show aZ bF w' (p.st j) (N+R) (upN m.sett k (m.seen k) j)∧fM N (upN m.sett k (m.seen k) j)
  by_cases e:j=k
  ·subst e;rw [aI];exact ⟨hm,(h.seen j d).2⟩
  rw [aF e]
  exact ⟨(h.sett j d).1.chg o (fun hx=>hx.elim (fun f=>e (h.mtt j k d l f)) (s (h.sett j d).1)),(h.sett j d).2⟩
 ·have hb:m.seen j x=some b∨upN m.sett k (m.seen k) j x=some b:=hb
  have v:m.seen j x=some b∨m.sett j x=some b:=by
   rcases hb with hb|hb
   ·exact .inl hb
   by_cases e:j=k
   ·subst e;rw [aI] at hb;exact .inl hb
   rw [aF e] at hb;exact .inr hb
  obtain ⟨q1,q2,B⟩:=h.file j x b d v
  exact ⟨q1.chg o (r q1 (by decide)),q2,B⟩
 have hb:(upN p.pd k (.slice none 0 0) j).ownBlock=some b:=hb
 by_cases e:j=k
 ·rw [e,aI] at hb;cases hb
 rw [aF e] at hb;exact h.off.2.2.2 j b d hb
end
abbrev LK:=Nat→ByteArray→Option (ByteArray×Nat)
def LK.put (L:LK) (k:Nat) (x:ByteArray) (v:Option (ByteArray×Nat)):LK:=fun j y=>if j=k∧y=x then v else L j y
def LK.dk (L:LK):Dk:=fun k x=>(L k x).map (·.1)
theorem LK.bT (L:LK) (k:Nat) (x:ByteArray) (v:Option (ByteArray×Nat)):L.put k x v k x=v:=if_pos ⟨rfl,rfl⟩
theorem LK.aH {L:LK} {k:Nat} {x:ByteArray} {v:Option (ByteArray×Nat)} {j:Nat} {y:ByteArray} (h:¬(j=k∧y=x)):L.put k x v j y=L j y:=if_neg h
def DV (O:Nat→Prop) (N R M:Nat) (w:World) (g:Nat) (q:Int) (L:LK) (sy:Nat→Bool):Prop :=
 ∃p m,DS O N R M w g q p m∧(∀k x,k<3→L k x=(m.seen k x).map m.dat)∧ ∀k,k<3→sy k=true→m.sett k=m.seen k
section
variable {O S:Nat → Prop} {N R M:Nat} {w w':World} {g:Nat} {q:Int} {L:LK} {sy:Nat → Bool}
theorem DV.chg (h:DV O N R M w g q L sy) (a:Chg S w w') (hS:∀b,S b→O b):DV O N R M w' g q L sy:=by obtain ⟨p,m,h1,d⟩:=h;exact ⟨p,m,h1.chg a hS,d⟩
theorem DV.below (h:DV O N R M w g q L sy) (hb:Below w.heap.size w w'):DV O N R M w' g q L sy:=by obtain ⟨p,m,h1,a⟩:=h;exact ⟨p,m,h1.below hb,a⟩
theorem DV.on (h:DV O N R M w g q L sy) (hb:Below w.heap.size w w'):DV (Ou O w w') N R M w' g q L sy:=by obtain ⟨p,m,h1,a⟩:=h;exact ⟨p,m,h1.on hb,a⟩
theorem DV.sub {O':Nat→Prop} (h:DV O N R M w g q L sy) (d:∀b,O' b→O b) (e:∀b,b<5→O' b):DV O' N R M w g q L sy:=by obtain ⟨p,m,h1,a⟩:=h;exact ⟨p,m,h1.sub d e,a⟩
theorem DV.mono {N' R' a:Nat} (h:DV O N R M w g q L sy) (e:N≤N') (f:R≤R') (b:M≤a):DV O N' R' a w g q L sy:=by obtain ⟨p,m,h1,d⟩:=h;exact ⟨p,m,h1.mono e f b,d⟩
theorem DV.olt (h:DV O N R M w g q L sy):∀b,O b→b<w.heap.size:=by obtain ⟨p,m,h1,a⟩:=h;exact h1.olt
theorem DV.ko (h:DV O N R M w g q L sy):∀b,b<5→O b:=by obtain ⟨p,m,h1,a⟩:=h;exact h1.ko
theorem DV.at (h:DV O N R M w g q L sy) (b:N+R≤1000000):∃d:Dk,kR w g d∧ ∀k x,k<3→d k x=L.dk k x:=by
 obtain ⟨p,m,h1,a,_⟩:=h
 refine ⟨m.vis,h1.at b,fun k x e=> ?_⟩
 unfold Dm.vis LK.dk
 rw [a k x e]
 cases m.seen k x<;>rfl
theorem DV.size (h:DV O N R M w g q L sy) {k:Nat} {x:ByteArray} {v:ByteArray×Nat} (e:k<3) (a:L k x=some v):v.1.size≤M∧v.2≤v.1.size∧aU x=true:=by
 obtain ⟨p,m,h1,i,_⟩:=h
 rw [i k x e] at a
 cases d:m.seen k x with
 | none=>rw [d] at a;cases a
 | some b =>
  rw [d] at a
  cases a
  have f:=(h1.file k x b e (.inl d)).2.2
  obtain ⟨n,_,_,l,j⟩:=(h1.seen k e).2
  exact ⟨f.1,f.2,l x ((j x).1 (by rw [d];rfl))⟩
theorem DV.names (h:DV O N R M w g q L sy) {k:Nat} (e:k<3):∃l:List ByteArray,rV l∧l.length≤N∧(∀x∈l,aU x=true)∧ ∀x,x∈l↔(L.dk k x).isSome=true:=by
 obtain ⟨p,m,h1,n,_⟩:=h
 obtain ⟨j,o,u,s,r⟩:=(h1.seen k e).2
 have i:∀l:List ByteArray,l.Nodup→(l.foldr qH []).length≤l.length∧rV (l.foldr qH [])∧ ∀x,x∈l.foldr qH []↔x∈l:=by
  intro l
  induction l with
  | nil=>exact fun _=>⟨Nat.le_refl _,List.Pairwise.nil,fun _=>Iff.rfl⟩
  | cons y l ih =>
   intro f
   obtain ⟨t,b,a⟩:=ih (List.nodup_cons.1 f).2
   have d:∀(x:ByteArray) (l:List ByteArray),(qH x l).length≤l.length+1:=by
    intro x l
    induction l with
    | nil=>simp [qH]
    | cons y l ih=>unfold qH;split<;>(try split)<;>simp<;>omega
   rw [List.foldr_cons]
   refine ⟨?_,Dx _ _ b,fun x=>by rw [xI,a,List.mem_cons]⟩
   have:=d y (l.foldr qH [])
   rw [List.length_cons];omega
 obtain ⟨t,b,a⟩:=i j o
 refine ⟨_,b,by omega,fun x hx=>s x ((a x).1 hx),fun x=> ?_⟩
 rw [a,←r]
 unfold LK.dk
 rw [n k x e]
 cases m.seen k x<;>rfl
end
theorem eP.kp {O:Nat→Prop} {w w':World} (h:eP w) (a:Kp O w w') (e:∀b,b<5→O b):eP w':=by
 have f:=h.laid.lt
 have hb:Below 5 w w':=⟨a.os,a.tape,a.output,a.size,fun k d=>a.block (Nat.lt_of_lt_of_le d f) (e k d)⟩
 exact h.jX hb (Nat.le_refl _)
theorem dR {x:ByteArray} (h:aU x=true):x.size≤80:=by
 unfold aU at h
 simp only [Bool.and_eq_true,decide_eq_true_eq] at h
 exact h.2
theorem rF {k:Nat}:(bG k).size≤maxLen:=by
 unfold bG maxLen
 split
 ·decide
 split<;>decide
section
variable {O:Nat → Prop} {N R M:Nat} {g:Nat} {q:Int} {p:Pl} {m:Dm}
theorem jV (w:World) (h:DS O N R M w g q p m) {k:Nat} (j:k<3) (a:Option Addr) (n c:Nat) (i:Calls prog 185 #[.slice a n c,.func (.func 186) #[] #[]] w fun e w'=>e= .returned (.bool false)∧Below w.heap.size w w') :
  Calls prog 118 #[.pointer (some ⟨g,0,none⟩),.string (bG k),.slice a n c] w fun e w'=>e= .returned (.tuple #[.pointer (some ⟨p.dir k,0,none⟩),.int .i64 0])∧Below w.heap.size w w':=by
 have l:=ah i
 have s:w.cell? ⟨g,0,none⟩=some (.map (some p.top)):=ak.range h.box 0 _ rfl
 have c4:w.cell? ⟨g,4,none⟩=some (.bool false):=ak.range h.box 4 _ rfl
 have o:=ak.lt h.box
 have b:=h.top.look underlying75 (ql w) (x:=bG k) rF
 rw [gV j] at b
 dsimp only [Option.map,Option.getD,bF] at b
 have f:=ah (fun (w':World) (hb:Below w.heap.size w w')=>au c4 hb o)
 clear h i c4 j
 generalize p.dir k=r at b ⊢
 generalize bG k=dn at b ⊢
 go_enter func118,ntmps118
 go_wp2_with fail
 refine l.out.mono ?_
 rintro e w1 ⟨rfl,d⟩
 have c4:=f.out w1 d
 go_wp2_with fail
 go_ret2
 exact ⟨rfl,d⟩
theorem ow (w:World) (h:DS O N R M w g q p m):Calls prog 183 #[.pointer (some ⟨g,0,none⟩)] w fun e w'=>e= .returned (.int .i64 0)∧w'=w:=by
 have c3:w.cell? ⟨g,3,none⟩=some (.bool false):=ak.range h.box 3 _ rfl
 clear h
 go_enter func183,ntmps183
 go_wp2_with fail
 go_ret
 exact ⟨rfl,rfl⟩
end
theorem Jb (b:Nat) (x y:ByteArray) (w:World) (k:w.cell? ⟨b,0,none⟩=some (.string x)) (hd:w.cell? ⟨b,1,none⟩=some (.string y)) (hx:x.size≤1000000000) (hy:y.size≤1000000000) (g:aU x=true) (i:aU y=true):Calls prog 231 #[.slice (some ⟨b,0,none⟩) 2 2,.func (.func 186) #[] #[]] w fun e w'=>e= .returned (.int .i64 (-1))∧Below w.heap.size w w':=by
 have j:=ah (yw x w hx)
 have h:=ah (fun W=>yw y W hy)
 have f:b<w.heap.size:=World.block_lt_of_cell? w _ k
 have l:=ah (fun (w':World) (hb:Below w.heap.size w w')=>au hd hb f)
 rw [g] at j
 rw [i] at h
 clear g i hd
 go_enter func231,ntmps231
 go_wp2_with fail
 refine wp_loop_rounds 3 ?_
 rw [rounds_succ]
 go_wp2_with fail
 refine j.out.mono ?_
 rintro e w1 ⟨rfl,a⟩
 have hd:=l.out w1 a
 go_wp2_with fail
 rw [rounds_succ]
 go_wp2_with fail
 refine (h.out w1).mono ?_
 rintro e m ⟨rfl,d⟩
 go_wp2_with fail
 rw [rounds_succ]
 go_wp2_with fail
 go_ret
 exact ⟨rfl,a.trans (d.mono a.size)⟩
theorem Jh (b:Nat) (x y:ByteArray) (w:World) (d:w.cell? ⟨b,0,none⟩=some (.string x)) (hd:w.cell? ⟨b,1,none⟩=some (.string y)) (f:aU x=true) (g:aU y=true):Calls prog 185 #[.slice (some ⟨b,0,none⟩) 2 2,.func (.func 186) #[] #[]] w fun e w'=>e= .returned (.bool false)∧Below w.heap.size w w':=by
 have h:=ah (Jb b x y w d hd (by have:=dR f;omega) (by have:=dR g;omega) f g)
 clear d hd
 go_enter func185,ntmps185
 go_wp2_with fail
 refine h.out.mono ?_
 rintro e w' ⟨rfl,a⟩
 go_wp2_with fail
 go_ret
 exact ⟨rfl,a⟩
theorem Ql:(prog.info? 114).map (fun i=>(i.zero,i.size,i.bytes))=some (some .nilFunc,1,8):=by kernel_rfl
theorem sj {ops:Array Oper} {rest:List Oper} {o:Oper} {a:Act} {Q:Exit→Act→World→Prop} (w:World) (q:o.guard=none) (s x:Operand) (f:o.op=Op.call { callee:=Callee.builtin Builtin.append,args:=#[s,x],argTypes:=#[81,81] })
  (v:Value) (n:Nat) (xs:List Value) (l:a.eval s=v) (d:w.ownsRow 0 114 1 v n xs) (b:Nat) (k:Value) (hx:a.eval x= .slice (some ⟨b,0,none⟩) 1 1) (m:w.cell? ⟨b,0,none⟩=some k) (h1:k.oneCell'=true) (t:n≤10000000)
  (p:∀h w',w'.ownsRow 0 114 1 h (n+1) (xs++[k])→w.grownBy w' v.ownBlock→Fr w v h→wpList prog ops Q rest (a.put o.dst h) w'):wpList prog ops Q (o::rest) a w:=by
 obtain ⟨r,hi,i,e,g⟩:=info_parts Ql
 refine r9 w q s x 81 f 0 114 r _ 1 8 underlying81 hi i e g rfl (by decide) v n xs l d ⟨b,0,none⟩ 1 1 [k] hx rfl (fun j u hu=> ?_) (fun u hu=> ?_) (by unfold maxLen;omega) (by omega) (Nat.zero_le _) p
 ·match j,hu with
  | 0,hu=>simp at hu;subst hu;rw [Addr.add_mid];exact m
 simp at hu;subst hu;exact h1
section
variable {O:Nat → Prop} {N R M:Nat} {g:Nat} {q:Int} {p:Pl} {m:Dm}
theorem yI (w0 w:World) (h:DS O N R M w0 g q p m) (hb:Below w0.heap.size w0 w) {k N':Nat} (s:k<3) (hN:N≤N') (hR:R≤1000000) {f:ByteArray→Option Nat} {dt:Nat→ByteArray×Nat} (fn:FuncId) (cs:Array Value) (ar:∀args w,Sem.run prog (callFunc fn args) w= .ok (.enter fn args) w)
  (ac:Calls prog fn (#[.map (some (p.sn k))]++cs) w fun e w'=>e= .returned (.tuple #[])∧aZ bF w' (p.sn k) (N'+(R+1)) f∧w.grownBy w' (some (p.sn k))) (hn:fM N' f) (ab:∀b,b<w0.heap.size→dt b=m.dat b)
  (hf:∀x b,f x=some b→(∃y,m.seen k y=some b)∨(w0.heap.size≤b∧uT w b (dt b)∧(dt b).1.size≤M∧(dt b).2≤(dt b).1.size)) (h1:∀x y b,f x=some b→f y=some b→x=y) :
  Calls prog 270 #[.pointer (some ⟨g,0,none⟩),.pointer (some ⟨p.dir k,0,none⟩),.func (.func fn) #[] cs] w fun e w'=>e= .returned (.int .i64 0)∧ ∃pv,DS O N' (R+1) M w' g q { p with pd:=upN p.pd k pv } { m with seen:=upN m.seen k f,dat:=dt }∧Kp O w0 w':=by
 have hw:=h.below hb
 have HB:=ah (ow w hw)
 have c0:w.cell? ⟨p.dir k,0,none⟩=some (.map (some (p.sn k))):=ak.range (hw.dir k s) 0 _ rfl
 go_enter func270,ntmps270
 go_wp2_with fail
 refine HB.out.mono ?_
 rintro e w1 ⟨rfl,rfl⟩
 have an:=hw.pend k s
 have HD:=ah ac
 have X:=ah hw
 have P:=ah hb
 have HF:=ah hf
 have H1:=ah h1
 have HN:=ah hn
 have am:=ah ab
 have Z:=ah h
 clear ac hw hb hf h1 hn ab h
 go_wp2_with fail
 refine HD.out.mono ?_
 rintro e F ⟨rfl,af,ae⟩
 have E:Chg (fun b=>b=p.sn k) w1 F:=Chg.gF ae (fun b e=>(Option.some.inj e).symm)
 have i:=(X.out.dir k s).chg E (fun e=>ak.gQ (X.out.dir k s) (X.out.seen k s).1 e)
 obtain ⟨n,xs,r,ad⟩:=an
 have a:=kF r E (fun b hb e=>qL r (X.out.seen k s).1 (e▸hb))
 have ag:=ah r
 have al:Hid (X.out.pend k s=X.out.pend k s):=ah rfl
 obtain ⟨ao,A⟩:∃v,p.pd k=v:=⟨_,rfl⟩
 rw [A] at i a
 obtain ⟨oo,oc,rfl⟩:=bO a
 obtain ⟨W,hW⟩:∃W,F.alloc (.cells #[.func (.func fn) #[] cs] 114)=W:=⟨_,rfl⟩
 have u:Below F.heap.size F W:=by rw [←hW];exact bal
 have c2:F.cell? ⟨p.dir k,2,none⟩=some (.slice oo n oc):=i.range 2 _ rfl
 have cW:W.cell? ⟨F.heap.size,0,none⟩=some (.func (.func fn) #[] cs):=by rw [←hW];exact (ak.new F 114 [.func (.func fn) #[] cs]).range 0 _ rfl
 have C:=ah (kF a (Chg.of_below (S:=fun _=>False) u) (fun _ _ h=>h))
 have U:=ah (ak.below i u)
 have J:=ah (af.on u)
 have L:=ah E
 have K:=ah u
 have Q:=ah A
 have I:=ah ad
 have aa:=ah hW
 clear af ae E i r a hW u A ad HB HD al
 go_wp2_with (rw [aa.out];refine sj _ rfl _ _ rfl _ n xs rfl C.out F.heap.size _ rfl cW rfl (by have:=I.out;omega) ?_)
 intro V w3 d B G
 have H:∀ {b:Nat} {t:TypeId} {cs:List Value},ak W b t cs→114≠t→some b≠(Value.slice oo n oc).ownBlock:=fun hB ai e=>jy C.out hB ai e.symm
 have z:=U.out.kept B (H U.out (by decide))
 have T:=J.out.grown B (fun e=>qL C.out J.out e.symm)
 have hS:∀b,(b=p.sn k∨b=p.dir k∨(p.pd k).ownBlock=some b)→b<w0.heap.size:=fun b hb=>Z.out.lt (.inr (.inr (.inl ⟨k,s,hb.elim (fun e=> .inr (.inl e)) fun hb=>hb.elim .inl fun e=> .inr (.inr (.inr e))⟩)))
 have o:Chg (fun b=>b=p.dir k) w3 (w3.setCell ⟨p.dir k,2,none⟩ V):=⟨rfl,rfl,rfl,by simp [World.setCell],fun j _ hj=>Below.heap_setCell _ _ _ _ hj⟩
 have l:Chg (fun b=>b=p.sn k∨b=p.dir k∨(p.pd k).ownBlock=some b) w1 (w3.setCell ⟨p.dir k,2,none⟩ V) :=
  (((L.out.mono fun b _ e=> .inl e).trans (Chg.of_below K.out)).trans (Chg.gF B fun b e=> .inr (.inr (by rw [Q.out];exact e)))).trans (o.mono fun b _ e=> .inr (.inl e))
 have HE:Hid (∃pv,DS O N' (R+1) M (w3.setCell ⟨p.dir k,2,none⟩ V) g q { p with pd:=upN p.pd k pv } { m with seen:=upN m.seen k f,dat:=dt }∧Kp O w0 (w3.setCell ⟨p.dir k,2,none⟩ V)):=ah ⟨V,Z.out.turned s hN (Nat.le_succ R) ((Chg.of_below P.out).trans l) (T.chg o fun e=>ak.gQ z T e.symm) HN.out (z.put 2 V)
   ⟨n+1,_,kF d o (fun b hb e=>jy d z (by decide) (e▸hb)),by have:=I.out;omega⟩ (fun b hb=>G.elim (fun e=> .inl (by rw [Q.out,←e];exact hb)) fun hf=> .inr (by have h1:=hf b hb;have h2:=P.out.size;have h3:=L.out.size;have h4:=K.out.size;omega)) am.out
   (fun x b hx=>(HF.out x b hx).imp id fun ⟨q1,q2,q3⟩=>⟨q1,q2.chg l (fun hb=>by have:=hS b hb;omega),q3⟩) H1.out,
  (Kp.of P.out).trans (l.mono fun b _ hb ho=>by
   rcases hb with rfl|rfl|hb
   ·exact (Z.out.off.2.2.1 k s).2.1 ho
   ·exact (Z.out.off.2.2.1 k s).1 ho
   exact Z.out.off.2.2.2 k b s hb ho)⟩
 have D:=z.there 2 (by simp)
 rw [Nat.zero_add] at D
 have Y:=D.1
 have aq:=D.2
 obtain ⟨v0,ap⟩:=Option.isSome_iff_exists.1 Y
 clear H T hS o l D Y G B ag C U J L K Q I aa z c2 cW
 obtain ⟨o3,c3,rfl⟩:=bO d
 clear d
 go_wp2_with fail
 go_ret
 exact ⟨rfl,HE.out⟩
end
theorem Et (x:ByteArray) (w:World):Calls prog 306 #[.string x] w fun e w'=> ∃q u o,e= .returned (.func (.func 312) #[] #[.pointer (some ⟨q,0,none⟩),.pointer (some ⟨u,0,none⟩)])∧w'.cell? ⟨q,0,none⟩=some (.pointer (some ⟨o,0,none⟩))∧w'.cell? ⟨u,0,none⟩=some (.string x)∧uT w' o (⟨#[]⟩,0)∧w.heap.size≤o∧Below w.heap.size w w':=by
 have v:∀w,(Instr.build 120 #[]).run prog w= .ok (.agg #[.string ⟨#[]⟩,.int .i64 0]) w:=fun w=>run_build w 120 _ _ (by kernel_rfl)
 have p:=ah (ak.new w 9 [.string x])
 obtain ⟨i,a⟩:∃W,w.alloc (.cells #[.string x] 9)=W:=⟨_,rfl⟩
 have m:Below w.heap.size w i:=by rw [←a];exact bal
 have h:i.heap.size=w.heap.size+1:=by rw [←a];simp
 have r:=ah (ak.new i 120 (fiC (⟨#[]⟩,0)))
 obtain ⟨j,b⟩:∃W,i.alloc (.cells #[.string ⟨#[]⟩,.int .i64 0] 120)=W:=⟨_,rfl⟩
 have g:Below i.heap.size i j:=by rw [←b];exact bal
 have l:j.heap.size=w.heap.size+1+1:=by rw [←b,←h];simp
 have t:=ah (ak.new j 116 [.pointer (some ⟨w.heap.size+1,0,none⟩)])
 obtain ⟨k,d⟩:∃W,j.alloc (.cells #[.pointer (some ⟨w.heap.size+1,0,none⟩)] 116)=W:=⟨_,rfl⟩
 have f:Below j.heap.size j k:=by rw [←d];exact bal
 have s:ak k (w.heap.size+1+1) 116 [.pointer (some ⟨w.heap.size+1,0,none⟩)]∧ak k w.heap.size 9 [.string x]∧uT k (w.heap.size+1) (⟨#[]⟩,0)∧Below w.heap.size w k:=by
  refine ⟨by rw [←l,←d];exact t.out,((ak.below (by rw [←a];exact p.out) g).below f),(ak.below (by rw [←h,←b];exact r.out) f),(m.trans (g.mono (by omega))).trans (f.mono (by omega))⟩
 have n:=ah s
 have y:Hid (((w.alloc (.cells #[.string x] 9)).alloc (.cells #[.string ⟨#[]⟩,.int .i64 0] 120)).alloc (.cells #[.pointer (some ⟨w.heap.size+1,0,none⟩)] 116)=k):=ah (by rw [a,b,d])
 clear a b d m g f h l p r t s
 go_enter func306,ntmps306
 go_wp2_with fail
 rw [y.out]
 go_ret
 exact ⟨_,_,_,rfl,n.out.1.range 0 _ rfl,n.out.2.1.range 0 _ rfl,n.out.2.2.1,by omega,n.out.2.2.2⟩
theorem Cq (sn i j d n:Nat) (x:ByteArray) (f:ByteArray→Option Nat) (w:World) (hm:aZ bF w sn n f) (c1:w.cell? ⟨i,0,none⟩=some (.pointer (some ⟨d,0,none⟩))) (c2:w.cell? ⟨j,0,none⟩=some (.string x)) (hx:x.size≤maxLen) (l:n≤1000000) :
  Calls prog 312 #[.map (some sn),.pointer (some ⟨i,0,none⟩),.pointer (some ⟨j,0,none⟩)] w fun e w'=>e= .returned (.tuple #[])∧aZ bF w' sn (n+1) (fun y=>if y=x then some d else f y)∧w.grownBy w' (some sn):=by
 have k:=ah hm
 clear hm
 go_enter func312,ntmps312
 go_wp2_with (refine mo (enc:=bF) rfl _ _ _ 80 116 rfl underlying80 sn n f rfl k.out x hx d rfl rfl (by unfold maxLen;omega) ?_)
 intro w' a b
 have g:=ah a
 have h:=ah b
 clear a b
 go_wp2_with fail
 go_end0
 exact ⟨rfl,g.out,h.out⟩
theorem uY {α:Type} {enc:α→Value} {w:World} {ops:Array Oper} {rest:List Oper} {o:Oper} {a:Act} {Q:Exit→Act→World→Prop} (z:o.guard=none) (m x:Operand) (t e:TypeId) (i:o.op=Op.call { callee:=Callee.builtin Builtin.delete,args:=#[m,x],argTypes:=#[t,9] })
  (v:prog.underlying t=some (.map 9 e)) (b n:Nat) (f:ByteArray→Option α) (hm:a.eval m= .map (some b)) (d:aZ enc w b n f) (p:ByteArray) (l:p.size≤maxLen) (hx:a.eval x= .string p)
  (s:∀w',aZ enc w' b n (fun q=>if q=p then none else f q)→w.grownBy w' (some b)→wpList prog ops Q rest (a.put o.dst (.tuple #[])) w'):wpList prog ops Q (o::rest) a w:=by
 obtain ⟨D,d,k⟩:=d
 refine wpList_delete_own w z m x t 9 i e eG v eO b n D hm d (.string p) (iQ p) hx (jq l) fun w' h1 r=>s w' ⟨_,h1,fun y hy=> ?_⟩ r.grown
 dsimp only
 by_cases j:y=p
 ·subst j
  rw [if_pos rfl]
  exact ⟨has_del_same,fun _ h=>by cases h⟩
 have g:iQ y≠iQ p:=fun h=>j (qR h)
 rw [if_neg j]
 exact ⟨by rw [has_del_other g];exact (k y hy).1,fun o u zd=>by rw [atKey_del_other g];exact (k y hy).2 o u zd⟩
theorem BI (sn h C n fb:Nat) (x y:ByteArray) (f:ByteArray→Option Nat) (w:World) (hm:aZ bF w sn n f) (p:f x=some fb) (d:x≠y) (c1:w.cell? ⟨h,0,none⟩=some (.string x)) (c2:w.cell? ⟨C,0,none⟩=some (.string y)) (hx:x.size≤maxLen) (hy:y.size≤maxLen) (I:n≤1000000) :
  Calls prog 307 #[.map (some sn),.pointer (some ⟨h,0,none⟩),.pointer (some ⟨C,0,none⟩)] w fun e w'=>e= .returned (.tuple #[])∧aZ bF w' sn (n+1) (fun z=>if z=y then f x else if z=x then none else f z)∧w.grownBy w' (some sn):=by
 have H:=ah hm
 have g:=hm.look underlying80 (gU w) (x:=x) hx
 rw [p] at g
 dsimp only [Option.map,Option.getD,bF] at g
 have u:h<w.heap.size:=World.block_lt_of_cell? w _ c1
 have F:=ah c1
 have r:Hid (h=sn→False):=ah (fun (e:h=sn)=>by
  subst e
  obtain ⟨D,⟨es,t,hb,_⟩,_⟩:=hm
  simp [World.cell?,hb] at c1)
 have HS:=ah p
 have A:=ah d
 clear hm p d
 go_enter func307,ntmps307
 go_wp2_with (refine mo (enc:=bF) rfl _ _ _ 80 116 rfl underlying80 sn n f rfl H.out y hy fb rfl rfl (by unfold maxLen;omega) ?_)
 intro w' l i
 have E:w'.cell? ⟨h,0,none⟩=some (.string x):=by rw [World.cell?_of_block (i.block h u (fun e=>r.out (Option.some.inj e)))];exact F.out
 have v:=ah l
 have b:=ah i
 clear l i c1 c2 g
 go_wp2_with (refine uY (enc:=bF) rfl _ _ 80 116 rfl underlying80 sn (n+1) _ rfl v.out x hx rfl ?_)
 intro G m a
 have q:=ah m
 have s:Hid (w.grownBy G (some sn)):=ah ⟨a.os.trans b.out.os,a.tape.trans b.out.tape,a.output.trans b.out.output,Nat.le_trans b.out.size a.size,fun k B d=>(a.block k (Nat.lt_of_lt_of_le B b.out.size) d).trans (b.out.block k B d)⟩
 clear m a
 go_wp2_with fail
 go_end0
 refine ⟨rfl,q.out.ext fun z _=> ?_,s.out⟩
 by_cases o:z=x
 ·rw [if_pos o,if_neg (fun j=>A.out (o.symm.trans j)),if_pos o]
 rw [if_neg o]
 by_cases j:z=y
 ·rw [if_pos j,if_pos j,HS.out]
 rw [if_neg j,if_neg j,if_neg o]
section
variable {O:Nat → Prop} {N R M:Nat} {g:Nat} {q:Int} {p:Pl} {m:Dm}
def crF (f:ByteArray→Option Nat) (x:ByteArray) (b:Nat) (y:ByteArray):Option Nat:=if y=x then some b else f y
def rnF (f:ByteArray→Option Nat) (x y z:ByteArray):Option Nat:=if z=y then f x else if z=x then none else f z
theorem Er (w:World) (h:DS O N R M w g q p m) {k:Nat} (i:k<3) (hN:N+R≤1000000) {x:ByteArray} (hx:aU x=true) (J:m.seen k x=none) :
  Calls prog 293 #[.pointer (some ⟨g,0,none⟩),.string (bG k),.string x] w fun e w'=>e= .returned (.int .i64 0)∧ ∃Q fb,w.heap.size≤fb∧DS O (N+1) (R+1) M w' g q { p with pd:=upN p.pd k Q } { m with seen:=upN m.seen k (crF (m.seen k) x fb),dat:=upN m.dat fb (⟨#[]⟩,0) }∧Kp O w w':=by
 obtain ⟨W,I⟩:∃W,w.alloc (.cells #[.string x] 9)=W:=⟨_,rfl⟩
 have l:Below w.heap.size w W:=by rw [←I];exact bal
 have G:W.cell? ⟨w.heap.size,0,none⟩=some (.string x):=by rw [←I];exact (ak.new w 9 [.string x]).range 0 _ rfl
 have aa:=dR hx
 have L:=ah (jV W (h.below l) i (some ⟨w.heap.size,0,none⟩) 1 1 (by have:=nS w.heap.size x W G (by omega);rwa [hx] at this))
 have u:=ah h
 have HB:=ah l
 have HW:=ah I
 have r:x.size≤maxLen:=by unfold maxLen;omega
 generalize P:bG k=dn at L ⊢
 clear h P I l G
 go_enter func293,ntmps293
 go_wp2_with fail
 rw [HW.out]
 refine L.out.mono ?_
 rintro e w1 ⟨rfl,H⟩
 have o:=bth HB H
 have s:=u.out.below o.out
 have A:=(s.seen k i).1.look underlying80 (gU w1) (x:=x) r
 rw [J] at A
 dsimp only [Option.map,Option.getD,bF] at A
 have c0:w1.cell? ⟨p.dir k,0,none⟩=some (.map (some (p.sn k))):=ak.range (s.dir k i) 0 _ rfl
 have B:=ah (Et x w1)
 have K:=ah r
 have HS:=ah J
 have HX:=ah hx
 clear H L HB r J hx s HW
 go_wp2_with fail
 refine B.out.mono ?_
 rintro e X ⟨U,bn,n,rfl,Y,T,d,E,F⟩
 have C:=bth o F
 have a:w.heap.size≤n:=Nat.le_trans o.out.size E
 have Z:=ah (yI w X u.out C.out i (N':=N+1) (Nat.le_succ N) (by omega) (f:=crF (m.seen k) x n) (dt:=upN m.dat n (⟨#[]⟩,0)) 312 #[.pointer (some ⟨U,0,none⟩),.pointer (some ⟨bn,0,none⟩)] (enters_of func312 (by kernel_rfl) rfl)
  ((Cq (p.sn k) U bn n (N+R) x (m.seen k) X ((u.out.below C.out).seen k i).1 Y T K.out hN).mono fun e w' h=>⟨h.1,(by
   obtain ⟨D,q1,q2⟩:=h.2.1
   exact ⟨D,q1.mono (by omega),q2⟩),h.2.2⟩) ((u.out.seen k i).2.put HX.out) (fun b hb=>aF (by omega))
  (fun y b hy=>by
   unfold crF at hy
   split at hy
   ·cases hy
    exact .inr ⟨a,by rw [aI];exact d,by rw [aI];exact Nat.zero_le _,by rw [aI];exact Nat.zero_le _⟩
   exact .inl ⟨y,hy⟩)
  (fun y z b hy t=>by
   have j:∀ {v},m.seen k v≠some n:=fun h=>absurd (ak.lt (u.out.file k _ n i (.inl h)).1) (by omega)
   unfold crF at hy t
   split at hy
   ·cases hy
    split at t
    ·rename_i e1 e2;rw [e1,e2]
    exact absurd t j
   split at t
   ·cases t;exact absurd hy j
   exact (u.out.one k k y z b i i hy t).2))
 have S:=ah a
 clear Y T d E F a B
 go_wp2_with fail
 refine Z.out.mono ?_
 rintro e w3 ⟨rfl,Q,V,h4⟩
 have HE:=ah (And.intro V h4)
 clear V h4 Z
 go_wp2_with fail
 go_ret
 exact ⟨rfl,Q,n,S.out,HE.out⟩
theorem Eo (w:World) (h:DS O N R M w g q p m) {k fb:Nat} (s:k<3) (hN:N+R≤1000000) {x y:ByteArray} (hx:aU x=true) (hy:aU y=true) (F:x≠y) (hs:m.seen k x=some fb) :
  Calls prog 294 #[.pointer (some ⟨g,0,none⟩),.string (bG k),.string x,.string y] w fun e w'=>e= .returned (.int .i64 0)∧ ∃pv,DS O N (R+1) M w' g q { p with pd:=upN p.pd k pv } { m with seen:=upN m.seen k (rnF (m.seen k) x y) }∧Kp O w w':=by
 obtain ⟨I,j⟩:∃W,w.alloc (.cells #[.string x] 9)=W:=⟨_,rfl⟩
 have d:Below w.heap.size w I:=by rw [←j];exact bal
 have L:I.heap.size=w.heap.size+1:=by rw [←j];simp
 obtain ⟨r,o⟩:∃W,I.alloc (.cells #[.string y] 9)=W:=⟨_,rfl⟩
 have A:Below I.heap.size I r:=by rw [←o];exact bal
 have D:r.heap.size=w.heap.size+1+1:=by rw [←o,←L];simp
 obtain ⟨Y,v⟩:∃W,r.alloc (.cells #[.string x,.string y] 9)=W:=⟨_,rfl⟩
 have B:Below r.heap.size r Y:=by rw [←v];exact bal
 have S:ak I w.heap.size 9 [.string x]:=by rw [←j];exact ak.new w 9 [.string x]
 have H:ak r (w.heap.size+1) 9 [.string y]:=by rw [←L,←o];exact ak.new I 9 [.string y]
 have T:ak Y (w.heap.size+1+1) 9 [.string x,.string y]:=by rw [←D,←v];exact ak.new r 9 [.string x,.string y]
 have E:Below w.heap.size w Y:=(d.trans (A.mono (by omega))).trans (B.mono (by omega))
 have HX:=ah ((S.below A).below B)
 have HY:=ah (H.below B)
 have a0:r.cell? ⟨w.heap.size,0,none⟩=some (.string x):=(S.below A).range 0 _ rfl
 have a1:r.cell? ⟨w.heap.size+1,0,none⟩=some (.string y):=H.range 0 _ rfl
 have HF:=ah (jV Y (h.below E) s (some ⟨w.heap.size+1+1,0,none⟩) 2 2 (Jh (w.heap.size+1+1) x y Y (T.range 0 _ rfl) (T.range 1 _ rfl) hx hy))
 have HH:=ah h
 have HB:=ah E
 have HW:Hid ((w.alloc (.cells #[.string x] 9)).alloc (.cells #[.string y] 9)=r):=ah (by rw [j,o])
 have X:=ah v
 have ao:=dR hx
 have ad:=dR hy
 have C:Hid (x.size≤maxLen):=ah (by unfold maxLen;omega)
 have ag:Hid (y.size≤maxLen):=ah (by unfold maxLen;omega)
 have ab:=ah hy
 have HS:=ah hs
 have aa:=ah F
 have hq:(x.toList==y.toList)=false:=by
  rw [beq_eq_false_iff_ne]
  intro e
  exact F (kH (by rw [←Lib.toList_data,←Lib.toList_data];exact e))
 obtain ⟨n1,P⟩:∃n,r.heap.size=n:=⟨_,rfl⟩
 have G:n1=w.heap.size+1+1:=by rw [←P,D]
 generalize al:bG k=dn at HF ⊢
 have U:=ah P
 rw [←G] at HF
 have ap:=ah G
 clear h al j o v d A B L D S H T E hx hy ao ad hs F P G
 go_enter func294,ntmps294
 go_upto_region 1 with fail
 rw [HW.out]
 go_wp2_with fail
 rw [U.out,X.out]
 refine HF.out.mono ?_
 rintro e w1 ⟨rfl,d⟩
 have J:=bth HB d
 have l:=HH.out.below J.out
 have Q:=(l.seen k s).1.look underlying80 (gU w1) (x:=x) C.out
 rw [HS.out] at Q
 dsimp only [Option.map,Option.getD,bF] at Q
 have c0:w1.cell? ⟨p.dir k,0,none⟩=some (.map (some (p.sn k))):=ak.range (l.dir k s) 0 _ rfl
 have b0:w1.cell? ⟨w.heap.size,0,none⟩=some (.string x):=(HX.out.below d).range 0 _ rfl
 have b1:w1.cell? ⟨w.heap.size+1,0,none⟩=some (.string y):=(HY.out.below d).range 0 _ rfl
 have ac:=ak.lt (HX.out.below d)
 have aq:=ak.lt (l.dir k s)
 have ae:=ah (HX.out.below d)
 have Z:=ah (HY.out.below d)
 have t:=ah (fun (w':World) (hb:Below w1.heap.size w1 w')=>((l.seen k s).1.on hb).look underlying80 (gU w') (x:=x) C.out)
 rw [HS.out] at t
 dsimp only [Option.map,Option.getD,bF] at t
 clear d HF HB l Q HX HY a0 a1 U ap HW X
 go_upto_region 4 with fail
 have LK:=fun x:BW w1.heap.size w1=>t.out x.out x.hb
 refine wbq ?_
 have ai:=blq c0
 have af:=blq b0
 repeat (go_big_quiet_step (fail))
 refine wpQuiet_nil ?_
 intro wq K
 clear ai af
 have am:=au b0 K ac
 have an:=au b1 K (Nat.lt_of_lt_of_le (ak.lt Z.out) (Nat.le_refl _))
 have V:=bth J K
 clear LK t b0 b1
 have HT:=ah (yI w wq HH.out V.out s (N':=N) (Nat.le_refl N) (by omega) (f:=rnF (m.seen k) x y) (dt:=m.dat) 307 #[.pointer (some ⟨w.heap.size,0,none⟩),.pointer (some ⟨w.heap.size+1,0,none⟩)] (enters_of func307 (by kernel_rfl) rfl)
  ((BI (p.sn k) w.heap.size (w.heap.size+1) (N+R) fb x y (m.seen k) wq ((HH.out.below V.out).seen k s).1 HS.out aa.out am an C.out ag.out hN).mono fun e w' h=>⟨h.1,h.2.1,h.2.2⟩) ((HH.out.seen k s).2.ren ab.out (by rw [HS.out];rfl) aa.out) (fun b hb=>rfl)
  (fun z b i=>by
   unfold rnF at i
   split at i
   ·exact .inl ⟨x,i⟩
   split at i
   ·cases i
   exact .inl ⟨z,i⟩)
  (fun u z b hu i=>by
   have h1:∀ {a c:ByteArray},m.seen k a=some b→m.seen k c=some b→a=c:=fun h1 h2=>(HH.out.one k k _ _ b s s h1 h2).2
   unfold rnF at hu i
   split at hu
   ·split at i
    ·rename_i e1 e2;rw [e1,e2]
    split at i
    ·cases i
    rename_i e1 e2 e3;exact absurd (h1 i hu) e3
   split at hu
   ·cases hu
   split at i
   ·rename_i e1 e2 e3;exact absurd (h1 hu i) e2
   split at i
   ·cases i
   exact h1 hu i))
 clear ae Z J
 go_wp2_with fail
 refine HT.out.mono ?_
 rintro e w3 ⟨rfl,pv,T,h4⟩
 have HE:=ah (And.intro T h4)
 clear T h4 HT
 go_wp2_with fail
 go_ret
 exact ⟨rfl,pv,HE.out⟩
end
theorem str_slice (w:World) (x:ByteArray):ak (w.alloc (.cells #[.string x] 9)) w.heap.size 9 [.string x]:=ak.new w 9 [.string x]
section
variable {O:Nat → Prop} {N R M:Nat} {g:Nat} {q:Int} {p:Pl} {m:Dm}
theorem Kw (w:World) (h:DS O N R M w g q p m) {k:Nat} (d:k<3) (A:N≤1000000) :
  Calls prog 181 #[.pointer (some ⟨g,0,none⟩),.string (bG k)] w fun e w'=>e= .returned (.int .i64 0)∧DS O N R M w' g q { p with pd:=upN p.pd k (.slice none 0 0) } { m with sett:=upN m.sett k (m.seen k) }∧Kp O w w':=by
 have r:=ah (jV w h d none 0 0 (zY w))
 have F:=ah h
 generalize t:bG k=dn at r ⊢
 clear h t
 go_enter func181,ntmps181
 go_wp2_with fail
 refine r.out.mono ?_
 rintro e w1 ⟨rfl,f⟩
 have a:=ah (F.out.below f)
 have s:=ah f
 have i:=ah (ow w1 a.out)
 clear f r
 go_wp2_with fail
 refine i.out.mono ?_
 rintro e E ⟨rfl,rfl⟩
 obtain ⟨D,v,B,z,y⟩:=(a.out.seen k d).2
 have o:N≤1000000:=A
 have HS:=ah (Fu (p.dir k) (p.st k) (p.sn k) (N+R) (N+R) (m.sett k) (m.seen k) (p.pd k) D E (a.out.dir k d) (fun e=>a.out.mst k k d d e.symm) (ak.gQ (a.out.dir k d) (a.out.sett k d).1) (ak.gQ (a.out.dir k d) (a.out.seen k d).1) (a.out.sett k d).1 (a.out.seen k d).1 v (fun x hx=>by have:=dR (z x hx);unfold maxLen;omega) (fun x _=>y x) (by omega))
 have G:=ah B
 clear v B z y A o i
 go_wp2_with fail
 refine HS.out.mono ?_
 rintro e w3 ⟨rfl,j,_,⟨X,n,l⟩,u⟩
 have C:Hid (DS O N R M w3 g q { p with pd:=upN p.pd k (.slice none 0 0) } { m with sett:=upN m.sett k (m.seen k) }∧Kp O w w3):=ah ⟨a.out.settled d u ⟨X,n.mono (Nat.le_trans G.out (Nat.le_add_right N R)),l⟩ j,(Kp.of s.out).trans (u.mono fun b _ e=>by
  rcases e with rfl|rfl
  ·exact (a.out.off.2.2.1 k d).2.2
  exact (a.out.off.2.2.1 k d).1)⟩
 clear j n l u HS
 go_wp2_with fail
 go_ret
 exact ⟨rfl,C.out⟩
theorem Kv (w:World) (h:DS O N R M w g q p m) {k fb:Nat} (n:k<3) {x:ByteArray} (hx:aU x=true) (o:m.seen k x=some fb) :
  Calls prog 115 #[.pointer (some ⟨g,0,none⟩),.string (bG k),.string x] w fun e w'=>e= .returned (.int .i64 0)∧DS O N R M w' g q p { m with dat:=upN m.dat fb ((m.dat fb).1,(m.dat fb).1.size) }∧Kp O w w':=by
 obtain ⟨W,u⟩:∃W,w.alloc (.cells #[.string x] 9)=W:=⟨_,rfl⟩
 have d:Below w.heap.size w W:=by rw [←u];exact bal
 have s:W.cell? ⟨w.heap.size,0,none⟩=some (.string x):=by rw [←u];exact (str_slice w x).range 0 _ rfl
 have F:=dR hx
 have z:=ah (jV W (h.below d) n (some ⟨w.heap.size,0,none⟩) 1 1 (by have:=nS w.heap.size x W s (by omega);rwa [hx] at this))
 have D:=ah (h.below d)
 have H:=ah d
 have I:=ah u
 generalize B:bG k=dn at z ⊢
 clear h B u d s
 go_enter func115,ntmps115
 go_wp2_with fail
 rw [I.out]
 refine z.out.mono ?_
 rintro e w1 ⟨rfl,l⟩
 have a:=ah (D.out.below l)
 have A:=bth H l
 have v:=ah (ow w1 a.out)
 have t:=(a.out.seen k n).1.look underlying80 (gU w1) (x:=x) (by unfold maxLen;omega)
 rw [o] at t
 dsimp only [Option.map,Option.getD,bF] at t
 have L:w1.cell? ⟨p.dir k,0,none⟩=some (.map (some (p.sn k))):=ak.range (a.out.dir k n) 0 _ rfl
 have f:=(a.out.file k x fb n (.inl o)).1
 have cf:w1.cell? ⟨fb,0,none⟩=some (.string (m.dat fb).1):=ak.range f 0 _ rfl
 have y:=f.there 1 (by simp [fiC])
 have r:(w1.cell? ⟨fb,1,none⟩).isSome=true:=by have:=y.1;rwa [Nat.zero_add] at this
 have G:w1.frozen? ⟨fb,1,none⟩=false:=by have:=y.2;rwa [Nat.zero_add] at this
 obtain ⟨v1,J⟩:=Option.isSome_iff_exists.1 r
 have E:Hid (DS O N R M (w1.setCell ⟨fb,1,none⟩ (.int .i64 ((m.dat fb).1.size:Int))) g q p { m with dat:=upN m.dat fb ((m.dat fb).1,(m.dat fb).1.size) }∧Kp O w (w1.setCell ⟨fb,1,none⟩ (.int .i64 ((m.dat fb).1.size:Int)))):=ah (by
  have i:Chg (fun b=>b=fb) w1 (w1.setCell ⟨fb,1,none⟩ (.int .i64 ((m.dat fb).1.size:Int))):=⟨rfl,rfl,rfl,by simp [World.setCell],fun j _ K=>Below.heap_setCell _ _ _ _ K⟩
  have C:=a.out.file k x fb n (.inl o)
  exact ⟨a.out.data n o i (f.put 1 _) C.2.2.1 (Nat.le_refl _),(Kp.of A.out).trans (i.mono fun b _ e=>e▸C.2.1)⟩)
 clear l z y r f o hx D
 go_wp2_with fail
 refine v.out.mono ?_
 rintro e P ⟨rfl,rfl⟩
 go_wp2_with fail
 go_ret
 exact ⟨rfl,E.out⟩
end
theorem bgr {a b:World} (h:a.grownBy b none):Below a.heap.size a b:=⟨h.os,h.tape,h.output,h.size,fun k d=>h.block k d (by simp)⟩
theorem Bt {α:Type} [DecidableEq α] (f:α→Nat) {x:α}:∀ {l:List α},l.Nodup→x∈l→((l.filter fun y=>decide (y≠x)).map f).sum+f x=(l.map f).sum
 | [],_,h=>by cases h
 | z::l,hn,h=>by
  rw [List.nodup_cons] at hn
  rw [List.filter_cons]
  by_cases e:z=x
  ·subst e
   rw [if_neg (by simp)]
   have:(l.filter fun y=>decide (y≠z))=l:=List.filter_eq_self.2 fun y hy=>decide_eq_true (fun e=>hn.1 (e▸hy))
   rw [this,List.map_cons,List.sum_cons];omega
  rw [if_pos (decide_eq_true e),List.map_cons,List.map_cons,List.sum_cons,List.sum_cons]
  have:=Bt f hn.2 ((List.mem_cons.1 h).resolve_left fun h=>e h.symm)
  omega
theorem Fe {α:Type} (f:α→Nat) (M:Nat):∀ {l:List α},(∀x∈l,f x≤M)→(l.map f).sum≤l.length*M
 | [],_=>by simp
 | z::l,h=>by
  have h1:=h z (List.mem_cons_self ..)
  have a:=Fe f M (l:=l) fun x hx=>h x (List.mem_cons_of_mem _ hx)
  rw [List.map_cons,List.sum_cons,List.length_cons,Nat.succ_mul];omega
def wtN (m:Dm) (k:Nat) (x:ByteArray):Nat:=match m.seen k x with
 | some b=>(m.dat b).1.size
 | none=>0
def wtD (m:Dm) (a:Nat→List ByteArray) (x:ByteArray):Nat:=match cu x with
 | some k=>((a k).map (wtN m k)).sum
 | none=>0
def yJ:List ByteArray:=[bG 0,bG 1,bG 2]
def zo (m:Dm) (a:Nat→List ByteArray):Nat:=(yJ.map (wtD m a)).sum
section
variable {O:Nat → Prop} {N R M:Nat} {g:Nat} {q:Int} {p:Pl} {m:Dm}
def ze (N:Nat) (m:Dm) (a:Nat→List ByteArray):Prop:=∀k,k<3→(a k).Nodup∧(a k).length≤N∧(∀x∈a k,aU x=true)∧ ∀x,(m.seen k x).isSome=true↔x∈a k
theorem DS.names {w:World} (h:DS O N R M w g q p m):∃a,ze N m a:=by
 obtain ⟨b,f⟩:=(h.seen 0 (by omega)).2
 obtain ⟨L1,h1⟩:=(h.seen 1 (by omega)).2
 obtain ⟨e,d⟩:=(h.seen 2 (by omega)).2
 refine ⟨fun k=>if k=0 then b else if k=1 then L1 else e,fun k i=> ?_⟩
 obtain rfl|rfl|rfl:k=0∨k=1∨k=2:=by omega
 ·exact f
 ·exact h1
 exact d
theorem Lu {w:World} (h:DS O N R M w g q p m) {a:Nat→List ByteArray} (f:ze N m a):zo m a≤3*(N*M):=by
 have d:∀k,k<3→((a k).map (wtN m k)).sum≤N*M:=fun k d=>by
  have:=Fe (wtN m k) M (l:=a k) fun x _=>by
   unfold wtN
   cases e:m.seen k x with
   | none=>exact Nat.zero_le _
   | some b=>exact (h.file k x b d (.inl e)).2.2.1
  exact Nat.le_trans this (Nat.mul_le_mul_right _ (f k d).2.1)
 have hd:∀x∈yJ,wtD m a x≤N*M:=fun x _=>by
  unfold wtD
  cases i:cu x with
  | none=>exact Nat.zero_le _
  | some k=>exact d k (fJ i).1
 exact Fe (wtD m a) (N*M) hd
theorem Kz (x:ByteArray) (p:Pl):((cu x).map p.dir).isSome=true↔x∈yJ:=by
 unfold yJ
 cases a:cu x with
 | none =>
  simp only [Option.map_none,Option.isSome_none,List.mem_cons,List.not_mem_nil,or_false]
  constructor
  ·intro h;cases h
  rintro (rfl|rfl|rfl)<;>exact absurd a (by decide)
 | some k =>
  obtain ⟨h1,b⟩:=fJ a
  obtain rfl|rfl|rfl:k=0∨k=1∨k=2:=by omega
  all_goals simp [b]
theorem Gt (w:World) (h:DS O N R M w g q p m) (b:Nat→List ByteArray) (hL:ze N m b) (hM:3*(N*M)≤1000000000) :
  Calls prog 182 #[.pointer (some ⟨g,0,none⟩)] w fun e w'=>e= .returned (.int .i64 (zo m b:Int))∧Below w.heap.size w w':=by
 have HH:=ah h
 have ar:=ah hL
 have HT:=ah (Nat.le_trans (Lu h hL) hM)
 have c0:w.cell? ⟨g,0,none⟩=some (.map (some p.top)):=ak.range h.box 0 _ rfl
 obtain ⟨F,hF⟩:∃F:ByteArray→Option Nat,(fun x=>(cu x).map p.dir)=F:=⟨_,rfl⟩
 have P:Hid (aZ bF w p.top 3 F):=ah (by rw [←hF];exact h.top)
 have bc:Hid (∀x,(F x).isSome=true↔x∈yJ):=ah fun x=>by rw [←hF];exact Kz x p
 have a2:Hid (∀x c,F x=some c→ ∃k,k<3∧cu x=some k∧p.dir k=c):=ah fun x c d=>by
  rw [←hF] at d
  dsimp only at d
  cases hw:cu x with
  | none=>rw [hw] at d;cases d
  | some k=>rw [hw] at d;exact ⟨k,(fJ hw).1,rfl,Option.some.inj d⟩
 clear h hL hM hF
 go_enter func182,ntmps182
 go_wp2_with (refine iw (enc:=bF) rfl _ 75 79 rfl underlying75 p.top 3 F yJ rfl P.out (by decide) (by decide) (fun x _=>bc.out x) ?_)
 intro w2 t ae a8
 have aE:Hid (Below w.heap.size w w2):=ah (bgr ae)
 obtain ⟨i,E⟩:∃i,w.heap.size=i:=⟨_,rfl⟩
 rw [E] at t
 have ax:=ah t
 rw [E]
 have a6:=ah E
 clear t ae a8 E
 go_upto_region 5 with fail
 go_loopw [3,5,7] (fun n _ _ wr=> ∃(Lr:List ByteArray) (o:Nat),n= .int .i64 (o:Int)∧Hid (o+(Lr.map (wtD m b)).sum=zo m b)∧Hid (RangeT bF wr p.top i 3 F Lr)∧Hid (Below w.heap.size w wr)) (fun _ _ _ wr=>wr.rangeLeft p.top i)
 case atStart=>exact ⟨yJ,0,rfl,by unfold Hid zo;omega,ax.out,aE.out⟩
 obtain ⟨wl,rfl⟩:∃wl:World,wl=wr:=⟨_,rfl⟩
 obtain ⟨Lr,o,rfl,HA,HR,HB⟩:=hrel
 have I:=HR.out
 go_wp2_with (refine jk (enc:=bF) rfl _ rfl p.top i 3 F Lr rfl I ?_ ?_)
 ·intro ab
  subst ab
  clear I
  have HE:Hid (o=zo m b):=ah (by simpa using HA.out)
  clear HA HR
  go_wp2_with fail
  go_ret
  exact ⟨by rw [←HE.out];rfl,HB.out⟩
 intro x c w3 am bd d L J ai bb af
 obtain ⟨k,hk,ag,rfl⟩:=a2.out x c d
 have X:Below w.heap.size w w3:=HB.out.grown ai HB.out.size (fun j hj=>by have h1:=a6.out;have:=Option.some.inj hj;omega)
 have W:=HH.out.below X
 have c1:w3.cell? ⟨p.dir k,0,none⟩=some (.map (some (p.sn k))):=ak.range (W.dir k hk) 0 _ rfl
 obtain ⟨l1,l2,l3,l4⟩:=ar.out k hk
 have bi:bF (p.dir k)= .pointer (some ⟨p.dir k,0,none⟩):=rfl
 have U:=ah X
 have f:=ah L
 have S:=ah J
 have HW:Hid (wtD m b x=((b k).map (wtN m k)).sum):=ah (by unfold wtD;rw [ag])
 have HS:Hid (o+((Lr.filter fun y=>decide (y≠x)).map (wtD m b)).sum+((b k).map (wtN m k)).sum=zo m b):=ah (by
  have h1:=Bt (wtD m b) I.nodup am
  have h2:=HA.out
  have h3:=HW.out
  omega)
 have an:=ah (W.seen k hk).1
 clear am d L J ai bb X W ag I HA
 go_wp2_with (refine iw (enc:=bF) rfl _ 80 116 rfl underlying80 (p.sn k) (N+R) (m.seen k) (b k) rfl an.out l1 (fun y hy=>by have:=dR (l3 y hy);unfold maxLen;omega) (fun y _=>l4 y) ?_)
 intro w4 B s a9
 obtain ⟨D,Z⟩:∃D,w3.heap.size=D:=⟨_,rfl⟩
 rw [Z] at B
 rw [Z]
 have T:Hid (i<D∧w.heap.size≤D):=ah (by have h1:=f.out.lt;have h2:=U.out.size;omega)
 have a4:=ah B
 have ac:Hid (RangeT bF w4 p.top i 3 F (Lr.filter fun y=>decide (y≠x))):=ah (by have:=f.out.grown s (by simp) (by simp);simpa only [ne_eq,decide_not] using this)
 have aq:Hid (w4.rangeLeft p.top i<wl.rangeLeft p.top i):=ah (by rw [dN (s.block _ f.out.map.lt (by simp)) (s.block _ f.out.lt (by simp))];exact S.out)
 have a7:Hid (Below w.heap.size w w4):=ah (U.out.trans ((bgr s).mono U.out.size))
 have bh:Hid (∀y,y∈b k→aU y=true):=ah l3
 clear B s a9 Z f S an c1 af bd l1 l2 l3 l4
 generalize r:(Lr.filter fun y=>decide (y≠x))=C at HS ac
 have bj:=ah r
 clear r
 go_upto_region 8 with fail
 go_loopw [3,7] (fun n _ wr=> ∃(Ls:List ByteArray) (a:Nat),n= .int .i64 (a:Int)∧Hid (a+(C.map (wtD m b)).sum+(Ls.map (wtN m k)).sum=zo m b)∧Hid (RangeT bF wr (p.sn k) D (N+R) (m.seen k) Ls)∧Hid (RangeT bF wr p.top i 3 F C)∧Hid (wr.rangeLeft p.top i<wl.rangeLeft p.top i)∧Hid (Below w.heap.size w wr)) (fun _ _ wr=>wr.rangeLeft (p.sn k) D)
 case atStart=>exact ⟨b k,o,rfl,HS.out,a4.out,ac.out,aq.out,a7.out⟩
 obtain ⟨wi,rfl⟩:∃wi:World,wi=wr:=⟨_,rfl⟩
 obtain ⟨Ls,a,rfl,G,HI,HO,HL,H⟩:=hrel
 have l:=HI.out
 go_wp2_with (refine jk (enc:=bF) rfl _ rfl (p.sn k) D (N+R) (m.seen k) Ls rfl l ?_ ?_)
 ·intro ab
  subst ab
  clear l
  have HE:Hid (a+(C.map (wtD m b)).sum=zo m b):=ah (by simpa using G.out)
  clear G HI
  go_wp2_with fail
  go_roundw
  case rel=>exact ⟨C,a,rfl,HE.out,HO.out,H.out⟩
  case measure=>exact HL.out
 intro y fb w5 ad a3 Y K Q v be a1
 have u:some i≠some D:=fun e=>by have h1:=T.out.1;have:=Option.some.inj e;omega
 have A:some p.top≠some D:=fun e=>by have h1:=T.out.2;have h2:=P.out.lt;have:=Option.some.inj e;omega
 have aa:Below w.heap.size w w5:=H.out.grown v H.out.size (fun j hj=>by have h1:=T.out.2;have:=Option.some.inj hj;omega)
 have aw:=ah (HO.out.grown v A u)
 have ap:Hid (w5.rangeLeft p.top i<wl.rangeLeft p.top i):=ah (by rw [dN (v.block _ HO.out.map.lt A) (v.block _ HO.out.lt u)];exact HL.out)
 have al:=((HH.out.below aa).file k y fb hk (.inl Y)).1
 have cf:w5.cell? ⟨fb,0,none⟩=some (.string (m.dat fb).1):=ak.range al 0 _ rfl
 have bf:bF fb= .pointer (some ⟨fb,0,none⟩):=rfl
 have V:Hid (a+(m.dat fb).1.size+(C.map (wtD m b)).sum+((Ls.filter fun z=>decide (z≠y)).map (wtN m k)).sum=zo m b):=ah (by
  have h1:=Bt (wtN m k) l.nodup ad
  have h2:=G.out
  have h3:wtN m k y=(m.dat fb).1.size:=by unfold wtN;rw [Y]
  omega)
 have a0:a+(m.dat fb).1.size≤1000000000:=by have h1:=V.out;have h2:=HT.out;omega
 have az:Hid (RangeT bF w5 (p.sn k) D (N+R) (m.seen k) (Ls.filter fun z=>decide (z≠y))):=ah (by simpa only [ne_eq,decide_not] using K)
 have ao:=ah Q
 have a5:=ah aa
 have ba:IntKind.i64.wrap ((a:Int)+((m.dat fb).1.size:Int))=(a:Int)+((m.dat fb).1.size:Int):=IntWalk.i64_in _ (by omega)
 clear u A aa al l ad Y K Q v be a3 HI G HL HO H
 generalize (m.dat fb).1=sb at cf V a0 ba
 go_wp2_with fail
 go_roundw
 case rel=>exact ⟨_,a+sb.size,by simp,V.out,az.out,aw.out,ap.out,a5.out⟩
 case measure=>exact ao.out
theorem Es (w:World) (h:DS O N R M w g q p m) {k fb:Nat} (r:k<3) {x:ByteArray} (hx:aU x=true) (y:m.seen k x=some fb) (s:ByteArray) (hM:(m.dat fb).1.size+s.size≤M) (ad:M≤1048576) (hq:3*(N*M)+s.size≤q) (ac:q≤1000000000) :
  Calls prog 113 #[.pointer (some ⟨g,0,none⟩),.string (bG k),.string x,.string s] w fun e w'=>e= .returned (.int .i64 0)∧DS O N R M w' g q p { m with dat:=upN m.dat fb ((m.dat fb).1++s,(m.dat fb).2) }∧Kp O w w':=by
 obtain ⟨W,z⟩:∃W,w.alloc (.cells #[.string x] 9)=W:=⟨_,rfl⟩
 have d:Below w.heap.size w W:=by rw [←z];exact bal
 have F:W.cell? ⟨w.heap.size,0,none⟩=some (.string x):=by rw [←z];exact (str_slice w x).range 0 _ rfl
 have af:=dR hx
 have S:=ah (jV W (h.below d) r (some ⟨w.heap.size,0,none⟩) 1 1 (by have:=nS w.heap.size x W F (by omega);rwa [hx] at this))
 have HH:=ah (h.below d)
 have HB:=ah d
 have HW:=ah z
 obtain ⟨Lf,u⟩:=h.names
 obtain ⟨f,i⟩:∃n,zo m Lf=n:=⟨_,rfl⟩
 have K:=Lu h u
 rw [i] at K
 have D:Hid (∀W,DS O N R M W g q p m→Calls prog 182 #[.pointer (some ⟨g,0,none⟩)] W fun e w'=>e= .returned (.int .i64 (f:Int))∧Below W.heap.size W w'):=ah fun W z=>by rw [←i];exact Gt W z Lf u (by omega)
 generalize X:bG k=dn at S ⊢
 clear h X z d F u i
 go_enter func113,ntmps113
 go_wp2_with fail
 rw [HW.out]
 refine S.out.mono ?_
 rintro e w1 ⟨rfl,v⟩
 have a:=ah (HH.out.below v)
 have U:=bth HB v
 have o:=(a.out.seen k r).1.look underlying80 (gU w1) (x:=x) (by unfold maxLen;omega)
 rw [y] at o
 dsimp only [Option.map,Option.getD,bF] at o
 have c0:w1.cell? ⟨p.dir k,0,none⟩=some (.map (some (p.sn k))):=ak.range (a.out.dir k r) 0 _ rfl
 have cq:w1.cell? ⟨g,1,none⟩=some (.int .i64 q):=ak.range a.out.box 1 _ rfl
 have ae:=ak.lt a.out.box
 have t:=(a.out.file k x fb r (.inl y)).1
 have aa:=ak.lt t
 have cf:w1.cell? ⟨fb,0,none⟩=some (.string (m.dat fb).1):=ak.range t 0 _ rfl
 have I:=(a.out.file k x fb r (.inl y)).2.2.2
 have L:Hid (∀W,Below w1.heap.size w1 W→W.cell? ⟨fb,0,none⟩=some (.string (m.dat fb).1)∧W.frozen? ⟨fb,0,none⟩=false∧DS O N R M (W.setCell ⟨fb,0,none⟩ (.string ((m.dat fb).1++s))) g q p { m with dat:=upN m.dat fb ((m.dat fb).1++s,(m.dat fb).2) }∧Kp O w (W.setCell ⟨fb,0,none⟩ (.string ((m.dat fb).1++s)))):=ah fun W d=>by
  have l:Chg (fun b=>b=fb) W (W.setCell ⟨fb,0,none⟩ (.string ((m.dat fb).1++s))):=⟨rfl,rfl,rfl,by simp [World.setCell],fun j _ hj=>Below.heap_setCell _ _ _ _ hj⟩
  have H:=(a.out.below d).file k x fb r (.inl y)
  have P:=H.1.there 0 (by simp [fiC])
  refine ⟨ak.range H.1 0 _ rfl,by have:=P.2;rwa [Nat.zero_add] at this,(a.out.below d).data r y l (H.1.put 0 _) ?_ ?_,(Kp.of (bth U d).out).trans (l.mono fun b _ e=>e▸H.2.1)⟩
  ·show ((m.dat fb).1++s).size≤M
   rw [ByteArray.size_append];exact hM
  show (m.dat fb).2≤((m.dat fb).1++s).size
  rw [ByteArray.size_append];omega
 have A:=ah (fun W (hb:Below w1.heap.size w1 W)=>ow W (a.out.below hb))
 have B:=ah (fun W (hb:Below w1.heap.size w1 W)=>D.out W (a.out.below hb))
 clear v S t y hx HH I D
 generalize G:(m.dat fb).1=V at cf L hM
 have J:=ah G
 clear G
 have q1:IntKind.i64.wrap (1048576-(V.size:Int))=1048576-(V.size:Int):=IntWalk.i64_in _ (by omega)
 have q2:decide (1048576-(V.size:Int)<(s.size:Int))=false:=decide_eq_false (by omega)
 have q3:decide (q<(f:Int))=false:=decide_eq_false (by omega)
 have q4:IntKind.i64.wrap (q-(f:Int))=q-(f:Int):=IntWalk.i64_in _ (by omega)
 have q5:decide (q-(f:Int)<(s.size:Int))=false:=decide_eq_false (by omega)
 go_upto_region 7 with fail
 have E:=fun x:BW w1.heap.size w1=>B.out x.out x.hb
 refine wbq ?_
 have T:=blq cq
 have Q:=blq cf
 repeat (go_big_quiet_step ((go_at_call 182;with_reducible exact aA (E _))))
 refine wpQuiet_nil ?_
 intro wq C
 clear T Q
 clear E q2 q3 q5
 obtain ⟨ab,ag,HD⟩:=L.out wq C
 have Y:=ah HD
 have Z:=ah (A.out wq C)
 clear HD L A B cf cq o c0 q1 q4
 go_wp2_with fail
 refine Z.out.mono ?_
 rintro e w2 ⟨rfl,rfl⟩
 go_wp2_with fail
 go_ret
 rw [J.out]
 exact ⟨rfl,Y.out⟩
end
def yY (O:Nat→Prop) (N R M:Nat) (g:Nat) (q:Int) (L:LK) (sy:Nat→Bool) (w:World) (e:Ending) (w':World):Prop:=e= .returned (.int .i64 0)∧DV O N R M w' g q L sy∧Kp O w w'
section
variable {O:Nat → Prop} {N R M:Nat} {w:World} {g:Nat} {q:Int} {L:LK} {sy:Nat → Bool} {k:Nat} {x:ByteArray}
theorem sK {m:Dm} {v:ByteArray×Nat} (h:(m.seen k x).map m.dat=some v):∃b,m.seen k x=some b∧m.dat b=v:=by
 cases a:m.seen k x with
 | none=>rw [a] at h;cases h
 | some b=>rw [a] at h;exact ⟨b,rfl,Option.some.inj h⟩
theorem CP (h:DV O N R M w g q L sy) (o:k<3) (u:N+R≤1000000) (hx:aU x=true) (r:L k x=none) :
  Calls prog 293 #[.pointer (some ⟨g,0,none⟩),.string (bG k),.string x] w (yY O (N+1) (R+1) M g q (L.put k x (some (⟨#[]⟩,0))) (upN sy k false) w):=by
 obtain ⟨p,m,h1,n,z⟩:=h
 have i:m.seen k x=none:=by
  have:=n k x o
  rw [r] at this
  cases l:m.seen k x with
  | none=>rfl
  | some b=>rw [l] at this;cases this
 refine (Er w h1 o u hx i).mono ?_
 rintro e w' ⟨rfl,A,fb,s,t,v⟩
 refine ⟨rfl,⟨_,_,t,fun j y f=> ?_,fun j f hy=> ?_⟩,v⟩
 ·show LK.put L k x _ j y=(upN m.seen k (crF (m.seen k) x fb) j y).map (upN m.dat fb (⟨#[]⟩,0))
  have d:(m.seen j y).map (upN m.dat fb (⟨#[]⟩,0))=L j y:=by
   rw [n j y f]
   cases l:m.seen j y with
   | none=>rfl
   | some b=>exact congrArg some (aF (by have:=ak.lt (h1.file j y b f (.inl l)).1;omega))
  by_cases a:j=k
  ·subst a
   rw [aI]
   unfold crF
   by_cases b:y=x
   ·subst b;rw [LK.bT,if_pos rfl];exact congrArg some (aI ..).symm
   rw [LK.aH (fun h=>b h.2),if_neg b,d]
  rw [aF a,LK.aH (fun h=>a h.1),d]
 show m.sett j=upN m.seen k (crF (m.seen k) x fb) j
 by_cases a:j=k
 ·rw [a,aI] at hy;cases hy
 rw [aF a] at hy ⊢;exact z j f hy
theorem Ii {p:Pl} {m:Dm} {b:Nat} {v:ByteArray×Nat} (h1:DS O N R M w g q p m) (f:∀j y,j<3→L j y=(m.seen j y).map m.dat) (i:k<3) (hb:m.seen k x=some b) (j:Nat) (y:ByteArray) (d:j<3):LK.put L k x (some v) j y=(m.seen j y).map (upN m.dat b v):=by
 by_cases a:j=k∧y=x
 ·obtain ⟨rfl,rfl⟩:=a
  rw [LK.bT,hb]
  exact congrArg some (aI ..).symm
 rw [LK.aH a,f j y d]
 cases h:m.seen j y with
 | none=>rfl
 | some c=>exact congrArg some (aF (fun e=>a (by subst e;exact h1.one j k y x _ d i h hb))).symm
theorem tT {d:ByteArray×Nat} (h:DV O N R M w g q L sy) (i:k<3) (hx:aU x=true) (o:L k x=some d) (s:ByteArray) (r:d.1.size+s.size≤M) (f:M≤1048576) (n:3*(N*M)+s.size≤q) (a:q≤1000000000) :
  Calls prog 113 #[.pointer (some ⟨g,0,none⟩),.string (bG k),.string x,.string s] w (yY O N R M g q (L.put k x (some (d.1++s,d.2))) sy w):=by
 obtain ⟨p,m,h1,l,z⟩:=h
 obtain ⟨b,hb,rfl⟩:=sK ((l k x i).symm.trans o)
 refine (Es w h1 i hx hb s r f n a).mono ?_
 rintro e w' ⟨rfl,t,u⟩
 exact ⟨rfl,⟨_,_,t,fun j y v=>Ii h1 l i hb j y v,z⟩,u⟩
theorem sF {d:ByteArray×Nat} (h:DV O N R M w g q L sy) (a:k<3) (hx:aU x=true) (i:L k x=some d) :
  Calls prog 115 #[.pointer (some ⟨g,0,none⟩),.string (bG k),.string x] w (yY O N R M g q (L.put k x (some (d.1,d.1.size))) sy w):=by
 obtain ⟨p,m,h1,f,r⟩:=h
 obtain ⟨b,hb,rfl⟩:=sK ((f k x a).symm.trans i)
 refine (Kv w h1 a hx hb).mono ?_
 rintro e w' ⟨rfl,l,n⟩
 exact ⟨rfl,⟨_,_,l,fun j y o=>Ii h1 f a hb j y o,r⟩,n⟩
theorem CO {y:ByteArray} {d:ByteArray×Nat} (h:DV O N R M w g q L sy) (s:k<3) (v:N+R≤1000000) (hx:aU x=true) (hy:aU y=true) (f:x≠y) (t:L k x=some d) :
  Calls prog 294 #[.pointer (some ⟨g,0,none⟩),.string (bG k),.string x,.string y] w (yY O N (R+1) M g q ((L.put k y (some d)).put k x none) (upN sy k false) w):=by
 obtain ⟨p,m,h1,n,B⟩:=h
 obtain ⟨b,hb,rfl⟩:=sK ((n k x s).symm.trans t)
 refine (Eo w h1 s v hx hy f hb).mono ?_
 rintro e w' ⟨rfl,C,u,A⟩
 refine ⟨rfl,⟨_,_,u,fun j z l=> ?_,fun j l i=> ?_⟩,A⟩
 ·show LK.put _ k x none j z=(upN m.seen k (rnF (m.seen k) x y) j z).map m.dat
  by_cases a:j=k
  ·subst a
   rw [aI]
   unfold rnF
   by_cases o:z=x
   ·subst o
    rw [LK.bT,if_neg f,if_pos rfl];rfl
   rw [LK.aH (fun h=>o h.2)]
   by_cases r:z=y
   ·subst r;rw [LK.bT,if_pos rfl,hb];rfl
   rw [LK.aH (fun h=>r h.2),if_neg r,if_neg o,n j z l]
  rw [aF a,LK.aH (fun h=>a h.1),LK.aH (fun h=>a h.1),n j z l]
 show m.sett j=upN m.seen k (rnF (m.seen k) x y) j
 by_cases a:j=k
 ·rw [a,aI] at i;cases i
 rw [aF a] at i ⊢;exact B j l i
theorem zR (h:DV O N R M w g q L sy) (r:k<3) (i:N≤1000000):Calls prog 181 #[.pointer (some ⟨g,0,none⟩),.string (bG k)] w (yY O N R M g q L (upN sy k true) w):=by
 obtain ⟨p,m,h1,d,o⟩:=h
 refine (Kw w h1 r i).mono ?_
 rintro e w' ⟨rfl,f,l⟩
 refine ⟨rfl,⟨_,_,f,d,fun j n b=> ?_⟩,l⟩
 show upN m.sett k (m.seen k) j=m.seen j
 by_cases a:j=k
 ·rw [a,aI]
 rw [aF a] at b ⊢;exact o j n b
end
def bD (x:ByteArray):ByteArray:=x++⟨#[46,116,109,112]⟩
def N8 (v:Option (ByteArray×Nat)) (w:World) (e:Ending) (w':World):Prop:=e= .returned (.tuple #[.string (v.elim ⟨#[]⟩ (·.1)),.int .i64 (v.elim 6 fun _=>0)])∧Below w.heap.size w w'
theorem wJ {nm:ByteArray} (h:aU (bD nm)=true):nm.size≤76:=by
 have:=dR h
 unfold bD at this
 rw [ByteArray.size_append] at this
 have e:(⟨#[46,116,109,112]⟩:ByteArray).size=4:=rfl
 omega
def tkC (k:Nat) (nm data:ByteArray) (lt:Bool) (nx:Nat) (made a:Bool):List Value:=[.string (bG k),.string nm,.string data,.bool lt,.int .i64 (nx:Int),.bool made,.bool a]
def TkB (w:World) (tb k:Nat) (nm data:ByteArray) (lt:Bool) (nx:Nat) (made a:Bool):Prop:=ak w tb 274 (tkC k nm data lt nx made a)
structure Cz (O O1:Nat → Prop) (tb:Nat):Prop where
 own:O1 tb
 sub:∀ b,O b → O1 b
 off:¬ O tb
section
variable {O O1:Nat → Prop} {N R M:Nat} {w:World} {g tb:Nat} {q:Int} {L:LK} {sy:Nat → Bool} {k:Nat} {nm data:ByteArray} {lt made:Bool} {nx:Nat}
theorem sG {x:ByteArray} (h:DV O N R M w g q L sy) (a:k<3) (f:N+R≤1000000) (hx:aU x=true):Calls prog 71 #[.pointer (some ⟨g,0,none⟩),.string (bG k),.string x] w (N8 (L k x) w):=by
 obtain ⟨d,h1,b⟩:=h.at f
 refine (uI g d (bG k) x w h1 (by have:=rF (k:=k);unfold bG;split<;>(try split)<;>decide) (by have:=dR hx;omega)).mono ?_
 rintro e w' ⟨rfl,hb⟩
 refine ⟨?_,hb⟩
 unfold rdD
 rw [hx,if_pos rfl,gV a]
 dsimp only
 rw [b k x a]
 unfold LK.dk
 cases L k x<;>rfl
def uP (O O1:Nat→Prop) (N R M:Nat) (g:Nat) (q:Int) (L:LK) (sy:Nat→Bool) (tb k:Nat) (nm data:ByteArray) (lt:Bool) (nx:Nat) (made a:Bool) (w:World) (e:Ending) (w':World):Prop :=
 e= .returned (.tuple #[.bool a,.int .i64 0])∧DV O1 N R M w' g q L sy∧TkB w' tb k nm data lt nx made false∧Kp O w w'
theorem xK (h:DV O1 N R M w g q L sy) (u:k<3) (s:N+R≤1000000) (d:TkB w tb k nm data lt nx made false) (hx:aU (bD nm)=true) (m:L k (bD nm)=none) :
  Calls prog 264 #[.pointer (some ⟨tb,0,none⟩),.pointer (some ⟨g,0,none⟩)] w (uP O O1 N R M g q L sy tb k nm data lt nx made false w):=by
 have o:=ah d
 have t:=ah h
 have b:Hid (∀W,Below w.heap.size w W→Calls prog 71 #[.pointer (some ⟨g,0,none⟩),.string (bG k),.string (bD nm)] W fun e w'=>e= .returned (.tuple #[.string ⟨#[]⟩,.int .i64 6])∧Below W.heap.size W w'):=ah fun W hb=>by
  have:=sG (h.below hb) u s hx
  rw [m] at this
  exact this
 have n:w.cell? ⟨tb,0,none⟩=some (.string (bG k)):=ak.range d 0 _ rfl
 have c1:w.cell? ⟨tb,1,none⟩=some (.string nm):=ak.range d 1 _ rfl
 have p:=ak.lt d
 have r:=wJ hx
 unfold bD at b
 generalize f:bG k=dn at b n
 clear h d m hx f
 go_enter func264,ntmps264
 go_upto_region 1 with fail
 have i:=fun x:BW w.heap.size w=>b.out x.out x.hb
 refine wbq ?_
 have l:=blq n
 have j:=blq c1
 repeat (go_big_quiet_step ((go_at_call 71;with_reducible exact aA (i _))))
 refine wpQuiet_nil ?_
 intro v a
 clear l j
 go_wp2_with fail
 go_ret2
 exact ⟨rfl,t.out.below a,o.out.below a,Kp.of a⟩
theorem qy {O O1:Nat→Prop} {w w':World} {tb:Nat} {t:TypeId} {cs:List Value} (hb:ak w tb t cs) (b:Kp O1 w w') (a:Cz O O1 tb):ak w' tb t cs:=(b.block hb.lt a.own).trans hb
theorem xX {O O1:Nat→Prop} {w w':World} {tb:Nat} (d:Kp O1 w w') (a:Cz O O1 tb):Kp O w w':=d.sub fun b _ h=>a.sub b h
theorem nH {O O1:Nat→Prop} {w:World} {tb:Nat} (a:Cz O O1 tb) (i:Nat) (v:Value):Kp O w (w.setCell ⟨tb,i,none⟩ v):=⟨rfl,rfl,rfl,by simp [World.setCell],fun j _ b=>Below.heap_setCell _ _ _ _ (fun e=>b (fun h=>a.off ((show j=tb from e)▸h)))⟩
theorem dB {w:World} {b i:Nat} {v:Value}:Chg (fun j=>j=b) w (w.setCell ⟨b,i,none⟩ v):=⟨rfl,rfl,rfl,by simp [World.setCell],fun j _ a=>Below.heap_setCell _ _ _ _ a⟩
theorem uq (h:DV O1 N R M w g q L sy) (C:k<3) (I:N+R≤1000000) (m:TkB w tb k nm data lt nx made false) (y:Cz O O1 tb) (hx:aU (bD nm)=true) (v:L k (bD nm)=none) :
  Calls prog 265 #[.pointer (some ⟨tb,0,none⟩),.pointer (some ⟨g,0,none⟩)] w (uP O O1 (N+1) (R+1) M g q (L.put k (bD nm) (some (⟨#[]⟩,0))) (upN sy k false) tb k nm data lt nx true true w):=by
 have z:=ah m
 have o:=ah y
 have n:Hid (∀W,Below w.heap.size w W→Calls prog 293 #[.pointer (some ⟨g,0,none⟩),.string (bG k),.string (bD nm)] W (yY O1 (N+1) (R+1) M g q (L.put k (bD nm) (some (⟨#[]⟩,0))) (upN sy k false) W)):=ah fun W hb=>CP (h.below hb) C I hx v
 have u:w.cell? ⟨tb,0,none⟩=some (.string (bG k)):=ak.range m 0 _ rfl
 have c1:w.cell? ⟨tb,1,none⟩=some (.string nm):=ak.range m 1 _ rfl
 have B:=ak.lt m
 have F:=wJ hx
 obtain ⟨p,j⟩:∃p,bD nm=p:=⟨_,rfl⟩
 rw [j] at n ⊢
 have x:nm++⟨#[46,116,109,112]⟩=p:=j
 generalize t:bG k=dn at n u
 clear h m v hx t y j
 go_enter func265,ntmps265
 go_upto_region 1 with fail
 refine bg 10 (by kernel_rfl) (by kernel_rfl) ?_
 simp only [List.take_succ_cons,List.take_zero,List.drop_succ_cons,List.drop_zero]
 have s:=blq u
 have r:=blq c1
 repeat (go_big_quiet_step (fail))
 refine wpQuiet_nil ?_
 intro G f
 clear s r
 clear u c1
 go_wp2_with fail
 refine (n.out G f).mono ?_
 rintro e w1 ⟨rfl,A,d⟩
 have i:=qy (z.out.below f) d o.out
 have a:=i.there 5 (by simp [tkC])
 rw [Nat.zero_add] at a
 have l:=a.1
 have H:=a.2
 obtain ⟨J,D⟩:=Option.isSome_iff_exists.1 l
 have E:Hid (DV O1 (N+1) (R+1) M (w1.setCell ⟨tb,5,none⟩ (.bool true)) g q (L.put k p (some (⟨#[]⟩,0))) (upN sy k false)∧TkB (w1.setCell ⟨tb,5,none⟩ (.bool true)) tb k nm data lt nx true false∧Kp O w (w1.setCell ⟨tb,5,none⟩ (.bool true))) :=
  ah ⟨A.chg dB (fun b e=>e▸o.out.own),i.put 5 _,((Kp.of f).trans (xX d o.out)).trans (nH o.out 5 _)⟩
 clear A d i a l z n
 go_wp2_with fail
 go_ret2
 exact ⟨rfl,E.out⟩
theorem uw {d:ByteArray×Nat} (h:DV O1 N R M w g q L sy) (E:k<3) (i:TkB w tb k nm data lt nx made false) (A:Cz O O1 tb) (hx:aU (bD nm)=true) (v:L k (bD nm)=some d) (x:d.1.size+data.size≤M) (l:M≤1048576) (u:3*(N*M)+data.size≤q) (j:q≤1000000000) :
  Calls prog 266 #[.pointer (some ⟨tb,0,none⟩),.pointer (some ⟨g,0,none⟩)] w (uP O O1 N R M g q (L.put k (bD nm) (some (d.1++data,d.2))) sy tb k nm data lt nx made true w):=by
 have B:=ah i
 have y:=ah A
 have m:Hid (∀W,Below w.heap.size w W→Calls prog 113 #[.pointer (some ⟨g,0,none⟩),.string (bG k),.string (bD nm),.string data] W (yY O1 N R M g q (L.put k (bD nm) (some (d.1++data,d.2))) sy W)):=ah fun W hb=>tT (h.below hb) E hx v data x l u j
 have s:w.cell? ⟨tb,0,none⟩=some (.string (bG k)):=ak.range i 0 _ rfl
 have c1:w.cell? ⟨tb,1,none⟩=some (.string nm):=ak.range i 1 _ rfl
 have c2:w.cell? ⟨tb,2,none⟩=some (.string data):=ak.range i 2 _ rfl
 have D:=ak.lt i
 have G:=wJ hx
 obtain ⟨t,f⟩:∃t,bD nm=t:=⟨_,rfl⟩
 rw [f] at m ⊢
 have z:nm++⟨#[46,116,109,112]⟩=t:=f
 generalize r:bG k=dn at m s
 clear h i v hx r A f x l u j
 go_enter func266,ntmps266
 go_upto_region 1 with fail
 refine bg 14 (by kernel_rfl) (by kernel_rfl) ?_
 simp only [List.take_succ_cons,List.take_zero,List.drop_succ_cons,List.drop_zero]
 have p:=blq s
 have o:=blq c1
 have n:=blq c2
 repeat (go_big_quiet_step (fail))
 refine wpQuiet_nil ?_
 intro H b
 clear p o n
 clear s c1 c2
 go_wp2_with fail
 refine (m.out H b).mono ?_
 rintro e w1 ⟨rfl,C,a⟩
 have F:=ah (And.intro C (And.intro (qy (B.out.below b) a y.out) ((Kp.of (O:=O) b).trans (xX a y.out))))
 clear C a B m
 go_wp2_with fail
 go_ret2
 exact ⟨rfl,F.out⟩
theorem FK (h:DV O1 N R M w g q L sy) (a:TkB w tb k nm data true nx made false) :
  Calls prog 267 #[.pointer (some ⟨tb,0,none⟩),.pointer (some ⟨g,0,none⟩)] w (uP O O1 N R M g q L sy tb k nm data true nx made false w):=by
 have b:Hid (DV O1 N R M w g q L sy∧TkB w tb k nm data true nx made false∧Kp O w w):=ah ⟨h,a,Kp.refl _ _⟩
 have c3:w.cell? ⟨tb,3,none⟩=some (.bool true):=ak.range a 3 _ rfl
 clear h a
 go_enter func267,ntmps267
 go_wp2_with fail
 go_ret2
 exact ⟨rfl,b.out⟩
theorem Js {d:ByteArray×Nat} (h:DV O1 N R M w g q L sy) (A:k<3) (i:TkB w tb k nm data false nx made false) (u:Cz O O1 tb) (hx:aU (bD nm)=true) (r:L k (bD nm)=some d) :
  Calls prog 267 #[.pointer (some ⟨tb,0,none⟩),.pointer (some ⟨g,0,none⟩)] w (uP O O1 N R M g q (L.put k (bD nm) (some (d.1,d.1.size))) sy tb k nm data false nx made true w):=by
 have v:=ah i
 have s:=ah u
 have j:Hid (∀W,Below w.heap.size w W→Calls prog 115 #[.pointer (some ⟨g,0,none⟩),.string (bG k),.string (bD nm)] W (yY O1 N R M g q (L.put k (bD nm) (some (d.1,d.1.size))) sy W)):=ah fun W hb=>sF (h.below hb) A hx r
 have o:w.cell? ⟨tb,0,none⟩=some (.string (bG k)):=ak.range i 0 _ rfl
 have c1:w.cell? ⟨tb,1,none⟩=some (.string nm):=ak.range i 1 _ rfl
 have c3:w.cell? ⟨tb,3,none⟩=some (.bool false):=ak.range i 3 _ rfl
 have y:=ak.lt i
 have B:=wJ hx
 obtain ⟨p,f⟩:∃p,bD nm=p:=⟨_,rfl⟩
 rw [f] at j ⊢
 have t:nm++⟨#[46,116,109,112]⟩=p:=f
 generalize n:bG k=dn at j o
 clear h i r hx n u f
 go_enter func267,ntmps267
 go_upto_region 3 with fail
 refine bg 10 (by kernel_rfl) (by kernel_rfl) ?_
 simp only [List.take_succ_cons,List.take_zero,List.drop_succ_cons,List.drop_zero]
 have m:=blq o
 have l:=blq c1
 repeat (go_big_quiet_step (fail))
 refine wpQuiet_nil ?_
 intro C b
 clear m l
 clear o c1 c3
 go_wp2_with fail
 refine (j.out C b).mono ?_
 rintro e w1 ⟨rfl,x,a⟩
 have z:=ah (And.intro x (And.intro (qy (v.out.below b) a s.out) ((Kp.of (O:=O) b).trans (xX a s.out))))
 clear x a v j
 go_wp2_with fail
 go_ret2
 exact ⟨rfl,z.out⟩
theorem uj {d:ByteArray×Nat} (h:DV O1 N R M w g q L sy) (E:k<3) (J:N+R≤1000000) (n:TkB w tb k nm data lt nx made false) (z:Cz O O1 tb) (hx:aU (bD nm)=true) (hy:aU nm=true) (x:L k (bD nm)=some d) :
  Calls prog 268 #[.pointer (some ⟨tb,0,none⟩),.pointer (some ⟨g,0,none⟩)] w (uP O O1 N (R+1) M g q ((L.put k nm (some d)).put k (bD nm) none) (upN sy k false) tb k nm data lt nx false true w):=by
 have A:=ah n
 have p:=ah z
 have m:bD nm≠nm:=fun e=>by
  have:=congrArg ByteArray.size e
  unfold bD at this
  rw [ByteArray.size_append] at this
  have e:(⟨#[46,116,109,112]⟩:ByteArray).size=4:=rfl
  omega
 have o:Hid (∀W,Below w.heap.size w W→Calls prog 294 #[.pointer (some ⟨g,0,none⟩),.string (bG k),.string (bD nm),.string nm] W (yY O1 N (R+1) M g q ((L.put k nm (some d)).put k (bD nm) none) (upN sy k false) W)):=ah fun W hb=>CO (h.below hb) E J hx hy m x
 have v:w.cell? ⟨tb,0,none⟩=some (.string (bG k)):=ak.range n 0 _ rfl
 have c1:w.cell? ⟨tb,1,none⟩=some (.string nm):=ak.range n 1 _ rfl
 have D:=ak.lt n
 have G:=wJ hx
 obtain ⟨r,l⟩:∃r,bD nm=r:=⟨_,rfl⟩
 rw [l] at o ⊢
 have y:nm++⟨#[46,116,109,112]⟩=r:=l
 generalize u:bG k=dn at o v
 clear h n x hx hy u z l m
 go_enter func268,ntmps268
 go_upto_region 1 with fail
 refine bg 14 (by kernel_rfl) (by kernel_rfl) ?_
 simp only [List.take_succ_cons,List.take_zero,List.drop_succ_cons,List.drop_zero]
 have t:=blq v
 have s:=blq c1
 repeat (go_big_quiet_step (fail))
 refine wpQuiet_nil ?_
 intro H j
 clear t s
 clear v c1
 go_wp2_with fail
 refine (o.out H j).mono ?_
 rintro e w1 ⟨rfl,B,i⟩
 have a:=qy (A.out.below j) i p.out
 have C:w1.cell? ⟨tb,5,none⟩=some (.bool made):=a.range 5 _ rfl
 have f:=a.there 5 (by simp [tkC])
 rw [Nat.zero_add] at f
 have I:=f.2
 have F:Hid (DV O1 N (R+1) M (w1.setCell ⟨tb,5,none⟩ (.bool false)) g q ((L.put k nm (some d)).put k r none) (upN sy k false)∧TkB (w1.setCell ⟨tb,5,none⟩ (.bool false)) tb k nm data lt nx false false∧Kp O w (w1.setCell ⟨tb,5,none⟩ (.bool false))) :=
  ah ⟨B.chg dB (fun b e=>e▸p.out.own),a.put 5 _,((Kp.of j).trans (xX i p.out)).trans (nH p.out 5 _)⟩
 clear B i a f A o
 cases made
 all_goals
  go_wp2_with fail
  go_ret2
  exact ⟨rfl,F.out⟩
theorem Dy (h:DV O1 N R M w g q L sy) (r:k<3) (p:N≤1000000) (b:TkB w tb k nm data false nx made false) (l:Cz O O1 tb) :
  Calls prog 269 #[.pointer (some ⟨tb,0,none⟩),.pointer (some ⟨g,0,none⟩)] w (uP O O1 N R M g q L (upN sy k true) tb k nm data false nx made true w):=by
 have i:=ah b
 have j:=ah l
 have f:Hid (∀W,Below w.heap.size w W→Calls prog 181 #[.pointer (some ⟨g,0,none⟩),.string (bG k)] W (yY O1 N R M g q L (upN sy k true) W)):=ah fun W hb=>zR (h.below hb) r p
 have n:w.cell? ⟨tb,0,none⟩=some (.string (bG k)):=ak.range b 0 _ rfl
 have c3:w.cell? ⟨tb,3,none⟩=some (.bool false):=ak.range b 3 _ rfl
 generalize d:bG k=dn at f n
 clear h b d l
 go_enter func269,ntmps269
 go_wp2_with fail
 refine (f.out w (Below.refl _ _)).mono ?_
 rintro e w1 ⟨rfl,m,a⟩
 have o:=ah (And.intro m (And.intro (qy i.out a j.out) (xX a j.out)))
 clear m a i f
 go_wp2_with fail
 go_ret2
 exact ⟨rfl,o.out⟩
end
def fq:List Value:=[.func (.func 264) #[] #[],.func (.func 265) #[] #[],.func (.func 266) #[] #[],.func (.func 267) #[] #[],.func (.func 268) #[] #[],.func (.func 269) #[] #[]]
theorem infoSt:(prog.info? 312).map (·.size)=some 6:=by decide +kernel
theorem xJ (w:World):Calls prog 237 #[] w fun e w'=>e= .returned (.agg fq.toArray)∧Below w.heap.size w w':=by
 go_enter func237,ntmps237
 go_wp2_with fail
 exact bK rfl w.heap.size 0 rfl fq _ ((ak.new w 312 fq).range) underlying312 rfl infoSt rfl ⟨rfl,bal⟩
theorem Al (tb:Nat) (a:Bool) (w:World) (b:w.cell? ⟨tb,6,none⟩=some (.bool a)):Calls prog 236 #[.pointer (some ⟨tb,0,none⟩)] w fun e w'=>e= .returned (.bool a)∧w'=w:=by
 go_enter func236,ntmps236
 go_wp2_with fail
 go_ret
 exact ⟨rfl,rfl⟩
section
variable {O:Nat → Prop} {N R M N' R':Nat} {w:World} {g tb:Nat} {q:Int} {L L':LK} {sy sy':Nat → Bool} {k:Nat} {nm data:ByteArray} {lt made made':Bool}
def gD (lt:Bool) (n:Nat):Bool:=decide (n=6) || (lt&&decide (n=5))
def Wo (O:Nat→Prop) (tb b:Nat):Prop:=O b∧b≠tb
theorem jm {O:Nat→Prop} {tb:Nat} (h:O tb):Cz (Wo O tb) O tb:=⟨h,fun _ h=>h.1,fun h=>h.2 rfl⟩
def Qx (fn:FuncId) (N R N' R' M:Nat) (g:Nat) (q:Int) (L L':LK) (sy sy':Nat→Bool) (tb k:Nat) (nm data:ByteArray) (lt:Bool) (nx:Nat) (made made' a:Bool):Prop :=
 ∀(O:Nat→Prop) (W:World),O tb→DV O N R M W g q L sy→TkB W tb k nm data lt nx made false→Calls prog fn #[.pointer (some ⟨tb,0,none⟩),.pointer (some ⟨g,0,none⟩)] W (uP (Wo O tb) O N' R' M g q L' sy' tb k nm data lt nx made' a W)
def Iw (O:Nat→Prop) (N R M:Nat) (g:Nat) (q:Int) (L:LK) (sy:Nat→Bool) (tb k:Nat) (nm data:ByteArray) (lt:Bool) (nx:Nat) (made:Bool) (w:World) (e:Ending) (w':World):Prop :=
 e= .returned (.tuple #[.bool (gD lt nx),.int .i64 0])∧DV O N R M w' g q L sy∧TkB w' tb k nm data lt nx made (gD lt nx)∧Kp (Wo O tb) w w'
theorem jR (i:Nat) (hi:i<6) (fn:FuncId) (B:fq[i]? = some (.func (.func fn) #[] #[])) (aa:∀args w,Sem.run prog (callFunc fn args) w= .ok (.enter fn args) w) (z:DV O N R M w g q L sy) (hb:TkB w tb k nm data lt i made false) (ho:O tb)
  (X:Qx fn N R N' R' M g q L L' sy sy' tb k nm data lt i made made' true) :
  Calls prog 193 #[.pointer (some ⟨tb,0,none⟩),.pointer (some ⟨g,0,none⟩)] w (Iw O N' R' M g q L' sy' tb k nm data lt (i+1) made' w):=by
 have Y:=ah (Al tb false w (ak.range hb 6 _ rfl))
 have HS:=ah (xJ w)
 have HB:=ah hb
 have C:=ah (jm ho)
 have Q:=ah z
 have HM:=ah X
 clear hb ho z X
 go_enter func193,ntmps193
 go_wp2_with fail
 refine iq 0 ?_
 generalize zL _ _ _ _=J
 go_wp2_with fail
 refine Y.out.mono ?_
 rintro e w0 ⟨rfl,rfl⟩
 go_wp2_with fail
 refine HS.out.mono ?_
 rintro e w1 ⟨rfl,x⟩
 have E:=ah (there_alloc (n:=6) w1 #[.nilFunc,.nilFunc,.nilFunc,.nilFunc,.nilFunc,.nilFunc] 312 rfl)
 obtain ⟨W,K⟩:∃W,(w1.alloc (.cells #[.nilFunc,.nilFunc,.nilFunc,.nilFunc,.nilFunc,.nilFunc] 312)).setCells w1.heap.size 0 fq=W:=⟨_,rfl⟩
 have G:ak W w1.heap.size 312 fq:=by rw [←K];exact (ak.new w1 _ [.nilFunc,.nilFunc,.nilFunc,.nilFunc,.nilFunc,.nilFunc]).set rfl
 have y:Below w1.heap.size w1 W:=by rw [←K];exact below_setCells _ (Nat.le_refl _) _ _ _ bal
 have m:=ah (x.trans (y.mono x.size))
 have T:=ah K
 have Z:=infoSt
 have j:∀v∈fq,v.oneCell'=true:=by decide
 have t:fq.length=6:=rfl
 have S:W.cell? ⟨w1.heap.size,i,none⟩=some (.func (.func fn) #[] #[]):=by have:=G.range i _ B;rwa [Nat.zero_add] at this
 have r:=ah (ak.below HB.out m.out)
 have c4:W.cell? ⟨tb,4,none⟩=some (.int .i64 (i:Int)):=r.out.range 4 _ rfl
 have d0:(0:Int)≤i:=by omega
 have d6:(i:Int)<6:=by omega
 obtain ⟨sv,s⟩:∃sv,fq=sv:=⟨_,rfl⟩
 rw [s] at T j t
 rw [s]
 clear x y G K HS Y B s
 go_wp2_with (refine aj rfl 312 _ _ rfl w1.heap.size 0 sv rfl rfl 6 t E.out Z j ?_;rw [T.out])
 simp only [Act.put]
 rename_i U
 refine wp_label (U _ _ ?_)
 clear U j t T Z E
 go_wp2_with fail
 refine (HM.out O W C.out.own (Q.out.below m.out) r.out).mono ?_
 rintro e w2 ⟨rfl,hv,o,H⟩
 have l:=o.there 4 (by simp [tkC])
 rw [Nat.zero_add] at l
 have f4:=l.2
 have e4:w2.cell? ⟨tb,4,none⟩=some (.int .i64 (i:Int)):=ak.range o 4 _ rfl
 have wi:IntKind.i64.wrap ((i:Int)+1)=(i:Int)+1:=IntWalk.i64_in _ (by omega)
 obtain ⟨p,h⟩:∃W,w2.setCell ⟨tb,4,none⟩ (.int .i64 ((i:Int)+1))=W:=⟨_,rfl⟩
 have d:TkB p tb k nm data lt (i+1) made' false:=by rw [←h];exact o.put 4 _
 have F:DV O N' R' M p g q L' sy':=by rw [←h];exact hv.chg dB (fun b e=>e▸C.out.own)
 have A:Kp (Wo O tb) w0 p:=((Kp.of m.out).trans H).trans (by rw [←h];exact nH C.out 4 _)
 have g3:p.cell? ⟨tb,3,none⟩=some (.bool lt):=ak.range d 3 _ rfl
 have g4:p.cell? ⟨tb,4,none⟩=some (.int .i64 ((i:Int)+1)):=ak.range d 4 _ rfl
 have f:=d.there 6 (by simp [tkC])
 rw [Nat.zero_add] at f
 have f6:=f.2
 have g6:p.cell? ⟨tb,6,none⟩=some (.bool false):=ak.range d 6 _ rfl
 have V:Hid (DV O N' R' M (p.setCell ⟨tb,6,none⟩ (.bool (gD lt (i+1)))) g q L' sy'∧TkB (p.setCell ⟨tb,6,none⟩ (.bool (gD lt (i+1)))) tb k nm data lt (i+1) made' (gD lt (i+1))∧Kp (Wo O tb) w0 (p.setCell ⟨tb,6,none⟩ (.bool (gD lt (i+1))))) :=
  ah ⟨F.chg dB (fun b e=>e▸C.out.own),d.put 6 _,A.trans (nH C.out 6 _)⟩
 have D:=ah h
 clear l f o hv H d F A h r HB m c4 S HM
 go_upto_region 9 with fail
 rw [D.out]
 clear D f4 e4
 have a:(((i:Int)+1==6)=true∧gD lt (i+1)=true)∨(((i:Int)+1==6)=false∧lt=false∧gD lt (i+1)=false)∨(((i:Int)+1==6)=false∧lt=true∧((i:Int)+1==5)=true∧gD lt (i+1)=true)∨(((i:Int)+1==6)=false∧lt=true∧((i:Int)+1==5)=false∧gD lt (i+1)=false):=by
  unfold gD
  by_cases x6:i=5
  ·left;subst x6;exact ⟨by decide,by simp⟩
  have u:((i:Int)+1==6)=false:=by rw [beq_eq_false_iff_ne];omega
  rw [decide_eq_false (show ¬i+1=6 by omega)]
  cases lt with
  | false=>right;left;exact ⟨u,rfl,rfl⟩
  | true =>
   by_cases x5:i=4
   ·right;right;left;subst x5;exact ⟨u,rfl,by decide,by decide⟩
   right;right;right;exact ⟨u,rfl,by rw [beq_eq_false_iff_ne];omega,by rw [decide_eq_false (show ¬i+1=5 by omega)];rfl⟩
 generalize I:gD lt (i+1)=en at V a
 have P:=ah I
 clear I d0 d6 wi
 generalize (i:Int)+1=n1 at g4 a ⊢
 rcases a with ⟨u,rfl⟩|⟨u,rfl,rfl⟩|⟨u,rfl,y5,rfl⟩|⟨u,rfl,y5,rfl⟩
 all_goals
  go_wp2_with fail
  go_ret2
  unfold Iw
  rw [P.out]
  exact ⟨rfl,V.out⟩
theorem pJ {N1 R1:Nat} {L1:LK} {sy1:Nat→Bool} {made1:Bool} (i:Nat) (hi:i<5) (S:gD lt (i+1)=false) (y:FuncId) (T:fq[i]? = some (.func (.func y) #[] #[])) (ba:∀args w,Sem.run prog (callFunc y args) w= .ok (.enter y args) w) (fn:FuncId) (ax:fq[i+1]? = some (.func (.func fn) #[] #[])) (bc:∀args w,Sem.run prog (callFunc fn args) w= .ok (.enter fn args) w) (aw:DV O N R M w g q L sy) (hb:TkB w tb k nm data lt i made false) (ho:O tb)
  (ar:Qx y N R N1 R1 M g q L L1 sy sy1 tb k nm data lt i made made1 false) (hM:Qx fn N1 R1 N' R' M g q L1 L' sy1 sy' tb k nm data lt (i+1) made1 made' true) :
  Calls prog 193 #[.pointer (some ⟨tb,0,none⟩),.pointer (some ⟨g,0,none⟩)] w (Iw O N' R' M g q L' sy' tb k nm data lt (i+1+1) made' w):=by
 have HD:=ah (Al tb false w (ak.range hb 6 _ rfl))
 have HS:=ah (xJ w)
 have HB:=ah hb
 have G:=ah (jm ho)
 have ag:=ah aw
 have HM:=ah hM
 have an:=ah ar
 have U:=ah S
 clear hb ho aw hM ar S
 go_enter func193,ntmps193
 go_wp2_with fail
 refine iq 1 ?_
 go_wp2_with fail
 refine HD.out.mono ?_
 rintro e w0 ⟨rfl,rfl⟩
 go_wp2_with fail
 refine HS.out.mono ?_
 rintro e w1 ⟨rfl,A⟩
 have ao:=ah (there_alloc (n:=6) w1 #[.nilFunc,.nilFunc,.nilFunc,.nilFunc,.nilFunc,.nilFunc] 312 rfl)
 obtain ⟨W,hW⟩:∃W,(w1.alloc (.cells #[.nilFunc,.nilFunc,.nilFunc,.nilFunc,.nilFunc,.nilFunc] 312)).setCells w1.heap.size 0 fq=W:=⟨_,rfl⟩
 have J:ak W w1.heap.size 312 fq:=by rw [←hW];exact (ak.new w1 _ [.nilFunc,.nilFunc,.nilFunc,.nilFunc,.nilFunc,.nilFunc]).set rfl
 have aq:Below w1.heap.size w1 W:=by rw [←hW];exact below_setCells _ (Nat.le_refl _) _ _ _ bal
 have H:=ah (A.trans (aq.mono A.size))
 have HW:=ah hW
 have h6:=infoSt
 have E:∀v∈fq,v.oneCell'=true:=by decide
 have ad:fq.length=6:=rfl
 have V:W.cell? ⟨w1.heap.size,i,none⟩=some (.func (.func y) #[] #[]):=by have:=J.range i _ T;rwa [Nat.zero_add] at this
 have aE:=ah J
 have am:=ah ax
 have af:=ah J.lt
 have a3:Hid (w0.heap.size≤w1.heap.size):=ah A.size
 have ae:Hid (w1.heap.size≠tb):=ah (by have h1:=ak.lt HB.out;have h2:=A.size;omega)
 have Z:=ah (ak.below HB.out H.out)
 have c4:W.cell? ⟨tb,4,none⟩=some (.int .i64 (i:Int)):=Z.out.range 4 _ rfl
 have d0:(0:Int)≤i:=by omega
 have d6:(i:Int)<6:=by omega
 obtain ⟨sv,ac⟩:∃sv,fq=sv:=⟨_,rfl⟩
 rw [ac] at HW E ad
 rw [ac]
 clear A aq J hW HS HD ax T ac
 go_wp2_with (refine aj rfl 312 _ _ rfl w1.heap.size 0 sv rfl rfl 6 ad ao.out h6 E ?_;rw [HW.out])
 simp only [Act.put]
 rename_i hK
 refine wp_label (hK _ _ ?_)
 clear hK E ad HW h6 ao
 go_wp2_with fail
 refine (an.out (Ou O w0 W) W (.inl G.out.own) (ag.out.on H.out) Z.out).mono ?_
 rintro e Y ⟨rfl,X,s,t⟩
 have Q:ak Y w1.heap.size 312 fq:=(t.block af.out ⟨.inr ⟨a3.out,af.out⟩,ae.out⟩).trans aE.out
 have t:Kp (Wo O tb) W Y:=t.sub fun b _ h=>⟨.inl h.1,h.2⟩
 have X:=X.sub (fun b h=> .inl h) ag.out.ko
 have p:=s.there 4 (by simp [tkC])
 rw [Nat.zero_add] at p
 have f4:=p.2
 have e4:Y.cell? ⟨tb,4,none⟩=some (.int .i64 (i:Int)):=ak.range s 4 _ rfl
 have wi:IntKind.i64.wrap ((i:Int)+1)=(i:Int)+1:=IntWalk.i64_in _ (by omega)
 obtain ⟨r,f⟩:∃W,Y.setCell ⟨tb,4,none⟩ (.int .i64 ((i:Int)+1))=W:=⟨_,rfl⟩
 have d:TkB r tb k nm data lt (i+1) made1 false:=by rw [←f];exact s.put 4 _
 have F:DV O N1 R1 M r g q L1 sy1:=by rw [←f];exact X.chg dB (fun b e=>e▸G.out.own)
 have B:Kp (Wo O tb) w0 r:=((Kp.of H.out).trans t).trans (by rw [←f];exact nH G.out 4 _)
 have g3:r.cell? ⟨tb,3,none⟩=some (.bool lt):=ak.range d 3 _ rfl
 have g4:r.cell? ⟨tb,4,none⟩=some (.int .i64 ((i:Int)+1)):=ak.range d 4 _ rfl
 have o:=d.there 6 (by simp [tkC])
 rw [Nat.zero_add] at o
 have f6:=o.2
 have g6:r.cell? ⟨tb,6,none⟩=some (.bool false):=ak.range d 6 _ rfl
 have I:Hid (DV O N1 R1 M (r.setCell ⟨tb,6,none⟩ (.bool (gD lt (i+1)))) g q L1 sy1∧TkB (r.setCell ⟨tb,6,none⟩ (.bool (gD lt (i+1)))) tb k nm data lt (i+1) made1 (gD lt (i+1))∧Kp (Wo O tb) w0 (r.setCell ⟨tb,6,none⟩ (.bool (gD lt (i+1))))) :=
  ah ⟨F.chg dB (fun b e=>e▸G.out.own),d.put 6 _,B.trans (nH G.out 6 _)⟩
 have D:=ah f
 have al:=ah f
 have P:=ah Q
 clear Q p o s X t d F B f Z HB H c4 V an
 go_upto_region 9 with fail
 rw [D.out]
 clear D f4 e4
 have m:(((i:Int)+1==6)=true∧gD lt (i+1)=true)∨(((i:Int)+1==6)=false∧lt=false∧gD lt (i+1)=false)∨(((i:Int)+1==6)=false∧lt=true∧((i:Int)+1==5)=true∧gD lt (i+1)=true)∨(((i:Int)+1==6)=false∧lt=true∧((i:Int)+1==5)=false∧gD lt (i+1)=false):=by
  unfold gD
  by_cases x6:i=5
  ·left;subst x6;exact ⟨by decide,by simp⟩
  have x:((i:Int)+1==6)=false:=by rw [beq_eq_false_iff_ne];omega
  rw [decide_eq_false (show ¬i+1=6 by omega)]
  cases lt with
  | false=>right;left;exact ⟨x,rfl,rfl⟩
  | true =>
   by_cases x5:i=4
   ·right;right;left;subst x5;exact ⟨x,rfl,by decide,by decide⟩
   right;right;right;exact ⟨x,rfl,by rw [beq_eq_false_iff_ne];omega,by rw [decide_eq_false (show ¬i+1=5 by omega)];rfl⟩
 rw [U.out] at I
 have u:((i:Int)+1==6)=false∧(lt=false∨lt=true∧((i:Int)+1==5)=false):=by
  have hn:=U.out
  unfold gD at hn
  refine ⟨by rw [beq_eq_false_iff_ne];omega,?_⟩
  cases lt with
  | false=>exact .inl rfl
  | true =>
   refine .inr ⟨rfl,?_⟩
   rw [beq_eq_false_iff_ne]
   intro e
   have:i+1=5:=by omega
   rw [this] at hn
   exact absurd hn (by decide)
 obtain ⟨W4,K⟩:∃W,r.setCell ⟨tb,6,none⟩ (.bool false)=W:=⟨_,rfl⟩
 have a0:Hid (ak r w1.heap.size 312 fq):=ah (by rw [←al.out];exact P.out.chg dB ae.out)
 have a6:Hid (ak W4 w1.heap.size 312 fq):=ah (by rw [←K];exact a0.out.chg dB ae.out)
 rw [K] at I
 have a5:=ah I.out.1
 have z:=ah I.out.2.1
 have ap:=ah I.out.2.2
 have aa:=ah (HM.out O W4 G.out.own a5.out z.out)
 have c6:W4.cell? ⟨tb,6,none⟩=some (.bool false):=ak.range z.out 6 _ rfl
 have a8:=ah K
 clear m K I a0 P aE al d0 d6 wi
 generalize (i:Int)+1=n1 at g4 u
 obtain ⟨a,ab⟩:∃j,i+1=j:=⟨_,rfl⟩
 rw [ab] at z aa am
 have a2:=ah ab
 have bd:a<6:=by omega
 have c4:W4.cell? ⟨tb,4,none⟩=some (.int .i64 (a:Int)):=ak.range z.out 4 _ rfl
 have V:W4.cell? ⟨w1.heap.size,a,none⟩=some (.func (.func fn) #[] #[]):=by have:=a6.out.range a _ am.out;rwa [Nat.zero_add] at this
 have a7:(0:Int)≤(a:Int):=by omega
 have a1:(a:Int)<6:=by omega
 clear ab HM
 obtain ⟨x,ai⟩:=u
 obtain ⟨bb,C⟩:∃l,lt=l:=⟨_,rfl⟩
 have a9:=ah C
 rw [C] at g3 ai
 clear C
 rcases ai with rfl|⟨rfl,y5⟩
 all_goals
  go_wp2_with fail
  rw [a8.out]
  go_wp2_with fail
  refine wp_goto ?_
  refine vK rfl ?_
  clear g3 g4 f6 g6
  go_wp2_with fail
  refine aa.out.mono ?_
  rintro e Y ⟨rfl,X,s,t⟩
  have p:=s.there 4 (by simp [tkC])
  rw [Nat.zero_add] at p
  have f4:=p.2
  have e4:Y.cell? ⟨tb,4,none⟩=some (.int .i64 (a:Int)):=ak.range s 4 _ rfl
  have wi:IntKind.i64.wrap ((a:Int)+1)=(a:Int)+1:=IntWalk.i64_in _ (by omega)
  obtain ⟨r,f⟩:∃W,Y.setCell ⟨tb,4,none⟩ (.int .i64 ((a:Int)+1))=W:=⟨_,rfl⟩
  have d:TkB r tb k nm data lt (a+1) made' false:=by rw [←f];exact s.put 4 _
  have F:DV O N' R' M r g q L' sy':=by rw [←f];exact X.chg dB (fun b e=>e▸G.out.own)
  have B:Kp (Wo O tb) w0 r:=(ap.out.trans t).trans (by rw [←f];exact nH G.out 4 _)
  have g3:r.cell? ⟨tb,3,none⟩=some (.bool lt):=ak.range d 3 _ rfl
  have g4:r.cell? ⟨tb,4,none⟩=some (.int .i64 ((a:Int)+1)):=ak.range d 4 _ rfl
  have o:=d.there 6 (by simp [tkC])
  rw [Nat.zero_add] at o
  have f6:=o.2
  have g6:r.cell? ⟨tb,6,none⟩=some (.bool false):=ak.range d 6 _ rfl
  have I:Hid (DV O N' R' M (r.setCell ⟨tb,6,none⟩ (.bool (gD lt (a+1)))) g q L' sy'∧TkB (r.setCell ⟨tb,6,none⟩ (.bool (gD lt (a+1)))) tb k nm data lt (a+1) made' (gD lt (a+1))∧Kp (Wo O tb) w0 (r.setCell ⟨tb,6,none⟩ (.bool (gD lt (a+1))))) :=
   ah ⟨F.chg dB (fun b e=>e▸G.out.own),d.put 6 _,B.trans (nH G.out 6 _)⟩
  have D:=ah f
  clear p o s X t d F B f c4 V aa ap z
  go_upto_region 9 with fail
  rw [D.out]
  clear D f4 e4
  have m:(((a:Int)+1==6)=true∧gD lt (a+1)=true)∨(((a:Int)+1==6)=false∧lt=false∧gD lt (a+1)=false)∨(((a:Int)+1==6)=false∧lt=true∧((a:Int)+1==5)=true∧gD lt (a+1)=true)∨(((a:Int)+1==6)=false∧lt=true∧((a:Int)+1==5)=false∧gD lt (a+1)=false):=by
   unfold gD
   by_cases x6:a=5
   ·left;obtain rfl:a=5:=x6
    exact ⟨by decide,by simp⟩
   have x:((a:Int)+1==6)=false:=by rw [beq_eq_false_iff_ne];omega
   rw [decide_eq_false (show ¬a+1=6 by omega)]
   cases lt with
   | false=>right;left;exact ⟨x,rfl,rfl⟩
   | true =>
    by_cases x5:a=4
    ·right;right;left;obtain rfl:a=4:=x5
     exact ⟨x,rfl,by decide,by decide⟩
    right;right;right;exact ⟨x,rfl,by rw [beq_eq_false_iff_ne];omega,by rw [decide_eq_false (show ¬a+1=5 by omega)];rfl⟩
  generalize az:gD lt (a+1)=en at I m
  have a4:=ah az
  clear az a7 a1 wi
  generalize (a:Int)+1=n1 at g4 m ⊢
  rcases m with ⟨x,rfl⟩|⟨x,rfl,rfl⟩|⟨x,rfl,y5,rfl⟩|⟨x,rfl,y5,rfl⟩
  all_goals
   go_wp2_with fail
   go_ret2
   unfold Iw
   rw [a2.out]
   rw [a4.out]
   exact ⟨rfl,I.out⟩
end
section
variable {O:Nat → Prop} {N R M:Nat} {w:World} {g tb:Nat} {q:Int} {L:LK} {sy:Nat → Bool} {k:Nat} {nm data:ByteArray}
theorem Hu (d:ByteArray):(⟨#[]⟩:ByteArray)++d=d:=kH (by rw [ByteArray.data_append];simp)
theorem E9 (nm:ByteArray):bD nm≠nm:=fun e=>by
 have:=congrArg ByteArray.size e
 unfold bD at this
 rw [ByteArray.size_append] at this
 have e:(⟨#[46,116,109,112]⟩:ByteArray).size=4:=rfl
 omega
theorem MJ (d:L k (bD nm)=none) (a b c:ByteArray×Nat):((((L.put k (bD nm) (some a)).put k (bD nm) (some b)).put k (bD nm) (some c)).put k nm (some c)).put k (bD nm) none=L.put k nm (some c):=by
 funext j y
 unfold LK.put
 by_cases h1:j=k∧y=bD nm
 ·obtain ⟨rfl,rfl⟩:=h1
  rw [if_pos ⟨rfl,rfl⟩,if_neg (fun h=>E9 nm h.2),d]
 simp only [if_neg h1]
theorem MK (d:L k (bD nm)=none) (a b:ByteArray×Nat):(((L.put k (bD nm) (some a)).put k (bD nm) (some b)).put k nm (some b)).put k (bD nm) none=L.put k nm (some b):=by
 funext j y
 unfold LK.put
 by_cases h1:j=k∧y=bD nm
 ·obtain ⟨rfl,rfl⟩:=h1
  rw [if_pos ⟨rfl,rfl⟩,if_neg (fun h=>E9 nm h.2),d]
 simp only [if_neg h1]
theorem wD (f:Nat→Bool) (k:Nat) (a b:Bool):upN (upN f k a) k b=upN f k b:=by
 funext j
 unfold upN
 split<;>rfl
def Bc (O:Nat→Prop) (N R M:Nat) (g:Nat) (q:Int) (L:LK) (sy:Nat→Bool) (w:World) (e:Ending) (w':World):Prop:=e= .returned (.int .i64 0)∧DV O N R M w' g q L sy∧Kp O w w'
theorem Jt (a:DV O N R M w g q L sy) (hb:TkB w tb k nm data false 0 false false) (b:O tb) (j:k<3) (hN:N+R≤900000) (hx:aU (bD nm)=true) (hy:aU nm=true) (F:L k (bD nm)=none) (Z:data.size≤M) (p:M≤1048576) (V:3*((N+1)*M)+data.size≤q) (n:q≤1000000000) :
  Calls prog 126 #[.pointer (some ⟨g,0,none⟩),.pointer (some ⟨tb,0,none⟩)] w fun e w'=>e= .returned (.int .i64 0)∧DV O (N+1) (R+2) M w' g q (L.put k nm (some (data,data.size))) (upN sy k true)∧Kp (Wo O tb) w w':=by
 have X:=ah (pJ (O:=O) (w:=w) (N1:=N) (R1:=R) (L1:=L) (sy1:=sy) (made1:=false) 0 (by omega) (by decide) 264 rfl (enters_of func264 (by kernel_rfl) rfl) 265 rfl (enters_of func265 (by kernel_rfl) rfl) a hb b
  (fun O W b a d=>xK a j (by omega) d hx F) (fun O W b a d=>uq a j (by omega) d (jm b) hx F))
 have J:=ah (fun w a hb=>jR (O:=O) (w:=w) (M:=M) (q:=q) (g:=g) (lt:=false) (made:=true) (made':=true) (N:=N+1) (R:=R+1) (L:=L.put k (bD nm) (some (⟨#[]⟩,0))) (sy:=upN sy k false) 2 (by omega) 266 rfl (enters_of func266 (by kernel_rfl) rfl) a hb b
  (fun O W b a d=>uw (data:=data) a j d (jm b) hx (LK.bT ..) (by show 0+data.size≤M;omega) p V n))
 have U:=ah (fun w a hb=>jR (O:=O) (w:=w) (M:=M) (q:=q) (g:=g) (lt:=false) (made:=true) (made':=true) (N:=N+1) (R:=R+1) (L:=(L.put k (bD nm) (some (⟨#[]⟩,0))).put k (bD nm) (some ((⟨#[]⟩:ByteArray)++data,0))) (sy:=upN sy k false) 3 (by omega) 267 rfl (enters_of func267 (by kernel_rfl) rfl) a hb b
  (fun O W b a d=>Js (data:=data) a j d (jm b) hx (LK.bT ..)))
 have Q:=ah (fun w a hb=>jR (O:=O) (w:=w) (M:=M) (q:=q) (g:=g) (lt:=false) (made:=true) (made':=false) (N:=N+1) (R:=R+1) (L:=((L.put k (bD nm) (some (⟨#[]⟩,0))).put k (bD nm) (some ((⟨#[]⟩:ByteArray)++data,0))).put k (bD nm) (some ((⟨#[]⟩:ByteArray)++data,((⟨#[]⟩:ByteArray)++data).size))) (sy:=upN sy k false) 4 (by omega) 268 rfl (enters_of func268 (by kernel_rfl) rfl) a hb b
  (fun O W b a d=>uj (data:=data) a j (by omega) d (jm b) hx hy (LK.bT ..)))
 have P:=ah (fun w a hb=>jR (O:=O) (w:=w) (nm:=nm) (M:=M) (q:=q) (g:=g) (lt:=false) (made:=false) (made':=false) (N:=N+1) (R:=R+2) (L:=L.put k nm (some ((⟨#[]⟩:ByteArray)++data,((⟨#[]⟩:ByteArray)++data).size))) (sy:=upN sy k false) 5 (by omega) 269 rfl (enters_of func269 (by kernel_rfl) rfl) a hb b
  (fun O W b a d=>Dy (data:=data) a j (by omega) d (jm b)))
 rw [Hu] at J U Q P
 have I:=ah (MJ F (⟨#[]⟩,0) (data,0) (data,data.size))
 clear a hb F hx hy Z p V n
 go_enter func126,ntmps126
 go_wp2_with fail
 refine wp_loop_rounds 5 ?_
 rw [rounds_succ]
 go_wp2_with fail
 refine X.out.mono ?_
 rintro e w1 ⟨f,C,A,v⟩
 obtain rfl:e= .returned (.tuple #[.bool false,.int .i64 0]):=f
 have y:=ah (J.out w1 C A)
 have H:=ah v
 clear C A v X J
 go_wp2_with fail
 rw [rounds_succ]
 go_wp2_with fail
 refine y.out.mono ?_
 rintro e w2 ⟨f,s,t,E⟩
 obtain rfl:e= .returned (.tuple #[.bool false,.int .i64 0]):=f
 have o:=ah (U.out w2 s t)
 have G:=ah (H.out.trans E)
 clear s t E y U
 go_wp2_with fail
 rw [rounds_succ]
 go_wp2_with fail
 refine o.out.mono ?_
 rintro e w3 ⟨f,B,z,m⟩
 obtain rfl:e= .returned (.tuple #[.bool false,.int .i64 0]):=f
 have l:=ah (Q.out w3 B z)
 have S:=ah (G.out.trans m)
 clear B z m o Q
 go_wp2_with fail
 rw [rounds_succ]
 go_wp2_with fail
 refine l.out.mono ?_
 rintro e w4 ⟨f,i,x,u⟩
 obtain rfl:e= .returned (.tuple #[.bool false,.int .i64 0]):=f
 rw [I.out,wD] at i
 have D:=ah (P.out w4 i x)
 have T:=ah (S.out.trans u)
 clear i x u l P
 go_wp2_with fail
 rw [rounds_succ]
 go_wp2_with fail
 refine D.out.mono ?_
 rintro e w5 ⟨f,h,K,r⟩
 obtain rfl:e= .returned (.tuple #[.bool true,.int .i64 0]):=f
 rw [wD] at h
 have Y:=ah (And.intro h (T.out.trans r))
 clear h K r D
 go_wp2_with fail
 go_ret
 exact ⟨rfl,Y.out⟩
theorem Ju (a:DV O N R M w g q L sy) (hb:TkB w tb k nm data true 0 false false) (b:O tb) (x:k<3) (J:N+R≤900000) (hx:aU (bD nm)=true) (hy:aU nm=true) (v:L k (bD nm)=none) (H:data.size≤M) (l:M≤1048576) (E:3*((N+1)*M)+data.size≤q) (i:q≤1000000000) :
  Calls prog 126 #[.pointer (some ⟨g,0,none⟩),.pointer (some ⟨tb,0,none⟩)] w fun e w'=>e= .returned (.int .i64 0)∧DV O (N+1) (R+2) M w' g q (L.put k nm (some (data,0))) (upN sy k false)∧Kp (Wo O tb) w w':=by
 have F:=ah (pJ (O:=O) (w:=w) (N1:=N) (R1:=R) (L1:=L) (sy1:=sy) (made1:=false) 0 (by omega) (by decide) 264 rfl (enters_of func264 (by kernel_rfl) rfl) 265 rfl (enters_of func265 (by kernel_rfl) rfl) a hb b
  (fun O W b a d=>xK a x (by omega) d hx v) (fun O W b a d=>uq a x (by omega) d (jm b) hx v))
 have B:=ah (fun w a hb=>jR (O:=O) (w:=w) (M:=M) (q:=q) (g:=g) (lt:=true) (made:=true) (made':=true) (N:=N+1) (R:=R+1) (L:=L.put k (bD nm) (some (⟨#[]⟩,0))) (sy:=upN sy k false) 2 (by omega) 266 rfl (enters_of func266 (by kernel_rfl) rfl) a hb b
  (fun O W b a d=>uw (data:=data) a x d (jm b) hx (LK.bT ..) (by show 0+data.size≤M;omega) l E i))
 have D:=ah (fun w a hb=>pJ (O:=O) (w:=w) (M:=M) (q:=q) (g:=g) (lt:=true) (made:=true) (made1:=true) (made':=false) (N:=N+1) (R:=R+1) (L:=(L.put k (bD nm) (some (⟨#[]⟩,0))).put k (bD nm) (some ((⟨#[]⟩:ByteArray)++data,0))) (sy:=upN sy k false) 3 (by omega) (by decide) 267 rfl (enters_of func267 (by kernel_rfl) rfl) 268 rfl (enters_of func268 (by kernel_rfl) rfl) a hb b
  (fun O W b a d=>FK (data:=data) a d) (fun O W b a d=>uj (data:=data) a x (by omega) d (jm b) hx hy (LK.bT ..)))
 rw [Hu] at B D
 have A:=ah (MK v (⟨#[]⟩,0) (data,0))
 clear a hb v hx hy H l E i
 go_enter func126,ntmps126
 go_wp2_with fail
 refine wp_loop_rounds 3 ?_
 rw [rounds_succ]
 go_wp2_with fail
 refine F.out.mono ?_
 rintro e w1 ⟨r,t,s,o⟩
 obtain rfl:e= .returned (.tuple #[.bool false,.int .i64 0]):=r
 have p:=ah (B.out w1 t s)
 have z:=ah o
 clear t s o F B
 go_wp2_with fail
 rw [rounds_succ]
 go_wp2_with fail
 refine p.out.mono ?_
 rintro e I ⟨r,m,n,u⟩
 obtain rfl:e= .returned (.tuple #[.bool false,.int .i64 0]):=r
 have j:=ah (D.out I m n)
 have y:=ah (z.out.trans u)
 clear m n u p D
 go_wp2_with fail
 rw [rounds_succ]
 go_wp2_with fail
 refine j.out.mono ?_
 rintro e w3 ⟨r,f,C,h⟩
 obtain rfl:e= .returned (.tuple #[.bool true,.int .i64 0]):=r
 rw [A.out,wD] at f
 have G:=ah (And.intro f (y.out.trans h))
 clear f C h j
 go_wp2_with fail
 go_ret
 exact ⟨rfl,G.out⟩
theorem Fa (a b c:ByteArray) (lt:Bool) (w:World):(Instr.build 274 #[(0,.string a),(1,.string b),(2,.string c),(3,.bool lt)]).run prog w= .ok (.agg #[.string a,.string b,.string c,.bool lt,.int .i64 0,.bool false,.bool false]) w:=run_build w 274 _ _ (by kernel_rfl)
theorem Dz (k:Nat) (nm data:ByteArray) (lt:Bool) (w:World):Calls prog 127 #[.string (bG k),.string nm,.string data,.bool lt] w fun e w'=>e= .returned (.pointer (some ⟨w.heap.size,0,none⟩))∧TkB w' w.heap.size k nm data lt 0 false false∧Below w.heap.size w w':=by
 have b:=Fa
 have a:Hid (ak (w.alloc (.cells #[.string (bG k),.string nm,.string data,.bool lt,.int .i64 0,.bool false,.bool false] 274)) w.heap.size 274 (tkC k nm data lt 0 false false)):=ah (ak.new w 274 (tkC k nm data lt 0 false false))
 generalize bG k=dn at a
 go_enter func127,ntmps127
 go_wp2_with fail
 go_ret
 exact ⟨rfl,a.out,bal⟩
theorem xG (i:DV O N R M w g q L sy) (s:k<3) (u:N+R≤900000) (hx:aU (bD nm)=true) (hy:aU nm=true) (m:L k (bD nm)=none) (n:data.size≤M) (d:M≤1048576) (l:3*((N+1)*M)+data.size≤q) (a:q≤1000000000) :
  Calls prog 73 #[.pointer (some ⟨g,0,none⟩),.string (bG k),.string nm,.string data] w (Bc O (N+1) (R+2) M g q (L.put k nm (some (data,data.size))) (upN sy k true) w):=by
 have j:=ah (Dz k nm data false w)
 have r:Hid (∀W,Below w.heap.size w W→TkB W w.heap.size k nm data false 0 false false→Calls prog 126 #[.pointer (some ⟨g,0,none⟩),.pointer (some ⟨w.heap.size,0,none⟩)] W (Bc O (N+1) (R+2) M g q (L.put k nm (some (data,data.size))) (upN sy k true) w)):=ah fun W hb f=>by
  refine (Jt (i.on hb) f (.inr ⟨Nat.le_refl _,ak.lt f⟩) s u hx hy m n d l a).mono ?_
  rintro e w' ⟨rfl,h1,t⟩
  exact ⟨rfl,h1.sub (fun b h=> .inl h) i.ko,(Kp.of hb).trans (t.sub fun b _ h=>⟨.inl h,fun e=>by have:=i.olt b h;omega⟩)⟩
 generalize bG k=dn at j
 clear i hx hy m n d l a
 go_enter func73,ntmps73
 go_wp2_with fail
 refine j.out.mono ?_
 rintro e w1 ⟨rfl,f,hb⟩
 have p:=ah (r.out w1 hb f)
 clear f hb j r
 go_wp2_with fail
 refine p.out.mono ?_
 rintro e x ⟨rfl,o⟩
 have v:=ah o
 clear o p
 go_wp2_with fail
 go_ret
 exact ⟨rfl,v.out⟩
theorem FL (i:DV O N R M w g q L sy) (s:k<3) (u:N+R≤900000) (hx:aU (bD nm)=true) (hy:aU nm=true) (m:L k (bD nm)=none) (n:data.size≤M) (d:M≤1048576) (l:3*((N+1)*M)+data.size≤q) (a:q≤1000000000) :
  Calls prog 96 #[.pointer (some ⟨g,0,none⟩),.string (bG k),.string nm,.string data] w (Bc O (N+1) (R+2) M g q (L.put k nm (some (data,0))) (upN sy k false) w):=by
 have j:=ah (Dz k nm data true w)
 have r:Hid (∀W,Below w.heap.size w W→TkB W w.heap.size k nm data true 0 false false→Calls prog 126 #[.pointer (some ⟨g,0,none⟩),.pointer (some ⟨w.heap.size,0,none⟩)] W (Bc O (N+1) (R+2) M g q (L.put k nm (some (data,0))) (upN sy k false) w)):=ah fun W hb f=>by
  refine (Ju (i.on hb) f (.inr ⟨Nat.le_refl _,ak.lt f⟩) s u hx hy m n d l a).mono ?_
  rintro e w' ⟨rfl,h1,t⟩
  exact ⟨rfl,h1.sub (fun b h=> .inl h) i.ko,(Kp.of hb).trans (t.sub fun b _ h=>⟨.inl h,fun e=>by have:=i.olt b h;omega⟩)⟩
 generalize bG k=dn at j
 clear i hx hy m n d l a
 go_enter func96,ntmps96
 go_wp2_with fail
 refine j.out.mono ?_
 rintro e w1 ⟨rfl,f,hb⟩
 have p:=ah (r.out w1 hb f)
 clear f hb j r
 go_wp2_with fail
 refine p.out.mono ?_
 rintro e x ⟨rfl,o⟩
 have v:=ah o
 clear o p
 go_wp2_with fail
 go_ret
 exact ⟨rfl,v.out⟩
end
theorem oP:∃a:Array Value,(∀w,(zeroValue 42).run prog w= .ok (.agg a) w)∧a.size=32:=⟨#[.int .u8 0,.int .u8 0,.int .u8 0,.int .u8 0,.int .u8 0,.int .u8 0,.int .u8 0,.int .u8 0,.int .u8 0,.int .u8 0,.int .u8 0,.int .u8 0,.int .u8 0,.int .u8 0,.int .u8 0,.int .u8 0,.int .u8 0,.int .u8 0,.int .u8 0,.int .u8 0,.int .u8 0,.int .u8 0,.int .u8 0,.int .u8 0,.int .u8 0,.int .u8 0,.int .u8 0,.int .u8 0,.int .u8 0,.int .u8 0,.int .u8 0,.int .u8 0],fun w=>by kernel_rfl,rfl⟩
theorem cZ:(prog.info? 42).map (·.size)=some 32:=by kernel_rfl
theorem eH:(prog.info? 33).map (·.size)=some 2:=by kernel_rfl
theorem nR (g:Nat):∀(a:List Value) (o:Nat) (w:World),(w.setCells g o a).heap.size=w.heap.size
 | [],_,_=>rfl
 | v::a,o,w=>by
  show (World.setCells (w.setCell ⟨g,o,none⟩ v) g (o+1) a).heap.size=_
  rw [nR]
  simp [World.setCell]
theorem boxed {w W:World} {a:Array Value} {t:TypeId} {us:List Value} (d:us.length=a.size) (b:(w.alloc (.cells a t)).setCells w.heap.size 0 us=W):ak W w.heap.size t us∧Below w.heap.size w W∧W.heap.size=w.heap.size+1:=by
 have e:ak (w.alloc (.cells a t)) w.heap.size t a.toList:=by have:=ak.new w t a.toList;simpa using this
 refine ⟨?_,?_,?_⟩
 ·rw [←b];exact e.set (by rw [d];simp)
 ·rw [←b];exact below_setCells _ (Nat.le_refl _) _ _ _ bal
 rw [←b,nR];simp
theorem aD {P:Program} {ops:Array Oper} {rest:List Oper} {op:Oper} {a:Act} {w:World} {Q:Exit→Act→World→Prop} (e:op.guard=none) (ty:TypeId) (x y:Operand) (j:op.op= .store ty x y)
  (d:Array Value) (b:List Value) (hx:a.eval x= .pointer (some ⟨w.heap.size,0,none⟩)) (hy:a.eval y= .agg b.toArray) (n:Nat) (f:b.length=n) (g:d.size=n)
  (hi:(P.info? ty).map (·.size)=some n) (h1:∀v∈b,v.oneCell'=true)
  (h:∀W,ak W w.heap.size ty b→Below w.heap.size w W→Hid (W.heap.size=w.heap.size+1)→wpList P ops Q rest (a.put op.dst undef) W):wpList P ops Q (op::rest) a (w.alloc (.cells d ty)):=by
 obtain ⟨i,l,k⟩:=boxed (w:=w) (t:=ty) (us:=b) (f.trans g.symm) rfl
 refine aj e ty x y j w.heap.size 0 b hx hy n f (by rw [←g];exact there_alloc w d ty rfl) hi h1 (h _ i l (ah k))
theorem fO (b:Nat) (a:List Value) (w:World):Chg (fun k=>k=b) w (w.setCells b 0 a):=by
 have h:=bP w b 0 a
 exact ⟨h.os,h.tape,h.output,h.size,fun k f d=>h.block k f (fun e=>d (Option.some.inj e))⟩
theorem ak.kp {O:Nat→Prop} {w w':World} {b:Nat} {t:TypeId} {cs:List Value} (h:ak w b t cs) (d:Kp O w w') (a:O b):ak w' b t cs:=(d.block h.lt a).trans h
end
section
open Go.RowKit
def dh (x:List UInt8):ByteArray:=ofB (bY x)
theorem yt {x y:List UInt8} (hx:x.length=32) (hy:y.length=32) (h:dh x=dh y):x=y:=by
 have d:bY x=bY y:=by rw [←bq (bY x),←bq (bY y)];exact congrArg (fun b:ByteArray=>b.data.toList) h
 have a:=zS hx
 rw [d,zS hy] at a
 exact (Option.some.inj a).symm
theorem tF {x:List UInt8} (hx:x.length=32):(dh x).size=64:=by unfold dh;rw [aR,qX,hx]
theorem Ib {x:List UInt8} (hx:x.length=32):aU (dh x)=true:=M8 hx
theorem J9 {x:List UInt8} (hx:x.length=32):aU (bD (dh x))=true:=by
 have b:(bD (dh x)).size=68:=by unfold bD;rw [ByteArray.size_append,tF hx];rfl
 have a:(bD (dh x)).data.toList.all q9=true:=by
  unfold bD
  rw [jK,List.all_append]
  have:(dh x).data.toList.all q9=true:=by unfold dh;rw [bq];exact AL x
  rw [this]
  decide
 unfold aU
 rw [a,b]
 rfl
theorem OT {x y:List UInt8} (hx:x.length=32) (hy:y.length=32):bD (dh x)≠dh y:=fun e=>by
 have h:=congrArg ByteArray.size e
 rw [tF hy] at h
 unfold bD at h
 rw [ByteArray.size_append,tF hx] at h
 exact absurd h (by decide)
structure LoF (L:LK) (F:List Ob):Prop where
 on:∀ o ∈ F,aB o = true ∧ ∃ n,L 0 (dh (idO o)) = some (iG o,n)
 all:∀ nm d,L 0 nm = some d → ∃ o ∈ F,nm = dh (idO o)
theorem LoF.non {L:LK} {F:List Ob} (h:LoF L F) {x:List UInt8} (hx:x.length=32) (b:∀o∈F,idO o≠x):L 0 (dh x)=none:=by
 cases e:L 0 (dh x) with
 | none=>rfl
 | some d =>
  obtain ⟨o,a,f⟩:=h.all _ d e
  exact absurd (yt hx (fC o) f).symm (b o a)
theorem LoF.tmp {L:LK} {F:List Ob} (h:LoF L F) {x:List UInt8} (hx:x.length=32):L 0 (bD (dh x))=none:=by
 cases e:L 0 (bD (dh x)) with
 | none=>rfl
 | some d =>
  obtain ⟨o,b,a⟩:=h.all _ d e
  exact absurd a (OT hx (fC o))
theorem LoF.get {L:LK} {F:List Ob} (h:LoF L F) {d:Dk} (hd:∀k x,k<3→d k x=L.dk k x) {o:Ob} (a:o∈F):gy d (idO o)= .inr o:=by
 obtain ⟨b,n,e⟩:=h.on o a
 refine Gn b ?_
 rw [hd 0 _ (by omega)]
 show (L 0 (dh (idO o))).map (·.1)=_
 rw [e];rfl
theorem LoF.not {L:LK} {F:List Ob} (h:LoF L F) {d:Dk} (hd:∀k x,k<3→d k x=L.dk k x) {x:List UInt8} (hx:x.length=32) (a:∀o∈F,idO o≠x):gy d x= .inl 6:=by
 unfold gy
 rw [hd 0 _ (by omega)]
 unfold LK.dk
 rw [show L 0 (ofB (bY x))=none from h.non hx a]
 rfl
theorem LoF.add {L:LK} {F:List Ob} (h:LoF L F) {o:Ob} (i:aB o=true) (f:∀p∈F,idO p≠idO o) (n:Nat):LoF (L.put 0 (dh (idO o)) (some (iG o,n))) (o::F):=by
 refine ⟨fun p a=> ?_,fun nm d hd=> ?_⟩
 ·rcases List.mem_cons.1 a with rfl|a
  ·exact ⟨i,n,LK.bT ..⟩
  obtain ⟨h1,m,g⟩:=h.on p a
  refine ⟨h1,m,?_⟩
  rw [LK.aH (fun e=>f p a (yt (fC _) (fC _) e.2))]
  exact g
 by_cases e:nm=dh (idO o)
 ·exact ⟨o,List.mem_cons_self ..,e⟩
 rw [LK.aH (fun b=>e b.2)] at hd
 obtain ⟨p,a,b⟩:=h.all nm d hd
 exact ⟨p,List.mem_cons_of_mem _ a,b⟩
structure SmL (L L':LK):Prop where
 dk:∀ k x,L'.dk k x = L.dk k x
 old:∀ k x d,L k x = some d → d.2 = d.1.size → L' k x = some d
 oth:∀ k x,k ≠ 0 → L' k x = L k x
theorem SmL.refl (L:LK):SmL L L:=⟨fun _ _=>rfl,fun _ _ _ h _=>h,fun _ _ _=>rfl⟩
theorem SmL.trans {L L' a:LK} (h:SmL L L') (b:SmL L' a):SmL L a:=⟨fun k x=>(b.dk k x).trans (h.dk k x),fun k x d h1 e=>b.old k x d (h.old k x d h1 e) e,fun k x f=>(b.oth k x f).trans (h.oth k x f)⟩
theorem SmL.sync {L:LK} {x:ByteArray} {d:ByteArray×Nat} (h:L 0 x=some d):SmL L (L.put 0 x (some (d.1,d.1.size))):=by
 refine ⟨fun k y=> ?_,fun k y e h1 a=> ?_,fun k y g=>LK.aH fun e=>g e.1⟩
 ·unfold LK.dk
  by_cases e:k=0∧y=x
  ·obtain ⟨rfl,rfl⟩:=e
   rw [LK.bT,h];rfl
  rw [LK.aH e]
 by_cases b:k=0∧y=x
 ·obtain ⟨rfl,rfl⟩:=b
  rw [h] at h1
  have f:=Option.some.inj h1
  subst f
  rw [LK.bT]
  obtain ⟨u,v⟩:=d
  dsimp at a
  subst a
  rfl
 rw [LK.aH b];exact h1
theorem SmL.lof {L L':LK} {F:List Ob} (h:LoF L F) (g:SmL L L'):LoF L' F:=by
 refine ⟨fun o k=> ?_,fun nm d hd=> ?_⟩
 ·obtain ⟨h1,n,j⟩:=h.on o k
  have f:=g.dk 0 (dh (idO o))
  unfold LK.dk at f
  rw [j] at f
  cases e:L' 0 (dh (idO o)) with
  | none=>rw [e] at f;cases f
  | some d =>
   rw [e] at f
   obtain ⟨a,b⟩:=d
   have i:a=iG o:=Option.some.inj f
   subst i
   exact ⟨h1,b,rfl⟩
 have f:=g.dk 0 nm
 unfold LK.dk at f
 rw [hd] at f
 cases e:L 0 nm with
 | none=>rw [e] at f;cases f
 | some d'=>exact h.all nm d' e
def StF (L:LK) (k:Nat) (x:ByteArray):Prop:=∀d,L k x=some d→d.2=d.1.size
theorem SmL.stf {L L':LK} (h:SmL L L') {k:Nat} {x:ByteArray} (b:StF L k x):StF L' k x:=fun d hd=>by
 cases e:L k x with
 | none =>
  have a:=h.dk k x
  unfold LK.dk at a
  rw [hd,e] at a;cases a
 | some d' =>
  rw [h.old k x d' e (b d' e)] at hd
  have f:=Option.some.inj hd
  rw [←f]
  exact b d' e
end
section
open Go.RowKit Go.Maps
section
variable {O:Nat → Prop} {N R M:Nat} {w:World} {g:Nat} {q:Int} {L:LK} {sy:Nat → Bool}
theorem DV.at2 (h:DV O N R M w g q L sy) (r:N+R≤1000000):∃d:Dk,kR w g d∧(∀k x,k<3→d k x=L.dk k x)∧ ∀k nm s,d k nm=some s→s.size≤M:=by
 obtain ⟨d,h1,j⟩:=h.at r
 refine ⟨fun k x=>if k<3 then d k x else none,?_,fun k x i=>by dsimp only;rw [if_pos i];exact j k x i,fun k nm s a=> ?_⟩
 ·obtain ⟨m,n,f,a1,a2,a3,a4,a5⟩:=h1
  refine ⟨m,n,f,a1,a2,a3,a4,fun x hx=> ?_⟩
  rcases a5 x hx with h|⟨b,k,p,l,o⟩
  ·exact .inl h
  have i:k<3:=(fJ l).1
  refine .inr ⟨b,k,p,l,?_⟩
  simp only [if_pos i]
  exact o
 dsimp only at a
 by_cases i:k<3
 ·rw [if_pos i,j k nm i] at a
  unfold LK.dk at a
  cases e:L k nm with
  | none=>rw [e] at a;cases a
  | some v=>rw [e] at a;cases a;exact (h.size i e).1
 rw [if_neg i] at a;cases a
theorem wC (h:DV O N R M w g q L sy) (i:N+R≤1000000) (b:M≤1000000) (l:eP w) {x:List UInt8} (hx:x.length=32):Calls prog 37 #[.pointer (some ⟨g,0,none⟩),.agg (idC x).toArray] w (uS L.dk x w):=by
 obtain ⟨d,h1,f,j⟩:=h.at2 i
 have e:gy d x=gy L.dk x:=by unfold gy;rw [f 0 _ (by omega)]
 have:=MN g d x w hx h1 (fun k nm s a=>Nat.le_trans (j k nm s a) b) l
 unfold uS at this ⊢
 rw [e] at this
 exact this
end
theorem xg {k:Int} {s:ByteArray} (h:aB ⟨k,s⟩=true):s.size≤4096:=by
 unfold aB at h
 rw [Bool.and_eq_true,decide_eq_true_eq] at h
 exact h.1
theorem F5 (k:Int) (s:ByteArray) (g:aB ⟨k,s⟩=true) (w:World) (f:Crc w):Calls prog 95 #[.agg #[.int .i64 k,.string s]] w fun e w'=>e= .returned (.tuple #[.string (iG ⟨k,s⟩),.int .i64 0])∧Below w.heap.size w w':=by
 have hF:=fun w=>xP k s w
 unfold IC at hF
 rw [g] at hF
 simp only [if_pos,show okI true=0 from rfl] at hF
 have l:=Ar (o:=⟨k,s⟩) (by have:=xg g;show s.size<128^3;omega)
 have a:(⟨#[83,76,79,49]⟩++ofB (bV ⟨k,s⟩):ByteArray).size≤1000000000:=by
  have h1:(iG ⟨k,s⟩).size=4+(bV ⟨k,s⟩).length+4:=by unfold iG;rw [aR,lq,List.length_append];rfl
  have:=xg g
  rw [ByteArray.size_append,aR]
  show 4+_≤_
  have r:(iG ⟨k,s⟩).size≤s.size+12:=l
  omega
 have i:ofB (fK (⟨#[83,76,79,49]⟩++ofB (bV ⟨k,s⟩):ByteArray).data.toList)=iG ⟨k,s⟩:=by
  rw [jK,bq];rfl
 have HS:=ah (fun w f=>wS (⟨#[83,76,79,49]⟩++ofB (bV ⟨k,s⟩)) w f a)
 rw [i] at HS
 generalize iG ⟨k,s⟩=p at HS ⊢
 generalize ofB (bV ⟨k,s⟩)=fb at HS hF a
 have j:∀W,(Op.stringOp .add ⟨#[83,76,79,49]⟩ fb).run prog W= .ok (.string (⟨#[83,76,79,49]⟩++fb)) W:=fun W=>run_string_add_sum W _ _ (by rw [ByteArray.size_append] at a;omega)
 have n:=ah hF
 have b:Hid (∀o,Below w.heap.size w (w.alloc o)):=ah (fun o=>bal)
 have m:=ah f
 clear hF a i l f g
 go_enter func95,ntmps95
 go_wp2_with fail
 refine (n.out _).mono ?_
 rintro e w1 ⟨rfl,hb⟩
 have d:=ah ((b.out _).trans (hb.mono (b.out _).size))
 clear hb
 go_wp2_with fail
 refine (HS.out w1 (m.out.below d.out)).mono ?_
 rintro e q ⟨rfl,hb⟩
 have h:=bth d hb
 clear hb
 go_wp2_with fail
 go_ret2
 exact ⟨rfl,h.out⟩
section
variable {O:Nat → Prop} {N R M:Nat} {w:World} {g:Nat} {q:Int} {L:LK} {sy:Nat → Bool}
def IB (O:Nat→Prop) (N R M:Nat) (g:Nat) (q:Int) (L:LK) (sy:Nat→Bool) (x:List UInt8) (w:World) (e:Ending) (w':World):Prop:=e= .returned (.tuple #[.agg (idC x).toArray,.int .i64 0])∧DV O N R M w' g q L sy∧Kp O w w'
theorem MF (V:DV O N R M w g q L sy) (hG:eP w) (k:Int) (s:ByteArray) (hr:aB ⟨k,s⟩=true) (hN:N+R≤900000) (aa:M≤1000000) (hs:L 0 (dh (idO ⟨k,s⟩))=none) (ht:L 0 (bD (dh (idO ⟨k,s⟩)))=none) (hM:s.size+12≤M) (hq:3*((N+1)*M)+M≤q) (ag:q≤1000000000) :
  Calls prog 52 #[.pointer (some ⟨g,0,none⟩),.agg #[.int .i64 k,.string s]] w (IB O (N+1) (R+2) M g q (L.put 0 (dh (idO ⟨k,s⟩)) (some (iG ⟨k,s⟩,0))) (upN sy 0 false) (idO ⟨k,s⟩) w):=by
 obtain ⟨zi,az,K⟩:=oP
 have l:(idO ⟨k,s⟩).length=32:=fC _
 have E:Hid (∀W,Laid W→Calls prog 51 #[.agg #[.int .i64 k,.string s]] W fun e w'=>e= .returned (.tuple #[.agg (idC (idO ⟨k,s⟩)).toArray,.bool true])∧Below W.heap.size W w'):=ah fun W hL=>by
  have h:=BQ k s W hL
  unfold rU at h
  rw [hr] at h
  exact h
 have Q:Hid (∀W,Below w.heap.size w W→Calls prog 37 #[.pointer (some ⟨g,0,none⟩),.agg (idC (idO ⟨k,s⟩)).toArray] W fun e w'=>e= .returned (.tuple #[.agg #[.int .i64 0,.string ⟨#[]⟩],.int .i64 6])∧Below W.heap.size W w'):=ah fun W hb=>by
  have h:=wC (V.below hb) (by omega) aa (hG.below hb) l
  have e:gy L.dk (idO ⟨k,s⟩)= .inl 6:=by
   unfold gy LK.dk
   rw [show L 0 (ofB (bY (idO ⟨k,s⟩)))=none from hs]
   rfl
  unfold uS at h
  rw [e] at h
  exact h
 have J:=ah (fun W hc=>F5 k s hr W hc)
 have A:=ah (fun W=>nY (idO ⟨k,s⟩) l W)
 have H:=Ar (o:=⟨k,s⟩) (by have:=xg hr;show s.size<128^3;omega)
 have ar:3*((N+1)*M)+((iG ⟨k,s⟩).size:Int)≤q:=by
  have h1:(iG ⟨k,s⟩).size≤M:=Nat.le_trans H hM
  omega
 have n:Hid (∀W,Below w.heap.size w W→Calls prog 96 #[.pointer (some ⟨g,0,none⟩),.string ⟨#[108,111,111,115,101]⟩,.string (ofB (bY (idO ⟨k,s⟩))),.string (iG ⟨k,s⟩)] W fun e w'=>e= .returned (.int .i64 0)∧DV (Ou O w W) (N+1) (R+2) M w' g q (L.put 0 (dh (idO ⟨k,s⟩)) (some (iG ⟨k,s⟩,0))) (upN sy 0 false)∧Kp (Ou O w W) W w'):=ah fun W hb =>
  FL (k:=0) (nm:=dh (idO ⟨k,s⟩)) (V.on hb) (by omega) hN (J9 l) (Ib l) ht (Nat.le_trans H hM) (by omega) ar ag
 have HG:=ah hG
 have ai:Hid (∀W,DV (Ou O w W) (N+1) (R+2) M W g q (L.put 0 (dh (idO ⟨k,s⟩)) (some (iG ⟨k,s⟩,0))) (upN sy 0 false)→True):=ah fun _ _=>trivial
 have aq:=ah V.ko
 have al:=ah V.olt
 clear V hG hs ht hM aa hq ag hN H hr
 have m:Hid ((idC (idO ⟨k,s⟩)).length=32):=ah (by rw [av,l])
 have F:=ah (aJ (idO ⟨k,s⟩))
 have r:(prog.info? 42).map (·.size)=some (idC (idO ⟨k,s⟩)).length:=by rw [m.out];exact cZ
 clear l ai
 obtain ⟨LP,ab⟩:∃z,L.put 0 (dh (idO ⟨k,s⟩)) (some (iG ⟨k,s⟩,0))=z:=⟨_,rfl⟩
 rw [ab] at n ⊢
 clear ab
 unfold IB
 generalize ofB (bY (idO ⟨k,s⟩))=nm at A n
 generalize iG ⟨k,s⟩=lb at J n
 generalize idC (idO ⟨k,s⟩)=x at E Q A m F r ⊢
 have D:=ah cZ
 obtain ⟨W,hW⟩:∃W,(w.alloc (.cells #[.int .i64 k,.string s] 33)).alloc (.cells zi 42)=W:=⟨_,rfl⟩
 have ac:Below w.heap.size w W:=by rw [←hW];exact bal.alloc (by simp) _
 have S:ak W w.heap.size 33 [.int .i64 k,.string s]:=by rw [←hW];exact (ak.new w 33 [.int .i64 k,.string s]).below bal
 have af:ak W (w.heap.size+1) 42 zi.toList:=by
  rw [←hW]
  have:=ak.new (w.alloc (.cells #[.int .i64 k,.string s] 33)) 42 zi.toList
  rw [World.size_alloc] at this
  simpa using this
 have Z:=ah ac
 have f:=ah S
 have a:=ah af
 have HW:=ah hW
 have e0:=S.range
 have h2:(prog.info? 33).map (·.size)=some ([.int .i64 k,.string s]:List Value).length:=eH
 clear hW ac S af
 go_enter func52,ntmps52
 go_upto_region 1 with fail
 rw [HW.out]
 clear HW
 go_wp2_with (refine wpList_load_mid rfl 33 _ rfl w.heap.size 0 rfl [.int .i64 k,.string s] _ e0 underlying33 rfl h2 ?_)
 refine (E.out W (HG.out.below Z.out).laid).mono ?_
 rintro e w1 ⟨rfl,u⟩
 have ad:=bth Z u
 replace f:=ah (f.out.below u)
 replace a:=ah (a.out.below u)
 clear u E e0
 go_upto_region 2 with (refine aD rfl 42 _ _ rfl zi x rfl rfl 32 m.out K D.out F.out ?_;intro w2 G y aE)
 have Y:=bth ad y
 replace f:=ah (f.out.below y)
 replace a:=ah (a.out.below y)
 have d:=ah G
 have I:=G.range
 clear y G
 go_wp2_with (refine wpList_load_mid rfl 42 _ rfl w1.heap.size 0 rfl x _ I underlying42 rfl r ?_)
 refine (Q.out w2 Y.out).mono ?_
 rintro e w3 ⟨rfl,p⟩
 have ax:=bth Y p
 replace f:=ah (f.out.below p)
 replace a:=ah (a.out.below p)
 replace d:=ah (d.out.below p)
 clear p Q I
 go_upto_region 7 with fail
 have i:Below w3.heap.size w3 (w3.alloc (.cells #[.int .i64 0,.string ⟨#[]⟩] 33)):=bal
 generalize w3.alloc (.cells #[.int .i64 0,.string ⟨#[]⟩] 33)=w4 at i ⊢
 have ae:=bth ax i
 replace f:=ah (f.out.below i)
 replace a:=ah (a.out.below i)
 replace d:=ah (d.out.below i)
 have e0:=f.out.range
 clear i
 go_wp2_with (refine wpList_load_mid rfl 33 _ rfl w.heap.size 0 rfl [.int .i64 k,.string s] _ e0 underlying33 rfl h2 ?_)
 refine (J.out w4 (HG.out.below ae.out).crc).mono ?_
 rintro e w5 ⟨rfl,B⟩
 have ap:=bth ae B
 replace a:=ah (a.out.below B)
 replace d:=ah (d.out.below B)
 have I:=d.out.range
 clear B e0 f J
 go_wp2_with (refine wpList_load_mid rfl 42 _ rfl w1.heap.size 0 rfl x _ I underlying42 rfl r ?_)
 refine (A.out w5).mono ?_
 rintro e w6 ⟨rfl,C⟩
 have X:=bth ap C
 replace a:=ah (a.out.below C)
 replace d:=ah (d.out.below C)
 have am:=a.out.lt
 clear C I A
 go_wp2_with fail
 refine (n.out w6 X.out).mono ?_
 rintro e w7 ⟨rfl,U,t⟩
 replace a:=ah (a.out.kp t (.inr ⟨by omega,a.out.lt⟩))
 replace d:=ah (d.out.kp t (.inr ⟨ad.out.size,d.out.lt⟩))
 have I:=d.out.range
 obtain ⟨WE,v⟩:∃z,w7.setCells (w.heap.size+1) 0 x=z:=⟨_,rfl⟩
 have an:w7.there (w.heap.size+1) 0 32:=by have:=a.out.there;simpa [K] using this
 have aw:WE.rangeAt (w.heap.size+1) 0 x:=by rw [←v];exact (a.out.set (us:=x) (by rw [m.out];simpa using K.symm)).range
 have P:Chg (fun j=>j=w.heap.size+1) w7 WE:=by rw [←v];exact fO _ _ _
 have a0:=a.out.lt
 have T:Hid (DV O (N+1) (R+2) M WE g q LP (upN sy 0 false)∧Kp O w WE):=ah (by
  refine ⟨(U.chg P (fun j hj=> ?_)).sub (fun b hb=> .inl hb) aq.out,(Kp.of X.out).trans ((t.sub fun b _ hb=> .inl hb).trans (P.mono fun j hj hn hO=> ?_))⟩
  ·rw [hj]
   exact .inr ⟨by omega,am⟩
  have:=al.out j hO;omega)
 have ao:=ah v
 clear v P U t n
 go_wp2_with (first|(refine wpList_load_mid rfl 42 _ rfl w1.heap.size 0 rfl x _ I underlying42 rfl r ?_)|(refine aj rfl 42 _ _ rfl (w.heap.size+1) 0 x rfl rfl 32 m.out an D.out F.out ?_;rw [ao.out]))
 refine aP rfl (w.heap.size+1) 0 rfl x _ aw underlying42 rfl r rfl _ rfl ?_
 exact ⟨rfl,T.out⟩
end
end
end Go.Proofs.YtlhcoanbhnphgaaGreatDoor

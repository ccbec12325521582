/- A part of this claim. -/
import Derived.Test.YtejamhkgjkhjdaaGreatDoorXn22
import Derived.Test.YtejamhkgjkhjdaaGreatDoorXn28
namespace Go.Proofs.YtejamhkgjkhjdaaGreatDoor
open Tryz
set_option maxHeartbeats 64000000
set_option maxRecDepth 100000
section
open Go.RowKit Go.Maps
structure Dm where
 seen:Nat → ByteArray → Option Nat
 sett:Nat → ByteArray → Option Nat
 dat:Nat → ByteArray × Nat
structure Pl where
 top:Nat
 dir:Nat → Nat
 sn:Nat → Nat
 st:Nat → Nat
 pd:Nat → Value
def upN {α:Type} (f:Nat→α) (k:Nat) (v:α):Nat→α:=fun j=>if j=k then v else f j
theorem aQ {α:Type} (f:Nat→α) (k:Nat) (v:α):upN f k v k=v:=if_pos rfl
theorem aL {α:Type} {f:Nat→α} {k j:Nat} {v:α} (h:j≠k):upN f k v j=f j:=if_neg h
def dI (N:Nat) (f:ByteArray→Option Nat):Prop:=∃L:List ByteArray,L.Nodup∧L.length≤N∧(∀x∈L,aJ x=true)∧ ∀x,(f x).isSome=true↔x∈L
theorem dI.mono {N N':Nat} {f:ByteArray→Option Nat} (h:dI N f) (b:N≤N'):dI N' f:=by obtain ⟨L,h1,d,a⟩:=h;exact ⟨L,h1,by omega,a⟩
theorem dI.put {N:Nat} {f:ByteArray→Option Nat} (h:dI N f) {x:ByteArray} {b:Nat} (hx:aJ x=true):dI (N+1) fun y=>if y=x then some b else f y:=by
 obtain ⟨L,h1,g,a,d⟩:=h
 refine ⟨x::L.filter fun y=>decide (y≠x),List.nodup_cons.2 ⟨fun h=>by simp at h,h1.filter _⟩,?_,fun y hy=> ?_,fun y=> ?_⟩
 ·have:=List.length_filter_le (fun y=>decide (y≠x)) L
  rw [List.length_cons];omega
 ·rcases List.mem_cons.1 hy with rfl|hy
  ·exact hx
  exact a y (List.mem_filter.1 hy).1
 by_cases e:y=x
 ·simp [e]
 simp [e,d]
theorem dI.ren {N:Nat} {f:ByteArray→Option Nat} (h:dI N f) {x z:ByteArray} (j:aJ z=true) (hx:(f x).isSome=true) (b:x≠z):dI N fun y=>if y=z then f x else if y=x then none else f y:=by
 obtain ⟨L,h1,k,i,d⟩:=h
 have a:=(d x).1 hx
 refine ⟨z::(L.filter fun y=>decide (y≠x)).filter fun y=>decide (y≠z),List.nodup_cons.2 ⟨fun h=>by simp at h,(h1.filter _).filter _⟩,?_,fun y hy=> ?_,fun y=> ?_⟩
 ·have m:=List.length_filter_le (fun y=>decide (y≠z)) (L.filter fun y=>decide (y≠x))
  have l:=jo h1 a
  rw [List.length_cons];omega
 ·rcases List.mem_cons.1 hy with rfl|hy
  ·exact j
  exact i y (List.mem_filter.1 (List.mem_filter.1 hy).1).1
 by_cases e:y=z
 ·simp [e,hx]
 by_cases g:y=x
 ·simp [g,b]
 simp [e,g,d]
def Kp (O:Nat→Prop) (w w':World):Prop:=Chg (fun b=> ¬O b) w w'
theorem Kp.refl (O:Nat→Prop) (w:World):Kp O w w:=Chg.refl _ w
theorem Kp.trans {O:Nat→Prop} {w w' a:World} (h:Kp O w w') (b:Kp O w' a):Kp O w a:=Chg.trans h b
theorem Kp.of {O:Nat→Prop} {w w':World} (h:Below w.heap.size w w'):Kp O w w':=Chg.of_below h
theorem Kp.block {O:Nat→Prop} {w w':World} (h:Kp O w w') {b:Nat} (a:b<w.heap.size) (hb:O b):w'.heap[b]? = w.heap[b]?:=Chg.block h b a (fun h=>h hb)
theorem Kp.sub {O a:Nat→Prop} {w w':World} (h:Kp O w w') (f:∀b,b<w.heap.size→a b→O b):Kp a w w':=h.mono fun b hb e d=>e (f b hb d)
theorem ak.ne {w:World} {b g:Nat} {t i:TypeId} {cs f:List Value} (h:ak w b t cs) (j:ak w g i f) (d:t≠i):b≠g:=fun e=>by
 subst e
 have a:w.heap[b]? = _:=h
 rw [show w.heap[b]? = _ from j] at a
 injection a with a
 injection a with _ h3
 exact d h3.symm
theorem ak.eB {α:Type} {enc:α→Value} {w:World} {b g n:Nat} {t:TypeId} {cs:List Value} {f:ByteArray→Option α} (h:ak w b t cs) (i:aP enc w g n f):b≠g:=fun e=>by
 subst e
 obtain ⟨D,⟨es,d,hb,_⟩,_⟩:=i
 have a:w.heap[b]? = _:=h
 rw [hb] at a
 injection a with a
 cases a
theorem iL {w:World} {B sz n b:Nat} {e t:TypeId} {v:Value} {xs cs:List Value} (h:w.ownsRow B e sz v n xs) (hx:ak w b t cs) (d:e≠t):v.ownBlock≠some b:=fun f=>by
 rcases h.2 with ⟨rfl,_⟩|⟨g1,i,cur,rfl,_,g,_⟩
 ·cases f
 have a1:g1=b:=Option.some.inj f
 subst a1
 have a:w.heap[g1]? = _:=hx
 rw [g] at a
 injection a with a
 injection a with _ h3
 exact d h3
theorem oC {α:Type} {enc:α→Value} {w:World} {B sz n b m:Nat} {e:TypeId} {v:Value} {xs:List Value} {f:ByteArray→Option α} (h:w.ownsRow B e sz v n xs) (hx:aP enc w b m f):v.ownBlock≠some b:=fun d=>by
 rcases h.2 with ⟨rfl,_⟩|⟨g1,i,cur,rfl,_,g,_⟩
 ·cases d
 have a1:g1=b:=Option.some.inj d
 subst a1
 obtain ⟨D,⟨es,a,hb,_⟩,_⟩:=hx
 rw [g] at hb
 injection hb with hb
 cases hb
theorem jS {S:Nat→Prop} {w w':World} {B sz n:Nat} {e:TypeId} {v:Value} {xs:List Value} (h:w.ownsRow B e sz v n xs) (g:Chg S w w') (hS:∀b,v.ownBlock=some b→ ¬S b):w'.ownsRow B e sz v n xs:=by
 rcases h with ⟨h1,⟨rfl,a⟩|⟨g1,d,cur,rfl,a,f,i⟩⟩
 ·exact ⟨h1,.inl ⟨rfl,a⟩⟩
 exact ⟨h1,.inr ⟨g1,d,cur,rfl,a,(g.block g1 (Array.getElem?_eq_some_iff.1 f).1 (hS g1 rfl)).trans f,i⟩⟩
theorem Jf {w:World} {B sz n b:Nat} {e:TypeId} {v:Value} {xs:List Value} (h:w.ownsRow B e sz v n xs) (hb:v.ownBlock=some b):b<w.heap.size:=by
 rcases h.2 with ⟨rfl,_⟩|⟨g1,d,cur,rfl,_,a,_⟩
 ·cases hb
 cases hb;exact (Array.getElem?_eq_some_iff.1 a).1
def fiC (d:ByteArray×Nat):List Value:=[.string d.1,.int .i64 (d.2:Int)]
def lM (w:World) (b:Nat) (d:ByteArray×Nat):Prop:=ak w b 52 (fiC d)
def NS (w:World) (g top:Nat) (q:Int):Prop:=ak w g 49 [.map (some top),.int .i64 q,.int .i64 0,.bool false,.bool false]
def KL (w:World) (b sn st:Nat) (pd:Value):Prop:=ak w b 56 [.map (some sn),.map (some st),pd]
def PdR (w:World) (v:Value) (R:Nat):Prop:=∃n xs,w.ownsRow 0 175 1 v n xs∧n≤R
structure DS (O:Nat → Prop) (N R M:Nat) (w:World) (g:Nat) (q:Int) (p:Pl) (m:Dm):Prop where
 box:NS w g p.top q
 top:aP aT w p.top 3 fun x => (aW x).map p.dir
 dir:∀ k,k < 3 → KL w (p.dir k) (p.sn k) (p.st k) (p.pd k)
 pend:∀ k,k < 3 → PdR w (p.pd k) R
 pone:∀ k j b,k < 3 → j < 3 → (p.pd k).ownBlock = some b → (p.pd j).ownBlock = some b → k = j
 seen:∀ k,k < 3 → aP aT w (p.sn k) (N + R) (m.seen k) ∧ dI N (m.seen k)
 sett:∀ k,k < 3 → aP aT w (p.st k) (N + R) (m.sett k) ∧ dI N (m.sett k)
 file:∀ k x b,k < 3 → m.seen k x = some b ∨ m.sett k x = some b → lM w b (m.dat b) ∧ ¬ O b ∧ (m.dat b).1.size ≤ M ∧ (m.dat b).2 ≤ (m.dat b).1.size
 one:∀ k j x y b,k < 3 → j < 3 → m.seen k x = some b → m.seen j y = some b → k = j ∧ x = y
 off:¬ O g ∧ ¬ O p.top ∧ (∀ k,k < 3 → ¬ O (p.dir k) ∧ ¬ O (p.sn k) ∧ ¬ O (p.st k)) ∧ ∀ k b,k < 3 → (p.pd k).ownBlock = some b → ¬ O b
 mtop:∀ k,k < 3 → p.top ≠ p.sn k ∧ p.top ≠ p.st k
 mst:∀ k j,k < 3 → j < 3 → p.sn k ≠ p.st j
 msn:∀ k j,k < 3 → j < 3 → p.sn k = p.sn j → k = j
 mtt:∀ k j,k < 3 → j < 3 → p.st k = p.st j → k = j
 mdir:∀ k j,k < 3 → j < 3 → p.dir k = p.dir j → k = j
 olt:∀ b,O b → b < w.heap.size
 gW:∀ b,b < 5 → O b
section
variable {O S:Nat → Prop} {N R M:Nat} {w w':World} {g:Nat} {q:Int} {p:Pl} {m:Dm}
theorem PdR.chg {v:Value} {R:Nat} (h:PdR w v R) (a:Chg S w w') (hS:∀b,v.ownBlock=some b→ ¬S b):PdR w' v R:=by obtain ⟨n,xs,h1,d⟩:=h;exact ⟨n,xs,jS h1 a hS,d⟩
theorem DS.chg (h:DS O N R M w g q p m) (e:Chg S w w') (hS:∀b,S b→O b):DS O N R M w' g q p m where
 box:=h.box.chg e (fun d=>h.off.1 (hS _ d))
 top:=h.top.chg e (fun d=>h.off.2.1 (hS _ d))
 dir:=fun k a=>(h.dir k a).chg e (fun d=>(h.off.2.2.1 k a).1 (hS _ d))
 pend:=fun k a=>(h.pend k a).chg e fun b hb d=>h.off.2.2.2 k b a hb (hS _ d)
 pone:=h.pone
 seen:=fun k a=>⟨(h.seen k a).1.chg e (fun d=>(h.off.2.2.1 k a).2.1 (hS _ d)),(h.seen k a).2⟩
 sett:=fun k a=>⟨(h.sett k a).1.chg e (fun d=>(h.off.2.2.1 k a).2.2 (hS _ d)),(h.sett k a).2⟩
 file:=fun k x b a hb=>by
  obtain ⟨h1,f,i⟩:=h.file k x b a hb
  exact ⟨h1.chg e (fun d=>f (hS _ d)),f,i⟩
 one:=h.one
 off:=h.off
 mtop:=h.mtop
 mst:=h.mst
 msn:=h.msn
 mtt:=h.mtt
 mdir:=h.mdir
 olt:=fun b hb=>Nat.lt_of_lt_of_le (h.olt b hb) e.size
 gW:=h.gW
theorem DS.below (h:DS O N R M w g q p m) (hb:Below w.heap.size w w'):DS O N R M w' g q p m:=h.chg (S:=fun _=>False) (Chg.of_below hb) (fun _ h=>h.elim)
theorem DS.own {f:Nat→Prop} (h:DS O N R M w g q p m) (n:∀b,f b→b<w.heap.size) (h1:∀b,f b→O b∨ ¬(b=g∨b=p.top∨(∃k,k<3∧(b=p.dir k∨b=p.sn k∨b=p.st k∨(p.pd k).ownBlock=some b))∨ ∃k x,k<3∧(m.seen k x=some b∨m.sett k x=some b))) (o:∀b,b<5→f b):DS f N R M w g q p m where
 box:=h.box
 top:=h.top
 dir:=h.dir
 pend:=h.pend
 pone:=h.pone
 seen:=h.seen
 sett:=h.sett
 file:=fun k x b e hb=>by
  obtain ⟨j,i,l⟩:=h.file k x b e hb
  exact ⟨j,fun a=>(h1 b a).elim i fun d=>d (.inr (.inr (.inr ⟨k,x,e,hb⟩))),l⟩
 one:=h.one
 off:=⟨fun a=>(h1 _ a).elim h.off.1 fun d=>d (.inl rfl),fun a=>(h1 _ a).elim h.off.2.1 fun d=>d (.inr (.inl rfl)),fun k e=>⟨fun a=>(h1 _ a).elim (h.off.2.2.1 k e).1 fun d=>d (.inr (.inr (.inl ⟨k,e,.inl rfl⟩))),fun a=>(h1 _ a).elim (h.off.2.2.1 k e).2.1 fun d=>d (.inr (.inr (.inl ⟨k,e,.inr (.inl rfl)⟩))),
  fun a=>(h1 _ a).elim (h.off.2.2.1 k e).2.2 fun d=>d (.inr (.inr (.inl ⟨k,e,.inr (.inr (.inl rfl))⟩)))⟩,fun k b e hb a=>(h1 _ a).elim (h.off.2.2.2 k b e hb) fun d=>d (.inr (.inr (.inl ⟨k,e,.inr (.inr (.inr hb))⟩)))⟩
 mtop:=h.mtop
 mst:=h.mst
 msn:=h.msn
 mtt:=h.mtt
 mdir:=h.mdir
 olt:=n
 gW:=o
theorem DS.lt (h:DS O N R M w g q p m) {b:Nat} (hb:b=g∨b=p.top∨(∃k,k<3∧(b=p.dir k∨b=p.sn k∨b=p.st k∨(p.pd k).ownBlock=some b))∨ ∃k x,k<3∧(m.seen k x=some b∨m.sett k x=some b)):b<w.heap.size:=by
 rcases hb with rfl|rfl|⟨k,a,rfl|rfl|rfl|hb⟩|⟨k,x,a,hb⟩
 ·exact ak.lt h.box
 ·exact h.top.lt
 ·exact ak.lt (h.dir k a)
 ·exact (h.seen k a).1.lt
 ·exact (h.sett k a).1.lt
 ·obtain ⟨n,xs,h1,_⟩:=h.pend k a
  exact Jf h1 hb
 exact ak.lt (h.file k x b a hb).1
def Ou (O:Nat→Prop) (w w':World) (b:Nat):Prop:=O b∨w.heap.size≤b∧b<w'.heap.size
theorem DS.on (h:DS O N R M w g q p m) (hb:Below w.heap.size w w'):DS (Ou O w w') N R M w' g q p m :=
 (h.below hb).own (fun b a=>a.elim (fun a=>Nat.lt_of_lt_of_le (h.olt b a) hb.size) (·.2)) (fun b a=>a.imp id fun d hx=>absurd (h.lt hx) (by omega)) (fun b hb=> .inl (h.gW b hb))
theorem DS.sub {d:Nat→Prop} (h:DS O N R M w g q p m) (e:∀b,d b→O b) (f:∀b,b<5→d b):DS d N R M w g q p m:=h.own (fun b a=>h.olt b (e b a)) (fun b a=> .inl (e b a)) f
theorem DS.mono {N' R' j:Nat} (h:DS O N R M w g q p m) (e:N≤N') (i:R≤R') (o:M≤j):DS O N' R' j w g q p m where
 box:=h.box
 top:=h.top
 dir:=h.dir
 pend:=fun k a=>by obtain ⟨n,xs,h1,d⟩:=h.pend k a;exact ⟨n,xs,h1,by omega⟩
 pone:=h.pone
 seen:=fun k a=>by
  obtain ⟨⟨X,h1,d⟩,f⟩:=h.seen k a
  exact ⟨⟨X,h1.mono (Nat.add_le_add e i),d⟩,f.mono e⟩
 sett:=fun k a=>by
  obtain ⟨⟨X,h1,d⟩,f⟩:=h.sett k a
  exact ⟨⟨X,h1.mono (Nat.add_le_add e i),d⟩,f.mono e⟩
 file:=fun k x b a hb=>by
  obtain ⟨h1,d,f,l⟩:=h.file k x b a hb
  exact ⟨h1,d,by omega,l⟩
 one:=h.one
 off:=h.off
 mtop:=h.mtop
 mst:=h.mst
 msn:=h.msn
 mtt:=h.mtt
 mdir:=h.mdir
 olt:=h.olt
 gW:=h.gW
def Dm.vis (m:Dm):Dk:=fun k x=>(m.seen k x).map fun b=>(m.dat b).1
theorem DS.at (h:DS O N R M w g q p m) (f:N+R≤1000000):jy w g m.vis:=by
 refine ⟨p.top,3,_,ak.lt h.box,ak.range h.box 0 _ rfl,ak.range h.box 4 _ rfl,h.top,fun x hx=> ?_⟩
 cases i:aW x with
 | none=>exact .inl ⟨rfl,rfl⟩
 | some k =>
  have a:=(bO i).1
  refine .inr ⟨p.dir k,k,rfl,rfl,p.sn k,N+R,m.seen k,ak.lt (h.dir k a),ak.range (h.dir k a) 0 _ rfl,(h.seen k a).1,f,fun y hy=> ?_⟩
  cases d:m.seen k y with
  | none=>exact .inl ⟨rfl,by unfold Dm.vis;rw [d];rfl⟩
  | some b =>
   have e:=h.file k y b a (.inl d)
   exact .inr ⟨b,(m.dat b).1,rfl,by unfold Dm.vis;rw [d];rfl,ak.lt e.1,ak.range e.1 0 _ rfl⟩
theorem DS.turned {k N' R':Nat} {f:ByteArray→Option Nat} {u:Value} {dt:Nat→ByteArray×Nat} (h:DS O N R M w g q p m) (r:k<3) (J:N≤N') (Q:R≤R') (v:Chg (fun b=>b=p.sn k∨b=p.dir k∨(p.pd k).ownBlock=some b) w w')
  (hm:aP aT w' (p.sn k) (N'+R') f) (Y:dI N' f) (hd:KL w' (p.dir k) (p.sn k) (p.st k) u) (S:PdR w' u R') (C:∀b,u.ownBlock=some b→(p.pd k).ownBlock=some b∨w.heap.size≤b) (L:∀b,b<w.heap.size→dt b=m.dat b)
  (P:∀x b,f x=some b→(∃y,m.seen k y=some b)∨(w.heap.size≤b∧lM w' b (dt b)∧(dt b).1.size≤M∧(dt b).2≤(dt b).1.size)) (h1:∀x y b,f x=some b→f y=some b→x=y) :
  DS O N' R' M w' g q { p with pd:=upN p.pd k u } { m with seen:=upN m.seen k f,dat:=dt }:=by
 have A:∀ {j x b},j<3→(m.seen j x=some b∨m.sett j x=some b)→lM w' b (dt b)∧ ¬O b∧(dt b).1.size≤M∧(dt b).2≤(dt b).1.size:=by
  intro j x b l hb
  obtain ⟨G,U,Z⟩:=h.file j x b l hb
  rw [L b (ak.lt G)]
  refine ⟨G.chg v ?_,U,Z⟩
  rintro (e|e|e)
  ·exact ak.eB G (h.seen k r).1 e
  ·exact ak.ne G (h.dir k r) (by decide) e
  obtain ⟨n,xs,q1,_⟩:=h.pend k r
  exact iL q1 G (by decide) e
 have B:∀ {α:Type} {enc:α→Value} {b n:Nat} {F:ByteArray→Option α},aP enc w b n F→(p.pd k).ownBlock≠some b:=fun W=>by
  obtain ⟨n,xs,q1,_⟩:=h.pend k r
  exact oC q1 W
 have H:∀ {b:Nat} {t:TypeId} {cs:List Value},ak w b t cs→175≠t→(p.pd k).ownBlock≠some b:=fun V s=>by
  obtain ⟨n,xs,q1,_⟩:=h.pend k r
  exact iL q1 V s
 refine ⟨h.box.chg v ?_,h.top.chg v ?_,fun j l=> ?_,fun j l=> ?_,fun i j b hi l o d=> ?_,fun j l=> ?_,fun j l=> ?_,fun j x b l hb=> ?_,fun i j x y b hi l o d=> ?_,?_,h.mtop,h.mst,h.msn,h.mtt,h.mdir,fun b hb=>Nat.lt_of_lt_of_le (h.olt b hb) v.size,h.gW⟩
 ·rintro (e|e|e)
  ·exact ak.eB h.box (h.seen k r).1 e
  ·exact ak.ne h.box (h.dir k r) (by decide) e
  exact H h.box (by decide) e
 ·rintro (e|e|e)
  ·exact (h.mtop k r).1 e
  ·exact ak.eB (h.dir k r) h.top e.symm
  exact B h.top e
 ·show KL w' (p.dir j) (p.sn j) (p.st j) (upN p.pd k u j)
  by_cases e:j=k
  ·subst e;rw [aQ];exact hd
  rw [aL e]
  refine (h.dir j l).chg v ?_
  rintro (d|d|d)
  ·exact ak.eB (h.dir j l) (h.seen k r).1 d
  ·exact e (h.mdir j k l r d)
  exact H (h.dir j l) (by decide) d
 ·show PdR w' (upN p.pd k u j) R'
  by_cases e:j=k
  ·subst e;rw [aQ];exact S
  rw [aL e]
  obtain ⟨n,xs,q1,q2⟩:=h.pend j l
  refine ⟨n,xs,jS q1 v ?_,by omega⟩
  rintro b hb (d|d|d)
  ·subst d;exact oC q1 (h.seen k r).1 hb
  ·subst d;exact iL q1 (h.dir k r) (by decide) hb
  exact e (h.pone j k b l r hb d)
 ·have D:∀ {j},j<3→j≠k→ ∀b,(p.pd j).ownBlock=some b→u.ownBlock≠some b:=by
   intro j l s b o d
   rcases C b d with E|E
   ·exact s (h.pone j k b l r o E)
   obtain ⟨n,xs,q1,_⟩:=h.pend j l
   exact absurd (Jf q1 o) (by omega)
  have o:(upN p.pd k u i).ownBlock=some b:=o
  have d:(upN p.pd k u j).ownBlock=some b:=d
  by_cases a:i=k
  ·by_cases c:j=k
   ·omega
   rw [a,aQ] at o
   rw [aL c] at d
   exact absurd o (D l c b d)
  by_cases c:j=k
  ·rw [aL a] at o
   rw [c,aQ] at d
   exact absurd d (D hi a b o)
  rw [aL a] at o
  rw [aL c] at d
  exact h.pone i j b hi l o d
 ·show aP aT w' (p.sn j) (N'+R') (upN m.seen k f j)∧dI N' (upN m.seen k f j)
  by_cases e:j=k
  ·subst e;rw [aQ];exact ⟨hm,Y⟩
  rw [aL e]
  obtain ⟨⟨X,q1,q2⟩,I⟩:=h.seen j l
  refine ⟨aP.chg ⟨X,q1.mono (Nat.add_le_add J Q),q2⟩ v ?_,I.mono J⟩
  rintro (d|d|d)
  ·exact e (h.msn j k l r d)
  ·exact ak.eB (h.dir k r) (h.seen j l).1 d.symm
  exact B (h.seen j l).1 d
 ·obtain ⟨⟨X,q1,q2⟩,I⟩:=h.sett j l
  refine ⟨aP.chg ⟨X,q1.mono (Nat.add_le_add J Q),q2⟩ v ?_,I.mono J⟩
  rintro (d|d|d)
  ·exact h.mst k j r l d.symm
  ·exact ak.eB (h.dir k r) (h.sett j l).1 d.symm
  exact B (h.sett j l).1 d
 ·have hb:upN m.seen k f j x=some b∨m.sett j x=some b:=hb
  rcases hb with hb|hb
  ·by_cases e:j=k
   ·rw [e,aQ] at hb
    rcases P x b hb with ⟨y,hy⟩|⟨q1,q2,I⟩
    ·exact A r (.inl hy)
    exact ⟨q2,fun K=>absurd (h.olt b K) (by omega),I⟩
   rw [aL e] at hb;exact A l (.inl hb)
  exact A l (.inr hb)
 ·have D:∀ {j},j<3→j≠k→ ∀x y b,m.seen j x=some b→f y≠some b:=by
   intro j l s x y b o d
   rcases P y b d with ⟨z,T⟩|⟨q1,_⟩
   ·exact s (h.one j k x z b l r o T).1
   exact absurd (ak.lt (h.file j x b l (.inl o)).1) (by omega)
  have o:upN m.seen k f i x=some b:=o
  have d:upN m.seen k f j y=some b:=d
  by_cases a:i=k
  ·by_cases c:j=k
   ·rw [a,aQ] at o
    rw [c,aQ] at d
    exact ⟨by omega,h1 x y b o d⟩
   rw [a,aQ] at o
   rw [aL c] at d
   exact absurd o (D l c y x b d)
  by_cases c:j=k
  ·rw [aL a] at o
   rw [c,aQ] at d
   exact absurd d (D hi a x y b o)
  rw [aL a] at o
  rw [aL c] at d
  exact h.one i j x y b hi l o d
 refine ⟨h.off.1,h.off.2.1,h.off.2.2.1,fun j b l hb=> ?_⟩
 have hb:(upN p.pd k u j).ownBlock=some b:=hb
 by_cases e:j=k
 ·rw [e,aQ] at hb
  rcases C b hb with E|E
  ·exact h.off.2.2.2 k b r E
  exact fun K=>absurd (h.olt b K) (by omega)
 rw [aL e] at hb;exact h.off.2.2.2 j b l hb
theorem DS.data {k fb:Nat} {x:ByteArray} {d:ByteArray×Nat} (h:DS O N R M w g q p m) (z:k<3) (hx:m.seen k x=some fb) (i:Chg (fun b=>b=fb) w w') (v:lM w' fb d) (s:d.1.size≤M) (A:d.2≤d.1.size):DS O N R M w' g q p { m with dat:=upN m.dat fb d }:=by
 have o:=(h.file k x fb z (.inl hx)).1
 have f:∀ {α:Type} {enc:α→Value} {b n:Nat} {F:ByteArray→Option α},aP enc w b n F→b≠fb:=fun C e=>ak.eB o C e.symm
 have l:∀ {b:Nat} {t:TypeId} {cs:List Value},ak w b t cs→t≠52→b≠fb:=fun B r=>ak.ne B o r
 refine ⟨h.box.chg i (l h.box (by decide)),h.top.chg i (f h.top),fun j a=>(h.dir j a).chg i (l (h.dir j a) (by decide)),fun j a=> ?_,h.pone,fun j a=>⟨(h.seen j a).1.chg i (f (h.seen j a).1),(h.seen j a).2⟩,fun j a=>⟨(h.sett j a).1.chg i (f (h.sett j a).1),(h.sett j a).2⟩,fun j y b a hb=> ?_,h.one,h.off,h.mtop,h.mst,h.msn,h.mtt,h.mdir,fun b hb=>Nat.lt_of_lt_of_le (h.olt b hb) i.size,h.gW⟩
 ·obtain ⟨n,xs,q1,q2⟩:=h.pend j a
  exact ⟨n,xs,jS q1 i (fun b hb e=>iL q1 o (by decide) (e▸hb)),q2⟩
 obtain ⟨q1,q2,u⟩:=h.file j y b a hb
 show lM w' b (upN m.dat fb d b)∧ ¬O b∧(upN m.dat fb d b).1.size≤M∧(upN m.dat fb d b).2≤(upN m.dat fb d b).1.size
 by_cases e:b=fb
 ·rw [e,aQ];exact ⟨v,e▸q2,s,A⟩
 rw [aL e];exact ⟨q1.chg i e,q2,u⟩
theorem DS.settled {k:Nat} (h:DS O N R M w g q p m) (l:k<3) (o:Chg (fun b=>b=p.st k∨b=p.dir k) w w') (hm:aP aT w' (p.st k) (N+R) (m.seen k)) (hd:KL w' (p.dir k) (p.sn k) (p.st k) (.slice none 0 0)) :
  DS O N R M w' g q { p with pd:=upN p.pd k (.slice none 0 0) } { m with sett:=upN m.sett k (m.seen k) }:=by
 have r:∀ {b:Nat} {t:TypeId} {cs:List Value},ak w b t cs→t≠56→ ¬(b=p.st k∨b=p.dir k):=fun z v hx=>hx.elim (ak.eB z (h.sett k l).1) (ak.ne z (h.dir k l) v)
 have s:∀ {α:Type} {enc:α→Value} {b n:Nat} {F:ByteArray→Option α},aP enc w b n F→b≠p.dir k:=fun B e=>ak.eB (h.dir k l) B e.symm
 refine ⟨h.box.chg o (r h.box (by decide)),h.top.chg o (fun hx=>hx.elim (h.mtop k l).2 (s h.top)),fun j d=> ?_,fun j d=> ?_,fun i j b hi d u f=> ?_,fun j d=>⟨(h.seen j d).1.chg o (fun hx=>hx.elim (h.mst j k d l) (s (h.seen j d).1)),(h.seen j d).2⟩,fun j d=> ?_,fun j x b d hb=> ?_,h.one,⟨h.off.1,h.off.2.1,h.off.2.2.1,fun j b d hb=> ?_⟩,h.mtop,h.mst,h.msn,h.mtt,h.mdir,fun b hb=>Nat.lt_of_lt_of_le (h.olt b hb) o.size,h.gW⟩
 ·show KL w' (p.dir j) (p.sn j) (p.st j) (upN p.pd k (.slice none 0 0) j)
  by_cases e:j=k
  ·subst e;rw [aQ];exact hd
  rw [aL e]
  exact (h.dir j d).chg o (fun hx=>hx.elim (ak.eB (h.dir j d) (h.sett k l).1) fun f=>e (h.mdir j k d l f))
 ·show PdR w' (upN p.pd k (.slice none 0 0) j) R
  by_cases e:j=k
  ·rw [e,aQ];exact ⟨0,[],World.ownsRow_nil w' _ _ _,Nat.zero_le _⟩
  rw [aL e]
  obtain ⟨n,xs,q1,q2⟩:=h.pend j d
  exact ⟨n,xs,jS q1 o (fun b hb hx=>hx.elim (fun f=>oC q1 (h.sett k l).1 (f▸hb)) fun f=>iL q1 (h.dir k l) (by decide) (f▸hb)),q2⟩
 ·have u:(upN p.pd k (.slice none 0 0) i).ownBlock=some b:=u
  have f:(upN p.pd k (.slice none 0 0) j).ownBlock=some b:=f
  by_cases a:i=k
  ·rw [a,aQ] at u;cases u
  by_cases c:j=k
  ·rw [c,aQ] at f;cases f
  rw [aL a] at u
  rw [aL c] at f
  exact h.pone i j b hi d u f
 ·show aP aT w' (p.st j) (N+R) (upN m.sett k (m.seen k) j)∧dI N (upN m.sett k (m.seen k) j)
  by_cases e:j=k
  ·subst e;rw [aQ];exact ⟨hm,(h.seen j d).2⟩
  rw [aL e]
  exact ⟨(h.sett j d).1.chg o (fun hx=>hx.elim (fun f=>e (h.mtt j k d l f)) (s (h.sett j d).1)),(h.sett j d).2⟩
 ·have hb:m.seen j x=some b∨upN m.sett k (m.seen k) j x=some b:=hb
  have y:m.seen j x=some b∨m.sett j x=some b:=by
   rcases hb with hb|hb
   ·exact .inl hb
   by_cases e:j=k
   ·subst e;rw [aQ] at hb;exact .inl hb
   rw [aL e] at hb;exact .inr hb
  obtain ⟨q1,q2,A⟩:=h.file j x b d y
  exact ⟨q1.chg o (r q1 (by decide)),q2,A⟩
 have hb:(upN p.pd k (.slice none 0 0) j).ownBlock=some b:=hb
 by_cases e:j=k
 ·rw [e,aQ] at hb;cases hb
 rw [aL e] at hb;exact h.off.2.2.2 j b d hb
end
theorem uh:∃a:Array Value,(∀w,(zeroValue 143).run prog w= .ok (.agg a) w)∧a.size=32:=⟨#[.int .u8 0,.int .u8 0,.int .u8 0,.int .u8 0,.int .u8 0,.int .u8 0,.int .u8 0,.int .u8 0,.int .u8 0,.int .u8 0,.int .u8 0,.int .u8 0,.int .u8 0,.int .u8 0,.int .u8 0,.int .u8 0,.int .u8 0,.int .u8 0,.int .u8 0,.int .u8 0,.int .u8 0,.int .u8 0,.int .u8 0,.int .u8 0,.int .u8 0,.int .u8 0,.int .u8 0,.int .u8 0,.int .u8 0,.int .u8 0,.int .u8 0,.int .u8 0],fun w=>by kernel_rfl,rfl⟩
theorem iN:(prog.info? 143).map (·.size)=some 32:=by kernel_rfl
theorem gZ:(prog.info? 24).map (·.size)=some 2:=by kernel_rfl
theorem wH (g:Nat):∀(a:List Value) (o:Nat) (w:World),(w.setCells g o a).heap.size=w.heap.size
 | [],_,_=>rfl
 | v::a,o,w=>by
  show (World.setCells (w.setCell ⟨g,o,none⟩ v) g (o+1) a).heap.size=_
  rw [wH]
  simp [World.setCell]
theorem boxed {w W:World} {a:Array Value} {t:TypeId} {us:List Value} (d:us.length=a.size) (b:(w.alloc (.cells a t)).setCells w.heap.size 0 us=W):ak W w.heap.size t us∧Below w.heap.size w W∧W.heap.size=w.heap.size+1:=by
 have e:ak (w.alloc (.cells a t)) w.heap.size t a.toList:=by have:=ak.new w t a.toList;simpa using this
 refine ⟨?_,?_,?_⟩
 ·rw [←b];exact e.set (by rw [d];simp)
 ·rw [←b];exact below_setCells _ (Nat.le_refl _) _ _ _ bal
 rw [←b,wH];simp
theorem aC {P:Program} {ops:Array Oper} {rest:List Oper} {op:Oper} {a:Act} {w:World} {Q:Exit→Act→World→Prop} (e:op.guard=none) (ty:TypeId) (x y:Operand) (j:op.op= .store ty x y)
  (d:Array Value) (b:List Value) (hx:a.eval x= .pointer (some ⟨w.heap.size,0,none⟩)) (hy:a.eval y= .agg b.toArray) (n:Nat) (f:b.length=n) (g:d.size=n)
  (hi:(P.info? ty).map (·.size)=some n) (h1:∀v∈b,v.oneCell'=true)
  (h:∀W,ak W w.heap.size ty b→Below w.heap.size w W→Hid (W.heap.size=w.heap.size+1)→wpList P ops Q rest (a.put op.dst undef) W):wpList P ops Q (op::rest) a (w.alloc (.cells d ty)):=by
 obtain ⟨l,i,k⟩:=boxed (w:=w) (t:=ty) (us:=b) (f.trans g.symm) rfl
 refine aj e ty x y j w.heap.size 0 b hx hy n f (by rw [←g];exact there_alloc w d ty rfl) hi h1 (h _ l i (ah k))
theorem uV (b:Nat) (a:List Value) (w:World):Chg (fun k=>k=b) w (w.setCells b 0 a):=by
 have h:=bF w b 0 a
 exact ⟨h.os,h.tape,h.output,h.size,fun k f d=>h.block k f (fun e=>d (Option.some.inj e))⟩
theorem ak.kp {O:Nat→Prop} {w w':World} {b:Nat} {t:TypeId} {cs:List Value} (h:ak w b t cs) (d:Kp O w w') (a:O b):ak w' b t cs:=(d.block h.lt a).trans h
abbrev LK:=Nat→ByteArray→Option (ByteArray×Nat)
def LK.put (L:LK) (k:Nat) (x:ByteArray) (v:Option (ByteArray×Nat)):LK:=fun j y=>if j=k∧y=x then v else L j y
def LK.dk (L:LK):Dk:=fun k x=>(L k x).map (·.1)
theorem LK.bG (L:LK) (k:Nat) (x:ByteArray) (v:Option (ByteArray×Nat)):L.put k x v k x=v:=if_pos ⟨rfl,rfl⟩
theorem LK.aV {L:LK} {k:Nat} {x:ByteArray} {v:Option (ByteArray×Nat)} {j:Nat} {y:ByteArray} (h:¬(j=k∧y=x)):L.put k x v j y=L j y:=if_neg h
def DV (O:Nat→Prop) (N R M:Nat) (w:World) (g:Nat) (q:Int) (L:LK) (sy:Nat→Bool):Prop :=
 ∃p m,DS O N R M w g q p m∧(∀k x,k<3→L k x=(m.seen k x).map m.dat)∧ ∀k,k<3→sy k=true→m.sett k=m.seen k
section
variable {O S:Nat → Prop} {N R M:Nat} {w w':World} {g:Nat} {q:Int} {L:LK} {sy:Nat → Bool}
theorem DV.chg (h:DV O N R M w g q L sy) (a:Chg S w w') (hS:∀b,S b→O b):DV O N R M w' g q L sy:=by obtain ⟨p,m,h1,d⟩:=h;exact ⟨p,m,h1.chg a hS,d⟩
theorem DV.below (h:DV O N R M w g q L sy) (hb:Below w.heap.size w w'):DV O N R M w' g q L sy:=by obtain ⟨p,m,h1,a⟩:=h;exact ⟨p,m,h1.below hb,a⟩
theorem DV.on (h:DV O N R M w g q L sy) (hb:Below w.heap.size w w'):DV (Ou O w w') N R M w' g q L sy:=by obtain ⟨p,m,h1,a⟩:=h;exact ⟨p,m,h1.on hb,a⟩
theorem DV.sub {a:Nat→Prop} (h:DV O N R M w g q L sy) (d:∀b,a b→O b) (e:∀b,b<5→a b):DV a N R M w g q L sy:=by obtain ⟨p,m,h1,f⟩:=h;exact ⟨p,m,h1.sub d e,f⟩
theorem DV.mono {N' R' a:Nat} (h:DV O N R M w g q L sy) (b:N≤N') (d:R≤R') (f:M≤a):DV O N' R' a w g q L sy:=by obtain ⟨p,m,h1,e⟩:=h;exact ⟨p,m,h1.mono b d f,e⟩
theorem DV.olt (h:DV O N R M w g q L sy):∀b,O b→b<w.heap.size:=by obtain ⟨p,m,h1,a⟩:=h;exact h1.olt
theorem DV.gW (h:DV O N R M w g q L sy):∀b,b<5→O b:=by obtain ⟨p,m,h1,a⟩:=h;exact h1.gW
theorem DV.at (h:DV O N R M w g q L sy) (a:N+R≤1000000):∃d:Dk,jy w g d∧ ∀k x,k<3→d k x=L.dk k x:=by
 obtain ⟨p,m,h1,b,_⟩:=h
 refine ⟨m.vis,h1.at a,fun k x e=> ?_⟩
 unfold Dm.vis LK.dk
 rw [b k x e]
 cases m.seen k x<;>rfl
theorem DV.size (h:DV O N R M w g q L sy) {k:Nat} {x:ByteArray} {v:ByteArray×Nat} (e:k<3) (a:L k x=some v):v.1.size≤M∧v.2≤v.1.size∧aJ x=true:=by
 obtain ⟨p,m,h1,j,_⟩:=h
 rw [j k x e] at a
 cases d:m.seen k x with
 | none=>rw [d] at a;cases a
 | some b =>
  rw [d] at a
  cases a
  have f:=(h1.file k x b e (.inl d)).2.2
  obtain ⟨n,_,_,l,i⟩:=(h1.seen k e).2
  exact ⟨f.1,f.2,l x ((i x).1 (by rw [d];rfl))⟩
theorem DV.names (h:DV O N R M w g q L sy) {k:Nat} (e:k<3):∃l:List ByteArray,jA l∧l.length≤N∧(∀x∈l,aJ x=true)∧ ∀x,x∈l↔(L.dk k x).isSome=true:=by
 obtain ⟨p,m,h1,i,_⟩:=h
 obtain ⟨o,r,u,t,f⟩:=(h1.seen k e).2
 have s:∀l:List ByteArray,l.Nodup→(l.foldr jl []).length≤l.length∧jA (l.foldr jl [])∧ ∀x,x∈l.foldr jl []↔x∈l:=by
  intro l
  induction l with
  | nil=>exact fun _=>⟨Nat.le_refl _,List.Pairwise.nil,fun _=>Iff.rfl⟩
  | cons y l ih =>
   intro j
   obtain ⟨n,d,a⟩:=ih (List.nodup_cons.1 j).2
   have b:∀(x:ByteArray) (l:List ByteArray),(jl x l).length≤l.length+1:=by
    intro x l
    induction l with
    | nil=>simp [jl]
    | cons y l ih=>unfold jl;split<;>(try split)<;>simp<;>omega
   rw [List.foldr_cons]
   refine ⟨?_,tF _ _ d,fun x=>by rw [oq,a,List.mem_cons]⟩
   have:=b y (l.foldr jl [])
   rw [List.length_cons];omega
 obtain ⟨n,d,a⟩:=s o r
 refine ⟨_,d,by omega,fun x hx=>t x ((a x).1 hx),fun x=> ?_⟩
 rw [a,←f]
 unfold LK.dk
 rw [i k x e]
 cases m.seen k x<;>rfl
end
theorem cu.kp {O:Nat→Prop} {w w':World} (h:cu w) (a:Kp O w w') (f:∀b,b<5→O b):cu w':=by
 have e:=h.laid.lt
 have hb:Below 5 w w':=⟨a.os,a.tape,a.output,a.size,fun k d=>a.block (Nat.lt_of_lt_of_le d e) (f k d)⟩
 exact h.nG hb (Nat.le_refl _)
theorem bT {x:ByteArray} (h:aJ x=true):x.size≤80:=by
 unfold aJ at h
 simp only [Bool.and_eq_true,decide_eq_true_eq] at h
 exact h.2
theorem BH {k:Nat}:(aU k).size≤maxLen:=by
 unfold aU maxLen
 split
 ·decide
 split<;>decide
section
variable {O:Nat → Prop} {N R M:Nat} {g:Nat} {q:Int} {p:Pl} {m:Dm}
theorem gF (w:World) (h:DS O N R M w g q p m) {k:Nat} (j:k<3) (a:Option Addr) (n c:Nat) (i:Calls prog 77 #[.slice a n c,.func (.func 78) #[] #[]] w fun e w'=>e= .returned (.bool false)∧Below w.heap.size w w') :
  Calls prog 30 #[.pointer (some ⟨g,0,none⟩),.string (aU k),.slice a n c] w fun e w'=>e= .returned (.tuple #[.pointer (some ⟨p.dir k,0,none⟩),.int .i64 0])∧Below w.heap.size w w':=by
 have l:=ah i
 have s:w.cell? ⟨g,0,none⟩=some (.map (some p.top)):=ak.range h.box 0 _ rfl
 have c4:w.cell? ⟨g,4,none⟩=some (.bool false):=ak.range h.box 4 _ rfl
 have o:=ak.lt h.box
 have b:=h.top.look underlying47 (rW w) (x:=aU k) BH
 rw [eO j] at b
 dsimp only [Option.map,Option.getD,aT] at b
 have f:=ah (fun (w':World) (hb:Below w.heap.size w w')=>au c4 hb o)
 clear h i c4 j
 generalize p.dir k=r at b ⊢
 generalize aU k=dn at b ⊢
 go_enter func30,ntmps30
 go_wp2_with fail
 refine l.out.mono ?_
 rintro e w1 ⟨rfl,d⟩
 have c4:=f.out w1 d
 go_wp2_with fail
 go_ret2
 exact ⟨rfl,d⟩
theorem l5 (w:World) (h:DS O N R M w g q p m):Calls prog 143 #[.pointer (some ⟨g,0,none⟩)] w fun e w'=>e= .returned (.int .i64 0)∧w'=w:=by
 have c3:w.cell? ⟨g,3,none⟩=some (.bool false):=ak.range h.box 3 _ rfl
 clear h
 go_enter func143,ntmps143
 go_wp2_with fail
 go_ret
 exact ⟨rfl,rfl⟩
end
theorem FT (b:Nat) (x y:ByteArray) (w:World) (k:w.cell? ⟨b,0,none⟩=some (.string x)) (hd:w.cell? ⟨b,1,none⟩=some (.string y)) (hx:x.size≤1000000000) (hy:y.size≤1000000000) (h:aJ x=true) (i:aJ y=true):Calls prog 149 #[.slice (some ⟨b,0,none⟩) 2 2,.func (.func 78) #[] #[]] w fun e w'=>e= .returned (.int .i64 (-1))∧Below w.heap.size w w':=by
 have g:=ah (uD x w hx)
 have j:=ah (fun W=>uD y W hy)
 have f:b<w.heap.size:=World.block_lt_of_cell? w _ k
 have l:=ah (fun (w':World) (hb:Below w.heap.size w w')=>au hd hb f)
 rw [h] at g
 rw [i] at j
 clear h i hd
 go_enter func149,ntmps149
 go_wp2_with fail
 refine wp_loop_rounds 3 ?_
 rw [rounds_succ]
 go_wp2_with fail
 refine g.out.mono ?_
 rintro e w1 ⟨rfl,a⟩
 have hd:=l.out w1 a
 go_wp2_with fail
 rw [rounds_succ]
 go_wp2_with fail
 refine (j.out w1).mono ?_
 rintro e m ⟨rfl,d⟩
 go_wp2_with fail
 rw [rounds_succ]
 go_wp2_with fail
 go_ret
 exact ⟨rfl,a.trans (d.mono a.size)⟩
theorem FZ (b:Nat) (x y:ByteArray) (w:World) (d:w.cell? ⟨b,0,none⟩=some (.string x)) (hd:w.cell? ⟨b,1,none⟩=some (.string y)) (f:aJ x=true) (g:aJ y=true):Calls prog 77 #[.slice (some ⟨b,0,none⟩) 2 2,.func (.func 78) #[] #[]] w fun e w'=>e= .returned (.bool false)∧Below w.heap.size w w':=by
 have h:=ah (FT b x y w d hd (by have:=bT f;omega) (by have:=bT g;omega) f g)
 clear d hd
 go_enter func77,ntmps77
 go_wp2_with fail
 refine h.out.mono ?_
 rintro e w' ⟨rfl,a⟩
 go_wp2_with fail
 go_ret
 exact ⟨rfl,a⟩
theorem MQ:(prog.info? 175).map (fun i=>(i.zero,i.size,i.bytes))=some (some .nilFunc,1,8):=by kernel_rfl
theorem pG {ops:Array Oper} {rest:List Oper} {o:Oper} {a:Act} {Q:Exit→Act→World→Prop} (w:World) (m:o.guard=none) (s x:Operand) (f:o.op=Op.call { callee:=Callee.builtin Builtin.append,args:=#[s,x],argTypes:=#[54,54] })
  (v:Value) (n:Nat) (xs:List Value) (l:a.eval s=v) (d:w.ownsRow 0 175 1 v n xs) (b:Nat) (k:Value) (hx:a.eval x= .slice (some ⟨b,0,none⟩) 1 1) (r:w.cell? ⟨b,0,none⟩=some k) (h1:k.oneCell'=true) (t:n≤10000000)
  (q:∀i w',w'.ownsRow 0 175 1 i (n+1) (xs++[k])→w.grownBy w' v.ownBlock→Fr w v i→wpList prog ops Q rest (a.put o.dst i) w'):wpList prog ops Q (o::rest) a w:=by
 obtain ⟨p,hi,h,e,g⟩:=info_parts MQ
 refine jC w m s x 54 f 0 175 p _ 1 8 underlying54 hi h e g rfl (by decide) v n xs l d ⟨b,0,none⟩ 1 1 [k] hx rfl (fun j u hu=> ?_) (fun u hu=> ?_) (by unfold maxLen;omega) (by omega) (Nat.zero_le _) q
 ·match j,hu with
  | 0,hu=>simp at hu;subst hu;rw [Addr.add_mid];exact r
 simp at hu;subst hu;exact h1
section
variable {O:Nat → Prop} {N R M:Nat} {g:Nat} {q:Int} {p:Pl} {m:Dm}
theorem nC (w0 w:World) (h:DS O N R M w0 g q p m) (hb:Below w0.heap.size w0 w) {k N':Nat} (s:k<3) (hN:N≤N') (hR:R≤1000000) {f:ByteArray→Option Nat} {dt:Nat→ByteArray×Nat} (fn:FuncId) (cs:Array Value) (aq:∀args w,Sem.run prog (callFunc fn args) w= .ok (.enter fn args) w)
  (ab:Calls prog fn (#[.map (some (p.sn k))]++cs) w fun e w'=>e= .returned (.tuple #[])∧aP aT w' (p.sn k) (N'+(R+1)) f∧w.grownBy w' (some (p.sn k))) (hn:dI N' f) (ac:∀b,b<w0.heap.size→dt b=m.dat b)
  (hf:∀x b,f x=some b→(∃y,m.seen k y=some b)∨(w0.heap.size≤b∧lM w b (dt b)∧(dt b).1.size≤M∧(dt b).2≤(dt b).1.size)) (h1:∀x y b,f x=some b→f y=some b→x=y) :
  Calls prog 118 #[.pointer (some ⟨g,0,none⟩),.pointer (some ⟨p.dir k,0,none⟩),.func (.func fn) #[] cs] w fun e w'=>e= .returned (.int .i64 0)∧ ∃pv,DS O N' (R+1) M w' g q { p with pd:=upN p.pd k pv } { m with seen:=upN m.seen k f,dat:=dt }∧Kp O w0 w':=by
 have hw:=h.below hb
 have HB:=ah (l5 w hw)
 have c0:w.cell? ⟨p.dir k,0,none⟩=some (.map (some (p.sn k))):=ak.range (hw.dir k s) 0 _ rfl
 go_enter func118,ntmps118
 go_wp2_with fail
 refine HB.out.mono ?_
 rintro e w1 ⟨rfl,rfl⟩
 have am:=hw.pend k s
 have HD:=ah ab
 have V:=ah hw
 have J:=ah hb
 have HF:=ah hf
 have H1:=ah h1
 have HN:=ah hn
 have al:=ah ac
 have H0:=ah h
 clear ab hw hb hf h1 hn ac h
 go_wp2_with fail
 refine HD.out.mono ?_
 rintro e F ⟨rfl,Y,aa⟩
 have E:Chg (fun b=>b=p.sn k) w1 F:=Chg.dW aa (fun b e=>(Option.some.inj e).symm)
 have r:=(V.out.dir k s).chg E (fun e=>ak.eB (V.out.dir k s) (V.out.seen k s).1 e)
 obtain ⟨n,xs,l,ae⟩:=am
 have d:=jS l E (fun b hb e=>oC l (V.out.seen k s).1 (e▸hb))
 have ag:=ah l
 have ai:Hid (V.out.pend k s=V.out.pend k s):=ah rfl
 obtain ⟨ao,z⟩:∃v,p.pd k=v:=⟨_,rfl⟩
 rw [z] at r d
 obtain ⟨oo,oc,rfl⟩:=dL d
 obtain ⟨W,hW⟩:∃W,F.alloc (.cells #[.func (.func fn) #[] cs] 175)=W:=⟨_,rfl⟩
 have u:Below F.heap.size F W:=by rw [←hW];exact bal
 have c2:F.cell? ⟨p.dir k,2,none⟩=some (.slice oo n oc):=r.range 2 _ rfl
 have cW:W.cell? ⟨F.heap.size,0,none⟩=some (.func (.func fn) #[] cs):=by rw [←hW];exact (ak.new F 175 [.func (.func fn) #[] cs]).range 0 _ rfl
 have C:=ah (jS d (Chg.of_below (S:=fun _=>False) u) (fun _ _ h=>h))
 have Q:=ah (ak.below r u)
 have U:=ah (Y.on u)
 have L:=ah E
 have K:=ah u
 have I:=ah z
 have P:=ah ae
 have Z:=ah hW
 clear Y aa E r l d hW u z ae HB HD ai
 go_wp2_with (rw [Z.out];refine pG _ rfl _ _ rfl _ n xs rfl C.out F.heap.size _ rfl cW rfl (by have:=P.out;omega) ?_)
 intro X w3 a B H
 have G:∀ {b:Nat} {t:TypeId} {cs:List Value},ak W b t cs→175≠t→some b≠(Value.slice oo n oc).ownBlock:=fun hB af e=>iL C.out hB af e.symm
 have A:=Q.out.kept B (G Q.out (by decide))
 have T:=U.out.grown B (fun e=>oC C.out U.out e.symm)
 have hS:∀b,(b=p.sn k∨b=p.dir k∨(p.pd k).ownBlock=some b)→b<w0.heap.size:=fun b hb=>H0.out.lt (.inr (.inr (.inl ⟨k,s,hb.elim (fun e=> .inr (.inl e)) fun hb=>hb.elim .inl fun e=> .inr (.inr (.inr e))⟩)))
 have o:Chg (fun b=>b=p.dir k) w3 (w3.setCell ⟨p.dir k,2,none⟩ X):=⟨rfl,rfl,rfl,by simp [World.setCell],fun j _ hj=>Below.heap_setCell _ _ _ _ hj⟩
 have i:Chg (fun b=>b=p.sn k∨b=p.dir k∨(p.pd k).ownBlock=some b) w1 (w3.setCell ⟨p.dir k,2,none⟩ X) :=
  (((L.out.mono fun b _ e=> .inl e).trans (Chg.of_below K.out)).trans (Chg.dW B fun b e=> .inr (.inr (by rw [I.out];exact e)))).trans (o.mono fun b _ e=> .inr (.inl e))
 have HE:Hid (∃pv,DS O N' (R+1) M (w3.setCell ⟨p.dir k,2,none⟩ X) g q { p with pd:=upN p.pd k pv } { m with seen:=upN m.seen k f,dat:=dt }∧Kp O w0 (w3.setCell ⟨p.dir k,2,none⟩ X)):=ah ⟨X,H0.out.turned s hN (Nat.le_succ R) ((Chg.of_below J.out).trans i) (T.chg o fun e=>ak.eB A T e.symm) HN.out (A.put 2 X)
   ⟨n+1,_,jS a o (fun b hb e=>iL a A (by decide) (e▸hb)),by have:=P.out;omega⟩ (fun b hb=>H.elim (fun e=> .inl (by rw [I.out,←e];exact hb)) fun hf=> .inr (by have h1:=hf b hb;have h2:=J.out.size;have h3:=L.out.size;have h4:=K.out.size;omega)) al.out
   (fun x b hx=>(HF.out x b hx).imp id fun ⟨q1,q2,q3⟩=>⟨q1,q2.chg i (fun hb=>by have:=hS b hb;omega),q3⟩) H1.out,
  (Kp.of J.out).trans (i.mono fun b _ hb ho=>by
   rcases hb with rfl|rfl|hb
   ·exact (H0.out.off.2.2.1 k s).2.1 ho
   ·exact (H0.out.off.2.2.1 k s).1 ho
   exact H0.out.off.2.2.2 k b s hb ho)⟩
 have D:=A.there 2 (by simp)
 rw [Nat.zero_add] at D
 have ad:=D.1
 have ap:=D.2
 obtain ⟨v0,an⟩:=Option.isSome_iff_exists.1 ad
 clear G T hS o i D ad H B ag C Q U L K I P Z A c2 cW
 obtain ⟨o3,c3,rfl⟩:=dL a
 clear a
 go_wp2_with fail
 go_ret
 exact ⟨rfl,HE.out⟩
end
theorem BL (x:ByteArray) (w:World):Calls prog 331 #[.string x] w fun e w'=> ∃q u o,e= .returned (.func (.func 338) #[] #[.pointer (some ⟨q,0,none⟩),.pointer (some ⟨u,0,none⟩)])∧w'.cell? ⟨q,0,none⟩=some (.pointer (some ⟨o,0,none⟩))∧w'.cell? ⟨u,0,none⟩=some (.string x)∧lM w' o (⟨#[]⟩,0)∧w.heap.size≤o∧Below w.heap.size w w':=by
 have y:∀w,(Instr.build 52 #[]).run prog w= .ok (.agg #[.string ⟨#[]⟩,.int .i64 0]) w:=fun w=>run_build w 52 _ _ (by kernel_rfl)
 have s:=ah (ak.new w 9 [.string x])
 obtain ⟨k,a⟩:∃W,w.alloc (.cells #[.string x] 9)=W:=⟨_,rfl⟩
 have l:Below w.heap.size w k:=by rw [←a];exact bal
 have h:k.heap.size=w.heap.size+1:=by rw [←a];simp
 have t:=ah (ak.new k 52 (fiC (⟨#[]⟩,0)))
 obtain ⟨j,b⟩:∃W,k.alloc (.cells #[.string ⟨#[]⟩,.int .i64 0] 52)=W:=⟨_,rfl⟩
 have g:Below k.heap.size k j:=by rw [←b];exact bal
 have m:j.heap.size=w.heap.size+1+1:=by rw [←b,←h];simp
 have r:=ah (ak.new j 50 [.pointer (some ⟨w.heap.size+1,0,none⟩)])
 obtain ⟨i,d⟩:∃W,j.alloc (.cells #[.pointer (some ⟨w.heap.size+1,0,none⟩)] 50)=W:=⟨_,rfl⟩
 have f:Below j.heap.size j i:=by rw [←d];exact bal
 have p:ak i (w.heap.size+1+1) 50 [.pointer (some ⟨w.heap.size+1,0,none⟩)]∧ak i w.heap.size 9 [.string x]∧lM i (w.heap.size+1) (⟨#[]⟩,0)∧Below w.heap.size w i:=by
  refine ⟨by rw [←m,←d];exact r.out,((ak.below (by rw [←a];exact s.out) g).below f),(ak.below (by rw [←h,←b];exact t.out) f),(l.trans (g.mono (by omega))).trans (f.mono (by omega))⟩
 have n:=ah p
 have v:Hid (((w.alloc (.cells #[.string x] 9)).alloc (.cells #[.string ⟨#[]⟩,.int .i64 0] 52)).alloc (.cells #[.pointer (some ⟨w.heap.size+1,0,none⟩)] 50)=i):=ah (by rw [a,b,d])
 clear a b d l g f h m s t r p
 go_enter func331,ntmps331
 go_wp2_with fail
 rw [v.out]
 go_ret
 exact ⟨_,_,_,rfl,n.out.1.range 0 _ rfl,n.out.2.1.range 0 _ rfl,n.out.2.2.1,by omega,n.out.2.2.2⟩
theorem zk (sn i j g n:Nat) (x:ByteArray) (f:ByteArray→Option Nat) (w:World) (hm:aP aT w sn n f) (c1:w.cell? ⟨i,0,none⟩=some (.pointer (some ⟨g,0,none⟩))) (c2:w.cell? ⟨j,0,none⟩=some (.string x)) (hx:x.size≤maxLen) (l:n≤1000000) :
  Calls prog 338 #[.map (some sn),.pointer (some ⟨i,0,none⟩),.pointer (some ⟨j,0,none⟩)] w fun e w'=>e= .returned (.tuple #[])∧aP aT w' sn (n+1) (fun y=>if y=x then some g else f y)∧w.grownBy w' (some sn):=by
 have k:=ah hm
 clear hm
 go_enter func338,ntmps338
 go_wp2_with (refine kF (enc:=aT) rfl _ _ _ 53 50 rfl underlying53 sn n f rfl k.out x hx g rfl rfl (by unfold maxLen;omega) ?_)
 intro w' b a
 have h:=ah b
 have d:=ah a
 clear b a
 go_wp2_with fail
 go_end0
 exact ⟨rfl,h.out,d.out⟩
theorem kG {α:Type} {enc:α→Value} {w:World} {ops:Array Oper} {rest:List Oper} {o:Oper} {a:Act} {Q:Exit→Act→World→Prop} (s:o.guard=none) (m x:Operand) (t e:TypeId) (i:o.op=Op.call { callee:=Callee.builtin Builtin.delete,args:=#[m,x],argTypes:=#[t,9] })
  (r:prog.underlying t=some (.map 9 e)) (b n:Nat) (f:ByteArray→Option α) (hm:a.eval m= .map (some b)) (d:aP enc w b n f) (p:ByteArray) (z:p.size≤maxLen) (hx:a.eval x= .string p)
  (v:∀w',aP enc w' b n (fun q=>if q=p then none else f q)→w.grownBy w' (some b)→wpList prog ops Q rest (a.put o.dst (.tuple #[])) w'):wpList prog ops Q (o::rest) a w:=by
 obtain ⟨D,d,k⟩:=d
 refine wpList_delete_own w s m x t 9 i e bZ r eX b n D hm d (.string p) (fM p) hx (gK z) fun w' h1 l=>v w' ⟨_,h1,fun y hy=> ?_⟩ l.grown
 dsimp only
 by_cases j:y=p
 ·subst j
  rw [if_pos rfl]
  exact ⟨has_del_same,fun _ h=>by cases h⟩
 have g:fM y≠fM p:=fun h=>j (oI h)
 rw [if_neg j]
 exact ⟨by rw [has_del_other g];exact (k y hy).1,fun o u zd=>by rw [atKey_del_other g];exact (k y hy).2 o u zd⟩
theorem yE (sn g C n fb:Nat) (x y:ByteArray) (f:ByteArray→Option Nat) (w:World) (hm:aP aT w sn n f) (s:f x=some fb) (d:x≠y) (c1:w.cell? ⟨g,0,none⟩=some (.string x)) (c2:w.cell? ⟨C,0,none⟩=some (.string y)) (hx:x.size≤maxLen) (hy:y.size≤maxLen) (I:n≤1000000) :
  Calls prog 333 #[.map (some sn),.pointer (some ⟨g,0,none⟩),.pointer (some ⟨C,0,none⟩)] w fun e w'=>e= .returned (.tuple #[])∧aP aT w' sn (n+1) (fun z=>if z=y then f x else if z=x then none else f z)∧w.grownBy w' (some sn):=by
 have H:=ah hm
 have i:=hm.look underlying53 (eH w) (x:=x) hx
 rw [s] at i
 dsimp only [Option.map,Option.getD,aT] at i
 have u:g<w.heap.size:=World.block_lt_of_cell? w _ c1
 have F:=ah c1
 have p:Hid (g=sn→False):=ah (fun (e:g=sn)=>by
  subst e
  obtain ⟨D,⟨es,q,hb,_⟩,_⟩:=hm
  simp [World.cell?,hb] at c1)
 have HS:=ah s
 have r:=ah d
 clear hm s d
 go_enter func333,ntmps333
 go_wp2_with (refine kF (enc:=aT) rfl _ _ _ 53 50 rfl underlying53 sn n f rfl H.out y hy fb rfl rfl (by unfold maxLen;omega) ?_)
 intro w' m h
 have E:w'.cell? ⟨g,0,none⟩=some (.string x):=by rw [World.cell?_of_block (h.block g u (fun e=>p.out (Option.some.inj e)))];exact F.out
 have t:=ah m
 have a:=ah h
 clear m h c1 c2 i
 go_wp2_with (refine kG (enc:=aT) rfl _ _ 53 50 rfl underlying53 sn (n+1) _ rfl t.out x hx rfl ?_)
 intro G l b
 have v:=ah l
 have A:Hid (w.grownBy G (some sn)):=ah ⟨b.os.trans a.out.os,b.tape.trans a.out.tape,b.output.trans a.out.output,Nat.le_trans a.out.size b.size,fun k B d=>(b.block k (Nat.lt_of_lt_of_le B a.out.size) d).trans (a.out.block k B d)⟩
 clear l b
 go_wp2_with fail
 go_end0
 refine ⟨rfl,v.out.ext fun z _=> ?_,A.out⟩
 by_cases o:z=x
 ·rw [if_pos o,if_neg (fun j=>r.out (o.symm.trans j)),if_pos o]
 rw [if_neg o]
 by_cases j:z=y
 ·rw [if_pos j,if_pos j,HS.out]
 rw [if_neg j,if_neg j,if_neg o]
section
variable {O:Nat → Prop} {N R M:Nat} {g:Nat} {q:Int} {p:Pl} {m:Dm}
def crF (f:ByteArray→Option Nat) (x:ByteArray) (b:Nat) (y:ByteArray):Option Nat:=if y=x then some b else f y
def rnF (f:ByteArray→Option Nat) (x y z:ByteArray):Option Nat:=if z=y then f x else if z=x then none else f z
theorem BJ (w:World) (h:DS O N R M w g q p m) {k:Nat} (i:k<3) (hN:N+R≤1000000) {x:ByteArray} (hx:aJ x=true) (P:m.seen k x=none) :
  Calls prog 315 #[.pointer (some ⟨g,0,none⟩),.string (aU k),.string x] w fun e w'=>e= .returned (.int .i64 0)∧ ∃K fb,w.heap.size≤fb∧DS O (N+1) (R+1) M w' g q { p with pd:=upN p.pd k K } { m with seen:=upN m.seen k (crF (m.seen k) x fb),dat:=upN m.dat fb (⟨#[]⟩,0) }∧Kp O w w':=by
 obtain ⟨W,I⟩:∃W,w.alloc (.cells #[.string x] 9)=W:=⟨_,rfl⟩
 have r:Below w.heap.size w W:=by rw [←I];exact bal
 have G:W.cell? ⟨w.heap.size,0,none⟩=some (.string x):=by rw [←I];exact (ak.new w 9 [.string x]).range 0 _ rfl
 have aa:=bT hx
 have J:=ah (gF W (h.below r) i (some ⟨w.heap.size,0,none⟩) 1 1 (by have:=jG w.heap.size x W G (by omega);rwa [hx] at this))
 have t:=ah h
 have Z:=ah r
 have Y:=ah I
 have l:x.size≤maxLen:=by unfold maxLen;omega
 generalize S:aU k=dn at J ⊢
 clear h S I r G
 go_enter func315,ntmps315
 go_wp2_with fail
 rw [Y.out]
 refine J.out.mono ?_
 rintro e w1 ⟨rfl,F⟩
 have n:=bth Z F
 have s:=t.out.below n.out
 have H:=(s.seen k i).1.look underlying53 (eH w1) (x:=x) l
 rw [P] at H
 dsimp only [Option.map,Option.getD,aT] at H
 have c0:w1.cell? ⟨p.dir k,0,none⟩=some (.map (some (p.sn k))):=ak.range (s.dir k i) 0 _ rfl
 have C:=ah (BL x w1)
 have Q:=ah l
 have HS:=ah P
 have HX:=ah hx
 clear F J Z l P hx s Y
 go_wp2_with fail
 refine C.out.mono ?_
 rintro e U ⟨bp,bn,o,rfl,T,V,d,E,B⟩
 have A:=bth n B
 have a:w.heap.size≤o:=Nat.le_trans n.out.size E
 have HT:=ah (nC w U t.out A.out i (N':=N+1) (Nat.le_succ N) (by omega) (f:=crF (m.seen k) x o) (dt:=upN m.dat o (⟨#[]⟩,0)) 338 #[.pointer (some ⟨bp,0,none⟩),.pointer (some ⟨bn,0,none⟩)] (enters_of func338 (by kernel_rfl) rfl)
  ((zk (p.sn k) bp bn o (N+R) x (m.seen k) U ((t.out.below A.out).seen k i).1 T V Q.out hN).mono fun e w' h=>⟨h.1,(by
   obtain ⟨D,q1,q2⟩:=h.2.1
   exact ⟨D,q1.mono (by omega),q2⟩),h.2.2⟩) ((t.out.seen k i).2.put HX.out) (fun b hb=>aL (by omega))
  (fun y b hy=>by
   unfold crF at hy
   split at hy
   ·cases hy
    exact .inr ⟨a,by rw [aQ];exact d,by rw [aQ];exact Nat.zero_le _,by rw [aQ];exact Nat.zero_le _⟩
   exact .inl ⟨y,hy⟩)
  (fun y z b hy u=>by
   have j:∀ {v},m.seen k v≠some o:=fun h=>absurd (ak.lt (t.out.file k _ o i (.inl h)).1) (by omega)
   unfold crF at hy u
   split at hy
   ·cases hy
    split at u
    ·rename_i e1 e2;rw [e1,e2]
    exact absurd u j
   split at u
   ·cases u;exact absurd hy j
   exact (t.out.one k k y z b i i hy u).2))
 have L:=ah a
 clear T V d E B a C
 go_wp2_with fail
 refine HT.out.mono ?_
 rintro e w3 ⟨rfl,K,h3,X⟩
 have HE:=ah (And.intro h3 X)
 clear h3 X HT
 go_wp2_with fail
 go_ret
 exact ⟨rfl,K,o,L.out,HE.out⟩
theorem BD (w:World) (h:DS O N R M w g q p m) {k fb:Nat} (s:k<3) (hN:N+R≤1000000) {x y:ByteArray} (hx:aJ x=true) (hy:aJ y=true) (C:x≠y) (hs:m.seen k x=some fb) :
  Calls prog 317 #[.pointer (some ⟨g,0,none⟩),.string (aU k),.string x,.string y] w fun e w'=>e= .returned (.int .i64 0)∧ ∃pv,DS O N (R+1) M w' g q { p with pd:=upN p.pd k pv } { m with seen:=upN m.seen k (rnF (m.seen k) x y) }∧Kp O w w':=by
 obtain ⟨I,l⟩:∃W,w.alloc (.cells #[.string x] 9)=W:=⟨_,rfl⟩
 have d:Below w.heap.size w I:=by rw [←l];exact bal
 have L:I.heap.size=w.heap.size+1:=by rw [←l];simp
 obtain ⟨j,r⟩:∃W,I.alloc (.cells #[.string y] 9)=W:=⟨_,rfl⟩
 have A:Below I.heap.size I j:=by rw [←r];exact bal
 have P:j.heap.size=w.heap.size+1+1:=by rw [←r,←L];simp
 obtain ⟨X,v⟩:∃W,j.alloc (.cells #[.string x,.string y] 9)=W:=⟨_,rfl⟩
 have B:Below j.heap.size j X:=by rw [←v];exact bal
 have G:ak I w.heap.size 9 [.string x]:=by rw [←l];exact ak.new w 9 [.string x]
 have K:ak j (w.heap.size+1) 9 [.string y]:=by rw [←L,←r];exact ak.new I 9 [.string y]
 have T:ak X (w.heap.size+1+1) 9 [.string x,.string y]:=by rw [←P,←v];exact ak.new j 9 [.string x,.string y]
 have H:Below w.heap.size w X:=(d.trans (A.mono (by omega))).trans (B.mono (by omega))
 have HX:=ah ((G.below A).below B)
 have HY:=ah (K.below B)
 have a0:j.cell? ⟨w.heap.size,0,none⟩=some (.string x):=(G.below A).range 0 _ rfl
 have a1:j.cell? ⟨w.heap.size+1,0,none⟩=some (.string y):=K.range 0 _ rfl
 have HF:=ah (gF X (h.below H) s (some ⟨w.heap.size+1+1,0,none⟩) 2 2 (FZ (w.heap.size+1+1) x y X (T.range 0 _ rfl) (T.range 1 _ rfl) hx hy))
 have V:=ah h
 have HB:=ah H
 have HW:Hid ((w.alloc (.cells #[.string x] 9)).alloc (.cells #[.string y] 9)=j):=ah (by rw [l,r])
 have Y:=ah v
 have am:=bT hx
 have ai:=bT hy
 have J:Hid (x.size≤maxLen):=ah (by unfold maxLen;omega)
 have al:Hid (y.size≤maxLen):=ah (by unfold maxLen;omega)
 have aq:=ah hy
 have HS:=ah hs
 have Z:=ah C
 have hq:(x.toList==y.toList)=false:=by
  rw [beq_eq_false_iff_ne]
  intro e
  exact C (gU (by rw [←Lib.toList_data,←Lib.toList_data];exact e))
 obtain ⟨n1,D⟩:∃n,j.heap.size=n:=⟨_,rfl⟩
 have S:n1=w.heap.size+1+1:=by rw [←D,P]
 generalize ao:aU k=dn at HF ⊢
 have ab:=ah D
 rw [←S] at HF
 have ap:=ah S
 clear h ao l r v d A B L P G K T H hx hy am ai hs C D S
 go_enter func317,ntmps317
 go_upto_region 1 with fail
 rw [HW.out]
 go_wp2_with fail
 rw [ab.out,Y.out]
 refine HF.out.mono ?_
 rintro e w1 ⟨rfl,d⟩
 have E:=bth HB d
 have o:=V.out.below E.out
 have Q:=(o.seen k s).1.look underlying53 (eH w1) (x:=x) J.out
 rw [HS.out] at Q
 dsimp only [Option.map,Option.getD,aT] at Q
 have c0:w1.cell? ⟨p.dir k,0,none⟩=some (.map (some (p.sn k))):=ak.range (o.dir k s) 0 _ rfl
 have b0:w1.cell? ⟨w.heap.size,0,none⟩=some (.string x):=(HX.out.below d).range 0 _ rfl
 have b1:w1.cell? ⟨w.heap.size+1,0,none⟩=some (.string y):=(HY.out.below d).range 0 _ rfl
 have ae:=ak.lt (HX.out.below d)
 have ar:=ak.lt (o.dir k s)
 have an:=ah (HX.out.below d)
 have aa:=ah (HY.out.below d)
 have t:=ah (fun (w':World) (hb:Below w1.heap.size w1 w')=>((o.seen k s).1.on hb).look underlying53 (eH w') (x:=x) J.out)
 rw [HS.out] at t
 dsimp only [Option.map,Option.getD,aT] at t
 clear d HF HB o Q HX HY a0 a1 ab ap HW Y
 go_upto_region 4 with fail
 have LK:=fun x:BW w1.heap.size w1=>t.out x.out x.hb
 refine wbq ?_
 have af:=blq c0
 have ad:=blq b0
 repeat (go_big_quiet_step (fail))
 refine wpQuiet_nil ?_
 intro wq F
 clear af ad
 have ag:=au b0 F ae
 have ac:=au b1 F (Nat.lt_of_lt_of_le (ak.lt aa.out) (Nat.le_refl _))
 have U:=bth E F
 clear LK t b0 b1
 have HT:=ah (nC w wq V.out U.out s (N':=N) (Nat.le_refl N) (by omega) (f:=rnF (m.seen k) x y) (dt:=m.dat) 333 #[.pointer (some ⟨w.heap.size,0,none⟩),.pointer (some ⟨w.heap.size+1,0,none⟩)] (enters_of func333 (by kernel_rfl) rfl)
  ((yE (p.sn k) w.heap.size (w.heap.size+1) (N+R) fb x y (m.seen k) wq ((V.out.below U.out).seen k s).1 HS.out Z.out ag ac J.out al.out hN).mono fun e w' h=>⟨h.1,h.2.1,h.2.2⟩) ((V.out.seen k s).2.ren aq.out (by rw [HS.out];rfl) Z.out) (fun b hb=>rfl)
  (fun z b i=>by
   unfold rnF at i
   split at i
   ·exact .inl ⟨x,i⟩
   split at i
   ·cases i
   exact .inl ⟨z,i⟩)
  (fun u z b hu i=>by
   have h1:∀ {a c:ByteArray},m.seen k a=some b→m.seen k c=some b→a=c:=fun h1 h2=>(V.out.one k k _ _ b s s h1 h2).2
   unfold rnF at hu i
   split at hu
   ·split at i
    ·rename_i e1 e2;rw [e1,e2]
    split at i
    ·cases i
    rename_i e1 e2 e3;exact absurd (h1 i hu) e3
   split at hu
   ·cases hu
   split at i
   ·rename_i e1 e2 e3;exact absurd (h1 hu i) e2
   split at i
   ·cases i
   exact h1 hu i))
 clear an aa E
 go_wp2_with fail
 refine HT.out.mono ?_
 rintro e w3 ⟨rfl,pv,T,h4⟩
 have HE:=ah (And.intro T h4)
 clear T h4 HT
 go_wp2_with fail
 go_ret
 exact ⟨rfl,pv,HE.out⟩
end
theorem str_slice (w:World) (x:ByteArray):ak (w.alloc (.cells #[.string x] 9)) w.heap.size 9 [.string x]:=ak.new w 9 [.string x]
section
variable {O:Nat → Prop} {N R M:Nat} {g:Nat} {q:Int} {p:Pl} {m:Dm}
theorem H6 (w:World) (h:DS O N R M w g q p m) {k:Nat} (d:k<3) (B:N≤1000000) :
  Calls prog 107 #[.pointer (some ⟨g,0,none⟩),.string (aU k)] w fun e w'=>e= .returned (.int .i64 0)∧DS O N R M w' g q { p with pd:=upN p.pd k (.slice none 0 0) } { m with sett:=upN m.sett k (m.seen k) }∧Kp O w w':=by
 have o:=ah (gF w h d none 0 0 (wJ w))
 have C:=ah h
 generalize u:aU k=dn at o ⊢
 clear h u
 go_enter func107,ntmps107
 go_wp2_with fail
 refine o.out.mono ?_
 rintro e w1 ⟨rfl,f⟩
 have a:=ah (C.out.below f)
 have r:=ah f
 have i:=ah (l5 w1 a.out)
 clear f o
 go_wp2_with fail
 refine i.out.mono ?_
 rintro e D ⟨rfl,rfl⟩
 obtain ⟨F,z,y,A,v⟩:=(a.out.seen k d).2
 have t:N≤1000000:=B
 have HS:=ah (sI (p.dir k) (p.st k) (p.sn k) (N+R) (N+R) (m.sett k) (m.seen k) (p.pd k) F D (a.out.dir k d) (fun e=>a.out.mst k k d d e.symm) (ak.eB (a.out.dir k d) (a.out.sett k d).1) (ak.eB (a.out.dir k d) (a.out.seen k d).1) (a.out.sett k d).1 (a.out.seen k d).1 z (fun x hx=>by have:=bT (A x hx);unfold maxLen;omega) (fun x _=>v x) (by omega))
 have G:=ah y
 clear z y A v B t i
 go_wp2_with fail
 refine HS.out.mono ?_
 rintro e w3 ⟨rfl,n,_,⟨X,j,l⟩,s⟩
 have E:Hid (DS O N R M w3 g q { p with pd:=upN p.pd k (.slice none 0 0) } { m with sett:=upN m.sett k (m.seen k) }∧Kp O w w3):=ah ⟨a.out.settled d s ⟨X,j.mono (Nat.le_trans G.out (Nat.le_add_right N R)),l⟩ n,(Kp.of r.out).trans (s.mono fun b _ e=>by
  rcases e with rfl|rfl
  ·exact (a.out.off.2.2.1 k d).2.2
  exact (a.out.off.2.2.1 k d).1)⟩
 clear n j l s HS
 go_wp2_with fail
 go_ret
 exact ⟨rfl,E.out⟩
theorem Hz (w:World) (h:DS O N R M w g q p m) {k fb:Nat} (n:k<3) {x:ByteArray} (hx:aJ x=true) (r:m.seen k x=some fb) :
  Calls prog 72 #[.pointer (some ⟨g,0,none⟩),.string (aU k),.string x] w fun e w'=>e= .returned (.int .i64 0)∧DS O N R M w' g q p { m with dat:=upN m.dat fb ((m.dat fb).1,(m.dat fb).1.size) }∧Kp O w w':=by
 obtain ⟨W,u⟩:∃W,w.alloc (.cells #[.string x] 9)=W:=⟨_,rfl⟩
 have f:Below w.heap.size w W:=by rw [←u];exact bal
 have s:W.cell? ⟨w.heap.size,0,none⟩=some (.string x):=by rw [←u];exact (str_slice w x).range 0 _ rfl
 have G:=bT hx
 have v:=ah (gF W (h.below f) n (some ⟨w.heap.size,0,none⟩) 1 1 (by have:=jG w.heap.size x W s (by omega);rwa [hx] at this))
 have C:=ah (h.below f)
 have J:=ah f
 have H:=ah u
 generalize B:aU k=dn at v ⊢
 clear h B u f s
 go_enter func72,ntmps72
 go_wp2_with fail
 rw [H.out]
 refine v.out.mono ?_
 rintro e w1 ⟨rfl,l⟩
 have a:=ah (C.out.below l)
 have z:=bth J l
 have A:=ah (l5 w1 a.out)
 have t:=(a.out.seen k n).1.look underlying53 (eH w1) (x:=x) (by unfold maxLen;omega)
 rw [r] at t
 dsimp only [Option.map,Option.getD,aT] at t
 have L:w1.cell? ⟨p.dir k,0,none⟩=some (.map (some (p.sn k))):=ak.range (a.out.dir k n) 0 _ rfl
 have d:=(a.out.file k x fb n (.inl r)).1
 have cf:w1.cell? ⟨fb,0,none⟩=some (.string (m.dat fb).1):=ak.range d 0 _ rfl
 have y:=d.there 1 (by simp [fiC])
 have o:(w1.cell? ⟨fb,1,none⟩).isSome=true:=by have:=y.1;rwa [Nat.zero_add] at this
 have E:w1.frozen? ⟨fb,1,none⟩=false:=by have:=y.2;rwa [Nat.zero_add] at this
 obtain ⟨v1,I⟩:=Option.isSome_iff_exists.1 o
 have K:Hid (DS O N R M (w1.setCell ⟨fb,1,none⟩ (.int .i64 ((m.dat fb).1.size:Int))) g q p { m with dat:=upN m.dat fb ((m.dat fb).1,(m.dat fb).1.size) }∧Kp O w (w1.setCell ⟨fb,1,none⟩ (.int .i64 ((m.dat fb).1.size:Int)))):=ah (by
  have i:Chg (fun b=>b=fb) w1 (w1.setCell ⟨fb,1,none⟩ (.int .i64 ((m.dat fb).1.size:Int))):=⟨rfl,rfl,rfl,by simp [World.setCell],fun j _ F=>Below.heap_setCell _ _ _ _ F⟩
  have D:=a.out.file k x fb n (.inl r)
  exact ⟨a.out.data n r i (d.put 1 _) D.2.2.1 (Nat.le_refl _),(Kp.of z.out).trans (i.mono fun b _ e=>e▸D.2.1)⟩)
 clear l v y o d r hx C
 go_wp2_with fail
 refine A.out.mono ?_
 rintro e P ⟨rfl,rfl⟩
 go_wp2_with fail
 go_ret
 exact ⟨rfl,K.out⟩
end
theorem bgr {a b:World} (h:a.grownBy b none):Below a.heap.size a b:=⟨h.os,h.tape,h.output,h.size,fun k d=>h.block k d (by simp)⟩
theorem yg {α:Type} [DecidableEq α] (f:α→Nat) {x:α}:∀ {l:List α},l.Nodup→x∈l→((l.filter fun y=>decide (y≠x)).map f).sum+f x=(l.map f).sum
 | [],_,h=>by cases h
 | z::l,hn,h=>by
  rw [List.nodup_cons] at hn
  rw [List.filter_cons]
  by_cases e:z=x
  ·subst e
   rw [if_neg (by simp)]
   have:(l.filter fun y=>decide (y≠z))=l:=List.filter_eq_self.2 fun y hy=>decide_eq_true (fun e=>hn.1 (e▸hy))
   rw [this,List.map_cons,List.sum_cons];omega
  rw [if_pos (decide_eq_true e),List.map_cons,List.map_cons,List.sum_cons,List.sum_cons]
  have:=yg f hn.2 ((List.mem_cons.1 h).resolve_left fun h=>e h.symm)
  omega
theorem Cw {α:Type} (f:α→Nat) (M:Nat):∀ {l:List α},(∀x∈l,f x≤M)→(l.map f).sum≤l.length*M
 | [],_=>by simp
 | z::l,h=>by
  have h1:=h z (List.mem_cons_self ..)
  have a:=Cw f M (l:=l) fun x hx=>h x (List.mem_cons_of_mem _ hx)
  rw [List.map_cons,List.sum_cons,List.length_cons,Nat.succ_mul];omega
def wtN (m:Dm) (k:Nat) (x:ByteArray):Nat:=match m.seen k x with
 | some b=>(m.dat b).1.size
 | none=>0
def wtD (m:Dm) (a:Nat→List ByteArray) (x:ByteArray):Nat:=match aW x with
 | some k=>((a k).map (wtN m k)).sum
 | none=>0
def uP:List ByteArray:=[aU 0,aU 1,aU 2]
def vF (m:Dm) (a:Nat→List ByteArray):Nat:=(uP.map (wtD m a)).sum
section
variable {O:Nat → Prop} {N R M:Nat} {g:Nat} {q:Int} {p:Pl} {m:Dm}
def vv (N:Nat) (m:Dm) (a:Nat→List ByteArray):Prop:=∀k,k<3→(a k).Nodup∧(a k).length≤N∧(∀x∈a k,aJ x=true)∧ ∀x,(m.seen k x).isSome=true↔x∈a k
theorem DS.names {w:World} (h:DS O N R M w g q p m):∃a,vv N m a:=by
 obtain ⟨e,d⟩:=(h.seen 0 (by omega)).2
 obtain ⟨L1,h1⟩:=(h.seen 1 (by omega)).2
 obtain ⟨f,b⟩:=(h.seen 2 (by omega)).2
 refine ⟨fun k=>if k=0 then e else if k=1 then L1 else f,fun k i=> ?_⟩
 obtain rfl|rfl|rfl:k=0∨k=1∨k=2:=by omega
 ·exact d
 ·exact h1
 exact b
theorem IL {w:World} (h:DS O N R M w g q p m) {a:Nat→List ByteArray} (f:vv N m a):vF m a≤3*(N*M):=by
 have d:∀k,k<3→((a k).map (wtN m k)).sum≤N*M:=fun k d=>by
  have:=Cw (wtN m k) M (l:=a k) fun x _=>by
   unfold wtN
   cases e:m.seen k x with
   | none=>exact Nat.zero_le _
   | some b=>exact (h.file k x b d (.inl e)).2.2.1
  exact Nat.le_trans this (Nat.mul_le_mul_right _ (f k d).2.1)
 have hd:∀x∈uP,wtD m a x≤N*M:=fun x _=>by
  unfold wtD
  cases i:aW x with
  | none=>exact Nat.zero_le _
  | some k=>exact d k (bO i).1
 exact Cw (wtD m a) (N*M) hd
theorem H7 (x:ByteArray) (p:Pl):((aW x).map p.dir).isSome=true↔x∈uP:=by
 unfold uP
 cases a:aW x with
 | none =>
  simp only [Option.map_none,Option.isSome_none,List.mem_cons,List.not_mem_nil,or_false]
  constructor
  ·intro h;cases h
  rintro (rfl|rfl|rfl)<;>exact absurd a (by decide)
 | some k =>
  obtain ⟨h1,b⟩:=bO a
  obtain rfl|rfl|rfl:k=0∨k=1∨k=2:=by omega
  all_goals simp [b]
theorem D8 (w:World) (h:DS O N R M w g q p m) (b:Nat→List ByteArray) (hL:vv N m b) (hM:3*(N*M)≤1000000000) :
  Calls prog 332 #[.pointer (some ⟨g,0,none⟩)] w fun e w'=>e= .returned (.int .i64 (vF m b:Int))∧Below w.heap.size w w':=by
 have HH:=ah h
 have ba:=ah hL
 have HT:=ah (Nat.le_trans (IL h hL) hM)
 have c0:w.cell? ⟨g,0,none⟩=some (.map (some p.top)):=ak.range h.box 0 _ rfl
 obtain ⟨F,hF⟩:∃F:ByteArray→Option Nat,(fun x=>(aW x).map p.dir)=F:=⟨_,rfl⟩
 have L:Hid (aP aT w p.top 3 F):=ah (by rw [←hF];exact h.top)
 have ap:Hid (∀x,(F x).isSome=true↔x∈uP):=ah fun x=>by rw [←hF];exact H7 x p
 have a0:Hid (∀x c,F x=some c→ ∃k,k<3∧aW x=some k∧p.dir k=c):=ah fun x c d=>by
  rw [←hF] at d
  dsimp only at d
  cases hw:aW x with
  | none=>rw [hw] at d;cases d
  | some k=>rw [hw] at d;exact ⟨k,(bO hw).1,rfl,Option.some.inj d⟩
 clear h hL hM hF
 go_enter func332,ntmps332
 go_wp2_with (refine fq (enc:=aT) rfl _ 47 46 rfl underlying47 p.top 3 F uP rfl L.out (by decide) (by decide) (fun x _=>ap.out x) ?_)
 intro w2 u af be
 have a5:Hid (Below w.heap.size w w2):=ah (bgr af)
 obtain ⟨i,H⟩:∃i,w.heap.size=i:=⟨_,rfl⟩
 rw [H] at u
 have a8:=ah u
 rw [H]
 have a4:=ah H
 clear u af be H
 go_upto_region 5 with fail
 go_loopw [3,5,7] (fun n _ _ wr=> ∃(Lr:List ByteArray) (o:Nat),n= .int .i64 (o:Int)∧Hid (o+(Lr.map (wtD m b)).sum=vF m b)∧Hid (RangeT aT wr p.top i 3 F Lr)∧Hid (Below w.heap.size w wr)) (fun _ _ _ wr=>wr.rangeLeft p.top i)
 case atStart=>exact ⟨uP,0,rfl,by unfold Hid vF;omega,a8.out,a5.out⟩
 obtain ⟨wl,rfl⟩:∃wl:World,wl=wr:=⟨_,rfl⟩
 obtain ⟨Lr,o,rfl,HA,HR,HB⟩:=hrel
 have I:=HR.out
 go_wp2_with (refine gH (enc:=aT) rfl _ rfl p.top i 3 F Lr rfl I ?_ ?_)
 ·intro V
  subst V
  clear I
  have HE:Hid (o=vF m b):=ah (by simpa using HA.out)
  clear HA HR
  go_wp2_with fail
  go_ret
  exact ⟨by rw [←HE.out];rfl,HB.out⟩
 intro x c w3 ad ar d P S ae bb ag
 obtain ⟨k,hk,al,rfl⟩:=a0.out x c d
 have Y:Below w.heap.size w w3:=HB.out.grown ae HB.out.size (fun j hj=>by have h1:=a4.out;have:=Option.some.inj hj;omega)
 have U:=HH.out.below Y
 have c1:w3.cell? ⟨p.dir k,0,none⟩=some (.map (some (p.sn k))):=ak.range (U.dir k hk) 0 _ rfl
 obtain ⟨l1,l2,l3,l4⟩:=ba.out k hk
 have bj:aT (p.dir k)= .pointer (some ⟨p.dir k,0,none⟩):=rfl
 have W:=ah Y
 have f:=ah P
 have Q:=ah S
 have HW:Hid (wtD m b x=((b k).map (wtN m k)).sum):=ah (by unfold wtD;rw [al])
 have HS:Hid (o+((Lr.filter fun y=>decide (y≠x)).map (wtD m b)).sum+((b k).map (wtN m k)).sum=vF m b):=ah (by
  have h1:=yg (wtD m b) I.nodup ad
  have h2:=HA.out
  have h3:=HW.out
  omega)
 have ai:=ah (U.seen k hk).1
 clear ad d P S ae bb Y U al I HA
 go_wp2_with (refine fq (enc:=aT) rfl _ 53 50 rfl underlying53 (p.sn k) (N+R) (m.seen k) (b k) rfl ai.out l1 (fun y hy=>by have:=bT (l3 y hy);unfold maxLen;omega) (fun y _=>l4 y) ?_)
 intro w4 v A a7
 obtain ⟨D,T⟩:∃D,w3.heap.size=D:=⟨_,rfl⟩
 rw [T] at v
 rw [T]
 have X:Hid (i<D∧w.heap.size≤D):=ah (by have h1:=f.out.lt;have h2:=W.out.size;omega)
 have a9:=ah v
 have ac:Hid (RangeT aT w4 p.top i 3 F (Lr.filter fun y=>decide (y≠x))):=ah (by have:=f.out.grown A (by simp) (by simp);simpa only [ne_eq,decide_not] using this)
 have a3:Hid (w4.rangeLeft p.top i<wl.rangeLeft p.top i):=ah (by rw [d9 (A.block _ f.out.map.lt (by simp)) (A.block _ f.out.lt (by simp))];exact Q.out)
 have bc:Hid (Below w.heap.size w w4):=ah (W.out.trans ((bgr A).mono W.out.size))
 have bi:Hid (∀y,y∈b k→aJ y=true):=ah l3
 clear v A a7 T f Q ai c1 ag ar l1 l2 l3 l4
 generalize C:(Lr.filter fun y=>decide (y≠x))=s at HS ac
 have bh:=ah C
 clear C
 go_upto_region 8 with fail
 go_loopw [3,7] (fun n _ wr=> ∃(Ls:List ByteArray) (a:Nat),n= .int .i64 (a:Int)∧Hid (a+(s.map (wtD m b)).sum+(Ls.map (wtN m k)).sum=vF m b)∧Hid (RangeT aT wr (p.sn k) D (N+R) (m.seen k) Ls)∧Hid (RangeT aT wr p.top i 3 F s)∧Hid (wr.rangeLeft p.top i<wl.rangeLeft p.top i)∧Hid (Below w.heap.size w wr)) (fun _ _ wr=>wr.rangeLeft (p.sn k) D)
 case atStart=>exact ⟨b k,o,rfl,HS.out,a9.out,ac.out,a3.out,bc.out⟩
 obtain ⟨wi,rfl⟩:∃wi:World,wi=wr:=⟨_,rfl⟩
 obtain ⟨Ls,a,rfl,G,HI,HO,HL,E⟩:=hrel
 have l:=HI.out
 go_wp2_with (refine gH (enc:=aT) rfl _ rfl (p.sn k) D (N+R) (m.seen k) Ls rfl l ?_ ?_)
 ·intro V
  subst V
  clear l
  have HE:Hid (a+(s.map (wtD m b)).sum=vF m b):=ah (by simpa using G.out)
  clear G HI
  go_wp2_with fail
  go_roundw
  case rel=>exact ⟨s,a,rfl,HE.out,HO.out,E.out⟩
  case measure=>exact HL.out
 intro y fb w5 ao aw ab J K B aq a6
 have t:some i≠some D:=fun e=>by have h1:=X.out.1;have:=Option.some.inj e;omega
 have r:some p.top≠some D:=fun e=>by have h1:=X.out.2;have h2:=L.out.lt;have:=Option.some.inj e;omega
 have aa:Below w.heap.size w w5:=E.out.grown B E.out.size (fun j hj=>by have h1:=X.out.2;have:=Option.some.inj hj;omega)
 have ax:=ah (HO.out.grown B r t)
 have bd:Hid (w5.rangeLeft p.top i<wl.rangeLeft p.top i):=ah (by rw [d9 (B.block _ HO.out.map.lt r) (B.block _ HO.out.lt t)];exact HL.out)
 have am:=((HH.out.below aa).file k y fb hk (.inl ab)).1
 have cf:w5.cell? ⟨fb,0,none⟩=some (.string (m.dat fb).1):=ak.range am 0 _ rfl
 have bf:aT fb= .pointer (some ⟨fb,0,none⟩):=rfl
 have Z:Hid (a+(m.dat fb).1.size+(s.map (wtD m b)).sum+((Ls.filter fun z=>decide (z≠y)).map (wtN m k)).sum=vF m b):=ah (by
  have h1:=yg (wtN m k) l.nodup ao
  have h2:=G.out
  have h3:wtN m k y=(m.dat fb).1.size:=by unfold wtN;rw [ab]
  omega)
 have a2:a+(m.dat fb).1.size≤1000000000:=by have h1:=Z.out;have h2:=HT.out;omega
 have az:Hid (RangeT aT w5 (p.sn k) D (N+R) (m.seen k) (Ls.filter fun z=>decide (z≠y))):=ah (by simpa only [ne_eq,decide_not] using J)
 have an:=ah K
 have aE:=ah aa
 have a1:IntKind.i64.wrap ((a:Int)+((m.dat fb).1.size:Int))=(a:Int)+((m.dat fb).1.size:Int):=IntWalk.i64_in _ (by omega)
 clear t r aa am l ao ab J K B aq aw HI G HL HO E
 generalize (m.dat fb).1=sb at cf Z a2 a1
 go_wp2_with fail
 go_roundw
 case rel=>exact ⟨_,a+sb.size,by simp,Z.out,az.out,ax.out,bd.out,aE.out⟩
 case measure=>exact an.out
theorem BK (w:World) (h:DS O N R M w g q p m) {k fb:Nat} (o:k<3) {x:ByteArray} (hx:aJ x=true) (z:m.seen k x=some fb) (s:ByteArray) (hM:(m.dat fb).1.size+s.size≤M) (ad:M≤1048576) (hq:3*(N*M)+s.size≤q) (ag:q≤1000000000) :
  Calls prog 316 #[.pointer (some ⟨g,0,none⟩),.string (aU k),.string x,.string s] w fun e w'=>e= .returned (.int .i64 0)∧DS O N R M w' g q p { m with dat:=upN m.dat fb ((m.dat fb).1++s,(m.dat fb).2) }∧Kp O w w':=by
 obtain ⟨W,y⟩:∃W,w.alloc (.cells #[.string x] 9)=W:=⟨_,rfl⟩
 have d:Below w.heap.size w W:=by rw [←y];exact bal
 have G:W.cell? ⟨w.heap.size,0,none⟩=some (.string x):=by rw [←y];exact (str_slice w x).range 0 _ rfl
 have ab:=bT hx
 have I:=ah (gF W (h.below d) o (some ⟨w.heap.size,0,none⟩) 1 1 (by have:=jG w.heap.size x W G (by omega);rwa [hx] at this))
 have HH:=ah (h.below d)
 have HB:=ah d
 have HW:=ah y
 obtain ⟨Lf,t⟩:=h.names
 obtain ⟨i,f⟩:∃n,vF m Lf=n:=⟨_,rfl⟩
 have S:=IL h t
 rw [f] at S
 have B:Hid (∀W,DS O N R M W g q p m→Calls prog 332 #[.pointer (some ⟨g,0,none⟩)] W fun e w'=>e= .returned (.int .i64 (i:Int))∧Below W.heap.size W w'):=ah fun W y=>by rw [←f];exact D8 W y Lf t (by omega)
 generalize X:aU k=dn at I ⊢
 clear h X y d G t f
 go_enter func316,ntmps316
 go_wp2_with fail
 rw [HW.out]
 refine I.out.mono ?_
 rintro e w1 ⟨rfl,u⟩
 have a:=ah (HH.out.below u)
 have K:=bth HB u
 have v:=(a.out.seen k o).1.look underlying53 (eH w1) (x:=x) (by unfold maxLen;omega)
 rw [z] at v
 dsimp only [Option.map,Option.getD,aT] at v
 have c0:w1.cell? ⟨p.dir k,0,none⟩=some (.map (some (p.sn k))):=ak.range (a.out.dir k o) 0 _ rfl
 have cq:w1.cell? ⟨g,1,none⟩=some (.int .i64 q):=ak.range a.out.box 1 _ rfl
 have af:=ak.lt a.out.box
 have r:=(a.out.file k x fb o (.inl z)).1
 have aa:=ak.lt r
 have cf:w1.cell? ⟨fb,0,none⟩=some (.string (m.dat fb).1):=ak.range r 0 _ rfl
 have V:=(a.out.file k x fb o (.inl z)).2.2.2
 have U:Hid (∀W,Below w1.heap.size w1 W→W.cell? ⟨fb,0,none⟩=some (.string (m.dat fb).1)∧W.frozen? ⟨fb,0,none⟩=false∧DS O N R M (W.setCell ⟨fb,0,none⟩ (.string ((m.dat fb).1++s))) g q p { m with dat:=upN m.dat fb ((m.dat fb).1++s,(m.dat fb).2) }∧Kp O w (W.setCell ⟨fb,0,none⟩ (.string ((m.dat fb).1++s)))):=ah fun W d=>by
  have l:Chg (fun b=>b=fb) W (W.setCell ⟨fb,0,none⟩ (.string ((m.dat fb).1++s))):=⟨rfl,rfl,rfl,by simp [World.setCell],fun j _ hj=>Below.heap_setCell _ _ _ _ hj⟩
  have H:=(a.out.below d).file k x fb o (.inl z)
  have Q:=H.1.there 0 (by simp [fiC])
  refine ⟨ak.range H.1 0 _ rfl,by have:=Q.2;rwa [Nat.zero_add] at this,(a.out.below d).data o z l (H.1.put 0 _) ?_ ?_,(Kp.of (bth K d).out).trans (l.mono fun b _ e=>e▸H.2.1)⟩
  ·show ((m.dat fb).1++s).size≤M
   rw [ByteArray.size_append];exact hM
  show (m.dat fb).2≤((m.dat fb).1++s).size
  rw [ByteArray.size_append];omega
 have C:=ah (fun W (hb:Below w1.heap.size w1 W)=>l5 W (a.out.below hb))
 have E:=ah (fun W (hb:Below w1.heap.size w1 W)=>B.out W (a.out.below hb))
 clear u I r z hx HH V B
 generalize F:(m.dat fb).1=Z at cf U hM
 have P:=ah F
 clear F
 have q1:IntKind.i64.wrap (1048576-(Z.size:Int))=1048576-(Z.size:Int):=IntWalk.i64_in _ (by omega)
 have q2:decide (1048576-(Z.size:Int)<(s.size:Int))=false:=decide_eq_false (by omega)
 have q3:decide (q<(i:Int))=false:=decide_eq_false (by omega)
 have q4:IntKind.i64.wrap (q-(i:Int))=q-(i:Int):=IntWalk.i64_in _ (by omega)
 have q5:decide (q-(i:Int)<(s.size:Int))=false:=decide_eq_false (by omega)
 go_upto_region 7 with fail
 have D:=fun x:BW w1.heap.size w1=>E.out x.out x.hb
 refine wbq ?_
 have L:=blq cq
 have J:=blq cf
 repeat (go_big_quiet_step ((go_at_call 332;with_reducible exact aF (D _))))
 refine wpQuiet_nil ?_
 intro wq A
 clear L J
 clear D q2 q3 q5
 obtain ⟨ae,ac,HD⟩:=U.out wq A
 have Y:=ah HD
 have T:=ah (C.out wq A)
 clear HD U C E cf cq v c0 q1 q4
 go_wp2_with fail
 refine T.out.mono ?_
 rintro e w2 ⟨rfl,rfl⟩
 go_wp2_with fail
 go_ret
 rw [P.out]
 exact ⟨rfl,Y.out⟩
end
def nH (O:Nat→Prop) (N R M:Nat) (g:Nat) (q:Int) (L:LK) (sy:Nat→Bool) (w:World) (e:Ending) (w':World):Prop:=e= .returned (.int .i64 0)∧DV O N R M w' g q L sy∧Kp O w w'
section
variable {O:Nat → Prop} {N R M:Nat} {w:World} {g:Nat} {q:Int} {L:LK} {sy:Nat → Bool} {k:Nat} {x:ByteArray}
theorem lS {m:Dm} {v:ByteArray×Nat} (h:(m.seen k x).map m.dat=some v):∃b,m.seen k x=some b∧m.dat b=v:=by
 cases a:m.seen k x with
 | none=>rw [a] at h;cases h
 | some b=>rw [a] at h;exact ⟨b,rfl,Option.some.inj h⟩
theorem zO (h:DV O N R M w g q L sy) (n:k<3) (s:N+R≤1000000) (hx:aJ x=true) (r:L k x=none) :
  Calls prog 315 #[.pointer (some ⟨g,0,none⟩),.string (aU k),.string x] w (nH O (N+1) (R+1) M g q (L.put k x (some (⟨#[]⟩,0))) (upN sy k false) w):=by
 obtain ⟨p,m,h1,o,z⟩:=h
 have l:m.seen k x=none:=by
  have:=o k x n
  rw [r] at this
  cases i:m.seen k x with
  | none=>rfl
  | some b=>rw [i] at this;cases this
 refine (BJ w h1 n s hx l).mono ?_
 rintro e w' ⟨rfl,A,fb,t,u,v⟩
 refine ⟨rfl,⟨_,_,u,fun j y f=> ?_,fun j f hy=> ?_⟩,v⟩
 ·show LK.put L k x _ j y=(upN m.seen k (crF (m.seen k) x fb) j y).map (upN m.dat fb (⟨#[]⟩,0))
  have d:(m.seen j y).map (upN m.dat fb (⟨#[]⟩,0))=L j y:=by
   rw [o j y f]
   cases i:m.seen j y with
   | none=>rfl
   | some b=>exact congrArg some (aL (by have:=ak.lt (h1.file j y b f (.inl i)).1;omega))
  by_cases a:j=k
  ·subst a
   rw [aQ]
   unfold crF
   by_cases b:y=x
   ·subst b;rw [LK.bG,if_pos rfl];exact congrArg some (aQ ..).symm
   rw [LK.aV (fun h=>b h.2),if_neg b,d]
  rw [aL a,LK.aV (fun h=>a h.1),d]
 show m.sett j=upN m.seen k (crF (m.seen k) x fb) j
 by_cases a:j=k
 ·rw [a,aQ] at hy;cases hy
 rw [aL a] at hy ⊢;exact z j f hy
theorem Fa {p:Pl} {m:Dm} {b:Nat} {v:ByteArray×Nat} (h1:DS O N R M w g q p m) (h:∀j y,j<3→L j y=(m.seen j y).map m.dat) (i:k<3) (hb:m.seen k x=some b) (j:Nat) (y:ByteArray) (d:j<3):LK.put L k x (some v) j y=(m.seen j y).map (upN m.dat b v):=by
 by_cases a:j=k∧y=x
 ·obtain ⟨rfl,rfl⟩:=a
  rw [LK.bG,hb]
  exact congrArg some (aQ ..).symm
 rw [LK.aV a,h j y d]
 cases f:m.seen j y with
 | none=>rfl
 | some c=>exact congrArg some (aL (fun e=>a (by subst e;exact h1.one j k y x _ d i f hb))).symm
theorem zP {d:ByteArray×Nat} (h:DV O N R M w g q L sy) (f:k<3) (hx:aJ x=true) (n:L k x=some d) (s:ByteArray) (z:d.1.size+s.size≤M) (a:M≤1048576) (r:3*(N*M)+s.size≤q) (i:q≤1000000000) :
  Calls prog 316 #[.pointer (some ⟨g,0,none⟩),.string (aU k),.string x,.string s] w (nH O N R M g q (L.put k x (some (d.1++s,d.2))) sy w):=by
 obtain ⟨p,m,h1,l,u⟩:=h
 obtain ⟨b,hb,rfl⟩:=lS ((l k x f).symm.trans n)
 refine (BK w h1 f hx hb s z a r i).mono ?_
 rintro e w' ⟨rfl,t,v⟩
 exact ⟨rfl,⟨_,_,t,fun j y o=>Fa h1 l f hb j y o,u⟩,v⟩
theorem vZ {d:ByteArray×Nat} (h:DV O N R M w g q L sy) (a:k<3) (hx:aJ x=true) (i:L k x=some d) :
  Calls prog 72 #[.pointer (some ⟨g,0,none⟩),.string (aU k),.string x] w (nH O N R M g q (L.put k x (some (d.1,d.1.size))) sy w):=by
 obtain ⟨p,m,h1,f,o⟩:=h
 obtain ⟨b,hb,rfl⟩:=lS ((f k x a).symm.trans i)
 refine (Hz w h1 a hx hb).mono ?_
 rintro e w' ⟨rfl,l,r⟩
 exact ⟨rfl,⟨_,_,l,fun j y n=>Fa h1 f a hb j y n,o⟩,r⟩
theorem zN {y:ByteArray} {d:ByteArray×Nat} (h:DV O N R M w g q L sy) (s:k<3) (u:N+R≤1000000) (hx:aJ x=true) (hy:aJ y=true) (f:x≠y) (t:L k x=some d) :
  Calls prog 317 #[.pointer (some ⟨g,0,none⟩),.string (aU k),.string x,.string y] w (nH O N (R+1) M g q ((L.put k y (some d)).put k x none) (upN sy k false) w):=by
 obtain ⟨p,m,h1,n,A⟩:=h
 obtain ⟨b,hb,rfl⟩:=lS ((n k x s).symm.trans t)
 refine (BD w h1 s u hx hy f hb).mono ?_
 rintro e w' ⟨rfl,C,v,B⟩
 refine ⟨rfl,⟨_,_,v,fun j z i=> ?_,fun j i l=> ?_⟩,B⟩
 ·show LK.put _ k x none j z=(upN m.seen k (rnF (m.seen k) x y) j z).map m.dat
  by_cases a:j=k
  ·subst a
   rw [aQ]
   unfold rnF
   by_cases o:z=x
   ·subst o
    rw [LK.bG,if_neg f,if_pos rfl];rfl
   rw [LK.aV (fun h=>o h.2)]
   by_cases r:z=y
   ·subst r;rw [LK.bG,if_pos rfl,hb];rfl
   rw [LK.aV (fun h=>r h.2),if_neg r,if_neg o,n j z i]
  rw [aL a,LK.aV (fun h=>a h.1),LK.aV (fun h=>a h.1),n j z i]
 show m.sett j=upN m.seen k (rnF (m.seen k) x y) j
 by_cases a:j=k
 ·rw [a,aQ] at l;cases l
 rw [aL a] at l ⊢;exact A j i l
theorem lN (h:DV O N R M w g q L sy) (f:k<3) (d:N≤1000000):Calls prog 107 #[.pointer (some ⟨g,0,none⟩),.string (aU k)] w (nH O N R M g q L (upN sy k true) w):=by
 obtain ⟨p,m,h1,i,o⟩:=h
 refine (H6 w h1 f d).mono ?_
 rintro e w' ⟨rfl,n,r⟩
 refine ⟨rfl,⟨_,_,n,i,fun j l b=> ?_⟩,r⟩
 show upN m.sett k (m.seen k) j=m.seen j
 by_cases a:j=k
 ·rw [a,aQ]
 rw [aL a] at b ⊢;exact o j l b
end
def bg (x:ByteArray):ByteArray:=x++⟨#[46,116,109,112]⟩
def Mf (v:Option (ByteArray×Nat)) (w:World) (e:Ending) (w':World):Prop:=e= .returned (.tuple #[.string (v.elim ⟨#[]⟩ (·.1)),.int .i64 (v.elim 6 fun _=>0)])∧Below w.heap.size w w'
theorem sG {nm:ByteArray} (h:aJ (bg nm)=true):nm.size≤76:=by
 have:=bT h
 unfold bg at this
 rw [ByteArray.size_append] at this
 have e:(⟨#[46,116,109,112]⟩:ByteArray).size=4:=rfl
 omega
def tkC (k:Nat) (nm data:ByteArray) (lt:Bool) (nx:Nat) (made a:Bool):List Value:=[.string (aU k),.string nm,.string data,.bool lt,.int .i64 (nx:Int),.bool made,.bool a]
def TkB (w:World) (tb k:Nat) (nm data:ByteArray) (lt:Bool) (nx:Nat) (made a:Bool):Prop:=ak w tb 278 (tkC k nm data lt nx made a)
structure zA (O O1:Nat → Prop) (tb:Nat):Prop where
 own:O1 tb
 sub:∀ b,O b → O1 b
 off:¬ O tb
section
variable {O O1:Nat → Prop} {N R M:Nat} {w:World} {g tb:Nat} {q:Int} {L:LK} {sy:Nat → Bool} {k:Nat} {nm data:ByteArray} {lt made:Bool} {nx:Nat}
theorem dQ {x:ByteArray} (h:DV O N R M w g q L sy) (a:k<3) (b:N+R≤1000000) (hx:aJ x=true):Calls prog 51 #[.pointer (some ⟨g,0,none⟩),.string (aU k),.string x] w (Mf (L k x) w):=by
 obtain ⟨d,h1,f⟩:=h.at b
 refine (qJ g d (aU k) x w h1 (by have:=BH (k:=k);unfold aU;split<;>(try split)<;>decide) (by have:=bT hx;omega)).mono ?_
 rintro e w' ⟨rfl,hb⟩
 refine ⟨?_,hb⟩
 unfold rdD
 rw [hx,if_pos rfl,eO a]
 dsimp only
 rw [f k x a]
 unfold LK.dk
 cases L k x<;>rfl
def qQ (O O1:Nat→Prop) (N R M:Nat) (g:Nat) (q:Int) (L:LK) (sy:Nat→Bool) (tb k:Nat) (nm data:ByteArray) (lt:Bool) (nx:Nat) (made a:Bool) (w:World) (e:Ending) (w':World):Prop :=
 e= .returned (.tuple #[.bool a,.int .i64 0])∧DV O1 N R M w' g q L sy∧TkB w' tb k nm data lt nx made false∧Kp O w w'
theorem tJ (h:DV O1 N R M w g q L sy) (s:k<3) (p:N+R≤1000000) (d:TkB w tb k nm data lt nx made false) (hx:aJ (bg nm)=true) (m:L k (bg nm)=none) :
  Calls prog 283 #[.pointer (some ⟨tb,0,none⟩),.pointer (some ⟨g,0,none⟩)] w (qQ O O1 N R M g q L sy tb k nm data lt nx made false w):=by
 have o:=ah d
 have t:=ah h
 have a:Hid (∀W,Below w.heap.size w W→Calls prog 51 #[.pointer (some ⟨g,0,none⟩),.string (aU k),.string (bg nm)] W fun e w'=>e= .returned (.tuple #[.string ⟨#[]⟩,.int .i64 6])∧Below W.heap.size W w'):=ah fun W hb=>by
  have:=dQ (h.below hb) s p hx
  rw [m] at this
  exact this
 have n:w.cell? ⟨tb,0,none⟩=some (.string (aU k)):=ak.range d 0 _ rfl
 have c1:w.cell? ⟨tb,1,none⟩=some (.string nm):=ak.range d 1 _ rfl
 have r:=ak.lt d
 have u:=sG hx
 unfold bg at a
 generalize j:aU k=dn at a n
 clear h d m hx j
 go_enter func283,ntmps283
 go_upto_region 1 with fail
 have f:=fun x:BW w.heap.size w=>a.out x.out x.hb
 refine wbq ?_
 have l:=blq n
 have i:=blq c1
 repeat (go_big_quiet_step ((go_at_call 51;with_reducible exact aF (f _))))
 refine wpQuiet_nil ?_
 intro v b
 clear l i
 go_wp2_with fail
 go_ret2
 exact ⟨rfl,t.out.below b,o.out.below b,Kp.of b⟩
theorem nR {O O1:Nat→Prop} {w w':World} {tb:Nat} {t:TypeId} {cs:List Value} (hb:ak w tb t cs) (b:Kp O1 w w') (a:zA O O1 tb):ak w' tb t cs:=(b.block hb.lt a.own).trans hb
theorem tY {O O1:Nat→Prop} {w w':World} {tb:Nat} (d:Kp O1 w w') (a:zA O O1 tb):Kp O w w':=d.sub fun b _ h=>a.sub b h
theorem lD {O O1:Nat→Prop} {w:World} {tb:Nat} (a:zA O O1 tb) (i:Nat) (v:Value):Kp O w (w.setCell ⟨tb,i,none⟩ v):=⟨rfl,rfl,rfl,by simp [World.setCell],fun j _ b=>Below.heap_setCell _ _ _ _ (fun e=>b (fun h=>a.off ((show j=tb from e)▸h)))⟩
theorem gQ {w:World} {b i:Nat} {v:Value}:Chg (fun j=>j=b) w (w.setCell ⟨b,i,none⟩ v):=⟨rfl,rfl,rfl,by simp [World.setCell],fun j _ a=>Below.heap_setCell _ _ _ _ a⟩
theorem qB (h:DV O1 N R M w g q L sy) (C:k<3) (I:N+R≤1000000) (l:TkB w tb k nm data lt nx made false) (v:zA O O1 tb) (hx:aJ (bg nm)=true) (z:L k (bg nm)=none) :
  Calls prog 284 #[.pointer (some ⟨tb,0,none⟩),.pointer (some ⟨g,0,none⟩)] w (qQ O O1 (N+1) (R+1) M g q (L.put k (bg nm) (some (⟨#[]⟩,0))) (upN sy k false) tb k nm data lt nx true true w):=by
 have A:=ah l
 have n:=ah v
 have o:Hid (∀W,Below w.heap.size w W→Calls prog 315 #[.pointer (some ⟨g,0,none⟩),.string (aU k),.string (bg nm)] W (nH O1 (N+1) (R+1) M g q (L.put k (bg nm) (some (⟨#[]⟩,0))) (upN sy k false) W)):=ah fun W hb=>zO (h.below hb) C I hx z
 have s:w.cell? ⟨tb,0,none⟩=some (.string (aU k)):=ak.range l 0 _ rfl
 have c1:w.cell? ⟨tb,1,none⟩=some (.string nm):=ak.range l 1 _ rfl
 have F:=ak.lt l
 have D:=sG hx
 obtain ⟨p,i⟩:∃p,bg nm=p:=⟨_,rfl⟩
 rw [i] at o ⊢
 have y:nm++⟨#[46,116,109,112]⟩=p:=i
 generalize u:aU k=dn at o s
 clear h l z hx u v i
 go_enter func284,ntmps284
 go_upto_region 1 with fail
 refine aX 10 (by kernel_rfl) (by kernel_rfl) ?_
 simp only [List.take_succ_cons,List.take_zero,List.drop_succ_cons,List.drop_zero]
 have t:=blq s
 have r:=blq c1
 repeat (go_big_quiet_step (fail))
 refine wpQuiet_nil ?_
 intro E f
 clear t r
 clear s c1
 go_wp2_with fail
 refine (o.out E f).mono ?_
 rintro e w1 ⟨rfl,x,d⟩
 have j:=nR (A.out.below f) d n.out
 have a:=j.there 5 (by simp [tkC])
 rw [Nat.zero_add] at a
 have m:=a.1
 have H:=a.2
 obtain ⟨J,B⟩:=Option.isSome_iff_exists.1 m
 have G:Hid (DV O1 (N+1) (R+1) M (w1.setCell ⟨tb,5,none⟩ (.bool true)) g q (L.put k p (some (⟨#[]⟩,0))) (upN sy k false)∧TkB (w1.setCell ⟨tb,5,none⟩ (.bool true)) tb k nm data lt nx true false∧Kp O w (w1.setCell ⟨tb,5,none⟩ (.bool true))) :=
  ah ⟨x.chg gQ (fun b e=>e▸n.out.own),j.put 5 _,((Kp.of f).trans (tY d n.out)).trans (lD n.out 5 _)⟩
 clear x d j a m A o
 go_wp2_with fail
 go_ret2
 exact ⟨rfl,G.out⟩
theorem qC {d:ByteArray×Nat} (h:DV O1 N R M w g q L sy) (D:k<3) (i:TkB w tb k nm data lt nx made false) (x:zA O O1 tb) (hx:aJ (bg nm)=true) (B:L k (bg nm)=some d) (A:d.1.size+data.size≤M) (j:M≤1048576) (v:3*(N*M)+data.size≤q) (l:q≤1000000000) :
  Calls prog 285 #[.pointer (some ⟨tb,0,none⟩),.pointer (some ⟨g,0,none⟩)] w (qQ O O1 N R M g q (L.put k (bg nm) (some (d.1++data,d.2))) sy tb k nm data lt nx made true w):=by
 have C:=ah i
 have u:=ah x
 have m:Hid (∀W,Below w.heap.size w W→Calls prog 316 #[.pointer (some ⟨g,0,none⟩),.string (aU k),.string (bg nm),.string data] W (nH O1 N R M g q (L.put k (bg nm) (some (d.1++data,d.2))) sy W)):=ah fun W hb=>zP (h.below hb) D hx B data A j v l
 have o:w.cell? ⟨tb,0,none⟩=some (.string (aU k)):=ak.range i 0 _ rfl
 have c1:w.cell? ⟨tb,1,none⟩=some (.string nm):=ak.range i 1 _ rfl
 have c2:w.cell? ⟨tb,2,none⟩=some (.string data):=ak.range i 2 _ rfl
 have G:=ak.lt i
 have E:=sG hx
 obtain ⟨s,f⟩:∃s,bg nm=s:=⟨_,rfl⟩
 rw [f] at m ⊢
 have z:nm++⟨#[46,116,109,112]⟩=s:=f
 generalize t:aU k=dn at m o
 clear h i B hx t x f A j v l
 go_enter func285,ntmps285
 go_upto_region 1 with fail
 refine aX 14 (by kernel_rfl) (by kernel_rfl) ?_
 simp only [List.take_succ_cons,List.take_zero,List.drop_succ_cons,List.drop_zero]
 have p:=blq o
 have n:=blq c1
 have r:=blq c2
 repeat (go_big_quiet_step (fail))
 refine wpQuiet_nil ?_
 intro F b
 clear p n r
 clear o c1 c2
 go_wp2_with fail
 refine (m.out F b).mono ?_
 rintro e w1 ⟨rfl,y,a⟩
 have H:=ah (And.intro y (And.intro (nR (C.out.below b) a u.out) ((Kp.of (O:=O) b).trans (tY a u.out))))
 clear y a C m
 go_wp2_with fail
 go_ret2
 exact ⟨rfl,H.out⟩
theorem CX (h:DV O1 N R M w g q L sy) (a:TkB w tb k nm data true nx made false) :
  Calls prog 286 #[.pointer (some ⟨tb,0,none⟩),.pointer (some ⟨g,0,none⟩)] w (qQ O O1 N R M g q L sy tb k nm data true nx made false w):=by
 have b:Hid (DV O1 N R M w g q L sy∧TkB w tb k nm data true nx made false∧Kp O w w):=ah ⟨h,a,Kp.refl _ _⟩
 have c3:w.cell? ⟨tb,3,none⟩=some (.bool true):=ak.range a 3 _ rfl
 clear h a
 go_enter func286,ntmps286
 go_wp2_with fail
 go_ret2
 exact ⟨rfl,b.out⟩
theorem Gi {d:ByteArray×Nat} (h:DV O1 N R M w g q L sy) (y:k<3) (i:TkB w tb k nm data false nx made false) (s:zA O O1 tb) (hx:aJ (bg nm)=true) (v:L k (bg nm)=some d) :
  Calls prog 286 #[.pointer (some ⟨tb,0,none⟩),.pointer (some ⟨g,0,none⟩)] w (qQ O O1 N R M g q (L.put k (bg nm) (some (d.1,d.1.size))) sy tb k nm data false nx made true w):=by
 have x:=ah i
 have r:=ah s
 have j:Hid (∀W,Below w.heap.size w W→Calls prog 72 #[.pointer (some ⟨g,0,none⟩),.string (aU k),.string (bg nm)] W (nH O1 N R M g q (L.put k (bg nm) (some (d.1,d.1.size))) sy W)):=ah fun W hb=>vZ (h.below hb) y hx v
 have m:w.cell? ⟨tb,0,none⟩=some (.string (aU k)):=ak.range i 0 _ rfl
 have c1:w.cell? ⟨tb,1,none⟩=some (.string nm):=ak.range i 1 _ rfl
 have c3:w.cell? ⟨tb,3,none⟩=some (.bool false):=ak.range i 3 _ rfl
 have B:=ak.lt i
 have z:=sG hx
 obtain ⟨o,f⟩:∃o,bg nm=o:=⟨_,rfl⟩
 rw [f] at j ⊢
 have u:nm++⟨#[46,116,109,112]⟩=o:=f
 generalize p:aU k=dn at j m
 clear h i v hx p s f
 go_enter func286,ntmps286
 go_upto_region 3 with fail
 refine aX 10 (by kernel_rfl) (by kernel_rfl) ?_
 simp only [List.take_succ_cons,List.take_zero,List.drop_succ_cons,List.drop_zero]
 have n:=blq m
 have l:=blq c1
 repeat (go_big_quiet_step (fail))
 refine wpQuiet_nil ?_
 intro A b
 clear n l
 clear m c1 c3
 go_wp2_with fail
 refine (j.out A b).mono ?_
 rintro e w1 ⟨rfl,t,a⟩
 have C:=ah (And.intro t (And.intro (nR (x.out.below b) a r.out) ((Kp.of (O:=O) b).trans (tY a r.out))))
 clear t a x j
 go_wp2_with fail
 go_ret2
 exact ⟨rfl,C.out⟩
theorem qA {d:ByteArray×Nat} (h:DV O1 N R M w g q L sy) (C:k<3) (I:N+R≤1000000) (n:TkB w tb k nm data lt nx made false) (x:zA O O1 tb) (hx:aJ (bg nm)=true) (hy:aJ nm=true) (A:L k (bg nm)=some d) :
  Calls prog 287 #[.pointer (some ⟨tb,0,none⟩),.pointer (some ⟨g,0,none⟩)] w (qQ O O1 N (R+1) M g q ((L.put k nm (some d)).put k (bg nm) none) (upN sy k false) tb k nm data lt nx false true w):=by
 have B:=ah n
 have o:=ah x
 have m:bg nm≠nm:=fun e=>by
  have:=congrArg ByteArray.size e
  unfold bg at this
  rw [ByteArray.size_append] at this
  have e:(⟨#[46,116,109,112]⟩:ByteArray).size=4:=rfl
  omega
 have p:Hid (∀W,Below w.heap.size w W→Calls prog 317 #[.pointer (some ⟨g,0,none⟩),.string (aU k),.string (bg nm),.string nm] W (nH O1 N (R+1) M g q ((L.put k nm (some d)).put k (bg nm) none) (upN sy k false) W)):=ah fun W hb=>zN (h.below hb) C I hx hy m A
 have t:w.cell? ⟨tb,0,none⟩=some (.string (aU k)):=ak.range n 0 _ rfl
 have c1:w.cell? ⟨tb,1,none⟩=some (.string nm):=ak.range n 1 _ rfl
 have F:=ak.lt n
 have D:=sG hx
 obtain ⟨r,j⟩:∃r,bg nm=r:=⟨_,rfl⟩
 rw [j] at p ⊢
 have z:nm++⟨#[46,116,109,112]⟩=r:=j
 generalize v:aU k=dn at p t
 clear h n A hx hy v x j m
 go_enter func287,ntmps287
 go_upto_region 1 with fail
 refine aX 14 (by kernel_rfl) (by kernel_rfl) ?_
 simp only [List.take_succ_cons,List.take_zero,List.drop_succ_cons,List.drop_zero]
 have u:=blq t
 have s:=blq c1
 repeat (go_big_quiet_step (fail))
 refine wpQuiet_nil ?_
 intro E i
 clear u s
 clear t c1
 go_wp2_with fail
 refine (p.out E i).mono ?_
 rintro e w1 ⟨rfl,y,f⟩
 have a:=nR (B.out.below i) f o.out
 have J:w1.cell? ⟨tb,5,none⟩=some (.bool made):=a.range 5 _ rfl
 have l:=a.there 5 (by simp [tkC])
 rw [Nat.zero_add] at l
 have H:=l.2
 have G:Hid (DV O1 N (R+1) M (w1.setCell ⟨tb,5,none⟩ (.bool false)) g q ((L.put k nm (some d)).put k r none) (upN sy k false)∧TkB (w1.setCell ⟨tb,5,none⟩ (.bool false)) tb k nm data lt nx false false∧Kp O w (w1.setCell ⟨tb,5,none⟩ (.bool false))) :=
  ah ⟨y.chg gQ (fun b e=>e▸o.out.own),a.put 5 _,((Kp.of i).trans (tY f o.out)).trans (lD o.out 5 _)⟩
 clear y f a l B p
 cases made
 all_goals
  go_wp2_with fail
  go_ret2
  exact ⟨rfl,G.out⟩
theorem Ay (h:DV O1 N R M w g q L sy) (o:k<3) (n:N≤1000000) (b:TkB w tb k nm data false nx made false) (m:zA O O1 tb) :
  Calls prog 288 #[.pointer (some ⟨tb,0,none⟩),.pointer (some ⟨g,0,none⟩)] w (qQ O O1 N R M g q L (upN sy k true) tb k nm data false nx made true w):=by
 have j:=ah b
 have i:=ah m
 have d:Hid (∀W,Below w.heap.size w W→Calls prog 107 #[.pointer (some ⟨g,0,none⟩),.string (aU k)] W (nH O1 N R M g q L (upN sy k true) W)):=ah fun W hb=>lN (h.below hb) o n
 have p:w.cell? ⟨tb,0,none⟩=some (.string (aU k)):=ak.range b 0 _ rfl
 have c3:w.cell? ⟨tb,3,none⟩=some (.bool false):=ak.range b 3 _ rfl
 generalize f:aU k=dn at d p
 clear h b f m
 go_enter func288,ntmps288
 go_wp2_with fail
 refine (d.out w (Below.refl _ _)).mono ?_
 rintro e w1 ⟨rfl,l,a⟩
 have r:=ah (And.intro l (And.intro (nR j.out a i.out) (tY a i.out)))
 clear l a j d
 go_wp2_with fail
 go_ret2
 exact ⟨rfl,r.out⟩
end
def cZ:List Value:=[.func (.func 283) #[] #[],.func (.func 284) #[] #[],.func (.func 285) #[] #[],.func (.func 286) #[] #[],.func (.func 287) #[] #[],.func (.func 288) #[] #[]]
theorem infoSt:(prog.info? 337).map (·.size)=some 6:=by decide +kernel
theorem tH (w:World):Calls prog 256 #[] w fun e w'=>e= .returned (.agg cZ.toArray)∧Below w.heap.size w w':=by
 go_enter func256,ntmps256
 go_wp2_with fail
 exact kW rfl w.heap.size 0 rfl cZ _ ((ak.new w 337 cZ).range) underlying337 rfl infoSt rfl ⟨rfl,bal⟩
theorem wU (tb:Nat) (a:Bool) (w:World) (b:w.cell? ⟨tb,6,none⟩=some (.bool a)):Calls prog 255 #[.pointer (some ⟨tb,0,none⟩)] w fun e w'=>e= .returned (.bool a)∧w'=w:=by
 go_enter func255,ntmps255
 go_wp2_with fail
 go_ret
 exact ⟨rfl,rfl⟩
section
variable {O:Nat → Prop} {N R M N' R':Nat} {w:World} {g tb:Nat} {q:Int} {L L':LK} {sy sy':Nat → Bool} {k:Nat} {nm data:ByteArray} {lt made made':Bool}
def dR (lt:Bool) (n:Nat):Bool:=decide (n=6) || (lt&&decide (n=5))
def Wo (O:Nat→Prop) (tb b:Nat):Prop:=O b∧b≠tb
theorem gI {O:Nat→Prop} {tb:Nat} (h:O tb):zA (Wo O tb) O tb:=⟨h,fun _ h=>h.1,fun h=>h.2 rfl⟩
def M4 (fn:FuncId) (N R N' R' M:Nat) (g:Nat) (q:Int) (L L':LK) (sy sy':Nat→Bool) (tb k:Nat) (nm data:ByteArray) (lt:Bool) (nx:Nat) (made made' a:Bool):Prop :=
 ∀(O:Nat→Prop) (W:World),O tb→DV O N R M W g q L sy→TkB W tb k nm data lt nx made false→Calls prog fn #[.pointer (some ⟨tb,0,none⟩),.pointer (some ⟨g,0,none⟩)] W (qQ (Wo O tb) O N' R' M g q L' sy' tb k nm data lt nx made' a W)
def Fp (O:Nat→Prop) (N R M:Nat) (g:Nat) (q:Int) (L:LK) (sy:Nat→Bool) (tb k:Nat) (nm data:ByteArray) (lt:Bool) (nx:Nat) (made:Bool) (w:World) (e:Ending) (w':World):Prop :=
 e= .returned (.tuple #[.bool (dR lt nx),.int .i64 0])∧DV O N R M w' g q L sy∧TkB w' tb k nm data lt nx made (dR lt nx)∧Kp (Wo O tb) w w'
theorem iK (i:Nat) (hi:i<6) (fn:FuncId) (I:cZ[i]? = some (.func (.func fn) #[] #[])) (aa:∀args w,Sem.run prog (callFunc fn args) w= .ok (.enter fn args) w) (z:DV O N R M w g q L sy) (hb:TkB w tb k nm data lt i made false) (V:O tb)
  (hM:M4 fn N R N' R' M g q L L' sy sy' tb k nm data lt i made made' true) :
  Calls prog 204 #[.pointer (some ⟨tb,0,none⟩),.pointer (some ⟨g,0,none⟩)] w (Fp O N' R' M g q L' sy' tb k nm data lt (i+1) made' w):=by
 have HD:=ah (wU tb false w (ak.range hb 6 _ rfl))
 have HS:=ah (tH w)
 have Z:=ah hb
 have y:=ah (gI V)
 have P:=ah z
 have HM:=ah hM
 clear hb V z hM
 go_enter func204,ntmps204
 go_wp2_with fail
 refine iD 0 ?_
 generalize vV _ _ _ _=J
 go_wp2_with fail
 refine HD.out.mono ?_
 rintro e w0 ⟨rfl,rfl⟩
 go_wp2_with fail
 refine HS.out.mono ?_
 rintro e w1 ⟨rfl,x⟩
 have H:=ah (there_alloc (n:=6) w1 #[.nilFunc,.nilFunc,.nilFunc,.nilFunc,.nilFunc,.nilFunc] 337 rfl)
 obtain ⟨W,K⟩:∃W,(w1.alloc (.cells #[.nilFunc,.nilFunc,.nilFunc,.nilFunc,.nilFunc,.nilFunc] 337)).setCells w1.heap.size 0 cZ=W:=⟨_,rfl⟩
 have G:ak W w1.heap.size 337 cZ:=by rw [←K];exact (ak.new w1 _ [.nilFunc,.nilFunc,.nilFunc,.nilFunc,.nilFunc,.nilFunc]).set rfl
 have F:Below w1.heap.size w1 W:=by rw [←K];exact below_setCells _ (Nat.le_refl _) _ _ _ bal
 have o:=ah (x.trans (F.mono x.size))
 have S:=ah K
 have U:=infoSt
 have l:∀v∈cZ,v.oneCell'=true:=by decide
 have u:cZ.length=6:=rfl
 have Q:W.cell? ⟨w1.heap.size,i,none⟩=some (.func (.func fn) #[] #[]):=by have:=G.range i _ I;rwa [Nat.zero_add] at this
 have t:=ah (ak.below Z.out o.out)
 have c4:W.cell? ⟨tb,4,none⟩=some (.int .i64 (i:Int)):=t.out.range 4 _ rfl
 have d0:(0:Int)≤i:=by omega
 have d6:(i:Int)<6:=by omega
 obtain ⟨sv,s⟩:∃sv,cZ=sv:=⟨_,rfl⟩
 rw [s] at S l u
 rw [s]
 clear x F G K HS HD I s
 go_wp2_with (refine aj rfl 337 _ _ rfl w1.heap.size 0 sv rfl rfl 6 u H.out U l ?_;rw [S.out])
 simp only [Act.put]
 rename_i hK
 refine wp_label (hK _ _ ?_)
 clear hK l u S U H
 go_wp2_with fail
 refine (HM.out O W y.out.own (P.out.below o.out) t.out).mono ?_
 rintro e X ⟨rfl,Y,p,E⟩
 have j:=p.there 4 (by simp [tkC])
 rw [Nat.zero_add] at j
 have f4:=j.2
 have e4:X.cell? ⟨tb,4,none⟩=some (.int .i64 (i:Int)):=ak.range p 4 _ rfl
 have wi:IntKind.i64.wrap ((i:Int)+1)=(i:Int)+1:=IntWalk.i64_in _ (by omega)
 obtain ⟨m,h⟩:∃W,X.setCell ⟨tb,4,none⟩ (.int .i64 ((i:Int)+1))=W:=⟨_,rfl⟩
 have d:TkB m tb k nm data lt (i+1) made' false:=by rw [←h];exact p.put 4 _
 have B:DV O N' R' M m g q L' sy':=by rw [←h];exact Y.chg gQ (fun b e=>e▸y.out.own)
 have A:Kp (Wo O tb) w0 m:=((Kp.of o.out).trans E).trans (by rw [←h];exact lD y.out 4 _)
 have g3:m.cell? ⟨tb,3,none⟩=some (.bool lt):=ak.range d 3 _ rfl
 have g4:m.cell? ⟨tb,4,none⟩=some (.int .i64 ((i:Int)+1)):=ak.range d 4 _ rfl
 have f:=d.there 6 (by simp [tkC])
 rw [Nat.zero_add] at f
 have f6:=f.2
 have g6:m.cell? ⟨tb,6,none⟩=some (.bool false):=ak.range d 6 _ rfl
 have HE:Hid (DV O N' R' M (m.setCell ⟨tb,6,none⟩ (.bool (dR lt (i+1)))) g q L' sy'∧TkB (m.setCell ⟨tb,6,none⟩ (.bool (dR lt (i+1)))) tb k nm data lt (i+1) made' (dR lt (i+1))∧Kp (Wo O tb) w0 (m.setCell ⟨tb,6,none⟩ (.bool (dR lt (i+1))))) :=
  ah ⟨B.chg gQ (fun b e=>e▸y.out.own),d.put 6 _,A.trans (lD y.out 6 _)⟩
 have D:=ah h
 clear j f p Y E d B A h t Z o c4 Q HM
 go_upto_region 9 with fail
 rw [D.out]
 clear D f4 e4
 have a:(((i:Int)+1==6)=true∧dR lt (i+1)=true)∨(((i:Int)+1==6)=false∧lt=false∧dR lt (i+1)=false)∨(((i:Int)+1==6)=false∧lt=true∧((i:Int)+1==5)=true∧dR lt (i+1)=true)∨(((i:Int)+1==6)=false∧lt=true∧((i:Int)+1==5)=false∧dR lt (i+1)=false):=by
  unfold dR
  by_cases x6:i=5
  ·left;subst x6;exact ⟨by decide,by simp⟩
  have r:((i:Int)+1==6)=false:=by rw [beq_eq_false_iff_ne];omega
  rw [decide_eq_false (show ¬i+1=6 by omega)]
  cases lt with
  | false=>right;left;exact ⟨r,rfl,rfl⟩
  | true =>
   by_cases x5:i=4
   ·right;right;left;subst x5;exact ⟨r,rfl,by decide,by decide⟩
   right;right;right;exact ⟨r,rfl,by rw [beq_eq_false_iff_ne];omega,by rw [decide_eq_false (show ¬i+1=5 by omega)];rfl⟩
 generalize C:dR lt (i+1)=en at HE a
 have T:=ah C
 clear C d0 d6 wi
 generalize (i:Int)+1=n1 at g4 a ⊢
 rcases a with ⟨r,rfl⟩|⟨r,rfl,rfl⟩|⟨r,rfl,y5,rfl⟩|⟨r,rfl,y5,rfl⟩
 all_goals
  go_wp2_with fail
  go_ret2
  unfold Fp
  rw [T.out]
  exact ⟨rfl,HE.out⟩
theorem mW {N1 R1:Nat} {L1:LK} {sy1:Nat→Bool} {made1:Bool} (i:Nat) (hi:i<5) (P:dR lt (i+1)=false) (z:FuncId) (Q:cZ[i]? = some (.func (.func z) #[] #[])) (a8:∀args w,Sem.run prog (callFunc z args) w= .ok (.enter z args) w) (fn:FuncId) (aE:cZ[i+1]? = some (.func (.func fn) #[] #[])) (bc:∀args w,Sem.run prog (callFunc fn args) w= .ok (.enter fn args) w) (az:DV O N R M w g q L sy) (hb:TkB w tb k nm data lt i made false) (ho:O tb)
  (af:M4 z N R N1 R1 M g q L L1 sy sy1 tb k nm data lt i made made1 false) (hM:M4 fn N1 R1 N' R' M g q L1 L' sy1 sy' tb k nm data lt (i+1) made1 made' true) :
  Calls prog 204 #[.pointer (some ⟨tb,0,none⟩),.pointer (some ⟨g,0,none⟩)] w (Fp O N' R' M g q L' sy' tb k nm data lt (i+1+1) made' w):=by
 have HD:=ah (wU tb false w (ak.range hb 6 _ rfl))
 have HS:=ah (tH w)
 have HB:=ah hb
 have G:=ah (gI ho)
 have ax:=ah az
 have HM:=ah hM
 have ap:=ah af
 have S:=ah P
 clear hb ho az hM af P
 go_enter func204,ntmps204
 go_wp2_with fail
 refine iD 1 ?_
 go_wp2_with fail
 refine HD.out.mono ?_
 rintro e w0 ⟨rfl,rfl⟩
 go_wp2_with fail
 refine HS.out.mono ?_
 rintro e w1 ⟨rfl,F⟩
 have am:=ah (there_alloc (n:=6) w1 #[.nilFunc,.nilFunc,.nilFunc,.nilFunc,.nilFunc,.nilFunc] 337 rfl)
 obtain ⟨W,hW⟩:∃W,(w1.alloc (.cells #[.nilFunc,.nilFunc,.nilFunc,.nilFunc,.nilFunc,.nilFunc] 337)).setCells w1.heap.size 0 cZ=W:=⟨_,rfl⟩
 have H:ak W w1.heap.size 337 cZ:=by rw [←hW];exact (ak.new w1 _ [.nilFunc,.nilFunc,.nilFunc,.nilFunc,.nilFunc,.nilFunc]).set rfl
 have ao:Below w1.heap.size w1 W:=by rw [←hW];exact below_setCells _ (Nat.le_refl _) _ _ _ bal
 have J:=ah (F.trans (ao.mono F.size))
 have HW:=ah hW
 have h6:=infoSt
 have D:∀v∈cZ,v.oneCell'=true:=by decide
 have Z:cZ.length=6:=rfl
 have ab:W.cell? ⟨w1.heap.size,i,none⟩=some (.func (.func z) #[] #[]):=by have:=H.range i _ Q;rwa [Nat.zero_add] at this
 have aw:=ah H
 have ar:=ah aE
 have al:=ah H.lt
 have a3:Hid (w0.heap.size≤w1.heap.size):=ah F.size
 have X:Hid (w1.heap.size≠tb):=ah (by have h1:=ak.lt HB.out;have h2:=F.size;omega)
 have Y:=ah (ak.below HB.out J.out)
 have c4:W.cell? ⟨tb,4,none⟩=some (.int .i64 (i:Int)):=Y.out.range 4 _ rfl
 have d0:(0:Int)≤i:=by omega
 have d6:(i:Int)<6:=by omega
 obtain ⟨sv,ac⟩:∃sv,cZ=sv:=⟨_,rfl⟩
 rw [ac] at HW D Z
 rw [ac]
 clear F ao H hW HS HD aE Q ac
 go_wp2_with (refine aj rfl 337 _ _ rfl w1.heap.size 0 sv rfl rfl 6 Z am.out h6 D ?_;rw [HW.out])
 simp only [Act.put]
 rename_i hK
 refine wp_label (hK _ _ ?_)
 clear hK D Z HW h6 am
 go_wp2_with fail
 refine (ap.out (Ou O w0 W) W (.inl G.out.own) (ax.out.on J.out) Y.out).mono ?_
 rintro e V ⟨rfl,hv,s,t⟩
 have T:ak V w1.heap.size 337 cZ:=(t.block al.out ⟨.inr ⟨a3.out,al.out⟩,X.out⟩).trans aw.out
 have t:Kp (Wo O tb) W V:=t.sub fun b _ h=>⟨.inl h.1,h.2⟩
 have hv:=hv.sub (fun b h=> .inl h) ax.out.gW
 have m:=s.there 4 (by simp [tkC])
 rw [Nat.zero_add] at m
 have f4:=m.2
 have e4:V.cell? ⟨tb,4,none⟩=some (.int .i64 (i:Int)):=ak.range s 4 _ rfl
 have wi:IntKind.i64.wrap ((i:Int)+1)=(i:Int)+1:=IntWalk.i64_in _ (by omega)
 obtain ⟨r,f⟩:∃W,V.setCell ⟨tb,4,none⟩ (.int .i64 ((i:Int)+1))=W:=⟨_,rfl⟩
 have d:TkB r tb k nm data lt (i+1) made1 false:=by rw [←f];exact s.put 4 _
 have y:DV O N1 R1 M r g q L1 sy1:=by rw [←f];exact hv.chg gQ (fun b e=>e▸G.out.own)
 have B:Kp (Wo O tb) w0 r:=((Kp.of J.out).trans t).trans (by rw [←f];exact lD G.out 4 _)
 have g3:r.cell? ⟨tb,3,none⟩=some (.bool lt):=ak.range d 3 _ rfl
 have g4:r.cell? ⟨tb,4,none⟩=some (.int .i64 ((i:Int)+1)):=ak.range d 4 _ rfl
 have p:=d.there 6 (by simp [tkC])
 rw [Nat.zero_add] at p
 have f6:=p.2
 have g6:r.cell? ⟨tb,6,none⟩=some (.bool false):=ak.range d 6 _ rfl
 have K:Hid (DV O N1 R1 M (r.setCell ⟨tb,6,none⟩ (.bool (dR lt (i+1)))) g q L1 sy1∧TkB (r.setCell ⟨tb,6,none⟩ (.bool (dR lt (i+1)))) tb k nm data lt (i+1) made1 (dR lt (i+1))∧Kp (Wo O tb) w0 (r.setCell ⟨tb,6,none⟩ (.bool (dR lt (i+1))))) :=
  ah ⟨y.chg gQ (fun b e=>e▸G.out.own),d.put 6 _,B.trans (lD G.out 6 _)⟩
 have E:=ah f
 have aq:=ah f
 have U:=ah T
 clear T m p s hv t d y B f Y HB J c4 ab ap
 go_upto_region 9 with fail
 rw [E.out]
 clear E f4 e4
 have o:(((i:Int)+1==6)=true∧dR lt (i+1)=true)∨(((i:Int)+1==6)=false∧lt=false∧dR lt (i+1)=false)∨(((i:Int)+1==6)=false∧lt=true∧((i:Int)+1==5)=true∧dR lt (i+1)=true)∨(((i:Int)+1==6)=false∧lt=true∧((i:Int)+1==5)=false∧dR lt (i+1)=false):=by
  unfold dR
  by_cases x6:i=5
  ·left;subst x6;exact ⟨by decide,by simp⟩
  have x:((i:Int)+1==6)=false:=by rw [beq_eq_false_iff_ne];omega
  rw [decide_eq_false (show ¬i+1=6 by omega)]
  cases lt with
  | false=>right;left;exact ⟨x,rfl,rfl⟩
  | true =>
   by_cases x5:i=4
   ·right;right;left;subst x5;exact ⟨x,rfl,by decide,by decide⟩
   right;right;right;exact ⟨x,rfl,by rw [beq_eq_false_iff_ne];omega,by rw [decide_eq_false (show ¬i+1=5 by omega)];rfl⟩
 rw [S.out] at K
 have u:((i:Int)+1==6)=false∧(lt=false∨lt=true∧((i:Int)+1==5)=false):=by
  have hn:=S.out
  unfold dR at hn
  refine ⟨by rw [beq_eq_false_iff_ne];omega,?_⟩
  cases lt with
  | false=>exact .inl rfl
  | true =>
   refine .inr ⟨rfl,?_⟩
   rw [beq_eq_false_iff_ne]
   intro e
   have:i+1=5:=by omega
   rw [this] at hn
   exact absurd hn (by decide)
 obtain ⟨W4,I⟩:∃W,r.setCell ⟨tb,6,none⟩ (.bool false)=W:=⟨_,rfl⟩
 have ag:Hid (ak r w1.heap.size 337 cZ):=ah (by rw [←aq.out];exact U.out.chg gQ X.out)
 have a7:Hid (ak W4 w1.heap.size 337 cZ):=ah (by rw [←I];exact ag.out.chg gQ X.out)
 rw [I] at K
 have a2:=ah K.out.1
 have C:=ah K.out.2.1
 have ae:=ah K.out.2.2
 have ad:=ah (HM.out O W4 G.out.own a2.out C.out)
 have c6:W4.cell? ⟨tb,6,none⟩=some (.bool false):=ak.range C.out 6 _ rfl
 have a5:=ah I
 clear o I K ag U aw aq d0 d6 wi
 generalize (i:Int)+1=n1 at g4 u
 obtain ⟨a,aa⟩:∃j,i+1=j:=⟨_,rfl⟩
 rw [aa] at C ad ar
 have a0:=ah aa
 have ba:a<6:=by omega
 have c4:W4.cell? ⟨tb,4,none⟩=some (.int .i64 (a:Int)):=ak.range C.out 4 _ rfl
 have ab:W4.cell? ⟨w1.heap.size,a,none⟩=some (.func (.func fn) #[] #[]):=by have:=a7.out.range a _ ar.out;rwa [Nat.zero_add] at this
 have a1:(0:Int)≤(a:Int):=by omega
 have a6:(a:Int)<6:=by omega
 clear aa HM
 obtain ⟨x,an⟩:=u
 obtain ⟨bb,A⟩:∃l,lt=l:=⟨_,rfl⟩
 have a9:=ah A
 rw [A] at g3 an
 clear A
 rcases an with rfl|⟨rfl,y5⟩
 all_goals
  go_wp2_with fail
  rw [a5.out]
  go_wp2_with fail
  refine wp_goto ?_
  refine ER rfl ?_
  clear g3 g4 f6 g6
  go_wp2_with fail
  refine ad.out.mono ?_
  rintro e V ⟨rfl,hv,s,t⟩
  have m:=s.there 4 (by simp [tkC])
  rw [Nat.zero_add] at m
  have f4:=m.2
  have e4:V.cell? ⟨tb,4,none⟩=some (.int .i64 (a:Int)):=ak.range s 4 _ rfl
  have wi:IntKind.i64.wrap ((a:Int)+1)=(a:Int)+1:=IntWalk.i64_in _ (by omega)
  obtain ⟨r,f⟩:∃W,V.setCell ⟨tb,4,none⟩ (.int .i64 ((a:Int)+1))=W:=⟨_,rfl⟩
  have d:TkB r tb k nm data lt (a+1) made' false:=by rw [←f];exact s.put 4 _
  have y:DV O N' R' M r g q L' sy':=by rw [←f];exact hv.chg gQ (fun b e=>e▸G.out.own)
  have B:Kp (Wo O tb) w0 r:=(ae.out.trans t).trans (by rw [←f];exact lD G.out 4 _)
  have g3:r.cell? ⟨tb,3,none⟩=some (.bool lt):=ak.range d 3 _ rfl
  have g4:r.cell? ⟨tb,4,none⟩=some (.int .i64 ((a:Int)+1)):=ak.range d 4 _ rfl
  have p:=d.there 6 (by simp [tkC])
  rw [Nat.zero_add] at p
  have f6:=p.2
  have g6:r.cell? ⟨tb,6,none⟩=some (.bool false):=ak.range d 6 _ rfl
  have K:Hid (DV O N' R' M (r.setCell ⟨tb,6,none⟩ (.bool (dR lt (a+1)))) g q L' sy'∧TkB (r.setCell ⟨tb,6,none⟩ (.bool (dR lt (a+1)))) tb k nm data lt (a+1) made' (dR lt (a+1))∧Kp (Wo O tb) w0 (r.setCell ⟨tb,6,none⟩ (.bool (dR lt (a+1))))) :=
   ah ⟨y.chg gQ (fun b e=>e▸G.out.own),d.put 6 _,B.trans (lD G.out 6 _)⟩
  have E:=ah f
  clear m p s hv t d y B f c4 ab ad ae C
  go_upto_region 9 with fail
  rw [E.out]
  clear E f4 e4
  have o:(((a:Int)+1==6)=true∧dR lt (a+1)=true)∨(((a:Int)+1==6)=false∧lt=false∧dR lt (a+1)=false)∨(((a:Int)+1==6)=false∧lt=true∧((a:Int)+1==5)=true∧dR lt (a+1)=true)∨(((a:Int)+1==6)=false∧lt=true∧((a:Int)+1==5)=false∧dR lt (a+1)=false):=by
   unfold dR
   by_cases x6:a=5
   ·left;obtain rfl:a=5:=x6
    exact ⟨by decide,by simp⟩
   have x:((a:Int)+1==6)=false:=by rw [beq_eq_false_iff_ne];omega
   rw [decide_eq_false (show ¬a+1=6 by omega)]
   cases lt with
   | false=>right;left;exact ⟨x,rfl,rfl⟩
   | true =>
    by_cases x5:a=4
    ·right;right;left;obtain rfl:a=4:=x5
     exact ⟨x,rfl,by decide,by decide⟩
    right;right;right;exact ⟨x,rfl,by rw [beq_eq_false_iff_ne];omega,by rw [decide_eq_false (show ¬a+1=5 by omega)];rfl⟩
  generalize ai:dR lt (a+1)=en at K o
  have a4:=ah ai
  clear ai a1 a6 wi
  generalize (a:Int)+1=n1 at g4 o ⊢
  rcases o with ⟨x,rfl⟩|⟨x,rfl,rfl⟩|⟨x,rfl,y5,rfl⟩|⟨x,rfl,y5,rfl⟩
  all_goals
   go_wp2_with fail
   go_ret2
   unfold Fp
   rw [a0.out]
   rw [a4.out]
   exact ⟨rfl,K.out⟩
end
section
variable {O:Nat → Prop} {N R M:Nat} {w:World} {g tb:Nat} {q:Int} {L:LK} {sy:Nat → Bool} {k:Nat} {nm data:ByteArray}
theorem EK (d:ByteArray):(⟨#[]⟩:ByteArray)++d=d:=gU (by rw [ByteArray.data_append];simp)
theorem IQ (nm:ByteArray):bg nm≠nm:=fun e=>by
 have:=congrArg ByteArray.size e
 unfold bg at this
 rw [ByteArray.size_append] at this
 have e:(⟨#[46,116,109,112]⟩:ByteArray).size=4:=rfl
 omega
theorem Jy (d:L k (bg nm)=none) (a b c:ByteArray×Nat):((((L.put k (bg nm) (some a)).put k (bg nm) (some b)).put k (bg nm) (some c)).put k nm (some c)).put k (bg nm) none=L.put k nm (some c):=by
 funext j y
 unfold LK.put
 by_cases h1:j=k∧y=bg nm
 ·obtain ⟨rfl,rfl⟩:=h1
  rw [if_pos ⟨rfl,rfl⟩,if_neg (fun h=>IQ nm h.2),d]
 simp only [if_neg h1]
theorem Jz (d:L k (bg nm)=none) (a b:ByteArray×Nat):(((L.put k (bg nm) (some a)).put k (bg nm) (some b)).put k nm (some b)).put k (bg nm) none=L.put k nm (some b):=by
 funext j y
 unfold LK.put
 by_cases h1:j=k∧y=bg nm
 ·obtain ⟨rfl,rfl⟩:=h1
  rw [if_pos ⟨rfl,rfl⟩,if_neg (fun h=>IQ nm h.2),d]
 simp only [if_neg h1]
theorem sw (f:Nat→Bool) (k:Nat) (a b:Bool):upN (upN f k a) k b=upN f k b:=by
 funext j
 unfold upN
 split<;>rfl
def qP (O:Nat→Prop) (N R M:Nat) (g:Nat) (q:Int) (L:LK) (sy:Nat→Bool) (w:World) (e:Ending) (w':World):Prop:=e= .returned (.int .i64 0)∧DV O N R M w' g q L sy∧Kp O w w'
theorem Gj (a:DV O N R M w g q L sy) (hb:TkB w tb k nm data false 0 false false) (b:O tb) (j:k<3) (hN:N+R≤900000) (hx:aJ (bg nm)=true) (hy:aJ nm=true) (F:L k (bg nm)=none) (hM:data.size≤M) (p:M≤1048576) (V:3*((N+1)*M)+data.size≤q) (E:q≤1000000000) :
  Calls prog 141 #[.pointer (some ⟨g,0,none⟩),.pointer (some ⟨tb,0,none⟩)] w fun e w'=>e= .returned (.int .i64 0)∧DV O (N+1) (R+2) M w' g q (L.put k nm (some (data,data.size))) (upN sy k true)∧Kp (Wo O tb) w w':=by
 have X:=ah (mW (O:=O) (w:=w) (N1:=N) (R1:=R) (L1:=L) (sy1:=sy) (made1:=false) 0 (by omega) (by decide) 283 rfl (enters_of func283 (by kernel_rfl) rfl) 284 rfl (enters_of func284 (by kernel_rfl) rfl) a hb b
  (fun O W b a d=>tJ a j (by omega) d hx F) (fun O W b a d=>qB a j (by omega) d (gI b) hx F))
 have S:=ah (fun w a hb=>iK (O:=O) (w:=w) (M:=M) (q:=q) (g:=g) (lt:=false) (made:=true) (made':=true) (N:=N+1) (R:=R+1) (L:=L.put k (bg nm) (some (⟨#[]⟩,0))) (sy:=upN sy k false) 2 (by omega) 285 rfl (enters_of func285 (by kernel_rfl) rfl) a hb b
  (fun O W b a d=>qC (data:=data) a j d (gI b) hx (LK.bG ..) (by show 0+data.size≤M;omega) p V E))
 have P:=ah (fun w a hb=>iK (O:=O) (w:=w) (M:=M) (q:=q) (g:=g) (lt:=false) (made:=true) (made':=true) (N:=N+1) (R:=R+1) (L:=(L.put k (bg nm) (some (⟨#[]⟩,0))).put k (bg nm) (some ((⟨#[]⟩:ByteArray)++data,0))) (sy:=upN sy k false) 3 (by omega) 286 rfl (enters_of func286 (by kernel_rfl) rfl) a hb b
  (fun O W b a d=>Gi (data:=data) a j d (gI b) hx (LK.bG ..)))
 have U:=ah (fun w a hb=>iK (O:=O) (w:=w) (M:=M) (q:=q) (g:=g) (lt:=false) (made:=true) (made':=false) (N:=N+1) (R:=R+1) (L:=((L.put k (bg nm) (some (⟨#[]⟩,0))).put k (bg nm) (some ((⟨#[]⟩:ByteArray)++data,0))).put k (bg nm) (some ((⟨#[]⟩:ByteArray)++data,((⟨#[]⟩:ByteArray)++data).size))) (sy:=upN sy k false) 4 (by omega) 287 rfl (enters_of func287 (by kernel_rfl) rfl) a hb b
  (fun O W b a d=>qA (data:=data) a j (by omega) d (gI b) hx hy (LK.bG ..)))
 have I:=ah (fun w a hb=>iK (O:=O) (w:=w) (nm:=nm) (M:=M) (q:=q) (g:=g) (lt:=false) (made:=false) (made':=false) (N:=N+1) (R:=R+2) (L:=L.put k nm (some ((⟨#[]⟩:ByteArray)++data,((⟨#[]⟩:ByteArray)++data).size))) (sy:=upN sy k false) 5 (by omega) 288 rfl (enters_of func288 (by kernel_rfl) rfl) a hb b
  (fun O W b a d=>Ay (data:=data) a j (by omega) d (gI b)))
 rw [EK] at S P U I
 have K:=ah (Jy F (⟨#[]⟩,0) (data,0) (data,data.size))
 clear a hb F hx hy hM p V E
 go_enter func141,ntmps141
 go_wp2_with fail
 refine wp_loop_rounds 5 ?_
 rw [rounds_succ]
 go_wp2_with fail
 refine X.out.mono ?_
 rintro e w1 ⟨f,u,D,z⟩
 obtain rfl:e= .returned (.tuple #[.bool false,.int .i64 0]):=f
 have l:=ah (S.out w1 u D)
 have Q:=ah z
 clear u D z X S
 go_wp2_with fail
 rw [rounds_succ]
 go_wp2_with fail
 refine l.out.mono ?_
 rintro e Y ⟨f,C,y,t⟩
 obtain rfl:e= .returned (.tuple #[.bool false,.int .i64 0]):=f
 have x:=ah (P.out Y C y)
 have G:=ah (Q.out.trans t)
 clear C y t l P
 go_wp2_with fail
 rw [rounds_succ]
 go_wp2_with fail
 refine x.out.mono ?_
 rintro e w3 ⟨f,o,B,n⟩
 obtain rfl:e= .returned (.tuple #[.bool false,.int .i64 0]):=f
 have m:=ah (U.out w3 o B)
 have T:=ah (G.out.trans n)
 clear o B n x U
 go_wp2_with fail
 rw [rounds_succ]
 go_wp2_with fail
 refine m.out.mono ?_
 rintro e Z ⟨f,i,v,s⟩
 obtain rfl:e= .returned (.tuple #[.bool false,.int .i64 0]):=f
 rw [K.out,sw] at i
 have A:=ah (I.out Z i v)
 have J:=ah (T.out.trans s)
 clear i v s m I
 go_wp2_with fail
 rw [rounds_succ]
 go_wp2_with fail
 refine A.out.mono ?_
 rintro e w5 ⟨f,h,H,r⟩
 obtain rfl:e= .returned (.tuple #[.bool true,.int .i64 0]):=f
 rw [sw] at h
 have HE:=ah (And.intro h (J.out.trans r))
 clear h H r A
 go_wp2_with fail
 go_ret
 exact ⟨rfl,HE.out⟩
theorem Gl (a:DV O N R M w g q L sy) (hb:TkB w tb k nm data true 0 false false) (b:O tb) (v:k<3) (J:N+R≤900000) (hx:aJ (bg nm)=true) (hy:aJ nm=true) (x:L k (bg nm)=none) (H:data.size≤M) (l:M≤1048576) (E:3*((N+1)*M)+data.size≤q) (u:q≤1000000000) :
  Calls prog 141 #[.pointer (some ⟨g,0,none⟩),.pointer (some ⟨tb,0,none⟩)] w fun e w'=>e= .returned (.int .i64 0)∧DV O (N+1) (R+2) M w' g q (L.put k nm (some (data,0))) (upN sy k false)∧Kp (Wo O tb) w w':=by
 have F:=ah (mW (O:=O) (w:=w) (N1:=N) (R1:=R) (L1:=L) (sy1:=sy) (made1:=false) 0 (by omega) (by decide) 283 rfl (enters_of func283 (by kernel_rfl) rfl) 284 rfl (enters_of func284 (by kernel_rfl) rfl) a hb b
  (fun O W b a d=>tJ a v (by omega) d hx x) (fun O W b a d=>qB a v (by omega) d (gI b) hx x))
 have D:=ah (fun w a hb=>iK (O:=O) (w:=w) (M:=M) (q:=q) (g:=g) (lt:=true) (made:=true) (made':=true) (N:=N+1) (R:=R+1) (L:=L.put k (bg nm) (some (⟨#[]⟩,0))) (sy:=upN sy k false) 2 (by omega) 285 rfl (enters_of func285 (by kernel_rfl) rfl) a hb b
  (fun O W b a d=>qC (data:=data) a v d (gI b) hx (LK.bG ..) (by show 0+data.size≤M;omega) l E u))
 have A:=ah (fun w a hb=>mW (O:=O) (w:=w) (M:=M) (q:=q) (g:=g) (lt:=true) (made:=true) (made1:=true) (made':=false) (N:=N+1) (R:=R+1) (L:=(L.put k (bg nm) (some (⟨#[]⟩,0))).put k (bg nm) (some ((⟨#[]⟩:ByteArray)++data,0))) (sy:=upN sy k false) 3 (by omega) (by decide) 286 rfl (enters_of func286 (by kernel_rfl) rfl) 287 rfl (enters_of func287 (by kernel_rfl) rfl) a hb b
  (fun O W b a d=>CX (data:=data) a d) (fun O W b a d=>qA (data:=data) a v (by omega) d (gI b) hx hy (LK.bG ..)))
 rw [EK] at D A
 have z:=ah (Jz x (⟨#[]⟩,0) (data,0))
 clear a hb x hx hy H l E u
 go_enter func141,ntmps141
 go_wp2_with fail
 refine wp_loop_rounds 3 ?_
 rw [rounds_succ]
 go_wp2_with fail
 refine F.out.mono ?_
 rintro e w1 ⟨i,n,t,r⟩
 obtain rfl:e= .returned (.tuple #[.bool false,.int .i64 0]):=i
 have h:=ah (D.out w1 n t)
 have B:=ah r
 clear n t r F D
 go_wp2_with fail
 rw [rounds_succ]
 go_wp2_with fail
 refine h.out.mono ?_
 rintro e G ⟨i,s,p,m⟩
 obtain rfl:e= .returned (.tuple #[.bool false,.int .i64 0]):=i
 have o:=ah (A.out G s p)
 have y:=ah (B.out.trans m)
 clear s p m h A
 go_wp2_with fail
 rw [rounds_succ]
 go_wp2_with fail
 refine o.out.mono ?_
 rintro e w3 ⟨i,f,C,j⟩
 obtain rfl:e= .returned (.tuple #[.bool true,.int .i64 0]):=i
 rw [z.out,sw] at f
 have I:=ah (And.intro f (y.out.trans j))
 clear f C j o
 go_wp2_with fail
 go_ret
 exact ⟨rfl,I.out⟩
theorem Cv (a b c:ByteArray) (lt:Bool) (w:World):(Instr.build 278 #[(0,.string a),(1,.string b),(2,.string c),(3,.bool lt)]).run prog w= .ok (.agg #[.string a,.string b,.string c,.bool lt,.int .i64 0,.bool false,.bool false]) w:=run_build w 278 _ _ (by kernel_rfl)
theorem Az (k:Nat) (nm data:ByteArray) (lt:Bool) (w:World):Calls prog 142 #[.string (aU k),.string nm,.string data,.bool lt] w fun e w'=>e= .returned (.pointer (some ⟨w.heap.size,0,none⟩))∧TkB w' w.heap.size k nm data lt 0 false false∧Below w.heap.size w w':=by
 have b:=Cv
 have a:Hid (ak (w.alloc (.cells #[.string (aU k),.string nm,.string data,.bool lt,.int .i64 0,.bool false,.bool false] 278)) w.heap.size 278 (tkC k nm data lt 0 false false)):=ah (ak.new w 278 (tkC k nm data lt 0 false false))
 generalize aU k=dn at a
 go_enter func142,ntmps142
 go_wp2_with fail
 go_ret
 exact ⟨rfl,a.out,bal⟩
theorem CW (i:DV O N R M w g q L sy) (t:k<3) (s:N+R≤900000) (hx:aJ (bg nm)=true) (hy:aJ nm=true) (l:L k (bg nm)=none) (r:data.size≤M) (a:M≤1048576) (n:3*((N+1)*M)+data.size≤q) (f:q≤1000000000) :
  Calls prog 71 #[.pointer (some ⟨g,0,none⟩),.string (aU k),.string nm,.string data] w (qP O (N+1) (R+2) M g q (L.put k nm (some (data,data.size))) (upN sy k true) w):=by
 have j:=ah (Az k nm data false w)
 have o:Hid (∀W,Below w.heap.size w W→TkB W w.heap.size k nm data false 0 false false→Calls prog 141 #[.pointer (some ⟨g,0,none⟩),.pointer (some ⟨w.heap.size,0,none⟩)] W (qP O (N+1) (R+2) M g q (L.put k nm (some (data,data.size))) (upN sy k true) w)):=ah fun W hb d=>by
  refine (Gj (i.on hb) d (.inr ⟨Nat.le_refl _,ak.lt d⟩) t s hx hy l r a n f).mono ?_
  rintro e w' ⟨rfl,h1,u⟩
  exact ⟨rfl,h1.sub (fun b h=> .inl h) i.gW,(Kp.of hb).trans (u.sub fun b _ h=>⟨.inl h,fun e=>by have:=i.olt b h;omega⟩)⟩
 generalize aU k=dn at j
 clear i hx hy l r a n f
 go_enter func71,ntmps71
 go_wp2_with fail
 refine j.out.mono ?_
 rintro e w1 ⟨rfl,d,hb⟩
 have m:=ah (o.out w1 hb d)
 clear d hb j o
 go_wp2_with fail
 refine m.out.mono ?_
 rintro e x ⟨rfl,p⟩
 have v:=ah p
 clear p m
 go_wp2_with fail
 go_ret
 exact ⟨rfl,v.out⟩
theorem CY (i:DV O N R M w g q L sy) (t:k<3) (s:N+R≤900000) (hx:aJ (bg nm)=true) (hy:aJ nm=true) (l:L k (bg nm)=none) (r:data.size≤M) (a:M≤1048576) (n:3*((N+1)*M)+data.size≤q) (f:q≤1000000000) :
  Calls prog 178 #[.pointer (some ⟨g,0,none⟩),.string (aU k),.string nm,.string data] w (qP O (N+1) (R+2) M g q (L.put k nm (some (data,0))) (upN sy k false) w):=by
 have j:=ah (Az k nm data true w)
 have o:Hid (∀W,Below w.heap.size w W→TkB W w.heap.size k nm data true 0 false false→Calls prog 141 #[.pointer (some ⟨g,0,none⟩),.pointer (some ⟨w.heap.size,0,none⟩)] W (qP O (N+1) (R+2) M g q (L.put k nm (some (data,0))) (upN sy k false) w)):=ah fun W hb d=>by
  refine (Gl (i.on hb) d (.inr ⟨Nat.le_refl _,ak.lt d⟩) t s hx hy l r a n f).mono ?_
  rintro e w' ⟨rfl,h1,u⟩
  exact ⟨rfl,h1.sub (fun b h=> .inl h) i.gW,(Kp.of hb).trans (u.sub fun b _ h=>⟨.inl h,fun e=>by have:=i.olt b h;omega⟩)⟩
 generalize aU k=dn at j
 clear i hx hy l r a n f
 go_enter func178,ntmps178
 go_wp2_with fail
 refine j.out.mono ?_
 rintro e w1 ⟨rfl,d,hb⟩
 have m:=ah (o.out w1 hb d)
 clear d hb j o
 go_wp2_with fail
 refine m.out.mono ?_
 rintro e x ⟨rfl,p⟩
 have v:=ah p
 clear p m
 go_wp2_with fail
 go_ret
 exact ⟨rfl,v.out⟩
end
end
section
open Go.RowKit
def bL (x:List UInt8):ByteArray:=ofB (bJ x)
theorem G6 {x:List UInt8} (hx:x.length=32):(bL x).size=64:=by unfold bL;rw [aK,uo,hx]
theorem EW {x:List UInt8} (hx:x.length=32):aJ (bL x)=true:=JX hx
theorem GZ {x:List UInt8} (hx:x.length=32):aJ (bg (bL x))=true:=by
 have a:(bg (bL x)).size=68:=by unfold bg;rw [ByteArray.size_append,G6 hx];rfl
 have b:(bg (bL x)).data.toList.all oO=true:=by
  unfold bg
  rw [jN,List.all_append]
  have:(bL x).data.toList.all oO=true:=by unfold bL;rw [aS];exact xC x
  rw [this]
  decide
 unfold aJ
 rw [b,a]
 rfl
structure SmL (L L':LK):Prop where
 dk:∀ k x,L'.dk k x = L.dk k x
 old:∀ k x d,L k x = some d → d.2 = d.1.size → L' k x = some d
 oth:∀ k x,k ≠ 0 → L' k x = L k x
theorem SmL.refl (L:LK):SmL L L:=⟨fun _ _=>rfl,fun _ _ _ h _=>h,fun _ _ _=>rfl⟩
theorem SmL.trans {L L' a:LK} (h:SmL L L') (b:SmL L' a):SmL L a:=⟨fun k x=>(b.dk k x).trans (h.dk k x),fun k x d h1 e=>b.old k x d (h.old k x d h1 e) e,fun k x f=>(b.oth k x f).trans (h.oth k x f)⟩
theorem SmL.sync {L:LK} {x:ByteArray} {d:ByteArray×Nat} (h:L 0 x=some d):SmL L (L.put 0 x (some (d.1,d.1.size))):=by
 refine ⟨fun k y=> ?_,fun k y e h1 a=> ?_,fun k y g=>LK.aV fun e=>g e.1⟩
 ·unfold LK.dk
  by_cases e:k=0∧y=x
  ·obtain ⟨rfl,rfl⟩:=e
   rw [LK.bG,h];rfl
  rw [LK.aV e]
 by_cases b:k=0∧y=x
 ·obtain ⟨rfl,rfl⟩:=b
  rw [h] at h1
  have f:=Option.some.inj h1
  subst f
  rw [LK.bG]
  obtain ⟨u,v⟩:=d
  dsimp at a
  subst a
  rfl
 rw [LK.aV b];exact h1
def StF (L:LK) (k:Nat) (x:ByteArray):Prop:=∀d,L k x=some d→d.2=d.1.size
theorem SmL.stf {L L':LK} (h:SmL L L') {k:Nat} {x:ByteArray} (b:StF L k x):StF L' k x:=fun d hd=>by
 cases e:L k x with
 | none =>
  have a:=h.dk k x
  unfold LK.dk at a
  rw [hd,e] at a;cases a
 | some d' =>
  rw [h.old k x d' e (b d' e)] at hd
  have f:=Option.some.inj hd
  rw [←f]
  exact b d' e
end
section
open Go.RowKit Go.Maps
section
variable {O:Nat → Prop} {N R M:Nat} {w:World} {g:Nat} {q:Int} {L:LK} {sy:Nat → Bool}
theorem DV.at2 (h:DV O N R M w g q L sy) (o:N+R≤1000000):∃d:Dk,jy w g d∧(∀k x,k<3→d k x=L.dk k x)∧ ∀k nm s,d k nm=some s→s.size≤M:=by
 obtain ⟨d,h1,j⟩:=h.at o
 refine ⟨fun k x=>if k<3 then d k x else none,?_,fun k x i=>by dsimp only;rw [if_pos i];exact j k x i,fun k nm s a=> ?_⟩
 ·obtain ⟨m,n,f,a1,a2,a3,a4,a5⟩:=h1
  refine ⟨m,n,f,a1,a2,a3,a4,fun x hx=> ?_⟩
  rcases a5 x hx with h|⟨b,k,r,l,p⟩
  ·exact .inl h
  have i:k<3:=(bO l).1
  refine .inr ⟨b,k,r,l,?_⟩
  simp only [if_pos i]
  exact p
 dsimp only at a
 by_cases i:k<3
 ·rw [if_pos i,j k nm i] at a
  unfold LK.dk at a
  cases e:L k nm with
  | none=>rw [e] at a;cases a
  | some v=>rw [e] at a;cases a;exact (h.size i e).1
 rw [if_neg i] at a;cases a
theorem sj (h:DV O N R M w g q L sy) (b:N+R≤1000000) (l:M≤1000000) (f:cu w) {x:List UInt8} (hx:x.length=32):Calls prog 117 #[.pointer (some ⟨g,0,none⟩),.agg (idC x).toArray] w (qU L.dk x w):=by
 obtain ⟨d,h1,i,j⟩:=h.at2 b
 have e:fF d x=fF L.dk x:=by unfold fF;rw [i 0 _ (by omega)]
 have:=JA g d x w hx h1 (fun k nm s a=>Nat.le_trans (j k nm s a) l) f
 unfold qU at this ⊢
 rw [e] at this
 exact this
end
theorem nX {k:Int} {s:ByteArray} (h:av ⟨k,s⟩=true):s.size≤4096:=by
 unfold av at h
 rw [Bool.and_eq_true,decide_eq_true_eq] at h
 exact h.1
theorem tX (k:Int) (s:ByteArray) (f:av ⟨k,s⟩=true) (w:World) (g:Crc w):Calls prog 13 #[.agg #[.int .i64 k,.string s]] w fun e w'=>e= .returned (.tuple #[.string (aZ ⟨k,s⟩),.int .i64 0])∧Below w.heap.size w w':=by
 have hF:=fun w=>mX k s w
 unfold Cg at hF
 rw [f] at hF
 simp only [if_pos,show okI true=0 from rfl] at hF
 have j:=jJ (o:=⟨k,s⟩) (by have:=nX f;show s.size<128^3;omega)
 have a:(⟨#[83,76,79,49]⟩++ofB (bA ⟨k,s⟩):ByteArray).size≤1000000000:=by
  have h1:(aZ ⟨k,s⟩).size=4+(bA ⟨k,s⟩).length+4:=by unfold aZ;rw [aK,iB,List.length_append];rfl
  have:=nX f
  rw [ByteArray.size_append,aK]
  show 4+_≤_
  have r:(aZ ⟨k,s⟩).size≤s.size+12:=j
  omega
 have i:ofB (bS (⟨#[83,76,79,49]⟩++ofB (bA ⟨k,s⟩):ByteArray).data.toList)=aZ ⟨k,s⟩:=by
  rw [jN,aS];rfl
 have HS:=ah (fun w g=>nU (⟨#[83,76,79,49]⟩++ofB (bA ⟨k,s⟩)) w g a)
 rw [i] at HS
 generalize aZ ⟨k,s⟩=q at HS ⊢
 generalize ofB (bA ⟨k,s⟩)=fb at HS hF a
 have l:∀W,(Op.stringOp .add ⟨#[83,76,79,49]⟩ fb).run prog W= .ok (.string (⟨#[83,76,79,49]⟩++fb)) W:=fun W=>run_string_add_sum W _ _ (by rw [ByteArray.size_append] at a;omega)
 have m:=ah hF
 have b:Hid (∀o,Below w.heap.size w (w.alloc o)):=ah (fun o=>bal)
 have n:=ah g
 clear hF a i j g f
 go_enter func13,ntmps13
 go_wp2_with fail
 refine (m.out _).mono ?_
 rintro e w1 ⟨rfl,hb⟩
 have d:=ah ((b.out _).trans (hb.mono (b.out _).size))
 clear hb
 go_wp2_with fail
 refine (HS.out w1 (n.out.below d.out)).mono ?_
 rintro e p ⟨rfl,hb⟩
 have h:=bth d hb
 clear hb
 go_wp2_with fail
 go_ret2
 exact ⟨rfl,h.out⟩
section
variable {O:Nat → Prop} {N R M:Nat} {w:World} {g:Nat} {q:Int} {L:LK} {sy:Nat → Bool}
def Fq (O:Nat→Prop) (N R M:Nat) (g:Nat) (q:Int) (L:LK) (sy:Nat→Bool) (x:List UInt8) (w:World) (e:Ending) (w':World):Prop:=e= .returned (.tuple #[.agg (idC x).toArray,.int .i64 0])∧DV O N R M w' g q L sy∧Kp O w w'
theorem Jv (hv:DV O N R M w g q L sy) (hG:cu w) (k:Int) (s:ByteArray) (hr:av ⟨k,s⟩=true) (hN:N+R≤900000) (U:M≤1000000) (hs:L 0 (bL (idO ⟨k,s⟩))=none) (ht:L 0 (bg (bL (idO ⟨k,s⟩)))=none) (hM:s.size+12≤M) (hq:3*((N+1)*M)+M≤q) (V:q≤1000000000) :
  Calls prog 113 #[.pointer (some ⟨g,0,none⟩),.agg #[.int .i64 k,.string s]] w (Fq O (N+1) (R+2) M g q (L.put 0 (bL (idO ⟨k,s⟩)) (some (aZ ⟨k,s⟩,0))) (upN sy 0 false) (idO ⟨k,s⟩) w):=by
 obtain ⟨zi,aE,Q⟩:=uh
 have l:(idO ⟨k,s⟩).length=32:=rQ _
 have G:Hid (∀W,Laid W→Calls prog 111 #[.agg #[.int .i64 k,.string s]] W fun e w'=>e= .returned (.tuple #[.agg (idC (idO ⟨k,s⟩)).toArray,.bool true])∧Below W.heap.size W w'):=ah fun W hL=>by
  have h:=yM k s W hL
  unfold o9 at h
  rw [hr] at h
  exact h
 have F:Hid (∀W,Below w.heap.size w W→Calls prog 117 #[.pointer (some ⟨g,0,none⟩),.agg (idC (idO ⟨k,s⟩)).toArray] W fun e w'=>e= .returned (.tuple #[.agg #[.int .i64 0,.string ⟨#[]⟩],.int .i64 6])∧Below W.heap.size W w'):=ah fun W hb=>by
  have h:=sj (hv.below hb) (by omega) U (hG.below hb) l
  have e:fF L.dk (idO ⟨k,s⟩)= .inl 6:=by
   unfold fF LK.dk
   rw [show L 0 (ofB (bJ (idO ⟨k,s⟩)))=none from hs]
   rfl
  unfold qU at h
  rw [e] at h
  exact h
 have E:=ah (fun W hc=>tX k s hr W hc)
 have y:=ah (fun W=>lW (idO ⟨k,s⟩) l W)
 have I:=jJ (o:=⟨k,s⟩) (by have:=nX hr;show s.size<128^3;omega)
 have an:3*((N+1)*M)+((aZ ⟨k,s⟩).size:Int)≤q:=by
  have h1:(aZ ⟨k,s⟩).size≤M:=Nat.le_trans I hM
  omega
 have p:Hid (∀W,Below w.heap.size w W→Calls prog 178 #[.pointer (some ⟨g,0,none⟩),.string ⟨#[108,111,111,115,101]⟩,.string (ofB (bJ (idO ⟨k,s⟩))),.string (aZ ⟨k,s⟩)] W fun e w'=>e= .returned (.int .i64 0)∧DV (Ou O w W) (N+1) (R+2) M w' g q (L.put 0 (bL (idO ⟨k,s⟩)) (some (aZ ⟨k,s⟩,0))) (upN sy 0 false)∧Kp (Ou O w W) W w'):=ah fun W hb =>
  CY (k:=0) (nm:=bL (idO ⟨k,s⟩)) (hv.on hb) (by omega) hN (GZ l) (EW l) ht (Nat.le_trans I hM) (by omega) an V
 have HG:=ah hG
 have ar:Hid (∀W,DV (Ou O w W) (N+1) (R+2) M W g q (L.put 0 (bL (idO ⟨k,s⟩)) (some (aZ ⟨k,s⟩,0))) (upN sy 0 false)→True):=ah fun _ _=>trivial
 have ax:=ah hv.gW
 have aq:=ah hv.olt
 clear hv hG hs ht hM U hq V hN I hr
 have m:Hid ((idC (idO ⟨k,s⟩)).length=32):=ah (by rw [aA,l])
 have K:=ah (bC (idO ⟨k,s⟩))
 have r:(prog.info? 143).map (·.size)=some (idC (idO ⟨k,s⟩)).length:=by rw [m.out];exact iN
 clear l ar
 obtain ⟨LP,ab⟩:∃z,L.put 0 (bL (idO ⟨k,s⟩)) (some (aZ ⟨k,s⟩,0))=z:=⟨_,rfl⟩
 rw [ab] at p ⊢
 clear ab
 unfold Fq
 generalize ofB (bJ (idO ⟨k,s⟩))=nm at y p
 generalize aZ ⟨k,s⟩=lb at E p
 generalize idC (idO ⟨k,s⟩)=x at G F y m K r ⊢
 have D:=ah iN
 obtain ⟨W,Z⟩:∃W,(w.alloc (.cells #[.int .i64 k,.string s] 24)).alloc (.cells zi 143)=W:=⟨_,rfl⟩
 have aa:Below w.heap.size w W:=by rw [←Z];exact bal.alloc (by simp) _
 have P:ak W w.heap.size 24 [.int .i64 k,.string s]:=by rw [←Z];exact (ak.new w 24 [.int .i64 k,.string s]).below bal
 have T:ak W (w.heap.size+1) 143 zi.toList:=by
  rw [←Z]
  have:=ak.new (w.alloc (.cells #[.int .i64 k,.string s] 24)) 143 zi.toList
  rw [World.size_alloc] at this
  simpa using this
 have Y:=ah aa
 have f:=ah P
 have a:=ah T
 have HW:=ah Z
 have e0:=P.range
 have h2:(prog.info? 24).map (·.size)=some ([.int .i64 k,.string s]:List Value).length:=gZ
 clear Z aa P T
 go_enter func113,ntmps113
 go_upto_region 1 with fail
 rw [HW.out]
 clear HW
 go_wp2_with (refine wpList_load_mid rfl 24 _ rfl w.heap.size 0 rfl [.int .i64 k,.string s] _ e0 underlying24 rfl h2 ?_)
 refine (G.out W (HG.out.below Y.out).laid).mono ?_
 rintro e w1 ⟨rfl,C⟩
 have ad:=bth Y C
 replace f:=ah (f.out.below C)
 replace a:=ah (a.out.below C)
 clear C G e0
 go_upto_region 2 with (refine aC rfl 143 _ _ rfl zi x rfl rfl 32 m.out Q D.out K.out ?_;intro w2 H u a0)
 have ac:=bth ad u
 replace f:=ah (f.out.below u)
 replace a:=ah (a.out.below u)
 have d:=ah H
 have J:=H.range
 clear u H
 go_wp2_with (refine wpList_load_mid rfl 143 _ rfl w1.heap.size 0 rfl x _ J underlying143 rfl r ?_)
 refine (F.out w2 ac.out).mono ?_
 rintro e w3 ⟨rfl,n⟩
 have ao:=bth ac n
 replace f:=ah (f.out.below n)
 replace a:=ah (a.out.below n)
 replace d:=ah (d.out.below n)
 clear n F J
 go_upto_region 7 with fail
 have i:Below w3.heap.size w3 (w3.alloc (.cells #[.int .i64 0,.string ⟨#[]⟩] 24)):=bal
 generalize w3.alloc (.cells #[.int .i64 0,.string ⟨#[]⟩] 24)=w4 at i ⊢
 have af:=bth ao i
 replace f:=ah (f.out.below i)
 replace a:=ah (a.out.below i)
 replace d:=ah (d.out.below i)
 have e0:=f.out.range
 clear i
 go_wp2_with (refine wpList_load_mid rfl 24 _ rfl w.heap.size 0 rfl [.int .i64 k,.string s] _ e0 underlying24 rfl h2 ?_)
 refine (E.out w4 (HG.out.below af.out).crc).mono ?_
 rintro e w5 ⟨rfl,A⟩
 have aw:=bth af A
 replace a:=ah (a.out.below A)
 replace d:=ah (d.out.below A)
 have J:=d.out.range
 clear A e0 f E
 go_wp2_with (refine wpList_load_mid rfl 143 _ rfl w1.heap.size 0 rfl x _ J underlying143 rfl r ?_)
 refine (y.out w5).mono ?_
 rintro e w6 ⟨rfl,t⟩
 have X:=bth aw t
 replace a:=ah (a.out.below t)
 replace d:=ah (d.out.below t)
 have al:=a.out.lt
 clear t J y
 go_wp2_with fail
 refine (p.out w6 X.out).mono ?_
 rintro e w7 ⟨rfl,ag,v⟩
 replace a:=ah (a.out.kp v (.inr ⟨by omega,a.out.lt⟩))
 replace d:=ah (d.out.kp v (.inr ⟨ad.out.size,d.out.lt⟩))
 have J:=d.out.range
 obtain ⟨WE,B⟩:∃z,w7.setCells (w.heap.size+1) 0 x=z:=⟨_,rfl⟩
 have am:w7.there (w.heap.size+1) 0 32:=by have:=a.out.there;simpa [Q] using this
 have ap:WE.rangeAt (w.heap.size+1) 0 x:=by rw [←B];exact (a.out.set (us:=x) (by rw [m.out];simpa using Q.symm)).range
 have S:Chg (fun j=>j=w.heap.size+1) w7 WE:=by rw [←B];exact uV _ _ _
 have az:=a.out.lt
 have ae:Hid (DV O (N+1) (R+2) M WE g q LP (upN sy 0 false)∧Kp O w WE):=ah (by
  refine ⟨(ag.chg S (fun j hj=> ?_)).sub (fun b hb=> .inl hb) ax.out,(Kp.of X.out).trans ((v.sub fun b _ hb=> .inl hb).trans (S.mono fun j hj hn hO=> ?_))⟩
  ·rw [hj]
   exact .inr ⟨by omega,al⟩
  have:=aq.out j hO;omega)
 have ai:=ah B
 clear B S ag v p
 go_wp2_with (first|(refine wpList_load_mid rfl 143 _ rfl w1.heap.size 0 rfl x _ J underlying143 rfl r ?_)|(refine aj rfl 143 _ _ rfl (w.heap.size+1) 0 x rfl rfl 32 m.out am D.out K.out ?_;rw [ai.out]))
 refine aD rfl (w.heap.size+1) 0 rfl x _ ap underlying143 rfl r rfl _ rfl ?_
 exact ⟨rfl,ae.out⟩
end
end
section
open Go.RowKit Go.Maps Go.Sort Go.Shelf
def vk (r:Option Ob) (w:World) (e:Ending) (w':World):Prop :=
 (match r with
 | none=>e= .returned (.tuple #[.agg #[.int .i64 0,.string ⟨#[]⟩],.bool false])
 | some o=>e= .returned (.tuple #[.agg (obC o).toArray,.bool true]))∧Below w.heap.size w w'
theorem iM {r:Option Ob} {w w':World} (h:r=none) (hb:Below w.heap.size w w'):vk r w (.returned (.tuple #[.agg #[.int .i64 0,.string ⟨#[]⟩],.bool false])) w':=⟨by rw [h],hb⟩
theorem wV {r:Option Ob} {o:Ob} {c:List Value} {w w':World} (h:r=some o) (a:obC o=c) (hb:Below w.heap.size w w'):vk r w (.returned (.tuple #[.agg c.toArray,.bool true])) w':=⟨by rw [h,←a],hb⟩
end
end Go.Proofs.YtejamhkgjkhjdaaGreatDoor

/- A part of this claim. -/
import Derived.Test.YtejamhkgjkhjdaaGreatDoorXn14
import Derived.Test.YtejamhkgjkhjdaaGreatDoorXn18
namespace Go.Proofs.YtejamhkgjkhjdaaGreatDoor
open Tryz
set_option maxHeartbeats 64000000
set_option maxRecDepth 100000
section
open Go.RowKit
def aT (b:Nat):Value:=.pointer (some ⟨b,0,none⟩)
def zC (w:World) (b:Nat) (s:ByteArray):Prop:=b<w.heap.size∧w.cell? ⟨b,0,none⟩=some (.string s)
theorem zC.below {w w':World} {b:Nat} {s:ByteArray} (h:zC w b s) (hb:Below w.heap.size w w'):zC w' b s:=⟨Nat.lt_of_lt_of_le h.1 hb.size,au h.2 hb h.1⟩
def xV (w:World) (b:Nat) (dt:ByteArray→Option ByteArray):Prop:=∃m n f,b<w.heap.size∧w.cell? ⟨b,0,none⟩=some (.map (some m))∧aP aT w m n f∧n≤1000000∧ ∀x,x.size≤maxLen→(f x=none∧dt x=none)∨ ∃fb s,f x=some fb∧dt x=some s∧zC w fb s
theorem xV.below {w w':World} {b:Nat} {dt:ByteArray→Option ByteArray} (h:xV w b dt) (hb:Below w.heap.size w w'):xV w' b dt:=by
 obtain ⟨m,n,f,h1,e,a,g,d⟩:=h
 refine ⟨m,n,f,Nat.lt_of_lt_of_le h1 hb.size,au e hb h1,a.on hb,g,fun x hx=> ?_⟩
 rcases d x hx with h|⟨fb,s,j,k,i⟩
 ·exact .inl h
 exact .inr ⟨fb,s,j,k,i.below hb⟩
def jy (w:World) (g:Nat) (d:Dk):Prop:=∃m n f,g<w.heap.size∧w.cell? ⟨g,0,none⟩=some (.map (some m))∧w.cell? ⟨g,4,none⟩=some (.bool false)∧aP aT w m n f∧ ∀x,x.size≤maxLen→(f x=none∧aW x=none)∨ ∃b k,f x=some b∧aW x=some k∧xV w b (d k)
theorem jy.below {w w':World} {g:Nat} {d:Dk} (h:jy w g d) (hb:Below w.heap.size w w'):jy w' g d:=by
 obtain ⟨m,n,f,h1,i,a,e,o⟩:=h
 refine ⟨m,n,f,Nat.lt_of_lt_of_le h1 hb.size,au i hb h1,au a hb h1,e.on hb,fun x hx=> ?_⟩
 rcases o x hx with h|⟨b,k,l,p,j⟩
 ·exact .inl h
 exact .inr ⟨b,k,l,p,j.below hb⟩
theorem uD (x:ByteArray) (w:World) (hx:x.size≤1000000000):Calls prog 78 #[.string x] w fun e w'=>e= .returned (.bool (!aJ x))∧Below w.heap.size w w':=by
 have d:=ah (xJ x w hx)
 generalize aJ x=b at d ⊢
 go_enter func78,ntmps78
 go_wp2_with fail
 refine d.out.mono ?_
 rintro e w1 ⟨rfl,a⟩
 go_wp2_with fail
 go_ret
 exact ⟨rfl,a⟩
theorem FV (w:World):Calls prog 149 #[.slice none 0 0,.func (.func 78) #[] #[]] w fun e w'=>e= .returned (.int .i64 (-1))∧Below w.heap.size w w':=by
 go_enter func149,ntmps149
 go_wp2_with fail
 refine wp_loop_rounds 1 ?_
 rw [rounds_succ]
 go_wp2_with fail
 go_ret
 exact ⟨rfl,Below.refl _ _⟩
theorem FU (b:Nat) (x:ByteArray) (w:World) (g:w.cell? ⟨b,0,none⟩=some (.string x)) (hx:x.size≤1000000000):Calls prog 149 #[.slice (some ⟨b,0,none⟩) 1 1,.func (.func 78) #[] #[]] w fun e w'=>e= .returned (.int .i64 (if aJ x=true then -1 else 0))∧Below w.heap.size w w':=by
 have f:=ah (uD x w hx)
 cases d:aJ x with
 | true =>
  rw [d] at f
  rw [if_pos rfl]
  clear d
  go_enter func149,ntmps149
  go_wp2_with fail
  refine wp_loop_rounds 2 ?_
  rw [rounds_succ]
  go_wp2_with fail
  refine f.out.mono ?_
  rintro e w1 ⟨rfl,a⟩
  go_wp2_with fail
  rw [rounds_succ]
  go_wp2_with fail
  go_ret
  exact ⟨rfl,a⟩
 | false =>
  rw [d] at f
  rw [if_neg (by decide)]
  clear d
  go_enter func149,ntmps149
  go_wp2_with fail
  refine wp_loop_rounds 1 ?_
  rw [rounds_succ]
  go_wp2_with fail
  refine f.out.mono ?_
  rintro e w1 ⟨rfl,a⟩
  go_wp2_with fail
  go_ret
  exact ⟨rfl,a⟩
theorem wJ (w:World):Calls prog 77 #[.slice none 0 0,.func (.func 78) #[] #[]] w fun e w'=>e= .returned (.bool false)∧Below w.heap.size w w':=by
 have b:=ah (FV w)
 go_enter func77,ntmps77
 go_wp2_with fail
 refine b.out.mono ?_
 rintro e w1 ⟨rfl,a⟩
 go_wp2_with fail
 go_ret
 exact ⟨rfl,a⟩
theorem jG (b:Nat) (x:ByteArray) (w:World) (d:w.cell? ⟨b,0,none⟩=some (.string x)) (hx:x.size≤1000000000):Calls prog 77 #[.slice (some ⟨b,0,none⟩) 1 1,.func (.func 78) #[] #[]] w fun e w'=>e= .returned (.bool (!aJ x))∧Below w.heap.size w w':=by
 have f:=ah (FU b x w d hx)
 clear d
 cases g:aJ x<;>rw [g] at f
 all_goals
  go_enter func77,ntmps77
  go_wp2_with fail
  refine f.out.mono ?_
  rintro e w1 ⟨rfl,a⟩
  go_wp2_with fail
  go_ret
  exact ⟨rfl,a⟩
def vB (d:Dk) (x:ByteArray) (ok:Bool) (w:World) (e:Ending) (w':World):Prop :=
 (match (if ok=true then aW x else none) with
 | none=>e= .returned (.tuple #[.pointer none,.int .i64 1])
 | some k=> ∃b,e= .returned (.tuple #[.pointer (some ⟨b,0,none⟩),.int .i64 0])∧xV w' b (d k))∧Below w.heap.size w w'
theorem xD {d:Dk} {x:ByteArray} {ok:Bool} {w w':World} (h:(if ok=true then aW x else none)=none) (hb:Below w.heap.size w w'):vB d x ok w (.returned (.tuple #[.pointer none,.int .i64 1])) w':=⟨by rw [h],hb⟩
theorem DU {d:Dk} {x:ByteArray} {k b:Nat} {ok:Bool} {w w':World} (h:(if ok=true then aW x else none)=some k) (hd:xV w' b (d k)) (hb:Below w.heap.size w w'):vB d x ok w (.returned (.tuple #[.pointer (some ⟨b,0,none⟩),.int .i64 0])) w':=⟨by rw [h];exact ⟨b,rfl,hd⟩,hb⟩
theorem rW (w:World):(zeroValue 46).run prog w= .ok (.pointer none) w:=by kernel_rfl
theorem eH (w:World):(zeroValue 50).run prog w= .ok (.pointer none) w:=by kernel_rfl
theorem xL (g:Nat) (d:Dk) (x:ByteArray) (a:Option Addr) (n c:Nat) (ok:Bool) (w:World) (h:jy w g d) (hx:x.size≤1000000) (o:Calls prog 77 #[.slice a n c,.func (.func 78) #[] #[]] w fun e w'=>e= .returned (.bool (!ok))∧Below w.heap.size w w') :
  Calls prog 30 #[.pointer (some ⟨g,0,none⟩),.string x,.slice a n c] w (vB d x ok w):=by
 have u:=ah o
 have r:=ah h
 obtain ⟨m,y,f,v,z,c4,hm,p⟩:=h
 have j:=hm.look underlying47 (rW w) (x:=x) (by unfold maxLen;omega)
 rcases p x (by unfold maxLen;omega) with ⟨e1,e2⟩|⟨b,k,e1,e2,e3⟩
 ·rw [e1] at j
  dsimp only [Option.map,Option.getD] at j
  have l:Hid ((if ok=true then aW x else none)=none):=ah (by rw [e2];split<;>rfl)
  clear e1 e2 hm p o r
  go_enter func30,ntmps30
  go_wp2_with fail
  go_ret2
  exact xD l.out (Below.refl _ _)
 rw [e1] at j
 dsimp only [Option.map,Option.getD,aT] at j
 have s:=ah e3
 cases ok with
 | true =>
  have q:Hid ((if true=true then aW x else none)=some k):=ah (by rw [e2];rfl)
  have t:=ah (fun (w':World) (hb:Below w.heap.size w w')=>au c4 hb v)
  clear e1 e2 hm p o r e3 c4
  go_enter func30,ntmps30
  go_wp2_with fail
  refine u.out.mono ?_
  rintro e w1 ⟨rfl,i⟩
  have c4:=t.out w1 i
  go_wp2_with fail
  go_ret2
  exact DU q.out (s.out.below i) i
 | false =>
  have l:Hid ((if false=true then aW x else none)=none):=ah rfl
  clear e1 e2 hm p o r e3 c4
  go_enter func30,ntmps30
  go_wp2_with fail
  refine u.out.mono ?_
  rintro e w1 ⟨rfl,i⟩
  go_wp2_with fail
  go_ret2
  exact xD l.out i
def rdD (d:Dk) (x nm:ByteArray):ByteArray×Nat:=match (if aJ nm=true then aW x else none) with
 | none=>(⟨#[]⟩,1)
 | some k=>match d k nm with
  | none=>(⟨#[]⟩,6)
  | some s=>(s,0)
def En (d:Dk) (x nm:ByteArray) (w:World) (e:Ending) (w':World):Prop:=e= .returned (.tuple #[.string (rdD d x nm).1,.int .i64 ((rdD d x nm).2:Int)])∧Below w.heap.size w w'
theorem pO {d:Dk} {x nm s:ByteArray} {k:Nat} {w w':World} (h:rdD d x nm=(s,k)) (hb:Below w.heap.size w w'):En d x nm w (.returned (.tuple #[.string s,.int .i64 (k:Int)])) w':=⟨by rw [h],hb⟩
theorem qJ (g:Nat) (d:Dk) (x nm:ByteArray) (w:World) (h:jy w g d) (hx:x.size≤1000000) (A:nm.size≤1000000):Calls prog 51 #[.pointer (some ⟨g,0,none⟩),.string x,.string nm] w (En d x nm w):=by
 obtain ⟨W,t⟩:∃W,w.alloc (.cells #[.string nm] 9)=W:=⟨_,rfl⟩
 have p:Below w.heap.size w W:=by rw [←t];exact bal
 have r:W.cell? ⟨w.heap.size,0,none⟩=some (.string nm):=by rw [←t,World.cell?_alloc_new];rfl
 have y:=ah p
 have v:=ah t
 have o:=ah (xL g d x (some ⟨w.heap.size,0,none⟩) 1 1 (aJ nm) W (h.below p) hx (jG w.heap.size nm W r (by omega)))
 unfold vB at o
 clear t p r h
 cases l:(if aJ nm=true then aW x else none) with
 | none =>
  have q:Hid (rdD d x nm=(⟨#[]⟩,1)):=ah (by unfold rdD;rw [l])
  rw [l] at o
  dsimp only at o
  clear l
  go_enter func51,ntmps51
  go_wp2_with fail
  rw [v.out]
  refine o.out.mono ?_
  rintro e w1 ⟨rfl,a⟩
  have j:=bth y a
  clear a
  go_wp2_with fail
  go_ret2
  exact pO q.out j.out
 | some k =>
  rw [l] at o
  dsimp only at o
  go_enter func51,ntmps51
  go_wp2_with fail
  rw [v.out]
  refine o.out.mono ?_
  rintro e w1 ⟨⟨b,rfl,hd⟩,a⟩
  have j:=bth y a
  obtain ⟨m,n,f,z,B,hm,_,u⟩:=hd
  have i:=hm.look underlying53 (eH w1) (x:=nm) (by unfold maxLen;omega)
  rcases u nm (by unfold maxLen;omega) with ⟨e1,e2⟩|⟨fb,s,e1,e2,e3⟩
  ·rw [e1] at i
   dsimp only [Option.map,Option.getD] at i
   have q:Hid (rdD d x nm=(⟨#[]⟩,6)):=ah (by unfold rdD;rw [l];dsimp only;rw [e2])
   clear l e1 e2 hm u a
   go_wp2_with fail
   go_ret2
   exact pO q.out j.out
  rw [e1] at i
  dsimp only [Option.map,Option.getD,aT] at i
  have q:Hid (rdD d x nm=(s,0)):=ah (by unfold rdD;rw [l];dsimp only;rw [e2])
  have cf:=e3.2
  clear l e1 e2 hm u a e3
  go_wp2_with fail
  go_ret2
  exact pO q.out j.out
end
end Go.Proofs.YtejamhkgjkhjdaaGreatDoor

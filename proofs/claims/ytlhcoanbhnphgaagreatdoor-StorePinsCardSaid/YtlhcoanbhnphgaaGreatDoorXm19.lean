/- A part of this claim. -/
import Derived.Test.YtlhcoanbhnphgaaGreatDoorXm14
import Derived.Test.YtlhcoanbhnphgaaGreatDoorXm18
namespace Go.Proofs.YtlhcoanbhnphgaaGreatDoor
open Tryz
set_option maxHeartbeats 64000000
set_option maxRecDepth 100000
section
open Go.RowKit
def bF (b:Nat):Value:=.pointer (some ⟨b,0,none⟩)
def CF (w:World) (b:Nat) (s:ByteArray):Prop:=b<w.heap.size∧w.cell? ⟨b,0,none⟩=some (.string s)
theorem CF.below {w w':World} {b:Nat} {s:ByteArray} (h:CF w b s) (hb:Below w.heap.size w w'):CF w' b s:=⟨Nat.lt_of_lt_of_le h.1 hb.size,au h.2 hb h.1⟩
def Bf (w:World) (b:Nat) (dt:ByteArray→Option ByteArray):Prop:=∃m n f,b<w.heap.size∧w.cell? ⟨b,0,none⟩=some (.map (some m))∧aZ bF w m n f∧n≤1000000∧ ∀x,x.size≤maxLen→(f x=none∧dt x=none)∨ ∃fb s,f x=some fb∧dt x=some s∧CF w fb s
theorem Bf.below {w w':World} {b:Nat} {dt:ByteArray→Option ByteArray} (h:Bf w b dt) (hb:Below w.heap.size w w'):Bf w' b dt:=by
 obtain ⟨m,n,f,h1,d,k,a,i⟩:=h
 refine ⟨m,n,f,Nat.lt_of_lt_of_le h1 hb.size,au d hb h1,k.on hb,a,fun x hx=> ?_⟩
 rcases i x hx with h|⟨fb,s,g,j,e⟩
 ·exact .inl h
 exact .inr ⟨fb,s,g,j,e.below hb⟩
def kR (w:World) (g:Nat) (d:Dk):Prop:=∃m n f,g<w.heap.size∧w.cell? ⟨g,0,none⟩=some (.map (some m))∧w.cell? ⟨g,4,none⟩=some (.bool false)∧aZ bF w m n f∧ ∀x,x.size≤maxLen→(f x=none∧cu x=none)∨ ∃b k,f x=some b∧cu x=some k∧Bf w b (d k)
theorem kR.below {w w':World} {g:Nat} {d:Dk} (h:kR w g d) (hb:Below w.heap.size w w'):kR w' g d:=by
 obtain ⟨m,n,f,h1,a,p,j,l⟩:=h
 refine ⟨m,n,f,Nat.lt_of_lt_of_le h1 hb.size,au a hb h1,au p hb h1,j.on hb,fun x hx=> ?_⟩
 rcases l x hx with h|⟨b,k,i,o,e⟩
 ·exact .inl h
 exact .inr ⟨b,k,i,o,e.below hb⟩
theorem yw (x:ByteArray) (w:World) (hx:x.size≤1000000000):Calls prog 186 #[.string x] w fun e w'=>e= .returned (.bool (!aU x))∧Below w.heap.size w w':=by
 have d:=ah (Ky x w hx)
 generalize aU x=b at d ⊢
 go_enter func186,ntmps186
 go_wp2_with fail
 refine d.out.mono ?_
 rintro e w1 ⟨rfl,a⟩
 go_wp2_with fail
 go_ret
 exact ⟨rfl,a⟩
theorem Jd (w:World):Calls prog 231 #[.slice none 0 0,.func (.func 186) #[] #[]] w fun e w'=>e= .returned (.int .i64 (-1))∧Below w.heap.size w w':=by
 go_enter func231,ntmps231
 go_wp2_with fail
 refine wp_loop_rounds 1 ?_
 rw [rounds_succ]
 go_wp2_with fail
 go_ret
 exact ⟨rfl,Below.refl _ _⟩
theorem Jc (b:Nat) (x:ByteArray) (w:World) (g:w.cell? ⟨b,0,none⟩=some (.string x)) (hx:x.size≤1000000000):Calls prog 231 #[.slice (some ⟨b,0,none⟩) 1 1,.func (.func 186) #[] #[]] w fun e w'=>e= .returned (.int .i64 (if aU x=true then -1 else 0))∧Below w.heap.size w w':=by
 have f:=ah (yw x w hx)
 cases d:aU x with
 | true =>
  rw [d] at f
  rw [if_pos rfl]
  clear d
  go_enter func231,ntmps231
  go_wp2_with fail
  refine wp_loop_rounds 2 ?_
  rw [rounds_succ]
  go_wp2_with fail
  refine f.out.mono ?_
  rintro e w1 ⟨rfl,a⟩
  go_wp2_with fail
  rw [rounds_succ]
  go_wp2_with fail
  go_ret
  exact ⟨rfl,a⟩
 | false =>
  rw [d] at f
  rw [if_neg (by decide)]
  clear d
  go_enter func231,ntmps231
  go_wp2_with fail
  refine wp_loop_rounds 1 ?_
  rw [rounds_succ]
  go_wp2_with fail
  refine f.out.mono ?_
  rintro e w1 ⟨rfl,a⟩
  go_wp2_with fail
  go_ret
  exact ⟨rfl,a⟩
theorem zY (w:World):Calls prog 185 #[.slice none 0 0,.func (.func 186) #[] #[]] w fun e w'=>e= .returned (.bool false)∧Below w.heap.size w w':=by
 have b:=ah (Jd w)
 go_enter func185,ntmps185
 go_wp2_with fail
 refine b.out.mono ?_
 rintro e w1 ⟨rfl,a⟩
 go_wp2_with fail
 go_ret
 exact ⟨rfl,a⟩
theorem nS (b:Nat) (x:ByteArray) (w:World) (d:w.cell? ⟨b,0,none⟩=some (.string x)) (hx:x.size≤1000000000):Calls prog 185 #[.slice (some ⟨b,0,none⟩) 1 1,.func (.func 186) #[] #[]] w fun e w'=>e= .returned (.bool (!aU x))∧Below w.heap.size w w':=by
 have f:=ah (Jc b x w d hx)
 clear d
 cases g:aU x<;>rw [g] at f
 all_goals
  go_enter func185,ntmps185
  go_wp2_with fail
  refine f.out.mono ?_
  rintro e w1 ⟨rfl,a⟩
  go_wp2_with fail
  go_ret
  exact ⟨rfl,a⟩
def zf (d:Dk) (x:ByteArray) (ok:Bool) (w:World) (e:Ending) (w':World):Prop :=
 (match (if ok=true then cu x else none) with
 | none=>e= .returned (.tuple #[.pointer none,.int .i64 1])
 | some k=> ∃b,e= .returned (.tuple #[.pointer (some ⟨b,0,none⟩),.int .i64 0])∧Bf w' b (d k))∧Below w.heap.size w w'
theorem AO {d:Dk} {x:ByteArray} {ok:Bool} {w w':World} (h:(if ok=true then cu x else none)=none) (hb:Below w.heap.size w w'):zf d x ok w (.returned (.tuple #[.pointer none,.int .i64 1])) w':=⟨by rw [h],hb⟩
theorem Gp {d:Dk} {x:ByteArray} {k b:Nat} {ok:Bool} {w w':World} (h:(if ok=true then cu x else none)=some k) (hd:Bf w' b (d k)) (hb:Below w.heap.size w w'):zf d x ok w (.returned (.tuple #[.pointer (some ⟨b,0,none⟩),.int .i64 0])) w':=⟨by rw [h];exact ⟨b,rfl,hd⟩,hb⟩
theorem ql (w:World):(zeroValue 79).run prog w= .ok (.pointer none) w:=by kernel_rfl
theorem gU (w:World):(zeroValue 116).run prog w= .ok (.pointer none) w:=by kernel_rfl
theorem AY (g:Nat) (d:Dk) (x:ByteArray) (a:Option Addr) (n c:Nat) (ok:Bool) (w:World) (h:kR w g d) (hx:x.size≤1000000) (o:Calls prog 185 #[.slice a n c,.func (.func 186) #[] #[]] w fun e w'=>e= .returned (.bool (!ok))∧Below w.heap.size w w') :
  Calls prog 118 #[.pointer (some ⟨g,0,none⟩),.string x,.slice a n c] w (zf d x ok w):=by
 have u:=ah o
 have r:=ah h
 obtain ⟨m,y,f,v,z,c4,hm,p⟩:=h
 have j:=hm.look underlying75 (ql w) (x:=x) (by unfold maxLen;omega)
 rcases p x (by unfold maxLen;omega) with ⟨e1,e2⟩|⟨b,k,e1,e2,e3⟩
 ·rw [e1] at j
  dsimp only [Option.map,Option.getD] at j
  have l:Hid ((if ok=true then cu x else none)=none):=ah (by rw [e2];split<;>rfl)
  clear e1 e2 hm p o r
  go_enter func118,ntmps118
  go_wp2_with fail
  go_ret2
  exact AO l.out (Below.refl _ _)
 rw [e1] at j
 dsimp only [Option.map,Option.getD,bF] at j
 have s:=ah e3
 cases ok with
 | true =>
  have q:Hid ((if true=true then cu x else none)=some k):=ah (by rw [e2];rfl)
  have t:=ah (fun (w':World) (hb:Below w.heap.size w w')=>au c4 hb v)
  clear e1 e2 hm p o r e3 c4
  go_enter func118,ntmps118
  go_wp2_with fail
  refine u.out.mono ?_
  rintro e w1 ⟨rfl,i⟩
  have c4:=t.out w1 i
  go_wp2_with fail
  go_ret2
  exact Gp q.out (s.out.below i) i
 | false =>
  have l:Hid ((if false=true then cu x else none)=none):=ah rfl
  clear e1 e2 hm p o r e3 c4
  go_enter func118,ntmps118
  go_wp2_with fail
  refine u.out.mono ?_
  rintro e w1 ⟨rfl,i⟩
  go_wp2_with fail
  go_ret2
  exact AO l.out i
def rdD (d:Dk) (x nm:ByteArray):ByteArray×Nat:=match (if aU nm=true then cu x else none) with
 | none=>(⟨#[]⟩,1)
 | some k=>match d k nm with
  | none=>(⟨#[]⟩,6)
  | some s=>(s,0)
def GJ (d:Dk) (x nm:ByteArray) (w:World) (e:Ending) (w':World):Prop:=e= .returned (.tuple #[.string (rdD d x nm).1,.int .i64 ((rdD d x nm).2:Int)])∧Below w.heap.size w w'
theorem sP {d:Dk} {x nm s:ByteArray} {k:Nat} {w w':World} (h:rdD d x nm=(s,k)) (hb:Below w.heap.size w w'):GJ d x nm w (.returned (.tuple #[.string s,.int .i64 (k:Int)])) w':=⟨by rw [h],hb⟩
theorem uI (g:Nat) (d:Dk) (x nm:ByteArray) (w:World) (h:kR w g d) (hx:x.size≤1000000) (A:nm.size≤1000000):Calls prog 71 #[.pointer (some ⟨g,0,none⟩),.string x,.string nm] w (GJ d x nm w):=by
 obtain ⟨W,t⟩:∃W,w.alloc (.cells #[.string nm] 9)=W:=⟨_,rfl⟩
 have o:Below w.heap.size w W:=by rw [←t];exact bal
 have q:W.cell? ⟨w.heap.size,0,none⟩=some (.string nm):=by rw [←t,World.cell?_alloc_new];rfl
 have v:=ah o
 have y:=ah t
 have p:=ah (AY g d x (some ⟨w.heap.size,0,none⟩) 1 1 (aU nm) W (h.below o) hx (nS w.heap.size nm W q (by omega)))
 unfold zf at p
 clear t o q h
 cases l:(if aU nm=true then cu x else none) with
 | none =>
  have r:Hid (rdD d x nm=(⟨#[]⟩,1)):=ah (by unfold rdD;rw [l])
  rw [l] at p
  dsimp only at p
  clear l
  go_enter func71,ntmps71
  go_wp2_with fail
  rw [y.out]
  refine p.out.mono ?_
  rintro e w1 ⟨rfl,a⟩
  have j:=bth v a
  clear a
  go_wp2_with fail
  go_ret2
  exact sP r.out j.out
 | some k =>
  rw [l] at p
  dsimp only at p
  go_enter func71,ntmps71
  go_wp2_with fail
  rw [y.out]
  refine p.out.mono ?_
  rintro e w1 ⟨⟨b,rfl,hd⟩,a⟩
  have j:=bth v a
  obtain ⟨m,n,f,z,B,hm,_,u⟩:=hd
  have i:=hm.look underlying80 (gU w1) (x:=nm) (by unfold maxLen;omega)
  rcases u nm (by unfold maxLen;omega) with ⟨e1,e2⟩|⟨fb,s,e1,e2,e3⟩
  ·rw [e1] at i
   dsimp only [Option.map,Option.getD] at i
   have r:Hid (rdD d x nm=(⟨#[]⟩,6)):=ah (by unfold rdD;rw [l];dsimp only;rw [e2])
   clear l e1 e2 hm u a
   go_wp2_with fail
   go_ret2
   exact sP r.out j.out
  rw [e1] at i
  dsimp only [Option.map,Option.getD,bF] at i
  have r:Hid (rdD d x nm=(s,0)):=ah (by unfold rdD;rw [l];dsimp only;rw [e2])
  have cf:=e3.2
  clear l e1 e2 hm u a e3
  go_wp2_with fail
  go_ret2
  exact sP r.out j.out
end
end Go.Proofs.YtlhcoanbhnphgaaGreatDoor

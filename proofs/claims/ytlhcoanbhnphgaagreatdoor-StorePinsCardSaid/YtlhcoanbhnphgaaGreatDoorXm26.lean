/- A part of this claim. -/
import Derived.Test.YtlhcoanbhnphgaaGreatDoorXm20
import Derived.Test.YtlhcoanbhnphgaaGreatDoorXm23
namespace Go.Proofs.YtlhcoanbhnphgaaGreatDoor
open Tryz
set_option maxHeartbeats 64000000
set_option maxRecDepth 100000
section
open Go.RowKit Go.Maps Go.Sort Go.Shelf
def mJ (S:List Idl) (w:World) (e:Ending) (w':World):Prop:=∃v m,e= .returned v∧dF w' v m∧(∀x,x∈m↔x∈S)∧m.length=S.length∧(∀k,v.ownBlock=some k→w.heap.size≤k)∧Below w.heap.size w w'
theorem mJ.from {S:List Idl} {w0 w w':World} {e:Ending} (h:mJ S w e w') (hb:Below w0.heap.size w0 w):mJ S w0 e w':=by
 obtain ⟨v,m,h1,b,g,i,f,d⟩:=h
 exact ⟨v,m,h1,b,g,i,fun k a=>Nat.le_trans hb.size (f k a),hb.trans (d.mono hb.size)⟩
theorem LM (B cf:FuncId) (z:Array Value) (i:CfI cf) (S:List Idl) (W:World) (n:∀x∈S,x.length=32) (y:S.length≤100000)
  (A:Hid (Calls prog 151 #[.func (.func B) #[] z] W fun e w'=> ∃(v:Value) (ss:List I32),e= .returned v∧(iP ss).Perm S∧w'.ownsRow W.heap.size 42 32 v ss.length (dx (iP ss))∧Below W.heap.size W w')) :
  Calls prog 84 #[.func (.func B) #[] z,.func (.func cf) #[] #[]] W (mJ S W):=by
 have t:=ah n
 have q:=ah i
 clear n i
 go_enter func84,ntmps84
 go_wp2_with fail
 refine A.out.mono ?_
 rintro e w1 ⟨v,ss,rfl,p,a,hb⟩
 have h:=ah hb
 have u:bQ w1 W.heap.size 32 v (iP ss).length (dx (iP ss)):=by rw [xE];exact bQ.iE a
 have g:(iP ss).length≤1000000:=by rw [p.length_eq];omega
 have HS:=ah (xZ cf q.out W.heap.size v (iP ss) w1 u (Ot ss) g)
 have o:=ah p
 have l:=ah (fun k (r:v.ownBlock=some k)=>(a.lt k r).1)
 clear p a hb u g A
 go_wp2_with fail
 refine HS.out.mono ?_
 rintro e F ⟨rfl,m,b,_,f,j⟩
 have s:=ah (h.out.grown j h.out.size (fun k r=>l.out k r))
 have d:=b.length_eq
 rw [←d] at f
 have E:=ah (f.row (fun x hx=>t.out x (o.out.mem_iff.1 (b.mem_iff.1 hx))))
 have D:Hid (∀x,x∈m↔x∈S):=ah (fun x=>b.mem_iff.trans o.out.mem_iff)
 have C:Hid (m.length=S.length):=ah (d.trans o.out.length_eq)
 clear d f b j HS o
 go_wp2
 go_ret
 exact ⟨_,m,rfl,E.out,D.out,C.out,l.out,s.out⟩
theorem P8 (cf:FuncId) (f:CfI cf) (b n:Nat) (S:List Idl) (w:World) (hm:bW w b n S) (e:S.length≤100000) :
  Calls prog 84 #[.func (.func 152) #[] #[.pointer (some ⟨w.heap.size,0,none⟩)],.func (.func cf) #[] #[]] (w.alloc (.cells #[.map (some b)] 70)) (mJ S w):=by
 have a:Below w.heap.size w (w.alloc (.cells #[.map (some b)] 70)):=(Below.refl _ w).alloc (Nat.le_refl _) _
 have d:=Cc (enc:=vB) 3 (by omega) w.heap.size b n (gZ S) S (w.alloc (.cells #[.map (some b)] 70)) (by simp) (by simp) (hm.1.on a) hm.2.1 hm.2.2 (fun x _=>sJ)
 have g:=callsIn_wide.1 (Ez 5 (by omega) 152 #[.pointer (some ⟨w.heap.size,0,none⟩)] (enters_of func152 (by kernel_rfl) rfl) _ S.length (by omega) _ d)
 exact (LM _ cf _ f S _ hm.2.2 e (ah g)).mono fun _ _ h=>h.from a
theorem P9 (cf:FuncId) (f:CfI cf) (b n:Nat) (S:List Idl) (w:World) (hm:bW w b n S) (e:S.length≤100000) :
  Calls prog 84 #[.func (.func 250) #[] #[.pointer (some ⟨w.heap.size,0,none⟩)],.func (.func cf) #[] #[]] (w.alloc (.cells #[.map (some b)] 69)) (mJ S w):=by
 have a:Below w.heap.size w (w.alloc (.cells #[.map (some b)] 69)):=(Below.refl _ w).alloc (Nat.le_refl _) _
 have d:=Ce (enc:=vB) 3 (by omega) w.heap.size b n (gZ S) S (w.alloc (.cells #[.map (some b)] 69)) (by simp) (by simp) (hm.1.on a) hm.2.1 hm.2.2 (fun x _=>sJ)
 have g:=callsIn_wide.1 (Ez 5 (by omega) 250 #[.pointer (some ⟨w.heap.size,0,none⟩)] (enters_of func250 (by kernel_rfl) rfl) _ S.length (by omega) _ d)
 exact (LM _ cf _ f S _ hm.2.2 e (ah g)).mono fun _ _ h=>h.from a
theorem NM (x y:Idl) (w:World) (hx:x.length=32) (hy:y.length=32):Calls prog 86 #[.agg (idC x).toArray,.agg (idC y).toArray] w fun e w'=>e= .returned (.int .i64 (cmpL x y))∧ ∃q os',w'=grow (w.drewN q) os':=by
 obtain ⟨W,a⟩:∃W,W=(w.alloc (.cells (idC x).toArray 42)).alloc (.cells (idC y).toArray 42):=⟨_,rfl⟩
 have d:W.rangeAt w.heap.size 0 (idC x):=by
  rw [a];exact ay (w:=w.alloc (.cells (idC x).toArray 42)) (fun j u hu=>by rw [World.cell?_alloc_new,Nat.zero_add];simpa using hu) bal (by simp)
 have b:W.rangeAt (w.heap.size+1) 0 (idC y):=by
  rw [a]
  have:(w.alloc (.cells (idC x).toArray 42)).heap.size=w.heap.size+1:=by simp
  rw [←this]
  exact fun j u hu=>by rw [World.cell?_alloc_new,Nat.zero_add];simpa using hu
 have g:=ah (fun k=>(l8 (W.drewN k) x y w.heap.size 0 (w.heap.size+1) 0 hx hy d b).mono fun _ _ h=>And.intro h.1 h.2.symm)
 have f:Hid (∀k,∃q os',W.drewN k=grow (w.drewN q) os'):=ah (fun k=>⟨k,#[.cells (idC x).toArray 42,.cells (idC y).toArray 42],by rw [a,alloc_eq_grow,alloc_eq_grow,grow_grow];rfl⟩)
 generalize cmpL x y=c at g
 clear d b
 generalize idC x=i at a f
 generalize idC y=l at a f
 go_enter func86,ntmps86
 go_wp2
 rw [←a]
 clear a
 go_quiet ((go_at_call 48;exact Calls.quiet_of_same (g.out _)))
 go_wp2
 go_ret
 exact ⟨rfl,f.out _⟩
theorem QW:CfI 86:=⟨enters_of func86 (by kernel_rfl) rfl,NM⟩
theorem NP (x y:Idl) (w:World) (hx:x.length=32) (hy:y.length=32):Calls prog 226 #[.agg (idC x).toArray,.agg (idC y).toArray] w fun e w'=>e= .returned (.int .i64 (cmpL x y))∧ ∃q os',w'=grow (w.drewN q) os':=by
 obtain ⟨W,a⟩:∃W,W=(w.alloc (.cells (idC x).toArray 42)).alloc (.cells (idC y).toArray 42):=⟨_,rfl⟩
 have d:W.rangeAt w.heap.size 0 (idC x):=by
  rw [a];exact ay (w:=w.alloc (.cells (idC x).toArray 42)) (fun j u hu=>by rw [World.cell?_alloc_new,Nat.zero_add];simpa using hu) bal (by simp)
 have b:W.rangeAt (w.heap.size+1) 0 (idC y):=by
  rw [a]
  have:(w.alloc (.cells (idC x).toArray 42)).heap.size=w.heap.size+1:=by simp
  rw [←this]
  exact fun j u hu=>by rw [World.cell?_alloc_new,Nat.zero_add];simpa using hu
 have g:=ah (fun k=>(l8 (W.drewN k) x y w.heap.size 0 (w.heap.size+1) 0 hx hy d b).mono fun _ _ h=>And.intro h.1 h.2.symm)
 have f:Hid (∀k,∃q os',W.drewN k=grow (w.drewN q) os'):=ah (fun k=>⟨k,#[.cells (idC x).toArray 42,.cells (idC y).toArray 42],by rw [a,alloc_eq_grow,alloc_eq_grow,grow_grow];rfl⟩)
 generalize cmpL x y=c at g
 clear d b
 generalize idC x=i at a f
 generalize idC y=l at a f
 go_enter func226,ntmps226
 go_wp2
 rw [←a]
 clear a
 go_quiet ((go_at_call 48;exact Calls.quiet_of_same (g.out _)))
 go_wp2
 go_ret
 exact ⟨rfl,f.out _⟩
theorem QY:CfI 226:=⟨enters_of func226 (by kernel_rfl) rfl,NP⟩
theorem NN (x y:Idl) (w:World) (hx:x.length=32) (hy:y.length=32):Calls prog 47 #[.agg (idC x).toArray,.agg (idC y).toArray] w fun e w'=>e= .returned (.int .i64 (cmpL x y))∧ ∃q os',w'=grow (w.drewN q) os':=by
 obtain ⟨W,a⟩:∃W,W=(w.alloc (.cells (idC x).toArray 42)).alloc (.cells (idC y).toArray 42):=⟨_,rfl⟩
 have d:W.rangeAt w.heap.size 0 (idC x):=by
  rw [a];exact ay (w:=w.alloc (.cells (idC x).toArray 42)) (fun j u hu=>by rw [World.cell?_alloc_new,Nat.zero_add];simpa using hu) bal (by simp)
 have b:W.rangeAt (w.heap.size+1) 0 (idC y):=by
  rw [a]
  have:(w.alloc (.cells (idC x).toArray 42)).heap.size=w.heap.size+1:=by simp
  rw [←this]
  exact fun j u hu=>by rw [World.cell?_alloc_new,Nat.zero_add];simpa using hu
 have g:=ah (fun k=>(l8 (W.drewN k) x y w.heap.size 0 (w.heap.size+1) 0 hx hy d b).mono fun _ _ h=>And.intro h.1 h.2.symm)
 have f:Hid (∀k,∃q os',W.drewN k=grow (w.drewN q) os'):=ah (fun k=>⟨k,#[.cells (idC x).toArray 42,.cells (idC y).toArray 42],by rw [a,alloc_eq_grow,alloc_eq_grow,grow_grow];rfl⟩)
 generalize cmpL x y=c at g
 clear d b
 generalize idC x=i at a f
 generalize idC y=l at a f
 go_enter func47,ntmps47
 go_wp2
 rw [←a]
 clear a
 go_quiet ((go_at_call 48;exact Calls.quiet_of_same (g.out _)))
 go_wp2
 go_ret
 exact ⟨rfl,f.out _⟩
theorem QX:CfI 47:=⟨enters_of func47 (by kernel_rfl) rfl,NN⟩
theorem kC (b n:Nat) (S:List Idl) (w:World) (hm:bW w b n S) (a:S.length≤100000):Calls prog 42 #[.map (some b)] w (mJ S w):=by
 have HS:=ah (P8 _ QW b n S w hm a)
 have f:=ah (Gf (some b) w)
 clear hm
 go_enter func42,ntmps42
 go_wp2_with fail
 refine f.out.mono ?_
 rintro e w1 ⟨rfl,rfl⟩
 go_wp2_with fail
 refine HS.out.mono ?_
 rintro e h ⟨v,m,rfl,d⟩
 have g:=ah d
 clear d
 go_wp2
 go_ret
 exact ⟨_,m,rfl,g.out⟩
theorem uE (b n:Nat) (S:List Idl) (w:World) (hm:bW w b n S) (a:S.length≤100000):Calls prog 180 #[.map (some b)] w (mJ S w):=by
 have HS:=ah (P9 _ QY b n S w hm a)
 have f:=ah (Gg (some b) w)
 clear hm
 go_enter func180,ntmps180
 go_wp2_with fail
 refine f.out.mono ?_
 rintro e w1 ⟨rfl,rfl⟩
 go_wp2_with fail
 refine HS.out.mono ?_
 rintro e h ⟨v,m,rfl,d⟩
 have g:=ah d
 clear d
 go_wp2
 go_ret
 exact ⟨_,m,rfl,g.out⟩
end
end Go.Proofs.YtlhcoanbhnphgaaGreatDoor

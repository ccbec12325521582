/- A part of this claim. -/
import Derived.Test.YtejamhkgjkhjdaaGreatDoorXn20
import Derived.Test.YtejamhkgjkhjdaaGreatDoorXn23
namespace Go.Proofs.YtejamhkgjkhjdaaGreatDoor
open Tryz
set_option maxHeartbeats 64000000
set_option maxRecDepth 100000
section
open Go.RowKit Go.Maps Go.Sort Go.Shelf
def vg (S:List Idl) (w:World) (e:Ending) (w':World):Prop:=∃v m,e= .returned v∧dY w' v m∧(∀x,x∈m↔x∈S)∧m.length=S.length∧(∀k,v.ownBlock=some k→w.heap.size≤k)∧Below w.heap.size w w'
theorem vg.from {S:List Idl} {w0 w w':World} {e:Ending} (h:vg S w e w') (hb:Below w0.heap.size w0 w):vg S w0 e w':=by
 obtain ⟨v,m,h1,b,g,f,i,a⟩:=h
 exact ⟨v,m,h1,b,g,f,fun k d=>Nat.le_trans hb.size (i k d),hb.trans (a.mono hb.size)⟩
theorem ME (B cf:FuncId) (z:Array Value) (j:CfI cf) (S:List Idl) (W:World) (n:∀x∈S,x.length=32) (A:S.length≤100000)
  (u:Hid (Calls prog 313 #[.func (.func B) #[] z] W fun e w'=> ∃(v:Value) (ss:List I32),e= .returned v∧(iJ ss).Perm S∧w'.ownsRow W.heap.size 143 32 v ss.length (dx (iJ ss))∧Below W.heap.size W w')) :
  Calls prog 280 #[.func (.func B) #[] z,.func (.func cf) #[] #[]] W (vg S W):=by
 have p:=ah n
 have t:=ah j
 clear n j
 go_enter func280,ntmps280
 go_wp2_with fail
 refine u.out.mono ?_
 rintro e w1 ⟨v,ss,rfl,s,a,hb⟩
 have g:=ah hb
 have y:gY w1 W.heap.size 32 v (iJ ss).length (dx (iJ ss)):=by rw [Av];exact gY.gq a
 have l:(iJ ss).length≤1000000:=by rw [s.length_eq];omega
 have HS:=ah (Dt cf t.out W.heap.size v (iJ ss) w1 y (KU ss) l)
 have o:=ah s
 have i:=ah (fun k (r:v.ownBlock=some k)=>(a.lt k r).1)
 clear s a hb y l u
 go_wp2_with fail
 refine HS.out.mono ?_
 rintro e F ⟨rfl,m,b,_,f,h⟩
 have q:=ah (g.out.grown h g.out.size (fun k r=>i.out k r))
 have d:=b.length_eq
 rw [←d] at f
 have E:=ah (f.row (fun x hx=>p.out x (o.out.mem_iff.1 (b.mem_iff.1 hx))))
 have C:Hid (∀x,x∈m↔x∈S):=ah (fun x=>b.mem_iff.trans o.out.mem_iff)
 have D:Hid (m.length=S.length):=ah (d.trans o.out.length_eq)
 clear d f b h HS o
 go_wp2
 go_ret
 exact ⟨_,m,rfl,E.out,C.out,D.out,i.out,q.out⟩
theorem MC (cf:FuncId) (f:CfI cf) (b n:Nat) (S:List Idl) (w:World) (hm:vT w b n S) (d:S.length≤100000) :
  Calls prog 280 #[.func (.func 314) #[] #[.pointer (some ⟨w.heap.size,0,none⟩)],.func (.func cf) #[] #[]] (w.alloc (.cells #[.map (some b)] 328)) (vg S w):=by
 have e:Below w.heap.size w (w.alloc (.cells #[.map (some b)] 328)):=(Below.refl _ w).alloc (Nat.le_refl _) _
 have a:=yU (enc:=Nq) 3 (by omega) w.heap.size b n (I5 S) S (w.alloc (.cells #[.map (some b)] 328)) (by simp) (by simp) (hm.1.on e) hm.2.1 hm.2.2 (fun x _=>FY)
 have g:=callsIn_wide.1 (Kv 5 (by omega) 314 #[.pointer (some ⟨w.heap.size,0,none⟩)] (enters_of func314 (by kernel_rfl) rfl) _ S.length (by omega) _ a)
 exact (ME _ cf _ f S _ hm.2.2 d (ah g)).mono fun _ _ h=>h.from e
theorem Ky (x y:Idl) (w:World) (hx:x.length=32) (hy:y.length=32):Calls prog 282 #[.agg (idC x).toArray,.agg (idC y).toArray] w fun e w'=>e= .returned (.int .i64 (cmpL x y))∧ ∃q os',w'=grow (w.drewN q) os':=by
 obtain ⟨W,a⟩:∃W,W=(w.alloc (.cells (idC x).toArray 143)).alloc (.cells (idC y).toArray 143):=⟨_,rfl⟩
 have d:W.rangeAt w.heap.size 0 (idC x):=by
  rw [a];exact ay (w:=w.alloc (.cells (idC x).toArray 143)) (fun j u hu=>by rw [World.cell?_alloc_new,Nat.zero_add];simpa using hu) bal (by simp)
 have b:W.rangeAt (w.heap.size+1) 0 (idC y):=by
  rw [a]
  have:(w.alloc (.cells (idC x).toArray 143)).heap.size=w.heap.size+1:=by simp
  rw [←this]
  exact fun j u hu=>by rw [World.cell?_alloc_new,Nat.zero_add];simpa using hu
 have g:=ah (fun k=>(zx (W.drewN k) x y w.heap.size 0 (w.heap.size+1) 0 hx hy d b).mono fun _ _ h=>And.intro h.1 h.2.symm)
 have f:Hid (∀k,∃q os',W.drewN k=grow (w.drewN q) os'):=ah (fun k=>⟨k,#[.cells (idC x).toArray 143,.cells (idC y).toArray 143],by rw [a,alloc_eq_grow,alloc_eq_grow,grow_grow];rfl⟩)
 generalize cmpL x y=c at g
 clear d b
 generalize idC x=i at a f
 generalize idC y=l at a f
 go_enter func282,ntmps282
 go_wp2
 rw [←a]
 clear a
 go_quiet ((go_at_call 208;exact Calls.quiet_of_same (g.out _)))
 go_wp2
 go_ret
 exact ⟨rfl,f.out _⟩
theorem Nr:CfI 282:=⟨enters_of func282 (by kernel_rfl) rfl,Ky⟩
theorem qF (b n:Nat) (S:List Idl) (w:World) (hm:vT w b n S) (a:S.length≤100000):Calls prog 254 #[.map (some b)] w (vg S w):=by
 have HS:=ah (MC _ Nr b n S w hm a)
 have f:=ah (Dy (some b) w)
 clear hm
 go_enter func254,ntmps254
 go_wp2_with fail
 refine f.out.mono ?_
 rintro e w1 ⟨rfl,rfl⟩
 go_wp2_with fail
 refine HS.out.mono ?_
 rintro e h ⟨v,m,rfl,d⟩
 have g:=ah d
 clear d
 go_wp2
 go_ret
 exact ⟨_,m,rfl,g.out⟩
end
end Go.Proofs.YtejamhkgjkhjdaaGreatDoor

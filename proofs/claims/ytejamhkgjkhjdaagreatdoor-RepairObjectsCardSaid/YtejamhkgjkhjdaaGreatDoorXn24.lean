/- A part of this claim. -/
import Derived.Test.YtejamhkgjkhjdaaGreatDoorXn16
import Derived.Test.YtejamhkgjkhjdaaGreatDoorXn23
namespace Go.Proofs.YtejamhkgjkhjdaaGreatDoor
open Tryz
set_option maxHeartbeats 64000000
set_option maxRecDepth 100000
section
open Go.RowKit Go.Shelf
structure OnW (B b:Nat) (w w':World):Prop where
 bel:Below B w w'
 off:∀ k o,w.heap[k]? = some o → k ≠ b → (∀ cur,o ≠ .cells cur 5 (0,0)) → w'.heap[k]? = some o
theorem OnW.refl (B b:Nat) (w:World):OnW B b w w:=⟨Below.refl B w,fun _ _ h _ _=>h⟩
theorem OnW.trans {B b:Nat} {u v w:World} (h:OnW B b u v) (k:OnW B b v w):OnW B b u w:=⟨h.bel.trans k.bel,fun j o e d a=>k.off j o (h.off j o e d a) d a⟩
theorem OnW.size {B b:Nat} {v w:World} (h:OnW B b v w):v.heap.size≤w.heap.size:=h.bel.size
theorem OnW.below {B b:Nat} {v w:World} (h:Below v.heap.size v w) (d:B≤v.heap.size):OnW B b v w:=⟨h.mono d,fun j _ a _ _=>(h.block j (Array.getElem?_eq_some_iff.1 a).1).trans a⟩
theorem OnW.alloc {B b:Nat} {v w:World} (h:OnW B b v w) (a:B≤w.heap.size) (o:Obj):OnW B b v (w.alloc o):=h.trans (OnW.below bal a)
theorem OnW.setCell {B b:Nat} {v w:World} (h:OnW B b v w) {p:Addr} (g:B≤p.block) (i:p.block=b) (u:Value):OnW B b v (w.setCell p u) :=
 ⟨h.bel.setCell (p:=p) g u,fun j o d a f=>(Below.heap_setCell w p u j (fun e=>a (e.trans i))).trans (h.off j o d a f)⟩
theorem OnW.row {B b:Nat} {a w g:World} {v:Value} {n:Nat} {xs:List Value} {s:Nat} (h:OnW B b a w) (d:w.ownsRow s 5 1 v n xs) (i:w.grownBy g v.ownBlock) (q:B≤w.heap.size) (r:∀k,v.ownBlock=some k→B≤k):OnW B b a g :=
 ⟨h.bel.grown i q r,fun j o m p l=>by
  have f:=h.off j o m p l
  refine (i.block j (Array.getElem?_eq_some_iff.1 f).1 fun e=> ?_).trans f
  rcases ownsRow_ne_a d f l with h1|h1
  ·rw [h1] at e;cases e
  exact h1 e.symm⟩
theorem Fe (B b:Nat) (a:List Value) (w:World) (h:Lib.IsBuilder 134 5 B b a w) :
  Calls prog 225 #[.pointer (some ⟨b,0,none⟩)] w fun e w'=>e= .returned (.tuple #[])∧(Lib.BuilderAt 134 5 B b (.pointer (some ⟨b,0,none⟩)) a w'∧OnW B b w w'):=by
 rcases h with h|h
 ·refine (qM b w h.cell0 h.shape h.frozen0).mono ?_
  rintro e w' ⟨rfl,rfl⟩
  exact ⟨rfl,h.used _,(OnW.refl B b w).setCell (p:=⟨b,0,none⟩) h.1 rfl _⟩
 refine (uX b w h.cell0).mono ?_
 rintro e w' ⟨rfl,rfl⟩
 exact ⟨rfl,h,OnW.refl B b _⟩
theorem Er (B b:Nat) (L:List UInt8) (c:UInt8) (w:World) (h:Wr B b L w) (o:L.length+1≤140737488355328) (H:B≤w.heap.size) :
  Calls prog 198 #[.pointer (some ⟨b,0,none⟩),.int .u8 (c.toNat:Int)] w fun e w'=>e= .returned .nilIface∧Wr B b (L++[c]) w'∧OnW B b w w':=by
 obtain ⟨J,hi,x,C,z⟩:=info_parts infoByte
 have q:=Lib.byteCells_length L
 have E:Lib.byteCells (L++[c])=Lib.byteCells L++[.int .u8 (c.toNat:Int)]:=by simp [Lib.byteCells]
 unfold Wr at h ⊢
 rw [E]
 rw [←q] at o
 generalize Lib.byteCells L=y at h q o
 clear q
 generalize (c.toNat:Int)=c
 have M:=ah h
 clear h E
 go_enter func198,ntmps198
 go_wp2_with (go_at_call 225;refine (Fe B b y _ M.out).mono ?_)
 rintro e w1 ⟨rfl,h1,n⟩
 obtain ⟨F,v,m,a,t⟩:=h1
 have P:w1.cell? ⟨b,0,none⟩=some (.pointer (some ⟨b,0,none⟩)):=by rw [Lib.cell_of_heap m];rfl
 have c1:w1.cell? ⟨b,1,none⟩=some v:=by rw [Lib.cell_of_heap m];rfl
 go_wp2_with (at_builtin;refine wpList_append_own _ rfl _ _ 89 rfl B 5 J (.int .u8 0) 1 1 underlying89 hi x C z rfl (by decide) _ _ _ rfl (a.alloc _) ⟨w1.heap.size,0,none⟩ 1 1 [.int .u8 c] rfl rfl ?c1 ?c2 ?c3 ?c4 ?c5 ?_)
 case c1 =>
  intro j u r
  match j,r with
  | 0,r=>simp at r;subst r;simp [Addr.add]
 case c2=>intro u hu;simp at hu;subst hu;rfl
 case c3=>unfold maxLen;omega
 case c4=>omega
 case c5=>have:=n.size;simp;omega
 intro K s d f _
 have A:b<w1.heap.size:=by
  rcases Nat.lt_or_ge b w1.heap.size with D|D
  ·exact D
  simp [Array.getElem?_eq_none D] at m
 have l:s.heap[b]? = some (.cells #[.pointer (some ⟨b,0,none⟩),v] 134 (0,0)):=by
  rw [f.block b (by simp;omega) (fun e=>t e.symm),Lib.alloc_old w1 _ b A]
  exact m
 have Q:s.cell? ⟨b,0,none⟩=some (.pointer (some ⟨b,0,none⟩)):=by rw [Lib.cell_of_heap l];rfl
 have N:s.cell? ⟨b,1,none⟩=some v:=by rw [Lib.cell_of_heap l];rfl
 have R:s.frozen? ⟨b,1,none⟩=false:=Lib.frozen_of_heap l 1
 obtain ⟨g,i,rfl⟩:∃g i,K= .slice (some ⟨g,0,none⟩) (y.length+1) i:=by
  rcases d.2 with ⟨_,O⟩|⟨g,i,cur,I,_⟩
  ·omega
  exact ⟨g,i,I⟩
 go_wp2
 go_ret
 refine ⟨rfl,.inr ?_,?_⟩
 ·exact Lib.BuilderAt.put (T:=134) (e:=5) F l (bs':=y++[.int .u8 c]) (by simpa using d) (by decide)
 exact ((n.alloc (by have:=n.size;omega) _).row (a.alloc _) f (by have:=n.size;simp;omega) (fun k G=>(a.lt k G).1)).setCell (p:=⟨b,1,none⟩) F rfl _
theorem Fv (B b:Nat) (L:List UInt8) (s:ByteArray) (w:World) (h:Wr B b L w) (l:L.length+s.size≤140737488355328) (H:B≤w.heap.size) :
  Calls prog 160 #[.pointer (some ⟨b,0,none⟩),.string s] w fun e w'=>e= .returned (.tuple #[.int .i64 s.size,.nilIface])∧Wr B b (L++s.data.toList) w'∧OnW B b w w':=by
 obtain ⟨I,hi,t,z,u⟩:=info_parts infoByte
 have n:=Lib.byteCells_length L
 have C:Lib.byteCells (L++s.data.toList)=Lib.byteCells L++Lib.strCells s:=by simp [Lib.byteCells,Lib.strCells]
 unfold Wr at h ⊢
 rw [C]
 rw [←n] at l
 generalize Lib.byteCells L=D at h n l
 clear n
 have K:=ah h
 clear h C
 go_enter func160,ntmps160
 go_wp2_with (go_at_call 225;refine (Fe B b D _ K.out).mono ?_)
 rintro e w1 ⟨rfl,h1,o⟩
 obtain ⟨E,v,j,a,r⟩:=h1
 have N:w1.cell? ⟨b,0,none⟩=some (.pointer (some ⟨b,0,none⟩)):=by rw [Lib.cell_of_heap j];rfl
 have c1:w1.cell? ⟨b,1,none⟩=some v:=by rw [Lib.cell_of_heap j];rfl
 go_wp2_with (at_builtin;refine Lib.wpList_append_own_string _ rfl _ _ 89 9 rfl B 5 I underlying89 underlying9 hi t z u _ _ _ rfl a s rfl ?c3 ?c4 ?c5 ?_)
 case c3=>unfold maxLen;omega
 case c4=>omega
 case c5=>have:=o.size;omega
 intro J q d f _
 have y:b<w1.heap.size:=by
  rcases Nat.lt_or_ge b w1.heap.size with A|A
  ·exact A
  simp [Array.getElem?_eq_none A] at j
 have i:q.heap[b]? = some (.cells #[.pointer (some ⟨b,0,none⟩),v] 134 (0,0)):=by
  rw [f.block b y (fun e=>r e.symm)]
  exact j
 have O:q.cell? ⟨b,0,none⟩=some (.pointer (some ⟨b,0,none⟩)):=by rw [Lib.cell_of_heap i];rfl
 have M:q.cell? ⟨b,1,none⟩=some v:=by rw [Lib.cell_of_heap i];rfl
 have P:q.frozen? ⟨b,1,none⟩=false:=Lib.frozen_of_heap i 1
 obtain ⟨F,n',m,rfl⟩:∃F n' m,J= .slice F n' m:=by
  rcases d.2 with ⟨x,_⟩|⟨g,m,cur,x,_⟩
  ·exact ⟨_,_,_,x⟩
  exact ⟨_,_,_,x⟩
 go_wp2
 go_ret2
 refine ⟨rfl,.inr ?_,?_⟩
 ·exact Lib.BuilderAt.put (T:=134) (e:=5) E i (bs':=D++Lib.strCells s) (by simpa [Lib.strCells_length] using d) (by decide)
 exact (o.row a f (by have:=o.size;omega) (fun k G=>(a.lt k G).1)).setCell (p:=⟨b,1,none⟩) E rfl _
theorem FC (B b:Nat) (L:List UInt8) (g:Nat) (n:Nat) (w:World) (h:Wr B b L w) (Y:w.cell? ⟨g,0,none⟩=some (.int .i64 (n:Int))) (hn:n≤1000000) (Q:L.length≤1000000) (S:B≤w.heap.size) :
  Calls prog 134 #[.pointer (some ⟨b,0,none⟩),.slice (some ⟨g,0,none⟩) 1 1] w fun e w'=>e= .returned (.tuple #[])∧Wr B b (L++aM n) w'∧OnW B b w w':=by
 have V:=ah h
 clear h
 go_enter func134,ntmps134
 go_wp2_with fail
 go_loopw [10] (fun i wr=>(i= .int .i64 0∧w=wr)∨(i= .int .i64 1∧Wr B b (L++aM n) wr∧OnW B b w wr)) (fun i _=>(1-intOf i).toNat)
 case atStart=>exact .inl ⟨rfl,rfl⟩
 rcases hrel with ⟨rfl,rfl⟩|⟨rfl,E,z⟩
 ·have n0:(0:Int)≤n:=by omega
  have X:min (n:Int) 1099511627775=n:=by omega
  have m2:max (0:Int) n=n:=by omega
  go_wp2_with fail
  go_loopw [5] (fun v wr=> ∃(m:Nat) (K:List UInt8),v= .int .i64 m∧m≤n∧Hid (K++aM m=L++aM n)∧Wr B b K wr∧OnW B b w wr) (fun v _=>(intOf v).toNat)
  case atStart=>exact ⟨n,L,rfl,by omega,ah rfl,V.out,OnW.refl _ _ _⟩
  obtain ⟨O,rfl⟩:∃O:World,O=wr:=⟨_,rfl⟩
  obtain ⟨m,K,rfl,hm,A,k,d⟩:=hrel
  have P:Hid (K.length≤1000010):=by
   have h1:=congrArg List.length A.out
   rw [List.length_append,List.length_append] at h1
   have Z:=lu 3 n (by omega)
   unfold Hid;omega
  have T:=d.size
  by_cases t:128≤m
  ·have R:decide ((128:Int)≤m)=true:=decide_eq_true (by omega)
   have C:=gu t
   have y:m%128+128<256:=by omega
   have j:bits .or .u8 ((m:Int)%128) 128=((UInt8.ofNat (m%128+128)).toNat:Int):=by
    rw [show (m:Int)%128=((m%128:Nat):Int) by omega,LZ,UInt8.toNat_ofNat',Nat.mod_eq_of_lt y]
   have U:((m:Int).tmod 128)=(m:Int)%128:=by rw [Int.tmod_eq_emod_of_nonneg (by omega)]
   have M:((m:Int).tdiv 128)=((m/128:Nat):Int):=by rw [Int.tdiv_eq_ediv_of_nonneg (by omega)];omega
   have u:(m:Int)/128=((m/128:Nat):Int):=by omega
   have H:IntKind.u8.wrap ((m:Int)%128)=(m:Int)%128:=by rw [IntKind.wrap_u8];omega
   have N:m/128<m:=by omega
   have D:IntKind.i64.wrap ((m/128:Nat):Int)=((m/128:Nat):Int):=IntWalk.i64_in _ (by omega)
   have a:Hid ((K++[UInt8.ofNat (m%128+128)])++aM (m/128)=L++aM n):=by
    unfold Hid;rw [←A.out,C,List.append_assoc];rfl
   generalize UInt8.ofNat (m%128+128)=x at j a
   generalize m/128=q at M u N D a
   have p:=ah (fun W (I:Wr B b K W) (s:B≤W.heap.size)=>Er B b K x W I (by have:=P.out;omega) s)
   have r:=ah k
   have l:=ah d
   clear k d A C y
   go_wp2_with fail
   refine (p.out _ r.out (by omega)).mono ?_
   rintro e w1 ⟨rfl,h1,f⟩
   have F:=ah h1
   have o:=ah (l.out.trans (f))
   clear h1 f
   go_wp2
   go_roundw
   case rel=>exact ⟨q,K++[x],rfl,by omega,a,F.out,o.out⟩
   case measure=>simp [intOf];omega
  have R:decide ((128:Int)≤m)=false:=decide_eq_false (by omega)
  have C:=ah (dw (n:=m) (by omega))
  have H:IntKind.u8.wrap (m:Int)=(m:Int):=by rw [IntKind.wrap_u8];omega
  have j:((UInt8.ofNat m).toNat:Int)=(m:Int):=by rw [UInt8.toNat_ofNat',Nat.mod_eq_of_lt (by omega)]
  have p:=ah (fun W (I:Wr B b K W) (s:B≤W.heap.size)=>by have:=Er B b K (UInt8.ofNat m) W I (by have:=P.out;omega) s;rw [j] at this;exact this)
  have a:Hid (K++[UInt8.ofNat m]=L++aM n):=by unfold Hid;rw [←A.out,C.out]
  have r:=ah k
  have l:=ah d
  clear k d A C j
  go_wp2_with fail
  refine (p.out _ r.out (by omega)).mono ?_
  rintro e w1 ⟨rfl,h1,f⟩
  have F:=ah h1
  have o:=ah (l.out.trans (f))
  clear h1 f
  go_wp2
  rw [a.out] at F
  go_roundw
  case rel=>exact .inr ⟨rfl,F.out,o.out⟩
  case measure=>simp [intOf]
 have J:=ah E
 have G:=ah z
 clear E z
 go_wp2
 go_end0
 exact ⟨rfl,J.out,G.out⟩
theorem KO (B b:Nat) (L:List UInt8) (g:Nat) (s:ByteArray) (w:World) (h:Wr B b L w) (q:w.cell? ⟨g,0,none⟩=some (.string s)) (n:L.length+s.size≤10000000) (l:B≤w.heap.size) :
  Calls prog 88 #[.pointer (some ⟨b,0,none⟩),.slice (some ⟨g,0,none⟩) 1 1] w fun e w'=>e= .returned (.tuple #[])∧Wr B b (L++s.data.toList) w'∧OnW B b w w':=by
 have p:=ah h
 clear h
 go_enter func88,ntmps88
 go_wp2_with fail
 go_loopw [10] (fun i wr=>(i= .int .i64 0∧w=wr)∨(i= .int .i64 1∧Wr B b (L++s.data.toList) wr∧OnW B b w wr)) (fun i _=>(1-intOf i).toNat)
 case atStart=>exact .inl ⟨rfl,rfl⟩
 rcases hrel with ⟨rfl,rfl⟩|⟨rfl,f,d⟩
 ·go_wp2_with fail
  refine (Fv B b L s _ p.out (by omega) l).mono ?_
  rintro e w1 ⟨rfl,h1,a⟩
  have o:=ah h1
  have m:=ah a
  clear h1 a
  go_wp2
  go_roundw
  case rel=>exact .inr ⟨by go_num,o.out,m.out⟩
  case measure=>simp [intOf]
 have j:=ah f
 have k:=ah d
 clear f d
 go_wp2
 go_end0
 exact ⟨rfl,j.out,k.out⟩
theorem Iu (B b:Nat) (L:List UInt8) (g:Nat) (s:ByteArray) (w:World) (h:Wr B b L w) (E:w.cell? ⟨g,0,none⟩=some (.string s)) (F:s.size≤1000000) (j:L.length≤1000000) (q:B≤w.heap.size) :
  Calls prog 89 #[.pointer (some ⟨b,0,none⟩),.slice (some ⟨g,0,none⟩) 1 1] w fun e w'=>e= .returned (.tuple #[])∧Wr B b (L++(aM s.size++s.data.toList)) w'∧OnW B b w w':=by
 have t:=ah h
 clear h
 have x:=t.out.lt
 have y:=t.out.ge
 have C:=fC (n:=s.size) (by omega)
 go_enter func89,ntmps89
 go_wp2_with fail
 go_loopw [8] (fun i wr=>(i= .int .i64 0∧w=wr)∨(i= .int .i64 1∧Wr B b (L++(aM s.size++s.data.toList)) wr∧OnW B b w wr)) (fun i _=>(1-intOf i).toNat)
 case atStart=>exact .inl ⟨rfl,rfl⟩
 rcases hrel with ⟨rfl,rfl⟩|⟨rfl,p,l⟩
 ·go_wp2_with fail
  have f:∀(W:World) (o:Obj),Below W.heap.size W (W.alloc o):=fun W o=>bal
  refine (FC B b L w.heap.size s.size _ (t.out.below (f _ _)) (by rw [World.cell?_alloc_new];rfl) (by omega) j (by simp;omega)).mono ?_
  rintro e w1 ⟨rfl,h1,m⟩
  have z:=ah h1
  have d:=ah (((OnW.refl B b w).alloc q _).trans m)
  have v:=d.out.size
  clear h1 m
  go_wp2_with fail
  refine (KO B b (L++aM s.size) w1.heap.size s _ (z.out.below (f _ _)) (by rw [World.cell?_alloc_new];rfl) (by rw [List.length_append];omega) (by simp;omega)).mono ?_
  rintro e D ⟨rfl,r,k⟩
  rw [List.append_assoc] at r
  have A:=ah r
  have a:=ah ((d.out.alloc (by omega) _).trans k)
  clear r k
  go_wp2
  go_roundw
  case rel=>exact .inr ⟨by go_num,A.out,a.out⟩
  case measure=>simp [intOf]
 have u:=ah p
 have a:=ah l
 clear p l
 go_wp2
 go_end0
 exact ⟨rfl,u.out,a.out⟩
end
end Go.Proofs.YtejamhkgjkhjdaaGreatDoor

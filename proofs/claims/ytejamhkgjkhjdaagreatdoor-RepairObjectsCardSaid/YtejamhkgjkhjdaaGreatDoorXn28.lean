/- A part of this claim. -/
import Derived.Test.YtejamhkgjkhjdaaGreatDoorShelf7
import Derived.Test.YtejamhkgjkhjdaaGreatDoorXn19
namespace Go.Proofs.YtejamhkgjkhjdaaGreatDoor
open Tryz
set_option maxHeartbeats 64000000
set_option maxRecDepth 100000
section
open Go.RowKit Go.Maps Go.Sort Go.Shelf
theorem Jt:∀x y:List UInt8,ltB x y=true↔x<y
 | [],[]=>by simp [ltB]
 | [],_::_=>by simp [ltB]
 | _::_,[]=>by simp [ltB]
 | a::x,b::y=>by
  unfold ltB
  rw [List.cons_lt_cons_iff,UInt8.lt_iff_toNat_lt,←UInt8.toNat_inj]
  by_cases h1:a.toNat<b.toNat
  ·rw [if_pos h1];simp [h1]
  rw [if_neg h1]
  by_cases d:b.toNat<a.toNat
  ·rw [if_pos d]
   have:a.toNat≠b.toNat:=by omega
   simp [h1,this]
  rw [if_neg d]
  have:a.toNat=b.toNat:=by omega
  rw [Jt x y]
  simp [this]
theorem Iq {ss:List (List UInt8)} (g:ss.Nodup):KN (ss.mergeSort fun x y=>decide (x≤y)):=by
 have j:=List.pairwise_mergeSort (le:=fun x y:List UInt8=>decide (x≤y)) (fun a b c h1 e=>by simp only [decide_eq_true_eq] at *;exact List.le_trans h1 e) (fun a b=>by simp only [Bool.or_eq_true,decide_eq_true_eq];exact List.le_total a b) ss
 have d:=(List.mergeSort_perm ss fun x y=>decide (x≤y)).nodup_iff.2 g
 refine (j.and d).imp fun {x y} ⟨h1,e⟩=> ?_
 have i:x≤y:=of_decide_eq_true h1
 cases h:ltB x y with
 | true=>rfl
 | false =>
  exact absurd (iC h (by
   cases f:ltB y x with
   | false=>rfl
   | true=>exact absurd ((Jt y x).1 f) i)) e
theorem vG {H:Type} {P:Program} {k:TypeId} {R:Value→Option (DataW H×List MemPlace)} {w:World} {b n:Nat} {D:DataW H} (h:w.ownsMap P k R b n D) (K:Keyed P k) (o:P.underlying k=some .string) :
  (strKeys D).Nodup∧ ∀x,x∈strKeys D↔Maps.has D (.string x)=true:=by
 obtain ⟨es,rfl,t⟩:=h.tidy K
 obtain ⟨s,e,j⟩:=h.keysOf
 cases e
 have g:∀p∈es,∃x,p.1= .string x:=fun p d=>by
  obtain ⟨v,r⟩:=j p d
  obtain ⟨x,_,hx,_⟩:=Maps.keyOf_str o r
  exact ⟨x,hx⟩
 refine ⟨?_,fun x=> ?_⟩
 ·show (es.map fun p=>strOf p.1).Nodup
  refine List.pairwise_map.2 (t.imp_of_mem fun {p q} d l i e=>i ?_)
  obtain ⟨a,f⟩:=g p d
  obtain ⟨b,hb⟩:=g q l
  rw [f,hb] at e ⊢
  exact congrArg _ e
 show x∈(es.map fun p=>strOf p.1)↔_
 rw [Maps.has_eq,List.any_eq_true,List.mem_map]
 constructor
 ·rintro ⟨p,d,rfl⟩
  obtain ⟨a,f⟩:=g p d
  exact ⟨p,d,by rw [f];simp [Lit.sameKey,strOf]⟩
 rintro ⟨p,d,m⟩
 obtain ⟨a,f⟩:=g p d
 rw [f] at m
 exact ⟨p,d,by rw [f];simpa [Lit.sameKey,strOf] using m⟩
theorem qG {α:Type} {enc:α→Value} {w:World} {b n:Nat} {D:DataW Value} {f:ByteArray→Option α} (a:w.ownsMap prog 9 eX b n D) (o:u7 enc D f) {l:List ByteArray} (z:jA l) (s:∀x,x.size≤maxLen→((f x).isSome=true↔x∈l)) (t:∀x∈l,x.size≤maxLen)
  {ss:List (List UInt8)} (q:ss.Perm (strKeys D)):(ss.mergeSort fun x y=>decide (x≤y)).map encStr=l.map Value.string∧ss.length=l.length:=by
 obtain ⟨m,d⟩:=vG a bZ underlying9
 obtain ⟨es,rfl,j⟩:=a.keysOf
 have g:∀x:List UInt8,x∈strKeys (.map es)↔ofB x∈l:=by
  intro x
  constructor
  ·intro hx
   have i:x∈es.map fun p=>strOf p.1:=hx
   obtain ⟨p,k,rfl⟩:=List.mem_map.1 i
   obtain ⟨v,r⟩:=j p k
   obtain ⟨y,hy,rfl⟩:=lF r
   have e:fM y=p.1:=Option.some.inj ((gK hy).symm.trans r)
   have u:=(d _).1 hx
   rw [←e] at u ⊢
   have A:ofB (strOf (fM y))=y:=gU (aS _)
   rw [A,←s y hy,←(o y hy).1];exact u
  intro hx
  have h1:=(s _ (t _ hx)).2 hx
  rw [←(o _ (t _ hx)).1] at h1
  rw [d]
  unfold fM at h1
  rwa [aS] at h1
 have e:(ss.mergeSort fun x y=>decide (x≤y))=l.map fun x=>x.data.toList:=by
  refine Cb (Iq (q.nodup_iff.2 m)) ?_ fun x=> ?_
  ·unfold KN;rw [List.pairwise_map];exact z
  rw [(List.mergeSort_perm ss _).mem_iff,q.mem_iff,g,List.mem_map]
  exact ⟨fun h=>⟨_,h,aS _⟩,by rintro ⟨y,hy,rfl⟩;rwa [show ofB y.data.toList=y from gU (aS _)]⟩
 refine ⟨?_,?_⟩
 ·rw [e,List.map_map]
  rfl
 have:=(List.mergeSort_perm ss fun x y=>decide (x≤y)).length_eq
 rw [e,List.length_map] at this
 exact this.symm
theorem IY (m : Nat) : AnyZ.SortsIn prog Tryz.sortedS_ren Fence.wide m :=
  ⟨fun blk off a ss W e b d=>callsIn_wide.2 (AnyM.slices_Sort_string Tryz.sortS blk off a ss W e b d),
   fun p a W=>callsIn_wide.2 (AnyM.slices_Sort_string_none Tryz.sortS p a W)⟩
theorem GV (a:Option Nat) (w:World):Calls prog 32 #[.map a] w fun e w'=>e= .returned (.func (.func 81) #[] #[.pointer (some ⟨w.heap.size,0,none⟩)])∧w'=w.alloc (.cells #[.map a] 53) :=
 callsIn_wide.1 (AnyZ.keys_in Tryz.keysF Fence.wide 5 trivial rfl a w)
theorem z8 {α:Type} {enc:α→Value} (b n:Nat) (f:ByteArray→Option α) (l:List ByteArray) (w:World) (hm:aP enc w b n f) (r:n≤1000000) (t:jA l) (s:∀x,x.size≤maxLen→((f x).isSome=true↔x∈l)) (y:∀x∈l,x.size≤maxLen) :
  Calls prog 31 #[.func (.func 81) #[] #[.pointer (some ⟨w.heap.size,0,none⟩)]] (w.alloc (.cells #[.map (some b)] 53)) fun e w'=> ∃v,e= .returned v∧dV w' v l∧Below w.heap.size w w':=by
 obtain ⟨D,a,j⟩:=hm
 have k:=a.lt
 have q:Maps.size D≤1000000:=Nat.le_trans a.size_le r
 have i:SeqGives Fence.wide 2 prog 81 #[.pointer (some ⟨w.heap.size,0,none⟩)] encStr (fun ss=>ss.Perm (strKeys D)) (Maps.size D) (w.alloc (.cells #[.map (some b)] 53)) :=
  AnyZ.keys_gives (ρ:=Tryz.keysF_ren) { Tryz.keysF with } Fence.wide _ trivial rfl (by omega) w.heap.size b n D _ (by simp) (by simp) (by
   obtain ⟨es,g,hb,m,j,p⟩:=a
   exact ⟨es,g,(Below.heap_alloc _ _ b k).trans hb,m,j,p⟩)
 have h:=callsIn_wide.1 (AnyZ.sorted_in Tryz.sortedS Fence.wide 5 trivial trivial trivial trivial rfl (by omega) (IY _) (enters_of func80 (by kernel_rfl) rfl) 81 #[.pointer (some ⟨w.heap.size,0,none⟩)] trivial (enters_of func81 (by kernel_rfl) rfl) _ _ (by unfold maxLen;omega) (by omega) _ i)
 refine h.mono ?_
 rintro e w' ⟨v,ss,o,hS,d,_,hb⟩
 obtain ⟨u,z⟩:=qG a j t s y hS
 rw [u,z] at d
 refine ⟨v,o,dV.gq d,((Below.refl _ w).alloc (Nat.le_refl _) _).trans (hb.mono (by simp))⟩
theorem p9 (g:Nat) (d:Dk) (x:ByteArray) (k:Nat) (l:List ByteArray) (w:World) (h:jy w g d) (hx:x.size≤1000000) (u:aW x=some k) (F:jA l) (hm:∀y,y∈l↔(d k y).isSome=true) (z:∀y∈l,y.size≤1000) :
  Calls prog 11 #[.pointer (some ⟨g,0,none⟩),.string x] w fun e w'=> ∃v,e= .returned v∧dV w' v l∧Below w.heap.size w w':=by
 have o:=ah (xL g d x none 0 0 true w h hx (wJ w))
 unfold vB at o
 rw [if_pos rfl,u] at o
 dsimp only at o
 have G:=ah F
 have I:=ah hm
 have H:=ah z
 clear h u F hm z
 go_enter func11,ntmps11
 go_wp2_with fail
 refine o.out.mono ?_
 rintro e w1 ⟨⟨b,rfl,hd⟩,j⟩
 have p:=ah j
 obtain ⟨m,n,f,J,L,a,D,E⟩:=hd
 have HS:=ah (z8 m n f l w1 a D G.out (fun y hy=>by
  rw [I.out]
  rcases E y hy with ⟨q,t⟩|⟨fb,s,q,t,_⟩
  ·rw [q,t];simp
  rw [q,t];simp) (fun y hy=>by have:=H.out y hy;unfold maxLen;omega))
 have A:=ah (GV (some m) w1)
 obtain ⟨W,C⟩:∃W,w1.alloc (.cells #[.map (some m)] 53)=W:=⟨_,rfl⟩
 rw [C] at HS A
 clear C a D E j
 go_wp2_with fail
 refine A.out.mono ?_
 rintro e M ⟨rfl,rfl⟩
 go_wp2_with fail
 refine HS.out.mono ?_
 rintro e w3 ⟨v,rfl,B,i⟩
 have r:=bth p i
 have K:=ah B
 clear B i
 go_wp2_with fail
 go_ret
 exact ⟨v,rfl,K.out,r.out⟩
end
end Go.Proofs.YtejamhkgjkhjdaaGreatDoor

/- A part of this claim. -/
import Derived.Test.YtlhcoanbhnphgaaGreatDoorShelf7
import Derived.Test.YtlhcoanbhnphgaaGreatDoorXm19
namespace Go.Proofs.YtlhcoanbhnphgaaGreatDoor
open Tryz
set_option maxHeartbeats 64000000
set_option maxRecDepth 100000
section
open Go.RowKit Go.Maps Go.Sort Go.Shelf
theorem MC:∀x y:List UInt8,ltB x y=true↔x<y
 | [],[]=>by simp [ltB]
 | [],_::_=>by simp [ltB]
 | _::_,[]=>by simp [ltB]
 | a::x,b::y=>by
  unfold ltB
  rw [List.cons_lt_cons_iff,UInt8.lt_iff_toNat_lt,←UInt8.toNat_inj]
  by_cases h1:a.toNat<b.toNat
  ·rw [if_pos h1];simp [h1]
  rw [if_neg h1]
  by_cases d:b.toNat<a.toNat
  ·rw [if_pos d]
   have:a.toNat≠b.toNat:=by omega
   simp [h1,this]
  rw [if_neg d]
  have:a.toNat=b.toNat:=by omega
  rw [MC x y]
  simp [this]
theorem KX {ss:List (List UInt8)} (f:ss.Nodup):Oc (ss.mergeSort fun x y=>decide (x≤y)):=by
 have g:=List.pairwise_mergeSort (le:=fun x y:List UInt8=>decide (x≤y)) (fun a b c h1 d=>by simp only [decide_eq_true_eq] at *;exact List.le_trans h1 d) (fun a b=>by simp only [Bool.or_eq_true,decide_eq_true_eq];exact List.le_total a b) ss
 have e:=(List.mergeSort_perm ss fun x y=>decide (x≤y)).nodup_iff.2 f
 refine (g.and e).imp fun {x y} ⟨h1,d⟩=> ?_
 have i:x≤y:=of_decide_eq_true h1
 cases h:ltB x y with
 | true=>rfl
 | false =>
  exact absurd (gq h (by
   cases j:ltB y x with
   | false=>rfl
   | true=>exact absurd ((MC y x).1 j) i)) d
theorem zq {H:Type} {P:Program} {k:TypeId} {R:Value→Option (DataW H×List MemPlace)} {w:World} {b n:Nat} {D:DataW H} (h:w.ownsMap P k R b n D) (K:Keyed P k) (t:P.underlying k=some .string) :
  (strKeys D).Nodup∧ ∀x,x∈strKeys D↔Maps.has D (.string x)=true:=by
 obtain ⟨es,rfl,o⟩:=h.tidy K
 obtain ⟨r,e,i⟩:=h.keysOf
 cases e
 have g:∀p∈es,∃x,p.1= .string x:=fun p d=>by
  obtain ⟨v,s⟩:=i p d
  obtain ⟨x,_,hx,_⟩:=Maps.keyOf_str t s
  exact ⟨x,hx⟩
 refine ⟨?_,fun x=> ?_⟩
 ·show (es.map fun p=>strOf p.1).Nodup
  refine List.pairwise_map.2 (o.imp_of_mem fun {p q} d j l e=>l ?_)
  obtain ⟨a,f⟩:=g p d
  obtain ⟨b,hb⟩:=g q j
  rw [f,hb] at e ⊢
  exact congrArg _ e
 show x∈(es.map fun p=>strOf p.1)↔_
 rw [Maps.has_eq,List.any_eq_true,List.mem_map]
 constructor
 ·rintro ⟨p,d,rfl⟩
  obtain ⟨a,f⟩:=g p d
  exact ⟨p,d,by rw [f];simp [Lit.sameKey,strOf]⟩
 rintro ⟨p,d,m⟩
 obtain ⟨a,f⟩:=g p d
 rw [f] at m
 exact ⟨p,d,by rw [f];simpa [Lit.sameKey,strOf] using m⟩
theorem uF {α:Type} {enc:α→Value} {w:World} {b n:Nat} {D:DataW Value} {f:ByteArray→Option α} (d:w.ownsMap prog 9 eO b n D) (o:y8 enc D f) {l:List ByteArray} (z:rV l) (s:∀x,x.size≤maxLen→((f x).isSome=true↔x∈l)) (q:∀x∈l,x.size≤maxLen)
  {ss:List (List UInt8)} (r:ss.Perm (strKeys D)):(ss.mergeSort fun x y=>decide (x≤y)).map encStr=l.map Value.string∧ss.length=l.length:=by
 obtain ⟨g,a⟩:=zq d eG underlying9
 obtain ⟨es,rfl,i⟩:=d.keysOf
 have k:∀x:List UInt8,x∈strKeys (.map es)↔ofB x∈l:=by
  intro x
  constructor
  ·intro hx
   have m:x∈es.map fun p=>strOf p.1:=hx
   obtain ⟨p,j,rfl⟩:=List.mem_map.1 m
   obtain ⟨v,t⟩:=i p j
   obtain ⟨y,hy,rfl⟩:=nI t
   have e:iQ y=p.1:=Option.some.inj ((jq hy).symm.trans t)
   have u:=(a _).1 hx
   rw [←e] at u ⊢
   have A:ofB (strOf (iQ y))=y:=kH (bq _)
   rw [A,←s y hy,←(o y hy).1];exact u
  intro hx
  have h1:=(s _ (q _ hx)).2 hx
  rw [←(o _ (q _ hx)).1] at h1
  rw [a]
  unfold iQ at h1
  rwa [bq] at h1
 have e:(ss.mergeSort fun x y=>decide (x≤y))=l.map fun x=>x.data.toList:=by
  refine EL (KX (r.nodup_iff.2 g)) ?_ fun x=> ?_
  ·unfold Oc;rw [List.pairwise_map];exact z
  rw [(List.mergeSort_perm ss _).mem_iff,r.mem_iff,k,List.mem_map]
  exact ⟨fun h=>⟨_,h,bq _⟩,by rintro ⟨y,hy,rfl⟩;rwa [show ofB y.data.toList=y from kH (bq _)]⟩
 refine ⟨?_,?_⟩
 ·rw [e,List.map_map]
  rfl
 have:=(List.mergeSort_perm ss fun x y=>decide (x≤y)).length_eq
 rw [e,List.length_map] at this
 exact this.symm
theorem LD (m : Nat) : AnyZ.SortsIn prog Tryz.sortedS_ren Fence.wide m :=
  ⟨fun blk off cap ss W d a b=>callsIn_wide.2 (AnyM.slices_Sort_string Tryz.sortS blk off cap ss W d a b),
   fun p cap W=>callsIn_wide.2 (AnyM.slices_Sort_string_none Tryz.sortS p cap W)⟩
theorem J6 (mb:Option Nat) (w:World):Calls prog 120 #[.map mb] w fun e w'=>e= .returned (.func (.func 190) #[] #[.pointer (some ⟨w.heap.size,0,none⟩)])∧w'=w.alloc (.cells #[.map mb] 80) :=
 callsIn_wide.1 (AnyZ.keys_in Tryz.keysF Fence.wide 5 trivial rfl mb w)
theorem Dc {α:Type} {enc:α→Value} (b n:Nat) (f:ByteArray→Option α) (l:List ByteArray) (w:World) (hm:aZ enc w b n f) (m:n≤1000000) (y:rV l) (q:∀x,x.size≤maxLen→((f x).isSome=true↔x∈l)) (o:∀x∈l,x.size≤maxLen) :
  Calls prog 119 #[.func (.func 190) #[] #[.pointer (some ⟨w.heap.size,0,none⟩)]] (w.alloc (.cells #[.map (some b)] 80)) fun e w'=> ∃v,e= .returned v∧mg w' v l∧Below w.heap.size w w':=by
 obtain ⟨D,a,j⟩:=hm
 have k:=a.lt
 have p:Maps.size D≤1000000:=Nat.le_trans a.size_le m
 have i:SeqGives Fence.wide 2 prog 190 #[.pointer (some ⟨w.heap.size,0,none⟩)] encStr (fun ss=>ss.Perm (strKeys D)) (Maps.size D) (w.alloc (.cells #[.map (some b)] 80)) :=
  AnyZ.keys_gives (ρ:=Tryz.keysF_ren) { Tryz.keysF with } Fence.wide _ trivial rfl (by omega) w.heap.size b n D _ (by simp) (by simp) (by
   obtain ⟨es,g,hb,t,j,u⟩:=a
   exact ⟨es,g,(Below.heap_alloc _ _ b k).trans hb,t,j,u⟩)
 have h:=callsIn_wide.1 (AnyZ.sorted_in Tryz.sortedS Fence.wide 5 trivial trivial trivial trivial rfl (by omega) (LD _) (enters_of func189 (by kernel_rfl) rfl) 190 #[.pointer (some ⟨w.heap.size,0,none⟩)] trivial (enters_of func190 (by kernel_rfl) rfl) _ _ (by unfold maxLen;omega) (by omega) _ i)
 refine h.mono ?_
 rintro e w' ⟨v,ss,r,hS,d,_,hb⟩
 obtain ⟨s,z⟩:=uF a j y q o hS
 rw [s,z] at d
 refine ⟨v,r,mg.iE d,((Below.refl _ w).alloc (Nat.le_refl _) _).trans (hb.mono (by simp))⟩
theorem tH (g:Nat) (d:Dk) (x:ByteArray) (k:Nat) (l:List ByteArray) (w:World) (h:kR w g d) (hx:x.size≤1000000) (A:cu x=some k) (C:rV l) (hm:∀y,y∈l↔(d k y).isSome=true) (z:∀y∈l,y.size≤1000) :
  Calls prog 70 #[.pointer (some ⟨g,0,none⟩),.string x] w fun e w'=> ∃v,e= .returned v∧mg w' v l∧Below w.heap.size w w':=by
 have o:=ah (AY g d x none 0 0 true w h hx (zY w))
 unfold zf at o
 rw [if_pos rfl,A] at o
 dsimp only at o
 have G:=ah C
 have K:=ah hm
 have H:=ah z
 clear h A C hm z
 go_enter func70,ntmps70
 go_wp2_with fail
 refine o.out.mono ?_
 rintro e w1 ⟨⟨b,rfl,hd⟩,i⟩
 have p:=ah i
 obtain ⟨m,n,f,J,L,j,D,u⟩:=hd
 have HS:=ah (Dc m n f l w1 j D G.out (fun y hy=>by
  rw [K.out]
  rcases u y hy with ⟨r,q⟩|⟨fb,s,r,q,_⟩
  ·rw [r,q];simp
  rw [r,q];simp) (fun y hy=>by have:=H.out y hy;unfold maxLen;omega))
 have F:=ah (J6 (some m) w1)
 obtain ⟨W,B⟩:∃W,w1.alloc (.cells #[.map (some m)] 80)=W:=⟨_,rfl⟩
 rw [B] at HS F
 clear B j D u i
 go_wp2_with fail
 refine F.out.mono ?_
 rintro e M ⟨rfl,rfl⟩
 go_wp2_with fail
 refine HS.out.mono ?_
 rintro e w3 ⟨v,rfl,E,a⟩
 have t:=bth p a
 have I:=ah E
 clear E a
 go_wp2_with fail
 go_ret
 exact ⟨v,rfl,I.out,t.out⟩
end
end Go.Proofs.YtlhcoanbhnphgaaGreatDoor

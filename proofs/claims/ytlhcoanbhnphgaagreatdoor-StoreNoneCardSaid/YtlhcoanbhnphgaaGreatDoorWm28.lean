/- A part of this claim. -/
import Derived.Test.YtlhcoanbhnphgaaGreatDoorShelf7
import Derived.Test.YtlhcoanbhnphgaaGreatDoorWm18
namespace Go.Proofs.YtlhcoanbhnphgaaGreatDoor
open Tryz
set_option maxHeartbeats 64000000
set_option maxRecDepth 100000
section
open Go.RowKit Go.Maps Go.Sort Go.Shelf
theorem GR:∀ x y:List UInt8,ltB x y = true ↔ x < y
 | [],[] => by simp [ltB]
 | [],_ :: _ => by simp [ltB]
 | _ :: _,[] => by simp [ltB]
 | a :: x,b :: y => by
  unfold ltB
  rw [List.cons_lt_cons_iff,UInt8.lt_iff_toNat_lt,← UInt8.toNat_inj]
  by_cases h1:a.toNat < b.toNat
  ·rw [if_pos h1];simp [h1]
  rw [if_neg h1]
  by_cases h2:b.toNat < a.toNat
  ·rw [if_pos h2]
   have:a.toNat ≠ b.toNat:=by omega
   simp [h1,this]
  rw [if_neg h2]
  have:a.toNat = b.toNat:=by omega
  rw [GR x y]
  simp [this]
theorem FP {ss:List (List UInt8)} (hn:ss.Nodup):AscL (ss.mergeSort fun x y => decide (x ≤ y)):=by
 have hp:=List.pairwise_mergeSort (le:=fun x y:List UInt8 => decide (x ≤ y)) (fun a b c h1 h2 => by simp only [decide_eq_true_eq] at *;exact List.le_trans h1 h2) (fun a b => by simp only [Bool.or_eq_true,decide_eq_true_eq];exact List.le_total a b) ss
 have hn2:=(List.mergeSort_perm ss fun x y => decide (x ≤ y)).nodup_iff.2 hn
 refine (hp.and hn2).imp fun {x y} ⟨h1,h2⟩ => ?_
 have h3:x ≤ y:=of_decide_eq_true h1
 cases h:ltB x y with
 | true => rfl
 | false =>
  exact absurd (jA h (by
   cases h4:ltB y x with
   | false => rfl
   | true => exact absurd ((GR y x).1 h4) h3)) h2
theorem uP {H:Type} {P:Program} {k:TypeId} {R:Value → Option (DataW H × List MemPlace)} {w:World} {b n:Nat} {D:DataW H} (h:w.ownsMap P k R b n D) (K:Keyed P k) (hk:P.underlying k = some .string) :
  (strKeys D).Nodup ∧ ∀ x,x ∈ strKeys D ↔ Maps.has D (.string x) = true:=by
 obtain ⟨es,rfl,hp⟩:=h.tidy K
 obtain ⟨es',e,hko⟩:=h.keysOf
 cases e
 have hs:∀ p ∈ es,∃ x,p.1 = .string x:=fun p hp' => by
  obtain ⟨v,hv⟩:=hko p hp'
  obtain ⟨x,_,hx,_⟩:=Maps.keyOf_str hk hv
  exact ⟨x,hx⟩
 refine ⟨?_,fun x => ?_⟩
 ·show (es.map fun p => strOf p.1).Nodup
  refine List.pairwise_map.2 (hp.imp_of_mem fun {p q} hp' hq' hne e => hne ?_)
  obtain ⟨a,ha⟩:=hs p hp'
  obtain ⟨b,hb⟩:=hs q hq'
  rw [ha,hb] at e ⊢
  exact congrArg _ e
 show x ∈ (es.map fun p => strOf p.1) ↔ _
 rw [Maps.has_eq,List.any_eq_true,List.mem_map]
 constructor
 ·rintro ⟨p,hp',rfl⟩
  obtain ⟨a,ha⟩:=hs p hp'
  exact ⟨p,hp',by rw [ha];simp [Lit.sameKey,strOf]⟩
 rintro ⟨p,hp',he⟩
 obtain ⟨a,ha⟩:=hs p hp'
 rw [ha] at he
 exact ⟨p,hp',by rw [ha];simpa [Lit.sameKey,strOf] using he⟩
theorem p9 {α:Type} {enc:α → Value} {w:World} {b n:Nat} {D:DataW Value} {f:ByteArray → Option α} (hown:w.ownsMap prog 9 cZ b n D) (hs:uI enc D f) {l:List ByteArray} (hl:AscT l) (hL:∀ x,x.size ≤ maxLen → ((f x).isSome = true ↔ x ∈ l)) (hz:∀ x ∈ l,x.size ≤ maxLen)
  {ss:List (List UInt8)} (hp:ss.Perm (strKeys D)):(ss.mergeSort fun x y => decide (x ≤ y)).map encStr = l.map Value.string ∧ ss.length = l.length:=by
 obtain ⟨hnd,hmem⟩:=uP hown bY underlying9
 obtain ⟨es,rfl,hko⟩:=hown.keysOf
 have hin:∀ x:List UInt8,x ∈ strKeys (.map es) ↔ ofB x ∈ l:=by
  intro x
  constructor
  ·intro hx
   have hx2:x ∈ es.map fun p => strOf p.1:=hx
   obtain ⟨p,hp',rfl⟩:=List.mem_map.1 hx2
   obtain ⟨v,hv⟩:=hko p hp'
   obtain ⟨y,hy,rfl⟩:=kN hv
   have e:keyT y = p.1:=Option.some.inj ((gM hy).symm.trans hv)
   have hh:=(hmem _).1 hx
   rw [← e] at hh ⊢
   have e2:ofB (strOf (keyT y)) = y:=iU (aX _)
   rw [e2,← hL y hy,← (hs y hy).1];exact hh
  intro hx
  have h1:=(hL _ (hz _ hx)).2 hx
  rw [← (hs _ (hz _ hx)).1] at h1
  rw [hmem]
  unfold keyT at h1
  rwa [aX] at h1
 have e:(ss.mergeSort fun x y => decide (x ≤ y)) = l.map fun x => x.data.toList:=by
  refine Af (FP (hp.nodup_iff.2 hnd)) ?_ fun x => ?_
  ·unfold AscL;rw [List.pairwise_map];exact hl
  rw [(List.mergeSort_perm ss _).mem_iff,hp.mem_iff,hin,List.mem_map]
  exact ⟨fun h => ⟨_,h,aX _⟩,by rintro ⟨y,hy,rfl⟩;rwa [show ofB y.data.toList = y from iU (aX _)]⟩
 refine ⟨?_,?_⟩
 ·rw [e,List.map_map]
  rfl
 have:=(List.mergeSort_perm ss fun x y => decide (x ≤ y)).length_eq
 rw [e,List.length_map] at this
 exact this.symm
theorem Gg (m : Nat) : AnyZ.SortsIn prog Tryz.sortedS_ren Fence.wide m :=
  ⟨fun blk off cap ss W hH hblk hsz => callsIn_wide.2 (AnyM.slices_Sort_string Tryz.sortS blk off cap ss W hH hblk hsz),
   fun p cap W => callsIn_wide.2 (AnyM.slices_Sort_string_none Tryz.sortS p cap W)⟩
theorem EL (mb:Option Nat) (w:World):Calls prog 120 #[.map mb] w fun e w' => e = .returned (.func (.func 190) #[] #[.pointer (some ⟨w.heap.size,0,none⟩)]) ∧ w' = w.alloc (.cells #[.map mb] 80) :=
 callsIn_wide.1 (AnyZ.keys_in Tryz.keysF Fence.wide 5 trivial rfl mb w)
theorem yO {α:Type} {enc:α → Value} (b n:Nat) (f:ByteArray → Option α) (l:List ByteArray) (w:World) (hm:MapT enc w b n f) (hn:n ≤ 1000000) (hl:AscT l) (hL:∀ x,x.size ≤ maxLen → ((f x).isSome = true ↔ x ∈ l)) (hz:∀ x ∈ l,x.size ≤ maxLen) :
  Calls prog 119 #[.func (.func 190) #[] #[.pointer (some ⟨w.heap.size,0,none⟩)]] (w.alloc (.cells #[.map (some b)] 80)) fun e w' => ∃ v,e = .returned v ∧ fV w' v l ∧ Below w.heap.size w w':=by
 obtain ⟨D,hown,hs⟩:=hm
 have hbl:=hown.lt
 have hsz:Maps.size D ≤ 1000000:=Nat.le_trans hown.size_le hn
 have hseq:SeqGives Fence.wide 2 prog 190 #[.pointer (some ⟨w.heap.size,0,none⟩)] encStr (fun ss => ss.Perm (strKeys D)) (Maps.size D) (w.alloc (.cells #[.map (some b)] 80)) :=
  AnyZ.keys_gives (ρ:=Tryz.keysF_ren) { Tryz.keysF with } Fence.wide _ trivial rfl (by omega) w.heap.size b n D _ (by simp) (by simp) (by
   obtain ⟨es,clock,hb,Ft,hs,hD⟩:=hown
   exact ⟨es,clock,(Below.heap_alloc _ _ b hbl).trans hb,Ft,hs,hD⟩)
 have h:=callsIn_wide.1 (AnyZ.sorted_in Tryz.sortedS Fence.wide 5 trivial trivial trivial trivial rfl (by omega) (Gg _) (enters_of func189 (by kernel_rfl) rfl) 190 #[.pointer (some ⟨w.heap.size,0,none⟩)] trivial (enters_of func190 (by kernel_rfl) rfl) _ _ (by unfold maxLen;omega) (by omega) _ hseq)
 refine h.mono ?_
 rintro e w' ⟨v,ss,he,hS,hrow,_,hb⟩
 obtain ⟨e1,e2⟩:=p9 hown hs hl hL hz hS
 rw [e1,e2] at hrow
 refine ⟨v,he,fV.bZ hrow,((Below.refl _ w).alloc (Nat.le_refl _) _).trans (hb.mono (by simp))⟩
theorem pq (g:Nat) (d:Dk) (x:ByteArray) (k:Nat) (l:List ByteArray) (w:World) (h:jg w g d) (hx:x.size ≤ 1000000) (hk:bI x = some k) (hl:AscT l) (hm:∀ y,y ∈ l ↔ (d k y).isSome = true) (hz:∀ y ∈ l,y.size ≤ 1000) :
  Calls prog 70 #[.pointer (some ⟨g,0,none⟩),.string x] w fun e w' => ∃ v,e = .returned v ∧ fV w' v l ∧ Below w.heap.size w w':=by
 have HF:=ah (wI g d x none 0 0 true w h hx (vK w))
 unfold uN at HF
 rw [if_pos rfl,hk] at HF
 dsimp only at HF
 have HL:=ah hl
 have HM:=ah hm
 have HZ:=ah hz
 clear h hk hl hm hz
 go_enter func70,ntmps70
 go_wp2_with fail
 refine HF.out.mono ?_
 rintro e w1 ⟨⟨b,rfl,hd⟩,hb1⟩
 have HB1:=ah hb1
 obtain ⟨m,n,f,hbl,c0,hmp,hn,hf⟩:=hd
 have HS:=ah (yO m n f l w1 hmp hn HL.out (fun y hy => by
  rw [HM.out]
  rcases hf y hy with ⟨e1,e2⟩ | ⟨fb,s,e1,e2,_⟩
  ·rw [e1,e2];simp
  rw [e1,e2];simp) (fun y hy => by have:=HZ.out y hy;unfold maxLen;omega))
 have HK:=ah (EL (some m) w1)
 obtain ⟨W,hW⟩:∃ W,w1.alloc (.cells #[.map (some m)] 80) = W:=⟨_,rfl⟩
 rw [hW] at HS HK
 clear hW hmp hn hf hb1
 go_wp2_with fail
 refine HK.out.mono ?_
 rintro e w2 ⟨rfl,rfl⟩
 go_wp2_with fail
 refine HS.out.mono ?_
 rintro e w3 ⟨v,rfl,hv,hb3⟩
 have HB3:=bth HB1 hb3
 have HV:=ah hv
 clear hv hb3
 go_wp2_with fail
 go_ret
 exact ⟨v,rfl,HV.out,HB3.out⟩
end
end Go.Proofs.YtlhcoanbhnphgaaGreatDoor

/- YtmhjpmenngjmeaaGreatDoorR26: texts N5 of this claim, in one. -/
import Derived.Deep.CutRange
import Derived.Test.YtmhjpmenngjmeaaGreatDoorR20
import Derived.Test.YtmhjpmenngjmeaaGreatDoorR21
namespace Go.Proofs.YtmhjpmenngjmeaaGreatDoor
open Go.RowKit
theorem first_at {n:ByteArray}:∀ {l:List Ent} {k:Nat} (hk:k < l.length),(∀ j (h:j < l.length),j < k → l[j].name ≠ n) → l[k].name = n → firstE n l = some l[k]
 | [],k,hk,_,_ => absurd hk (by simp)
 | a :: l,0,_,_,h => by unfold firstE;rw [if_pos (show a.name = n from h)];rfl
 | a :: l,k + 1,hk,hno,h => by
  unfold firstE
  rw [if_neg (show ¬ a.name = n from hno 0 (by simp) (by omega))]
  exact first_at (l:=l) (k:=k) (by simpa using hk) (fun j hj hjk => hno (j + 1) (by simpa using hj) (by omega)) h
theorem first_none {n:ByteArray}:∀ {l:List Ent},(∀ j (h:j < l.length),l[j].name ≠ n) → firstE n l = none
 | [],_ => rfl
 | a :: l,h => by
  unfold firstE
  rw [if_neg (show ¬ a.name = n from h 0 (by simp))]
  exact first_none fun j hj => h (j + 1) (by simpa using hj)
theorem name_eqb (a b:ByteArray):(a.toList == b.toList) = decide (a = b):=by
 rw [Bool.eq_iff_iff,beq_iff_eq,decide_eq_true_iff]
 constructor
 ·intro h
  rw [ByteArray.toList_eq,ByteArray.toList_eq] at h
  exact ba_ext h
 ·intro h;rw [h]
set_option maxRecDepth 100000 in
set_option maxHeartbeats 1000000 in
theorem pf1_any (e:Ent) (n:ByteArray) (nc:Nat) (w:World) (hc:w.cell? ⟨nc,0,none⟩ = some (.string n)) :
  Calls Tryz.prog 28 #[.agg (entC e).toArray,.pointer (some ⟨nc,0,none⟩)] w fun r w' => r = .returned (.bool (decide (e.name = n))) ∧ Below w.heap.size w w':=by
 obtain ⟨W,hW⟩:∃ W,w.alloc (.cells (entC e).toArray 84) = W:=⟨_,rfl⟩
 have hb:Below w.heap.size w W:=by rw [← hW];exact (Below.refl _ _).alloc (Nat.le_refl _) _
 have hr:W.rangeAt w.heap.size 0 (entC e):=by rw [← hW];exact range_new _ _ _ rfl
 have c0:W.cell? ⟨w.heap.size,0,none⟩ = some (.string e.name):=hr 0 _ rfl
 have c1:W.cell? ⟨nc,0,none⟩ = some (.string n):=below_load hc hb (World.block_lt_of_cell? w _ hc)
 have HB:=Lib.hid hb
 have HW:=Lib.hid hW
 have HEQ:=Lib.hid (name_eqb e.name n)
 clear hb hr hW hc
 go_enter Tryz.func28,Tryz.ntmps28
 go_upto_region 1 with fail
 rw [HW.out]
 go_wp2
 go_ret
 exact ⟨by first | (rw [← HEQ.out];rfl) | (rw [HEQ.out]) | simp [HEQ.out],HB.out⟩
def IxAns (n:ByteArray) (l:List Ent) (w:World) (r:Ending) (w':World):Prop:=Below w.heap.size w w' ∧ ((∃ k,∃ h:k < l.length,r = .returned (.int .i64 (k:Int)) ∧ firstE n l = some l[k]) ∨ (r = .returned (.int .i64 (-1)) ∧ firstE n l = none))
set_option maxRecDepth 100000 in
set_option maxHeartbeats 2000000 in
theorem ixE_any (v:Value) (l:List Ent) (n:ByteArray) (nc:Nat) (w:World) (hv:EntRow w v l) (h32:∀ e ∈ l,e.id.length = 32) (hc:w.cell? ⟨nc,0,none⟩ = some (.string n)) :
  Calls Tryz.prog 27 #[v,.func (.func 28) #[] #[.pointer (some ⟨nc,0,none⟩)]] w (IxAns n l w):=by
 obtain ⟨ao,cap,rfl,hmax,hv⟩:=hv.open2
 unfold maxLen at hmax
 obtain ⟨zs,i0,hi,hz0,hz1,hz2,hzv,hbu,hzs⟩:=ent_zero
 have HV:=Lib.hid hv
 have H32:=Lib.hid h32
 have hnc:nc < w.heap.size:=World.block_lt_of_cell? w _ hc
 have HP:=Lib.hid (fun e W (h:Below w.heap.size w W) => pf1_any e n nc W (below_load hc h hnc))
 clear hv hbu hzs hz0 hz2 hzv h32 hc
 go_enter Tryz.func27,Tryz.ntmps27
 go_wp2
 go_loopw [8] (fun i wr => ∃ k:Nat,k ≤ l.length ∧ i = .int .i64 k ∧ Hid (∀ j (h:j < l.length),j < k → l[j].name ≠ n) ∧ Below w.heap.size w wr) (fun i _ => (l.length - intOf i).toNat)
 case atStart => exact ⟨0,by omega,rfl,(fun j _ hj => absurd hj (by omega)),Below.refl _ _⟩
 case round =>
  obtain ⟨wo,rfl⟩:∃ wo:World,wo = wr:=⟨_,rfl⟩
  obtain ⟨k,hk,rfl,hno,hb⟩:=hrel
  have HNO:=Lib.hid hno.out
  have HB:=Lib.hid hb
  clear hno
  by_cases hlt:k < l.length
  ·obtain ⟨b,off,rfl,hbl,hcell⟩:=HV.out (by intro e;rw [e] at hlt;simp at hlt)
   have f1:=rangeAt_below (hcell k hlt) hb hbl
   obtain ⟨x,hx⟩:∃ x,l[k] = x:=⟨_,rfl⟩
   have HXK:=Lib.hid hx
   rw [hx] at f1
   have hid:x.id.length = 32:=by rw [← hx];exact H32.out _ (List.getElem_mem hlt)
   have hcl:(entC x).length = 34:=by simp [entC,idC_len,hid]
   have h34:(Tryz.prog.info? 84).map (·.size) = some (entC x).length:=by rw [hcl,hi];exact congrArg some hz1
   have hp:=HP.out x wo hb
   have HPX:=Lib.hid hp
   have k0:(0:Int) ≤ k:=by omega
   have k1:(k:Int) < l.length:=by omega
   have d1:decide ((k:Int) < l.length) = true:=decide_eq_true k1
   have HST:Hid (x.name = n → firstE n l = some l[k]):=Lib.hid (fun h => first_at hlt HNO.out (by rw [hx];exact h))
   have HNX:Hid (x.name ≠ n → ∀ j (h:j < l.length),j < k + 1 → l[j].name ≠ n):=Lib.hid (fun h j hj hjk => by
    by_cases e:j = k
    ·subst e;rw [hx];exact h
    ·exact HNO.out j hj (by omega))
   clear hcell hx hid hcl hp hb
   generalize entC x = us at h34 f1 HPX
   go_wp2_with (refine wpList_load_mid rfl 84 _ rfl b (off + k * 34) rfl us _ f1 Tryz.underlying84 rfl h34 ?_)
   refine HPX.out.mono ?_
   rintro e w2 ⟨rfl,hb2⟩
   have HB2:=Lib.hid (HB.out.trans (hb2.mono HB.out.size))
   clear hb2 f1 HPX
   by_cases hxn:x.name = n
   ·rw [decide_eq_true hxn]
    have HS:=Lib.hid (HST.out hxn)
    clear hxn
    go_wp2
    go_ret
    exact ⟨HB2.out,.inl ⟨k,hlt,rfl,HS.out⟩⟩
   ·rw [decide_eq_false hxn]
    have HS:=Lib.hid (HNX.out hxn)
    clear hxn
    go_wp2
    go_roundw
    case rel => exact ⟨k + 1,by omega,by go_num,Lib.hid HS.out,HB2.out⟩
    case measure => simp [intOf];omega
  ·have d1:decide ((k:Int) < l.length) = false:=decide_eq_false (by omega)
   have HF:Hid (firstE n l = none):=Lib.hid (first_none fun j hj => HNO.out j hj (by omega))
   clear hb
   go_wp2
   go_ret
   exact ⟨HB.out,.inr ⟨rfl,HF.out⟩⟩
end Go.Proofs.YtmhjpmenngjmeaaGreatDoor

/- A part of this claim. -/
import Derived.Test.YtlhcoanbhnphgaaGreatDoorShelf2
import Derived.Test.YtlhcoanbhnphgaaGreatDoorWm10
namespace Go.Proofs.YtlhcoanbhnphgaaGreatDoor
open Tryz
set_option maxHeartbeats 64000000
set_option maxRecDepth 100000
set_option linter.all false
section
open Go.RowKit Go.Shelf Go.Lib
theorem Ja (w:World):PredAt prog 308 #[] encR badR w:=fun W r _ => by
 unfold FnGives
 by_cases h1:r < 33 <;> by_cases h2:126 < r <;> by_cases h3:r = 47
 all_goals
  have d1:decide ((r:Int) < 33) = decide (r < 33):=by rw [decide_eq_decide];omega
  have d2:decide ((126:Int) < r) = decide (126 < r):=by rw [decide_eq_decide];omega
  have d3:((r:Int) == 47) = decide (r = 47):=by by_cases h:r = 47 <;> simp [h] <;> omega
  go_enter func308,ntmps308
  go_wp2
  all_goals first | (exfalso;omega) | (go_ret;exact ⟨by simp [badR,h1,h2,h3],0,rfl⟩)
theorem Ee (s:ByteArray) (w:World) (hs:s.size ≤ 1000000000) :
  Calls prog 298 #[.string s] w fun e w' => e = .returned (.bool (aQ s)) ∧ Below w.heap.size w w':=by
 have HC:=ah (fun W => Any.strings_ContainsFunc Tryz.laysGw17 308 #[] (enters_of func308 (by kernel_rfl) rfl) badR s W (Ja W))
 have hcb:=jN s
 by_cases h0:s.size = 0
 ·obtain rfl:s = ⟨#[]⟩:=by
   cases s with
   | mk d => have:d = #[]:=Array.size_eq_zero_iff.1 h0;rw [this]
  clear HC hcb
  have HR:Hid (aQ ⟨#[]⟩ = false):=ah (by decide)
  go_enter func298,ntmps298
  go_wp2
  go_ret
  exact ⟨bE HR.out.symm,Below.refl _ _⟩
 have e1:s.toList ≠ []:=fun h => h0 (by have:=congrArg List.length h;rw [Lib.toList_data] at this;simpa using this)
 have e2:(!s.toList.isEmpty) = true:=by simpa using e1
 have e3:s.toList.isEmpty = false:=by simpa using e1
 by_cases h2:s.size ≤ 32
 ·have d2:decide ((s.size:Int) ≤ 32) = true:=decide_eq_true (by omega)
  have HR:Hid (aQ s = !decide (0 ≤ Lib.idxFunc badR true s)):=by
   unfold Hid aQ;rw [hcb,decide_eq_true (show 1 ≤ s.size ∧ s.size ≤ 32 by omega)];simp
  generalize decide (0 ≤ Lib.idxFunc badR true s) = b at HC HR
  clear hcb
  go_enter func298,ntmps298
  go_wp2_with fail
  refine (HC.out w).mono ?_
  rintro e w1 ⟨rfl,hb1⟩
  go_wp2
  go_ret
  exact ⟨bE HR.out.symm,hb1⟩
 have d2:decide ((s.size:Int) ≤ 32) = false:=decide_eq_false (by omega)
 have HR:Hid (aQ s = false):=by unfold Hid aQ;rw [decide_eq_false (fun h => h2 h.2)];simp
 clear HC hcb
 go_enter func298,ntmps298
 go_wp2
 go_ret
 exact ⟨bE HR.out.symm,Below.refl _ _⟩
end
section
open Go.RowKit
theorem fD.LV {w:World} {v:Value} {l:List Ent} (h:fD w v l):∃ ao cap,v = .slice ao l.length cap ∧ l.length ≤ maxLen ∧ (l ≠ [] → ∃ b off,ao = some ⟨b,off,none⟩ ∧ b < w.heap.size ∧ ∀ k (hk:k < l.length),w.rangeAt b (off + k * 34) (entC l[k])):=by
 obtain ⟨ao,cap,rfl,hm,h⟩:=h
 rw [List.length_map] at hm ⊢
 refine ⟨ao,cap,rfl,hm,fun hne => ?_⟩
 obtain ⟨b,off,e,hl,hc⟩:=h (by simpa using hne)
 refine ⟨b,off,e,hl,fun k hk => ?_⟩
 have:=hc k (by simpa using hk)
 rwa [List.getElem_map] at this
theorem zS {w:World} {b o:Nat} {e:Ent} (h:w.rangeAt b o (entC e)):w.cell? ⟨b,o,none⟩ = some (.string e.name) ∧ w.cell? ⟨b,o + 1,none⟩ = some (.int .i64 (e.kind:Int)):=⟨h 0 _ rfl,h 1 _ rfl⟩
theorem xE (v:Value) (l:List Ent) (w:World) (hv:fD w v l) (hz:∀ e ∈ l,e.name.size ≤ 1000000 ∧ e.kind ≤ 2 ∧ e.id.length = 32) :
  Calls prog 276 #[v] w fun e w' => e = .returned (.bool (gW l)) ∧ Below w.heap.size w w':=by
 obtain ⟨ao,cap,rfl,hmax,hv⟩:=hv.LV
 unfold maxLen at hmax
 obtain ⟨zs,i0,hi,hz0,hz1,hz2,hzv,hbu,hzs⟩:=zR
 have HZS:=ah hzs
 have HZ:=ah hz
 have HV:=ah hv
 clear hv hz hbu hzs hz0 hz2
 go_enter func276,ntmps276
 go_wp2
 go_loopw [7] (fun i wr => ∃ k:Nat,k ≤ l.length ∧ i = .int .i64 k ∧ Hid (∀ j,j < k → rowOk l j = true) ∧ Below w.heap.size w wr) (fun i _ => (l.length - intOf i).toNat)
 case atStart => exact ⟨0,by omega,rfl,(fun j hj => absurd hj (by omega)),Below.refl _ _⟩
 obtain ⟨wo,rfl⟩:∃ wo:World,wo = wr:=⟨_,rfl⟩
 obtain ⟨k,hk,rfl,hok,hb⟩:=hrel
 by_cases hlt:k < l.length
 ·obtain ⟨b,off,rfl,hbl,hcell⟩:=HV.out (by intro e;rw [e] at hlt;simp at hlt)
  have f1:=aF (hcell k hlt) hb hbl
  have hbo:b < wo.heap.size:=by have:=hb.size;omega
  have HPV:=ah (fun (h0:0 < k) => (zS (aF (hcell (k - 1) (by omega)) hb hbl)).1)
  obtain ⟨hz1',hz2',hz3'⟩:=HZ.out l[k] (List.getElem_mem hlt)
  have HN:=ah (fun w => Ee l[k].name w (by omega))
  have HBAD:=ah (Aq l k hlt)
  have HE:=ah (DU l k hlt)
  have HFI:=ah (fun (h0:k = 0) (he:dV l[k] = true) => by subst h0;exact yV l hlt he:∀ (h0:k = 0) (he:dV l[k] = true),rowOk l k = true)
  have HNX:=ah (fun (h0:0 < k) (he:dV l[k] = true) => AQ l k hlt h0 he)
  have k0:(0:Int) ≤ k:=by omega
  have k1:(k:Int) < l.length:=by omega
  have HPN:Hid (0 < k → (l[k - 1]'(by omega)).name.size ≤ 1000000):=ah (fun h0 => (HZ.out _ (List.getElem_mem (by omega))).1)
  clear hcell
  have hcl:(entC l[k]).length = 34:=by simp [entC,au,hz3']
  have h34:(prog.info? 217).map (·.size) = some (entC l[k]).length:=by rw [hcl,hi];exact congrArg some hz1
  have hi34:(prog.info? 217).map (·.size) = some 34:=by rw [hi];exact congrArg some hz1
  have hone:=tY l[k]
  have hth:(wo.alloc (.cells zs 217)).there wo.heap.size 0 34:=by
   rw [HZS.out]
   have:=(Arr.ofList wo ((List.range 34).map entZ) 217).there
   rw [List.length_map,List.length_range] at this
   exact this
  have hr3:=World.rangeAt_setCells_same (wo.alloc (.cells zs 217)) wo.heap.size 0 (entC l[k]) (by rw [hcl];exact hth)
  have hB3:=below_setCells (B:=wo.heap.size) (a:=wo) wo.heap.size (Nat.le_refl _) (entC l[k]) 0 _ ((Below.refl _ _).alloc (Nat.le_refl _) (.cells zs 217))
  obtain ⟨c1,c2⟩:=zS hr3
  rw [Nat.zero_add] at c2
  obtain ⟨us,hus⟩:∃ us,us = entC l[k]:=⟨_,rfl⟩
  rw [← hus] at hcl h34 hone hB3 c1 c2 f1
  clear hr3
  have HUS:=ah hus
  clear hus
  obtain ⟨W,hW⟩:∃ W,(wo.alloc (.cells zs 217)).setCells wo.heap.size 0 us = W:=⟨_,rfl⟩
  rw [hW] at hB3 c1 c2
  have hszW:wo.heap.size < W.heap.size:=World.block_lt_of_cell? W ⟨wo.heap.size,0,none⟩ c1
  have HW:=ah hW
  have HTH:=ah hth
  have HCL:=ah hcl
  have HON:=ah hone
  have F1:=ah f1
  clear hth hcl hone f1 hW
  have HOK:=ah hok
  by_cases hn:aQ l[k].name = true
  ·by_cases hkd:l[k].kind = 1 ∨ l[k].kind = 2
   ·have he:dV l[k] = true:=by unfold dV;rw [hn,decide_eq_true (by omega)];rfl
    have e1:(((l[k].kind:Nat):Int) != 1) = decide (l[k].kind ≠ 1):=by rcases hkd with h | h <;> rw [h] <;> rfl
    have e2:(((l[k].kind:Nat):Int) != 2) = decide (l[k].kind ≠ 2):=by rcases hkd with h | h <;> rw [h] <;> rfl
    rw [hn] at HN
    rcases Nat.eq_zero_or_pos k with hk0 | hk0
    ·have j5:decide ((0:Int) < k) = false:=decide_eq_false (by omega)
     have j6:decide (0 < k) = false:=decide_eq_false (by omega)
     have HR:=ah (HFI.out hk0 he)
     clear hn he HBAD HE HNX HFI HPV HPN hz1' hz2' hz3' hok hk0
     generalize l[k].name = x at c1 HN
     generalize l[k].kind = y at c2 e1 e2 hkd
     rcases hkd with rfl | rfl
     all_goals
      simp only [ne_eq,Nat.reduceEqDiff,not_true,not_false_eq_true,decide_true,decide_false] at e1 e2
      go_wp2_with (first | (refine wpList_load_mid rfl 217 _ rfl b (off + k * 34) rfl us _ F1.out underlying217 rfl h34 ?_) | (refine aj rfl 217 _ _ rfl wo.heap.size 0 us rfl rfl 34 HCL.out HTH.out hi34 HON.out ?_))
      simp only [Act.put]
      rw [HW.out]
      refine wbq ?_
      have LQ0:=blq c1
      have LQ1:=blq c2
      repeat (go_big_quiet_step ((go_at_call 298;with_reducible exact ay (HN.out _))))
      refine wpQuiet_nil ?_
      intro wq hbq
      clear LQ0 LQ1
      have HB:=ah (hb.trans (hB3.trans (hbq.mono hB3.size) |>.mono hb.size))
      clear hb hbq hB3 c1 c2
      go_wp2
      go_roundw
      case rel => exact ⟨k + 1,by omega,by go_num,fun j hj => by
       rcases Nat.lt_or_ge j k with h | h
       ·exact HOK.out j h
       obtain rfl:j = k:=by omega
       exact HR.out,HB.out⟩
      case measure => simp [intOf];omega
    have cp0:=HPV.out hk0
    have HX:=ah (HNX.out hk0 he)
    have cp:=aA cp0 hB3 hbo
    have j1:IntKind.i64.wrap ((k:Int) - 1) = (k:Int) - 1:=IntWalk.i64_in _ (by omega)
    have j2:((k:Int) - 1).toNat = k - 1:=by omega
    have j3:(0:Int) ≤ (k:Int) - 1:=by omega
    have j4:(k:Int) - 1 < l.length:=by omega
    have j5:decide ((0:Int) < k) = true:=decide_eq_true (by omega)
    have j6:decide (0 < k) = true:=decide_eq_true (by omega)
    have j7:(1:Int) ≤ k:=by omega
    have hbW:b < W.heap.size:=by omega
    have hbl1:=C8 l[k - 1].name l[k].name
    have HBD:=ah HBAD.out
    clear hn he HBAD HE HNX HFI HPV HPN hz1' hz2' hz3' hok cp0
    generalize l[k].name = x at c1 HN hbl1 HX
    generalize l[k].kind = y at c2 e1 e2 hkd
    generalize l[k - 1].name = z at cp hbl1 HX
    cases hlz:ltB z.data.toList x.data.toList with
    | true =>
     have HR:Hid (rowOk l k = true):=by unfold Hid;rw [HX.out,hlz]
     rw [hlz] at hbl1
     clear hlz HBD HX
     rcases hkd with rfl | rfl
     all_goals
      simp only [ne_eq,Nat.reduceEqDiff,not_true,not_false_eq_true,decide_true,decide_false] at e1 e2
      go_wp2_with (first | (refine wpList_load_mid rfl 217 _ rfl b (off + k * 34) rfl us _ F1.out underlying217 rfl h34 ?_) | (refine aj rfl 217 _ _ rfl wo.heap.size 0 us rfl rfl 34 HCL.out HTH.out hi34 HON.out ?_))
      simp only [Act.put]
      rw [HW.out]
      refine wbq ?_
      have LQ0:=blq c1
      have LQ1:=blq c2
      have LQ2:=blq cp
      repeat (go_big_quiet_step ((go_at_call 298;with_reducible exact ay (HN.out _))))
      refine wpQuiet_nil ?_
      intro wq hbq
      clear LQ0 LQ1 LQ2
      have HB:=ah (hb.trans (hB3.trans (hbq.mono hB3.size) |>.mono hb.size))
      clear hb hbq hB3 c1 c2 cp
      go_wp2
      go_roundw
      case rel => exact ⟨k + 1,by omega,by go_num,fun j hj => by
       rcases Nat.lt_or_ge j k with h | h
       ·exact HOK.out j h
       obtain rfl:j = k:=by omega
       exact HR.out,HB.out⟩
      case measure => simp [intOf];omega
    | false =>
     have HR:=ah (HBD.out (by rw [HX.out,hlz]))
     rw [hlz] at hbl1
     clear hlz HBD HX
     rcases hkd with rfl | rfl
     all_goals
      simp only [ne_eq,Nat.reduceEqDiff,not_true,not_false_eq_true,decide_true,decide_false] at e1 e2
      go_wp2_with (first | (refine wpList_load_mid rfl 217 _ rfl b (off + k * 34) rfl us _ F1.out underlying217 rfl h34 ?_) | (refine aj rfl 217 _ _ rfl wo.heap.size 0 us rfl rfl 34 HCL.out HTH.out hi34 HON.out ?_))
      simp only [Act.put]
      rw [HW.out]
      refine wbq ?_
      have LQ0:=blq c1
      have LQ1:=blq c2
      have LQ2:=blq cp
      repeat (go_big_quiet_step ((go_at_call 298;with_reducible exact ay (HN.out _))))
      refine wpQuiet_nil ?_
      intro wq hbq
      clear LQ0 LQ1 LQ2
      have HB:=ah (hb.trans (hB3.trans (hbq.mono hB3.size) |>.mono hb.size))
      clear hb hbq hB3 c1 c2 cp
      go_wp2
      go_ret
      exact ⟨bE HR.out.symm,HB.out⟩
   have he:dV l[k] = false:=by unfold dV;rw [hn,decide_eq_false (by omega)];rfl
   have HR:=ah (HBAD.out (HE.out he))
   rw [hn] at HN
   have e1:(((l[k].kind:Nat):Int) != 1) = true:=by rw [bne_iff_ne];omega
   have e2:(((l[k].kind:Nat):Int) != 2) = true:=by rw [bne_iff_ne];omega
   clear hn hkd he HBAD HE HNX HFI HPV HPN hz1' hz2' hz3' hok
   generalize l[k].name = x at c1 HN
   generalize l[k].kind = y at c2 e1 e2
   go_wp2_with (first | (refine wpList_load_mid rfl 217 _ rfl b (off + k * 34) rfl us _ F1.out underlying217 rfl h34 ?_) | (refine aj rfl 217 _ _ rfl wo.heap.size 0 us rfl rfl 34 HCL.out HTH.out hi34 HON.out ?_))
   simp only [Act.put]
   rw [HW.out]
   refine wbq ?_
   have LQ0:=blq c1
   have LQ1:=blq c2
   repeat (go_big_quiet_step ((go_at_call 298;with_reducible exact ay (HN.out _))))
   refine wpQuiet_nil ?_
   intro wq hbq
   clear LQ0 LQ1
   have HB:=ah (hb.trans (hB3.trans (hbq.mono hB3.size) |>.mono hb.size))
   clear hb hbq hB3 c1 c2
   go_wp2
   go_ret
   exact ⟨bE HR.out.symm,HB.out⟩
  have hn2:aQ l[k].name = false:=by simpa using hn
  have he:dV l[k] = false:=by unfold dV;rw [hn2];rfl
  have HR:=ah (HBAD.out (HE.out he))
  rw [hn2] at HN
  clear hn hn2 he HBAD HE HNX HFI HPV HPN hz1' hz2' hz3' hok
  generalize l[k].name = x at c1 HN
  generalize l[k].kind = y at c2
  go_wp2_with (first | (refine wpList_load_mid rfl 217 _ rfl b (off + k * 34) rfl us _ F1.out underlying217 rfl h34 ?_) | (refine aj rfl 217 _ _ rfl wo.heap.size 0 us rfl rfl 34 HCL.out HTH.out hi34 HON.out ?_))
  simp only [Act.put]
  rw [HW.out]
  refine wbq ?_
  have LQ0:=blq c1
  have LQ1:=blq c2
  repeat (go_big_quiet_step ((go_at_call 298;with_reducible exact ay (HN.out _))))
  refine wpQuiet_nil ?_
  intro wq hbq
  clear LQ0 LQ1
  have HB:=ah (hb.trans (hB3.trans (hbq.mono hB3.size) |>.mono hb.size))
  clear hb hbq hB3 c1 c2
  go_wp2
  go_ret
  exact ⟨bE HR.out.symm,HB.out⟩
 obtain rfl:k = l.length:=by omega
 have HOK:=ah hok
 clear hok
 by_cases h32:l.length ≤ 32
 ·have HR:Hid (gW l = true):=by
   unfold Hid
   rw [ku,decide_eq_true h32,Bool.and_true,List.all_eq_true]
   exact fun j hj => HOK.out j (List.mem_range.1 hj)
  have d1:decide ((l.length:Int) ≤ 32) = true:=decide_eq_true (by omega)
  clear h32
  go_wp2
  go_ret
  exact ⟨bE HR.out.symm,hb⟩
 have HR:Hid (gW l = false):=by unfold Hid;rw [ku,decide_eq_false h32,Bool.and_false]
 have d1:decide ((l.length:Int) ≤ 32) = false:=decide_eq_false (by omega)
 clear h32
 go_wp2
 go_ret
 exact ⟨bE HR.out.symm,hb⟩
end
section
open Go.RowKit Go.Shelf Go.Lib
abbrev Id32:={x:List UInt8 // x.length = 32}
instance:Inhabited Id32:=⟨⟨List.replicate 32 0,by simp⟩⟩
theorem Lh:EqlAt prog 42 (fun x:Id32 => .agg (idC x.1).toArray) (fun x y => x.1 == y.1):=by
 refine ⟨fun x y w => ?_,GuardAt.agg _ (by kernel_rfl)⟩
 rw [run_eql_struct,lI x.1 y.1 x.2 y.2 w]
 rfl
theorem z8 (b off n c:Nat) (l:List (List UInt8)) (x:List UInt8) (w:World) (hn:n ≤ l.length) (hb:n ≤ 1000000) (hl:∀ y ∈ l,y.length = 32) (hx:x.length = 32) (hc:∀ k (hk:k < l.length),w.rangeAt b (off + k * 32) (idC l[k])) :
  Calls prog 221 #[.slice (some ⟨b,off,none⟩) n c,.agg (idC x).toArray] w fun e w' => e = .returned (.bool (decide (x ∈ l.take n))) ∧ Below w.heap.size w w':=by
 have hz:(l.pmap (fun y h => (⟨y,h⟩:Id32)) hl).length = l.length:=List.length_pmap
 have H:=AnyQ.slices_Contains (α:=Id32) Tryz.containsQ 32 Tryz.isAgg42 Tryz.sizeOf42 (fun y => idC y.1) (fun y => by rw [au,y.2]) (fun x y => x.1 == y.1) Lh b off n c (l.pmap (fun y h => (⟨y,h⟩:Id32)) hl) ⟨x,hx⟩ w (by rw [hz];exact hn) (by omega) (fun j hj i v hi => by
  rw [hz] at hj
  have hj':j < (l.pmap (fun y h => (⟨y,h⟩:Id32)) hl).length:=by rw [hz];exact hj
  rw [getElem!_pos (l.pmap (fun y h => (⟨y,h⟩:Id32)) hl) j hj',List.getElem_pmap] at hi
  exact hc j hj i v hi)
 refine H.mono ?_
 rintro e w' ⟨rfl,hb'⟩
 refine ⟨?_,hb'⟩
 congr 2
 rw [Bool.eq_iff_iff]
 simp only [List.any_eq_true,decide_eq_true_eq,beq_iff_eq]
 constructor
 ·rintro ⟨y,hy,rfl⟩
  have:=List.mem_map_of_mem (f:=Subtype.val) hy
  rw [List.map_take,List.map_pmap] at this
  simpa using this
 intro h
 have hxl:x ∈ l:=List.mem_of_mem_take h
 refine ⟨⟨x,hx⟩,?_,rfl⟩
 obtain ⟨i,hi,e⟩:=List.getElem_of_mem h
 rw [List.getElem_take] at e
 have hi':i < n ∧ i < l.length:=by rw [List.length_take] at hi;omega
 rw [List.mem_iff_getElem]
 refine ⟨i,by rw [List.length_take,hz];omega,?_⟩
 rw [List.getElem_take,List.getElem_pmap]
 exact Subtype.ext e
def CapI (v:Value):Prop:=∀ ao n c,v = .slice ao n c → n ≤ c
theorem zm (t:List UInt8) (v:Value) (l:List (List UInt8)) (x:ByteArray) (w:World) (hv:bB w v l) (ht:t.length = 32) (hl:∀ y ∈ l,y.length = 32) (hn:l.length ≤ 1000) (hcap:CapI v) :
  Calls prog 277 #[.agg (cmC t v x).toArray] w fun e w' => e = .returned (.bool (dw (t,l,x))) ∧ Below w.heap.size w w':=by
 obtain ⟨ao,cap,rfl,hmax,hv⟩:=hv.open
 unfold maxLen at hmax
 have hcp:=hcap _ _ _ rfl
 clear hcap
 have HV:=ah hv
 have HL:=ah hl
 have hA:=J2 w ht (.slice ao l.length cap) x 141
 have hb0:Below w.heap.size w (w.alloc (.cells (cmC t (.slice ao l.length cap) x).toArray 141)):=bal
 have HB0:=ah hb0
 have hp:Hid ((w.alloc (.cells (cmC t (.slice ao l.length cap) x).toArray 141)).cell? ⟨w.heap.size,32,none⟩ = some (.slice ao l.length cap)):=by
  unfold Hid;rw [hA.cell 32 (by omega),mO ht]
 have hx:Hid ((w.alloc (.cells (cmC t (.slice ao l.length cap) x).toArray 141)).cell? ⟨w.heap.size,33,none⟩ = some (.string x)):=by
  unfold Hid;rw [hA.cell 33 (by omega),pz ht]
 have hszW:w.heap.size < (w.alloc (.cells (cmC t (.slice ao l.length cap) x).toArray 141)).heap.size:=by simp
 have e32:(cmC t (.slice ao l.length cap) x)[32]? = some (.slice ao l.length cap):=by
  have:=hp.out;rw [World.cell?_alloc_new] at this;simpa using this
 have e33:(cmC t (.slice ao l.length cap) x)[33]? = some (.string x):=by
  have:=hx.out;rw [World.cell?_alloc_new] at this;simpa using this
 obtain ⟨zi,i0,hi,hz0,hz1,hz2,hziv,hzil⟩:=dH
 have HZI:=ah hzil
 have HC:Hid (dw (t,l,x) = (decide l.Nodup && decide (l.length ≤ 4 ∧ x.size ≤ 64))):=ah rfl
 obtain ⟨cs,hcs⟩:∃ cs,cs = cmC t (.slice ao l.length cap) x:=⟨_,rfl⟩
 rw [← hcs] at hp hx HB0 hszW e32 e33 ⊢
 clear hcs hv hl hA hb0 hzil hz0 hz2
 go_enter func277,ntmps277
 go_wp2_with fail
 obtain ⟨W,hW⟩:∃ W,W = w.alloc (.cells cs.toArray 141):=⟨_,rfl⟩
 rw [← hW] at hp hx HB0 hszW ⊢
 clear hW e32 e33
 go_loopw [8] (fun i wr => ∃ k:Nat,k ≤ l.length ∧ i = .int .i64 k ∧ Hid ((l.take k).Nodup) ∧ Below W.heap.size W wr) (fun i _ => (l.length - intOf i).toNat)
 case atStart => exact ⟨0,by omega,rfl,ah (show (List.take 0 l).Nodup by simp),Below.refl _ _⟩
 obtain ⟨wo,rfl⟩:∃ wo:World,wo = wr:=⟨_,rfl⟩
 obtain ⟨k,hk,rfl,hnd,hb⟩:=hrel
 have p1:=aA hp.out hb hszW
 have x1:=aA hx.out hb hszW
 have hwo:w.heap.size < wo.heap.size:=by have:=hb.size;omega
 by_cases hlt:k < l.length
 ·obtain ⟨b,off,rfl,hbl,hcell⟩:=HV.out (by intro e;rw [e] at hlt;simp at hlt)
  have HBW:=bth HB0 hb
  have hbo:b < wo.heap.size:=by omega
  have f1:=aF (hcell k hlt) HBW.out hbl
  have hkl:l[k].length = 32:=HL.out _ (List.getElem_mem hlt)
  have hcl:(idC l[k]).length = 32:=by rw [au,hkl]
  have h32:(prog.info? 42).map (·.size) = some (idC l[k]).length:=by rw [hcl];kernel_rfl
  have h32':(prog.info? 42).map (·.size) = some 32:=by kernel_rfl
  have hth:(wo.alloc (.cells zi 42)).there wo.heap.size 0 32:=by
   have:=(Arr.ofList wo zi.toList 42).there
   rw [Array.length_toList,HZI.out] at this
   exact this
  have hr3:=World.rangeAt_setCells_same (wo.alloc (.cells zi 42)) wo.heap.size 0 (idC l[k]) (by rw [hcl];exact hth)
  have hB3:=below_setCells (B:=wo.heap.size) (a:=wo) wo.heap.size (Nat.le_refl _) (idC l[k]) 0 _ ((Below.refl _ _).alloc (Nat.le_refl _) (.cells zi 42))
  have HCT:=ah (fun V (hbV:Below w.heap.size w V) => z8 b off k cap l l[k] V (by omega) (by omega) HL.out hkl (fun j hj => aF (hcell j hj) hbV hbl))
  have hone:=aM l[k]
  have HND:Hid (l[k] ∉ l.take k → (l.take (k + 1)).Nodup):=ah (fun hni => Aw hlt hnd.out (fun j hj e => hni (by rw [← e];exact List.mem_take_iff_getElem.2 ⟨j,by omega,rfl⟩)))
  have HNN:Hid (l[k] ∈ l.take k → ¬ l.Nodup):=ah (fun hi => by
   obtain ⟨j,hj,e⟩:=List.mem_take_iff_getElem.1 hi
   exact Ei (by omega) hlt e)
  generalize l[k] = z at f1 hkl hcl h32 hr3 hB3 HCT hone HND HNN
  have k0:(0:Int) ≤ k:=by omega
  have k1:(k:Int) < l.length:=by omega
  have k2:(k:Int) ≤ cap:=by omega
  have k3:k ≤ cap:=by omega
  have HTH:=ah hth
  have HCL:=ah hcl
  have HON:=ah hone
  have F1:=ah f1
  have HR3:=ah hr3
  have HB3:=ah hB3
  clear hth hcl hone f1 hr3 hB3 hcell hkl
  obtain ⟨W3,hW3⟩:∃ W3,(wo.alloc (.cells zi 42)).setCells wo.heap.size 0 (idC z) = W3:=⟨_,rfl⟩
  rw [hW3] at HR3 HB3
  have hsz3:=HB3.out.size
  have hsz4:wo.heap.size < W3.heap.size:=World.block_lt_of_cell? W3 ⟨wo.heap.size,0,none⟩ (HR3.out 0 ((idC z)[0]'(by rw [HCL.out];omega)) (by simp))
  have p3:=aA p1 HB3.out hwo
  have HBW3:=ah (HBW.out.trans (HB3.out.mono HBW.out.size))
  have HQ:=ah (fun y:BW W3.heap.size W3 => HCT.out y.out (HBW3.out.trans (y.hb.mono HBW3.out.size)))
  have HW3:=ah hW3
  have hr3:=HR3.out
  clear hW3 HCT p1
  by_cases hin:z ∈ l.take k
  ·have HR:Hid (dw (t,l,x) = false):=by unfold Hid;rw [HC.out,decide_eq_false (HNN.out hin)];rfl
   rw [decide_eq_true hin] at HQ
   clear hin HND HNN
   generalize hus:idC z = us at h32 HTH HCL HON F1 HW3 HQ hr3
   clear hus HR3
   go_wp2_with (first | (refine wpList_load_mid rfl 42 _ rfl b (off + k * 32) rfl us _ F1.out underlying42 rfl h32 ?_) | (refine aj rfl 42 _ _ rfl wo.heap.size 0 us rfl rfl 32 HCL.out HTH.out h32' HON.out ?_))
   simp only [Act.put]
   rw [HW3.out]
   refine wbq ?_
   have LQ0:=blq p3
   repeat (go_big_quiet_step ((go_at_call 221;with_reducible exact ay (HQ.out _))))
   refine dZ 42 _ _ rfl rfl rfl hr3 (by omega) underlying42 rfl h32 ?_
   simp only [Act.put,nz]
   repeat (go_big_quiet_step ((go_at_call 221;with_reducible exact ay (HQ.out _))))
   refine wpQuiet_nil ?_
   intro wq hbq
   clear LQ0
   have HBF:=bth HBW3 hbq
   clear hbq p3 hr3
   go_wp2
   go_ret
   exact ⟨bE HR.out.symm,HBF.out⟩
  have HN2:=ah (HND.out hin)
  rw [decide_eq_false hin] at HQ
  clear hin HND HNN
  generalize hus:idC z = us at h32 HTH HCL HON F1 HW3 HQ hr3
  clear hus HR3
  go_wp2_with (first | (refine wpList_load_mid rfl 42 _ rfl b (off + k * 32) rfl us _ F1.out underlying42 rfl h32 ?_) | (refine aj rfl 42 _ _ rfl wo.heap.size 0 us rfl rfl 32 HCL.out HTH.out h32' HON.out ?_))
  simp only [Act.put]
  rw [HW3.out]
  refine wbq ?_
  have LQ0:=blq p3
  repeat (go_big_quiet_step ((go_at_call 221;with_reducible exact ay (HQ.out _))))
  refine dZ 42 _ _ rfl rfl rfl hr3 (by omega) underlying42 rfl h32 ?_
  simp only [Act.put,nz]
  repeat (go_big_quiet_step ((go_at_call 221;with_reducible exact ay (HQ.out _))))
  refine wpQuiet_nil ?_
  intro wq hbq
  clear LQ0
  have HBF:=ah (hb.trans ((HB3.out.trans (hbq.mono HB3.out.size)).mono hb.size))
  clear hbq p3 hr3
  go_wp2
  go_roundw
  case rel => exact ⟨k + 1,by omega,by go_num,HN2,HBF.out⟩
  case measure => simp [intOf];omega
 obtain rfl:k = l.length:=by omega
 rw [List.take_length] at hnd
 have HBF:=bth HB0 hb
 have HC2:Hid (dw (t,l,x) = decide (l.length ≤ 4 ∧ x.size ≤ 64)):=by unfold Hid;rw [HC.out,decide_eq_true hnd.out,Bool.true_and]
 clear hb HB0 hnd
 by_cases h4:l.length ≤ 4
 ·have d4:decide ((l.length:Int) ≤ 4) = true:=decide_eq_true (by omega)
  by_cases h64:x.size ≤ 64
  ·have d5:decide ((x.size:Int) ≤ 64) = true:=decide_eq_true (by omega)
   have HR:Hid (dw (t,l,x) = true):=by unfold Hid;rw [HC2.out];exact decide_eq_true ⟨h4,h64⟩
   clear h4 h64
   go_wp2
   go_ret
   exact ⟨bE HR.out.symm,HBF.out⟩
  have d5:decide ((x.size:Int) ≤ 64) = false:=decide_eq_false (by omega)
  have HR:Hid (dw (t,l,x) = false):=by unfold Hid;rw [HC2.out];exact decide_eq_false (fun h => h64 h.2)
  clear h4 h64
  go_wp2
  go_ret
  exact ⟨bE HR.out.symm,HBF.out⟩
 have d4:decide ((l.length:Int) ≤ 4) = false:=decide_eq_false (by omega)
 have HR:Hid (dw (t,l,x) = false):=by unfold Hid;rw [HC2.out];exact decide_eq_false (fun h => h4 h.1)
 clear h4
 go_wp2
 go_ret
 exact ⟨bE HR.out.symm,HBF.out⟩
theorem FM (w:World):PredAt prog 232 #[] encR badR w:=fun W r _ => by
 unfold FnGives
 by_cases h1:r < 33 <;> by_cases h2:126 < r <;> by_cases h3:r = 47
 all_goals
  have d1:decide ((r:Int) < 33) = decide (r < 33):=by rw [decide_eq_decide];omega
  have d2:decide ((126:Int) < r) = decide (126 < r):=by rw [decide_eq_decide];omega
  have d3:((r:Int) == 47) = decide (r = 47):=by by_cases h:r = 47 <;> simp [h] <;> omega
  go_enter func232,ntmps232
  go_wp2
  all_goals first | (exfalso;omega) | (go_ret;exact ⟨by simp [badR,h1,h2,h3],0,rfl⟩)
theorem Ip:nU = lW:=by
 funext b
 unfold nU lW
 first
  | rfl
  | (rw [Bool.eq_iff_iff];simp only [Bool.and_eq_true,decide_eq_true_iff,bne_iff_ne,ne_eq];omega)
theorem Fh (s:ByteArray) (w:World) (hs:s.size ≤ 1000000000) :
  Calls prog 187 #[.string s] w fun e w' => e = .returned (.bool (aN s)) ∧ Below w.heap.size w w':=by
 have HC:=ah (fun W => Any.strings_ContainsFunc Tryz.laysGw17 232 #[] (enters_of func232 (by kernel_rfl) rfl) badR s W (FM W))
 have hcb:=jN s
 by_cases h0:s.size = 0
 ·obtain rfl:s = ⟨#[]⟩:=by
   cases s with
   | mk d => have:d = #[]:=Array.size_eq_zero_iff.1 h0;rw [this]
  clear HC hcb
  have HR:Hid (aN ⟨#[]⟩ = false):=ah (by decide)
  go_enter func187,ntmps187
  go_wp2
  go_ret
  exact ⟨bE HR.out.symm,Below.refl _ _⟩
 have e1:s.toList ≠ []:=fun h => h0 (by have:=congrArg List.length h;rw [Lib.toList_data] at this;simpa using this)
 have e2:(!s.toList.isEmpty) = true:=by simpa using e1
 have e3:s.toList.isEmpty = false:=by simpa using e1
 by_cases h2:s.size ≤ 80
 ·have d2:decide ((s.size:Int) ≤ 80) = true:=decide_eq_true (by omega)
  have HR:Hid (aN s = !decide (0 ≤ Lib.idxFunc badR true s)):=by
   unfold Hid aN;rw [hcb,Ip,decide_eq_true (show 1 ≤ s.size by omega),decide_eq_true h2];simp
  generalize decide (0 ≤ Lib.idxFunc badR true s) = b at HC HR
  clear hcb
  go_enter func187,ntmps187
  go_wp2_with fail
  refine (HC.out w).mono ?_
  rintro e w1 ⟨rfl,hb1⟩
  go_wp2
  go_ret
  exact ⟨bE HR.out.symm,hb1⟩
 have d2:decide ((s.size:Int) ≤ 80) = false:=decide_eq_false (by omega)
 have HR:Hid (aN s = false):=by unfold Hid aN;rw [decide_eq_false h2];simp
 clear HC hcb
 go_enter func187,ntmps187
 go_wp2
 go_ret
 exact ⟨bE HR.out.symm,Below.refl _ _⟩
end
end Go.Proofs.YtlhcoanbhnphgaaGreatDoor

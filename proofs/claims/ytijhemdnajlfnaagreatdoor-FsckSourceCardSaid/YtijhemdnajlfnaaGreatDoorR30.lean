/- A part of this claim. -/
import Derived.Test.YtijhemdnajlfnaaGreatDoorR23
import Derived.Test.YtijhemdnajlfnaaGreatDoorR25
namespace Go.Proofs.YtijhemdnajlfnaaGreatDoor
open Tryz
set_option maxHeartbeats 64000000
set_option maxRecDepth 100000
section
open Go.RowKit
def Hl (W0:World) (x:Nm) (l:List Nm) (k:Nat) (d:Bool) (v:Value) (wr:World):Prop:=∃ o,wr.ownsRow W0.heap.size 94 2 v o.length (nmsF o) ∧ o ++ putG x d (l.drop k) = putG x false l ∧ o.length ≤ k + d.toNat ∧ Below W0.heap.size W0 wr
theorem Hl.own {W0:World} {x:Nm} {l:List Nm} {k:Nat} {d:Bool} {v:Value} {wr:World} (h:Hl W0 x l k d v wr):∃ o,wr.ownsRow W0.heap.size 94 2 v o.length (nmsF o) ∧ o ++ putG x d (l.drop k) = putG x false l ∧ o.length ≤ k + d.toNat ∧ Below W0.heap.size W0 wr:=h
theorem uU {x:Nm} {l:List Nm} {k:Nat} {d:Bool} (hk:k < l.length) (h:l[k].s = x.s):putG x d (l.drop k) = putG x d (l.drop (k + 1)):=by
 rw [List.drop_eq_getElem_cons hk]
 conv => lhs;unfold putG
 rw [if_pos h]
theorem xQ {x:Nm} {l:List Nm} {k:Nat} (hk:k < l.length) (h:l[k].s ≠ x.s) (hlt:ltB x.s.data.toList l[k].s.data.toList = true):putG x false (l.drop k) = x :: l[k] :: putG x true (l.drop (k + 1)):=by
 rw [List.drop_eq_getElem_cons hk]
 conv => lhs;unfold putG
 rw [if_neg h,if_pos ⟨rfl,hlt⟩]
theorem Ar {x:Nm} {l:List Nm} {k:Nat} {d:Bool} (hk:k < l.length) (h:l[k].s ≠ x.s) (hlt:¬ (d = false ∧ ltB x.s.data.toList l[k].s.data.toList = true)):putG x d (l.drop k) = l[k] :: putG x d (l.drop (k + 1)):=by
 rw [List.drop_eq_getElem_cons hk]
 conv => lhs;unfold putG
 rw [if_neg h,if_neg hlt]
theorem NK {x y:ByteArray} (h:y ≠ x):ltB y.data.toList x.data.toList = !ltB x.data.toList y.data.toList:=by
 cases e:ltB x.data.toList y.data.toList with
 | true => exact y8 e
 | false =>
  cases e2:ltB y.data.toList x.data.toList with
  | true => rfl
  | false => exact absurd (fC (kP e2 e)) h
theorem KT (v:Value) (l:List Nm) (x:Nm) (w:World) (hv:gq w v l) (hl:l.length ≤ 1000000):Calls prog 25 #[v,.agg (nmC x).toArray] w fun e w' => ∃ v',e = .returned v' ∧ gq w' v' (putG x false l) ∧ bB w v' ∧ Below w.heap.size w w':=by
 obtain ⟨ao,cap,rfl,hmax,hv⟩:=hv.open
 obtain ⟨W0,hW0⟩:∃ W,w.alloc (.cells (nmC x).toArray 94) = W:=⟨_,rfl⟩
 have HB0:Hid (Below w.heap.size w W0):=ah (by rw [← hW0];exact bal)
 have HX0:Hid (BoxL W0 w.heap.size 94 (nmC x)):=ah (by rw [← hW0];exact BoxL.new w 94 (nmC x))
 have HS0:Hid (Hl W0 x l 0 false (.slice none 0 0) W0):=ah ⟨[],World.ownsRow_nil _ _ _ _,rfl,by simp,Below.refl _ _⟩
 have HV:=ah hv
 have HLN:=ah hl
 have HW0:=ah hW0
 clear hv hW0
 go_enter func25,ntmps25
 go_upto_region 4 with fail
 rw [HW0.out]
 go_loopw [5,6,7] (fun ov dv i wr => ∃ (k:Nat) (d:Bool),k ≤ l.length ∧ i = .int .i64 (k:Int) ∧ dv = .bool d ∧ Hid (Hl W0 x l k d ov wr)) (fun _ _ i _ => (l.length - intOf i).toNat)
 case atStart => exact ⟨0,false,by omega,rfl,rfl,HS0⟩
 obtain ⟨wo,rfl⟩:∃ wo:World,wo = wr:=⟨_,rfl⟩
 obtain ⟨k,d,hk,rfl,rfl,HS⟩:=hrel
 obtain ⟨o,ho,heo,hol,hbo⟩:=HS.out
 obtain ⟨ob,oc,rfl⟩:=ay ho
 have HO:=ah ho
 have HEO:=ah heo
 have HBO:=ah hbo
 have HBW:Hid (Below w.heap.size w wo):=bth HB0 hbo
 have hox:=HX0.out.below hbo
 have x0:wo.cell? ⟨w.heap.size,0,none⟩ = some (.string x.s):=hox.range 0 _ rfl
 have x1:wo.cell? ⟨w.heap.size,1,none⟩ = some (.int .i64 (x.n:Int)):=hox.range 1 _ rfl
 have hxl:=hox.lt
 have HX:=ah hox
 clear ho heo hbo hox
 by_cases hlt:k < l.length
 ·obtain ⟨b,off,rfl,hbl,hcell⟩:=HV.out (by intro e;rw [e] at hlt;simp at hlt)
  have r0:=au (hcell k hlt) HBW.out hbl
  have k0:(0:Int) ≤ k:=by omega
  have k1:(k:Int) < l.length:=by omega
  have wk:IntKind.i64.wrap ((k:Int) + 1) = (k:Int) + 1:=IntWalk.i64_in _ (by unfold maxLen at hmax;omega)
  have HY:=ah (rfl:l[k] = l[k])
  have c0:wo.cell? ⟨b,off + k * 2,none⟩ = some (.string l[k].s):=r0 0 _ rfl
  have c1:wo.cell? ⟨b,off + k * 2 + 1,none⟩ = some (.int .i64 (l[k].n:Int)):=r0 1 _ rfl
  have heq:=rD l[k].s x.s
  have hblo:b < wo.heap.size:=Nat.lt_of_lt_of_le hbl HBW.out.size
  have HRW:=ah (hcell k hlt)
  have HR0:=ah r0
  clear hcell r0
  by_cases he:l[k].s = x.s
  ·have HEND:Hid (o ++ putG x d (l.drop (k + 1)) = putG x false l):=ah (by rw [← uU hlt he];exact HEO.out)
   rw [decide_eq_true he] at heq
   clear he
   generalize l[k].s = sk at c0 heq
   go_wp2_with fail
   refine wbq ?_
   have LQ0:=blq c0
   have LQ1:=blq x0
   repeat (go_big_quiet_step (fail))
   refine wpQuiet_nil ?_
   intro wq hbq
   clear LQ0 LQ1
   have HO2:=ah (own_below HO.out hbq)
   have HB2:=bth HBO hbq
   clear hbq
   go_wp2_with fail
   go_roundw
   case rel => exact ⟨k + 1,d,by omega,by go_num,rfl,⟨o,HO2.out,HEND.out,by omega,HB2.out⟩⟩
   case measure => simp [intOf];omega
  have hbl8:=Bd l[k].s x.s
  rw [decide_eq_false he] at heq
  have HTOT:Hid (ltB l[k].s.data.toList x.s.data.toList = !ltB x.s.data.toList l[k].s.data.toList):=ah (NK he)
  rw [HTOT.out] at hbl8
  have HPUT:=ah (fun (hd:d = false) h => xQ (x:=x) hlt he h)
  have HGO:=ah (fun h => Ar (x:=x) (d:=d) hlt he h)
  clear he HTOT
  have HR1:Hid (w.rangeAt b (off + k * 2) (nmC l[k])):=ah HRW.out
  clear HRW HR0
  generalize l[k] = y at c0 c1 heq hbl8 HPUT HGO HR1
  generalize hlt2:ltB x.s.data.toList y.s.data.toList = lt at hbl8 HPUT HGO
  cases d with
  | true =>
   have hol2:o.length ≤ k + 1:=hol
   clear hbl8 hol
   have HEND:Hid ((o ++ [y]) ++ putG x true (l.drop (k + 1)) = putG x false l):=ah (by rw [← HEO.out,HGO.out (fun h => by cases h.1),List.append_assoc];rfl)
   clear HPUT HGO hlt2
   go_wp2_with fail
   refine wbq ?_
   have LQ0:=blq c0
   have LQ1:=blq x0
   repeat (go_big_quiet_step (fail))
   refine wpQuiet_nil ?_
   intro wq hbq
   clear LQ0 LQ1
   have HO2:=ah (own_below HO.out hbq)
   have HB2:=bth HBO hbq
   have d0:=ak c0 hbq hblo
   have d1:=ak c1 hbq hblo
   have e0:=ak x0 hbq hxl
   have e1:=ak x1 hbq hxl
   have hxq:=Nat.lt_of_lt_of_le hxl hbq.size
   have hbq9:=Nat.lt_of_lt_of_le hblo hbq.size
   clear c0 c1 x0 x1 hbq hblo hxl
   obtain ⟨wp,hwp⟩:∃ wp,wq = wp:=⟨_,rfl⟩
   subst hwp
   go_upto_region 7 with fail
   obtain ⟨wa,rfl⟩:∃ wa:World,wa = wq:=⟨_,rfl⟩
   refine wbq ?_
   repeat (go_big_quiet_step (fail))
   refine wpQuiet_nil ?_
   intro wq hbq
   have HO3:=ah (own_below HO2.out hbq)
   have HB3:=bth HB2 hbq
   have f0:=ak d0 hbq hbq9
   have f1:=ak d1 hbq hbq9
   have g0:=ak e0 hbq hxq
   have g1:=ak e1 hbq hxq
   obtain ⟨w3,rfl⟩:∃ w3:World,w3 = wq:=⟨_,rfl⟩
   clear d0 d1 e0 e1 hbq hxq hbq9
   obtain ⟨W5,hW5⟩:∃ W,w3.alloc (.cells (nmC y).toArray 94) = W:=⟨_,rfl⟩
   have hbW5:Below w3.heap.size w3 W5:=by rw [← hW5];exact bal
   have HRN5:Hid (W5.rangeAt w3.heap.size 0 (nmC y)):=ah (by rw [← hW5];exact (BoxL.new w3 94 (nmC y)).range)
   have HOW5:=ah (own_below HO3.out hbW5)
   have HBW5:=bth HB3 hbW5
   have HSZ5:Hid (W0.heap.size ≤ W5.heap.size):=ah HBW5.out.size
   have HW5:=ah hW5
   clear hW5 hbW5
   go_wp2_with (first
    | (rw [HW5.out];refine dS _ rfl _ _ rfl W0.heap.size _ _ (nmsF (o)) rfl HOW5.out w3.heap.size y rfl HRN5.out (by (try simp only [List.length_append,List.length_cons,List.length_nil]);omega) HSZ5.out ?_)
    | (refine av rfl _ _ 94 rfl (nmC y) #[.string ⟨#[]⟩,.int .i64 0] rfl underlying83 (fun w => by kernel_rfl) (fun w => by kernel_rfl) (by simp [nmC]) (by simp [nmC]) ?_))
   intro v5 x5 hown5 hg5 _
   have HO5:Hid (x5.ownsRow W0.heap.size 94 2 v5 (o ++ [y]).length (nmsF (o ++ [y]))):=ah (by rw [kM];simpa only [List.length_append,List.length_cons,List.length_nil] using hown5)
   have HB5:Hid (Below W0.heap.size W0 x5):=ah (HBW5.out.grown hg5 HBW5.out.size (fun j hj => (HOW5.out.lt j hj).1))
   obtain ⟨vo5,vc5,rfl⟩:=ay hown5
   clear hown5 hg5
   go_wp2_with fail
   go_roundw
   case rel => exact ⟨k + 1,true,by omega,by go_num,rfl,⟨_,HO5.out,HEND.out,by simp only [List.length_append,List.length_cons,List.length_nil,Bool.toNat_true];omega,HB5.out⟩⟩
   case measure => simp [intOf];omega
  | false =>
   cases lt with
   | true =>
    have hbl9:Op.bytesLess y.s.toList x.s.toList = false:=by rw [hbl8];rfl
    have hol2:o.length ≤ k + 0:=hol
    clear hbl8 hol
    have HEND:Hid ((o ++ [x] ++ [y]) ++ putG x true (l.drop (k + 1)) = putG x false l):=ah (by rw [← HEO.out,HPUT.out rfl rfl,List.append_assoc,List.append_assoc];rfl)
    clear HPUT HGO hlt2
    go_wp2_with fail
    refine wbq ?_
    have LQ0:=blq c0
    have LQ1:=blq x0
    repeat (go_big_quiet_step (fail))
    refine wpQuiet_nil ?_
    intro wq hbq
    clear LQ0 LQ1
    have HO2:=ah (own_below HO.out hbq)
    have HB2:=bth HBO hbq
    have d0:=ak c0 hbq hblo
    have d1:=ak c1 hbq hblo
    have e0:=ak x0 hbq hxl
    have e1:=ak x1 hbq hxl
    have hxq:=Nat.lt_of_lt_of_le hxl hbq.size
    have hbq9:=Nat.lt_of_lt_of_le hblo hbq.size
    clear c0 c1 x0 x1 hbq hblo hxl
    obtain ⟨wp,hwp⟩:∃ wp,wq = wp:=⟨_,rfl⟩
    subst hwp
    go_upto_region 7 with fail
    obtain ⟨wa,rfl⟩:∃ wa:World,wa = wq:=⟨_,rfl⟩
    refine wbq ?_
    have LQ0:=blq d0
    have LQ1:=blq e0
    repeat (go_big_quiet_step (fail))
    refine wpQuiet_nil ?_
    intro wq hbq
    clear LQ0 LQ1
    have HO3:=ah (own_below HO2.out hbq)
    have HB3:=bth HB2 hbq
    have f0:=ak d0 hbq hbq9
    have f1:=ak d1 hbq hbq9
    have g0:=ak e0 hbq hxq
    have g1:=ak e1 hbq hxq
    obtain ⟨w3,rfl⟩:∃ w3:World,w3 = wq:=⟨_,rfl⟩
    clear d0 d1 e0 e1 hbq hxq hbq9
    obtain ⟨W4,hW4⟩:∃ W,w3.alloc (.cells (nmC x).toArray 94) = W:=⟨_,rfl⟩
    have hbW4:Below w3.heap.size w3 W4:=by rw [← hW4];exact bal
    have HRN4:Hid (W4.rangeAt w3.heap.size 0 (nmC x)):=ah (by rw [← hW4];exact (BoxL.new w3 94 (nmC x)).range)
    have HOW4:=ah (own_below HO3.out hbW4)
    have HBW4:=bth HB3 hbW4
    have HSZ4:Hid (W0.heap.size ≤ W4.heap.size):=ah HBW4.out.size
    have HW4:=ah hW4
    clear hW4 hbW4
    go_wp2_with (first
     | (rw [HW4.out];refine dS _ rfl _ _ rfl W0.heap.size _ _ (nmsF (o)) rfl HOW4.out w3.heap.size x rfl HRN4.out (by (try simp only [List.length_append,List.length_cons,List.length_nil]);omega) HSZ4.out ?_)
     | (refine av rfl _ _ 94 rfl (nmC x) #[.string ⟨#[]⟩,.int .i64 0] rfl underlying83 (fun w => by kernel_rfl) (fun w => by kernel_rfl) (by simp [nmC]) (by simp [nmC]) ?_))
    intro v4 x4 hown4 hg4 _
    have HO4:Hid (x4.ownsRow W0.heap.size 94 2 v4 (o ++ [x]).length (nmsF (o ++ [x]))):=ah (by rw [kM];simpa only [List.length_append,List.length_cons,List.length_nil] using hown4)
    have HB4:Hid (Below W0.heap.size W0 x4):=ah (HBW4.out.grown hg4 HBW4.out.size (fun j hj => (HOW4.out.lt j hj).1))
    obtain ⟨vo4,vc4,rfl⟩:=ay hown4
    clear hown4 hg4
    have hb4:Below w.heap.size w x4:=HB0.out.trans (HB4.out.mono HB0.out.size)
    have r4:=au HR1.out hb4 hbl
    have h40:x4.cell? ⟨b,off + k * 2,none⟩ = some (.string y.s):=r4 0 _ rfl
    have h41:x4.cell? ⟨b,off + k * 2 + 1,none⟩ = some (.int .i64 (y.n:Int)):=r4 1 _ rfl
    clear r4 hb4 f0 f1 g0 g1
    obtain ⟨W5,hW5⟩:∃ W,x4.alloc (.cells (nmC y).toArray 94) = W:=⟨_,rfl⟩
    have hbW5:Below x4.heap.size x4 W5:=by rw [← hW5];exact bal
    have HRN5:Hid (W5.rangeAt x4.heap.size 0 (nmC y)):=ah (by rw [← hW5];exact (BoxL.new x4 94 (nmC y)).range)
    have HOW5:=ah (own_below HO4.out hbW5)
    have HBW5:=bth HB4 hbW5
    have HSZ5:Hid (W0.heap.size ≤ W5.heap.size):=ah HBW5.out.size
    have HW5:=ah hW5
    clear hW5 hbW5
    go_wp2_with (first
     | (rw [HW5.out];refine dS _ rfl _ _ rfl W0.heap.size _ _ (nmsF (o ++ [x])) rfl HOW5.out x4.heap.size y rfl HRN5.out (by (try simp only [List.length_append,List.length_cons,List.length_nil]);omega) HSZ5.out ?_)
     | (refine av rfl _ _ 94 rfl (nmC y) #[.string ⟨#[]⟩,.int .i64 0] rfl underlying83 (fun w => by kernel_rfl) (fun w => by kernel_rfl) (by simp [nmC]) (by simp [nmC]) ?_))
    intro v5 x5 hown5 hg5 _
    have HO5:Hid (x5.ownsRow W0.heap.size 94 2 v5 (o ++ [x] ++ [y]).length (nmsF (o ++ [x] ++ [y]))):=ah (by rw [kM];simpa only [List.length_append,List.length_cons,List.length_nil] using hown5)
    have HB5:Hid (Below W0.heap.size W0 x5):=ah (HBW5.out.grown hg5 HBW5.out.size (fun j hj => (HOW5.out.lt j hj).1))
    obtain ⟨vo5,vc5,rfl⟩:=ay hown5
    clear hown5 hg5
    go_wp2_with fail
    go_roundw
    case rel => exact ⟨k + 1,true,by omega,by go_num,rfl,⟨_,HO5.out,HEND.out,by simp only [List.length_append,List.length_cons,List.length_nil,Bool.toNat_true];omega,HB5.out⟩⟩
    case measure => simp [intOf];omega
   | false =>
    have hbl9:Op.bytesLess y.s.toList x.s.toList = true:=by rw [hbl8];rfl
    have hol2:o.length ≤ k + 0:=hol
    clear hbl8 hol
    have HEND:Hid ((o ++ [y]) ++ putG x false (l.drop (k + 1)) = putG x false l):=ah (by rw [← HEO.out,HGO.out (fun h => by cases h.2),List.append_assoc];rfl)
    clear HPUT HGO hlt2
    go_wp2_with fail
    refine wbq ?_
    have LQ0:=blq c0
    have LQ1:=blq x0
    repeat (go_big_quiet_step (fail))
    refine wpQuiet_nil ?_
    intro wq hbq
    clear LQ0 LQ1
    have HO2:=ah (own_below HO.out hbq)
    have HB2:=bth HBO hbq
    have d0:=ak c0 hbq hblo
    have d1:=ak c1 hbq hblo
    have e0:=ak x0 hbq hxl
    have e1:=ak x1 hbq hxl
    have hxq:=Nat.lt_of_lt_of_le hxl hbq.size
    have hbq9:=Nat.lt_of_lt_of_le hblo hbq.size
    clear c0 c1 x0 x1 hbq hblo hxl
    obtain ⟨wp,hwp⟩:∃ wp,wq = wp:=⟨_,rfl⟩
    subst hwp
    go_upto_region 7 with fail
    obtain ⟨wa,rfl⟩:∃ wa:World,wa = wq:=⟨_,rfl⟩
    refine wbq ?_
    have LQ0:=blq d0
    have LQ1:=blq e0
    repeat (go_big_quiet_step (fail))
    refine wpQuiet_nil ?_
    intro wq hbq
    clear LQ0 LQ1
    have HO3:=ah (own_below HO2.out hbq)
    have HB3:=bth HB2 hbq
    have f0:=ak d0 hbq hbq9
    have f1:=ak d1 hbq hbq9
    have g0:=ak e0 hbq hxq
    have g1:=ak e1 hbq hxq
    obtain ⟨w3,rfl⟩:∃ w3:World,w3 = wq:=⟨_,rfl⟩
    clear d0 d1 e0 e1 hbq hxq hbq9
    obtain ⟨W5,hW5⟩:∃ W,w3.alloc (.cells (nmC y).toArray 94) = W:=⟨_,rfl⟩
    have hbW5:Below w3.heap.size w3 W5:=by rw [← hW5];exact bal
    have HRN5:Hid (W5.rangeAt w3.heap.size 0 (nmC y)):=ah (by rw [← hW5];exact (BoxL.new w3 94 (nmC y)).range)
    have HOW5:=ah (own_below HO3.out hbW5)
    have HBW5:=bth HB3 hbW5
    have HSZ5:Hid (W0.heap.size ≤ W5.heap.size):=ah HBW5.out.size
    have HW5:=ah hW5
    clear hW5 hbW5
    go_wp2_with (first
     | (rw [HW5.out];refine dS _ rfl _ _ rfl W0.heap.size _ _ (nmsF (o)) rfl HOW5.out w3.heap.size y rfl HRN5.out (by (try simp only [List.length_append,List.length_cons,List.length_nil]);omega) HSZ5.out ?_)
     | (refine av rfl _ _ 94 rfl (nmC y) #[.string ⟨#[]⟩,.int .i64 0] rfl underlying83 (fun w => by kernel_rfl) (fun w => by kernel_rfl) (by simp [nmC]) (by simp [nmC]) ?_))
    intro v5 x5 hown5 hg5 _
    have HO5:Hid (x5.ownsRow W0.heap.size 94 2 v5 (o ++ [y]).length (nmsF (o ++ [y]))):=ah (by rw [kM];simpa only [List.length_append,List.length_cons,List.length_nil] using hown5)
    have HB5:Hid (Below W0.heap.size W0 x5):=ah (HBW5.out.grown hg5 HBW5.out.size (fun j hj => (HOW5.out.lt j hj).1))
    obtain ⟨vo5,vc5,rfl⟩:=ay hown5
    clear hown5 hg5
    go_wp2_with fail
    go_roundw
    case rel => exact ⟨k + 1,false,by omega,by go_num,rfl,⟨_,HO5.out,HEND.out,by simp only [List.length_append,List.length_cons,List.length_nil,Bool.toNat_false];omega,HB5.out⟩⟩
    case measure => simp [intOf];omega
 obtain rfl:k = l.length:=by omega
 have hE:o ++ putG x d [] = putG x false l:=by rw [← HEO.out,List.drop_length]
 have hol9:o.length ≤ l.length + 1:=by cases d <;> exact Nat.le_trans hol (by simp)
 cases d with
 | true =>
  have HEQ:Hid (o = putG x false l):=ah (by rw [← hE];simp [putG])
  clear hE
  go_wp2_with fail
  go_ret
  exact ⟨_,rfl,by rw [← HEQ.out];exact gq.aS HO.out,fun g hg => by have:=(HO.out.lt g hg).1;have:=HB0.out.size;omega,HBW.out⟩
 | false =>
  have HEQ:Hid (o ++ [x] = putG x false l):=ah (by rw [← hE];simp [putG])
  clear hE
  obtain ⟨W4,hW4⟩:∃ W,wo.alloc (.cells (nmC x).toArray 94) = W:=⟨_,rfl⟩
  have hbW4:Below wo.heap.size wo W4:=by rw [← hW4];exact bal
  have HRN4:Hid (W4.rangeAt wo.heap.size 0 (nmC x)):=ah (by rw [← hW4];exact (BoxL.new wo 94 (nmC x)).range)
  have HOW4:=ah (own_below HO.out hbW4)
  have HBW4:=bth HBO hbW4
  have HSZ4:Hid (W0.heap.size ≤ W4.heap.size):=ah HBW4.out.size
  have HW4:=ah hW4
  clear hW4 hbW4
  go_wp2_with (first
   | (rw [HW4.out];refine dS _ rfl _ _ rfl W0.heap.size _ _ (nmsF (o)) rfl HOW4.out wo.heap.size x rfl HRN4.out (by (try simp only [List.length_append,List.length_cons,List.length_nil]);omega) HSZ4.out ?_)
   | (refine av rfl _ _ 94 rfl (nmC x) #[.string ⟨#[]⟩,.int .i64 0] rfl underlying83 (fun w => by kernel_rfl) (fun w => by kernel_rfl) (by simp [nmC]) (by simp [nmC]) ?_))
  intro v4 x4 hown4 hg4 _
  have HO4:Hid (x4.ownsRow W0.heap.size 94 2 v4 (o ++ [x]).length (nmsF (o ++ [x]))):=ah (by rw [kM];simpa only [List.length_append,List.length_cons,List.length_nil] using hown4)
  have HB4:Hid (Below W0.heap.size W0 x4):=ah (HBW4.out.grown hg4 HBW4.out.size (fun j hj => (HOW4.out.lt j hj).1))
  obtain ⟨vo4,vc4,rfl⟩:=ay hown4
  clear hown4 hg4
  go_wp2_with fail
  go_ret
  exact ⟨_,rfl,by rw [← HEQ.out];exact gq.aS HO4.out,fun g hg => by have:=(HO4.out.lt g hg).1;have:=HB0.out.size;omega,HB0.out.trans (HB4.out.mono HB0.out.size)⟩
end
end Go.Proofs.YtijhemdnajlfnaaGreatDoor

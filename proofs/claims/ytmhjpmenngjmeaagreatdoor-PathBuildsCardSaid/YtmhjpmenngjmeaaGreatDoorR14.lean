/- YtmhjpmenngjmeaaGreatDoorR14: texts JH, V6, V7, JI, X1, H0, CW26 of this claim, in one. -/
import Derived.Stop.BytesEq
import Derived.Test.YtmhjpmenngjmeaaGreatDoorR1
import Derived.Test.YtmhjpmenngjmeaaGreatDoorR11
import Derived.Test.YtmhjpmenngjmeaaGreatDoorR13
import Derived.Test.YtmhjpmenngjmeaaGreatDoorR6
import Derived.Test.YtmhjpmenngjmeaaGreatDoorR7
namespace Go.Proofs.YtmhjpmenngjmeaaGreatDoor
open Go.RowKit
theorem numB_le6 {n:Nat} (h:n ≤ 1099511627775):(numB n).length ≤ 6:=numB_len 5 n (by omega)
theorem idC_len (x:List UInt8):(idC x).length = x.length:=by simp [idC]
theorem idC_one (x:List UInt8):∀ v ∈ idC x,v.oneCell' = true:=idV_one x
set_option maxHeartbeats 1000000 in
theorem rtextw_any (s:ByteArray) (w:World) (hs:s.size ≤ 1000000000) :
  Calls Tryz.prog 75 #[.string s] w fun e w' => e = .returned (.string (ofB (numB s.size ++ s.data.toList))) ∧ Below w.heap.size w w':=by
 have HN:=Lib.hid (rnumber_any s.size s.size w (Nat.le_refl _) (by omega))
 have hq:(ofB (numB s.size)).size ≤ 6:=by rw [ofB_size];exact numB_le6 (by omega)
 have HF:Hid (ofB (numB s.size ++ s.data.toList) = ofB (numB s.size) ++ s):=by unfold Hid;rw [ofB_append,ofB_of]
 generalize ofB (numB s.size) = q at HN hq HF
 go_enter Tryz.func75,Tryz.ntmps75
 go_wp2_with fail
 refine HN.out.mono ?_
 rintro e w1 ⟨rfl,hb⟩
 go_wp2
 go_ret
 exact ⟨ret_str HF.out.symm,hb⟩
theorem conv_arr (w w2:World) (x:List UInt8) (t:TypeId) (hb:Below (w.heap.size + 1) (w.alloc (.cells (idC x).toArray t)) w2) (c:Nat) :
  (convert 56 9 (.slice (some ⟨w.heap.size,0,none⟩) x.length c)).run Tryz.prog w2 = .ok (.string (ofB x)) w2 :=
 run_convert_bytes_back (P:=Tryz.prog) w2 56 9 5 ⟨w.heap.size,0,none⟩ c x Tryz.underlying56 Tryz.underlying5 Tryz.underlying9 fun j hj => by
  rw [Addr.add_mid,Nat.zero_add,hb.cell (p:=⟨w.heap.size,j,none⟩) (Nat.lt_succ_self _),World.cell?_alloc_new]
  simp [idC,hj]
set_option maxHeartbeats 1000000 in
theorem ridw_any (x:List UInt8) (w:World) (hx:x.length = 32) :
  Calls Tryz.prog 76 #[.agg (idC x).toArray] w fun e w' => e = .returned (.string (ofB x)) ∧ Below w.heap.size w w':=by
 have hcv:=conv_arr w (w.alloc (.cells (idC x).toArray 27)) x 27 (Below.refl _ _) 32
 rw [hx] at hcv
 have HX:=Lib.hid hx
 clear hx
 generalize idC x = us at hcv
 go_enter Tryz.func76,Tryz.ntmps76
 go_wp2
 go_ret
 exact ⟨rfl,(Below.refl _ _).alloc (Nat.le_refl _) _⟩
def obC (o:Ob):List Value:=[.int .i64 o.kind,.string o.body]
set_option maxHeartbeats 1000000 in
theorem rframe_any (k:Int) (s:ByteArray) (w:World) (hs:s.size ≤ 1000000) :
  Calls Tryz.prog 46 #[.agg #[.int .i64 k,.string s]] w fun e w' => e = .returned (.string (ofB (frameL ⟨k,s⟩))) ∧ Below w.heap.size w w':=by
 have HT:=Lib.hid (fun w => rtextw_any s w (by omega))
 have hq:(ofB (numB s.size ++ s.data.toList)).size ≤ 1000006:=by
  rw [ofB_size,List.length_append]
  have h1:=numB_le6 (n:=s.size) (by omega)
  have h2:s.data.toList.length = s.size:=by simp
  omega
 have HF:Hid (ofB (frameL ⟨k,s⟩) = ofB [letterOf k] ++ ofB (numB s.size ++ s.data.toList)):=by unfold Hid frameL;rw [ofB_cons]
 generalize ofB (numB s.size ++ s.data.toList) = q at HT hq HF
 by_cases h2:k = 2
 ·have d2:(k == 2) = true:=by rw [beq_iff_eq];exact h2
  have d3:(k == 3) = false:=by rw [beq_eq_false_iff_ne];omega
  have HL:Hid (ofB [letterOf k] = ⟨#[116]⟩):=by unfold Hid letterOf;rw [if_pos h2];rfl
  clear h2
  go_enter Tryz.func46,Tryz.ntmps46
  go_wp2_with fail
  refine (HT.out _).mono ?_
  rintro e w1 ⟨rfl,hb⟩
  go_wp2
  go_ret
  exact ⟨ret_str (by rw [HF.out,HL.out]),((Below.refl _ _).alloc (Nat.le_refl _) _).trans (hb.mono (by simp))⟩
 ·have d2:(k == 2) = false:=by rw [beq_eq_false_iff_ne];exact h2
  by_cases h3:k = 3
  ·have d3:(k == 3) = true:=by rw [beq_iff_eq];exact h3
   have HL:Hid (ofB [letterOf k] = ⟨#[99]⟩):=by unfold Hid letterOf;rw [if_neg h2,if_pos h3];rfl
   clear h2 h3
   go_enter Tryz.func46,Tryz.ntmps46
   go_wp2_with fail
   refine (HT.out _).mono ?_
   rintro e w1 ⟨rfl,hb⟩
   go_wp2
   go_ret
   exact ⟨ret_str (by rw [HF.out,HL.out]),((Below.refl _ _).alloc (Nat.le_refl _) _).trans (hb.mono (by simp))⟩
  ·have d3:(k == 3) = false:=by rw [beq_eq_false_iff_ne];exact h3
   have HL:Hid (ofB [letterOf k] = ⟨#[98]⟩):=by unfold Hid letterOf;rw [if_neg h2,if_neg h3];rfl
   clear h2 h3
   go_enter Tryz.func46,Tryz.ntmps46
   go_wp2_with fail
   refine (HT.out _).mono ?_
   rintro e w1 ⟨rfl,hb⟩
   go_wp2
   go_ret
   exact ⟨ret_str (by rw [HF.out,HL.out]),((Below.refl _ _).alloc (Nat.le_refl _) _).trans (hb.mono (by simp))⟩
theorem idO_len (o:Ob):(idO o).length = 32:=by simp [idO,shaR]
set_option maxHeartbeats 1000000 in
theorem rido_any (k:Int) (s:ByteArray) (w:World) (hs:s.size ≤ 100000) :
  Calls Tryz.prog 21 #[.agg #[.int .i64 k,.string s]] w fun e w' => e = .returned (.agg (idC (idO ⟨k,s⟩)).toArray) ∧ Below w.heap.size w w':=by
 have HT:=Lib.hid (fun w => rframe_any k s w (by omega))
 have hq:(ofB (frameL ⟨k,s⟩)).size ≤ 1000000:=by
  rw [ofB_size];unfold frameL
  have h1:=numB_le6 (n:=s.size) (by omega)
  have h2:s.data.toList.length = s.size:=by simp
  simp;omega
 have HS:=Lib.hid (fun w => rsum_any (ofB (frameL ⟨k,s⟩)) w hq)
 have HI:Hid (idV (shaR (ofB (frameL ⟨k,s⟩))) = .agg (idC (idO ⟨k,s⟩)).toArray):=Lib.hid rfl
 have hlen:(idC (idO ⟨k,s⟩)).length = 32:=by rw [idC_len,idO_len]
 have hone:=idC_one (idO ⟨k,s⟩)
 have hO:=(Arr.new (w.alloc (.cells #[.int .i64 k,.string s] 59)) 32 (.int .u8 0) 27)
 generalize idC (idO ⟨k,s⟩) = us at HI hlen hone
 generalize idV (shaR (ofB (frameL ⟨k,s⟩))) = r at HS HI
 generalize ofB (frameL ⟨k,s⟩) = f at HT hq HS
 obtain rfl:r = .agg us.toArray:=HI.out
 rw [World.size_alloc] at hO
 have HO:=Lib.hid hO
 have HLN:=Lib.hid hlen
 have HON:=Lib.hid hone
 have h32:(Tryz.prog.info? 27).map (·.size) = some 32:=by kernel_rfl
 have h32u:(Tryz.prog.info? 27).map (·.size) = some us.length:=by rw [hlen];exact h32
 clear hO hlen hone HI
 go_enter Tryz.func21,Tryz.ntmps21
 go_wp2_with fail
 refine (HT.out _).mono ?_
 rintro e w1 ⟨rfl,hb1⟩
 go_wp2_with fail
 refine (HS.out _).mono ?_
 rintro e w2 ⟨rfl,hb2⟩
 have hb12:Below ((w.alloc (.cells #[.int .i64 k,.string s] 59)).alloc (.cells (Array.replicate 32 (.int .u8 0)) 27)).heap.size ((w.alloc (.cells #[.int .i64 k,.string s] 59)).alloc (.cells (Array.replicate 32 (.int .u8 0)) 27)) w2:=hb1.trans (hb2.mono hb1.size)
 have hO2:=HO.out.below hb12 (by simp)
 have HTH:=Lib.hid hO2.there
 have HFR:=Lib.hid (World.rangeAt_setCells_same w2 (w.heap.size + 1) 0 us (by rw [HLN.out];exact hO2.there))
 have HBF:=Lib.hid (below_setCells (B:=w.heap.size) (a:=w) (w.heap.size + 1) (by omega) us 0 w2 ((((Below.refl _ _).alloc (Nat.le_refl _) _).alloc (by simp) _).trans (hb12.mono (by simp;omega))))
 clear hb1 hb2 hb12 hO2
 go_wp2_with (refine wpList_store_list rfl 27 _ _ rfl (w.heap.size + 1) 0 us ?y1 ?y2 32 HLN.out ?y4 h32 HON.out ?_)
 try case y1 => rfl
 try case y2 => rfl
 case y4 => exact HTH.out
 simp only [Act.put]
 refine ret_cell rfl (w.heap.size + 1) 0 (by simp) us _ HFR.out Tryz.underlying27 rfl h32u rfl ⟨rfl,HBF.out⟩
end Go.Proofs.YtmhjpmenngjmeaaGreatDoor

namespace Go.Proofs.YtmhjpmenngjmeaaGreatDoor
open Go.RowKit
theorem bq_row {P:Program} {ops:Array Oper} {Q:Act → Prop} {rest:List Oper} {a:Act} {o:Oper} {w:World} {b off:Nat} {cs:List Value} (ty:TypeId) (d:TypeDesc) (x:Operand) (ho:o.op = .load ty x)
  (hw:Region.wanted o (yielded ops a.tmps) = true) (hx:a.eval x = .pointer (some ⟨b,off,none⟩)) (hr:w.rangeAt b off cs) (hb:b < w.heap.size) (hu:P.underlying ty = some d) (hd:d.isRow = true)
  (hi:(P.info? ty).map (·.size) = some cs.length) (hk:wpQuiet P ops (fun w' => ∃ x:BW w.heap.size w,w' = x.out) Q rest (a.put o.dst (.agg cs.toArray))):wpQuiet P ops (fun w' => ∃ x:BW w.heap.size w,w' = x.out) Q (o :: rest) a:=by
 unfold wpQuiet
 rw [if_pos hw]
 refine ⟨_,fun w' hw' => ?_,hk⟩
 obtain ⟨y,rfl⟩:=hw'
 unfold Oper.quietAt
 rw [exec_load_row ty d hr hb hu hd hi y.hb x ho hx]
 exact ⟨rfl,rfl⟩
def IdRow (w:World) (v:Value) (l:List (List UInt8)):Prop:=RowOf w v 32 (l.map idC)
theorem IdRow.below {w w':World} {v:Value} {l:List (List UInt8)} (h:IdRow w v l) (hb:Below w.heap.size w w'):IdRow w' v l:=RowOf.below h hb
theorem IdRow.open {w:World} {v:Value} {l:List (List UInt8)} (h:IdRow w v l):∃ ao cap,v = .slice ao l.length cap ∧ l.length ≤ maxLen ∧ (l ≠ [] → ∃ b off,ao = some ⟨b,off,none⟩ ∧ b < w.heap.size ∧ ∀ k (hk:k < l.length),w.rangeAt b (off + k * 32) (idC l[k])):=by
 obtain ⟨ao,cap,rfl,hm,h⟩:=h
 rw [List.length_map] at hm ⊢
 refine ⟨ao,cap,rfl,hm,fun hne => ?_⟩
 obtain ⟨b,off,e,hl,hc⟩:=h (by simpa using hne)
 refine ⟨b,off,e,hl,fun k hk => ?_⟩
 have:=hc k (by simpa using hk)
 rw [List.getElem_map] at this
 exact this
theorem h32_of {us:List Value} (h:us.length = 32):(Tryz.prog.info? 27).map (·.size) = some us.length:=by rw [h];kernel_rfl
theorem treeB_snoc (l:List Ent) (k:Nat) (h:k < l.length):treeB (l.take (k + 1)) = treeB (l.take k) ++ l[k].bytes:=by
 unfold treeB;rw [List.take_succ_eq_append_getElem h,List.map_append,List.flatten_append];simp [-List.map_take]
theorem ofB_ent (o:ByteArray) (L:List UInt8) (h:o = ofB L) (e:Ent):o ++ ofB (numB e.kind) ++ ofB (numB e.name.size ++ e.name.data.toList) ++ ofB e.id = ofB (L ++ e.bytes):=by
 subst h
 rw [← ofB_append,← ofB_append,← ofB_append]
 unfold Ent.bytes;simp only [List.append_assoc]
set_option maxRecDepth 100000 in
set_option maxHeartbeats 1000000 in
theorem rtreebody_any (v:Value) (l:List Ent) (w:World) (hv:EntRow w v l) (hz:∀ e ∈ l,e.name.size ≤ 1000 ∧ e.kind ≤ 2 ∧ e.id.length = 32) (hn:l.length ≤ 1000) :
  Calls Tryz.prog 42 #[v] w fun e w' => e = .returned (.string (ofB (treeB l))) ∧ Below w.heap.size w w':=by
 obtain ⟨ao,cap,rfl,hmax,hv⟩:=hv.open
 have HZ:=Lib.hid hz
 have HV:=Lib.hid hv
 clear hv hz
 go_enter Tryz.func42,Tryz.ntmps42
 go_wp2
 go_loopw [3,4] (fun s i wr => ∃ (k:Nat) (o:ByteArray),k ≤ l.length ∧ i = .int .i64 k ∧ s = .string o ∧ o.size ≤ k * 1100 ∧ Hid (o = ofB (treeB (l.take k))) ∧ Below w.heap.size w wr) (fun _ i _ => (l.length - intOf i).toNat)
 case atStart => exact ⟨0,_,by omega,rfl,rfl,by simp;rfl,rfl,Below.refl _ _⟩
 case round =>
  obtain ⟨wo,rfl⟩:∃ wo:World,wo = wr:=⟨_,rfl⟩
  obtain ⟨k,o,hk,rfl,rfl,hos,hoe,hb⟩:=hrel
  by_cases hlt:k < l.length
  ·obtain ⟨b,off,rfl,hbl,hcell⟩:=HV.out (by intro e;rw [e] at hlt;simp at hlt)
   have c1:=below_load (hcell k hlt).1 hb hbl
   have c2:=below_load (hcell k hlt).2.1 hb hbl
   have c3:=rangeAt_below (hcell k hlt).2.2 hb hbl
   have hbo:b < wo.heap.size:=by have:=hb.size;omega
   obtain ⟨hz1,hz2,hz3⟩:=HZ.out l[k] (List.getElem_mem hlt)
   have HN:=Lib.hid (fun w => rnumber_any l[k].kind l[k].kind w (Nat.le_refl _) (by omega))
   have HT:=Lib.hid (fun w => rtextw_any l[k].name w (by omega))
   have HI:=Lib.hid (fun w => ridw_any l[k].id w hz3)
   have hq1:(ofB (numB l[k].kind)).size ≤ 6:=by rw [ofB_size];exact numB_le6 (by omega)
   have hq2:(ofB (numB l[k].name.size ++ l[k].name.data.toList)).size ≤ 1006:=by
    rw [ofB_size,List.length_append]
    have h1:=numB_le6 (n:=l[k].name.size) (by omega)
    have h2:l[k].name.data.toList.length = l[k].name.size:=by simp
    omega
   have hq3:(ofB l[k].id).size ≤ 32:=by rw [ofB_size];omega
   have HF:=Lib.hid (ofB_ent o _ hoe.out l[k])
   have HTS:=Lib.hid (treeB_snoc l k hlt)
   have hlen:(idC l[k].id).length = 32:=by rw [idC_len,hz3]
   have h32:=h32_of hlen
   clear hcell hoe hlen hz1 hz2 hz3
   generalize idC l[k].id = us at c3 HI h32
   generalize ofB (numB l[k].name.size ++ l[k].name.data.toList) = q2 at HT hq2 HF
   generalize ofB (numB l[k].kind) = q1 at HN hq1 HF
   generalize ofB l[k].id = q3 at HI hq3 HF
   generalize l[k].name = x at c1 HT
   generalize l[k].kind = y at c2 HN
   have k0:(0:Int) ≤ k:=by omega
   have k1:(k:Int) < l.length:=by omega
   go_wp2
   refine wp_region_bq (by kernel_rfl) (by kernel_rfl) ?_
   have LQ0:=fun x:BW (World.heap wo).size wo => below_load c1 x.hb (by omega)
   have LQ1:=fun x:BW (World.heap wo).size wo => below_load c2 x.hb (by omega)
   repeat (go_big_quiet_step ((first | (go_at_call 74;with_reducible exact calls_bw (HN.out _)) | (go_at_call 75;with_reducible exact calls_bw (HT.out _)) | (go_at_call 76;with_reducible exact calls_bw (HI.out _)))))
   refine bq_row 27 _ _ rfl rfl rfl c3 (by omega) Tryz.underlying27 rfl h32 ?_
   simp only [Act.put,List.setIfInBounds_toArray,List.set_cons_zero,List.set_cons_succ]
   repeat (go_big_quiet_step ((first | (go_at_call 74;with_reducible exact calls_bw (HN.out _)) | (go_at_call 75;with_reducible exact calls_bw (HT.out _)) | (go_at_call 76;with_reducible exact calls_bw (HI.out _)))))
   refine wpQuiet_nil ?_
   intro wq hbq
   clear LQ0 LQ1
   have HB:=Lib.hid (hb.trans (hbq.mono hb.size))
   clear hb hbq c1 c2 c3
   go_wp2
   go_roundw
   case rel => exact ⟨k + 1,_,by omega,by go_num,rfl,by simp only [ByteArray.size_append];omega,by unfold Hid;rw [HTS.out,← HF.out],HB.out⟩
   case measure => simp [intOf];omega
  ·obtain rfl:k = l.length:=by omega
   have HE:=Lib.hid hoe.out
   rw [List.take_length] at HE
   clear hoe
   go_wp2
   go_ret
   exact ⟨ret_str HE.out,hb⟩
def cmC (t:List UInt8) (v:Value) (x:ByteArray):List Value:=idC t ++ [v,.string x]
theorem cmC_len (t:List UInt8) (v:Value) (x:ByteArray) (h:t.length = 32):(cmC t v x).length = 34:=by simp [cmC,idC_len,h]
theorem cm_cells (w:World) (t:List UInt8) (v:Value) (x:ByteArray) (ty:TypeId) (h:t.length = 32) :
  (w.alloc (.cells (cmC t v x).toArray ty)).rangeAt w.heap.size 0 (idC t) ∧ (w.alloc (.cells (cmC t v x).toArray ty)).cell? ⟨w.heap.size,32,none⟩ = some v ∧ (w.alloc (.cells (cmC t v x).toArray ty)).cell? ⟨w.heap.size,33,none⟩ = some (.string x):=by
 have hl:(idC t).length = 32:=by rw [idC_len,h]
 refine ⟨fun j u hu => ?_,?_,?_⟩
 ·rw [World.cell?_alloc_new,Nat.zero_add]
  have hj:=(List.getElem?_eq_some_iff.1 hu).1
  simp only [cmC,List.getElem?_toArray]
  rw [List.getElem?_append_left hj];exact hu
 ·rw [World.cell?_alloc_new]
  simp only [cmC,List.getElem?_toArray]
  rw [List.getElem?_append_right (by omega),hl];rfl
 ·rw [World.cell?_alloc_new]
  simp only [cmC,List.getElem?_toArray]
  rw [List.getElem?_append_right (by omega),hl];rfl
theorem flat_snoc (l:List (List UInt8)) (k:Nat) (h:k < l.length):(l.take (k + 1)).flatten = (l.take k).flatten ++ l[k]:=by
 rw [List.take_succ_eq_append_getElem h,List.flatten_append];simp
set_option maxRecDepth 100000 in
set_option maxHeartbeats 1000000 in
theorem rcommitbody_any (t:List UInt8) (v:Value) (l:List (List UInt8)) (x:ByteArray) (w:World) (hv:IdRow w v l) (ht:t.length = 32) (hl:∀ y ∈ l,y.length = 32) (hn:l.length ≤ 1000) (hx:x.size ≤ 1000) :
  Calls Tryz.prog 82 #[.agg (cmC t v x).toArray] w fun e w' => e = .returned (.string (ofB (commitB (t,l,x)))) ∧ Below w.heap.size w w':=by
 obtain ⟨ao,cap,rfl,hmax,hv⟩:=hv.open
 obtain ⟨c0,c1,c2⟩:=cm_cells w t (.slice ao l.length cap) x 103 ht
 have hb0:Below w.heap.size w (w.alloc (.cells (cmC t (.slice ao l.length cap) x).toArray 103)):=(Below.refl _ _).alloc (Nat.le_refl _) _
 have HB0:=Lib.hid hb0
 have hlt0:w.heap.size < (w.alloc (.cells (cmC t (.slice ao l.length cap) x).toArray 103)).heap.size:=by simp
 have HZ:=Lib.hid hl
 have HV:=Lib.hid hv
 have hlen:(idC t).length = 32:=by rw [idC_len,ht]
 have h32:=h32_of hlen
 have HI:=Lib.hid (fun w => ridw_any t w ht)
 have HN:=Lib.hid (fun w => rnumber_any l.length l.length w (Nat.le_refl _) (by omega))
 have HT:=Lib.hid (fun w => rtextw_any x w (by omega))
 have hq1:(ofB t).size ≤ 32:=by rw [ofB_size];omega
 have hq2:(ofB (numB l.length)).size ≤ 6:=by rw [ofB_size];exact numB_le6 (by omega)
 have hq3:(ofB (numB x.size ++ x.data.toList)).size ≤ 1006:=by
  rw [ofB_size,List.length_append]
  have h1:=numB_le6 (n:=x.size) (by omega)
  have h2:x.data.toList.length = x.size:=by simp
  omega
 have HF:Hid (∀ o:ByteArray,o = ofB (t ++ (numB l.length ++ l.flatten)) → o ++ ofB (numB x.size ++ x.data.toList) = ofB (commitB (t,l,x))):=Lib.hid (fun o h => by
  subst h;rw [← ofB_append];unfold commitB;simp only [List.append_assoc])
 have HF0:Hid (ofB t ++ ofB (numB l.length) = ofB (t ++ (numB l.length ++ (l.take 0).flatten))):=Lib.hid (by rw [← ofB_append];simp)
 clear hv hl ht hlen hb0
 generalize ofB (numB x.size ++ x.data.toList) = q3 at HT hq3 HF
 generalize hus:idC t = us at c0 HI h32
 have HUS:=Lib.hid hus
 clear hus
 generalize cmC t (.slice ao l.length cap) x = cs at c0 c1 c2 HB0 hlt0
 go_enter Tryz.func82,Tryz.ntmps82
 go_wp2
 obtain ⟨W,hW⟩:∃ W,W = w.alloc (.cells cs.toArray 103):=⟨_,rfl⟩
 rw [← hW] at c0 c1 c2 HB0 hlt0 ⊢
 clear hW
 generalize ofB (numB l.length) = q2 at HN hq2 HF0
 generalize ofB t = q1 at HI hq1 HF0
 refine wp_region_bq (by kernel_rfl) (by kernel_rfl) ?_
 have LQ0:=fun x:BW (World.heap W).size W => below_load c1 x.hb (by omega)
 repeat (go_big_quiet_step ((first | (go_at_call 76;with_reducible exact calls_bw (HI.out _)) | (go_at_call 74;with_reducible exact calls_bw (HN.out _)))))
 refine bq_row 27 _ _ rfl rfl rfl c0 (by omega) Tryz.underlying27 rfl h32 ?_
 simp only [Act.put,List.setIfInBounds_toArray,List.set_cons_zero,List.set_cons_succ]
 repeat (go_big_quiet_step ((first | (go_at_call 76;with_reducible exact calls_bw (HI.out _)) | (go_at_call 74;with_reducible exact calls_bw (HN.out _)))))
 refine wpQuiet_nil ?_
 intro wq hbq
 clear LQ0
 have HB:=Lib.hid (HB0.out.trans (hbq.mono HB0.out.size))
 have d1:=below_load c1 hbq hlt0
 have d2:=below_load c2 hbq hlt0
 have hltq:w.heap.size < wq.heap.size:=by have:=hbq.size;omega
 clear c0 c1 c2 hbq HB0 hlt0
 go_wp2
 go_loopw [3,4] (fun s i wr => ∃ (k:Nat) (o:ByteArray),k ≤ l.length ∧ i = .int .i64 k ∧ s = .string o ∧ o.size ≤ 40 + k * 32 ∧ Hid (o = ofB (t ++ (numB l.length ++ (l.take k).flatten))) ∧ Below wq.heap.size wq wr) (fun _ i _ => (l.length - intOf i).toNat)
 case atStart => exact ⟨0,_,by omega,rfl,rfl,by simp only [ByteArray.size_append];omega,HF0.out,Below.refl _ _⟩
 case round =>
  obtain ⟨wo,rfl⟩:∃ wo:World,wo = wr:=⟨_,rfl⟩
  obtain ⟨k,o,hk,rfl,rfl,hos,hoe,hb⟩:=hrel
  have e1:=below_load d1 hb hltq
  have e2:=below_load d2 hb hltq
  by_cases hlt:k < l.length
  ·obtain ⟨b,off,rfl,hbl,hcell⟩:=HV.out (by intro e;rw [e] at hlt;simp at hlt)
   have c3:=rangeAt_below (hcell k hlt) (HB.out.trans (hb.mono HB.out.size)) hbl
   have hz:=HZ.out l[k] (List.getElem_mem hlt)
   have hlen:(idC l[k]).length = 32:=by rw [idC_len,hz]
   have h32k:=h32_of hlen
   have HIK:=Lib.hid (fun w => ridw_any l[k] w hz)
   have hq:(ofB l[k]).size ≤ 32:=by rw [ofB_size];omega
   have HS:Hid (o ++ ofB l[k] = ofB (t ++ (numB l.length ++ (l.take (k + 1)).flatten))):=Lib.hid (by
    rw [flat_snoc l k hlt,hoe.out,← ofB_append];simp only [List.append_assoc])
   clear hcell hoe hlen hz
   generalize idC l[k] = uk at c3 HIK h32k
   generalize ofB l[k] = q at HIK hq HS
   have k0:(0:Int) ≤ k:=by omega
   have k1:(k:Int) < l.length:=by omega
   go_wp2_with (refine wpList_load_mid rfl 27 _ rfl b (off + k * 32) rfl uk _ c3 Tryz.underlying27 rfl h32k ?_)
   refine (HIK.out _).mono ?_
   rintro e w1 ⟨rfl,hb1⟩
   have HB1:=Lib.hid (hb.trans (hb1.mono hb.size))
   clear hb hb1 e1 e2 d1 d2 c3
   go_wp2
   go_roundw
   case rel => exact ⟨k + 1,_,by omega,by go_num,rfl,by simp only [ByteArray.size_append];omega,HS.out,HB1.out⟩
   case measure => simp [intOf];omega
  ·obtain rfl:k = l.length:=by omega
   have HE:=Lib.hid hoe.out
   rw [List.take_length] at HE
   clear hoe
   go_wp2_with fail
   refine (HT.out _).mono ?_
   rintro e w1 ⟨rfl,hb1⟩
   go_wp2
   go_ret
   have hb2:=hb.trans (hb1.mono hb.size)
   exact ⟨ret_str (HF.out _ HE.out),HB.out.trans (hb2.mono HB.out.size)⟩
end Go.Proofs.YtmhjpmenngjmeaaGreatDoor

namespace Go.Proofs.YtmhjpmenngjmeaaGreatDoor
open Go.RowKit
theorem sizeB (w:World):(sizeOf 5).run Tryz.prog w = .ok 1 w:=by kernel_rfl
theorem id_eqIn (x y:List UInt8) (hx:x.length = 32) (hy:y.length = 32) (w:World):(Op.equalIn 10000 27 (.agg (idC x).toArray) (.agg (idC y).toArray)).run Tryz.prog w = .ok (x == y) w :=
 run_equalIn_bytes w 9998 27 5 32 Tryz.underlying27 Tryz.underlying5 sizeB x y hx hy
theorem id_eqIn_yes {x y:List UInt8} (hx:x.length = 32) (h:x = y) (w:World):(Op.equalIn 10000 27 (.agg (idC x).toArray) (.agg (idC y).toArray)).run Tryz.prog w = .ok true w:=by
 subst h;rw [id_eqIn x x hx hx w,beq_self_eq_true]
theorem id_eqIn_no {x y:List UInt8} (hx:x.length = 32) (hy:y.length = 32) (h:x ≠ y) (w:World):(Op.equalIn 10000 27 (.agg (idC x).toArray) (.agg (idC y).toArray)).run Tryz.prog w = .ok false w:=by
 rw [id_eqIn x y hx hy w,beq_eq_false_iff_ne.2 h]
theorem take_nodup {α:Type} {l:List α} {k:Nat} (hk:k < l.length) (h:(l.take k).Nodup) (hn:∀ j (hj:j < k),l[j] ≠ l[k]):(l.take (k + 1)).Nodup:=by
 rw [List.take_succ_eq_append_getElem hk,List.nodup_append]
 refine ⟨h,by simp,fun a ha b hb e => ?_⟩
 obtain ⟨j,hj,ej⟩:=List.getElem_of_mem ha
 have hjk:j < k:=by simp at hj;omega
 rw [List.getElem_take] at ej
 rw [List.mem_singleton.1 hb] at e
 exact hn j hjk (ej.trans e)
theorem not_nodup {α:Type} {l:List α} {j k:Nat} (hj:j < k) (hk:k < l.length) (h:l[j] = l[k]):¬ l.Nodup:=fun hn => by
 have:=(List.getElem_inj hn).1 h
 omega
set_option maxRecDepth 100000 in
set_option maxHeartbeats 2000000 in
theorem rcommitright_any (t:List UInt8) (v:Value) (l:List (List UInt8)) (x:ByteArray) (w:World) (hv:IdRow w v l) (ht:t.length = 32) (hl:∀ y ∈ l,y.length = 32) (hn:l.length ≤ 1000) :
  Calls Tryz.prog 81 #[.agg (cmC t v x).toArray] w fun e w' => e = .returned (.bool (commitOk (t,l,x))) ∧ Below w.heap.size w w':=by
 obtain ⟨ao,cap,rfl,hmax,hv⟩:=hv.open
 obtain ⟨_,c1,c2⟩:=cm_cells w t (.slice ao l.length cap) x 103 ht
 have hb0:Below w.heap.size w (w.alloc (.cells (cmC t (.slice ao l.length cap) x).toArray 103)):=(Below.refl _ _).alloc (Nat.le_refl _) _
 have HB0:=Lib.hid hb0
 have hlt0:w.heap.size < (w.alloc (.cells (cmC t (.slice ao l.length cap) x).toArray 103)).heap.size:=by simp
 have HZ:=Lib.hid hl
 have HV:=Lib.hid hv
 have HC:Hid (commitOk (t,l,x) = (decide l.Nodup && decide (l.length ≤ 4 ∧ x.size ≤ 64))):=Lib.hid rfl
 clear hv hl hb0
 generalize cmC t (.slice ao l.length cap) x = cs at c1 c2 HB0 hlt0
 by_cases h4:4 < l.length
 ·have HR:Hid (commitOk (t,l,x) = false):=by unfold Hid;rw [HC.out,decide_eq_false (show ¬ (l.length ≤ 4 ∧ x.size ≤ 64) by omega),Bool.and_false]
  have d1:decide ((4:Int) < l.length) = true:=decide_eq_true (by omega)
  go_enter Tryz.func81,Tryz.ntmps81
  go_wp2
  go_ret
  exact ⟨ret_bool HR.out.symm,HB0.out⟩
 ·have d1:decide ((4:Int) < l.length) = false:=decide_eq_false (by omega)
  by_cases h64:64 < x.size
  ·have HR:Hid (commitOk (t,l,x) = false):=by unfold Hid;rw [HC.out,decide_eq_false (show ¬ (l.length ≤ 4 ∧ x.size ≤ 64) by omega),Bool.and_false]
   have d2:decide ((64:Int) < x.size) = true:=decide_eq_true (by omega)
   go_enter Tryz.func81,Tryz.ntmps81
   go_wp2
   go_ret
   exact ⟨ret_bool HR.out.symm,HB0.out⟩
  ·have d2:decide ((64:Int) < x.size) = false:=decide_eq_false (by omega)
   have HC2:Hid (commitOk (t,l,x) = decide l.Nodup):=by unfold Hid;rw [HC.out,decide_eq_true (show l.length ≤ 4 ∧ x.size ≤ 64 by omega),Bool.and_true]
   clear h4 h64
   go_enter Tryz.func81,Tryz.ntmps81
   go_wp2
   obtain ⟨W,hW⟩:∃ W,W = w.alloc (.cells cs.toArray 103):=⟨_,rfl⟩
   rw [← hW] at c1 c2 HB0 hlt0 ⊢
   clear hW
   go_loopw [3,4] (fun i j wr => ∃ k:Nat,k ≤ l.length ∧ i = .int .i64 k ∧ Hid ((l.take k).Nodup) ∧ Below W.heap.size W wr) (fun i _ _ => (l.length - intOf i).toNat)
   case atStart => exact ⟨0,by omega,rfl,List.nodup_nil,Below.refl _ _⟩
   case round =>
    obtain ⟨wo,rfl⟩:∃ wo:World,wo = wr:=⟨_,rfl⟩
    obtain ⟨k,hk,rfl,hnd,hb⟩:=hrel
    have e1:=below_load c1 hb hlt0
    by_cases hlt:k < l.length
    ·obtain ⟨b,off,rfl,hbl,hcell⟩:=HV.out (by intro e;rw [e] at hlt;simp at hlt)
     have c3:=rangeAt_below (hcell k hlt) (HB0.out.trans (hb.mono HB0.out.size)) hbl
     have hzk:=HZ.out l[k] (List.getElem_mem hlt)
     have HCK:=Lib.hid (fun j (hj:j < l.length) w' (hb':Below w.heap.size w w') => rangeAt_below (hcell j hj) hb' hbl)
     have hbo:b < wo.heap.size:=by have:=HB0.out.size;have:=hb.size;omega
     have hlto:w.heap.size < wo.heap.size:=by have:=hb.size;omega
     have HBO:=Lib.hid hb
     have HND:=Lib.hid hnd.out
     clear hcell hnd hb
     go_wp2
     go_loopw [4] (fun j wr => ∃ m:Nat,m ≤ k ∧ j = .int .i64 m ∧ Hid (∀ j (hj:j < m) (hm:m ≤ k),l[j] ≠ l[k]) ∧ Below wo.heap.size wo wr) (fun j _ => (k - intOf j).toNat)
     case atStart => exact ⟨0,by omega,rfl,fun j hj _ => absurd hj (by omega),Below.refl _ _⟩
     case round =>
      obtain ⟨wi,rfl⟩:∃ wi:World,wi = wr:=⟨_,rfl⟩
      obtain ⟨m,hm,rfl,hne,hbi⟩:=hrel
      by_cases hmk:m < k
      ·have f1:=below_load e1 hbi hlto
       have f3:=rangeAt_below c3 hbi hbo
       have hlti:w.heap.size < wi.heap.size:=by have:=hbi.size;omega
       have hbli:b < wi.heap.size:=by have:=hbi.size;omega
       have hbw:Below w.heap.size w wi:=(HB0.out.trans (HBO.out.mono HB0.out.size)).trans (hbi.mono (by have:=HB0.out.size;have:=HBO.out.size;omega))
       have f4:=HCK.out m (by omega) wi hbw
       have hzm:=HZ.out l[m] (List.getElem_mem (show m < l.length by omega))
       have h32k:=h32_of (us:=idC l[k]) (by rw [idC_len,hzk])
       have h32m:=h32_of (us:=idC l[m]) (by rw [idC_len,hzm])
       have k0:(0:Int) ≤ k:=by omega
       have k1:(k:Int) < l.length:=by omega
       have m0:(0:Int) ≤ m:=by omega
       have m1:(m:Int) < l.length:=by omega
       have m2:decide ((m:Int) < k) = true:=decide_eq_true (by omega)
       have HNE:=Lib.hid hne.out
       clear hne hbw
       by_cases he:l[k] = l[m]
       ·have heq:=fun w => id_eqIn_yes hzk he w
        have HR:Hid (commitOk (t,l,x) = false):=by unfold Hid;rw [HC2.out];exact decide_eq_false (not_nodup hmk hlt he.symm)
        clear he hzk hzm
        generalize idC l[k] = uk at f3 h32k heq
        generalize idC l[m] = um at f4 h32m heq
        go_wp2
        refine wp_region_bq (by kernel_rfl) (by kernel_rfl) ?_
        have LQ0:=fun x:BW (World.heap wi).size wi => below_load f1 x.hb (by omega)
        repeat (go_big_quiet_step (fail))
        refine bq_row 27 _ _ rfl rfl rfl f3 (by omega) Tryz.underlying27 rfl h32k ?_
        simp only [Act.put,List.setIfInBounds_toArray,List.set_cons_zero,List.set_cons_succ]
        repeat (go_big_quiet_step (fail))
        refine bq_row 27 _ _ rfl rfl rfl f4 (by omega) Tryz.underlying27 rfl h32m ?_
        simp only [Act.put,List.setIfInBounds_toArray,List.set_cons_zero,List.set_cons_succ]
        repeat (go_big_quiet_step (fail))
        refine wpQuiet_nil ?_
        intro wq hbq
        clear LQ0
        go_wp2
        go_ret
        exact ⟨ret_bool HR.out.symm,(HB0.out.trans (HBO.out.mono HB0.out.size)).trans ((hbi.trans (hbq.mono hbi.size)).mono (by have:=HB0.out.size;have:=HBO.out.size;omega))⟩
       ·have heq:=fun w => id_eqIn_no hzk hzm he w
        have HE:=Lib.hid he
        clear he hzk hzm
        generalize idC l[k] = uk at f3 h32k heq
        generalize idC l[m] = um at f4 h32m heq
        go_wp2
        refine wp_region_bq (by kernel_rfl) (by kernel_rfl) ?_
        have LQ0:=fun x:BW (World.heap wi).size wi => below_load f1 x.hb (by omega)
        repeat (go_big_quiet_step (fail))
        refine bq_row 27 _ _ rfl rfl rfl f3 (by omega) Tryz.underlying27 rfl h32k ?_
        simp only [Act.put,List.setIfInBounds_toArray,List.set_cons_zero,List.set_cons_succ]
        repeat (go_big_quiet_step (fail))
        refine bq_row 27 _ _ rfl rfl rfl f4 (by omega) Tryz.underlying27 rfl h32m ?_
        simp only [Act.put,List.setIfInBounds_toArray,List.set_cons_zero,List.set_cons_succ]
        repeat (go_big_quiet_step (fail))
        refine wpQuiet_nil ?_
        intro wq hbq
        clear LQ0
        have HBI:=Lib.hid (hbi.trans (hbq.mono hbi.size))
        clear hbi hbq f1 f3 f4
        go_wp2
        go_roundw
        case rel => exact ⟨m + 1,by omega,by go_num,fun j hj hm2 => by
         rcases Nat.lt_or_ge j m with h | h
         ·exact HNE.out j h hm
         ·obtain rfl:j = m:=by omega
          exact fun e => HE.out e.symm,HBI.out⟩
        case measure => simp [intOf];omega
      ·obtain rfl:m = k:=by omega
       have m2:decide ((m:Int) < m) = false:=decide_eq_false (by omega)
       have HNX:=Lib.hid (take_nodup hlt HND.out (fun j hj => hne.out j hj (Nat.le_refl _)))
       have HBI:=Lib.hid (HBO.out.trans (hbi.mono HBO.out.size))
       clear hne hbi
       go_wp2
       go_roundw
       case rel => exact ⟨m + 1,by omega,by go_num,HNX.out,HBI.out⟩
       case measure => simp [intOf];omega
    ·obtain rfl:k = l.length:=by omega
     have HR:Hid (commitOk (t,l,x) = true):=by
      unfold Hid;rw [HC2.out]
      have:=hnd.out
      rw [List.take_length] at this
      exact decide_eq_true this
     clear hnd
     go_wp2
     go_ret
     exact ⟨ret_bool HR.out.symm,HB0.out.trans (hb.mono HB0.out.size)⟩
end Go.Proofs.YtmhjpmenngjmeaaGreatDoor
namespace Go.Proofs.YtmhjpmenngjmeaaGreatDoor
open Go.RowKit
def leftM (b:Nat) (w:World):Nat:=match w.cell? ⟨b,1,none⟩,w.cell? ⟨b,2,none⟩ with
 | some (.int _ p),some (.int _ e) => if e = 0 then 1000001 - p.toNat else 0
 | _,_ => 0
theorem leftM_eq {b:Nat} {w:World} {r:Rd} (h:Arr w b 3 r.c):leftM b w = if r.err = 0 then 1000001 - r.pos else 0:=by
 unfold leftM
 have c1:w.cell? ⟨b,1,none⟩ = some (.int .i64 (r.pos:Int)):=h.cell 1 (by omega)
 have c2:w.cell? ⟨b,2,none⟩ = some (.int .i64 (r.err:Int)):=h.cell 2 (by omega)
 rw [c1,c2]
 by_cases h0:r.err = 0
 ·simp [h0]
 ·simp [h0]
theorem rd0_arr (w:World) (s:ByteArray) (e:TypeId):Arr (w.alloc (.cells #[.string s,.int .i64 0,.int .i64 0] e)) w.heap.size 3 (rd0 s).c :=
 (Arr.ofList w [.string s,.int .i64 0,.int .i64 0] e).congr fun k hk => by
  obtain h | h | h:k = 0 ∨ k = 1 ∨ k = 2:=by simp at hk;omega
  all_goals subst h;rfl
def entZ (k:Nat):Value:=if k = 0 then .string ByteArray.empty else if k = 1 then .int .i64 0 else .int .u8 0
theorem entZ_list:#[.string ⟨#[]⟩,.int .i64 0,.int .u8 0,.int .u8 0,.int .u8 0,.int .u8 0,.int .u8 0,.int .u8 0,.int .u8 0,.int .u8 0,.int .u8 0,.int .u8 0,.int .u8 0,.int .u8 0,.int .u8 0,.int .u8 0,.int .u8 0,.int .u8 0,.int .u8 0,.int .u8 0,.int .u8 0,.int .u8 0,.int .u8 0,.int .u8 0,.int .u8 0,.int .u8 0,.int .u8 0,.int .u8 0,.int .u8 0,.int .u8 0,.int .u8 0,.int .u8 0,.int .u8 0,.int .u8 0] = ((List.range 34).map entZ).toArray:=by kernel_rfl
theorem ent_zero:∃ (zs:Array Value) (i0:TypeInfo),Tryz.prog.info? 84 = some i0 ∧ i0.zero = some (.agg zs) ∧ i0.size = 34 ∧ i0.bytes = 56 ∧ (∀ w,(zeroValue 84).run Tryz.prog w = .ok (.agg zs) w) ∧ (∀ w,(Instr.build 84 #[]).run Tryz.prog w = .ok (.agg zs) w) ∧ zs = ((List.range 34).map entZ).toArray:=by
 have h:(Tryz.prog.info? 84).map (fun i => (i.zero,i.size,i.bytes)) = some (some (.agg #[.string ⟨#[]⟩,.int .i64 0,.int .u8 0,.int .u8 0,.int .u8 0,.int .u8 0,.int .u8 0,.int .u8 0,.int .u8 0,.int .u8 0,.int .u8 0,.int .u8 0,.int .u8 0,.int .u8 0,.int .u8 0,.int .u8 0,.int .u8 0,.int .u8 0,.int .u8 0,.int .u8 0,.int .u8 0,.int .u8 0,.int .u8 0,.int .u8 0,.int .u8 0,.int .u8 0,.int .u8 0,.int .u8 0,.int .u8 0,.int .u8 0,.int .u8 0,.int .u8 0,.int .u8 0,.int .u8 0]),34,56):=by kernel_rfl
 obtain ⟨i0,hi,hz0,hz1,hz2⟩:=info_parts h
 exact ⟨#[.string ⟨#[]⟩,.int .i64 0,.int .u8 0,.int .u8 0,.int .u8 0,.int .u8 0,.int .u8 0,.int .u8 0,.int .u8 0,.int .u8 0,.int .u8 0,.int .u8 0,.int .u8 0,.int .u8 0,.int .u8 0,.int .u8 0,.int .u8 0,.int .u8 0,.int .u8 0,.int .u8 0,.int .u8 0,.int .u8 0,.int .u8 0,.int .u8 0,.int .u8 0,.int .u8 0,.int .u8 0,.int .u8 0,.int .u8 0,.int .u8 0,.int .u8 0,.int .u8 0,.int .u8 0,.int .u8 0],i0,hi,hz0,hz1,hz2,fun w => by kernel_rfl,fun w => run_build w 84 #[] _ (by kernel_rfl),entZ_list⟩
theorem entZ_one:∀ v ∈ (List.range 34).map entZ,v.oneCell' = true:=by
 intro v hv
 obtain ⟨k,_,rfl⟩:=List.mem_map.1 hv
 unfold entZ;split
 ·rfl
 ·split <;> rfl
def entF (e:Ent) (k:Nat):Value:=(entC e).getD k undef
theorem entF_upd (e:Ent) (h:e.id.length = 32) (k:Nat) (hk:k < 34):(if 2 ≤ k ∧ k < 2 + (idC e.id).length then (idC e.id).getD (k - 2) undef else upd (upd entZ 1 (.int .i64 (e.kind:Int))) 0 (.string e.name) k) = entF e k:=by
 have hl:(idC e.id).length = 32:=by rw [idC_len,h]
 rw [hl]
 unfold upd entF entC
 obtain h0 | h0 | h0:k = 0 ∨ k = 1 ∨ 2 ≤ k:=by omega
 ·subst h0;rfl
 ·subst h0;rfl
 ·rw [if_pos ⟨h0,by omega⟩]
  rw [List.getD_eq_getElem?_getD,List.getD_eq_getElem?_getD,List.getElem?_append_right (by simpa using h0)];rfl
theorem entC_one (e:Ent):∀ v ∈ entC e,v.oneCell' = true:=by
 intro v hv
 unfold entC at hv
 rcases List.mem_append.1 hv with h | h
 ·simp at h;rcases h with rfl | rfl <;> rfl
 ·exact idC_one _ v h
theorem cells_newL (w:World) (cs:List Value) (e:TypeId) (j:Nat) (u:Value) (h:cs[j]? = some u):(w.alloc (.cells cs.toArray e)).cell? ((⟨w.heap.size,0,none⟩:Addr).add j) = some u:=by
 rw [Addr.add_mid,Nat.zero_add,World.cell?_alloc_new];simpa using h
theorem entF_list (e:Ent) (h:e.id.length = 32):(List.range 34).map (entF e) = entC e:=by
 have hl:(entC e).length = 34:=by simp [entC,idC_len,h]
 apply List.ext_getElem
 ·simp [hl]
 ·intro i h1 h2
  simp [entF,h2]
def entsF (l:List Ent):List Value:=(l.map entC).flatten
theorem entsF_snoc (l:List Ent) (e:Ent):entsF (l ++ [e]) = entsF l ++ entC e:=by simp [entsF]
theorem ents_stop (r:Rd):∀ (f:Nat) (es:List Ent),r.more = false → r.entsN f es = (r,es)
 | 0,_,_ => rfl
 | _ + 1,_,h => by unfold Rd.entsN;rw [h];rfl
theorem ents_on (r : Rd) : ∀ (f : Nat) (es : List Ent), r.more = true → 0 < f → r.entsN f es = r.entry.1.entsN (f - 1) (es ++ [r.entry.2])
  | 0, _, _, h => by omega
  | f + 1, es, h, _ => by conv => lhs; unfold Rd.entsN
                          rw [if_pos h]; rfl
theorem own_below {w w':World} {B:Nat} {e:TypeId} {sz:Nat} {v:Value} {n:Nat} {xs:List Value} (h:w.ownsRow B e sz v n xs) (hb:Below w.heap.size w w'):w'.ownsRow B e sz v n xs :=
 h.kept (grown_of_below hb none) (by cases hv:v.ownBlock <;> simp)
theorem own_grown {w w':World} {B b:Nat} {e:TypeId} {sz:Nat} {v:Value} {n:Nat} {xs:List Value} (h:w.ownsRow B e sz v n xs) (hg:w.grownBy w' (some b)) (hb:b < B):w'.ownsRow B e sz v n xs :=
 h.kept hg (by
  cases hv:v.ownBlock with
  | none => exact .inl rfl
  | some g => right;intro e;cases e;have:=(h.lt b hv).1;omega)
theorem own_ne {w:World} {B b:Nat} {e:TypeId} {sz:Nat} {v:Value} {n:Nat} {xs:List Value} (h:w.ownsRow B e sz v n xs) (hb:b < B):v.ownBlock = none ∨ v.ownBlock ≠ some b:=by
 cases hv:v.ownBlock with
 | none => exact .inl rfl
 | some g => right;intro e;cases e;have:=(h.lt b hv).1;omega
theorem own_new {w:World} {B:Nat} {e:TypeId} {sz:Nat} {v:Value} {n:Nat} {xs:List Value} (h:w.ownsRow B e sz v n xs):v.ownBlock = none ∨ v.ownBlock ≠ some w.heap.size:=by
 cases hv:v.ownBlock with
 | none => exact .inl rfl
 | some g => right;intro e;cases e;have:=(h.lt _ hv).2;omega
theorem own_set {w:World} {B b o:Nat} {e:TypeId} {sz:Nat} {v u:Value} {n:Nat} {xs:List Value} (h:w.ownsRow B e sz v n xs) (hne:v.ownBlock = none ∨ v.ownBlock ≠ some b):(w.setCell ⟨b,o,none⟩ u).ownsRow B e sz v n xs :=
 h.kept (grown_set (World.grownBy.refl w (some b)) u) hne
theorem own_sets {w:World} {B b o:Nat} {e:TypeId} {sz:Nat} {v:Value} {n:Nat} {xs us:List Value} (h:w.ownsRow B e sz v n xs) (hne:v.ownBlock = none ∨ v.ownBlock ≠ some b):(w.setCells b o us).ownsRow B e sz v n xs :=
 h.kept (grown_setCells us o w (World.grownBy.refl w (some b))) hne
theorem Arr.grownV {w w':World} {b n:Nat} {c:Nat → Value} (h:Arr w b n c) {row:Option Nat} (hg:w.grownBy w' row) (hne:row ≠ some b):Arr w' b n c :=
 ⟨fun k hk => hg.cell (h.cell k hk) (fun e => hne e.symm),fun k hk => by
  rw [World.frozen?_of_block (w:=w) (a:=⟨b,k,none⟩) (hg.block b (h.lt (by omega)) (fun e => hne e.symm))];exact h.free k hk⟩
theorem Arr.farSets {w:World} {b n B:Nat} {c:Nat → Value} (h:Arr w b n c) (hne:B ≠ b):∀ (us:List Value) (o:Nat),Arr (w.setCells B o us) b n c:=fun us o =>
 h.grownV (grown_setCells us o w (World.grownBy.refl w (some B))) (fun e => hne (Option.some.inj e))
theorem entry_left (r:Rd) (hf:r.fine):(if r.entry.1.err = 0 then 1000001 - r.entry.1.pos else 0) < 1000001 - r.pos:=by
 have h1:=hf.pos
 have h2:=hf.size
 split
 ·rename_i h
  obtain ⟨_,_,h3,_⟩:=r.entry_canon hf h
  omega
 ·omega
set_option maxRecDepth 100000 in
set_option maxHeartbeats 4000000 in
theorem rentries_own (s:ByteArray) (w:World) (hs:s.size ≤ 100000) :
  Calls Tryz.prog 43 #[.string s] w fun e w' => ∃ v,e = .returned (.tuple #[v,.bool (treeOf s).isSome]) ∧ (EntRow w' v ((treeOf s).getD []) ∧ w'.ownsRow (w.heap.size + 1) 84 34 v ((treeOf s).getD []).length (((treeOf s).getD []).map entC).flatten) ∧ Below w.heap.size w w':=by
 obtain ⟨zs,i0,hi,hz0,hz1,hz2,hzv,hbu,hzs⟩:=ent_zero
 have hzl:zs.size = 34:=by rw [hzs];simp
 have HZL:=Lib.hid hzl
 have HZS:=Lib.hid hzs
 clear hzl hzs
 have HA0:=Lib.hid (rd0_arr w s 150)
 have hb0:Below w.heap.size w (w.alloc (.cells #[.string s,.int .i64 0,.int .i64 0] 150)):=(Below.refl _ _).alloc (Nat.le_refl _) _
 have HB0:=Lib.hid hb0
 clear hb0
 go_enter Tryz.func43,Tryz.ntmps43
 go_wp2
 go_loopw [5,6] (fun v _ wr => ∃ (r:Rd) (es:List Ent) (f:Nat),Arr wr w.heap.size 3 r.c ∧ Hid r.fine ∧ r.err ≤ 4 ∧ Hid (r.s = s) ∧ Hid (r.entsN f es = (rd0 s).entsN (s.size + 1) []) ∧ Hid (r.err = 0 → r.s.size - r.pos < f ∧ es.length ≤ r.pos) ∧ Hid (∀ e ∈ es,e.id.length = 32) ∧ es.length ≤ 100001 ∧ wr.ownsRow (w.heap.size + 1) 84 34 v es.length (entsF es) ∧ Below w.heap.size w wr) (fun _ _ wr => leftM w.heap.size wr)
 case atStart => exact ⟨rd0 s,[],s.size + 1,HA0.out,rd0_fine s (by omega),by show 0 ≤ 4;omega,rfl,rfl,(fun _ => ⟨by show s.size - 0 < s.size + 1;omega,Nat.zero_le _⟩),(fun e he => by cases he),by simp,World.ownsRow_nil _ _ _ _,HB0.out⟩
 case round =>
  obtain ⟨wo,rfl⟩:∃ wo:World,wo = wr:=⟨_,rfl⟩
  obtain ⟨r,es,f,hA,hf,h4,hrs,hN,hfu,hid,hlen,hown,hb⟩:=hrel
  have c1:wo.cell? ⟨w.heap.size,1,none⟩ = some (.int .i64 (r.pos:Int)):=hA.cell 1 (by omega)
  have c2:wo.cell? ⟨w.heap.size,2,none⟩ = some (.int .i64 (r.err:Int)):=hA.cell 2 (by omega)
  have hlto:=hA.lt (by omega)
  obtain ⟨co,cc,rfl⟩:=own_form hown
  by_cases hm:r.more = true
  ·obtain ⟨he0,hps⟩:=of_decide_eq_true hm
   obtain ⟨hfu1,hfu2⟩:=hfu.out he0
   have d1:((r.err:Int) == 0) = true:=by rw [beq_iff_eq];omega
   have d2:decide ((r.pos:Int) < s.size) = true:=decide_eq_true (by rw [hrs.out] at hps;omega)
   have d3:decide (r.pos < s.size) = true:=decide_eq_true (by rw [hrs.out] at hps;omega)
   have HLM:=Lib.hid (leftM_eq hA)
   have HE0:=Lib.hid he0
   have HM:=Lib.hid hm
   have hel:=Lib.hid (entry_left r hf.out)
   have hentry:Hid (r.entry = (((r.num 2).1.text 32).1.id.1,⟨((r.num 2).1.text 32).2,(r.num 2).2,((r.num 2).1.text 32).1.id.2⟩)):=Lib.hid rfl
   have hf1:=Lib.hid (Rd.num_fine r 2 hf.out)
   have hf2:=Lib.hid (Rd.text_fine _ 32 hf1.out.1)
   have HA:=Lib.hid hA
   have HN:=Lib.hid (fun W (hA:Arr W w.heap.size 3 r.c) => rnum_any w.heap.size r 2 W hA hf.out (by omega))
   have HT:=Lib.hid (fun W (hA:Arr W w.heap.size 3 (r.num 2).1.c) => rtext_any w.heap.size _ 32 W hA hf1.out.1 (by omega))
   have HI:=Lib.hid (fun W (hA:Arr W w.heap.size 3 ((r.num 2).1.text 32).1.c) => rid_any w.heap.size _ W hA hf2.out)
   have HIL:Hid ((((r.num 2).1.text 32).1.id.2).length = 32):=Lib.hid (idOf_len _)
   have HEF:=Lib.hid (r.entry_fine hf.out)
   have HE4:=Lib.hid (r.entry_err4 h4)
   have HES:=Lib.hid (r.entry_s)
   have HECN:=Lib.hid (r.entry_canon hf.out)
   have HST:Hid (r.entsN f es = r.entry.1.entsN (f - 1) (es ++ [r.entry.2])):=Lib.hid (ents_on r f es hm (by omega))
   clear hA hm he0
   generalize r.entry = en at hentry hel HEF HE4 HES HECN HST
   obtain ⟨r',e⟩:=en
   generalize r.num 2 = x1 at hentry HN HT hf1 HI HIL hf2
   obtain ⟨r1,kd⟩:=x1
   dsimp only at hentry HN HT hf1 HI HIL hf2
   generalize r1.text 32 = x2 at hentry HT HI HIL hf2
   obtain ⟨r2,nm⟩:=x2
   dsimp only at hentry HT HI HIL hf2
   generalize r2.id = x3 at hentry HI HIL
   obtain ⟨r3,d⟩:=x3
   dsimp only at hentry HI HIL HEF HE4 HES hel HECN HST
   obtain ⟨rfl,rfl⟩:r' = r3 ∧ e = ⟨nm,kd,d⟩:=by have:=hentry.out;injection this with h1 h2;exact ⟨h1,h2⟩
   clear hentry
   have hE0:Arr (wo.alloc (.cells zs 84)) wo.heap.size 34 entZ:=by
    rw [HZS.out]
    exact (Arr.ofList wo ((List.range 34).map entZ) 84).congr fun k hk => by simp at hk;simp [hk]
   have HE0A:=Lib.hid hE0
   have hE:Arr ((wo.alloc (.cells zs 84)).setCells wo.heap.size 0 zs.toList) wo.heap.size 34 entZ :=
    (hE0.setCells 0 zs.toList (by rw [Array.length_toList,HZL.out];exact Nat.le_refl _)).congr fun k hk => by
     rw [Array.length_toList,HZL.out,if_pos ⟨by omega,by omega⟩,HZS.out];simp [hk]
   have hbW:Below wo.heap.size wo ((wo.alloc (.cells zs 84)).setCells wo.heap.size 0 zs.toList):=below_setCells _ (Nat.le_refl _) _ _ _ ((Below.refl _ _).alloc (Nat.le_refl _) _)
   have HE:=Lib.hid hE
   have HBW:=Lib.hid hbW
   clear hE0 hE hbW
   go_wp2_with (refine wpList_store_mid rfl 84 _ _ rfl wo.heap.size 0 zs rfl rfl ?g1 ?g2 ?g3 ?_)
   case g1 => rw [HZL.out];exact HE0A.out.there
   case g2 => exact HZL.out.symm
   case g3 =>
    intro i hi'
    have hm:zs[i] ∈ zs.toList:=by simp
    have h2:zs.toList = (List.range 34).map entZ:=by rw [HZS.out]
    exact entZ_one _ (h2 ▸ hm)
   generalize hW:(wo.alloc _).setCells _ _ _ = W
   rw [hW] at HE HBW
   have hAW:=HA.out.below HBW.out hlto
   have HOW:=Lib.hid (own_below hown HBW.out)
   have hown0:=Lib.hid hown.lt
   have HNE:=Lib.hid (own_new hown)
   have HNB:=Lib.hid (own_ne hown (Nat.lt_succ_self w.heap.size))
   have hszW:wo.heap.size < W.heap.size:=HE.out.lt (by omega)
   clear hW hown c1 c2 HE0A
   refine (HN.out W hAW).mono ?_
   rintro e w1 ⟨rfl,hA1,hg1⟩
   have hE1:=HE.out.grown hg1 (by omega)
   have hO1:=own_grown HOW.out hg1 (by omega)
   have c1:=hE1.cell 1 (by omega)
   have f1:=hE1.free 1 (by omega)
   have HA1:=Lib.hid (hA1.far (p:=⟨wo.heap.size,1,none⟩) (by show wo.heap.size ≠ _;omega) (.int .i64 (kd:Int)))
   have HE1:=Lib.hid (hE1.set 1 (by omega) (.int .i64 (kd:Int)))
   have HO1:=Lib.hid (own_set (o:=1) (u:=.int .i64 (kd:Int)) hO1 HNE.out)
   have HG1:=Lib.hid hg1
   clear hA1 hE1 hO1 hg1
   go_wp2_with fail
   refine (HT.out _ HA1.out).mono ?_
   rintro e w2 ⟨rfl,hA2,hg2⟩
   have hE2:=HE1.out.grown hg2 (by omega)
   have hO2:=own_grown HO1.out hg2 (by omega)
   have c2:=hE2.cell 0 (by omega)
   have f2:=hE2.free 0 (by omega)
   have HA2:=Lib.hid (hA2.far (p:=⟨wo.heap.size,0,none⟩) (by show wo.heap.size ≠ _;omega) (.string nm))
   have HE2:=Lib.hid (hE2.set 0 (by omega) (.string nm))
   have HO2:=Lib.hid (own_set (o:=0) (u:=.string nm) hO2 HNE.out)
   have HG2:=Lib.hid hg2
   clear hA2 hE2 hO2 hg2 c1 f1
   go_wp2_with fail
   refine (HI.out _ HA2.out).mono ?_
   rintro e w3 ⟨rfl,hA3,hg3⟩
   have hdl:(idC d).length = 32:=by rw [idC_len,HIL.out]
   have hE3:=HE2.out.grown hg3 (by omega)
   have hO3:=own_grown HO2.out hg3 (by omega)
   have HA3:=Lib.hid (hA3.farSets (B:=wo.heap.size) (by omega) (idC d) 2)
   have HE3:=Lib.hid ((hE3.setCells 2 (idC d) (by omega)).congr (fun k hk => entF_upd ⟨nm,kd,d⟩ HIL.out k hk))
   have HO3:=Lib.hid (own_sets (o:=2) (us:=idC d) hO3 HNE.out)
   have hth:w3.there wo.heap.size 2 32:=fun j hj => ⟨by rw [hE3.cell _ (by omega)];rfl,hE3.free _ (by omega)⟩
   have HTH:=Lib.hid hth
   have HG3:=Lib.hid hg3
   have HDL:=Lib.hid hdl
   have HDO:=Lib.hid (idC_one d)
   have h32:(Tryz.prog.info? 27).map (·.size) = some 32:=by kernel_rfl
   have hel34:(entC ⟨nm,kd,d⟩).length = 34:=by simp [entC,idC_len,HIL.out]
   have h34:(Tryz.prog.info? 84).map (·.size) = some (entC ⟨nm,kd,d⟩).length:=by
    rw [hel34,hi];exact congrArg some hz1
   have HEL34:=Lib.hid hel34
   have HOC:=Lib.hid (entC_one ⟨nm,kd,d⟩)
   clear hel34
   clear hA3 hE3 hO3 hg3 c2 f2 hth hdl
   have hdv:idV d = .agg (idC d).toArray:=rfl
   rw [hdv]
   clear hdv
   generalize hcs:entC ⟨nm,kd,d⟩ = cs at h34 HEL34 HOC
   have hrg:=HE3.out.range
   rw [entF_list ⟨nm,kd,d⟩ HIL.out,hcs] at hrg
   have HCS:=Lib.hid hcs
   clear hcs
   have HSZC:Hid (∀ w,(sizeOf 84).run Tryz.prog w = .ok cs.length w):=Lib.hid (fun w => by rw [HEL34.out];kernel_rfl)
   have HPC:=Lib.hid (show 0 < cs.length by rw [HEL34.out];omega)
   have HLC:=Lib.hid (show cs.length ≤ 1000 by rw [HEL34.out];omega)
   generalize hus:idC d = us at HA3 HE3 HO3 HDL HDO hrg
   clear hus
   have HRG:=Lib.hid hrg
   have hsz4:wo.heap.size < (w3.setCells wo.heap.size 2 us).heap.size:=HE3.out.lt (show 0 < 34 by omega)
   have HSZ4:=Lib.hid hsz4
   clear hrg hsz4
   go_wp2_with (first | (refine wpList_store_list rfl 27 _ _ rfl wo.heap.size 2 us ?y1 ?y2 32 HDL.out ?y4 h32 HDO.out ?_) | (refine wpList_load_mid rfl 84 _ rfl wo.heap.size 0 rfl cs _ HRG.out Tryz.underlying84 rfl h34 ?_) | (refine wpList_buildSlice_one rfl (.tmp 35) 79 84 rfl cs zs rfl Tryz.underlying79 HSZC.out hzv HPC.out HLC.out ?_) | (at_builtin;refine wpList_append_own _ rfl (.tmp 34) (.tmp 36) 79 rfl (w.heap.size + 1) 84 i0 (.agg zs) 34 56 Tryz.underlying79 hi hz0 hz1 hz2 HZL.out (by decide) _ es.length (entsF es) rfl (HO3.out.alloc _) ⟨(w3.setCells wo.heap.size 2 us).heap.size,0,none⟩ 1 1 cs ?a1 HEL34.out ?a2 HOC.out ?a3 ?a4 ?a5 ?_))
   try case y1 => rfl
   try case y2 => rfl
   try case y4 => exact HTH.out
   case a2 => exact fun j u hj => cells_newL _ cs _ j u hj
   case a3 => unfold maxLen;omega
   case a4 => omega
   case a5 => rw [World.size_alloc];have:=HSZ4.out;omega
   intro v' w5 hown5 hg5 _
   have hb4:Below w.heap.size w (w3.setCells wo.heap.size 2 us):=by
    refine below_setCells _ (by omega) _ _ _ ?_
    have q1:=(hb.trans (HBW.out.mono hb.size)).grown HG1.out (by have:=HBW.out.size;omega) (fun k hk => by cases hk;exact Nat.le_refl _)
    have q2:=(q1.setCell (p:=⟨wo.heap.size,1,none⟩) (by show w.heap.size ≤ wo.heap.size;omega) (.int .i64 (kd:Int))).grown HG2.out (by have:=HG1.out.size;simp;omega) (fun k hk => by cases hk;exact Nat.le_refl _)
    exact (q2.setCell (p:=⟨wo.heap.size,0,none⟩) (by show w.heap.size ≤ wo.heap.size;omega) (.string nm)).grown HG3.out (by have:=HG2.out.size;have:=HG1.out.size;simp at *;omega) (fun k hk => by cases hk;exact Nat.le_refl _)
   have hb5:Below w.heap.size w w5:=(hb4.alloc hb4.size _).grown hg5 (by rw [World.size_alloc];have:=hb4.size;omega) (fun k hk => by have:=(hown0.out k hk).1;omega)
   have hA5:Arr w5 w.heap.size 3 r'.c:=(HA3.out.alloc (by omega) _).grownV hg5 (fun e => by have:=(hown0.out _ e).1;omega)
   have HA5:=Lib.hid hA5
   have HB5:=Lib.hid hb5
   rw [← HCS.out,← entsF_snoc] at hown5
   have HO5:=Lib.hid hown5
   have hpos:=hf.out.pos
   have hrs':r.s.size = s.size:=by rw [hrs.out]
   clear hA5 hb5 hb4 hown5 hg5
   go_wp2
   go_roundw
   case rel =>
    refine ⟨r',es ++ [⟨nm,kd,d⟩],f - 1,HA5.out,HEF.out,HE4.out,HES.out.trans hrs.out,Lib.hid (HST.out.symm.trans hN.out),fun h0 => ?_,fun e he => ?_,by simp;omega,by rw [List.length_append];exact HO5.out,HB5.out⟩
    ·obtain ⟨_,_,q3,_⟩:=HECN.out h0
     rw [HES.out,List.length_append,List.length_singleton]
     omega
    ·rcases List.mem_append.1 he with h | h
     ·exact hid.out e h
     ·rw [List.mem_singleton.1 h];exact HIL.out
   case measure =>
    rw [leftM_eq HA5.out,HLM.out,if_pos HE0.out];exact hel.out
  ·have hm2:r.more = false:=by simpa using hm
   have hst:(rd0 s).entsN (s.size + 1) [] = (r,es):=by rw [← hN.out];exact ents_stop r f es hm2
   rw [Rd.entsN_eq] at hst
   have e1:(treeRd s).1 = r:=congrArg Prod.fst hst
   have e2:(treeRd s).2 = es:=congrArg Prod.snd hst
   have HTO:Hid (treeOf s = if r.fin = 0 ∧ treeOk es = true then some es else none):=by unfold Hid treeOf;rw [e1,e2]
   have HEND:=Lib.hid (fun W (hA:Arr W w.heap.size 3 r.c) => rend_any w.heap.size r W hA hf.out)
   have HAR:=Lib.hid hA
   have HOWN:=Lib.hid hown
   clear hst hN hA hown hm
   by_cases h0:r.err = 0
   ·have hps:¬ r.pos < r.s.size:=fun h => by have:=of_decide_eq_false hm2;exact this ⟨h0,h⟩
    have hrs':r.s.size = s.size:=by rw [hrs.out]
    have d1:((r.err:Int) == 0) = true:=by rw [beq_iff_eq];omega
    have d2:decide ((r.pos:Int) < s.size) = false:=decide_eq_false (by omega)
    have d3:decide (r.pos < s.size) = false:=decide_eq_false (by omega)
    have hfin:r.fin = 0:=by unfold Rd.fin;rw [if_neg (by simp [h0]),if_neg hps]
    have HER:Hid (∀ W,Below wo.heap.size wo W → EntRow W (.slice co es.length cc) es):=Lib.hid (fun W hb' => (RowOf.of_own (B:=w.heap.size + 1) (e:=84) (sz:=34) (rows:=es.map entC) (fun r hr => by
     obtain ⟨e,he,rfl⟩:=List.mem_map.1 hr
     simp [entC,idC_len,hid.out e he]) (by rw [List.length_map];exact HOWN.out)).below hb')
    have e0:(treeRd s).1.err = 0:=by rw [e1];exact h0
    have hsm:=Rd.ents_small (s.size + 1) (rd0 s) (rd0_fine s (by omega)) e0
    have e3:((rd0 s).ents (s.size + 1)).2 = es:=e2
    rw [e3] at hsm
    have HTR:=Lib.hid (fun W (hb':Below wo.heap.size wo W) => rtreeright_any (.slice co es.length cc) es W (HER.out W hb') (fun e he => by have:=hsm e he;omega))
    have HBD:Hid (treeOk es = true → ∀ W,Below wo.heap.size wo W → Calls Tryz.prog 42 #[.slice co es.length cc] W fun e w' => e = .returned (.string s) ∧ Below W.heap.size W w'):=Lib.hid (fun hok W hb' => by
     have h32:es.length ≤ 32:=by
      rw [treeOk_rows] at hok
      simp only [Bool.and_eq_true,decide_eq_true_eq] at hok
      exact hok.2
     have:=rtreebody_any (.slice co es.length cc) es W (HER.out W hb') (fun e he => by have h1:=hsm e he;exact ⟨by omega,by omega,hid.out e he⟩) (by omega)
     have hc:=treeOf_canon s (by omega) (by rw [e1];exact hfin)
     rw [e2] at hc
     rw [hc,ofB_of] at this
     exact this)
    rw [hfin] at HEND
    clear hsm e0 e1 e2 e3 hps h0 hm2
    have HFIN:=Lib.hid hfin
    clear hfin
    cases hok:treeOk es with
    | false =>
     have HR:Hid (treeOf s = none):=by unfold Hid;rw [HTO.out,if_neg (by rw [hok];simp)]
     rw [hok] at HTR
     clear hok
     go_wp2_with fail
     refine (HEND.out _ HAR.out).mono ?_
     rintro e w1 ⟨rfl,hb1⟩
     have HB1:=Lib.hid hb1
     clear hb1
     go_wp2_with fail
     refine (HTR.out _ HB1.out).mono ?_
     rintro e w2 ⟨rfl,hb2⟩
     have HB2:=Lib.hid (hb.trans ((HB1.out.trans (hb2.mono HB1.out.size)).mono hb.size))
     clear hb2
     go_wp2
     go_ret2
     exact ⟨.slice none 0 0,by rw [HR.out];rfl,by rw [HR.out];exact ⟨⟨none,0,rfl,by simp,fun h => absurd rfl h⟩,World.ownsRow_nil _ _ _ _⟩,HB2.out⟩
    | true =>
     have HR:Hid (treeOf s = some es):=by unfold Hid;rw [HTO.out,if_pos ⟨HFIN.out,hok⟩]
     have HBD2:=Lib.hid (HBD.out hok)
     rw [hok] at HTR
     clear hok
     go_wp2_with fail
     refine (HEND.out _ HAR.out).mono ?_
     rintro e w1 ⟨rfl,hb1⟩
     have HB1:=Lib.hid hb1
     clear hb1
     go_wp2_with fail
     refine (HTR.out _ HB1.out).mono ?_
     rintro e w2 ⟨rfl,hb2⟩
     have HB2:=Lib.hid (HB1.out.trans (hb2.mono HB1.out.size))
     clear hb2
     go_wp2_with fail
     refine (HBD2.out _ HB2.out).mono ?_
     rintro e w3 ⟨rfl,hb3⟩
     have HB3:=Lib.hid (HB2.out.trans (hb3.mono HB2.out.size))
     clear hb3
     go_wp2
     go_ret2
     exact ⟨.slice co es.length cc,by rw [HR.out];rfl,by rw [HR.out];exact ⟨HER.out _ HB3.out,own_below HOWN.out HB3.out⟩,hb.trans (HB3.out.mono hb.size)⟩
   ·have d1:((r.err:Int) == 0) = false:=by rw [beq_eq_false_iff_ne];omega
    have hfin:r.fin = r.err:=by unfold Rd.fin;rw [if_pos h0]
    have d2:((r.err:Int) != 0) = true:=by rw [bne_iff_ne];omega
    have HR:Hid (treeOf s = none):=by unfold Hid;rw [HTO.out,if_neg (by rw [hfin];exact fun h => h0 h.1)]
    rw [hfin] at HEND
    clear hfin h0 hm2 e1 e2
    go_wp2_with fail
    refine (HEND.out _ HAR.out).mono ?_
    rintro e w1 ⟨rfl,hb1⟩
    have HB1:=Lib.hid (hb.trans (hb1.mono hb.size))
    clear hb1
    go_wp2
    go_ret2
    exact ⟨.slice none 0 0,by rw [HR.out];rfl,by rw [HR.out];exact ⟨⟨none,0,rfl,by simp,fun h => absurd rfl h⟩,World.ownsRow_nil _ _ _ _⟩,HB1.out⟩
theorem rentries_any (s:ByteArray) (w:World) (hs:s.size ≤ 100000) :
  Calls Tryz.prog 43 #[.string s] w fun e w' => ∃ v,e = .returned (.tuple #[v,.bool (treeOf s).isSome]) ∧ EntRow w' v ((treeOf s).getD []) ∧ Below w.heap.size w w' :=
 (rentries_own s w hs).mono fun _ _ ⟨v,h1,h2,h3⟩ => ⟨v,h1,h2.1,h3⟩
end Go.Proofs.YtmhjpmenngjmeaaGreatDoor
namespace Go.Proofs.YtmhjpmenngjmeaaGreatDoor
open Go.RowKit
def zid:List UInt8:=List.replicate 32 0
theorem zid_len:zid.length = 32:=by simp [zid]
theorem cmZ_list:#[.int .u8 0,.int .u8 0,.int .u8 0,.int .u8 0,.int .u8 0,.int .u8 0,.int .u8 0,.int .u8 0,.int .u8 0,.int .u8 0,.int .u8 0,.int .u8 0,.int .u8 0,.int .u8 0,.int .u8 0,.int .u8 0,.int .u8 0,.int .u8 0,.int .u8 0,.int .u8 0,.int .u8 0,.int .u8 0,.int .u8 0,.int .u8 0,.int .u8 0,.int .u8 0,.int .u8 0,.int .u8 0,.int .u8 0,.int .u8 0,.int .u8 0,.int .u8 0,.slice none 0 0,.string ⟨#[]⟩] = (cmC zid (.slice none 0 0) ⟨#[]⟩).toArray:=by kernel_rfl
theorem cm_zero:∃ zs:Array Value,(∀ w,(zeroValue 103).run Tryz.prog w = .ok (.agg zs) w) ∧ (∀ w,(Instr.build 103 #[]).run Tryz.prog w = .ok (.agg zs) w) ∧ zs = (cmC zid (.slice none 0 0) ⟨#[]⟩).toArray :=
 ⟨#[.int .u8 0,.int .u8 0,.int .u8 0,.int .u8 0,.int .u8 0,.int .u8 0,.int .u8 0,.int .u8 0,.int .u8 0,.int .u8 0,.int .u8 0,.int .u8 0,.int .u8 0,.int .u8 0,.int .u8 0,.int .u8 0,.int .u8 0,.int .u8 0,.int .u8 0,.int .u8 0,.int .u8 0,.int .u8 0,.int .u8 0,.int .u8 0,.int .u8 0,.int .u8 0,.int .u8 0,.int .u8 0,.int .u8 0,.int .u8 0,.int .u8 0,.int .u8 0,.slice none 0 0,.string ⟨#[]⟩],fun w => by kernel_rfl,fun w => run_build w 103 #[] _ (by kernel_rfl),cmZ_list⟩
theorem id_zero:∃ (zs:Array Value) (i0:TypeInfo),Tryz.prog.info? 27 = some i0 ∧ i0.zero = some (.agg zs) ∧ i0.size = 32 ∧ i0.bytes = 32 ∧ (∀ w,(zeroValue 27).run Tryz.prog w = .ok (.agg zs) w) ∧ zs.size = 32:=by
 have h:(Tryz.prog.info? 27).map (fun i => (i.zero,i.size,i.bytes)) = some (some (.agg #[.int .u8 0,.int .u8 0,.int .u8 0,.int .u8 0,.int .u8 0,.int .u8 0,.int .u8 0,.int .u8 0,.int .u8 0,.int .u8 0,.int .u8 0,.int .u8 0,.int .u8 0,.int .u8 0,.int .u8 0,.int .u8 0,.int .u8 0,.int .u8 0,.int .u8 0,.int .u8 0,.int .u8 0,.int .u8 0,.int .u8 0,.int .u8 0,.int .u8 0,.int .u8 0,.int .u8 0,.int .u8 0,.int .u8 0,.int .u8 0,.int .u8 0,.int .u8 0]),32,32):=by kernel_rfl
 obtain ⟨i0,hi,hz0,hz1,hz2⟩:=info_parts h
 exact ⟨#[.int .u8 0,.int .u8 0,.int .u8 0,.int .u8 0,.int .u8 0,.int .u8 0,.int .u8 0,.int .u8 0,.int .u8 0,.int .u8 0,.int .u8 0,.int .u8 0,.int .u8 0,.int .u8 0,.int .u8 0,.int .u8 0,.int .u8 0,.int .u8 0,.int .u8 0,.int .u8 0,.int .u8 0,.int .u8 0,.int .u8 0,.int .u8 0,.int .u8 0,.int .u8 0,.int .u8 0,.int .u8 0,.int .u8 0,.int .u8 0,.int .u8 0,.int .u8 0],i0,hi,hz0,hz1,hz2,fun w => by kernel_rfl,rfl⟩
def cmF (t:List UInt8) (v:Value) (x:ByteArray) (k:Nat):Value:=(cmC t v x).getD k undef
theorem cmF_lo {t:List UInt8} (h:t.length = 32) (v:Value) (x:ByteArray) {k:Nat} (hk:k < 32):cmF t v x k = (idC t).getD k undef:=by
 unfold cmF cmC
 rw [List.getD_eq_getElem?_getD,List.getD_eq_getElem?_getD,List.getElem?_append_left (by rw [idC_len,h];exact hk)]
theorem cmF_32 {t:List UInt8} (h:t.length = 32) (v:Value) (x:ByteArray):cmF t v x 32 = v:=by
 unfold cmF cmC
 rw [List.getD_eq_getElem?_getD,List.getElem?_append_right (by rw [idC_len,h];exact Nat.le_refl _),idC_len,h];rfl
theorem cmF_33 {t:List UInt8} (h:t.length = 32) (v:Value) (x:ByteArray):cmF t v x 33 = .string x:=by
 unfold cmF cmC
 rw [List.getD_eq_getElem?_getD,List.getElem?_append_right (by rw [idC_len,h];omega),idC_len,h];rfl
theorem cmF_v {t:List UInt8} (h:t.length = 32) (v u:Value) (x:ByteArray):∀ k,k < 34 → upd (cmF t v x) 32 u k = cmF t u x k:=by
 intro k hk
 unfold upd
 by_cases e:k = 32
 ·subst e;rw [if_pos rfl,cmF_32 h]
 ·rw [if_neg e]
  by_cases hl:k < 32
  ·rw [cmF_lo h _ _ hl,cmF_lo h _ _ hl]
  ·obtain rfl:k = 33:=by omega
   rw [cmF_33 h,cmF_33 h]
theorem cmF_x {t:List UInt8} (h:t.length = 32) (v:Value) (x y:ByteArray):∀ k,k < 34 → upd (cmF t v x) 33 (.string y) k = cmF t v y k:=by
 intro k hk
 unfold upd
 by_cases e:k = 33
 ·subst e;rw [if_pos rfl,cmF_33 h]
 ·rw [if_neg e]
  by_cases hl:k < 32
  ·rw [cmF_lo h _ _ hl,cmF_lo h _ _ hl]
  ·obtain rfl:k = 32:=by omega
   rw [cmF_32 h,cmF_32 h]
theorem cmF_t {t d:List UInt8} (h:t.length = 32) (hd:d.length = 32) (v:Value) (x:ByteArray):∀ k,k < 34 → (if 0 ≤ k ∧ k < 0 + (idC d).length then (idC d).getD (k - 0) undef else cmF t v x k) = cmF d v x k:=by
 intro k hk
 have hl:(idC d).length = 32:=by rw [idC_len,hd]
 rw [hl]
 by_cases hlo:k < 32
 ·rw [if_pos ⟨by omega,by omega⟩,cmF_lo hd _ _ hlo,Nat.sub_zero]
 ·rw [if_neg (by omega)]
  obtain e | e:k = 32 ∨ k = 33:=by omega
  ·subst e;rw [cmF_32 h,cmF_32 hd]
  ·subst e;rw [cmF_33 h,cmF_33 hd]
theorem cmF_list {t:List UInt8} (h:t.length = 32) (v:Value) (x:ByteArray):(List.range 34).map (cmF t v x) = cmC t v x:=by
 have hl:(cmC t v x).length = 34:=cmC_len t v x h
 apply List.ext_getElem
 ·simp [hl]
 ·intro i h1 h2
  simp [cmF,h2]
theorem cmF_arr (w:World) {t:List UInt8} (h:t.length = 32) (v:Value) (x:ByteArray) (e:TypeId):Arr (w.alloc (.cells (cmC t v x).toArray e)) w.heap.size 34 (cmF t v x):=by
 have:=Arr.ofList w (cmC t v x) e
 rw [cmC_len t v x h] at this
 exact this
theorem cmC_one (t:List UInt8) (a:Option Addr) (n c:Nat) (x:ByteArray):∀ v ∈ cmC t (.slice a n c) x,v.oneCell' = true:=by
 intro v hv
 unfold cmC at hv
 rcases List.mem_append.1 hv with h | h
 ·exact idC_one _ v h
 ·simp at h;rcases h with rfl | rfl <;> rfl
theorem cell_alloc_old (w:World) (o:Obj) (p:Addr) (h:p.block < w.heap.size):(w.alloc o).cell? p = w.cell? p:=World.cell?_alloc_lt _ _ _ h
def idsF (l:List (List UInt8)):List Value:=(l.map idC).flatten
theorem idsF_snoc (l:List (List UInt8)) (x:List UInt8):idsF (l ++ [x]) = idsF l ++ idC x:=by simp [idsF]
set_option maxRecDepth 100000 in
set_option maxHeartbeats 4000000 in
theorem rcommit_fc (s:ByteArray) (w:World) (hs:s.size ≤ 100000) :
  Calls Tryz.prog 44 #[.string s] w fun e w' => ∃ v,e = .returned (.tuple #[.agg (cmC ((commitOf s).getD (zid,[],⟨#[]⟩)).1 v ((commitOf s).getD (zid,[],⟨#[]⟩)).2.2).toArray,.bool (commitOf s).isSome]) ∧ IdRow w' v ((commitOf s).getD (zid,[],⟨#[]⟩)).2.1 ∧ (∀ g,v.ownBlock = some g → w.heap.size ≤ g) ∧ (∀ ao n c,v = .slice ao n c → n ≤ c) ∧ Below w.heap.size w w':=by
 obtain ⟨zs,hzv,hbu,hzs⟩:=cm_zero
 obtain ⟨zi,i0,hi,hz0,hz1,hz2,hziv,hzil⟩:=id_zero
 have HZI:=Lib.hid hzil
 clear hzil
 have hA0:Arr (w.alloc (.cells zs 103)) w.heap.size 34 (cmF zid (.slice none 0 0) ⟨#[]⟩):=by rw [hzs];exact cmF_arr w zid_len _ _ _
 have hA1:=rd0_arr (w.alloc (.cells zs 103)) s 150
 rw [World.size_alloc] at hA1
 have hA2:Arr (((w.alloc (.cells zs 103)).alloc (.cells #[.string s,.int .i64 0,.int .i64 0] 150)).alloc (.cells zs 103)) (w.heap.size + 1 + 1) 34 (cmF zid (.slice none 0 0) ⟨#[]⟩):=by
  have:=cmF_arr ((w.alloc (.cells zs 103)).alloc (.cells #[.string s,.int .i64 0,.int .i64 0] 150)) zid_len (.slice none 0 0) ⟨#[]⟩ 103
  rw [World.size_alloc,World.size_alloc,← hzs] at this
  exact this
 have hzl:zs.size = 34:=by rw [hzs,List.size_toArray,cmC_len _ _ _ zid_len]
 have hzt:zs.toList = cmC zid (.slice none 0 0) ⟨#[]⟩:=by rw [hzs]
 have HON:Hid (zs.all (·.oneCell') = true):=by unfold Hid;rw [hzs];exact all_oneCell_toArray (cmC_one _ _ _ _ _)
 have h34:(Tryz.prog.info? 103).map (·.size) = some 34:=by kernel_rfl
 have HA0:=Lib.hid hA0
 have HA1:=Lib.hid hA1
 have HA2:=Lib.hid hA2
 have HZL:=Lib.hid hzl
 have HZT:=Lib.hid hzt
 clear hA0 hA1 hA2 hzl hzt hzs
 go_enter Tryz.func44,Tryz.ntmps44
 go_wp2_with (refine wpList_store_mid rfl 103 _ _ rfl (w.heap.size + 1 + 1) 0 zs rfl rfl ?g1 ?g2 ?g3 ?_)
 case g1 => rw [HZL.out];exact HA2.out.there
 case g2 => rw [HZL.out];exact h34
 case g3 => exact HON.out
 generalize hW:(((w.alloc (.cells zs 103)).alloc _).alloc _).setCells _ _ _ = W
 have hb2:Below w.heap.size w W:=by
  rw [← hW]
  exact below_setCells _ (by omega) _ _ _ ((((Below.refl _ _).alloc (Nat.le_refl _) _).alloc (by simp) _).alloc (by simp;omega) _)
 have hR:Arr W w.heap.size 34 (cmF zid (.slice none 0 0) ⟨#[]⟩):=by
  rw [← hW];exact ((HA0.out.alloc (by omega) _).alloc (by omega) _).farSets (by omega) _ _
 have hB:Arr W (w.heap.size + 1) 3 (rd0 s).c:=by
  rw [← hW];exact (HA1.out.alloc (by omega) _).farSets (by omega) _ _
 have hC:Arr W (w.heap.size + 1 + 1) 34 (cmF zid (.slice none 0 0) ⟨#[]⟩):=by
  rw [← hW]
  exact (HA2.out.setCells 0 zs.toList (by rw [Array.length_toList,HZL.out];exact Nat.le_refl _)).congr fun k hk => by
   rw [Array.length_toList,HZL.out,if_pos ⟨by omega,by omega⟩,HZT.out];rfl
 have hszW:w.heap.size + 1 + 1 < W.heap.size:=hC.lt (by omega)
 have HB2:=Lib.hid hb2
 have HR:=Lib.hid hR
 clear hW HA0 HA1 HA2 hb2 hR
 have hfd:=Lib.hid (rd0_fine s (show s.size ≤ 1000000 by omega))
 have HID:=Lib.hid (rid_any (w.heap.size + 1) (rd0 s) W hB hfd.out)
 have hf0:=Lib.hid ((rd0 s).id_fine hfd.out)
 have HTL:Hid ((rd0 s).id.2.length = 32):=Lib.hid (idOf_len _)
 have HCM:Hid ((rd0 s).commit = ((((((rd0 s).id.1.num 4).1.ids ((rd0 s).id.1.num 4).2).1.text 64).1,(rd0 s).id.2,(((rd0 s).id.1.num 4).1.ids ((rd0 s).id.1.num 4).2).2,((((rd0 s).id.1.num 4).1.ids ((rd0 s).id.1.num 4).2).1.text 64).2))):=Lib.hid rfl
 have HCO:Hid (commitOf s = if (rd0 s).commit.1.fin = 0 ∧ commitOk (rd0 s).commit.2 = true then some (rd0 s).commit.2 else none):=Lib.hid rfl
 have HCC:=Lib.hid (commitOf_canon s (by omega))
 have HCF:=Lib.hid ((rd0 s).commit_fine hfd.out)
 generalize (rd0 s).commit = cm at HCM HCO HCC HCF
 generalize (rd0 s).id = x0 at HID hf0 HTL HCM
 obtain ⟨r0,t⟩:=x0
 dsimp only at HID hf0 HTL HCM
 have HC:=Lib.hid hC
 clear hB hC
 refine HID.out.mono ?_
 rintro e w1 ⟨rfl,hB1,hg1⟩
 have hdl:(idC t).length = 32:=by rw [idC_len,HTL.out]
 have hR1:=HR.out.grown hg1 (by omega)
 have hC1:=HC.out.grown hg1 (by omega)
 have hth:w1.there (w.heap.size + 1 + 1) 0 32:=fun j hj => ⟨by rw [hC1.cell _ (by omega)];rfl,hC1.free _ (by omega)⟩
 have HTH:=Lib.hid hth
 have HB1:=Lib.hid (hB1.farSets (B:=w.heap.size + 1 + 1) (by omega) (idC t) 0)
 have HR1:=Lib.hid (hR1.farSets (B:=w.heap.size + 1 + 1) (by omega) (idC t) 0)
 have HC1:=Lib.hid ((hC1.setCells 0 (idC t) (by omega)).congr (cmF_t zid_len HTL.out _ _))
 have HBL1:=Lib.hid (below_setCells (B:=w.heap.size) (a:=w) (w.heap.size + 1 + 1) (by omega) (idC t) 0 w1 (HB2.out.grown hg1 (by have:=HB2.out.size;omega) (fun k hk => by cases hk;omega)))
 have HDL:=Lib.hid hdl
 have HDO:=Lib.hid (idC_one t)
 have h32:(Tryz.prog.info? 27).map (·.size) = some 32:=by kernel_rfl
 clear hB1 hR1 hC1 hg1 hth hdl HR HC HB2 HID
 have hdv:idV t = .agg (idC t).toArray:=rfl
 rw [hdv]
 clear hdv
 generalize hus:idC t = us at HB1 HR1 HC1 HBL1 HDL HDO
 have HUS:=Lib.hid hus
 clear hus
 go_wp2_with (first | (refine wpList_store_list rfl 27 _ _ rfl (w.heap.size + 1 + 1) 0 us ?y1 ?y2 32 HDL.out ?y4 h32 HDO.out ?_) | fail)
 try case y1 => rfl
 try case y2 => rfl
 try case y4 => exact HTH.out
 have HNU:=Lib.hid (rnum_any (w.heap.size + 1) r0 4 (w1.setCells (w.heap.size + 1 + 1) 0 us) HB1.out hf0.out (by omega))
 have hnf:=Lib.hid (Rd.num_fine r0 4 hf0.out)
 generalize r0.num 4 = x1 at HNU hnf HCM
 obtain ⟨r1,n⟩:=x1
 dsimp only at HNU hnf HCM
 have hn4:n ≤ 4:=hnf.out.2
 have hf1:=Lib.hid hnf.out.1
 refine HNU.out.mono ?_
 rintro e w2 ⟨rfl,hB2,hg2⟩
 have HB2:=Lib.hid hB2
 have HR2:=Lib.hid (HR1.out.grown hg2 (by omega))
 have HC2:=Lib.hid (HC1.out.grown hg2 (by omega))
 have HBL2:=Lib.hid (HBL1.out.grown hg2 (by have:=HBL1.out.size;omega) (fun k hk => by cases hk;omega))
 clear hB2 hg2 HB1 HR1 HC1 HBL1 HNU hnf HTH
 go_wp2
 have HL:Hid (∀ k,((r1.ids k).2).length = k):=Lib.hid (fun k => Rd.ids_len k r1)
 go_loopw [7] (fun i wr => ∃ (k:Nat) (v:Value),k ≤ n ∧ i = .int .i64 k ∧ Arr wr (w.heap.size + 1) 3 (r1.ids k).1.c ∧ Arr wr (w.heap.size + 1 + 1) 34 (cmF t v ⟨#[]⟩) ∧ wr.ownsRow (w.heap.size + 1 + 1 + 1) 27 32 v k (idsF (r1.ids k).2) ∧ Arr wr w.heap.size 34 (cmF zid (.slice none 0 0) ⟨#[]⟩) ∧ Below w.heap.size w wr) (fun i _ => (n - intOf i).toNat)
 case atStart => exact ⟨0,.slice none 0 0,by omega,rfl,HB2.out,HC2.out,World.ownsRow_nil _ _ _ _,HR2.out,HBL2.out⟩
 case round =>
  obtain ⟨wo,rfl⟩:∃ wo:World,wo = wr:=⟨_,rfl⟩
  obtain ⟨k,v,hk,rfl,hB,hC,hown,hR,hb⟩:=hrel
  obtain ⟨co,cc,rfl⟩:=own_form hown
  have hCl:=hC.lt (by omega)
  by_cases hlt:k < n
  ·have d1:decide ((k:Int) < n) = true:=decide_eq_true (by omega)
   have d2:decide (k < n) = true:=decide_eq_true hlt
   have hS0:wo.drew.cell? ⟨w.heap.size + 1 + 1,32,none⟩ = some (.slice co k cc):=by
    show wo.cell? ⟨w.heap.size + 1 + 1,32,none⟩ = _
    rw [hC.cell 32 (by omega),cmF_32 HTL.out]
   have HI:=Lib.hid (rid_any (w.heap.size + 1) (r1.ids k).1 wo.drew ⟨hB.cell,hB.free⟩ (Rd.ids_fine k r1 hf1.out))
   have HSN:=Lib.hid (Rd.ids_snoc k r1)
   have hbd:Below wo.heap.size wo wo.drew:=(Below.refl _ _).drew
   have HCD:=Lib.hid (hC.below hbd hCl)
   have HRD:=Lib.hid (hR.below hbd (by omega))
   have HOD:=Lib.hid (own_below hown hbd)
   have HBD:=Lib.hid (hb.trans (hbd.mono hb.size))
   clear hB hC hR hown hb hbd
   go_wp2
   refine wp_region_L 7 (fun w' => w'.cell? ⟨w.heap.size + 1 + 1,32,none⟩ = some (.slice co k cc)) (by kernel_rfl) (by kernel_rfl) ?_
   refine WL.take (i:=0) (v:=?_) rfl (by kernel_rfl) (by decide) (by decide +kernel) (by decide +kernel) (fun _ _ _ h => h) rfl ?_ hS0 ?_
   rotate_left
   ·(intro w' hSw;(try dsimp only at hSw);go_simp;(try with_reducible rfl))
   simp only [Act.put];(try simp only [List.getElem_toArray]);(try simp only [List.getElem_cons_succ]);(try simp only [List.getElem_cons_zero]);(try simp only [List.setIfInBounds_toArray]);(try simp only [List.set_cons_succ]);(try simp only [List.set_cons_zero])
   refine WL.take (i:=1) (v:=?_) rfl (by kernel_rfl) (by decide) (by decide +kernel) (by decide +kernel) (fun _ _ _ h => h) rfl ?_ hS0 ?_
   rotate_left
   ·(intro w' hSw;(try dsimp only at hSw);go_simp;(try with_reducible rfl))
   simp only [Act.put];(try simp only [List.getElem_toArray]);(try simp only [List.getElem_cons_succ]);(try simp only [List.getElem_cons_zero]);(try simp only [List.setIfInBounds_toArray]);(try simp only [List.set_cons_succ]);(try simp only [List.set_cons_zero])
   refine WL.take (i:=2) (v:=?_) rfl (by kernel_rfl) (by decide) (by decide +kernel) (by decide +kernel) (fun _ _ _ h => h) rfl ?_ hS0 ?_
   rotate_left
   ·(intro w' hSw;(try dsimp only at hSw);go_simp;(try with_reducible rfl))
   simp only [Act.put];(try simp only [List.getElem_toArray]);(try simp only [List.getElem_cons_succ]);(try simp only [List.getElem_cons_zero]);(try simp only [List.setIfInBounds_toArray]);(try simp only [List.set_cons_succ]);(try simp only [List.set_cons_zero])
   refine WL.one (i:=3) rfl (by decide) (by decide +kernel) ?_
   go_wp2_with fail
   refine HI.out.mono ?_
   rintro e w3 ⟨rfl,hB3,hg3⟩
   have hC3:=HCD.out.grown hg3 (by omega)
   have hS3:w3.cell? ⟨w.heap.size + 1 + 1,32,none⟩ = some (.slice co k cc):=by rw [hC3.cell 32 (by omega),cmF_32 HTL.out]
   have hdk:(idC (r1.ids k).1.id.2).length = 32:=by rw [idC_len];exact idOf_len _
   have hone:=idC_one (r1.ids k).1.id.2
   have hdv:idV (r1.ids k).1.id.2 = .agg (idC (r1.ids k).1.id.2).toArray:=rfl
   rw [hdv]
   clear hdv
   have HUK:Hid (idsF (r1.ids (k + 1)).2 = idsF (r1.ids k).2 ++ idC (r1.ids k).1.id.2):=by unfold Hid;rw [HSN.out];exact idsF_snoc _ _
   have HRK:Hid ((r1.ids (k + 1)).1 = (r1.ids k).1.id.1):=by unfold Hid;rw [HSN.out]
   have HO3:=Lib.hid (own_grown HOD.out hg3 (by omega))
   have HC3:=Lib.hid hC3
   have HB3:=Lib.hid hB3
   have HR3:=Lib.hid (HRD.out.grown hg3 (by omega))
   have HBL3:=Lib.hid (HBD.out.grown hg3 (by have:=HBD.out.size;omega) (fun k hk => by cases hk;omega))
   have HSZ3:=Lib.hid (show w.heap.size + 1 + 1 < w3.heap.size from hC3.lt (by omega))
   have HS3:=Lib.hid hS3
   clear hC3 hB3 hg3 hS3 HI HSN HCD HRD HOD HBD
   generalize idC (r1.ids k).1.id.2 = uk at hdk hone HUK
   have HDK:=Lib.hid hdk
   have HON2:=Lib.hid hone
   have HSZC:Hid (∀ w,(sizeOf 27).run Tryz.prog w = .ok uk.length w):=Lib.hid (fun w => by rw [HDK.out];kernel_rfl)
   clear hdk hone
   go_wp2
   refine ⟨HS3.out,?_⟩
   refine WL.one (i:=4) rfl (by decide) (by decide +kernel) ?_
   refine wpList_buildSlice_one rfl (.tmp 25) 53 27 rfl uk zi rfl Tryz.underlying53 HSZC.out hziv (by rw [HDK.out];omega) (by rw [HDK.out];omega) ?_
   simp only [Act.put]
   refine ⟨(cell_alloc_old w3 _ _ HSZ3.out).trans HS3.out,?_⟩
   refine WL.one (i:=5) rfl (by decide) (by decide +kernel) ?_
   refine wpList_append_own _ rfl (.tmp 23) (.tmp 26) 53 rfl (w.heap.size + 1 + 1 + 1) 27 i0 (.agg zi) 32 32 Tryz.underlying53 hi hz0 hz1 hz2 HZI.out (by decide) _ k (idsF (r1.ids k).2) rfl (HO3.out.alloc _) ⟨w3.heap.size,0,none⟩ 1 1 uk rfl HDK.out (fun j u hj => cells_newL _ uk _ j u hj) HON2.out (by unfold maxLen;omega) (by omega) (by rw [World.size_alloc];have:=HSZ3.out;omega) ?_
   intro v' w5 hown5 hg5 _
   obtain ⟨co5,cc5,rfl⟩:=own_form hown5
   have hne5:(Value.slice co k cc).ownBlock ≠ some (w.heap.size + 1 + 1):=fun e => by have:=(HO3.out.lt _ e).1;omega
   have hC5:=(HC3.out.alloc (by omega) (.cells uk.toArray 27)).grownV hg5 hne5
   have hB5:=(HB3.out.alloc (by omega) (.cells uk.toArray 27)).grownV hg5 (fun e => by have:=(HO3.out.lt _ e).1;omega)
   have hR5:=(HR3.out.alloc (by omega) (.cells uk.toArray 27)).grownV hg5 (fun e => by have:=(HO3.out.lt _ e).1;omega)
   have hbl5:=(HBL3.out.alloc HBL3.out.size (.cells uk.toArray 27)).grown hg5 (by rw [World.size_alloc];have:=HBL3.out.size;omega) (fun j hj => by have:=(HO3.out.lt j hj).1;omega)
   have c5:=hC5.cell 32 (by omega)
   rw [cmF_32 HTL.out] at c5
   have f5:=hC5.free 32 (by omega)
   have HC5:=Lib.hid hC5
   have HB5:=Lib.hid hB5
   have HR5:=Lib.hid hR5
   have HBL5:=Lib.hid hbl5
   have HO5:=Lib.hid hown5
   have HNE5:=Lib.hid (own_ne hown5 (show w.heap.size + 1 + 1 < w.heap.size + 1 + 1 + 1 by omega))
   clear hC5 hB5 hR5 hbl5 hown5 hg5 hne5
   simp only [Act.put]
   refine ⟨c5,?_⟩
   refine WL.one (i:=6) rfl (by decide) (by decide +kernel) ?_
   go_wp2
   refine ⟨c5,?_⟩
   refine WL.last (n:=7) rfl rfl (by decide +kernel) (by decide +kernel) ?_
   go_wp2
   go_roundw
   case rel =>
    refine ⟨k + 1,.slice co5 (k + 1) cc5,by omega,by go_num,?_,?_,?_,HR5.out.far (by show w.heap.size + 1 + 1 ≠ w.heap.size;omega) _,HBL5.out.setCell (by show w.heap.size ≤ w.heap.size + 1 + 1;omega) _⟩
    ·rw [HRK.out];exact HB5.out.far (by show w.heap.size + 1 + 1 ≠ w.heap.size + 1;omega) _
    ·exact (HC5.out.set 32 (by omega) _).congr (cmF_v HTL.out _ _ _)
    ·rw [HUK.out];exact own_set HO5.out HNE5.out
   case measure => simp [intOf];omega
  ·obtain rfl:k = n:=by omega
   have hft:=Lib.hid (Rd.text_fine _ 64 (Rd.ids_fine k r1 hf1.out))
   have HT:=Lib.hid (rtext_any (w.heap.size + 1) (r1.ids k).1 64 wo hB (Rd.ids_fine k r1 hf1.out) (by omega))
   have hidl:=Lib.hid (Rd.ids_all k r1)
   have hil:=HL.out k
   generalize hir:r1.ids k = x2 at HT HCM hft hown hidl hil
   obtain ⟨r2,l⟩:=x2
   dsimp only at HT HCM hft hown hidl hil
   clear hB hir
   generalize r2.text 64 = x3 at HT HCM hft
   obtain ⟨r3,x⟩:=x3
   dsimp only at HT HCM hft
   obtain rfl:cm = (r3,t,l,x):=HCM.out
   dsimp only at HCO HCC HCF
   clear HCM hft
   have HR:=Lib.hid hR
   have HC:=Lib.hid hC
   have HO:=Lib.hid hown
   have HB:=Lib.hid hb
   have HIL:=Lib.hid hil
   clear hR hC hown hb hil
   go_wp2_with fail
   refine HT.out.mono ?_
   rintro e w3 ⟨rfl,hB3,hg3⟩
   have hC3:=HC.out.grown hg3 (by omega)
   have c33:=hC3.cell 33 (by omega)
   have f33:=hC3.free 33 (by omega)
   have hC4:=(hC3.set 33 (by omega) (.string x)).congr (cmF_x HTL.out _ _ x)
   have HB4:=Lib.hid (hB3.far (p:=⟨w.heap.size + 1 + 1,33,none⟩) (by show w.heap.size + 1 + 1 ≠ w.heap.size + 1;omega) (.string x))
   have HR4:=Lib.hid ((HR.out.grown hg3 (by omega)).far (p:=⟨w.heap.size + 1 + 1,33,none⟩) (by show w.heap.size + 1 + 1 ≠ w.heap.size;omega) (.string x))
   have HO4:=Lib.hid (own_set (o:=33) (u:=.string x) (own_grown HO.out hg3 (by omega)) (own_ne (own_grown HO.out hg3 (by omega)) (show w.heap.size + 1 + 1 < w.heap.size + 1 + 1 + 1 by omega)))
   have HBL4:=Lib.hid ((HB.out.grown hg3 (by have:=HB.out.size;omega) (fun k hk => by cases hk;omega)).setCell (p:=⟨w.heap.size + 1 + 1,33,none⟩) (by show w.heap.size ≤ w.heap.size + 1 + 1;omega) (.string x))
   have HC4:=Lib.hid hC4
   have HEND:=Lib.hid (fun W hA => rend_any (w.heap.size + 1) r3 W hA HCF.out)
   clear hB3 hC3 hC4 hg3 HR HC HO HB HT
   go_wp2_with fail
   generalize hW4:w3.setCell _ _ = W4
   rw [hW4] at HB4 HR4 HO4 HBL4 HC4
   clear hW4 c33 f33
   have hlenC:(cmC t (.slice co k cc) x).length = 34:=cmC_len _ _ _ HTL.out
   have hrg:=HC4.out.range
   rw [cmF_list HTL.out] at hrg
   have h34c:(Tryz.prog.info? 103).map (·.size) = some (cmC t (.slice co k cc) x).length:=by rw [hlenC];exact h34
   have hzlen:(cmC zid (.slice none 0 0) ⟨#[]⟩).length = 34:=cmC_len _ _ _ zid_len
   have h34z:(Tryz.prog.info? 103).map (·.size) = some (cmC zid (.slice none 0 0) ⟨#[]⟩).length:=by rw [hzlen];exact h34
   have HROW:Hid (∀ W,Below W4.heap.size W4 W → IdRow W (.slice co k cc) l):=Lib.hid (fun W hb' => (RowOf.of_own (B:=w.heap.size + 1 + 1 + 1) (e:=27) (sz:=32) (rows:=l.map idC) (fun r hr => by
    obtain ⟨y,hy,rfl⟩:=List.mem_map.1 hr
    rw [idC_len];exact hidl.out y hy) (by rw [List.length_map,HIL.out];exact HO4.out)).below hb')
   have HRG:=Lib.hid hrg
   have HLR:=Lib.hid (HR4.out.lt (show 0 < 34 by omega))
   have HLC:=Lib.hid (HC4.out.lt (show 0 < 34 by omega))
   have hl4:l.length ≤ 4:=by rw [HIL.out];omega
   -- none: the zero commit
   have HNO:Hid (∀ (W:World),Below W4.heap.size W4 W → W.there w.heap.size 0 34 ∧ (W.setCells w.heap.size 0 zs.toList).rangeAt w.heap.size 0 (cmC zid (.slice none 0 0) ⟨#[]⟩) ∧ Below w.heap.size w (W.setCells w.heap.size 0 zs.toList)):=Lib.hid (fun W hb' => by
    have hr:=HR4.out.below hb' HLR.out
    refine ⟨hr.there,?_,below_setCells _ (Nat.le_refl _) _ _ _ (HBL4.out.trans (hb'.mono HBL4.out.size))⟩
    rw [HZT.out]
    exact World.rangeAt_setCells_same W w.heap.size 0 _ (by rw [hzlen];exact hr.there))
   clear hrg hlenC hzlen
   by_cases hfin:r3.fin = 0
   ·rw [hfin] at HEND
    have HCR:=Lib.hid (fun W (hb':Below W4.heap.size W4 W) => rcommitright_any t (.slice co k cc) l x W (HROW.out W hb') HTL.out hidl.out (by omega))
    cases hok:commitOk (t,l,x) with
    | false =>
     have HRES:Hid (commitOf s = none):=by unfold Hid;rw [HCO.out,if_neg (by rw [hok];simp)]
     rw [hok] at HCR
     clear hok hfin
     refine (HEND.out W4 HB4.out).mono ?_
     rintro e w4 ⟨rfl,hb4⟩
     have HB5:=Lib.hid hb4
     have HRG5:=Lib.hid (rangeAt_below HRG.out hb4 HLC.out)
     clear hb4
     go_wp2_with (refine wpList_load_mid_g rfl 103 _ rfl (w.heap.size + 1 + 1) 0 rfl _ _ HRG5.out Tryz.underlying103 rfl h34c ?_)
     refine (HCR.out _ HB5.out).mono ?_
     rintro e w5 ⟨rfl,hb5⟩
     have HB6:=Lib.hid (HB5.out.trans (hb5.mono HB5.out.size))
     clear hb5
     go_wp2_with (refine wpList_store_mid rfl 103 _ _ rfl w.heap.size 0 zs rfl rfl ?k1 ?k2 ?k3 ?_)
     case k1 => rw [HZL.out];exact (HNO.out _ HB6.out).1
     case k2 => rw [HZL.out];exact h34
     case k3 => exact HON.out
     refine ret_cell2 rfl w.heap.size 0 rfl _ _ (HNO.out _ HB6.out).2.1 Tryz.underlying103 rfl h34z rfl _ rfl ⟨.slice none 0 0,?_,?_,fun g hg => (by cases hg),fun _ _ _ e => (by cases e;exact Nat.le_refl _),(HNO.out _ HB6.out).2.2⟩
     ·rw [HRES.out];rfl
     ·rw [HRES.out];exact ⟨none,0,rfl,by simp,fun h => absurd rfl h⟩
    | true =>
     have HRES:Hid (commitOf s = some (t,l,x)):=by unfold Hid;rw [HCO.out,if_pos ⟨hfin,hok⟩]
     have hx64:x.size ≤ 64:=by
      unfold commitOk at hok
      simp only [Bool.and_eq_true,decide_eq_true_eq] at hok
      exact hok.2.2
     have hcb:=HCC.out hfin
     have HBD:Hid (∀ W,Below W4.heap.size W4 W → Calls Tryz.prog 82 #[.agg (cmC t (.slice co k cc) x).toArray] W fun e w' => e = .returned (.string s) ∧ Below W.heap.size W w'):=Lib.hid (fun W hb' => by
      have:=rcommitbody_any t (.slice co k cc) l x W (HROW.out W hb') HTL.out hidl.out (by omega) (by omega)
      rw [hcb,ofB_of] at this
      exact this)
     rw [hok] at HCR
     clear hok hfin hcb
     refine (HEND.out W4 HB4.out).mono ?_
     rintro e w4 ⟨rfl,hb4⟩
     have HB5:=Lib.hid hb4
     have HRG5:=Lib.hid (rangeAt_below HRG.out hb4 HLC.out)
     clear hb4
     go_wp2_with (refine wpList_load_mid_g rfl 103 _ rfl (w.heap.size + 1 + 1) 0 rfl _ _ HRG5.out Tryz.underlying103 rfl h34c ?_)
     refine (HCR.out _ HB5.out).mono ?_
     rintro e w5 ⟨rfl,hb5⟩
     have HB6:=Lib.hid (HB5.out.trans (hb5.mono HB5.out.size))
     have HRG6:=Lib.hid (rangeAt_below HRG.out HB6.out HLC.out)
     clear hb5
     go_wp2_with (refine wpList_load_mid_g rfl 103 _ rfl (w.heap.size + 1 + 1) 0 rfl _ _ HRG6.out Tryz.underlying103 rfl h34c ?_)
     refine (HBD.out _ HB6.out).mono ?_
     rintro e w6 ⟨rfl,hb6⟩
     have HB7:=Lib.hid (HB6.out.trans (hb6.mono HB6.out.size))
     have HRG7:=Lib.hid (rangeAt_below HRG.out HB7.out HLC.out)
     have HR7:=Lib.hid (HR4.out.below HB7.out HLR.out)
     have HBZ:=Lib.hid (below_setCells (B:=w.heap.size) (a:=w) w.heap.size (Nat.le_refl _) (cmC t (.slice co k cc) x) 0 w6 (HBL4.out.trans (HB7.out.mono HBL4.out.size)))
     have hl34:(cmC t (.slice co k cc) x).length = 34:=cmC_len _ _ _ HTL.out
     have HFR:=Lib.hid (World.rangeAt_setCells_same w6 w.heap.size 0 (cmC t (.slice co k cc) x) (by rw [hl34];exact HR7.out.there))
     have HON2:=Lib.hid (cmC_one t co k cc x)
     have HL34:=Lib.hid hl34
     clear hb6 hl34
     go_wp2_with (first | (refine wpList_load_mid rfl 103 _ rfl (w.heap.size + 1 + 1) 0 rfl _ _ HRG7.out Tryz.underlying103 rfl h34c ?_) | (refine wpList_store_list rfl 103 _ _ rfl w.heap.size 0 (cmC t (.slice co k cc) x) ?z1 ?z2 34 HL34.out ?z4 h34 HON2.out ?_))
     try case z1 => rfl
     try case z2 => rfl
     try case z4 => exact HR7.out.there
     try simp only [Act.put]
     have HRO:Hid (IdRow (w6.setCells w.heap.size 0 (cmC t (.slice co k cc) x)) (.slice co k cc) l):=Lib.hid (by
      have h:=HROW.out w6 HB7.out
      obtain ⟨ao,cap,e,hm,h2⟩:=h
      refine ⟨ao,cap,e,hm,fun hne => ?_⟩
      obtain ⟨b,off,e1,hbl,hc⟩:=h2 hne
      have hbk:b ≠ w.heap.size:=fun e2 => by
       injection e with q1 q2 q3
       have:=(HO4.out.lt b (by rw [← q1] at e1;rw [e1];rfl)).1
       omega
      refine ⟨b,off,e1,by have:=(grown_setCells (cmC t (.slice co k cc) x) 0 w6 (World.grownBy.refl w6 (some w.heap.size))).size;omega,fun i hi j u hu => ?_⟩
      rw [World.cell?_setCells_out w.heap.size _ 0 w6 ⟨b,_,none⟩ (fun e3 _ => absurd e3 hbk)]
      exact hc i hi j u hu)
     refine ret_cell2 rfl w.heap.size 0 rfl _ _ HFR.out Tryz.underlying103 rfl h34c rfl _ rfl ⟨.slice co k cc,?_,?_,fun g hg => (by have:=(HO4.out.lt g hg).1;omega),fun _ _ _ e => (by cases e;rcases HO4.out.2 with ⟨h1,h2⟩ | ⟨_,_,_,h1,_,_,h2,_⟩ <;> cases h1 <;> omega),HBZ.out⟩
     ·rw [HRES.out];rfl
     ·rw [HRES.out];exact HRO.out
   ·have HRES:Hid (commitOf s = none):=by unfold Hid;rw [HCO.out,if_neg (fun h => hfin h.1)]
    have d2:((r3.fin:Int) != 0) = true:=by rw [bne_iff_ne];omega
    clear hfin
    refine (HEND.out W4 HB4.out).mono ?_
    rintro e w4 ⟨rfl,hb4⟩
    have HB6:=Lib.hid hb4
    clear hb4
    go_wp2_with (refine wpList_store_mid rfl 103 _ _ rfl w.heap.size 0 zs rfl rfl ?n1 ?n2 ?n3 ?_)
    case n1 => rw [HZL.out];exact (HNO.out _ HB6.out).1
    case n2 => rw [HZL.out];exact h34
    case n3 => exact HON.out
    refine ret_cell2 rfl w.heap.size 0 rfl _ _ (HNO.out _ HB6.out).2.1 Tryz.underlying103 rfl h34z rfl _ rfl ⟨.slice none 0 0,?_,?_,fun g hg => (by cases hg),fun _ _ _ e => (by cases e;exact Nat.le_refl _),(HNO.out _ HB6.out).2.2⟩
    ·rw [HRES.out];rfl
    ·rw [HRES.out];exact ⟨none,0,rfl,by simp,fun h => absurd rfl h⟩
theorem rcommit_fr (s:ByteArray) (w:World) (hs:s.size ≤ 100000) :
  Calls Tryz.prog 44 #[.string s] w fun e w' => ∃ v,e = .returned (.tuple #[.agg (cmC ((commitOf s).getD (zid,[],⟨#[]⟩)).1 v ((commitOf s).getD (zid,[],⟨#[]⟩)).2.2).toArray,.bool (commitOf s).isSome]) ∧ IdRow w' v ((commitOf s).getD (zid,[],⟨#[]⟩)).2.1 ∧ (∀ g,v.ownBlock = some g → w.heap.size ≤ g) ∧ Below w.heap.size w w' :=
 (rcommit_fc s w hs).mono fun _ _ ⟨v,h1,h2,h3,_,h4⟩ => ⟨v,h1,h2,h3,h4⟩
theorem rcommit_any (s:ByteArray) (w:World) (hs:s.size ≤ 100000) :
  Calls Tryz.prog 44 #[.string s] w fun e w' => ∃ v,e = .returned (.tuple #[.agg (cmC ((commitOf s).getD (zid,[],⟨#[]⟩)).1 v ((commitOf s).getD (zid,[],⟨#[]⟩)).2.2).toArray,.bool (commitOf s).isSome]) ∧ IdRow w' v ((commitOf s).getD (zid,[],⟨#[]⟩)).2.1 ∧ Below w.heap.size w w' :=
 (rcommit_fr s w hs).mono fun _ _ ⟨v,h1,h2,_,h4⟩ => ⟨v,h1,h2,h4⟩
end Go.Proofs.YtmhjpmenngjmeaaGreatDoor
namespace Go.Proofs.YtmhjpmenngjmeaaGreatDoor
open Go.RowKit
theorem commitOf_len {s:ByteArray} {c:List UInt8 × List (List UInt8) × ByteArray} (h:commitOf s = some c):c.1.length = 32 ∧ (∀ x ∈ c.2.1,x.length = 32) ∧ c.2.1.length ≤ 4 ∧ c.2.2.size ≤ 64 ∧ c.2.1.Nodup:=by
 unfold commitOf at h
 split at h
 ·rename_i hc
  cases h
  obtain ⟨_,hok⟩:=hc
  unfold commitOk parsOk at hok
  simp only [Bool.and_eq_true,decide_eq_true_eq] at hok
  exact ⟨idOf_len _,Rd.ids_all _ _,hok.2.1,hok.2.2,hok.1⟩
 ·cases h
theorem commitG_len (s:ByteArray):((commitOf s).getD (zid,[],⟨#[]⟩)).1.length = 32:=by
 cases h:commitOf s with
 | none => exact zid_len
 | some c => exact (commitOf_len h).1
set_option maxRecDepth 100000 in
set_option maxHeartbeats 2000000 in
theorem rright_any (k:Int) (s:ByteArray) (w:World) :
  Calls Tryz.prog 20 #[.agg #[.int .i64 k,.string s]] w fun e w' => e = .returned (.bool (rightOb ⟨k,s⟩)) ∧ Below w.heap.size w w':=by
 have hb0:Below w.heap.size w (w.alloc (.cells #[.int .i64 k,.string s] 59)):=(Below.refl _ _).alloc (Nat.le_refl _) _
 have HB0:=Lib.hid hb0
 clear hb0
 by_cases h4:4096 < s.size
 ·have HR:Hid (rightOb ⟨k,s⟩ = false):=by unfold Hid rightOb;rw [decide_eq_false (show ¬ s.size ≤ 4096 by omega)];rfl
  have d1:decide ((4096:Int) < s.size) = true:=decide_eq_true (by omega)
  go_enter Tryz.func20,Tryz.ntmps20
  go_wp2_with fail
  go_ret
  exact ⟨ret_bool HR.out.symm,HB0.out⟩
 ·have d1:decide ((4096:Int) < s.size) = false:=decide_eq_false (by omega)
  have HR0:Hid (rightOb ⟨k,s⟩ = if k = 1 then true else if k = 2 then (treeOf s).isSome else if k = 3 then (commitOf s).isSome else false):=by
   unfold Hid rightOb;rw [decide_eq_true (show s.size ≤ 4096 by omega)];rfl
  by_cases h2:k = 2
  ·have d2:(k == 2) = true:=by rw [beq_iff_eq];exact h2
   have HR:Hid (rightOb ⟨k,s⟩ = (treeOf s).isSome):=by unfold Hid;rw [HR0.out,if_neg (by omega),if_pos h2]
   have HE:=Lib.hid (fun w => rentries_any s w (by omega))
   generalize (treeOf s).isSome = b at HR HE
   clear h2
   go_enter Tryz.func20,Tryz.ntmps20
   go_wp2_with fail
   refine (HE.out _).mono ?_
   rintro e w1 ⟨v,rfl,_,hb1⟩
   go_wp2
   go_ret
   exact ⟨ret_bool HR.out.symm,HB0.out.trans (hb1.mono HB0.out.size)⟩
  ·have d2:(k == 2) = false:=by rw [beq_eq_false_iff_ne];exact h2
   by_cases h3:k = 3
   ·have d3:(k == 3) = true:=by rw [beq_iff_eq];exact h3
    have HR:Hid (rightOb ⟨k,s⟩ = (commitOf s).isSome):=by unfold Hid;rw [HR0.out,if_neg (by omega),if_neg h2,if_pos h3]
    have HC:=Lib.hid (fun w => rcommit_any s w (by omega))
    have hG:=commitG_len s
    generalize (commitOf s).getD (zid,[],⟨#[]⟩) = c at HC hG
    generalize (commitOf s).isSome = b at HR HC
    have HG:=Lib.hid hG
    clear h2 h3 hG
    obtain ⟨zs,hzv,hbu,hzs⟩:=cm_zero
    have HZS:=Lib.hid hzs
    clear hzs
    have h34:(Tryz.prog.info? 103).map (·.size) = some 34:=by kernel_rfl
    go_enter Tryz.func20,Tryz.ntmps20
    go_wp2_with fail
    refine (HC.out _).mono ?_
    rintro e w1 ⟨v,rfl,hrow,hb1⟩
    obtain ⟨ao,cap,rfl,_⟩:=hrow
    generalize (c.2.1.map idC).length = n
    have hth:(w1.alloc (.cells zs 103)).there w1.heap.size 0 34:=by
     rw [HZS.out];exact (cmF_arr w1 zid_len _ _ _).there
    have HTH:=Lib.hid hth
    have HL:=Lib.hid (cmC_len c.1 (.slice ao n cap) c.2.2 HG.out)
    have HO:=Lib.hid (cmC_one c.1 ao n cap c.2.2)
    have HB1:=Lib.hid (below_setCells (B:=w.heap.size) (a:=w) w1.heap.size (by have:=HB0.out.size;have:=hb1.size;omega) (cmC c.1 (.slice ao n cap) c.2.2) 0 _ ((HB0.out.trans (hb1.mono HB0.out.size)).alloc (by have:=HB0.out.size;have:=hb1.size;omega) (.cells zs 103)))
    clear hth hb1
    generalize cmC c.1 (.slice ao n cap) c.2.2 = cs at HL HO HB1
    go_wp2_with (refine wpList_store_list rfl 103 _ _ rfl w1.heap.size 0 cs ?z1 ?z2 34 HL.out ?z4 h34 HO.out ?_)
    try case z1 => rfl
    try case z2 => rfl
    try case z4 => exact HTH.out
    try simp only [Act.put]
    go_wp2
    go_ret
    exact ⟨ret_bool HR.out.symm,HB1.out⟩
   ·have d3:(k == 3) = false:=by rw [beq_eq_false_iff_ne];exact h3
    have HR:Hid (rightOb ⟨k,s⟩ = (k == 1)):=by
     unfold Hid;rw [HR0.out,if_neg h2,if_neg h3]
     by_cases h1:k = 1
     ·rw [if_pos h1];exact (beq_iff_eq.2 h1).symm
     ·rw [if_neg h1];exact (beq_eq_false_iff_ne.2 h1).symm
    clear h2 h3
    go_enter Tryz.func20,Tryz.ntmps20
    go_wp2_with fail
    go_ret
    exact ⟨ret_bool HR.out.symm,HB0.out⟩
def ObRow (w:World) (v:Value) (l:List Ob):Prop:=RowOf w v 2 (l.map obC)
theorem ObRow.below {w w':World} {v:Value} {l:List Ob} (h:ObRow w v l) (hb:Below w.heap.size w w'):ObRow w' v l:=RowOf.below h hb
theorem ObRow.open {w:World} {v:Value} {l:List Ob} (h:ObRow w v l):∃ ao cap,v = .slice ao l.length cap ∧ l.length ≤ maxLen ∧ (l ≠ [] → ∃ b off,ao = some ⟨b,off,none⟩ ∧ b < w.heap.size ∧ ∀ k (hk:k < l.length),w.rangeAt b (off + k * 2) (obC l[k])):=by
 obtain ⟨ao,cap,rfl,hm,h⟩:=h
 rw [List.length_map] at hm ⊢
 refine ⟨ao,cap,rfl,hm,fun hne => ?_⟩
 obtain ⟨b,off,e,hl,hc⟩:=h (by simpa using hne)
 refine ⟨b,off,e,hl,fun k hk => ?_⟩
 have:=hc k (by simpa using hk)
 rw [List.getElem_map] at this
 exact this
end Go.Proofs.YtmhjpmenngjmeaaGreatDoor
namespace Go.Proofs.YtmhjpmenngjmeaaGreatDoor
open Go.RowKit
theorem ob_eqIn (a b:Int) (s t:ByteArray) (w:World):(Op.equalIn 10000 59 (.agg #[.int .i64 a,.string s]) (.agg #[.int .i64 b,.string t])).run Tryz.prog w = .ok (a == b && s.toList == t.toList) w:=by
 have u3:=Tryz.underlying3
 have u9:=Tryz.underlying9
 have a3:=Tryz.isAgg3
 have a9:=Tryz.isAgg9
 have z3:=Tryz.sizeOf3
 have z9:=Tryz.sizeOf9
 have hS:Tryz.prog.underlying 59 = some (.struct (Tryz.prog.fieldsOf 59)):=by kernel_rfl
 rw [show (10000:Nat) = 9999 + 1 from rfl,run_equalIn_agg w 9999 59 _ _ hS (by kernel_rfl)]
 simp only [Program.fieldsOf,Tryz.underlying59]
 go_simp
 by_cases h1:a = b <;> by_cases h2:s.toList = t.toList <;> simp [h1,h2]
theorem ob_eq_yes {a b:Ob} (h:obNe a b = false) (w:World):(Op.equalIn 10000 59 (.agg #[.int .i64 a.kind,.string a.body]) (.agg #[.int .i64 b.kind,.string b.body])).run Tryz.prog w = .ok true w:=by
 rw [obNe_no h,ob_eqIn];simp
theorem ob_eq_no {a b:Ob} (h:obNe a b = true) (w:World):(Op.equalIn 10000 59 (.agg #[.int .i64 a.kind,.string a.body]) (.agg #[.int .i64 b.kind,.string b.body])).run Tryz.prog w = .ok false w:=by
 rw [ob_eqIn,beq_data]
 unfold obNe at h
 simp only [Bool.not_eq_true',Bool.and_eq_false_iff,decide_eq_false_iff_not] at h
 congr 1
 rw [Bool.and_eq_false_iff]
 rcases h with h | h
 ·exact .inl (beq_eq_false_iff_ne.2 h)
 ·exact .inr (decide_eq_false fun e => h (ba_eq e))
theorem right_small {k:Int} {s:ByteArray} (h:rightOb ⟨k,s⟩ = true):s.size ≤ 4096:=by
 unfold rightOb at h
 simp only [Bool.and_eq_true,decide_eq_true_eq] at h
 exact h.1
def clashAt (l:List Ob) (i k:Nat):Bool:=match l[i]?,l[k]? with
 | some a,some b => obNe a b && rightOb a && rightOb b && decide (idO a = idO b)
 | _,_ => false
theorem clashAt_eq (l:List Ob) {i k:Nat} (hi:i < l.length) (hk:k < l.length):clashAt l i k = (obNe l[i] l[k] && rightOb l[i] && rightOb l[k] && decide (idO l[i] = idO l[k])):=by
 unfold clashAt;rw [List.getElem?_eq_getElem hi,List.getElem?_eq_getElem hk]
theorem clashB_eq (l:List Ob):clashB l = (List.range l.length).any fun i => (List.range i).any (clashAt l i):=rfl
theorem clash_found {l:List Ob} {i k:Nat} (hi:i < l.length) (hk:k < i) (h:clashAt l i k = true):clashB l = true:=by
 rw [clashB_eq,List.any_eq_true]
 refine ⟨i,List.mem_range.2 hi,?_⟩
 rw [List.any_eq_true]
 exact ⟨k,List.mem_range.2 hk,h⟩
theorem clash_none {l:List Ob} (h:∀ i,i < l.length → ∀ k,k < i → clashAt l i k = false):clashB l = false:=by
 rw [clashB_eq,List.any_eq_false]
 intro i hi
 have:=h i (List.mem_range.1 hi)
 simp only [Bool.not_eq_true,List.any_eq_false]
 intro k hk
 rw [this k (List.mem_range.1 hk)]
end Go.Proofs.YtmhjpmenngjmeaaGreatDoor
namespace Go.Proofs.YtmhjpmenngjmeaaGreatDoor
open Go.RowKit
end Go.Proofs.YtmhjpmenngjmeaaGreatDoor
namespace Go.Proofs.YtmhjpmenngjmeaaGreatDoor
open Go.RowKit
def ob0:Ob:=⟨0,⟨#[]⟩⟩
def SrcRow (w:World) (v:Value) (l:List Ob):Prop:=∃ vl vi,v = .agg [vl,vi].toArray ∧ ObRow w vl (rights l) ∧ IdRow w vi ((rights l).map idO)
theorem SrcRow.below {w w':World} {v:Value} {l:List Ob} (h:SrcRow w v l) (hb:Below w.heap.size w w'):SrcRow w' v l:=by
 obtain ⟨vl,vi,rfl,h1,h2⟩:=h
 exact ⟨vl,vi,rfl,h1.below hb,h2.below hb⟩
theorem range_new (w:World) (us:List Value) (e:TypeId) {n:Nat} (h:w.heap.size = n):(w.alloc (.cells us.toArray e)).rangeAt n 0 us:=by
 subst h
 exact fun j u hu => by rw [World.cell?_alloc_new,Nat.zero_add];simpa using hu
end Go.Proofs.YtmhjpmenngjmeaaGreatDoor
namespace Go.Proofs.YtmhjpmenngjmeaaGreatDoor
open Go.RowKit
def lfC (f:ByteArray × ByteArray):List Value:=[.string f.1,.string f.2]
def lfsF (l:Lfs):List Value:=(l.map lfC).flatten
theorem lfsF_snoc (l:Lfs) (f:ByteArray × ByteArray):lfsF (l ++ [f]) = lfsF l ++ lfC f:=by simp [lfsF]
theorem infoLeaf:(Tryz.prog.info? 36).map (fun i => (i.zero,i.size,i.bytes)) = some (some (.agg #[.string ⟨#[]⟩,.string ⟨#[]⟩]),2,32):=by kernel_rfl
section
variable {get:List UInt8 → Option Ob} {rec:List UInt8 → ByteArray → Lfs → Nat → FRes} {ahead:ByteArray} {e:Ent} {es:List Ent} {l:Lfs} {n:Nat}
theorem loopF_err {c:Nat} (h:e.kind = 2) (hr:rec e.id (ahead ++ e.name ++ slashL) l n = .inl c):loopF get false rec ahead (e :: es) l n = .inl c:=by
 unfold loopF;rw [if_neg (by decide),if_pos h,hr]
theorem loopF_ok {y:Lfs × Nat} (h:e.kind = 2) (hr:rec e.id (ahead ++ e.name ++ slashL) l n = .inr y):loopF get false rec ahead (e :: es) l n = loopF get false rec ahead es y.1 y.2:=by
 conv => lhs;unfold loopF
 rw [if_neg (by decide),if_pos h,hr]
theorem loopF_none (h:¬ e.kind = 2) (hg:get e.id = none):loopF get false rec ahead (e :: es) l n = .inl 13:=by
 unfold loopF;rw [if_neg (by decide),if_neg h,hg]
theorem loopF_wrong {b:Ob} (h:¬ e.kind = 2) (hg:get e.id = some b) (hb:¬ b.kind = 1):loopF get false rec ahead (e :: es) l n = .inl 13:=by
 unfold loopF;rw [if_neg (by decide),if_neg h,hg];dsimp only;rw [if_neg hb]
theorem loopF_full {b:Ob} (h:¬ e.kind = 2) (hg:get e.id = some b) (hb:b.kind = 1) (hl:l.length = 300):loopF get false rec ahead (e :: es) l n = .inl 4:=by
 unfold loopF;rw [if_neg (by decide),if_neg h,hg];dsimp only;rw [if_pos hb,if_pos hl]
theorem loopF_file {b:Ob} (h:¬ e.kind = 2) (hg:get e.id = some b) (hb:b.kind = 1) (hl:¬ l.length = 300):loopF get false rec ahead (e :: es) l n = loopF get false rec ahead es (l ++ [(ahead ++ e.name,b.body)]) n:=by
 conv => lhs;unfold loopF
 rw [if_neg (by decide),if_neg h,hg];dsimp only;rw [if_pos hb,if_neg hl]
end
theorem grown_drew {W w2:World} {r:Option Nat} (h:W.drew.grownBy w2 r):W.grownBy w2 r:=⟨h.os,h.tape,h.output,h.size,h.block⟩
end Go.Proofs.YtmhjpmenngjmeaaGreatDoor
namespace Go.Proofs.YtmhjpmenngjmeaaGreatDoor
theorem Bfs.congr {cm:Idl → Option Cmt} {id:Idl} {V W:Idl → Prop} {Q:List Idl} (h:Bfs cm id V Q) (hVW:∀ y,V y ↔ W y):Bfs cm id W Q:=by
 have:V = W:=funext fun y => propext (hVW y)
 rwa [this] at h
theorem IsLine.sub {cm:Idl → Option Cmt} {id x:Idl} {S:List Idl} (h:IsLine cm id S) (hx:x ∈ S):∃ T,IsLine cm x T:=by
 classical
 refine ⟨S.filter fun y => decide (Reach cm x y),List.Pairwise.filter _ h.nodup,fun y => ?_,fun y hy => h.there y (List.mem_filter.1 hy).1⟩
 rw [List.mem_filter]
 constructor
 ·rintro ⟨_,h2⟩;exact of_decide_eq_true h2
 ·intro hr;exact ⟨(h.mem y).2 (((h.mem x).1 hx).trans hr),decide_eq_true hr⟩
end Go.Proofs.YtmhjpmenngjmeaaGreatDoor
namespace Go.Proofs.YtmhjpmenngjmeaaGreatDoor
open Go.RowKit
set_option maxRecDepth 100000 in
set_option maxHeartbeats 4000000 in
theorem clash26_any (v:Value) (l:List Ob) (w:World) (hv:ObRow w v l) :
  Calls Tryz.prog 8 #[v] w fun e w' => e = .returned (.bool (clashB l)) ∧ Below w.heap.size w w':=by
 obtain ⟨ao,cap,rfl,hmax,hv⟩:=hv.open
 unfold maxLen at hmax
 have HV:=Lib.hid hv
 have h2:∀ (a:Int) (s:ByteArray),(Tryz.prog.info? 59).map (·.size) = some [Value.int .i64 a,Value.string s].length:=fun a s => by kernel_rfl
 have H2:=Lib.hid h2
 clear hv h2
 go_enter Tryz.func8,Tryz.ntmps8
 go_wp2
 go_loopw [3,4] (fun i _ wr => ∃ k:Nat,k ≤ l.length ∧ i = .int .i64 k ∧ Hid (∀ i,i < k → ∀ j,j < i → clashAt l i j = false) ∧ Below w.heap.size w wr) (fun i _ _ => (l.length - intOf i).toNat)
 case atStart => exact ⟨0,by omega,rfl,(fun i hi => absurd hi (by omega)),Below.refl _ _⟩
 case round =>
  obtain ⟨wo,rfl⟩:∃ wo:World,wo = wr:=⟨_,rfl⟩
  obtain ⟨k,hk,rfl,hno,hb⟩:=hrel
  by_cases hlt:k < l.length
  ·have HNO:=Lib.hid hno.out
   have HBO:=Lib.hid hb
   obtain ⟨b,off,rfl,hbl,hcell⟩:=HV.out (by intro e;rw [e] at hlt;simp at hlt)
   have HC:=Lib.hid (fun j (hj:j < l.length) (w':World) (hb':Below w.heap.size w w') => rangeAt_below (hcell j hj) hb' hbl)
   clear hno hb hcell
   go_wp2
   go_loopw [4] (fun j wr => ∃ m:Nat,m ≤ k ∧ j = .int .i64 m ∧ Hid (∀ j,j < m → clashAt l k j = false) ∧ Below wo.heap.size wo wr) (fun j _ => (k - intOf j).toNat)
   case atStart => exact ⟨0,by omega,rfl,(fun j hj => absurd hj (by omega)),Below.refl _ _⟩
   case round =>
    obtain ⟨wi,rfl⟩:∃ wi:World,wi = wr:=⟨_,rfl⟩
    obtain ⟨m,hm,rfl,hnm,hbi⟩:=hrel
    by_cases hmk:m < k
    ·have hbw:Below w.heap.size w wi:=HBO.out.trans (hbi.mono HBO.out.size)
     have f1:wi.rangeAt b (off + k * 2) [.int .i64 l[k].kind,.string l[k].body]:=HC.out k hlt wi hbw
     have f2:wi.rangeAt b (off + m * 2) [.int .i64 l[m].kind,.string l[m].body]:=HC.out m (by omega) wi hbw
     have hbli:b < wi.heap.size:=by have:=hbw.size;omega
     have k0:(0:Int) ≤ k:=by omega
     have k1:(k:Int) < l.length:=by omega
     have m0:(0:Int) ≤ m:=by omega
     have m1:(m:Int) < l.length:=by omega
     have hma:m < l.length:=by omega
     have HA:=Lib.hid (clashAt_eq l hlt hma)
     have HF:=Lib.hid (clash_found (l:=l) hlt hmk)
     have HRA:=Lib.hid (fun w => rright_any l[k].kind l[k].body w)
     have HRB:=Lib.hid (fun w => rright_any l[m].kind l[m].body w)
     have HIA:=Lib.hid (fun w (h:rightOb ⟨l[k].kind,l[k].body⟩ = true) => rido_any l[k].kind l[k].body w (by have:=right_small h;omega))
     have HIB:=Lib.hid (fun w (h:rightOb ⟨l[m].kind,l[m].body⟩ = true) => rido_any l[m].kind l[m].body w (by have:=right_small h;omega))
     have HNM:=Lib.hid hnm.out
     have HNX:Hid (clashAt l k m = false → ∀ j,j < m + 1 → clashAt l k j = false):=Lib.hid (fun h j hj => by
      rcases Nat.lt_or_ge j m with h1 | h1
      ·exact hnm.out j h1
      ·obtain rfl:j = m:=by omega
       exact h)
     have s1:=H2.out l[k].kind l[k].body
     have s2:=H2.out l[m].kind l[m].body
     have HYES:=Lib.hid (fun hh w => ob_eq_yes (a:=l[k]'hlt) (b:=l[m]'hma) hh w)
     have HNOT:=Lib.hid (fun hh w => ob_eq_no (a:=l[k]'hlt) (b:=l[m]'hma) hh w)
     have HLA:=idO_len l[k]
     have HLB:=idO_len l[m]
     clear hnm hbw
     generalize l[k] = A at f1 HA HRA HIA s1 HYES HNOT HLA
     generalize l[m] = B at f2 HA HRB HIB s2 HYES HNOT HLB
     obtain ⟨ka,sa⟩:=A
     obtain ⟨kb,sb⟩:=B
     dsimp only at f1 f2 HRA HRB HIA HIB s1 s2 HYES HNOT
     cases hne:obNe ⟨ka,sa⟩ ⟨kb,sb⟩ with
     | false =>
      have heq:=HYES.out hne
      have HCA:Hid (clashAt l k m = false):=by unfold Hid;rw [HA.out,hne];rfl
      clear hne
      go_wp2
      refine wp_region_bq (by kernel_rfl) (by kernel_rfl) ?_
      repeat (go_big_quiet_step ((go_at_call 20;with_reducible exact calls_bw (HRA.out _))))
      refine bq_row 59 _ _ rfl rfl rfl f1 (by omega) Tryz.underlying59 rfl s1 ?_
      simp only [Act.put,List.setIfInBounds_toArray,List.set_cons_zero,List.set_cons_succ]
      repeat (go_big_quiet_step ((go_at_call 20;with_reducible exact calls_bw (HRA.out _))))
      refine bq_row 59 _ _ rfl rfl rfl f2 (by omega) Tryz.underlying59 rfl s2 ?_
      simp only [Act.put,List.setIfInBounds_toArray,List.set_cons_zero,List.set_cons_succ]
      repeat (go_big_quiet_step ((go_at_call 20;with_reducible exact calls_bw (HRA.out _))))
      refine wpQuiet_nil ?_
      intro wq hbq
      have HBI:=Lib.hid (hbi.trans (hbq.mono hbi.size))
      clear hbi hbq f1 f2
      go_wp2
      go_roundw
      case rel => exact ⟨m + 1,by omega,by go_num,HNX.out HCA.out,HBI.out⟩
      case measure => simp [intOf];omega
     | true =>
      have heq:=HNOT.out hne
      cases hra:rightOb ⟨ka,sa⟩ with
      | false =>
       have HCA:Hid (clashAt l k m = false):=by unfold Hid;rw [HA.out,hne,hra];rfl
       rw [hra] at HRA
       clear hne hra
       go_wp2
       refine wp_region_bq (by kernel_rfl) (by kernel_rfl) ?_
       repeat (go_big_quiet_step ((go_at_call 20;with_reducible exact calls_bw (HRA.out _))))
       refine bq_row 59 _ _ rfl rfl rfl f1 (by omega) Tryz.underlying59 rfl s1 ?_
       simp only [Act.put,List.setIfInBounds_toArray,List.set_cons_zero,List.set_cons_succ]
       repeat (go_big_quiet_step ((go_at_call 20;with_reducible exact calls_bw (HRA.out _))))
       refine bq_row 59 _ _ rfl rfl rfl f2 (by omega) Tryz.underlying59 rfl s2 ?_
       simp only [Act.put,List.setIfInBounds_toArray,List.set_cons_zero,List.set_cons_succ]
       repeat (go_big_quiet_step ((go_at_call 20;with_reducible exact calls_bw (HRA.out _))))
       refine bq_row 59 _ _ rfl rfl rfl f1 (by omega) Tryz.underlying59 rfl s1 ?_
       simp only [Act.put,List.setIfInBounds_toArray,List.set_cons_zero,List.set_cons_succ]
       repeat (go_big_quiet_step ((go_at_call 20;with_reducible exact calls_bw (HRA.out _))))
       refine wpQuiet_nil ?_
       intro wq hbq
       have HBI:=Lib.hid (hbi.trans (hbq.mono hbi.size))
       clear hbi hbq f1 f2
       go_wp2
       go_roundw
       case rel => exact ⟨m + 1,by omega,by go_num,HNX.out HCA.out,HBI.out⟩
       case measure => simp [intOf];omega
      | true =>
       cases hrb:rightOb ⟨kb,sb⟩ with
       | false =>
        have HCA:Hid (clashAt l k m = false):=by unfold Hid;rw [HA.out,hne,hra,hrb];rfl
        rw [hra] at HRA
        rw [hrb] at HRB
        clear hne hra hrb
        go_wp2
        refine wp_region_bq (by kernel_rfl) (by kernel_rfl) ?_
        repeat (go_big_quiet_step ((first | (go_at_call 20;with_reducible exact calls_bw (HRA.out _)) | (go_at_call 20;with_reducible exact calls_bw (HRB.out _)))))
        refine bq_row 59 _ _ rfl rfl rfl f1 (by omega) Tryz.underlying59 rfl s1 ?_
        simp only [Act.put,List.setIfInBounds_toArray,List.set_cons_zero,List.set_cons_succ]
        repeat (go_big_quiet_step ((first | (go_at_call 20;with_reducible exact calls_bw (HRA.out _)) | (go_at_call 20;with_reducible exact calls_bw (HRB.out _)))))
        refine bq_row 59 _ _ rfl rfl rfl f2 (by omega) Tryz.underlying59 rfl s2 ?_
        simp only [Act.put,List.setIfInBounds_toArray,List.set_cons_zero,List.set_cons_succ]
        repeat (go_big_quiet_step ((first | (go_at_call 20;with_reducible exact calls_bw (HRA.out _)) | (go_at_call 20;with_reducible exact calls_bw (HRB.out _)))))
        refine bq_row 59 _ _ rfl rfl rfl f1 (by omega) Tryz.underlying59 rfl s1 ?_
        simp only [Act.put,List.setIfInBounds_toArray,List.set_cons_zero,List.set_cons_succ]
        repeat (go_big_quiet_step ((first | (go_at_call 20;with_reducible exact calls_bw (HRA.out _)) | (go_at_call 20;with_reducible exact calls_bw (HRB.out _)))))
        refine bq_row 59 _ _ rfl rfl rfl f2 (by omega) Tryz.underlying59 rfl s2 ?_
        simp only [Act.put,List.setIfInBounds_toArray,List.set_cons_zero,List.set_cons_succ]
        repeat (go_big_quiet_step ((first | (go_at_call 20;with_reducible exact calls_bw (HRA.out _)) | (go_at_call 20;with_reducible exact calls_bw (HRB.out _)))))
        refine wpQuiet_nil ?_
        intro wq hbq
        have HBI:=Lib.hid (hbi.trans (hbq.mono hbi.size))
        clear hbi hbq f1 f2
        go_wp2
        go_roundw
        case rel => exact ⟨m + 1,by omega,by go_num,HNX.out HCA.out,HBI.out⟩
        case measure => simp [intOf];omega
       | true =>
        have HIA2:=Lib.hid (fun w => HIA.out w hra)
        have HIB2:=Lib.hid (fun w => HIB.out w hrb)
        by_cases he:idO ⟨ka,sa⟩ = idO ⟨kb,sb⟩
        ·have HCA:Hid (clashAt l k m = true):=by unfold Hid;rw [HA.out,hne,hra,hrb,decide_eq_true he];rfl
         have hid:=fun w => id_eqIn_yes HLA he w
         rw [hra] at HRA
         rw [hrb] at HRB
         clear hne hra hrb he
         generalize idC (idO ⟨ka,sa⟩) = ua at HIA2 hid
         generalize idC (idO ⟨kb,sb⟩) = ub at HIB2 hid
         go_wp2
         refine wp_region_bq (by kernel_rfl) (by kernel_rfl) ?_
         repeat (go_big_quiet_step ((first | (go_at_call 20;with_reducible exact calls_bw (HRA.out _)) | (go_at_call 20;with_reducible exact calls_bw (HRB.out _)) | (go_at_call 21;with_reducible exact calls_bw (HIA2.out _)) | (go_at_call 21;with_reducible exact calls_bw (HIB2.out _)))))
         refine bq_row 59 _ _ rfl rfl rfl f1 (by omega) Tryz.underlying59 rfl s1 ?_
         simp only [Act.put,List.setIfInBounds_toArray,List.set_cons_zero,List.set_cons_succ]
         repeat (go_big_quiet_step ((first | (go_at_call 20;with_reducible exact calls_bw (HRA.out _)) | (go_at_call 20;with_reducible exact calls_bw (HRB.out _)) | (go_at_call 21;with_reducible exact calls_bw (HIA2.out _)) | (go_at_call 21;with_reducible exact calls_bw (HIB2.out _)))))
         refine bq_row 59 _ _ rfl rfl rfl f2 (by omega) Tryz.underlying59 rfl s2 ?_
         simp only [Act.put,List.setIfInBounds_toArray,List.set_cons_zero,List.set_cons_succ]
         repeat (go_big_quiet_step ((first | (go_at_call 20;with_reducible exact calls_bw (HRA.out _)) | (go_at_call 20;with_reducible exact calls_bw (HRB.out _)) | (go_at_call 21;with_reducible exact calls_bw (HIA2.out _)) | (go_at_call 21;with_reducible exact calls_bw (HIB2.out _)))))
         refine bq_row 59 _ _ rfl rfl rfl f1 (by omega) Tryz.underlying59 rfl s1 ?_
         simp only [Act.put,List.setIfInBounds_toArray,List.set_cons_zero,List.set_cons_succ]
         repeat (go_big_quiet_step ((first | (go_at_call 20;with_reducible exact calls_bw (HRA.out _)) | (go_at_call 20;with_reducible exact calls_bw (HRB.out _)) | (go_at_call 21;with_reducible exact calls_bw (HIA2.out _)) | (go_at_call 21;with_reducible exact calls_bw (HIB2.out _)))))
         refine bq_row 59 _ _ rfl rfl rfl f2 (by omega) Tryz.underlying59 rfl s2 ?_
         simp only [Act.put,List.setIfInBounds_toArray,List.set_cons_zero,List.set_cons_succ]
         repeat (go_big_quiet_step ((first | (go_at_call 20;with_reducible exact calls_bw (HRA.out _)) | (go_at_call 20;with_reducible exact calls_bw (HRB.out _)) | (go_at_call 21;with_reducible exact calls_bw (HIA2.out _)) | (go_at_call 21;with_reducible exact calls_bw (HIB2.out _)))))
         refine bq_row 59 _ _ rfl rfl rfl f1 (by omega) Tryz.underlying59 rfl s1 ?_
         simp only [Act.put,List.setIfInBounds_toArray,List.set_cons_zero,List.set_cons_succ]
         repeat (go_big_quiet_step ((first | (go_at_call 20;with_reducible exact calls_bw (HRA.out _)) | (go_at_call 20;with_reducible exact calls_bw (HRB.out _)) | (go_at_call 21;with_reducible exact calls_bw (HIA2.out _)) | (go_at_call 21;with_reducible exact calls_bw (HIB2.out _)))))
         refine bq_row 59 _ _ rfl rfl rfl f2 (by omega) Tryz.underlying59 rfl s2 ?_
         simp only [Act.put,List.setIfInBounds_toArray,List.set_cons_zero,List.set_cons_succ]
         repeat (go_big_quiet_step ((first | (go_at_call 20;with_reducible exact calls_bw (HRA.out _)) | (go_at_call 20;with_reducible exact calls_bw (HRB.out _)) | (go_at_call 21;with_reducible exact calls_bw (HIA2.out _)) | (go_at_call 21;with_reducible exact calls_bw (HIB2.out _)))))
         refine wpQuiet_nil ?_
         intro wq hbq
         go_wp2
         go_ret
         exact ⟨ret_bool (HF.out HCA.out).symm,HBO.out.trans ((hbi.trans (hbq.mono hbi.size)).mono HBO.out.size)⟩
        ·have HCA:Hid (clashAt l k m = false):=by unfold Hid;rw [HA.out,decide_eq_false he,Bool.and_false]
         have hid:=fun w => id_eqIn_no HLA HLB he w
         rw [hra] at HRA
         rw [hrb] at HRB
         clear hne hra hrb he
         generalize idC (idO ⟨ka,sa⟩) = ua at HIA2 hid
         generalize idC (idO ⟨kb,sb⟩) = ub at HIB2 hid
         go_wp2
         refine wp_region_bq (by kernel_rfl) (by kernel_rfl) ?_
         repeat (go_big_quiet_step ((first | (go_at_call 20;with_reducible exact calls_bw (HRA.out _)) | (go_at_call 20;with_reducible exact calls_bw (HRB.out _)) | (go_at_call 21;with_reducible exact calls_bw (HIA2.out _)) | (go_at_call 21;with_reducible exact calls_bw (HIB2.out _)))))
         refine bq_row 59 _ _ rfl rfl rfl f1 (by omega) Tryz.underlying59 rfl s1 ?_
         simp only [Act.put,List.setIfInBounds_toArray,List.set_cons_zero,List.set_cons_succ]
         repeat (go_big_quiet_step ((first | (go_at_call 20;with_reducible exact calls_bw (HRA.out _)) | (go_at_call 20;with_reducible exact calls_bw (HRB.out _)) | (go_at_call 21;with_reducible exact calls_bw (HIA2.out _)) | (go_at_call 21;with_reducible exact calls_bw (HIB2.out _)))))
         refine bq_row 59 _ _ rfl rfl rfl f2 (by omega) Tryz.underlying59 rfl s2 ?_
         simp only [Act.put,List.setIfInBounds_toArray,List.set_cons_zero,List.set_cons_succ]
         repeat (go_big_quiet_step ((first | (go_at_call 20;with_reducible exact calls_bw (HRA.out _)) | (go_at_call 20;with_reducible exact calls_bw (HRB.out _)) | (go_at_call 21;with_reducible exact calls_bw (HIA2.out _)) | (go_at_call 21;with_reducible exact calls_bw (HIB2.out _)))))
         refine bq_row 59 _ _ rfl rfl rfl f1 (by omega) Tryz.underlying59 rfl s1 ?_
         simp only [Act.put,List.setIfInBounds_toArray,List.set_cons_zero,List.set_cons_succ]
         repeat (go_big_quiet_step ((first | (go_at_call 20;with_reducible exact calls_bw (HRA.out _)) | (go_at_call 20;with_reducible exact calls_bw (HRB.out _)) | (go_at_call 21;with_reducible exact calls_bw (HIA2.out _)) | (go_at_call 21;with_reducible exact calls_bw (HIB2.out _)))))
         refine bq_row 59 _ _ rfl rfl rfl f2 (by omega) Tryz.underlying59 rfl s2 ?_
         simp only [Act.put,List.setIfInBounds_toArray,List.set_cons_zero,List.set_cons_succ]
         repeat (go_big_quiet_step ((first | (go_at_call 20;with_reducible exact calls_bw (HRA.out _)) | (go_at_call 20;with_reducible exact calls_bw (HRB.out _)) | (go_at_call 21;with_reducible exact calls_bw (HIA2.out _)) | (go_at_call 21;with_reducible exact calls_bw (HIB2.out _)))))
         refine bq_row 59 _ _ rfl rfl rfl f1 (by omega) Tryz.underlying59 rfl s1 ?_
         simp only [Act.put,List.setIfInBounds_toArray,List.set_cons_zero,List.set_cons_succ]
         repeat (go_big_quiet_step ((first | (go_at_call 20;with_reducible exact calls_bw (HRA.out _)) | (go_at_call 20;with_reducible exact calls_bw (HRB.out _)) | (go_at_call 21;with_reducible exact calls_bw (HIA2.out _)) | (go_at_call 21;with_reducible exact calls_bw (HIB2.out _)))))
         refine bq_row 59 _ _ rfl rfl rfl f2 (by omega) Tryz.underlying59 rfl s2 ?_
         simp only [Act.put,List.setIfInBounds_toArray,List.set_cons_zero,List.set_cons_succ]
         repeat (go_big_quiet_step ((first | (go_at_call 20;with_reducible exact calls_bw (HRA.out _)) | (go_at_call 20;with_reducible exact calls_bw (HRB.out _)) | (go_at_call 21;with_reducible exact calls_bw (HIA2.out _)) | (go_at_call 21;with_reducible exact calls_bw (HIB2.out _)))))
         refine wpQuiet_nil ?_
         intro wq hbq
         have HBI:=Lib.hid (hbi.trans (hbq.mono hbi.size))
         clear hbi hbq f1 f2
         go_wp2
         go_roundw
         case rel => exact ⟨m + 1,by omega,by go_num,HNX.out HCA.out,HBI.out⟩
         case measure => simp [intOf];omega
    ·obtain rfl:m = k:=by omega
     have HN2:Hid (∀ i,i < m + 1 → ∀ j,j < i → clashAt l i j = false):=Lib.hid (fun i hi => by
      rcases Nat.lt_or_ge i m with h | h
      ·exact HNO.out i h
      ·obtain rfl:i = m:=by omega
       exact hnm.out)
     have HBI:=Lib.hid (HBO.out.trans (hbi.mono HBO.out.size))
     clear hnm hbi
     go_wp2
     go_roundw
     case rel => exact ⟨m + 1,by omega,by go_num,HN2.out,HBI.out⟩
     case measure => simp [intOf];omega
  ·obtain rfl:k = l.length:=by omega
   have HR:Hid (clashB l = false):=Lib.hid (clash_none hno.out)
   clear hno
   go_wp2
   go_ret
   exact ⟨ret_bool HR.out.symm,hb⟩
end Go.Proofs.YtmhjpmenngjmeaaGreatDoor

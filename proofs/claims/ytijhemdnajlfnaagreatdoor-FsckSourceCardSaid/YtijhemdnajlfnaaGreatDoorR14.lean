/- A part of this claim. -/
import Derived.Stop.BytesEq
import Derived.Test.YtijhemdnajlfnaaGreatDoorR13
namespace Go.Proofs.YtijhemdnajlfnaaGreatDoor
open Tryz
set_option maxHeartbeats 64000000
set_option maxRecDepth 100000
set_option linter.all false
section
open Go.RowKit
theorem gZ {n:Nat} (h:n ≤ 1099511627775):(numB n).length ≤ 6:=pU 5 n (by omega)
theorem aD (x:List UInt8):(idC x).length = x.length:=by simp [idC]
theorem bX (x:List UInt8):∀ v ∈ idC x,v.oneCell' = true:=AU x
theorem oC (s:ByteArray) (w:World) (hs:s.size ≤ 1000000000) :
  Calls prog 133 #[.string s] w fun e w' => e = .returned (.string (ofB (numB s.size ++ s.data.toList))) ∧ Below w.heap.size w w':=by
 have HN:=ah (mF s.size s.size w (Nat.le_refl _) (by omega))
 have hq:(ofB (numB s.size)).size ≤ 6:=by rw [aM];exact gZ (by omega)
 have HF:Hid (ofB (numB s.size ++ s.data.toList) = ofB (numB s.size) ++ s):=by unfold Hid;rw [dh,lu]
 generalize ofB (numB s.size) = q at HN hq HF
 go_enter func133,ntmps133
 go_wp2_with fail
 refine HN.out.mono ?_
 rintro e w1 ⟨rfl,hb⟩
 go_wp2
 go_ret
 exact ⟨gT HF.out.symm,hb⟩
theorem M4 (w w2:World) (x:List UInt8) (t:TypeId) (hb:Below (w.heap.size + 1) (w.alloc (.cells (idC x).toArray t)) w2) (c:Nat) :
  (convert 221 9 (.slice (some ⟨w.heap.size,0,none⟩) x.length c)).run prog w2 = .ok (.string (ofB x)) w2 :=
 run_convert_bytes_back (P:=prog) w2 221 9 5 ⟨w.heap.size,0,none⟩ c x underlying221 underlying5 underlying9 fun j hj => by
  rw [Addr.add_mid,Nat.zero_add,hb.cell (p:=⟨w.heap.size,j,none⟩) (Nat.lt_succ_self _),World.cell?_alloc_new]
  simp [idC,hj]
theorem uM (x:List UInt8) (w:World) (hx:x.length = 32) :
  Calls prog 191 #[.agg (idC x).toArray] w fun e w' => e = .returned (.string (ofB x)) ∧ Below w.heap.size w w':=by
 have hcv:=M4 w (w.alloc (.cells (idC x).toArray 24)) x 24 (Below.refl _ _) 32
 rw [hx] at hcv
 have HX:=ah hx
 clear hx
 generalize idC x = us at hcv
 go_enter func191,ntmps191
 go_wp2
 go_ret
 exact ⟨rfl,bal⟩
def obC (o:Ob):List Value:=[.int .i64 o.kind,.string o.body]
theorem Ez (k:Int) (s:ByteArray) (w:World) (hs:s.size ≤ 1000000) :
  Calls prog 68 #[.agg #[.int .i64 k,.string s]] w fun e w' => e = .returned (.string (ofB (fI ⟨k,s⟩))) ∧ Below w.heap.size w w':=by
 have HT:=ah (fun w => oC s w (by omega))
 have hq:(ofB (numB s.size ++ s.data.toList)).size ≤ 1000006:=by
  rw [aM,List.length_append]
  have h1:=gZ (n:=s.size) (by omega)
  have h2:s.data.toList.length = s.size:=by simp
  omega
 have HF:Hid (ofB (fI ⟨k,s⟩) = ofB [gD k] ++ ofB (numB s.size ++ s.data.toList)):=by unfold Hid fI;rw [CB]
 generalize ofB (numB s.size ++ s.data.toList) = q at HT hq HF
 by_cases h2:k = 2
 ·have d2:(k == 2) = true:=by rw [beq_iff_eq];exact h2
  have d3:(k == 3) = false:=by rw [beq_eq_false_iff_ne];omega
  have HL:Hid (ofB [gD k] = ⟨#[116]⟩):=by unfold Hid gD;rw [if_pos h2];rfl
  clear h2
  go_enter func68,ntmps68
  go_wp2_with fail
  refine (HT.out _).mono ?_
  rintro e w1 ⟨rfl,hb⟩
  go_wp2
  go_ret
  exact ⟨gT (by rw [HF.out,HL.out]),bal.trans (hb.mono (by simp))⟩
 have d2:(k == 2) = false:=by rw [beq_eq_false_iff_ne];exact h2
 by_cases h3:k = 3
 ·have d3:(k == 3) = true:=by rw [beq_iff_eq];exact h3
  have HL:Hid (ofB [gD k] = ⟨#[99]⟩):=by unfold Hid gD;rw [if_neg h2,if_pos h3];rfl
  clear h2 h3
  go_enter func68,ntmps68
  go_wp2_with fail
  refine (HT.out _).mono ?_
  rintro e w1 ⟨rfl,hb⟩
  go_wp2
  go_ret
  exact ⟨gT (by rw [HF.out,HL.out]),bal.trans (hb.mono (by simp))⟩
 have d3:(k == 3) = false:=by rw [beq_eq_false_iff_ne];exact h3
 have HL:Hid (ofB [gD k] = ⟨#[98]⟩):=by unfold Hid gD;rw [if_neg h2,if_neg h3];rfl
 clear h2 h3
 go_enter func68,ntmps68
 go_wp2_with fail
 refine (HT.out _).mono ?_
 rintro e w1 ⟨rfl,hb⟩
 go_wp2
 go_ret
 exact ⟨gT (by rw [HF.out,HL.out]),bal.trans (hb.mono (by simp))⟩
theorem dI (o:Ob):(idO o).length = 32:=by simp [idO,shaR]
theorem uN (k:Int) (s:ByteArray) (w:World) (hs:s.size ≤ 100000) :
  Calls prog 32 #[.agg #[.int .i64 k,.string s]] w fun e w' => e = .returned (.agg (idC (idO ⟨k,s⟩)).toArray) ∧ Below w.heap.size w w':=by
 have HT:=ah (fun w => Ez k s w (by omega))
 have hq:(ofB (fI ⟨k,s⟩)).size ≤ 1000000:=by
  rw [aM];unfold fI
  have h1:=gZ (n:=s.size) (by omega)
  have h2:s.data.toList.length = s.size:=by simp
  simp;omega
 have HS:=ah (fun w => KS (ofB (fI ⟨k,s⟩)) w hq)
 have HI:Hid (idV (shaR (ofB (fI ⟨k,s⟩))) = .agg (idC (idO ⟨k,s⟩)).toArray):=ah rfl
 have hlen:(idC (idO ⟨k,s⟩)).length = 32:=by rw [aD,dI]
 have hone:=bX (idO ⟨k,s⟩)
 have hO:=(Arr.new (w.alloc (.cells #[.int .i64 k,.string s] 40)) 32 (.int .u8 0) 24)
 generalize idC (idO ⟨k,s⟩) = us at HI hlen hone
 generalize idV (shaR (ofB (fI ⟨k,s⟩))) = r at HS HI
 generalize ofB (fI ⟨k,s⟩) = f at HT hq HS
 obtain rfl:r = .agg us.toArray:=HI.out
 rw [World.size_alloc] at hO
 have HO:=ah hO
 have HLN:=ah hlen
 have HON:=ah hone
 have h32:(prog.info? 24).map (·.size) = some 32:=by kernel_rfl
 have h32u:(prog.info? 24).map (·.size) = some us.length:=by rw [hlen];exact h32
 clear hO hlen hone HI
 go_enter func32,ntmps32
 go_wp2_with fail
 refine (HT.out _).mono ?_
 rintro e w1 ⟨rfl,hb1⟩
 go_wp2_with fail
 refine (HS.out _).mono ?_
 rintro e w2 ⟨rfl,hb2⟩
 have hb12:Below ((w.alloc (.cells #[.int .i64 k,.string s] 40)).alloc (.cells (Array.replicate 32 (.int .u8 0)) 24)).heap.size ((w.alloc (.cells #[.int .i64 k,.string s] 40)).alloc (.cells (Array.replicate 32 (.int .u8 0)) 24)) w2:=hb1.trans (hb2.mono hb1.size)
 have hO2:=HO.out.below hb12 (by simp)
 have HTH:=ah hO2.there
 have HFR:=ah (World.rangeAt_setCells_same w2 (w.heap.size + 1) 0 us (by rw [HLN.out];exact hO2.there))
 have HBF:=ah (below_setCells (B:=w.heap.size) (a:=w) (w.heap.size + 1) (by omega) us 0 w2 ((bal.alloc (by simp) _).trans (hb12.mono (by simp;omega))))
 clear hb1 hb2 hb12 hO2
 go_wp2_with (refine aj rfl 24 _ _ rfl (w.heap.size + 1) 0 us ?y1 ?y2 32 HLN.out ?y4 h32 HON.out ?_)
 try case y1 => rfl
 try case y2 => rfl
 case y4 => exact HTH.out
 simp only [Act.put]
 refine gU rfl (w.heap.size + 1) 0 (by simp) us _ HFR.out underlying24 rfl h32u rfl ⟨rfl,HBF.out⟩
theorem bg {P:Program} {ops:Array Oper} {Q:Act → Prop} {rest:List Oper} {a:Act} {o:Oper} {w:World} {b off:Nat} {cs:List Value} (ty:TypeId) (d:TypeDesc) (x:Operand) (ho:o.op = .load ty x)
  (hw:Region.wanted o (yielded ops a.tmps) = true) (hx:a.eval x = .pointer (some ⟨b,off,none⟩)) (hr:w.rangeAt b off cs) (hb:b < w.heap.size) (hu:P.underlying ty = some d) (hd:d.isRow = true)
  (hi:(P.info? ty).map (·.size) = some cs.length) (hk:wpQuiet P ops (fun w' => ∃ x:BW w.heap.size w,w' = x.out) Q rest (a.put o.dst (.agg cs.toArray))):wpQuiet P ops (fun w' => ∃ x:BW w.heap.size w,w' = x.out) Q (o :: rest) a:=by
 unfold wpQuiet
 rw [if_pos hw]
 refine ⟨_,fun w' hw' => ?_,hk⟩
 obtain ⟨y,rfl⟩:=hw'
 unfold Oper.quietAt
 rw [xS ty d hr hb hu hd hi y.hb x ho hx]
 exact ⟨rfl,rfl⟩
def bD (w:World) (v:Value) (l:List (List UInt8)):Prop:=aK w v 32 (l.map idC)
theorem bD.below {w w':World} {v:Value} {l:List (List UInt8)} (h:bD w v l) (hb:Below w.heap.size w w'):bD w' v l:=aK.below h hb
theorem bD.open {w:World} {v:Value} {l:List (List UInt8)} (h:bD w v l):∃ ao cap,v = .slice ao l.length cap ∧ l.length ≤ maxLen ∧ (l ≠ [] → ∃ b off,ao = some ⟨b,off,none⟩ ∧ b < w.heap.size ∧ ∀ k (hk:k < l.length),w.rangeAt b (off + k * 32) (idC l[k])):=by
 obtain ⟨ao,cap,rfl,hm,h⟩:=h
 rw [List.length_map] at hm ⊢
 refine ⟨ao,cap,rfl,hm,fun hne => ?_⟩
 obtain ⟨b,off,e,hl,hc⟩:=h (by simpa using hne)
 refine ⟨b,off,e,hl,fun k hk => ?_⟩
 have:=hc k (by simpa using hk)
 rw [List.getElem_map] at this
 exact this
theorem dG {us:List Value} (h:us.length = 32):(prog.info? 24).map (·.size) = some us.length:=by rw [h];kernel_rfl
theorem Ec (l:List Ent) (k:Nat) (h:k < l.length):l8 (l.take (k + 1)) = l8 (l.take k) ++ l[k].bytes:=by
 unfold l8;rw [List.take_succ_eq_append_getElem h,List.map_append,List.flatten_append];simp [-List.map_take]
theorem ND (o:ByteArray) (L:List UInt8) (h:o = ofB L) (e:Ent):o ++ ofB (numB e.kind) ++ ofB (numB e.name.size ++ e.name.data.toList) ++ ofB e.id = ofB (L ++ e.bytes):=by
 subst h
 rw [← dh,← dh,← dh]
 unfold Ent.bytes;simp only [List.append_assoc]
theorem xM (v:Value) (l:List Ent) (w:World) (hv:fq w v l) (hz:∀ e ∈ l,e.name.size ≤ 1000 ∧ e.kind ≤ 2 ∧ e.id.length = 32) (hn:l.length ≤ 1000) :
  Calls prog 128 #[v] w fun e w' => e = .returned (.string (ofB (l8 l))) ∧ Below w.heap.size w w':=by
 obtain ⟨ao,cap,rfl,hmax,hv⟩:=hv.open
 have HZ:=ah hz
 have HV:=ah hv
 clear hv hz
 go_enter func128,ntmps128
 go_wp2
 go_loopw [3,4] (fun s i wr => ∃ (k:Nat) (o:ByteArray),k ≤ l.length ∧ i = .int .i64 k ∧ s = .string o ∧ o.size ≤ k * 1100 ∧ Hid (o = ofB (l8 (l.take k))) ∧ Below w.heap.size w wr) (fun _ i _ => (l.length - intOf i).toNat)
 case atStart => exact ⟨0,_,by omega,rfl,rfl,by simp;rfl,rfl,Below.refl _ _⟩
 obtain ⟨wo,rfl⟩:∃ wo:World,wo = wr:=⟨_,rfl⟩
 obtain ⟨k,o,hk,rfl,rfl,hos,hoe,hb⟩:=hrel
 by_cases hlt:k < l.length
 ·obtain ⟨b,off,rfl,hbl,hcell⟩:=HV.out (by intro e;rw [e] at hlt;simp at hlt)
  have c1:=ak (hcell k hlt).1 hb hbl
  have c2:=ak (hcell k hlt).2.1 hb hbl
  have c3:=au (hcell k hlt).2.2 hb hbl
  have hbo:b < wo.heap.size:=by have:=hb.size;omega
  obtain ⟨hz1,hz2,hz3⟩:=HZ.out l[k] (List.getElem_mem hlt)
  have HN:=ah (fun w => mF l[k].kind l[k].kind w (Nat.le_refl _) (by omega))
  have HT:=ah (fun w => oC l[k].name w (by omega))
  have HI:=ah (fun w => uM l[k].id w hz3)
  have hq1:(ofB (numB l[k].kind)).size ≤ 6:=by rw [aM];exact gZ (by omega)
  have hq2:(ofB (numB l[k].name.size ++ l[k].name.data.toList)).size ≤ 1006:=by
   rw [aM,List.length_append]
   have h1:=gZ (n:=l[k].name.size) (by omega)
   have h2:l[k].name.data.toList.length = l[k].name.size:=by simp
   omega
  have hq3:(ofB l[k].id).size ≤ 32:=by rw [aM];omega
  have HF:=ah (ND o _ hoe.out l[k])
  have HTS:=ah (Ec l k hlt)
  have hlen:(idC l[k].id).length = 32:=by rw [aD,hz3]
  have h32:=dG hlen
  clear hcell hoe hlen hz1 hz2 hz3
  generalize idC l[k].id = us at c3 HI h32
  generalize ofB (numB l[k].name.size ++ l[k].name.data.toList) = q2 at HT hq2 HF
  generalize ofB (numB l[k].kind) = q1 at HN hq1 HF
  generalize ofB l[k].id = q3 at HI hq3 HF
  generalize l[k].name = x at c1 HT
  generalize l[k].kind = y at c2 HN
  have k0:(0:Int) ≤ k:=by omega
  have k1:(k:Int) < l.length:=by omega
  go_wp2
  refine wbq ?_
  have LQ0:=blq c1
  have LQ1:=blq c2
  repeat (go_big_quiet_step ((first | (go_at_call 190;with_reducible exact aU (HN.out _)) | (go_at_call 133;with_reducible exact aU (HT.out _)) | (go_at_call 191;with_reducible exact aU (HI.out _)))))
  refine bg 24 _ _ rfl rfl rfl c3 (by omega) underlying24 rfl h32 ?_
  simp only [Act.put,nz]
  repeat (go_big_quiet_step ((first | (go_at_call 190;with_reducible exact aU (HN.out _)) | (go_at_call 133;with_reducible exact aU (HT.out _)) | (go_at_call 191;with_reducible exact aU (HI.out _)))))
  refine wpQuiet_nil ?_
  intro wq hbq
  clear LQ0 LQ1
  have HB:=ah (hb.trans (hbq.mono hb.size))
  clear hb hbq c1 c2 c3
  go_wp2
  go_roundw
  case rel => exact ⟨k + 1,_,by omega,by go_num,rfl,by simp only [ByteArray.size_append];omega,by unfold Hid;rw [HTS.out,← HF.out],HB.out⟩
  case measure => simp [intOf];omega
 obtain rfl:k = l.length:=by omega
 have HE:=ah hoe.out
 rw [List.take_length] at HE
 clear hoe
 go_wp2
 go_ret
 exact ⟨gT HE.out,hb⟩
def cmC (t:List UInt8) (v:Value) (x:ByteArray):List Value:=idC t ++ [v,.string x]
theorem iU (t:List UInt8) (v:Value) (x:ByteArray) (h:t.length = 32):(cmC t v x).length = 34:=by simp [cmC,aD,h]
theorem DN (w:World) (t:List UInt8) (v:Value) (x:ByteArray) (ty:TypeId) (h:t.length = 32) :
  (w.alloc (.cells (cmC t v x).toArray ty)).rangeAt w.heap.size 0 (idC t) ∧ (w.alloc (.cells (cmC t v x).toArray ty)).cell? ⟨w.heap.size,32,none⟩ = some v ∧ (w.alloc (.cells (cmC t v x).toArray ty)).cell? ⟨w.heap.size,33,none⟩ = some (.string x):=by
 have hl:(idC t).length = 32:=by rw [aD,h]
 refine ⟨fun j u hu => ?_,?_,?_⟩
 ·rw [World.cell?_alloc_new,Nat.zero_add]
  have hj:=(List.getElem?_eq_some_iff.1 hu).1
  simp only [cmC,List.getElem?_toArray]
  rw [List.getElem?_append_left hj];exact hu
 ·rw [World.cell?_alloc_new]
  simp only [cmC,List.getElem?_toArray]
  rw [List.getElem?_append_right (by omega),hl];rfl
 rw [World.cell?_alloc_new]
 simp only [cmC,List.getElem?_toArray]
 rw [List.getElem?_append_right (by omega),hl];rfl
theorem JV (l:List (List UInt8)) (k:Nat) (h:k < l.length):(l.take (k + 1)).flatten = (l.take k).flatten ++ l[k]:=by
 rw [List.take_succ_eq_append_getElem h,List.flatten_append];simp
theorem sO (t:List UInt8) (v:Value) (l:List (List UInt8)) (x:ByteArray) (w:World) (hv:bD w v l) (ht:t.length = 32) (hl:∀ y ∈ l,y.length = 32) (hn:l.length ≤ 1000) (hx:x.size ≤ 1000) :
  Calls prog 130 #[.agg (cmC t v x).toArray] w fun e w' => e = .returned (.string (ofB (nK (t,l,x)))) ∧ Below w.heap.size w w':=by
 obtain ⟨ao,cap,rfl,hmax,hv⟩:=hv.open
 obtain ⟨c0,c1,c2⟩:=DN w t (.slice ao l.length cap) x 153 ht
 have hb0:Below w.heap.size w (w.alloc (.cells (cmC t (.slice ao l.length cap) x).toArray 153)):=bal
 have HB0:=ah hb0
 have hlt0:w.heap.size < (w.alloc (.cells (cmC t (.slice ao l.length cap) x).toArray 153)).heap.size:=by simp
 have HZ:=ah hl
 have HV:=ah hv
 have hlen:(idC t).length = 32:=by rw [aD,ht]
 have h32:=dG hlen
 have HI:=ah (fun w => uM t w ht)
 have HN:=ah (fun w => mF l.length l.length w (Nat.le_refl _) (by omega))
 have HT:=ah (fun w => oC x w (by omega))
 have hq1:(ofB t).size ≤ 32:=by rw [aM];omega
 have hq2:(ofB (numB l.length)).size ≤ 6:=by rw [aM];exact gZ (by omega)
 have hq3:(ofB (numB x.size ++ x.data.toList)).size ≤ 1006:=by
  rw [aM,List.length_append]
  have h1:=gZ (n:=x.size) (by omega)
  have h2:x.data.toList.length = x.size:=by simp
  omega
 have HF:Hid (∀ o:ByteArray,o = ofB (t ++ (numB l.length ++ l.flatten)) → o ++ ofB (numB x.size ++ x.data.toList) = ofB (nK (t,l,x))):=ah (fun o h => by
  subst h;rw [← dh];unfold nK;simp only [List.append_assoc])
 have HF0:Hid (ofB t ++ ofB (numB l.length) = ofB (t ++ (numB l.length ++ (l.take 0).flatten))):=ah (by rw [← dh];simp)
 clear hv hl ht hlen hb0
 generalize ofB (numB x.size ++ x.data.toList) = q3 at HT hq3 HF
 generalize hus:idC t = us at c0 HI h32
 have HUS:=ah hus
 clear hus
 generalize cmC t (.slice ao l.length cap) x = cs at c0 c1 c2 HB0 hlt0
 go_enter func130,ntmps130
 go_wp2
 obtain ⟨W,hW⟩:∃ W,W = w.alloc (.cells cs.toArray 153):=⟨_,rfl⟩
 rw [← hW] at c0 c1 c2 HB0 hlt0 ⊢
 clear hW
 generalize ofB (numB l.length) = q2 at HN hq2 HF0
 generalize ofB t = q1 at HI hq1 HF0
 refine wbq ?_
 have LQ0:=blq c1
 repeat (go_big_quiet_step ((first | (go_at_call 191;with_reducible exact aU (HI.out _)) | (go_at_call 190;with_reducible exact aU (HN.out _)))))
 refine bg 24 _ _ rfl rfl rfl c0 (by omega) underlying24 rfl h32 ?_
 simp only [Act.put,nz]
 repeat (go_big_quiet_step ((first | (go_at_call 191;with_reducible exact aU (HI.out _)) | (go_at_call 190;with_reducible exact aU (HN.out _)))))
 refine wpQuiet_nil ?_
 intro wq hbq
 clear LQ0
 have HB:=bth HB0 hbq
 have d1:=ak c1 hbq hlt0
 have d2:=ak c2 hbq hlt0
 have hltq:w.heap.size < wq.heap.size:=by have:=hbq.size;omega
 clear c0 c1 c2 hbq HB0 hlt0
 go_wp2
 go_loopw [3,4] (fun s i wr => ∃ (k:Nat) (o:ByteArray),k ≤ l.length ∧ i = .int .i64 k ∧ s = .string o ∧ o.size ≤ 40 + k * 32 ∧ Hid (o = ofB (t ++ (numB l.length ++ (l.take k).flatten))) ∧ Below wq.heap.size wq wr) (fun _ i _ => (l.length - intOf i).toNat)
 case atStart => exact ⟨0,_,by omega,rfl,rfl,by simp only [ByteArray.size_append];omega,HF0.out,Below.refl _ _⟩
 obtain ⟨wo,rfl⟩:∃ wo:World,wo = wr:=⟨_,rfl⟩
 obtain ⟨k,o,hk,rfl,rfl,hos,hoe,hb⟩:=hrel
 have e1:=ak d1 hb hltq
 have e2:=ak d2 hb hltq
 by_cases hlt:k < l.length
 ·obtain ⟨b,off,rfl,hbl,hcell⟩:=HV.out (by intro e;rw [e] at hlt;simp at hlt)
  have c3:=au (hcell k hlt) (HB.out.trans (hb.mono HB.out.size)) hbl
  have hz:=HZ.out l[k] (List.getElem_mem hlt)
  have hlen:(idC l[k]).length = 32:=by rw [aD,hz]
  have h32k:=dG hlen
  have HIK:=ah (fun w => uM l[k] w hz)
  have hq:(ofB l[k]).size ≤ 32:=by rw [aM];omega
  have HS:Hid (o ++ ofB l[k] = ofB (t ++ (numB l.length ++ (l.take (k + 1)).flatten))):=ah (by
   rw [JV l k hlt,hoe.out,← dh];simp only [List.append_assoc])
  clear hcell hoe hlen hz
  generalize idC l[k] = uk at c3 HIK h32k
  generalize ofB l[k] = q at HIK hq HS
  have k0:(0:Int) ≤ k:=by omega
  have k1:(k:Int) < l.length:=by omega
  go_wp2_with (refine wpList_load_mid rfl 24 _ rfl b (off + k * 32) rfl uk _ c3 underlying24 rfl h32k ?_)
  refine (HIK.out _).mono ?_
  rintro e w1 ⟨rfl,hb1⟩
  have HB1:=ah (hb.trans (hb1.mono hb.size))
  clear hb hb1 e1 e2 d1 d2 c3
  go_wp2
  go_roundw
  case rel => exact ⟨k + 1,_,by omega,by go_num,rfl,by simp only [ByteArray.size_append];omega,HS.out,HB1.out⟩
  case measure => simp [intOf];omega
 obtain rfl:k = l.length:=by omega
 have HE:=ah hoe.out
 rw [List.take_length] at HE
 clear hoe
 go_wp2_with fail
 refine (HT.out _).mono ?_
 rintro e w1 ⟨rfl,hb1⟩
 go_wp2
 go_ret
 have hb2:=hb.trans (hb1.mono hb.size)
 exact ⟨gT (HF.out _ HE.out),HB.out.trans (hb2.mono HB.out.size)⟩
theorem O8 (w:World):(sizeOf 5).run prog w = .ok 1 w:=by kernel_rfl
theorem jU (x y:List UInt8) (hx:x.length = 32) (hy:y.length = 32) (w:World):(Op.equalIn 10000 24 (.agg (idC x).toArray) (.agg (idC y).toArray)).run prog w = .ok (x == y) w :=
 run_equalIn_bytes w 9998 24 5 32 underlying24 underlying5 O8 x y hx hy
theorem Dc {x y:List UInt8} (hx:x.length = 32) (h:x = y) (w:World):(Op.equalIn 10000 24 (.agg (idC x).toArray) (.agg (idC y).toArray)).run prog w = .ok true w:=by
 subst h;rw [jU x x hx hx w,beq_self_eq_true]
theorem FP {x y:List UInt8} (hx:x.length = 32) (hy:y.length = 32) (h:x ≠ y) (w:World):(Op.equalIn 10000 24 (.agg (idC x).toArray) (.agg (idC y).toArray)).run prog w = .ok false w:=by
 rw [jU x y hx hy w,beq_eq_false_iff_ne.2 h]
theorem uj {α:Type} {l:List α} {k:Nat} (hk:k < l.length) (h:(l.take k).Nodup) (hn:∀ j (hj:j < k),l[j] ≠ l[k]):(l.take (k + 1)).Nodup:=by
 rw [List.take_succ_eq_append_getElem hk,List.nodup_append]
 refine ⟨h,by simp,fun a ha b hb e => ?_⟩
 obtain ⟨j,hj,ej⟩:=List.getElem_of_mem ha
 have hjk:j < k:=by simp at hj;omega
 rw [List.getElem_take] at ej
 rw [List.mem_singleton.1 hb] at e
 exact hn j hjk (ej.trans e)
theorem yZ {α:Type} {l:List α} {j k:Nat} (hj:j < k) (hk:k < l.length) (h:l[j] = l[k]):¬ l.Nodup:=fun hn => by
 have:=(List.getElem_inj hn).1 h
 omega
theorem qN (t:List UInt8) (v:Value) (l:List (List UInt8)) (x:ByteArray) (w:World) (hv:bD w v l) (ht:t.length = 32) (hl:∀ y ∈ l,y.length = 32) (hn:l.length ≤ 1000) :
  Calls prog 129 #[.agg (cmC t v x).toArray] w fun e w' => e = .returned (.bool (aZ (t,l,x))) ∧ Below w.heap.size w w':=by
 obtain ⟨ao,cap,rfl,hmax,hv⟩:=hv.open
 obtain ⟨_,c1,c2⟩:=DN w t (.slice ao l.length cap) x 153 ht
 have hb0:Below w.heap.size w (w.alloc (.cells (cmC t (.slice ao l.length cap) x).toArray 153)):=bal
 have HB0:=ah hb0
 have hlt0:w.heap.size < (w.alloc (.cells (cmC t (.slice ao l.length cap) x).toArray 153)).heap.size:=by simp
 have HZ:=ah hl
 have HV:=ah hv
 have HC:Hid (aZ (t,l,x) = (decide l.Nodup && decide (l.length ≤ 4 ∧ x.size ≤ 64))):=ah rfl
 clear hv hl hb0
 generalize cmC t (.slice ao l.length cap) x = cs at c1 c2 HB0 hlt0
 by_cases h4:4 < l.length
 ·have HR:Hid (aZ (t,l,x) = false):=by unfold Hid;rw [HC.out,decide_eq_false (show ¬ (l.length ≤ 4 ∧ x.size ≤ 64) by omega),Bool.and_false]
  have d1:decide ((4:Int) < l.length) = true:=decide_eq_true (by omega)
  go_enter func129,ntmps129
  go_wp2
  go_ret
  exact ⟨aL HR.out.symm,HB0.out⟩
 have d1:decide ((4:Int) < l.length) = false:=decide_eq_false (by omega)
 by_cases h64:64 < x.size
 ·have HR:Hid (aZ (t,l,x) = false):=by unfold Hid;rw [HC.out,decide_eq_false (show ¬ (l.length ≤ 4 ∧ x.size ≤ 64) by omega),Bool.and_false]
  have d2:decide ((64:Int) < x.size) = true:=decide_eq_true (by omega)
  go_enter func129,ntmps129
  go_wp2
  go_ret
  exact ⟨aL HR.out.symm,HB0.out⟩
 have d2:decide ((64:Int) < x.size) = false:=decide_eq_false (by omega)
 have HC2:Hid (aZ (t,l,x) = decide l.Nodup):=by unfold Hid;rw [HC.out,decide_eq_true (show l.length ≤ 4 ∧ x.size ≤ 64 by omega),Bool.and_true]
 clear h4 h64
 go_enter func129,ntmps129
 go_wp2
 obtain ⟨W,hW⟩:∃ W,W = w.alloc (.cells cs.toArray 153):=⟨_,rfl⟩
 rw [← hW] at c1 c2 HB0 hlt0 ⊢
 clear hW
 go_loopw [3,4] (fun i j wr => ∃ k:Nat,k ≤ l.length ∧ i = .int .i64 k ∧ Hid ((l.take k).Nodup) ∧ Below W.heap.size W wr) (fun i _ _ => (l.length - intOf i).toNat)
 case atStart => exact ⟨0,by omega,rfl,List.nodup_nil,Below.refl _ _⟩
 obtain ⟨wo,rfl⟩:∃ wo:World,wo = wr:=⟨_,rfl⟩
 obtain ⟨k,hk,rfl,hnd,hb⟩:=hrel
 have e1:=ak c1 hb hlt0
 by_cases hlt:k < l.length
 ·obtain ⟨b,off,rfl,hbl,hcell⟩:=HV.out (by intro e;rw [e] at hlt;simp at hlt)
  have c3:=au (hcell k hlt) (HB0.out.trans (hb.mono HB0.out.size)) hbl
  have hzk:=HZ.out l[k] (List.getElem_mem hlt)
  have HCK:=ah (fun j (hj:j < l.length) w' (hb':Below w.heap.size w w') => au (hcell j hj) hb' hbl)
  have hbo:b < wo.heap.size:=by have:=HB0.out.size;have:=hb.size;omega
  have hlto:w.heap.size < wo.heap.size:=by have:=hb.size;omega
  have HBO:=ah hb
  have HND:=ah hnd.out
  clear hcell hnd hb
  go_wp2
  go_loopw [4] (fun j wr => ∃ m:Nat,m ≤ k ∧ j = .int .i64 m ∧ Hid (∀ j (hj:j < m) (hm:m ≤ k),l[j] ≠ l[k]) ∧ Below wo.heap.size wo wr) (fun j _ => (k - intOf j).toNat)
  case atStart => exact ⟨0,by omega,rfl,fun j hj _ => absurd hj (by omega),Below.refl _ _⟩
  obtain ⟨wi,rfl⟩:∃ wi:World,wi = wr:=⟨_,rfl⟩
  obtain ⟨m,hm,rfl,hne,hbi⟩:=hrel
  by_cases hmk:m < k
  ·have f1:=ak e1 hbi hlto
   have f3:=au c3 hbi hbo
   have hlti:w.heap.size < wi.heap.size:=by have:=hbi.size;omega
   have hbli:b < wi.heap.size:=by have:=hbi.size;omega
   have hbw:Below w.heap.size w wi:=(HB0.out.trans (HBO.out.mono HB0.out.size)).trans (hbi.mono (by have:=HB0.out.size;have:=HBO.out.size;omega))
   have f4:=HCK.out m (by omega) wi hbw
   have hzm:=HZ.out l[m] (List.getElem_mem (show m < l.length by omega))
   have h32k:=dG (us:=idC l[k]) (by rw [aD,hzk])
   have h32m:=dG (us:=idC l[m]) (by rw [aD,hzm])
   have k0:(0:Int) ≤ k:=by omega
   have k1:(k:Int) < l.length:=by omega
   have m0:(0:Int) ≤ m:=by omega
   have m1:(m:Int) < l.length:=by omega
   have m2:decide ((m:Int) < k) = true:=decide_eq_true (by omega)
   have HNE:=ah hne.out
   clear hne hbw
   by_cases he:l[k] = l[m]
   ·have heq:=fun w => Dc hzk he w
    have HR:Hid (aZ (t,l,x) = false):=by unfold Hid;rw [HC2.out];exact decide_eq_false (yZ hmk hlt he.symm)
    clear he hzk hzm
    generalize idC l[k] = uk at f3 h32k heq
    generalize idC l[m] = um at f4 h32m heq
    go_wp2
    refine wbq ?_
    have LQ0:=blq f1
    repeat (go_big_quiet_step (fail))
    refine bg 24 _ _ rfl rfl rfl f3 (by omega) underlying24 rfl h32k ?_
    simp only [Act.put,nz]
    repeat (go_big_quiet_step (fail))
    refine bg 24 _ _ rfl rfl rfl f4 (by omega) underlying24 rfl h32m ?_
    simp only [Act.put,nz]
    repeat (go_big_quiet_step (fail))
    refine wpQuiet_nil ?_
    intro wq hbq
    clear LQ0
    go_wp2
    go_ret
    exact ⟨aL HR.out.symm,(HB0.out.trans (HBO.out.mono HB0.out.size)).trans ((hbi.trans (hbq.mono hbi.size)).mono (by have:=HB0.out.size;have:=HBO.out.size;omega))⟩
   have heq:=fun w => FP hzk hzm he w
   have HE:=ah he
   clear he hzk hzm
   generalize idC l[k] = uk at f3 h32k heq
   generalize idC l[m] = um at f4 h32m heq
   go_wp2
   refine wbq ?_
   have LQ0:=blq f1
   repeat (go_big_quiet_step (fail))
   refine bg 24 _ _ rfl rfl rfl f3 (by omega) underlying24 rfl h32k ?_
   simp only [Act.put,nz]
   repeat (go_big_quiet_step (fail))
   refine bg 24 _ _ rfl rfl rfl f4 (by omega) underlying24 rfl h32m ?_
   simp only [Act.put,nz]
   repeat (go_big_quiet_step (fail))
   refine wpQuiet_nil ?_
   intro wq hbq
   clear LQ0
   have HBI:=ah (hbi.trans (hbq.mono hbi.size))
   clear hbi hbq f1 f3 f4
   go_wp2
   go_roundw
   case rel => exact ⟨m + 1,by omega,by go_num,fun j hj hm2 => by
    rcases Nat.lt_or_ge j m with h | h
    ·exact HNE.out j h hm
    obtain rfl:j = m:=by omega
    exact fun e => HE.out e.symm,HBI.out⟩
   case measure => simp [intOf];omega
  obtain rfl:m = k:=by omega
  have m2:decide ((m:Int) < m) = false:=decide_eq_false (by omega)
  have HNX:=ah (uj hlt HND.out (fun j hj => hne.out j hj (Nat.le_refl _)))
  have HBI:=bth HBO hbi
  clear hne hbi
  go_wp2
  go_roundw
  case rel => exact ⟨m + 1,by omega,by go_num,HNX.out,HBI.out⟩
  case measure => simp [intOf];omega
 obtain rfl:k = l.length:=by omega
 have HR:Hid (aZ (t,l,x) = true):=by
  unfold Hid;rw [HC2.out]
  have:=hnd.out
  rw [List.take_length] at this
  exact decide_eq_true this
 clear hnd
 go_wp2
 go_ret
 exact ⟨aL HR.out.symm,HB0.out.trans (hb.mono HB0.out.size)⟩
def GI (b:Nat) (w:World):Nat:=match w.cell? ⟨b,1,none⟩,w.cell? ⟨b,2,none⟩ with
 | some (.int _ p),some (.int _ e) => if e = 0 then 1000001 - p.toNat else 0
 | _,_ => 0
theorem pX {b:Nat} {w:World} {r:Rd} (h:Arr w b 3 r.c):GI b w = if r.err = 0 then 1000001 - r.pos else 0:=by
 unfold GI
 have c1:w.cell? ⟨b,1,none⟩ = some (.int .i64 (r.pos:Int)):=h.cell 1 (by omega)
 have c2:w.cell? ⟨b,2,none⟩ = some (.int .i64 (r.err:Int)):=h.cell 2 (by omega)
 rw [c1,c2]
 by_cases h0:r.err = 0
 ·simp [h0]
 simp [h0]
theorem sU (w:World) (s:ByteArray) (e:TypeId):Arr (w.alloc (.cells #[.string s,.int .i64 0,.int .i64 0] e)) w.heap.size 3 (rd0 s).c :=
 (Arr.ofList w [.string s,.int .i64 0,.int .i64 0] e).congr fun k hk => by
  obtain h | h | h:k = 0 ∨ k = 1 ∨ k = 2:=by simp at hk;omega
  all_goals subst h;rfl
def entZ (k:Nat):Value:=if k = 0 then .string ByteArray.empty else if k = 1 then .int .i64 0 else .int .u8 0
theorem J5:#[.string ⟨#[]⟩,.int .i64 0,.int .u8 0,.int .u8 0,.int .u8 0,.int .u8 0,.int .u8 0,.int .u8 0,.int .u8 0,.int .u8 0,.int .u8 0,.int .u8 0,.int .u8 0,.int .u8 0,.int .u8 0,.int .u8 0,.int .u8 0,.int .u8 0,.int .u8 0,.int .u8 0,.int .u8 0,.int .u8 0,.int .u8 0,.int .u8 0,.int .u8 0,.int .u8 0,.int .u8 0,.int .u8 0,.int .u8 0,.int .u8 0,.int .u8 0,.int .u8 0,.int .u8 0,.int .u8 0] = ((List.range 34).map entZ).toArray:=by kernel_rfl
theorem wO:∃ (zs:Array Value) (i0:TypeInfo),prog.info? 231 = some i0 ∧ i0.zero = some (.agg zs) ∧ i0.size = 34 ∧ i0.bytes = 56 ∧ (∀ w,(zeroValue 231).run prog w = .ok (.agg zs) w) ∧ (∀ w,(Instr.build 231 #[]).run prog w = .ok (.agg zs) w) ∧ zs = ((List.range 34).map entZ).toArray:=by
 have h:(prog.info? 231).map (fun i => (i.zero,i.size,i.bytes)) = some (some (.agg #[.string ⟨#[]⟩,.int .i64 0,.int .u8 0,.int .u8 0,.int .u8 0,.int .u8 0,.int .u8 0,.int .u8 0,.int .u8 0,.int .u8 0,.int .u8 0,.int .u8 0,.int .u8 0,.int .u8 0,.int .u8 0,.int .u8 0,.int .u8 0,.int .u8 0,.int .u8 0,.int .u8 0,.int .u8 0,.int .u8 0,.int .u8 0,.int .u8 0,.int .u8 0,.int .u8 0,.int .u8 0,.int .u8 0,.int .u8 0,.int .u8 0,.int .u8 0,.int .u8 0,.int .u8 0,.int .u8 0]),34,56):=by kernel_rfl
 obtain ⟨i0,hi,hz0,hz1,hz2⟩:=info_parts h
 exact ⟨#[.string ⟨#[]⟩,.int .i64 0,.int .u8 0,.int .u8 0,.int .u8 0,.int .u8 0,.int .u8 0,.int .u8 0,.int .u8 0,.int .u8 0,.int .u8 0,.int .u8 0,.int .u8 0,.int .u8 0,.int .u8 0,.int .u8 0,.int .u8 0,.int .u8 0,.int .u8 0,.int .u8 0,.int .u8 0,.int .u8 0,.int .u8 0,.int .u8 0,.int .u8 0,.int .u8 0,.int .u8 0,.int .u8 0,.int .u8 0,.int .u8 0,.int .u8 0,.int .u8 0,.int .u8 0,.int .u8 0],i0,hi,hz0,hz1,hz2,fun w => by kernel_rfl,fun w => run_build w 231 #[] _ (by kernel_rfl),J5⟩
theorem ML:∀ v ∈ (List.range 34).map entZ,v.oneCell' = true:=by
 intro v hv
 obtain ⟨k,_,rfl⟩:=List.mem_map.1 hv
 unfold entZ;split
 ·rfl
 split <;> rfl
def entF (e:Ent) (k:Nat):Value:=(entC e).getD k undef
theorem DJ (e:Ent) (h:e.id.length = 32) (k:Nat) (hk:k < 34):(if 2 ≤ k ∧ k < 2 + (idC e.id).length then (idC e.id).getD (k - 2) undef else upd (upd entZ 1 (.int .i64 (e.kind:Int))) 0 (.string e.name) k) = entF e k:=by
 have hl:(idC e.id).length = 32:=by rw [aD,h]
 rw [hl]
 unfold upd entF entC
 obtain h0 | h0 | h0:k = 0 ∨ k = 1 ∨ 2 ≤ k:=by omega
 ·subst h0;rfl
 ·subst h0;rfl
 rw [if_pos ⟨h0,by omega⟩]
 rw [List.getD_eq_getElem?_getD,List.getD_eq_getElem?_getD,List.getElem?_append_right (by simpa using h0)];rfl
theorem ql (e:Ent):∀ v ∈ entC e,v.oneCell' = true:=by
 intro v hv
 unfold entC at hv
 rcases List.mem_append.1 hv with h | h
 ·simp at h;rcases h with rfl | rfl <;> rfl
 exact bX _ v h
theorem lK (w:World) (cs:List Value) (e:TypeId) (j:Nat) (u:Value) (h:cs[j]? = some u):(w.alloc (.cells cs.toArray e)).cell? ((⟨w.heap.size,0,none⟩:Addr).add j) = some u:=by
 rw [Addr.add_mid,Nat.zero_add,World.cell?_alloc_new];simpa using h
theorem zF (e:Ent) (h:e.id.length = 32):(List.range 34).map (entF e) = entC e:=by
 have hl:(entC e).length = 34:=by simp [entC,aD,h]
 apply List.ext_getElem
 ·simp [hl]
 intro i h1 h2
 simp [entF,h2]
def lY (l:List Ent):List Value:=(l.map entC).flatten
theorem wL (l:List Ent) (e:Ent):lY (l ++ [e]) = lY l ++ entC e:=by simp [lY]
theorem zD (r:Rd):∀ (f:Nat) (es:List Ent),r.more = false → r.iC f es = (r,es)
 | 0,_,_ => rfl
 | _ + 1,_,h => by unfold Rd.iC;rw [h];rfl
theorem GV (r : Rd) : ∀ (f : Nat) (es : List Ent), r.more = true → 0 < f → r.iC f es = r.entry.1.iC (f - 1) (es ++ [r.entry.2])
  | 0, _, _, h => by omega
  | f + 1, es, h, _ => by conv => lhs; unfold Rd.iC
                          rw [if_pos h]; rfl
theorem own_below {w w':World} {B:Nat} {e:TypeId} {sz:Nat} {v:Value} {n:Nat} {xs:List Value} (h:w.ownsRow B e sz v n xs) (hb:Below w.heap.size w w'):w'.ownsRow B e sz v n xs :=
 h.kept (aA hb none) (by cases hv:v.ownBlock <;> simp)
theorem bC {w w':World} {B b:Nat} {e:TypeId} {sz:Nat} {v:Value} {n:Nat} {xs:List Value} (h:w.ownsRow B e sz v n xs) (hg:w.grownBy w' (some b)) (hb:b < B):w'.ownsRow B e sz v n xs :=
 h.kept hg (by
  cases hv:v.ownBlock with
  | none => exact .inl rfl
  | some g => right;intro e;cases e;have:=(h.lt b hv).1;omega)
theorem own_ne {w:World} {B b:Nat} {e:TypeId} {sz:Nat} {v:Value} {n:Nat} {xs:List Value} (h:w.ownsRow B e sz v n xs) (hb:b < B):v.ownBlock = none ∨ v.ownBlock ≠ some b:=by
 cases hv:v.ownBlock with
 | none => exact .inl rfl
 | some g => right;intro e;cases e;have:=(h.lt b hv).1;omega
theorem nD {w:World} {B:Nat} {e:TypeId} {sz:Nat} {v:Value} {n:Nat} {xs:List Value} (h:w.ownsRow B e sz v n xs):v.ownBlock = none ∨ v.ownBlock ≠ some w.heap.size:=by
 cases hv:v.ownBlock with
 | none => exact .inl rfl
 | some g => right;intro e;cases e;have:=(h.lt _ hv).2;omega
theorem bE {w:World} {B b o:Nat} {e:TypeId} {sz:Nat} {v u:Value} {n:Nat} {xs:List Value} (h:w.ownsRow B e sz v n xs) (hne:v.ownBlock = none ∨ v.ownBlock ≠ some b):(w.setCell ⟨b,o,none⟩ u).ownsRow B e sz v n xs :=
 h.kept (aI (World.grownBy.refl w (some b)) u) hne
theorem gX {w:World} {B b o:Nat} {e:TypeId} {sz:Nat} {v:Value} {n:Nat} {xs us:List Value} (h:w.ownsRow B e sz v n xs) (hne:v.ownBlock = none ∨ v.ownBlock ≠ some b):(w.setCells b o us).ownsRow B e sz v n xs :=
 h.kept (fH us o w (World.grownBy.refl w (some b))) hne
theorem Arr.jG {w w':World} {b n:Nat} {c:Nat → Value} (h:Arr w b n c) {row:Option Nat} (hg:w.grownBy w' row) (hne:row ≠ some b):Arr w' b n c :=
 ⟨fun k hk => hg.cell (h.cell k hk) (fun e => hne e.symm),fun k hk => by
  rw [World.frozen?_of_block (w:=w) (a:=⟨b,k,none⟩) (hg.block b (h.lt (by omega)) (fun e => hne e.symm))];exact h.free k hk⟩
theorem Arr.eF {w:World} {b n B:Nat} {c:Nat → Value} (h:Arr w b n c) (hne:B ≠ b):∀ (us:List Value) (o:Nat),Arr (w.setCells B o us) b n c:=fun us o =>
 h.jG (fH us o w (World.grownBy.refl w (some B))) (fun e => hne (Option.some.inj e))
theorem wM (r:Rd) (hf:r.fine):(if r.entry.1.err = 0 then 1000001 - r.entry.1.pos else 0) < 1000001 - r.pos:=by
 have h1:=hf.pos
 have h2:=hf.size
 split
 ·rename_i h
  obtain ⟨_,_,h3,_⟩:=r.iY hf h
  omega
 omega
theorem Al (s:ByteArray) (w:World) (hs:s.size ≤ 100000) :
  Calls prog 65 #[.string s] w fun e w' => ∃ v,e = .returned (.tuple #[v,.bool (bQ s).isSome]) ∧ (fq w' v ((bQ s).getD []) ∧ w'.ownsRow (w.heap.size + 1) 231 34 v ((bQ s).getD []).length (((bQ s).getD []).map entC).flatten) ∧ Below w.heap.size w w':=by
 obtain ⟨zs,i0,hi,hz0,hz1,hz2,hzv,hbu,hzs⟩:=wO
 have hzl:zs.size = 34:=by rw [hzs];simp
 have HZL:=ah hzl
 have HZS:=ah hzs
 clear hzl hzs
 have HA0:=ah (sU w s 228)
 have hb0:Below w.heap.size w (w.alloc (.cells #[.string s,.int .i64 0,.int .i64 0] 228)):=bal
 have HB0:=ah hb0
 clear hb0
 go_enter func65,ntmps65
 go_wp2
 go_loopw [5,6] (fun v _ wr => ∃ (r:Rd) (es:List Ent) (f:Nat),Arr wr w.heap.size 3 r.c ∧ Hid r.fine ∧ r.err ≤ 4 ∧ Hid (r.s = s) ∧ Hid (r.iC f es = (rd0 s).iC (s.size + 1) []) ∧ Hid (r.err = 0 → r.s.size - r.pos < f ∧ es.length ≤ r.pos) ∧ Hid (∀ e ∈ es,e.id.length = 32) ∧ es.length ≤ 100001 ∧ wr.ownsRow (w.heap.size + 1) 231 34 v es.length (lY es) ∧ Below w.heap.size w wr) (fun _ _ wr => GI w.heap.size wr)
 case atStart => exact ⟨rd0 s,[],s.size + 1,HA0.out,gW s (by omega),by show 0 ≤ 4;omega,rfl,rfl,(fun _ => ⟨by show s.size - 0 < s.size + 1;omega,Nat.zero_le _⟩),(fun e he => by cases he),by simp,World.ownsRow_nil _ _ _ _,HB0.out⟩
 obtain ⟨wo,rfl⟩:∃ wo:World,wo = wr:=⟨_,rfl⟩
 obtain ⟨r,es,f,hA,hf,h4,hrs,hN,hfu,hid,hlen,hown,hb⟩:=hrel
 have c1:wo.cell? ⟨w.heap.size,1,none⟩ = some (.int .i64 (r.pos:Int)):=hA.cell 1 (by omega)
 have c2:wo.cell? ⟨w.heap.size,2,none⟩ = some (.int .i64 (r.err:Int)):=hA.cell 2 (by omega)
 have hlto:=hA.lt (by omega)
 obtain ⟨co,cc,rfl⟩:=ay hown
 by_cases hm:r.more = true
 ·obtain ⟨he0,hps⟩:=of_decide_eq_true hm
  obtain ⟨hfu1,hfu2⟩:=hfu.out he0
  have d1:((r.err:Int) == 0) = true:=by rw [beq_iff_eq];omega
  have d2:decide ((r.pos:Int) < s.size) = true:=decide_eq_true (by rw [hrs.out] at hps;omega)
  have d3:decide (r.pos < s.size) = true:=decide_eq_true (by rw [hrs.out] at hps;omega)
  have HLM:=ah (pX hA)
  have HE0:=ah he0
  have HM:=ah hm
  have hel:=ah (wM r hf.out)
  have hentry:Hid (r.entry = (((r.num 2).1.text 32).1.id.1,⟨((r.num 2).1.text 32).2,(r.num 2).2,((r.num 2).1.text 32).1.id.2⟩)):=ah rfl
  have hf1:=ah (Rd.aT r 2 hf.out)
  have hf2:=ah (Rd.dK _ 32 hf1.out.1)
  have HA:=ah hA
  have HN:=ah (fun W (hA:Arr W w.heap.size 3 r.c) => gQ w.heap.size r 2 W hA hf.out (by omega))
  have HT:=ah (fun W (hA:Arr W w.heap.size 3 (r.num 2).1.c) => jv w.heap.size _ 32 W hA hf1.out.1 (by omega))
  have HI:=ah (fun W (hA:Arr W w.heap.size 3 ((r.num 2).1.text 32).1.c) => Aj w.heap.size _ W hA hf2.out)
  have HIL:Hid ((((r.num 2).1.text 32).1.id.2).length = 32):=ah (gF _)
  have HEF:=ah (r.jH hf.out)
  have HE4:=ah (r.wN h4)
  have HES:=ah (r.GX)
  have HECN:=ah (r.iY hf.out)
  have HST:Hid (r.iC f es = r.entry.1.iC (f - 1) (es ++ [r.entry.2])):=ah (GV r f es hm (by omega))
  clear hA hm he0
  generalize r.entry = en at hentry hel HEF HE4 HES HECN HST
  obtain ⟨r',e⟩:=en
  generalize r.num 2 = x1 at hentry HN HT hf1 HI HIL hf2
  obtain ⟨r1,kd⟩:=x1
  dsimp only at hentry HN HT hf1 HI HIL hf2
  generalize r1.text 32 = x2 at hentry HT HI HIL hf2
  obtain ⟨r2,nm⟩:=x2
  dsimp only at hentry HT HI HIL hf2
  generalize r2.id = x3 at hentry HI HIL
  obtain ⟨r3,d⟩:=x3
  dsimp only at hentry HI HIL HEF HE4 HES hel HECN HST
  obtain ⟨rfl,rfl⟩:r' = r3 ∧ e = ⟨nm,kd,d⟩:=by have:=hentry.out;injection this with h1 h2;exact ⟨h1,h2⟩
  clear hentry
  have hE0:Arr (wo.alloc (.cells zs 231)) wo.heap.size 34 entZ:=by
   rw [HZS.out]
   exact (Arr.ofList wo ((List.range 34).map entZ) 231).congr fun k hk => by simp at hk;simp [hk]
  have HE0A:=ah hE0
  have hE:Arr ((wo.alloc (.cells zs 231)).setCells wo.heap.size 0 zs.toList) wo.heap.size 34 entZ :=
   (hE0.setCells 0 zs.toList (by rw [Array.length_toList,HZL.out];exact Nat.le_refl _)).congr fun k hk => by
    rw [Array.length_toList,HZL.out,if_pos ⟨by omega,by omega⟩,HZS.out];simp [hk]
  have hbW:Below wo.heap.size wo ((wo.alloc (.cells zs 231)).setCells wo.heap.size 0 zs.toList):=below_setCells _ (Nat.le_refl _) _ _ _ bal
  have HE:=ah hE
  have HBW:=ah hbW
  clear hE0 hE hbW
  go_wp2_with (refine wpList_store_mid rfl 231 _ _ rfl wo.heap.size 0 zs rfl rfl ?g1 ?g2 ?g3 ?_)
  case g1 => rw [HZL.out];exact HE0A.out.there
  case g2 => exact HZL.out.symm
  case g3 =>
   intro i hi'
   have hm:zs[i] ∈ zs.toList:=by simp
   have h2:zs.toList = (List.range 34).map entZ:=by rw [HZS.out]
   exact ML _ (h2 ▸ hm)
  generalize hW:(wo.alloc _).setCells _ _ _ = W
  rw [hW] at HE HBW
  have hAW:=HA.out.below HBW.out hlto
  have HOW:=ah (own_below hown HBW.out)
  have hown0:=ah hown.lt
  have HNE:=ah (nD hown)
  have HNB:=ah (own_ne hown (Nat.lt_succ_self w.heap.size))
  have hszW:wo.heap.size < W.heap.size:=HE.out.lt (by omega)
  clear hW hown c1 c2 HE0A
  refine (HN.out W hAW).mono ?_
  rintro e w1 ⟨rfl,hA1,hg1⟩
  have hE1:=HE.out.grown hg1 (by omega)
  have hO1:=bC HOW.out hg1 (by omega)
  have c1:=hE1.cell 1 (by omega)
  have f1:=hE1.free 1 (by omega)
  have HA1:=ah (hA1.far (p:=⟨wo.heap.size,1,none⟩) (by show wo.heap.size ≠ _;omega) (.int .i64 (kd:Int)))
  have HE1:=ah (hE1.set 1 (by omega) (.int .i64 (kd:Int)))
  have HO1:=ah (bE (o:=1) (u:=.int .i64 (kd:Int)) hO1 HNE.out)
  have HG1:=ah hg1
  clear hA1 hE1 hO1 hg1
  go_wp2_with fail
  refine (HT.out _ HA1.out).mono ?_
  rintro e w2 ⟨rfl,hA2,hg2⟩
  have hE2:=HE1.out.grown hg2 (by omega)
  have hO2:=bC HO1.out hg2 (by omega)
  have c2:=hE2.cell 0 (by omega)
  have f2:=hE2.free 0 (by omega)
  have HA2:=ah (hA2.far (p:=⟨wo.heap.size,0,none⟩) (by show wo.heap.size ≠ _;omega) (.string nm))
  have HE2:=ah (hE2.set 0 (by omega) (.string nm))
  have HO2:=ah (bE (o:=0) (u:=.string nm) hO2 HNE.out)
  have HG2:=ah hg2
  clear hA2 hE2 hO2 hg2 c1 f1
  go_wp2_with fail
  refine (HI.out _ HA2.out).mono ?_
  rintro e w3 ⟨rfl,hA3,hg3⟩
  have hdl:(idC d).length = 32:=by rw [aD,HIL.out]
  have hE3:=HE2.out.grown hg3 (by omega)
  have hO3:=bC HO2.out hg3 (by omega)
  have HA3:=ah (hA3.eF (B:=wo.heap.size) (by omega) (idC d) 2)
  have HE3:=ah ((hE3.setCells 2 (idC d) (by omega)).congr (fun k hk => DJ ⟨nm,kd,d⟩ HIL.out k hk))
  have HO3:=ah (gX (o:=2) (us:=idC d) hO3 HNE.out)
  have hth:w3.there wo.heap.size 2 32:=fun j hj => ⟨by rw [hE3.cell _ (by omega)];rfl,hE3.free _ (by omega)⟩
  have HTH:=ah hth
  have HG3:=ah hg3
  have HDL:=ah hdl
  have HDO:=ah (bX d)
  have h32:(prog.info? 24).map (·.size) = some 32:=by kernel_rfl
  have hel34:(entC ⟨nm,kd,d⟩).length = 34:=by simp [entC,aD,HIL.out]
  have h34:(prog.info? 231).map (·.size) = some (entC ⟨nm,kd,d⟩).length:=by
   rw [hel34,hi];exact congrArg some hz1
  have HEL34:=ah hel34
  have HOC:=ah (ql ⟨nm,kd,d⟩)
  clear hel34
  clear hA3 hE3 hO3 hg3 c2 f2 hth hdl
  have hdv:idV d = .agg (idC d).toArray:=rfl
  rw [hdv]
  clear hdv
  generalize hcs:entC ⟨nm,kd,d⟩ = cs at h34 HEL34 HOC
  have hrg:=HE3.out.range
  rw [zF ⟨nm,kd,d⟩ HIL.out,hcs] at hrg
  have HCS:=ah hcs
  clear hcs
  have HSZC:Hid (∀ w,(sizeOf 231).run prog w = .ok cs.length w):=ah (fun w => by rw [HEL34.out];kernel_rfl)
  have HPC:=ah (show 0 < cs.length by rw [HEL34.out];omega)
  have HLC:=ah (show cs.length ≤ 1000 by rw [HEL34.out];omega)
  generalize hus:idC d = us at HA3 HE3 HO3 HDL HDO hrg
  clear hus
  have HRG:=ah hrg
  have hsz4:wo.heap.size < (w3.setCells wo.heap.size 2 us).heap.size:=HE3.out.lt (show 0 < 34 by omega)
  have HSZ4:=ah hsz4
  clear hrg hsz4
  go_wp2_with (first | (refine aj rfl 24 _ _ rfl wo.heap.size 2 us ?y1 ?y2 32 HDL.out ?y4 h32 HDO.out ?_) | (refine wpList_load_mid rfl 231 _ rfl wo.heap.size 0 rfl cs _ HRG.out underlying231 rfl h34 ?_) | (refine av rfl (.tmp 35) 149 231 rfl cs zs rfl underlying149 HSZC.out hzv HPC.out HLC.out ?_) | (at_builtin;refine wpList_append_own _ rfl (.tmp 34) (.tmp 36) 149 rfl (w.heap.size + 1) 231 i0 (.agg zs) 34 56 underlying149 hi hz0 hz1 hz2 HZL.out (by decide) _ es.length (lY es) rfl (HO3.out.alloc _) ⟨(w3.setCells wo.heap.size 2 us).heap.size,0,none⟩ 1 1 cs ?a1 HEL34.out ?a2 HOC.out ?a3 ?a4 ?a5 ?_))
  try case y1 => rfl
  try case y2 => rfl
  try case y4 => exact HTH.out
  case a2 => exact fun j u hj => lK _ cs _ j u hj
  case a3 => unfold maxLen;omega
  case a4 => omega
  case a5 => rw [World.size_alloc];have:=HSZ4.out;omega
  intro v' w5 hown5 hg5 _
  have hb4:Below w.heap.size w (w3.setCells wo.heap.size 2 us):=by
   refine below_setCells _ (by omega) _ _ _ ?_
   have q1:=(hb.trans (HBW.out.mono hb.size)).grown HG1.out (by have:=HBW.out.size;omega) (fun k hk => by cases hk;exact Nat.le_refl _)
   have q2:=(q1.setCell (p:=⟨wo.heap.size,1,none⟩) (by show w.heap.size ≤ wo.heap.size;omega) (.int .i64 (kd:Int))).grown HG2.out (by have:=HG1.out.size;simp;omega) (fun k hk => by cases hk;exact Nat.le_refl _)
   exact (q2.setCell (p:=⟨wo.heap.size,0,none⟩) (by show w.heap.size ≤ wo.heap.size;omega) (.string nm)).grown HG3.out (by have:=HG2.out.size;have:=HG1.out.size;simp at *;omega) (fun k hk => by cases hk;exact Nat.le_refl _)
  have hb5:Below w.heap.size w w5:=(hb4.alloc hb4.size _).grown hg5 (by rw [World.size_alloc];have:=hb4.size;omega) (fun k hk => by have:=(hown0.out k hk).1;omega)
  have hA5:Arr w5 w.heap.size 3 r'.c:=(HA3.out.alloc (by omega) _).jG hg5 (fun e => by have:=(hown0.out _ e).1;omega)
  have HA5:=ah hA5
  have HB5:=ah hb5
  rw [← HCS.out,← wL] at hown5
  have HO5:=ah hown5
  have hpos:=hf.out.pos
  have hrs':r.s.size = s.size:=by rw [hrs.out]
  clear hA5 hb5 hb4 hown5 hg5
  go_wp2
  go_roundw
  case rel =>
   refine ⟨r',es ++ [⟨nm,kd,d⟩],f - 1,HA5.out,HEF.out,HE4.out,HES.out.trans hrs.out,ah (HST.out.symm.trans hN.out),fun h0 => ?_,fun e he => ?_,by simp;omega,by rw [List.length_append];exact HO5.out,HB5.out⟩
   ·obtain ⟨_,_,q3,_⟩:=HECN.out h0
    rw [HES.out,List.length_append,List.length_singleton]
    omega
   rcases List.mem_append.1 he with h | h
   ·exact hid.out e h
   rw [List.mem_singleton.1 h];exact HIL.out
  rw [pX HA5.out,HLM.out,if_pos HE0.out];exact hel.out
 have hm2:r.more = false:=by simpa using hm
 have hst:(rd0 s).iC (s.size + 1) [] = (r,es):=by rw [← hN.out];exact zD r f es hm2
 rw [Rd.wK] at hst
 have e1:(jA s).1 = r:=congrArg Prod.fst hst
 have e2:(jA s).2 = es:=congrArg Prod.snd hst
 have HTO:Hid (bQ s = if r.fin = 0 ∧ eY es = true then some es else none):=by unfold Hid bQ;rw [e1,e2]
 have HEND:=ah (fun W (hA:Arr W w.heap.size 3 r.c) => kJ w.heap.size r W hA hf.out)
 have HAR:=ah hA
 have HOWN:=ah hown
 clear hst hN hA hown hm
 by_cases h0:r.err = 0
 ·have hps:¬ r.pos < r.s.size:=fun h => by have:=of_decide_eq_false hm2;exact this ⟨h0,h⟩
  have hrs':r.s.size = s.size:=by rw [hrs.out]
  have d1:((r.err:Int) == 0) = true:=by rw [beq_iff_eq];omega
  have d2:decide ((r.pos:Int) < s.size) = false:=decide_eq_false (by omega)
  have d3:decide (r.pos < s.size) = false:=decide_eq_false (by omega)
  have hfin:r.fin = 0:=by unfold Rd.fin;rw [if_neg (by simp [h0]),if_neg hps]
  have HER:Hid (∀ W,Below wo.heap.size wo W → fq W (.slice co es.length cc) es):=ah (fun W hb' => (aK.aS (B:=w.heap.size + 1) (e:=231) (sz:=34) (rows:=es.map entC) (fun r hr => by
   obtain ⟨e,he,rfl⟩:=List.mem_map.1 hr
   simp [entC,aD,hid.out e he]) (by rw [List.length_map];exact HOWN.out)).below hb')
  have e0:(jA s).1.err = 0:=by rw [e1];exact h0
  have hsm:=Rd.oL (s.size + 1) (rd0 s) (gW s (by omega)) e0
  have e3:((rd0 s).ents (s.size + 1)).2 = es:=e2
  rw [e3] at hsm
  have HTR:=ah (fun W (hb':Below wo.heap.size wo W) => uF (.slice co es.length cc) es W (HER.out W hb') (fun e he => by have:=hsm e he;omega))
  have HBD:Hid (eY es = true → ∀ W,Below wo.heap.size wo W → Calls prog 128 #[.slice co es.length cc] W fun e w' => e = .returned (.string s) ∧ Below W.heap.size W w'):=ah (fun hok W hb' => by
   have h32:es.length ≤ 32:=by
    rw [gK] at hok
    simp only [Bool.and_eq_true,decide_eq_true_eq] at hok
    exact hok.2
   have:=xM (.slice co es.length cc) es W (HER.out W hb') (fun e he => by have h1:=hsm e he;exact ⟨by omega,by omega,hid.out e he⟩) (by omega)
   have hc:=Ac s (by omega) (by rw [e1];exact hfin)
   rw [e2] at hc
   rw [hc,lu] at this
   exact this)
  rw [hfin] at HEND
  clear hsm e0 e1 e2 e3 hps h0 hm2
  have HFIN:=ah hfin
  clear hfin
  cases hok:eY es with
  | false =>
   have HR:Hid (bQ s = none):=by unfold Hid;rw [HTO.out,if_neg (by rw [hok];simp)]
   rw [hok] at HTR
   clear hok
   go_wp2_with fail
   refine (HEND.out _ HAR.out).mono ?_
   rintro e w1 ⟨rfl,hb1⟩
   have HB1:=ah hb1
   clear hb1
   go_wp2_with fail
   refine (HTR.out _ HB1.out).mono ?_
   rintro e w2 ⟨rfl,hb2⟩
   have HB2:=ah (hb.trans ((HB1.out.trans (hb2.mono HB1.out.size)).mono hb.size))
   clear hb2
   go_wp2
   go_ret2
   exact ⟨.slice none 0 0,by rw [HR.out];rfl,by rw [HR.out];exact ⟨⟨none,0,rfl,by simp,fun h => absurd rfl h⟩,World.ownsRow_nil _ _ _ _⟩,HB2.out⟩
  | true =>
   have HR:Hid (bQ s = some es):=by unfold Hid;rw [HTO.out,if_pos ⟨HFIN.out,hok⟩]
   have HBD2:=ah (HBD.out hok)
   rw [hok] at HTR
   clear hok
   go_wp2_with fail
   refine (HEND.out _ HAR.out).mono ?_
   rintro e w1 ⟨rfl,hb1⟩
   have HB1:=ah hb1
   clear hb1
   go_wp2_with fail
   refine (HTR.out _ HB1.out).mono ?_
   rintro e w2 ⟨rfl,hb2⟩
   have HB2:=bth HB1 hb2
   clear hb2
   go_wp2_with fail
   refine (HBD2.out _ HB2.out).mono ?_
   rintro e w3 ⟨rfl,hb3⟩
   have HB3:=bth HB2 hb3
   clear hb3
   go_wp2
   go_ret2
   exact ⟨.slice co es.length cc,by rw [HR.out];rfl,by rw [HR.out];exact ⟨HER.out _ HB3.out,own_below HOWN.out HB3.out⟩,hb.trans (HB3.out.mono hb.size)⟩
 have d1:((r.err:Int) == 0) = false:=by rw [beq_eq_false_iff_ne];omega
 have hfin:r.fin = r.err:=by unfold Rd.fin;rw [if_pos h0]
 have d2:((r.err:Int) != 0) = true:=by rw [bne_iff_ne];omega
 have HR:Hid (bQ s = none):=by unfold Hid;rw [HTO.out,if_neg (by rw [hfin];exact fun h => h0 h.1)]
 rw [hfin] at HEND
 clear hfin h0 hm2 e1 e2
 go_wp2_with fail
 refine (HEND.out _ HAR.out).mono ?_
 rintro e w1 ⟨rfl,hb1⟩
 have HB1:=ah (hb.trans (hb1.mono hb.size))
 clear hb1
 go_wp2
 go_ret2
 exact ⟨.slice none 0 0,by rw [HR.out];rfl,by rw [HR.out];exact ⟨⟨none,0,rfl,by simp,fun h => absurd rfl h⟩,World.ownsRow_nil _ _ _ _⟩,HB1.out⟩
theorem Am (s:ByteArray) (w:World) (hs:s.size ≤ 100000) :
  Calls prog 65 #[.string s] w fun e w' => ∃ v,e = .returned (.tuple #[v,.bool (bQ s).isSome]) ∧ fq w' v ((bQ s).getD []) ∧ Below w.heap.size w w' :=
 (Al s w hs).mono fun _ _ ⟨v,h1,h2,h3⟩ => ⟨v,h1,h2.1,h3⟩
def zid:List UInt8:=List.replicate 32 0
theorem dZ:zid.length = 32:=by simp [zid]
theorem M5:#[.int .u8 0,.int .u8 0,.int .u8 0,.int .u8 0,.int .u8 0,.int .u8 0,.int .u8 0,.int .u8 0,.int .u8 0,.int .u8 0,.int .u8 0,.int .u8 0,.int .u8 0,.int .u8 0,.int .u8 0,.int .u8 0,.int .u8 0,.int .u8 0,.int .u8 0,.int .u8 0,.int .u8 0,.int .u8 0,.int .u8 0,.int .u8 0,.int .u8 0,.int .u8 0,.int .u8 0,.int .u8 0,.int .u8 0,.int .u8 0,.int .u8 0,.int .u8 0,.slice none 0 0,.string ⟨#[]⟩] = (cmC zid (.slice none 0 0) ⟨#[]⟩).toArray:=by kernel_rfl
theorem G7:∃ zs:Array Value,(∀ w,(zeroValue 153).run prog w = .ok (.agg zs) w) ∧ (∀ w,(Instr.build 153 #[]).run prog w = .ok (.agg zs) w) ∧ zs = (cmC zid (.slice none 0 0) ⟨#[]⟩).toArray :=
 ⟨#[.int .u8 0,.int .u8 0,.int .u8 0,.int .u8 0,.int .u8 0,.int .u8 0,.int .u8 0,.int .u8 0,.int .u8 0,.int .u8 0,.int .u8 0,.int .u8 0,.int .u8 0,.int .u8 0,.int .u8 0,.int .u8 0,.int .u8 0,.int .u8 0,.int .u8 0,.int .u8 0,.int .u8 0,.int .u8 0,.int .u8 0,.int .u8 0,.int .u8 0,.int .u8 0,.int .u8 0,.int .u8 0,.int .u8 0,.int .u8 0,.int .u8 0,.int .u8 0,.slice none 0 0,.string ⟨#[]⟩],fun w => by kernel_rfl,fun w => run_build w 153 #[] _ (by kernel_rfl),M5⟩
theorem gH:∃ (zs:Array Value) (i0:TypeInfo),prog.info? 24 = some i0 ∧ i0.zero = some (.agg zs) ∧ i0.size = 32 ∧ i0.bytes = 32 ∧ (∀ w,(zeroValue 24).run prog w = .ok (.agg zs) w) ∧ zs.size = 32:=by
 have h:(prog.info? 24).map (fun i => (i.zero,i.size,i.bytes)) = some (some (.agg #[.int .u8 0,.int .u8 0,.int .u8 0,.int .u8 0,.int .u8 0,.int .u8 0,.int .u8 0,.int .u8 0,.int .u8 0,.int .u8 0,.int .u8 0,.int .u8 0,.int .u8 0,.int .u8 0,.int .u8 0,.int .u8 0,.int .u8 0,.int .u8 0,.int .u8 0,.int .u8 0,.int .u8 0,.int .u8 0,.int .u8 0,.int .u8 0,.int .u8 0,.int .u8 0,.int .u8 0,.int .u8 0,.int .u8 0,.int .u8 0,.int .u8 0,.int .u8 0]),32,32):=by kernel_rfl
 obtain ⟨i0,hi,hz0,hz1,hz2⟩:=info_parts h
 exact ⟨#[.int .u8 0,.int .u8 0,.int .u8 0,.int .u8 0,.int .u8 0,.int .u8 0,.int .u8 0,.int .u8 0,.int .u8 0,.int .u8 0,.int .u8 0,.int .u8 0,.int .u8 0,.int .u8 0,.int .u8 0,.int .u8 0,.int .u8 0,.int .u8 0,.int .u8 0,.int .u8 0,.int .u8 0,.int .u8 0,.int .u8 0,.int .u8 0,.int .u8 0,.int .u8 0,.int .u8 0,.int .u8 0,.int .u8 0,.int .u8 0,.int .u8 0,.int .u8 0],i0,hi,hz0,hz1,hz2,fun w => by kernel_rfl,rfl⟩
def cmF (t:List UInt8) (v:Value) (x:ByteArray) (k:Nat):Value:=(cmC t v x).getD k undef
theorem xg {t:List UInt8} (h:t.length = 32) (v:Value) (x:ByteArray) {k:Nat} (hk:k < 32):cmF t v x k = (idC t).getD k undef:=by
 unfold cmF cmC
 rw [List.getD_eq_getElem?_getD,List.getD_eq_getElem?_getD,List.getElem?_append_left (by rw [aD,h];exact hk)]
theorem jY {t:List UInt8} (h:t.length = 32) (v:Value) (x:ByteArray):cmF t v x 32 = v:=by
 unfold cmF cmC
 rw [List.getD_eq_getElem?_getD,List.getElem?_append_right (by rw [aD,h];exact Nat.le_refl _),aD,h];rfl
theorem rA {t:List UInt8} (h:t.length = 32) (v:Value) (x:ByteArray):cmF t v x 33 = .string x:=by
 unfold cmF cmC
 rw [List.getD_eq_getElem?_getD,List.getElem?_append_right (by rw [aD,h];omega),aD,h];rfl
theorem Ox {t:List UInt8} (h:t.length = 32) (v u:Value) (x:ByteArray):∀ k,k < 34 → upd (cmF t v x) 32 u k = cmF t u x k:=by
 intro k hk
 unfold upd
 by_cases e:k = 32
 ·subst e;rw [if_pos rfl,jY h]
 rw [if_neg e]
 by_cases hl:k < 32
 ·rw [xg h _ _ hl,xg h _ _ hl]
 obtain rfl:k = 33:=by omega
 rw [rA h,rA h]
theorem Ow {t:List UInt8} (h:t.length = 32) (v:Value) (x y:ByteArray):∀ k,k < 34 → upd (cmF t v x) 33 (.string y) k = cmF t v y k:=by
 intro k hk
 unfold upd
 by_cases e:k = 33
 ·subst e;rw [if_pos rfl,rA h]
 rw [if_neg e]
 by_cases hl:k < 32
 ·rw [xg h _ _ hl,xg h _ _ hl]
 obtain rfl:k = 32:=by omega
 rw [jY h,jY h]
theorem Oy {t d:List UInt8} (h:t.length = 32) (hd:d.length = 32) (v:Value) (x:ByteArray):∀ k,k < 34 → (if 0 ≤ k ∧ k < 0 + (idC d).length then (idC d).getD (k - 0) undef else cmF t v x k) = cmF d v x k:=by
 intro k hk
 have hl:(idC d).length = 32:=by rw [aD,hd]
 rw [hl]
 by_cases hlo:k < 32
 ·rw [if_pos ⟨by omega,by omega⟩,xg hd _ _ hlo,Nat.sub_zero]
 rw [if_neg (by omega)]
 obtain e | e:k = 32 ∨ k = 33:=by omega
 ·subst e;rw [jY h,jY hd]
 subst e;rw [rA h,rA hd]
theorem DR {t:List UInt8} (h:t.length = 32) (v:Value) (x:ByteArray):(List.range 34).map (cmF t v x) = cmC t v x:=by
 have hl:(cmC t v x).length = 34:=iU t v x h
 apply List.ext_getElem
 ·simp [hl]
 intro i h1 h2
 simp [cmF,h2]
theorem tC (w:World) {t:List UInt8} (h:t.length = 32) (v:Value) (x:ByteArray) (e:TypeId):Arr (w.alloc (.cells (cmC t v x).toArray e)) w.heap.size 34 (cmF t v x):=by
 have:=Arr.ofList w (cmC t v x) e
 rw [iU t v x h] at this
 exact this
theorem Bb (t:List UInt8) (a:Option Addr) (n c:Nat) (x:ByteArray):∀ v ∈ cmC t (.slice a n c) x,v.oneCell' = true:=by
 intro v hv
 unfold cmC at hv
 rcases List.mem_append.1 hv with h | h
 ·exact bX _ v h
 simp at h;rcases h with rfl | rfl <;> rfl
theorem xu (w:World) (o:Obj) (p:Addr) (h:p.block < w.heap.size):(w.alloc o).cell? p = w.cell? p:=World.cell?_alloc_lt _ _ _ h
def idsF (l:List (List UInt8)):List Value:=(l.map idC).flatten
theorem nH (l:List (List UInt8)) (x:List UInt8):idsF (l ++ [x]) = idsF l ++ idC x:=by simp [idsF]
theorem EH (s:ByteArray) (w:World) (hs:s.size ≤ 100000) :
  Calls prog 66 #[.string s] w fun e w' => ∃ v,e = .returned (.tuple #[.agg (cmC ((aJ s).getD (zid,[],⟨#[]⟩)).1 v ((aJ s).getD (zid,[],⟨#[]⟩)).2.2).toArray,.bool (aJ s).isSome]) ∧ bD w' v ((aJ s).getD (zid,[],⟨#[]⟩)).2.1 ∧ (∀ g,v.ownBlock = some g → w.heap.size ≤ g) ∧ (∀ ao n c,v = .slice ao n c → n ≤ c) ∧ Below w.heap.size w w':=by
 obtain ⟨zs,hzv,hbu,hzs⟩:=G7
 obtain ⟨zi,i0,hi,hz0,hz1,hz2,hziv,hzil⟩:=gH
 have HZI:=ah hzil
 clear hzil
 have hA0:Arr (w.alloc (.cells zs 153)) w.heap.size 34 (cmF zid (.slice none 0 0) ⟨#[]⟩):=by rw [hzs];exact tC w dZ _ _ _
 have hA1:=sU (w.alloc (.cells zs 153)) s 228
 rw [World.size_alloc] at hA1
 have hA2:Arr (((w.alloc (.cells zs 153)).alloc (.cells #[.string s,.int .i64 0,.int .i64 0] 228)).alloc (.cells zs 153)) (w.heap.size + 1 + 1) 34 (cmF zid (.slice none 0 0) ⟨#[]⟩):=by
  have:=tC ((w.alloc (.cells zs 153)).alloc (.cells #[.string s,.int .i64 0,.int .i64 0] 228)) dZ (.slice none 0 0) ⟨#[]⟩ 153
  rw [World.size_alloc,World.size_alloc,← hzs] at this
  exact this
 have hzl:zs.size = 34:=by rw [hzs,List.size_toArray,iU _ _ _ dZ]
 have hzt:zs.toList = cmC zid (.slice none 0 0) ⟨#[]⟩:=by rw [hzs]
 have HON:Hid (zs.all (·.oneCell') = true):=by unfold Hid;rw [hzs];exact all_oneCell_toArray (Bb _ _ _ _ _)
 have h34:(prog.info? 153).map (·.size) = some 34:=by kernel_rfl
 have HA0:=ah hA0
 have HA1:=ah hA1
 have HA2:=ah hA2
 have HZL:=ah hzl
 have HZT:=ah hzt
 clear hA0 hA1 hA2 hzl hzt hzs
 go_enter func66,ntmps66
 go_wp2_with (refine wpList_store_mid rfl 153 _ _ rfl (w.heap.size + 1 + 1) 0 zs rfl rfl ?g1 ?g2 ?g3 ?_)
 case g1 => rw [HZL.out];exact HA2.out.there
 case g2 => rw [HZL.out];exact h34
 case g3 => exact HON.out
 generalize hW:(((w.alloc (.cells zs 153)).alloc _).alloc _).setCells _ _ _ = W
 have hb2:Below w.heap.size w W:=by
  rw [← hW]
  exact below_setCells _ (by omega) _ _ _ ((bal.alloc (by simp) _).alloc (by simp;omega) _)
 have hR:Arr W w.heap.size 34 (cmF zid (.slice none 0 0) ⟨#[]⟩):=by
  rw [← hW];exact ((HA0.out.alloc (by omega) _).alloc (by omega) _).eF (by omega) _ _
 have hB:Arr W (w.heap.size + 1) 3 (rd0 s).c:=by
  rw [← hW];exact (HA1.out.alloc (by omega) _).eF (by omega) _ _
 have hC:Arr W (w.heap.size + 1 + 1) 34 (cmF zid (.slice none 0 0) ⟨#[]⟩):=by
  rw [← hW]
  exact (HA2.out.setCells 0 zs.toList (by rw [Array.length_toList,HZL.out];exact Nat.le_refl _)).congr fun k hk => by
   rw [Array.length_toList,HZL.out,if_pos ⟨by omega,by omega⟩,HZT.out];rfl
 have hszW:w.heap.size + 1 + 1 < W.heap.size:=hC.lt (by omega)
 have HB2:=ah hb2
 have HR:=ah hR
 clear hW HA0 HA1 HA2 hb2 hR
 have hfd:=ah (gW s (show s.size ≤ 1000000 by omega))
 have HID:=ah (Aj (w.heap.size + 1) (rd0 s) W hB hfd.out)
 have hf0:=ah ((rd0 s).lH hfd.out)
 have HTL:Hid ((rd0 s).id.2.length = 32):=ah (gF _)
 have HCM:Hid ((rd0 s).commit = ((((((rd0 s).id.1.num 4).1.ids ((rd0 s).id.1.num 4).2).1.text 64).1,(rd0 s).id.2,(((rd0 s).id.1.num 4).1.ids ((rd0 s).id.1.num 4).2).2,((((rd0 s).id.1.num 4).1.ids ((rd0 s).id.1.num 4).2).1.text 64).2))):=ah rfl
 have HCO:Hid (aJ s = if (rd0 s).commit.1.fin = 0 ∧ aZ (rd0 s).commit.2 = true then some (rd0 s).commit.2 else none):=ah rfl
 have HCC:=ah (wZ s (by omega))
 have HCF:=ah ((rd0 s).sD hfd.out)
 generalize (rd0 s).commit = cm at HCM HCO HCC HCF
 generalize (rd0 s).id = x0 at HID hf0 HTL HCM
 obtain ⟨r0,t⟩:=x0
 dsimp only at HID hf0 HTL HCM
 have HC:=ah hC
 clear hB hC
 refine HID.out.mono ?_
 rintro e w1 ⟨rfl,hB1,hg1⟩
 have hdl:(idC t).length = 32:=by rw [aD,HTL.out]
 have hR1:=HR.out.grown hg1 (by omega)
 have hC1:=HC.out.grown hg1 (by omega)
 have hth:w1.there (w.heap.size + 1 + 1) 0 32:=fun j hj => ⟨by rw [hC1.cell _ (by omega)];rfl,hC1.free _ (by omega)⟩
 have HTH:=ah hth
 have HB1:=ah (hB1.eF (B:=w.heap.size + 1 + 1) (by omega) (idC t) 0)
 have HR1:=ah (hR1.eF (B:=w.heap.size + 1 + 1) (by omega) (idC t) 0)
 have HC1:=ah ((hC1.setCells 0 (idC t) (by omega)).congr (Oy dZ HTL.out _ _))
 have HBL1:=ah (below_setCells (B:=w.heap.size) (a:=w) (w.heap.size + 1 + 1) (by omega) (idC t) 0 w1 (HB2.out.grown hg1 (by have:=HB2.out.size;omega) (fun k hk => by cases hk;omega)))
 have HDL:=ah hdl
 have HDO:=ah (bX t)
 have h32:(prog.info? 24).map (·.size) = some 32:=by kernel_rfl
 clear hB1 hR1 hC1 hg1 hth hdl HR HC HB2 HID
 have hdv:idV t = .agg (idC t).toArray:=rfl
 rw [hdv]
 clear hdv
 generalize hus:idC t = us at HB1 HR1 HC1 HBL1 HDL HDO
 have HUS:=ah hus
 clear hus
 go_wp2_with (first | (refine aj rfl 24 _ _ rfl (w.heap.size + 1 + 1) 0 us ?y1 ?y2 32 HDL.out ?y4 h32 HDO.out ?_) | fail)
 try case y1 => rfl
 try case y2 => rfl
 try case y4 => exact HTH.out
 have HNU:=ah (gQ (w.heap.size + 1) r0 4 (w1.setCells (w.heap.size + 1 + 1) 0 us) HB1.out hf0.out (by omega))
 have hnf:=ah (Rd.aT r0 4 hf0.out)
 generalize r0.num 4 = x1 at HNU hnf HCM
 obtain ⟨r1,n⟩:=x1
 dsimp only at HNU hnf HCM
 have hn4:n ≤ 4:=hnf.out.2
 have hf1:=ah hnf.out.1
 refine HNU.out.mono ?_
 rintro e w2 ⟨rfl,hB2,hg2⟩
 have HB2:=ah hB2
 have HR2:=ah (HR1.out.grown hg2 (by omega))
 have HC2:=ah (HC1.out.grown hg2 (by omega))
 have HBL2:=ah (HBL1.out.grown hg2 (by have:=HBL1.out.size;omega) (fun k hk => by cases hk;omega))
 clear hB2 hg2 HB1 HR1 HC1 HBL1 HNU hnf HTH
 go_wp2
 have HL:Hid (∀ k,((r1.ids k).2).length = k):=ah (fun k => Rd.sZ k r1)
 go_loopw [7] (fun i wr => ∃ (k:Nat) (v:Value),k ≤ n ∧ i = .int .i64 k ∧ Arr wr (w.heap.size + 1) 3 (r1.ids k).1.c ∧ Arr wr (w.heap.size + 1 + 1) 34 (cmF t v ⟨#[]⟩) ∧ wr.ownsRow (w.heap.size + 1 + 1 + 1) 24 32 v k (idsF (r1.ids k).2) ∧ Arr wr w.heap.size 34 (cmF zid (.slice none 0 0) ⟨#[]⟩) ∧ Below w.heap.size w wr) (fun i _ => (n - intOf i).toNat)
 case atStart => exact ⟨0,.slice none 0 0,by omega,rfl,HB2.out,HC2.out,World.ownsRow_nil _ _ _ _,HR2.out,HBL2.out⟩
 obtain ⟨wo,rfl⟩:∃ wo:World,wo = wr:=⟨_,rfl⟩
 obtain ⟨k,v,hk,rfl,hB,hC,hown,hR,hb⟩:=hrel
 obtain ⟨co,cc,rfl⟩:=ay hown
 have hCl:=hC.lt (by omega)
 by_cases hlt:k < n
 ·have d1:decide ((k:Int) < n) = true:=decide_eq_true (by omega)
  have d2:decide (k < n) = true:=decide_eq_true hlt
  have hS0:wo.drew.cell? ⟨w.heap.size + 1 + 1,32,none⟩ = some (.slice co k cc):=by
   show wo.cell? ⟨w.heap.size + 1 + 1,32,none⟩ = _
   rw [hC.cell 32 (by omega),jY HTL.out]
  have HI:=ah (Aj (w.heap.size + 1) (r1.ids k).1 wo.drew ⟨hB.cell,hB.free⟩ (Rd.iy k r1 hf1.out))
  have HSN:=ah (Rd.vT k r1)
  have hbd:Below wo.heap.size wo wo.drew:=(Below.refl _ _).drew
  have HCD:=ah (hC.below hbd hCl)
  have HRD:=ah (hR.below hbd (by omega))
  have HOD:=ah (own_below hown hbd)
  have HBD:=ah (hb.trans (hbd.mono hb.size))
  clear hB hC hR hown hb hbd
  go_wp2
  refine wrL 7 (fun w' => w'.cell? ⟨w.heap.size + 1 + 1,32,none⟩ = some (.slice co k cc)) ?_
  refine WL.tk 0 hS0 ?_
  refine WL.tk 1 hS0 ?_
  refine WL.tk 2 hS0 ?_
  refine WL.on 3 ?_
  go_wp2_with fail
  refine HI.out.mono ?_
  rintro e w3 ⟨rfl,hB3,hg3⟩
  have hC3:=HCD.out.grown hg3 (by omega)
  have hS3:w3.cell? ⟨w.heap.size + 1 + 1,32,none⟩ = some (.slice co k cc):=by rw [hC3.cell 32 (by omega),jY HTL.out]
  have hdk:(idC (r1.ids k).1.id.2).length = 32:=by rw [aD];exact gF _
  have hone:=bX (r1.ids k).1.id.2
  have hdv:idV (r1.ids k).1.id.2 = .agg (idC (r1.ids k).1.id.2).toArray:=rfl
  rw [hdv]
  clear hdv
  have HUK:Hid (idsF (r1.ids (k + 1)).2 = idsF (r1.ids k).2 ++ idC (r1.ids k).1.id.2):=by unfold Hid;rw [HSN.out];exact nH _ _
  have HRK:Hid ((r1.ids (k + 1)).1 = (r1.ids k).1.id.1):=by unfold Hid;rw [HSN.out]
  have HO3:=ah (bC HOD.out hg3 (by omega))
  have HC3:=ah hC3
  have HB3:=ah hB3
  have HR3:=ah (HRD.out.grown hg3 (by omega))
  have HBL3:=ah (HBD.out.grown hg3 (by have:=HBD.out.size;omega) (fun k hk => by cases hk;omega))
  have HSZ3:=ah (show w.heap.size + 1 + 1 < w3.heap.size from hC3.lt (by omega))
  have HS3:=ah hS3
  clear hC3 hB3 hg3 hS3 HI HSN HCD HRD HOD HBD
  generalize idC (r1.ids k).1.id.2 = uk at hdk hone HUK
  have HDK:=ah hdk
  have HON2:=ah hone
  have HSZC:Hid (∀ w,(sizeOf 24).run prog w = .ok uk.length w):=ah (fun w => by rw [HDK.out];kernel_rfl)
  clear hdk hone
  go_wp2
  refine ⟨HS3.out,?_⟩
  refine WL.on 4 ?_
  refine av rfl (.tmp 25) 33 24 rfl uk zi rfl underlying33 HSZC.out hziv (by rw [HDK.out];omega) (by rw [HDK.out];omega) ?_
  simp only [Act.put]
  refine ⟨(xu w3 _ _ HSZ3.out).trans HS3.out,?_⟩
  refine WL.on 5 ?_
  refine wpList_append_own _ rfl (.tmp 23) (.tmp 26) 33 rfl (w.heap.size + 1 + 1 + 1) 24 i0 (.agg zi) 32 32 underlying33 hi hz0 hz1 hz2 HZI.out (by decide) _ k (idsF (r1.ids k).2) rfl (HO3.out.alloc _) ⟨w3.heap.size,0,none⟩ 1 1 uk rfl HDK.out (fun j u hj => lK _ uk _ j u hj) HON2.out (by unfold maxLen;omega) (by omega) (by rw [World.size_alloc];have:=HSZ3.out;omega) ?_
  intro v' w5 hown5 hg5 _
  obtain ⟨co5,cc5,rfl⟩:=ay hown5
  have hne5:(Value.slice co k cc).ownBlock ≠ some (w.heap.size + 1 + 1):=fun e => by have:=(HO3.out.lt _ e).1;omega
  have hC5:=(HC3.out.alloc (by omega) (.cells uk.toArray 24)).jG hg5 hne5
  have hB5:=(HB3.out.alloc (by omega) (.cells uk.toArray 24)).jG hg5 (fun e => by have:=(HO3.out.lt _ e).1;omega)
  have hR5:=(HR3.out.alloc (by omega) (.cells uk.toArray 24)).jG hg5 (fun e => by have:=(HO3.out.lt _ e).1;omega)
  have hbl5:=(HBL3.out.alloc HBL3.out.size (.cells uk.toArray 24)).grown hg5 (by rw [World.size_alloc];have:=HBL3.out.size;omega) (fun j hj => by have:=(HO3.out.lt j hj).1;omega)
  have c5:=hC5.cell 32 (by omega)
  rw [jY HTL.out] at c5
  have f5:=hC5.free 32 (by omega)
  have HC5:=ah hC5
  have HB5:=ah hB5
  have HR5:=ah hR5
  have HBL5:=ah hbl5
  have HO5:=ah hown5
  have HNE5:=ah (own_ne hown5 (show w.heap.size + 1 + 1 < w.heap.size + 1 + 1 + 1 by omega))
  clear hC5 hB5 hR5 hbl5 hown5 hg5 hne5
  simp only [Act.put]
  refine ⟨c5,?_⟩
  refine WL.on 6 ?_
  go_wp2
  refine ⟨c5,?_⟩
  refine WL.la 7 ?_
  go_wp2
  go_roundw
  case rel =>
   refine ⟨k + 1,.slice co5 (k + 1) cc5,by omega,by go_num,?_,?_,?_,HR5.out.far (by show w.heap.size + 1 + 1 ≠ w.heap.size;omega) _,HBL5.out.setCell (by show w.heap.size ≤ w.heap.size + 1 + 1;omega) _⟩
   ·rw [HRK.out];exact HB5.out.far (by show w.heap.size + 1 + 1 ≠ w.heap.size + 1;omega) _
   ·exact (HC5.out.set 32 (by omega) _).congr (Ox HTL.out _ _ _)
   rw [HUK.out];exact bE HO5.out HNE5.out
  case measure => simp [intOf];omega
 obtain rfl:k = n:=by omega
 have hft:=ah (Rd.dK _ 64 (Rd.iy k r1 hf1.out))
 have HT:=ah (jv (w.heap.size + 1) (r1.ids k).1 64 wo hB (Rd.iy k r1 hf1.out) (by omega))
 have hidl:=ah (Rd.tu k r1)
 have hil:=HL.out k
 generalize hir:r1.ids k = x2 at HT HCM hft hown hidl hil
 obtain ⟨r2,l⟩:=x2
 dsimp only at HT HCM hft hown hidl hil
 clear hB hir
 generalize r2.text 64 = x3 at HT HCM hft
 obtain ⟨r3,x⟩:=x3
 dsimp only at HT HCM hft
 obtain rfl:cm = (r3,t,l,x):=HCM.out
 dsimp only at HCO HCC HCF
 clear HCM hft
 have HR:=ah hR
 have HC:=ah hC
 have HO:=ah hown
 have HB:=ah hb
 have HIL:=ah hil
 clear hR hC hown hb hil
 go_wp2_with fail
 refine HT.out.mono ?_
 rintro e w3 ⟨rfl,hB3,hg3⟩
 have hC3:=HC.out.grown hg3 (by omega)
 have c33:=hC3.cell 33 (by omega)
 have f33:=hC3.free 33 (by omega)
 have hC4:=(hC3.set 33 (by omega) (.string x)).congr (Ow HTL.out _ _ x)
 have HB4:=ah (hB3.far (p:=⟨w.heap.size + 1 + 1,33,none⟩) (by show w.heap.size + 1 + 1 ≠ w.heap.size + 1;omega) (.string x))
 have HR4:=ah ((HR.out.grown hg3 (by omega)).far (p:=⟨w.heap.size + 1 + 1,33,none⟩) (by show w.heap.size + 1 + 1 ≠ w.heap.size;omega) (.string x))
 have HO4:=ah (bE (o:=33) (u:=.string x) (bC HO.out hg3 (by omega)) (own_ne (bC HO.out hg3 (by omega)) (show w.heap.size + 1 + 1 < w.heap.size + 1 + 1 + 1 by omega)))
 have HBL4:=ah ((HB.out.grown hg3 (by have:=HB.out.size;omega) (fun k hk => by cases hk;omega)).setCell (p:=⟨w.heap.size + 1 + 1,33,none⟩) (by show w.heap.size ≤ w.heap.size + 1 + 1;omega) (.string x))
 have HC4:=ah hC4
 have HEND:=ah (fun W hA => kJ (w.heap.size + 1) r3 W hA HCF.out)
 clear hB3 hC3 hC4 hg3 HR HC HO HB HT
 go_wp2_with fail
 generalize hW4:w3.setCell _ _ = W4
 rw [hW4] at HB4 HR4 HO4 HBL4 HC4
 clear hW4 c33 f33
 have hlenC:(cmC t (.slice co k cc) x).length = 34:=iU _ _ _ HTL.out
 have hrg:=HC4.out.range
 rw [DR HTL.out] at hrg
 have h34c:(prog.info? 153).map (·.size) = some (cmC t (.slice co k cc) x).length:=by rw [hlenC];exact h34
 have hzlen:(cmC zid (.slice none 0 0) ⟨#[]⟩).length = 34:=iU _ _ _ dZ
 have h34z:(prog.info? 153).map (·.size) = some (cmC zid (.slice none 0 0) ⟨#[]⟩).length:=by rw [hzlen];exact h34
 have HROW:Hid (∀ W,Below W4.heap.size W4 W → bD W (.slice co k cc) l):=ah (fun W hb' => (aK.aS (B:=w.heap.size + 1 + 1 + 1) (e:=24) (sz:=32) (rows:=l.map idC) (fun r hr => by
  obtain ⟨y,hy,rfl⟩:=List.mem_map.1 hr
  rw [aD];exact hidl.out y hy) (by rw [List.length_map,HIL.out];exact HO4.out)).below hb')
 have HRG:=ah hrg
 have HLR:=ah (HR4.out.lt (show 0 < 34 by omega))
 have HLC:=ah (HC4.out.lt (show 0 < 34 by omega))
 have hl4:l.length ≤ 4:=by rw [HIL.out];omega
 have HNO:Hid (∀ (W:World),Below W4.heap.size W4 W → W.there w.heap.size 0 34 ∧ (W.setCells w.heap.size 0 zs.toList).rangeAt w.heap.size 0 (cmC zid (.slice none 0 0) ⟨#[]⟩) ∧ Below w.heap.size w (W.setCells w.heap.size 0 zs.toList)):=ah (fun W hb' => by
  have hr:=HR4.out.below hb' HLR.out
  refine ⟨hr.there,?_,below_setCells _ (Nat.le_refl _) _ _ _ (HBL4.out.trans (hb'.mono HBL4.out.size))⟩
  rw [HZT.out]
  exact World.rangeAt_setCells_same W w.heap.size 0 _ (by rw [hzlen];exact hr.there))
 clear hrg hlenC hzlen
 by_cases hfin:r3.fin = 0
 ·rw [hfin] at HEND
  have HCR:=ah (fun W (hb':Below W4.heap.size W4 W) => qN t (.slice co k cc) l x W (HROW.out W hb') HTL.out hidl.out (by omega))
  cases hok:aZ (t,l,x) with
  | false =>
   have HRES:Hid (aJ s = none):=by unfold Hid;rw [HCO.out,if_neg (by rw [hok];simp)]
   rw [hok] at HCR
   clear hok hfin
   refine (HEND.out W4 HB4.out).mono ?_
   rintro e w4 ⟨rfl,hb4⟩
   have HB5:=ah hb4
   have HRG5:=ah (au HRG.out hb4 HLC.out)
   clear hb4
   go_wp2_with (refine aG rfl 153 _ rfl (w.heap.size + 1 + 1) 0 rfl _ _ HRG5.out underlying153 rfl h34c ?_)
   refine (HCR.out _ HB5.out).mono ?_
   rintro e w5 ⟨rfl,hb5⟩
   have HB6:=bth HB5 hb5
   clear hb5
   go_wp2_with (refine wpList_store_mid rfl 153 _ _ rfl w.heap.size 0 zs rfl rfl ?k1 ?k2 ?k3 ?_)
   case k1 => rw [HZL.out];exact (HNO.out _ HB6.out).1
   case k2 => rw [HZL.out];exact h34
   case k3 => exact HON.out
   refine aB rfl w.heap.size 0 rfl _ _ (HNO.out _ HB6.out).2.1 underlying153 rfl h34z rfl _ rfl ⟨.slice none 0 0,?_,?_,fun g hg => (by cases hg),fun _ _ _ e => (by cases e;exact Nat.le_refl _),(HNO.out _ HB6.out).2.2⟩
   ·rw [HRES.out];rfl
   rw [HRES.out];exact ⟨none,0,rfl,by simp,fun h => absurd rfl h⟩
  | true =>
   have HRES:Hid (aJ s = some (t,l,x)):=by unfold Hid;rw [HCO.out,if_pos ⟨hfin,hok⟩]
   have hx64:x.size ≤ 64:=by
    unfold aZ at hok
    simp only [Bool.and_eq_true,decide_eq_true_eq] at hok
    exact hok.2.2
   have hcb:=HCC.out hfin
   have HBD:Hid (∀ W,Below W4.heap.size W4 W → Calls prog 130 #[.agg (cmC t (.slice co k cc) x).toArray] W fun e w' => e = .returned (.string s) ∧ Below W.heap.size W w'):=ah (fun W hb' => by
    have:=sO t (.slice co k cc) l x W (HROW.out W hb') HTL.out hidl.out (by omega) (by omega)
    rw [hcb,lu] at this
    exact this)
   rw [hok] at HCR
   clear hok hfin hcb
   refine (HEND.out W4 HB4.out).mono ?_
   rintro e w4 ⟨rfl,hb4⟩
   have HB5:=ah hb4
   have HRG5:=ah (au HRG.out hb4 HLC.out)
   clear hb4
   go_wp2_with (refine aG rfl 153 _ rfl (w.heap.size + 1 + 1) 0 rfl _ _ HRG5.out underlying153 rfl h34c ?_)
   refine (HCR.out _ HB5.out).mono ?_
   rintro e w5 ⟨rfl,hb5⟩
   have HB6:=bth HB5 hb5
   have HRG6:=ah (au HRG.out HB6.out HLC.out)
   clear hb5
   go_wp2_with (refine aG rfl 153 _ rfl (w.heap.size + 1 + 1) 0 rfl _ _ HRG6.out underlying153 rfl h34c ?_)
   refine (HBD.out _ HB6.out).mono ?_
   rintro e w6 ⟨rfl,hb6⟩
   have HB7:=bth HB6 hb6
   have HRG7:=ah (au HRG.out HB7.out HLC.out)
   have HR7:=ah (HR4.out.below HB7.out HLR.out)
   have HBZ:=ah (below_setCells (B:=w.heap.size) (a:=w) w.heap.size (Nat.le_refl _) (cmC t (.slice co k cc) x) 0 w6 (HBL4.out.trans (HB7.out.mono HBL4.out.size)))
   have hl34:(cmC t (.slice co k cc) x).length = 34:=iU _ _ _ HTL.out
   have HFR:=ah (World.rangeAt_setCells_same w6 w.heap.size 0 (cmC t (.slice co k cc) x) (by rw [hl34];exact HR7.out.there))
   have HON2:=ah (Bb t co k cc x)
   have HL34:=ah hl34
   clear hb6 hl34
   go_wp2_with (first | (refine wpList_load_mid rfl 153 _ rfl (w.heap.size + 1 + 1) 0 rfl _ _ HRG7.out underlying153 rfl h34c ?_) | (refine aj rfl 153 _ _ rfl w.heap.size 0 (cmC t (.slice co k cc) x) ?z1 ?z2 34 HL34.out ?z4 h34 HON2.out ?_))
   try case z1 => rfl
   try case z2 => rfl
   try case z4 => exact HR7.out.there
   try simp only [Act.put]
   have HRO:Hid (bD (w6.setCells w.heap.size 0 (cmC t (.slice co k cc) x)) (.slice co k cc) l):=ah (by
    have h:=HROW.out w6 HB7.out
    obtain ⟨ao,cap,e,hm,h2⟩:=h
    refine ⟨ao,cap,e,hm,fun hne => ?_⟩
    obtain ⟨b,off,e1,hbl,hc⟩:=h2 hne
    have hbk:b ≠ w.heap.size:=fun e2 => by
     injection e with q1 q2 q3
     have:=(HO4.out.lt b (by rw [← q1] at e1;rw [e1];rfl)).1
     omega
    refine ⟨b,off,e1,by have:=(fH (cmC t (.slice co k cc) x) 0 w6 (World.grownBy.refl w6 (some w.heap.size))).size;omega,fun i hi j u hu => ?_⟩
    rw [World.cell?_setCells_out w.heap.size _ 0 w6 ⟨b,_,none⟩ (fun e3 _ => absurd e3 hbk)]
    exact hc i hi j u hu)
   refine aB rfl w.heap.size 0 rfl _ _ HFR.out underlying153 rfl h34c rfl _ rfl ⟨.slice co k cc,?_,?_,fun g hg => (by have:=(HO4.out.lt g hg).1;omega),fun _ _ _ e => (by cases e;rcases HO4.out.2 with ⟨h1,h2⟩ | ⟨_,_,_,h1,_,_,h2,_⟩ <;> cases h1 <;> omega),HBZ.out⟩
   ·rw [HRES.out];rfl
   rw [HRES.out];exact HRO.out
 have HRES:Hid (aJ s = none):=by unfold Hid;rw [HCO.out,if_neg (fun h => hfin h.1)]
 have d2:((r3.fin:Int) != 0) = true:=by rw [bne_iff_ne];omega
 clear hfin
 refine (HEND.out W4 HB4.out).mono ?_
 rintro e w4 ⟨rfl,hb4⟩
 have HB6:=ah hb4
 clear hb4
 go_wp2_with (refine wpList_store_mid rfl 153 _ _ rfl w.heap.size 0 zs rfl rfl ?n1 ?n2 ?n3 ?_)
 case n1 => rw [HZL.out];exact (HNO.out _ HB6.out).1
 case n2 => rw [HZL.out];exact h34
 case n3 => exact HON.out
 refine aB rfl w.heap.size 0 rfl _ _ (HNO.out _ HB6.out).2.1 underlying153 rfl h34z rfl _ rfl ⟨.slice none 0 0,?_,?_,fun g hg => (by cases hg),fun _ _ _ e => (by cases e;exact Nat.le_refl _),(HNO.out _ HB6.out).2.2⟩
 ·rw [HRES.out];rfl
 rw [HRES.out];exact ⟨none,0,rfl,by simp,fun h => absurd rfl h⟩
theorem EG (s:ByteArray) (w:World) (hs:s.size ≤ 100000) :
  Calls prog 66 #[.string s] w fun e w' => ∃ v,e = .returned (.tuple #[.agg (cmC ((aJ s).getD (zid,[],⟨#[]⟩)).1 v ((aJ s).getD (zid,[],⟨#[]⟩)).2.2).toArray,.bool (aJ s).isSome]) ∧ bD w' v ((aJ s).getD (zid,[],⟨#[]⟩)).2.1 ∧ (∀ g,v.ownBlock = some g → w.heap.size ≤ g) ∧ Below w.heap.size w w' :=
 (EH s w hs).mono fun _ _ ⟨v,h1,h2,h3,_,h4⟩ => ⟨v,h1,h2,h3,h4⟩
theorem Cm (s:ByteArray) (w:World) (hs:s.size ≤ 100000) :
  Calls prog 66 #[.string s] w fun e w' => ∃ v,e = .returned (.tuple #[.agg (cmC ((aJ s).getD (zid,[],⟨#[]⟩)).1 v ((aJ s).getD (zid,[],⟨#[]⟩)).2.2).toArray,.bool (aJ s).isSome]) ∧ bD w' v ((aJ s).getD (zid,[],⟨#[]⟩)).2.1 ∧ Below w.heap.size w w' :=
 (EG s w hs).mono fun _ _ ⟨v,h1,h2,_,h4⟩ => ⟨v,h1,h2,h4⟩
theorem A8 {s:ByteArray} {c:List UInt8 × List (List UInt8) × ByteArray} (h:aJ s = some c):c.1.length = 32 ∧ (∀ x ∈ c.2.1,x.length = 32) ∧ c.2.1.length ≤ 4 ∧ c.2.2.size ≤ 64 ∧ c.2.1.Nodup:=by
 unfold aJ at h
 split at h
 ·rename_i hc
  cases h
  obtain ⟨_,hok⟩:=hc
  unfold aZ Lu at hok
  simp only [Bool.and_eq_true,decide_eq_true_eq] at hok
  exact ⟨gF _,Rd.tu _ _,hok.2.1,hok.2.2,hok.1⟩
 cases h
theorem DL (s:ByteArray):((aJ s).getD (zid,[],⟨#[]⟩)).1.length = 32:=by
 cases h:aJ s with
 | none => exact dZ
 | some c => exact (A8 h).1
theorem kW (k:Int) (s:ByteArray) (w:World) :
  Calls prog 31 #[.agg #[.int .i64 k,.string s]] w fun e w' => e = .returned (.bool (aC ⟨k,s⟩)) ∧ Below w.heap.size w w':=by
 have hb0:Below w.heap.size w (w.alloc (.cells #[.int .i64 k,.string s] 40)):=bal
 have HB0:=ah hb0
 clear hb0
 by_cases h4:4096 < s.size
 ·have HR:Hid (aC ⟨k,s⟩ = false):=by unfold Hid aC;rw [decide_eq_false (show ¬ s.size ≤ 4096 by omega)];rfl
  have d1:decide ((4096:Int) < s.size) = true:=decide_eq_true (by omega)
  go_enter func31,ntmps31
  go_wp2_with fail
  go_ret
  exact ⟨aL HR.out.symm,HB0.out⟩
 have d1:decide ((4096:Int) < s.size) = false:=decide_eq_false (by omega)
 have HR0:Hid (aC ⟨k,s⟩ = if k = 1 then true else if k = 2 then (bQ s).isSome else if k = 3 then (aJ s).isSome else false):=by
  unfold Hid aC;rw [decide_eq_true (show s.size ≤ 4096 by omega)];rfl
 by_cases h2:k = 2
 ·have d2:(k == 2) = true:=by rw [beq_iff_eq];exact h2
  have HR:Hid (aC ⟨k,s⟩ = (bQ s).isSome):=by unfold Hid;rw [HR0.out,if_neg (by omega),if_pos h2]
  have HE:=ah (fun w => Am s w (by omega))
  generalize (bQ s).isSome = b at HR HE
  clear h2
  go_enter func31,ntmps31
  go_wp2_with fail
  refine (HE.out _).mono ?_
  rintro e w1 ⟨v,rfl,_,hb1⟩
  go_wp2
  go_ret
  exact ⟨aL HR.out.symm,HB0.out.trans (hb1.mono HB0.out.size)⟩
 have d2:(k == 2) = false:=by rw [beq_eq_false_iff_ne];exact h2
 by_cases h3:k = 3
 ·have d3:(k == 3) = true:=by rw [beq_iff_eq];exact h3
  have HR:Hid (aC ⟨k,s⟩ = (aJ s).isSome):=by unfold Hid;rw [HR0.out,if_neg (by omega),if_neg h2,if_pos h3]
  have HC:=ah (fun w => Cm s w (by omega))
  have hG:=DL s
  generalize (aJ s).getD (zid,[],⟨#[]⟩) = c at HC hG
  generalize (aJ s).isSome = b at HR HC
  have HG:=ah hG
  clear h2 h3 hG
  obtain ⟨zs,hzv,hbu,hzs⟩:=G7
  have HZS:=ah hzs
  clear hzs
  have h34:(prog.info? 153).map (·.size) = some 34:=by kernel_rfl
  go_enter func31,ntmps31
  go_wp2_with fail
  refine (HC.out _).mono ?_
  rintro e w1 ⟨v,rfl,hrow,hb1⟩
  obtain ⟨ao,cap,rfl,_⟩:=hrow
  generalize (c.2.1.map idC).length = n
  have hth:(w1.alloc (.cells zs 153)).there w1.heap.size 0 34:=by
   rw [HZS.out];exact (tC w1 dZ _ _ _).there
  have HTH:=ah hth
  have HL:=ah (iU c.1 (.slice ao n cap) c.2.2 HG.out)
  have HO:=ah (Bb c.1 ao n cap c.2.2)
  have HB1:=ah (below_setCells (B:=w.heap.size) (a:=w) w1.heap.size (by have:=HB0.out.size;have:=hb1.size;omega) (cmC c.1 (.slice ao n cap) c.2.2) 0 _ ((HB0.out.trans (hb1.mono HB0.out.size)).alloc (by have:=HB0.out.size;have:=hb1.size;omega) (.cells zs 153)))
  clear hth hb1
  generalize cmC c.1 (.slice ao n cap) c.2.2 = cs at HL HO HB1
  go_wp2_with (refine aj rfl 153 _ _ rfl w1.heap.size 0 cs ?z1 ?z2 34 HL.out ?z4 h34 HO.out ?_)
  try case z1 => rfl
  try case z2 => rfl
  try case z4 => exact HTH.out
  try simp only [Act.put]
  go_wp2
  go_ret
  exact ⟨aL HR.out.symm,HB1.out⟩
 have d3:(k == 3) = false:=by rw [beq_eq_false_iff_ne];exact h3
 have HR:Hid (aC ⟨k,s⟩ = (k == 1)):=by
  unfold Hid;rw [HR0.out,if_neg h2,if_neg h3]
  by_cases h1:k = 1
  ·rw [if_pos h1];exact (beq_iff_eq.2 h1).symm
  rw [if_neg h1];exact (beq_eq_false_iff_ne.2 h1).symm
 clear h2 h3
 go_enter func31,ntmps31
 go_wp2_with fail
 go_ret
 exact ⟨aL HR.out.symm,HB0.out⟩
def dD (w:World) (v:Value) (l:List Ob):Prop:=aK w v 2 (l.map obC)
theorem dD.below {w w':World} {v:Value} {l:List Ob} (h:dD w v l) (hb:Below w.heap.size w w'):dD w' v l:=aK.below h hb
theorem dD.open {w:World} {v:Value} {l:List Ob} (h:dD w v l):∃ ao cap,v = .slice ao l.length cap ∧ l.length ≤ maxLen ∧ (l ≠ [] → ∃ b off,ao = some ⟨b,off,none⟩ ∧ b < w.heap.size ∧ ∀ k (hk:k < l.length),w.rangeAt b (off + k * 2) (obC l[k])):=by
 obtain ⟨ao,cap,rfl,hm,h⟩:=h
 rw [List.length_map] at hm ⊢
 refine ⟨ao,cap,rfl,hm,fun hne => ?_⟩
 obtain ⟨b,off,e,hl,hc⟩:=h (by simpa using hne)
 refine ⟨b,off,e,hl,fun k hk => ?_⟩
 have:=hc k (by simpa using hk)
 rw [List.getElem_map] at this
 exact this
theorem Ns (v:Value) (l:List (List UInt8)) (x:List UInt8) (w:World) (hv:bD w v l) (hl:∀ y ∈ l,y.length = 32) (hx:x.length = 32) :
  Calls prog 11 #[v,.agg (idC x).toArray] w fun e w' => e = .returned (.bool (l.contains x)) ∧ Below w.heap.size w w':=by
 obtain ⟨ao,cap,rfl,hmax,hv⟩:=hv.open
 unfold maxLen at hmax
 have hb0:Below w.heap.size w (w.alloc (.cells (idC x).toArray 24)):=bal
 have HB0:=ah hb0
 have hxl:(idC x).length = 32:=by rw [aD,hx]
 have hr0:(w.alloc (.cells (idC x).toArray 24)).rangeAt w.heap.size 0 (idC x):=fun j u hu => by rw [World.cell?_alloc_new,Nat.zero_add];simpa using hu
 have h32x:=dG hxl
 have HV:=ah hv
 have HL:=ah hl
 have hlt0:w.heap.size < (w.alloc (.cells (idC x).toArray 24)).heap.size:=by simp
 have HEQ:=ah (fun (y:List UInt8) (hy:y.length = 32) => jU y x hy hx)
 clear hv hl hb0 hxl
 generalize hux:idC x = ux at hr0 h32x HB0 hlt0 HEQ
 have HUX:=ah hux
 clear hux
 go_enter func11,ntmps11
 go_wp2
 obtain ⟨W,hW⟩:∃ W,W = w.alloc (.cells ux.toArray 24):=⟨_,rfl⟩
 rw [← hW] at hr0 HB0 hlt0 ⊢
 clear hW
 go_loopw [5] (fun i wr => ∃ k:Nat,k ≤ l.length ∧ i = .int .i64 k ∧ Hid (x ∉ l.take k) ∧ Below W.heap.size W wr) (fun i _ => (l.length - intOf i).toNat)
 case atStart => exact ⟨0,by omega,rfl,(by unfold Hid;simp),Below.refl _ _⟩
 obtain ⟨wo,rfl⟩:∃ wo:World,wo = wr:=⟨_,rfl⟩
 obtain ⟨k,hk,rfl,hni,hb⟩:=hrel
 by_cases hlt:k < l.length
 ·obtain ⟨b,off,rfl,hbl,hcell⟩:=HV.out (by intro e;rw [e] at hlt;simp at hlt)
  have c1:=au (hcell k hlt) (HB0.out.trans (hb.mono HB0.out.size)) hbl
  have c2:=au hr0 hb hlt0
  have hz:=HL.out l[k] (List.getElem_mem hlt)
  have h32:=dG (us:=idC l[k]) (by rw [aD,hz])
  have hbo:b < wo.heap.size:=by have:=HB0.out.size;have:=hb.size;omega
  have hlo:w.heap.size < wo.heap.size:=by have:=hb.size;omega
  have heq:=HEQ.out l[k] hz
  have k0:(0:Int) ≤ k:=by omega
  have k1:(k:Int) < l.length:=by omega
  clear hcell hz
  by_cases he:l[k] = x
  ·have HR:Hid (l.contains x = true):=by unfold Hid;rw [List.contains_iff_mem,← he];exact List.getElem_mem hlt
   rw [show (l[k] == x) = true from beq_iff_eq.2 he] at heq
   clear he hni
   generalize idC l[k] = uk at c1 h32 heq
   go_wp2
   refine wbq ?_
   repeat (go_big_quiet_step (fail))
   refine bg 24 _ _ rfl rfl rfl c1 (by omega) underlying24 rfl h32 ?_
   simp only [Act.put,nz]
   repeat (go_big_quiet_step (fail))
   refine bg 24 _ _ rfl rfl rfl c2 (by omega) underlying24 rfl h32x ?_
   simp only [Act.put,nz]
   repeat (go_big_quiet_step (fail))
   refine wpQuiet_nil ?_
   intro wq hbq
   go_wp2
   go_ret
   exact ⟨aL HR.out.symm,HB0.out.trans ((hb.trans (hbq.mono hb.size)).mono HB0.out.size)⟩
  have HN:Hid (x ∉ l.take (k + 1)):=by
   unfold Hid
   rw [List.take_succ_eq_append_getElem hlt]
   intro h
   rcases List.mem_append.1 h with h | h
   ·exact hni.out h
   exact he (List.mem_singleton.1 h).symm
  rw [show (l[k] == x) = false from beq_eq_false_iff_ne.2 he] at heq
  clear he hni
  generalize idC l[k] = uk at c1 h32 heq
  go_wp2
  refine wbq ?_
  repeat (go_big_quiet_step (fail))
  refine bg 24 _ _ rfl rfl rfl c1 (by omega) underlying24 rfl h32 ?_
  simp only [Act.put,nz]
  repeat (go_big_quiet_step (fail))
  refine bg 24 _ _ rfl rfl rfl c2 (by omega) underlying24 rfl h32x ?_
  simp only [Act.put,nz]
  repeat (go_big_quiet_step (fail))
  refine wpQuiet_nil ?_
  intro wq hbq
  have HB:=ah (hb.trans (hbq.mono hb.size))
  clear hb hbq c1 c2
  go_wp2
  go_roundw
  case rel => exact ⟨k + 1,by omega,by go_num,HN,HB.out⟩
  case measure => simp [intOf];omega
 obtain rfl:k = l.length:=by omega
 have HR:Hid (l.contains x = false):=by
  unfold Hid
  have:=hni.out
  rw [List.take_length] at this
  simpa using this
 clear hni
 go_wp2
 go_ret
 exact ⟨aL HR.out.symm,HB0.out.trans (hb.mono HB0.out.size)⟩
theorem Aw (a b:Int) (s t:ByteArray) (w:World):(Op.equalIn 10000 40 (.agg #[.int .i64 a,.string s]) (.agg #[.int .i64 b,.string t])).run prog w = .ok (a == b && s.toList == t.toList) w:=by
 have u3:=underlying3
 have u9:=underlying9
 have a3:=Tryz.isAgg3
 have a9:=Tryz.isAgg9
 have z3:=Tryz.sizeOf3
 have z9:=Tryz.sizeOf9
 have hS:prog.underlying 40 = some (.struct (prog.fieldsOf 40)):=by kernel_rfl
 rw [show (10000:Nat) = 9999 + 1 from rfl,run_equalIn_agg w 9999 40 _ _ hS (by kernel_rfl)]
 simp only [Program.fieldsOf,underlying40]
 go_simp
 by_cases h1:a = b <;> by_cases h2:s.toList = t.toList <;> simp [h1,h2]
theorem mG {k:Int} {s:ByteArray} (h:aC ⟨k,s⟩ = true):s.size ≤ 4096:=by
 unfold aC at h
 simp only [Bool.and_eq_true,decide_eq_true_eq] at h
 exact h.1
theorem vQ:(prog.info? 40).map (fun i => (i.zero,i.size,i.bytes)) = some (some (.agg #[.int .i64 0,.string ⟨#[]⟩]),2,24):=by kernel_rfl
theorem eX {w:World} {B e1 e2 s1 s2 n1 n2:Nat} {v1 v2:Value} {x1 x2:List Value} (h1:w.ownsRow B e1 s1 v1 n1 x1) (h2:w.ownsRow B e2 s2 v2 n2 x2) (he:e1 ≠ e2):v1.ownBlock = none ∨ v1.ownBlock ≠ v2.ownBlock:=by
 rcases h1.2 with ⟨rfl,_⟩ | ⟨g1,c1,u1,rfl,_,hg1,_⟩
 ·exact .inl rfl
 right
 rcases h2.2 with ⟨rfl,_⟩ | ⟨g2,c2,u2,rfl,_,hg2,_⟩
 ·intro e;cases e
 intro e
 have:g1 = g2:=by simpa [Value.ownBlock] using e
 subst this
 rw [hg1] at hg2
 injection hg2 with h;injection h with _ h _
 exact he h
def obsF (l:List Ob):List Value:=(l.map obC).flatten
def ob0:Ob:=⟨0,⟨#[]⟩⟩
def oO (w:World) (v:Value) (l:List Ob):Prop:=∃ vl vi,v = .agg [vl,vi].toArray ∧ dD w vl (rights l) ∧ bD w vi ((rights l).map idO)
theorem oO.below {w w':World} {v:Value} {l:List Ob} (h:oO w v l) (hb:Below w.heap.size w w'):oO w' v l:=by
 obtain ⟨vl,vi,rfl,h1,h2⟩:=h
 exact ⟨vl,vi,rfl,h1.below hb,h2.below hb⟩
theorem N7 {α:Type} {p:α → Bool} {l:List α} {k:Nat} (hk:k < l.length) (h:(l.take k).find? p = none) (hp:p l[k] = true):l.find? p = some l[k]:=by
 have e:l.take k ++ l[k] :: l.drop (k + 1) = l:=by rw [← List.drop_eq_getElem_cons hk,List.take_append_drop]
 have:(l.take k ++ l[k] :: l.drop (k + 1)).find? p = some l[k]:=by rw [List.find?_append,h,Option.none_or,List.find?_cons_of_pos hp]
 rwa [e] at this
theorem JZ {α:Type} {p:α → Bool} {l:List α} {k:Nat} (hk:k < l.length) (h:(l.take k).find? p = none) (hp:p l[k] = false):(l.take (k + 1)).find? p = none:=by
 rw [List.take_succ_eq_append_getElem hk,List.find?_append,h,Option.none_or,List.find?_cons_of_neg (by rw [hp];simp),List.find?_nil]
theorem IZ (w:World) (us:List Value) (e:TypeId) {n:Nat} (h:w.heap.size = n):(w.alloc (.cells us.toArray e)).rangeAt n 0 us:=by
 subst h
 exact fun j u hu => by rw [World.cell?_alloc_new,Nat.zero_add];simpa using hu
theorem KZ (v:Value) (l:List Ob) (x:List UInt8) (w:World) (hv:oO w v l) (hx:x.length = 32) :
  Calls prog 10 #[v,.agg (idC x).toArray] w fun e w' => e = .returned (.tuple #[.agg (obC ((getS l x).getD ob0)).toArray,.bool (getS l x).isSome]) ∧ Below w.heap.size w w':=by
 obtain ⟨vl,vi,rfl,hvl,hvi⟩:=hv
 obtain ⟨lo,lc,rfl,hml,hL⟩:=hvl.open
 obtain ⟨io,ic,rfl,hmi,hI⟩:=hvi.open
 unfold maxLen at hml
 rw [List.length_map] at hmi
 have hI':rights l ≠ [] → ∃ b off,io = some ⟨b,off,none⟩ ∧ b < w.heap.size ∧ ∀ k (hk:k < (rights l).length),w.rangeAt b (off + k * 32) (idC (idO (rights l)[k])):=fun hne => by
  obtain ⟨b,off,e,hl,hc⟩:=hI (by simpa using hne)
  refine ⟨b,off,e,hl,fun k hk => ?_⟩
  have:=hc k (by simpa using hk)
  rwa [List.getElem_map] at this
 have hGD:getS l x = (rights l).find? fun o => decide (idO o = x):=rfl
 rw [List.length_map]
 rw [hGD]
 clear hI hvl hvi hGD
 generalize rights l = rs at hL hI' hml
 have HL:=ah hL
 have HI:=ah hI'
 have hxl:(idC x).length = 32:=by rw [aD,hx]
 have HEQ:=ah (fun (y:List UInt8) (hy:y.length = 32) => jU y x hy hx)
 have h32x:=dG hxl
 have HOB:Hid (∀ o:Ob,(prog.info? 40).map (·.size) = some [Value.int .i64 o.kind,Value.string o.body].length):=ah (fun o => by kernel_rfl)
 generalize hux:idC x = ux at hxl h32x HEQ
 clear hux hL hI'
 obtain ⟨W,hW⟩:∃ W,W = ((w.alloc (.cells #[.slice lo rs.length lc,.slice io rs.length ic] 35)).alloc (.cells ux.toArray 24)).alloc (.cells #[.int .i64 0,.string ⟨#[]⟩] 40):=⟨_,rfl⟩
 have hA:=((Arr.ofList w [.slice lo rs.length lc,.slice io rs.length ic] 35).alloc (by simp) (.cells ux.toArray 24)).alloc (by simp) (.cells #[.int .i64 0,.string ⟨#[]⟩] 40)
 have hr1:((w.alloc (.cells #[.slice lo rs.length lc,.slice io rs.length ic] 35)).alloc (.cells ux.toArray 24)).rangeAt (w.heap.size + 1) 0 ux:=IZ _ _ _ (by simp)
 have hr2:W.rangeAt (w.heap.size + 1) 0 ux:=by
  rw [hW]
  exact au hr1 bal (by simp)
 have hz:=Arr.ofList ((w.alloc (.cells #[.slice lo rs.length lc,.slice io rs.length ic] 35)).alloc (.cells ux.toArray 24)) [.int .i64 0,.string ⟨#[]⟩] 40
 rw [World.size_alloc,World.size_alloc] at hz
 have HZ:Hid (W.there (w.heap.size + 1 + 1) 0 2):=by rw [hW];exact ah hz.there
 have c0:W.cell? ⟨w.heap.size,0,none⟩ = some (.slice lo rs.length lc):=by rw [hW];exact hA.cell 0 (by simp)
 have c1:W.cell? ⟨w.heap.size,1,none⟩ = some (.slice io rs.length ic):=by rw [hW];exact hA.cell 1 (by simp)
 have hsz:W.heap.size = w.heap.size + 1 + 1 + 1:=by rw [hW];simp
 have HB0:Hid (Below w.heap.size w W):=by rw [hW];exact ah ((bal.alloc (by simp) _).alloc (by simp;omega) _)
 have HR2:=ah hr2
 have hz0:rs.find? (fun o => decide (idO o = x)) = rs.find? (fun o => decide (idO o = x)):=rfl
 clear hA hr1 hz hr2 hz0
 go_enter func10,ntmps10
 go_wp2
 rw [← hW]
 clear hW
 go_loopw [6] (fun i wr => ∃ k:Nat,k ≤ rs.length ∧ i = .int .i64 k ∧ Hid ((rs.take k).find? (fun o => decide (idO o = x)) = none) ∧ Below W.heap.size W wr) (fun i _ => (rs.length - intOf i).toNat)
 case atStart => exact ⟨0,by omega,rfl,ah rfl,Below.refl _ _⟩
 obtain ⟨wo,rfl⟩:∃ wo:World,wo = wr:=⟨_,rfl⟩
 obtain ⟨k,hk,rfl,hni,hb⟩:=hrel
 have e0:wo.cell? ⟨w.heap.size,0,none⟩ = some (.slice lo rs.length lc):=ak c0 hb (by omega)
 have e1:wo.cell? ⟨w.heap.size,1,none⟩ = some (.slice io rs.length ic):=ak c1 hb (by omega)
 have hwo:W.heap.size ≤ wo.heap.size:=hb.size
 by_cases hlt:k < rs.length
 ·have hne:rs ≠ []:=by intro e;rw [e] at hlt;simp at hlt
  obtain ⟨bi,oi,rfl,hbi,hci⟩:=HI.out hne
  obtain ⟨bl,ol,rfl,hbl,hcl⟩:=HL.out hne
  have hbw:Below w.heap.size w wo:=HB0.out.trans (hb.mono HB0.out.size)
  have f1:=au (hci k hlt) hbw hbi
  have f2:=au HR2.out hb (by omega)
  have f3:=au (hcl k hlt) hbw hbl
  have h32:=dG (us:=idC (idO rs[k])) (by rw [aD,dI])
  have heq:=HEQ.out (idO rs[k]) (dI _)
  have hbo:bi < wo.heap.size:=by omega
  have hlo:w.heap.size + 1 < wo.heap.size:=by omega
  have k0:(0:Int) ≤ k:=by omega
  have k1:(k:Int) < rs.length:=by omega
  have hob:=HOB.out rs[k]
  clear hci hcl
  by_cases he:idO rs[k] = x
  ·have HR:Hid (rs.find? (fun o => decide (idO o = x)) = some rs[k]):=ah (N7 hlt hni.out (decide_eq_true he))
   rw [show (idO rs[k] == x) = true from beq_iff_eq.2 he] at heq
   clear he hni
   generalize idC (idO rs[k]) = uk at f1 h32 heq
   generalize rs[k] = o at f3 hob HR
   go_wp2
   refine wbq ?_
   have LQ0:=blq e1
   repeat (go_big_quiet_step (fail))
   refine bg 24 _ _ rfl rfl rfl f1 (by omega) underlying24 rfl h32 ?_
   simp only [Act.put,nz]
   repeat (go_big_quiet_step (fail))
   refine bg 24 _ _ rfl rfl rfl f2 (by omega) underlying24 rfl h32x ?_
   simp only [Act.put,nz]
   repeat (go_big_quiet_step (fail))
   refine wpQuiet_nil ?_
   intro wq hbq
   clear LQ0
   have g0:wq.cell? ⟨w.heap.size,0,none⟩ = some (.slice (some ⟨bl,ol,none⟩) rs.length lc):=ak e0 hbq (by omega)
   have g3:=au f3 hbq (by omega)
   have HBQ:=ah (hb.trans (hbq.mono hb.size))
   have hthq:wq.there (w.heap.size + 1 + 1) 0 2:=gL HZ.out HBQ.out (by omega)
   clear hbq f1 f2 f3 e0 e1 hb
   go_wp2_with (first
    | refine wpList_load_mid rfl 40 _ rfl bl (ol + k * 2) rfl [.int .i64 o.kind,.string o.body] _ g3 underlying40 rfl hob ?_
    | refine aj rfl 40 _ _ rfl (w.heap.size + 1 + 1) 0 [.int .i64 o.kind,.string o.body] rfl rfl 2 rfl hthq hob (by simp [Value.oneCell']) ?_)
   refine aB rfl (w.heap.size + 1 + 1) 0 rfl [.int .i64 o.kind,.string o.body] _ (World.rangeAt_setCells_same wq (w.heap.size + 1 + 1) 0 _ hthq) underlying40 rfl hob rfl _ rfl ⟨?_,below_setCells _ (by omega) _ _ _ (HB0.out.trans (HBQ.out.mono HB0.out.size))⟩
   rw [HR.out];rfl
  have HN:Hid ((rs.take (k + 1)).find? (fun o => decide (idO o = x)) = none):=ah (JZ hlt hni.out (decide_eq_false he))
  rw [show (idO rs[k] == x) = false from beq_eq_false_iff_ne.2 he] at heq
  clear he hni
  generalize idC (idO rs[k]) = uk at f1 h32 heq
  clear f3 hob
  go_wp2
  refine wbq ?_
  have LQ0:=blq e1
  repeat (go_big_quiet_step (fail))
  refine bg 24 _ _ rfl rfl rfl f1 (by omega) underlying24 rfl h32 ?_
  simp only [Act.put,nz]
  repeat (go_big_quiet_step (fail))
  refine bg 24 _ _ rfl rfl rfl f2 (by omega) underlying24 rfl h32x ?_
  simp only [Act.put,nz]
  repeat (go_big_quiet_step (fail))
  refine wpQuiet_nil ?_
  intro wq hbq
  clear LQ0
  have HB:=ah (hb.trans (hbq.mono hb.size))
  clear hb hbq f1 f2 e0 e1
  go_wp2
  go_roundw
  case rel => exact ⟨k + 1,by omega,by go_num,HN,HB.out⟩
  case measure => simp [intOf];omega
 have hke:k = rs.length:=by omega
 have HR:Hid (rs.find? (fun o => decide (idO o = x)) = none):=by
  unfold Hid
  have:=hni.out
  rwa [hke,List.take_length] at this
 have d1:decide ((k:Int) < rs.length) = false:=decide_eq_false (by omega)
 have HBW:=ah hb
 have hthq:wo.there (w.heap.size + 1 + 1) 0 2:=gL HZ.out hb (by omega)
 clear hni hke hb
 have hob:=HOB.out ob0
 go_wp2_with (refine aj rfl 40 _ _ rfl (w.heap.size + 1 + 1) 0 [.int .i64 ob0.kind,.string ob0.body] rfl rfl 2 rfl hthq hob (by simp [Value.oneCell']) ?_)
 refine aB rfl (w.heap.size + 1 + 1) 0 rfl [.int .i64 ob0.kind,.string ob0.body] _ (World.rangeAt_setCells_same wo (w.heap.size + 1 + 1) 0 _ hthq) underlying40 rfl hob rfl _ rfl ⟨?_,below_setCells _ (by omega) _ _ _ (HB0.out.trans (HBW.out.mono HB0.out.size))⟩
 rw [HR.out];rfl
def digB (n:Nat):UInt8:=if n < 10 then UInt8.ofNat (48 + n) else UInt8.ofNat (87 + n)
def hexL (x:List UInt8):List UInt8:=x.flatMap fun b => [digB (b.toNat / 16),digB (b.toNat % 16)]
def jf (b:UInt8):Option Nat:=if 48 ≤ b.toNat ∧ b.toNat ≤ 57 then some (b.toNat - 48) else if 97 ≤ b.toNat ∧ b.toNat ≤ 102 then some (b.toNat - 87) else none
def digV (s:List UInt8) (i:Nat):Nat:=(jf (s.getD i 0)).getD 0
def eu (s:List UInt8):Option (List UInt8):=if s.length = 64 ∧ s.all (fun b => (jf b).isSome) = true then some ((List.range 32).map fun i => UInt8.ofNat (16 * digV s (2 * i) + digV s (2 * i + 1))) else none
def iq (b:UInt8):Nat:=if b = 98 then 1 else if b = 116 then 2 else if b = 99 then 3 else 0
def aQ (s:List UInt8):Option Ob:=match s with
 | [] => none
 | c :: l => if iq c = 0 then none else
   if ((Rd.mk (ofB l) 0 0).text 4096).1.fin ≠ 0 then none else
    if aC ⟨(iq c:Int),((Rd.mk (ofB l) 0 0).text 4096).2⟩ = true then some ⟨(iq c:Int),((Rd.mk (ofB l) 0 0).text 4096).2⟩ else none
def Rd.part (r:Rd) (i:Nat):Rd × Pt:=(((r.num 200).1.text 65536).1,⟨decide (0 < (r.num 200).2),if 0 < (r.num 200).2 then (i:Int) - ((r.num 200).2:Int) else 0,((r.num 200).1.text 65536).2⟩)
def Rd.parts:Nat → Nat → Rd → Rd × List (Pt × Nat)
 | 0,_,r => (r,[])
 | n + 1,i,r => if (r.part i).1.err ≠ 0 then ((r.part i).1,[]) else ((Rd.parts n (i + 1) (r.part i).1).1,((r.part i).2,r.pos) :: (Rd.parts n (i + 1) (r.part i).1).2)
def spk1:List UInt8:=[83,80,75,49]
def iJ:List ByteArray → List Ob → Option (List Ob)
 | [],os => some os
 | s :: ss,os => match aQ s.data.toList with
  | none => none
  | some o => if idO o ∈ os.map idO then none else iJ ss (os ++ [o])
def eB (s:ByteArray):Option (Nat × Rd × List (Pt × Nat)) :=
 if ((Rd.mk s 0 0).raw 4).1.err ≠ 0 ∨ ((Rd.mk s 0 0).raw 4).2.data.toList ≠ spk1 then none else
  if (((Rd.mk s 0 0).raw 4).1.num 200).1.err ≠ 0 then none else
   some ((((Rd.mk s 0 0).raw 4).1.num 200).2,Rd.parts (((Rd.mk s 0 0).raw 4).1.num 200).2 0 (((Rd.mk s 0 0).raw 4).1.num 200).1)
structure Pk where
 parts:List (Pt × Nat)
 obs:List Ob
def dJ (b:ByteArray):Option Pk:=match bK b.data.toList with
 | none => none
 | some s => match eB (ofB s) with
  | none => none
  | some (n,r,ps) => if ps.length ≠ n ∨ r.fin ≠ 0 then none else match cu (ps.map (·.1)) with
   | .inl _ => none
   | .inr ts => (iJ ts []).map fun os => ⟨ps,os⟩
structure Fl where
 dir:ByteArray
 name:ByteArray
 data:ByteArray
def bV:ByteArray:=⟨#[108,111,111,115,101]⟩
def bn:ByteArray:=⟨#[112,97,99,107]⟩
def sRef:ByteArray:=⟨#[114,101,102]⟩
def aP (s:ByteArray):Option Nat:=if s = bV then some 0 else if s = bn then some 1 else if s = sRef then some 2 else none
def lX (b:UInt8):Bool:=decide (33 ≤ b.toNat ∧ b.toNat ≤ 126 ∧ b.toNat ≠ 47)
def aX (s:ByteArray):Bool:=s.data.toList.all lX && decide (1 ≤ s.size) && decide (s.size ≤ 80)
def dO (f:Fl) (k:Nat):Bool:=decide (aP f.dir = some k) && aX f.name && decide (f.data.size ≤ 1048576)
def datF (l:List Fl) (k:Nat) (x:ByteArray):Option ByteArray:=l.foldl (fun r f => if dO f k = true ∧ f.name = x then some f.data else r) none
def putT (x:ByteArray):List ByteArray → List ByteArray
 | [] => [x]
 | y :: l => if y = x then y :: l else if ltB x.data.toList y.data.toList = true then x :: y :: l else y :: putT x l
def namF (l:List Fl) (k:Nat):List ByteArray:=l.foldl (fun r f => if dO f k = true then putT f.name r else r) []
def AscT (l:List ByteArray):Prop:=l.Pairwise fun x y => ltB x.data.toList y.data.toList = true
theorem fC {a b:ByteArray} (h:a.data.toList = b.data.toList):a = b:=by
 cases a;cases b
 congr 1
 exact Array.toList_inj.1 h
theorem uS (x y:ByteArray):∀ l:List ByteArray,y ∈ putT x l ↔ y = x ∨ y ∈ l
 | [] => by simp [putT]
 | z :: l => by
  unfold putT
  split
  ·rename_i h;subst h;simp
  split
  ·simp
  rw [List.mem_cons,uS x y l,List.mem_cons]
  exact ⟨fun h => h.elim (.inr ∘ .inl) (fun h => h.elim .inl (.inr ∘ .inr)),fun h => h.elim (.inr ∘ .inl) (fun h => h.elim .inl (.inr ∘ .inr))⟩
theorem Cn (x:ByteArray):∀ l:List ByteArray,AscT l → AscT (putT x l)
 | [],_ => by simp [putT,AscT]
 | z :: l,h => by
  unfold AscT at h
  rw [List.pairwise_cons] at h
  unfold putT
  split
  ·unfold AscT;rw [List.pairwise_cons];exact h
  rename_i hne
  split
  ·rename_i hlt
   unfold AscT
   rw [List.pairwise_cons,List.pairwise_cons]
   exact ⟨fun y hy => (List.mem_cons.1 hy).elim (fun e => e ▸ hlt) (fun hy => kN hlt (h.1 y hy)),h⟩
  rename_i hlt
  unfold AscT
  rw [List.pairwise_cons]
  refine ⟨fun y hy => ?_,Cn x l h.2⟩
  rcases (uS x y l).1 hy with rfl | hy
  ·cases h2:ltB z.data.toList y.data.toList with
   | true => rfl
   | false => exact absurd (fC (kP h2 (by simpa using hlt))) hne
  exact h.1 y hy
theorem pV (l:List Fl) (k:Nat):AscT (namF l k):=by
 unfold namF
 have:∀ (l:List Fl) (r:List ByteArray),AscT r → AscT (l.foldl (fun r f => if dO f k = true then putT f.name r else r) r):=by
  intro l
  induction l with
  | nil => exact fun _ h => h
  | cons f l ih =>
   intro r h
   rw [List.foldl_cons]
   refine ih _ ?_
   split
   ·exact Cn _ _ h
   exact h
 exact this l [] List.Pairwise.nil
theorem jF (l:List Fl) (k:Nat) (x:ByteArray):x ∈ namF l k ↔ (datF l k x).isSome = true:=by
 unfold namF datF
 have:∀ (l:List Fl) (r:List ByteArray) (o:Option ByteArray),(x ∈ r ↔ o.isSome = true) → (x ∈ l.foldl (fun r f => if dO f k = true then putT f.name r else r) r ↔ (l.foldl (fun r f => if dO f k = true ∧ f.name = x then some f.data else r) o).isSome = true):=by
  intro l
  induction l with
  | nil => exact fun _ _ h => h
  | cons f l ih =>
   intro r o h
   rw [List.foldl_cons,List.foldl_cons]
   refine ih _ _ ?_
   by_cases hg:dO f k = true
   ·rw [if_pos hg,uS]
    by_cases e:f.name = x
    ·rw [if_pos ⟨hg,e⟩];simp [e]
    rw [if_neg (fun h => e h.2),← h]
    exact ⟨fun h => h.elim (fun e2 => absurd e2.symm e) id,.inr⟩
   rw [if_neg hg,if_neg (fun h => hg h.1)];exact h
 exact this l [] none (by simp)
section
variable {get:List UInt8 → Option Ob} {rec:List UInt8 → ByteArray → Lfs → Nat → FRes} {ahead:ByteArray} {e:Ent} {es:List Ent} {l:Lfs} {n:Nat}
end
theorem FQ {W w2:World} {r:Option Nat} (h:W.drew.grownBy w2 r):W.grownBy w2 r:=⟨h.os,h.tape,h.output,h.size,h.block⟩
def slo1:List UInt8:=[83,76,79,49]
def loOb (b:ByteArray):Option Ob:=match bK b.data.toList with
 | none => none
 | some s => if s.take 4 = slo1 then aQ (s.drop 4) else none
def rdLo (nm b:ByteArray):Option Ob:=match loOb b with
 | none => none
 | some o => if ofB (hexL (idO o)) = nm then some o else none
abbrev Dk:=Nat → ByteArray → Option ByteArray
def bW (d:Dk) (x:List UInt8):Sum Nat Ob:=match d 0 (ofB (hexL x)) with
 | none => .inl 6
 | some b => match rdLo (ofB (hexL x)) b with
  | none => .inl 17
  | some o => .inr o
def loAt (d:Dk) (nm:ByteArray):Option (List UInt8 × Ob):=match eu nm.data.toList with
 | none => none
 | some x => match bW d x with
  | .inl _ => none
  | .inr o => some (x,o)
def L9 (b:UInt8):Bool:=decide (48 ≤ b.toNat ∧ b.toNat ≤ 57)
def numL (s:List UInt8):Nat:=if s.length < 8 ∨ s.take 2 ≠ [112,45] then 0 else if ((s.drop 2).take 6).all L9 = true then ((s.drop 2).take 6).foldl (fun n b => 10 * n + (b.toNat - 48)) 0 else 0
def bF:List UInt8:=[46,112,97,99,107]
def pkNm (nm:ByteArray):Bool:=decide (nm.size = 13) && decide (nm.data.toList.drop 8 = bF) && decide (numL nm.data.toList ≠ 0)
structure Sp where
 stem:ByteArray
 bytes:ByteArray
 pk:Pk
def pkAt (d:Dk) (nm:ByteArray):Option Sp:=if pkNm nm = true then (match dJ ((d 1 nm).getD ByteArray.empty) with
  | none => none
  | some p => some ⟨ofB (nm.data.toList.take 8),(d 1 nm).getD ByteArray.empty,p⟩) else none
def aO (d:Dk) (l:List ByteArray):List Sp:=l.filterMap (pkAt d)
def fG (d:Dk) (l:List ByteArray):List (List UInt8 × Ob):=l.filterMap (loAt d)
def uq (p:Sp):List (List UInt8 × Ob):=p.pk.obs.map fun o => (idO o,o)
def srcF (d:Dk) (l0 l1:List ByteArray):List (List UInt8 × Ob):=fG d l0 ++ (aO d l1).flatMap uq
def dw (ps:List Sp) (x:List UInt8):Option Ob:=ps.findSome? fun p => p.pk.obs.find? fun o => decide (idO o = x)
def jC (d:Dk) (ps:List Sp) (x:List UInt8):Option Ob:=match bW d x with
 | .inr o => some o
 | .inl _ => dw ps x
theorem Oc:∀ i:Fin 16,jf (digB i.val) = some i.val:=by decide +kernel
theorem qm {n:Nat} (h:n < 16):jf (digB n) = some n:=Oc ⟨n,h⟩
theorem Dh:∀ x:List UInt8,(hexL x).length = 2 * x.length
 | [] => rfl
 | b :: x => by
  have:=Dh x
  unfold hexL at this ⊢
  rw [List.flatMap_cons,List.length_append,this]
  show 2 + 2 * x.length = 2 * (x.length + 1)
  omega
theorem qZ (b:UInt8) (x:List UInt8):hexL (b :: x) = digB (b.toNat / 16) :: digB (b.toNat % 16) :: hexL x:=rfl
theorem Di:∀ x:List UInt8,(hexL x).all (fun b => (jf b).isSome) = true
 | [] => rfl
 | b :: x => by
  have:=b.toNat_lt
  rw [qZ,List.all_cons,List.all_cons,qm (by omega),qm (by omega),Di x];rfl
theorem vV:∀ (x:List UInt8) (k:Nat),k < x.length → digV (hexL x) (2 * k) = (x.getD k 0).toNat / 16 ∧ digV (hexL x) (2 * k + 1) = (x.getD k 0).toNat % 16
 | [],k,h => by cases h
 | b :: x,0,_ => by
  have:=b.toNat_lt
  rw [qZ]
  unfold digV
  exact ⟨by show (jf (digB _)).getD 0 = _;rw [qm (by omega)];rfl,by show (jf (digB _)).getD 0 = _;rw [qm (by omega)];rfl⟩
 | b :: x,k + 1,h => by
  have h2:=vV x k (by simpa using h)
  rw [qZ]
  unfold digV at h2 ⊢
  rw [show 2 * (k + 1) = 2 * k + 1 + 1 from by omega,List.getD_cons_succ,List.getD_cons_succ,List.getD_cons_succ,List.getD_cons_succ,List.getD_cons_succ]
  exact h2
theorem qK {x:List UInt8} (h:x.length = 32):eu (hexL x) = some x:=by
 unfold eu
 rw [if_pos ⟨by rw [Dh,h],Di x⟩]
 congr 1
 refine List.ext_getElem (by simp [h]) fun k h1 h2 => ?_
 rw [List.getElem_map,List.getElem_range,(vV x k h2).1,(vV x k h2).2,List.getD_eq_getElem?_getD,List.getElem?_eq_getElem h2]
 show UInt8.ofNat (16 * (x[k].toNat / 16) + x[k].toNat % 16) = x[k]
 rw [Nat.div_add_mod]
 exact UInt8.ofNat_toNat
theorem CW {d:Dk} {l:List ByteArray} (hm:∀ x,x ∈ l ↔ (d 0 x).isSome = true) {x:List UInt8} (hx:x.length = 32) :
  (fG d l).find? (fun p => decide (p.1 = x)) = match bW d x with
   | .inr o => some (x,o)
   | .inl _ => none:=by
 have hin:∀ p,p ∈ fG d l → p.1 = x → bW d x = .inr p.2:=by
  intro p hp e
  obtain ⟨nm,_,h2⟩:=List.mem_filterMap.1 hp
  unfold loAt at h2
  cases h3:eu nm.data.toList with
  | none => rw [h3] at h2;cases h2
  | some y =>
   rw [h3] at h2
   dsimp only at h2
   cases h4:bW d y with
   | inl e => rw [h4] at h2;cases h2
   | inr o =>
    rw [h4] at h2
    cases h2
    cases e
    exact h4
 cases h:(fG d l).find? (fun p => decide (p.1 = x)) with
 | some p =>
  have h1:=List.find?_some h
  have h2:=List.mem_of_find?_eq_some h
  have e:p.1 = x:=of_decide_eq_true h1
  rw [hin p h2 e,← e]
 | none =>
  cases hg:bW d x with
  | inl e => rfl
  | inr o =>
   exfalso
   have h1:=List.find?_eq_none.1 h (x,o) (by
    refine List.mem_filterMap.2 ⟨ofB (hexL x),(hm _).2 ?_,?_⟩
    ·unfold bW at hg
     cases hd:d 0 (ofB (hexL x)) with
     | none => rw [hd] at hg;cases hg
     | some b => rfl
    unfold loAt
    rw [aW,qK hx]
    show (match bW d x with
     | .inl _ => none
     | .inr o => some (x,o)) = some (x,o)
    rw [hg])
   simp at h1
theorem Ei (p:Sp) (x:List UInt8):((uq p).find? fun q => decide (q.1 = x)).map (·.2) = p.pk.obs.find? fun o => decide (idO o = x):=by
 unfold uq
 rw [List.find?_map]
 cases h:p.pk.obs.find? ((fun q:List UInt8 × Ob => decide (q.1 = x)) ∘ fun o => (idO o,o)) with
 | none =>
  have:p.pk.obs.find? (fun o => decide (idO o = x)) = none:=h
  rw [this];rfl
 | some o =>
  have:p.pk.obs.find? (fun o => decide (idO o = x)) = some o:=h
  rw [this];rfl
theorem u7 (x:List UInt8):∀ ps:List Sp,((ps.flatMap uq).find? fun q => decide (q.1 = x)).map (·.2) = dw ps x
 | [] => rfl
 | p :: ps => by
  have h1:=Ei p x
  have h2:=u7 x ps
  rw [List.flatMap_cons,List.find?_append]
  unfold dw at h2 ⊢
  rw [List.findSome?_cons,← h1]
  cases h:(uq p).find? fun q => decide (q.1 = x) with
  | some q => rfl
  | none => exact h2
theorem Ij {d:Dk} {l0 l1:List ByteArray} (hm:∀ x,x ∈ l0 ↔ (d 0 x).isSome = true) {x:List UInt8} (hx:x.length = 32):((srcF d l0 l1).find? fun q => decide (q.1 = x)).map (·.2) = jC d (aO d l1) x:=by
 unfold srcF
 rw [List.find?_append,CW hm hx]
 unfold jC
 cases h:bW d x with
 | inr o => rfl
 | inl e => exact u7 x _
end
end Go.Proofs.YtijhemdnajlfnaaGreatDoor

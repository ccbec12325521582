/- A part of this claim. -/
import Derived.Laws.Concat
import Derived.Laws.Cover1
import Derived.Laws.Strings2
import Derived.Test.YtijhemdnajlfnaaGreatDoorR12
namespace Go.Proofs.YtijhemdnajlfnaaGreatDoor
open Tryz
set_option maxHeartbeats 64000000
set_option maxRecDepth 100000
section
open Go.RowKit
theorem wY (W w2:World) (x:UInt8) (e:TypeId) (hb:Below (W.alloc (.cells #[.int .u8 (x.toNat:Int)] e)).heap.size (W.alloc (.cells #[.int .u8 (x.toNat:Int)] e)) w2) :
  (convert 221 9 (.slice (some ⟨W.heap.size,0,none⟩) 1 1)).run prog w2 = .ok (.string (ofB [x])) w2 :=
 run_convert_bytes_back (P:=prog) w2 221 9 5 ⟨W.heap.size,0,none⟩ 1 [x] underlying221 underlying5 underlying9 fun j hj => by
  obtain rfl:j = 0:=by simpa using hj
  rw [Addr.add_mid,Nat.zero_add,hb.cell (p:=⟨W.heap.size,0,none⟩) (by rw [World.size_alloc];exact Nat.lt_succ_self _),World.cell?_alloc_new];rfl
theorem oN {W w2:World} (h:Below W.drew.heap.size W.drew w2):Below W.heap.size W w2:=⟨h.os,h.tape,h.output,h.size,h.block⟩
theorem gT {a b:ByteArray} (h:a = b):Ending.returned (.string a) = .returned (.string b):=by rw [h]
theorem aL {a b:Bool} (h:a = b):Ending.returned (.bool a) = .returned (.bool b):=by rw [h]
theorem Kw (n:Nat) (h:n < 256):((UInt8.ofNat n).toNat:Int) = n:=by rw [UInt8.toNat_ofNat'];omega
theorem CB (x:UInt8) (l:List UInt8):ofB (x :: l) = ofB [x] ++ ofB l:=ba_eq (by rw [nM,aW,aW,aW];rfl)
theorem dh (x l:List UInt8):ofB (x ++ l) = ofB x ++ ofB l:=ba_eq (by rw [nM,aW,aW,aW])
theorem lu (s:ByteArray):ofB s.data.toList = s:=ba_eq (aW _)
theorem pU:∀ k n,n < 128 ^ (k + 1) → (numB n).length ≤ k + 1
 | 0,n,h => by rw [iO (by simpa using h)];simp
 | k + 1,n,h => by
  by_cases h1:n < 128
  ·rw [iO h1];simp
  rw [lD (by omega)]
  have:=pU k (n / 128) (by rw [Nat.pow_succ] at h;omega)
  simp;omega
theorem mF (k:Nat):∀ (n:Nat) (w:World),n ≤ k → n ≤ 1099511627775 →
  Calls prog 190 #[.int .i64 (n:Int)] w fun e w' => e = .returned (.string (ofB (numB n))) ∧ Below w.heap.size w w':=by
 induction k with
 | zero =>
  intro n w hk _
  obtain rfl:n = 0:=by omega
  have hn:numB 0 = [0]:=iO (by omega)
  have HN:=ah hn
  have hcv:=wY w (w.alloc (.cells #[.int .u8 0] 5)) 0 5 (Below.refl _ _)
  clear hn
  go_enter func190,ntmps190
  go_wp2_with fail
  go_ret
  rw [HN.out]
  exact ⟨rfl,bal⟩
 | succ k ih =>
  intro n w hk hn
  have n0:(0:Int) ≤ n:=by omega
  have n1:decide ((n:Int) < 0) = false:=decide_eq_false (by omega)
  have n2:decide ((1099511627775:Int) < n) = false:=decide_eq_false (by omega)
  by_cases h:n < 128
  ·have HN:=ah (iO h)
   have hx:=Kw n (by omega)
   have hcv:=wY w (w.alloc (.cells #[.int .u8 (n:Int)] 5)) (UInt8.ofNat n) 5 (by rw [hx];exact Below.refl _ _)
   have h1:decide ((n:Int) < 128) = true:=decide_eq_true (by omega)
   have h3:IntKind.u8.wrap (n:Int) = n:=by rw [wrap_u8'];omega
   clear hx
   go_enter func190,ntmps190
   go_wp2_with fail
   go_ret
   rw [HN.out]
   exact ⟨rfl,bal⟩
  have HN:=ah (lD (n:=n) (by omega))
  have hx:=Kw (n % 128 + 128) (by omega)
  have HCV:=ah (fun W w2 => wY W w2 (UInt8.ofNat (n % 128 + 128)) 5)
  have h1:decide ((n:Int) < 128) = false:=decide_eq_false (by omega)
  have ht:(n:Int).tmod 128 = (n:Int) % 128:=Int.tmod_eq_emod_of_nonneg n0
  have h4:IntKind.i64.wrap ((n:Int) % 128 + 128) = (n:Int) % 128 + 128:=IntWalk.i64_in _ (by omega)
  have h3:IntKind.u8.wrap ((n:Int) % 128 + 128) = ((UInt8.ofNat (n % 128 + 128)).toNat:Int):=by rw [wrap_u8',hx];omega
  have h5:IntKind.i64.wrap ((n:Int) / 128) = ((n / 128:Nat):Int):=by rw [IntWalk.i64_in _ (by omega)];omega
  have HI:=ah (fun w => ih (n / 128) w (by omega) (by omega))
  have hq1:(ofB [UInt8.ofNat (n % 128 + 128)]).size ≤ 1:=by rw [aM];exact Nat.le_refl _
  have hq2:(ofB (numB (n / 128))).size ≤ 6:=by rw [aM];exact pU 5 _ (by omega)
  generalize UInt8.ofNat (n % 128 + 128) = x at HCV h3 HN hx hq1
  have HX:=ah hx
  generalize hm:n / 128 = m at HI HN h5 hq2
  have HM:=ah hm
  have HF:Hid (ofB (numB n) = ofB [x] ++ ofB (numB m)):=by unfold Hid;rw [HN.out,CB]
  generalize ofB [x] = q1 at HCV hq1 HF
  generalize ofB (numB m) = q2 at HI hq2 HF
  have hcat:∀ W,(Op.stringOp .add q1 q2).run prog W = .ok (.string (q1 ++ q2)) W:=fun W => run_string_add W _ _ (by omega) (by omega)
  clear ih hx hm HN
  go_enter func190,ntmps190
  go_wp2_with fail
  have hS:Below w.heap.size w w.drew:=(Below.refl _ _).drew
  have hb1:=((Below.refl w.heap.size w).alloc (Nat.le_refl _) (.cells #[.int .u8 (x.toNat:Int)] 5)).drew
  have hcv1:=HCV.out w _ (Below.refl _ _).drew
  refine wrL 10 (Below w.heap.size w) ?_
  refine WL.tk 0 hS ?_
  refine WL.tk 1 hS ?_
  refine WL.tk 2 hS ?_
  refine WL.tk 3 hS ?_
  refine WL.tk 6 hS ?_
  refine WL.tk 7 hS ?_
  refine WL.tw 4 8 ?_ ?_
  focus
   go_wp2_with fail
   refine ⟨hb1,?_⟩
   refine WL.tw 5 8 ?_ ?_
   focus
    go_wp2_with fail
    refine ⟨hb1,?_⟩
    refine WL.on 8 ?_
    go_wp2_with fail
    refine (HI.out _).mono ?_
    rintro e w2 ⟨rfl,hb2⟩
    have hb2:=hb1.trans (hb2.mono hb1.size)
    go_wp2
    refine ⟨hb2,?_⟩
    refine WL.on 9 ?_
    go_wp2
    refine ⟨hb2,?_⟩
    refine WL.la 10 ?_
    go_wp2
    go_ret
    exact ⟨gT HF.out.symm,hb2⟩
   focus
    go_wp2_with fail
    refine (HI.out _).mono ?_
    rintro e w2 ⟨rfl,hb2⟩
    have hcv2:=HCV.out w w2 (oN hb2)
    have hb2:=hb1.trans (hb2.mono hb1.size)
    go_wp2
    refine ⟨hb2,?_⟩
    refine WL.on 5 ?_
    go_wp2
    refine ⟨hb2,?_⟩
    refine WL.on 9 ?_
    go_wp2
    refine ⟨hb2,?_⟩
    refine WL.la 10 ?_
    go_wp2
    go_ret
    exact ⟨gT HF.out.symm,hb2⟩
  focus
   go_wp2_with fail
   refine (HI.out _).mono ?_
   rintro e w2 ⟨rfl,hb2⟩
   have hcv2:=HCV.out w2 _ (Below.refl _ _)
   have hb2:=hS.trans (hb2.mono hS.size)
   go_wp2
   refine ⟨hb2,?_⟩
   refine WL.on 4 ?_
   go_wp2
   have hb3:=hb2.alloc hb2.size (.cells #[.int .u8 (x.toNat:Int)] 5)
   refine ⟨hb3,?_⟩
   refine WL.on 5 ?_
   go_wp2
   refine ⟨hb3,?_⟩
   refine WL.on 9 ?_
   go_wp2
   refine ⟨hb3,?_⟩
   refine WL.la 10 ?_
   go_wp2
   go_ret
   exact ⟨gT HF.out.symm,hb3⟩
theorem Hf (s:ByteArray) (k:Nat) (h:k < s.size):s.data.toList[k]? = some (blk s k):=by
 unfold blk
 have hl:k < s.data.toList.length:=by simpa using h
 rw [List.getD_eq_getElem?_getD,List.getElem?_eq_getElem hl];rfl
theorem KD (s:ByteArray) (k:Nat) (h:k < s.size):s.data.toList.take (k + 1) = s.data.toList.take k ++ [blk s k]:=by
 have hl:k < s.data.toList.length:=by simpa using h
 rw [List.take_succ_eq_append_getElem hl]
 have:=Hf s k h
 rw [List.getElem?_eq_getElem hl] at this
 rw [Option.some.inj this]
theorem Fb (s:ByteArray) (k:Nat) (h:k < s.size) (hb:iI (blk s k) = false):dV s = false:=by
 unfold dV
 have:s.data.toList.all iI = false:=by
  rw [List.all_eq_false]
  exact ⟨blk s k,List.mem_of_getElem? (Hf s k h),by simp [hb]⟩
 rw [this];rfl
theorem LM {x:UInt8} (h:(x.toNat:Int) < 33):iI x = false:=decide_eq_false (by omega)
theorem LP {x:UInt8} (h:126 < (x.toNat:Int)):iI x = false:=decide_eq_false (by omega)
theorem LJ {x:UInt8} (h:(x.toNat:Int) = 47):iI x = false:=decide_eq_false (by omega)
theorem IK (s:ByteArray) (w:World) (hs:s.size ≤ 1000000000) :
  Calls prog 189 #[.string s] w fun e w' => e = .returned (.bool (dV s)) ∧ w' = w:=by
 go_enter func189,ntmps189
 go_wp2
 go_loop [3] (fun i => ∃ k:Nat,k ≤ s.size ∧ i = .int .i64 k ∧ Hid ((s.data.toList.take k).all iI = true)) (fun i => (s.size - intOf i).toNat)
 case atStart => exact ⟨0,by omega,rfl,rfl⟩
 obtain ⟨k,hk,rfl,hall⟩:=hrel
 by_cases hlt:k < s.size
 ·have HI:∀ w,(Instr.index 9 (.string s) (.int .i64 (k:Int))).run prog w = .ok (.int .u8 ((blk s k).toNat:Int)) w:=fun w => by rw [dB s w k hlt,lS]
  have HBAD:=ah (Fb s k hlt)
  have HT:=ah (KD s k hlt)
  have hxl:=(blk s k).toNat_lt
  generalize blk s k = x at HI HBAD HT hxl
  have x0:(0:Int) ≤ x.toNat:=by omega
  have x1:(x.toNat:Int) < 256:=by omega
  by_cases h1:(x.toNat:Int) < 33
  ·have HR:=ah (HBAD.out (LM h1))
   have d1:decide ((x.toNat:Int) < 33) = true:=decide_eq_true h1
   clear h1
   go_wp2
   go_ret
   exact ⟨aL HR.out.symm,rfl⟩
  have d1:decide ((x.toNat:Int) < 33) = false:=decide_eq_false h1
  by_cases h2:(126:Int) < x.toNat
  ·have HR:=ah (HBAD.out (LP h2))
   have d2:decide ((126:Int) < x.toNat) = true:=decide_eq_true h2
   clear h1 h2
   go_wp2
   go_ret
   exact ⟨aL HR.out.symm,rfl⟩
  have d2:decide ((126:Int) < x.toNat) = false:=decide_eq_false h2
  by_cases h3:(x.toNat:Int) = 47
  ·have HR:=ah (HBAD.out (LJ h3))
   have d3:((x.toNat:Int) == 47) = true:=by rw [beq_iff_eq];exact h3
   clear h1 h2 h3
   go_wp2
   go_ret
   exact ⟨aL HR.out.symm,rfl⟩
  have d3:((x.toNat:Int) == 47) = false:=by rw [beq_eq_false_iff_ne];exact h3
  have HR:Hid (iI x = true):=ah (decide_eq_true (by omega))
  clear h1 h2 h3
  go_wp2
  go_round
  case rel => exact ⟨k + 1,by omega,by go_num,by unfold Hid;rw [HT.out,List.all_append,hall.out];simp [HR.out]⟩
  case measure => simp [intOf];omega
 obtain rfl:k = s.size:=by omega
 have ha:s.data.toList.all iI = true:=by
  have:=hall.out
  rwa [List.take_of_length_le (by simp)] at this
 have HA:=ah ha
 clear hall ha
 by_cases h1:1 ≤ s.size
 ·have d1:decide ((1:Int) ≤ s.size) = true:=decide_eq_true (by omega)
  by_cases h2:s.size ≤ 32
  ·have d2:decide ((s.size:Int) ≤ 32) = true:=decide_eq_true (by omega)
   have HR:Hid (dV s = true):=by unfold Hid dV;rw [HA.out,decide_eq_true ⟨h1,h2⟩];rfl
   clear h2
   go_wp2
   go_ret
   exact ⟨aL HR.out.symm,rfl⟩
  have d2:decide ((s.size:Int) ≤ 32) = false:=decide_eq_false (by omega)
  have HR:Hid (dV s = false):=by unfold Hid dV;rw [HA.out,decide_eq_false (fun h => h2 h.2)];rfl
  clear h2
  go_wp2
  go_ret
  exact ⟨aL HR.out.symm,rfl⟩
 have d1:decide ((1:Int) ≤ s.size) = false:=decide_eq_false (by omega)
 have HR:Hid (dV s = false):=by unfold Hid dV;rw [HA.out,decide_eq_false (fun h => h1 h.1)];rfl
 go_wp2
 go_ret
 exact ⟨aL HR.out.symm,rfl⟩
def idC (x:List UInt8):List Value:=x.map fun b => .int .u8 (b.toNat:Int)
def entC (e:Ent):List Value:=[.string e.name,.int .i64 (e.kind:Int)] ++ idC e.id
def fq (w:World) (v:Value) (l:List Ent):Prop:=aK w v 34 (l.map entC)
theorem fq.below {w w':World} {v:Value} {l:List Ent} (h:fq w v l) (hb:Below w.heap.size w w'):fq w' v l:=aK.below h hb
theorem fq.open {w:World} {v:Value} {l:List Ent} (h:fq w v l):∃ ao cap,v = .slice ao l.length cap ∧ l.length ≤ maxLen ∧ (l ≠ [] → ∃ b off,ao = some ⟨b,off,none⟩ ∧ b < w.heap.size ∧ ∀ k (hk:k < l.length),w.cell? ⟨b,off + k * 34,none⟩ = some (.string l[k].name) ∧ w.cell? ⟨b,off + k * 34 + 1,none⟩ = some (.int .i64 (l[k].kind:Int)) ∧ w.rangeAt b (off + k * 34 + 2) (idC l[k].id)):=by
 obtain ⟨ao,cap,rfl,hm,h⟩:=h
 rw [List.length_map] at hm ⊢
 refine ⟨ao,cap,rfl,hm,fun hne => ?_⟩
 obtain ⟨b,off,e,hl,hc⟩:=h (by simpa using hne)
 refine ⟨b,off,e,hl,fun k hk => ?_⟩
 have:=hc k (by simpa using hk)
 rw [List.getElem_map] at this
 refine ⟨this 0 _ rfl,this 1 _ rfl,fun j u hu => ?_⟩
 have h2:=this (2 + j) u (by unfold entC;rw [List.getElem?_append_right (by simp)];simpa using hu)
 rw [show off + k * 34 + 2 + j = off + k * 34 + (2 + j) from by omega];exact h2
theorem M8:∀ x y:List UInt8,Op.bytesLess x y = ltB x y
 | [],[] => rfl
 | [],_ :: _ => rfl
 | _ :: _,[] => rfl
 | a :: x,b :: y => by
  unfold Op.bytesLess ltB
  rw [M8 x y]
  by_cases h1:a.toNat < b.toNat
  ·rw [if_pos h1,decide_eq_true (show a < b from UInt8.lt_iff_toNat_lt.2 h1)];rfl
  rw [if_neg h1,decide_eq_false (show ¬ a < b from fun h => h1 (UInt8.lt_iff_toNat_lt.1 h))]
  by_cases h2:b.toNat < a.toNat
  ·rw [if_pos h2,show (a == b) = false from beq_eq_false_iff_ne.2 (fun e => by subst e;omega)];rfl
  rw [if_neg h2,UInt8.toNat_inj.1 (show a.toNat = b.toNat by omega)];simp
theorem Bd (x y:ByteArray):Op.bytesLess x.toList y.toList = ltB x.data.toList y.data.toList:=by rw [M8,ByteArray.toList_eq,ByteArray.toList_eq]
theorem M9 (x y:ByteArray):(x.toList == y.toList) = decide (x.data.toList = y.data.toList):=by
 rw [ByteArray.toList_eq,ByteArray.toList_eq]
 by_cases h:x.data.toList = y.data.toList
 ·rw [decide_eq_true h,h];simp
 rw [decide_eq_false h,beq_eq_false_iff_ne];exact h
def rowOk (l:List Ent) (k:Nat):Bool:=match l[k]? with
 | some e => dP e && (decide (k = 0) || (match l[k - 1]? with
  | some d => ltB d.name.data.toList e.name.data.toList
  | none => false))
 | none => false
theorem Cb:∀ l:List Ent,(l.all dP && mR l) = (List.range l.length).all (rowOk l)
 | [] => rfl
 | [a] => by simp [mR,rowOk]
 | a :: b :: l => by
  have ih:=Cb (b :: l)
  have e:(List.range (a :: b :: l).length).all (rowOk (a :: b :: l)) = (dP a && (ltB a.name.data.toList b.name.data.toList && (List.range (b :: l).length).all (rowOk (b :: l)))):=by
   rw [List.length_cons,List.range_succ_eq_map,List.all_cons,List.all_map]
   have h0:rowOk (a :: b :: l) 0 = dP a:=by simp [rowOk]
   rw [h0]
   congr 1
   rw [List.length_cons,List.range_succ_eq_map,List.all_cons,List.all_map,List.all_cons,List.all_map]
   have h1:(rowOk (a :: b :: l) ∘ Nat.succ) 0 = (dP b && ltB a.name.data.toList b.name.data.toList):=by simp [rowOk]
   have h2:rowOk (b :: l) 0 = dP b:=by simp [rowOk]
   have h3:(rowOk (a :: b :: l) ∘ Nat.succ) ∘ Nat.succ = rowOk (b :: l) ∘ Nat.succ:=by
    funext k
    show rowOk (a :: b :: l) (k + 1 + 1) = rowOk (b :: l) (k + 1)
    unfold rowOk
    simp only [List.getElem?_cons_succ,Nat.add_sub_cancel]
    simp
   rw [h1,h2,h3]
   cases dP b <;> simp
  rw [e,← ih]
  simp only [List.all_cons,mR]
  cases dP a <;> cases dP b <;> cases ltB a.name.data.toList b.name.data.toList <;> simp
theorem gK (l:List Ent):eY l = ((List.range l.length).all (rowOk l) && decide (l.length ≤ 32)):=by unfold eY;rw [Cb]
theorem tQ (l:List Ent) (k:Nat) (h:k < l.length) (hb:rowOk l k = false):eY l = false:=by
 rw [gK]
 have:(List.range l.length).all (rowOk l) = false:=by rw [List.all_eq_false];exact ⟨k,List.mem_range.2 h,by simp [hb]⟩
 rw [this];rfl
theorem yx (l:List Ent) (k:Nat) (h:k < l.length) (hb:dP l[k] = false):rowOk l k = false:=by
 unfold rowOk;rw [List.getElem?_eq_getElem h];simp [hb]
theorem rQ (l:List Ent) (h:0 < l.length) (hb:dP l[0] = true):rowOk l 0 = true:=by
 unfold rowOk;rw [List.getElem?_eq_getElem h];simp [hb]
theorem uI (l:List Ent) (k:Nat) (h:k < l.length) (h0:0 < k) (hb:dP l[k] = true):rowOk l k = ltB l[k - 1].name.data.toList l[k].name.data.toList:=by
 unfold rowOk;rw [List.getElem?_eq_getElem h,List.getElem?_eq_getElem (show k - 1 < l.length by omega)]
 have:k ≠ 0:=by omega
 simp [hb,this]
theorem uF (v:Value) (l:List Ent) (w:World) (hv:fq w v l) (hz:∀ e ∈ l,e.name.size ≤ 1000000 ∧ e.kind ≤ 2) :
  Calls prog 127 #[v] w fun e w' => e = .returned (.bool (eY l)) ∧ Below w.heap.size w w':=by
 obtain ⟨ao,cap,rfl,hmax,hv⟩:=hv.open
 unfold maxLen at hmax
 have HZ:=ah hz
 have HV:=ah hv
 clear hv hz
 by_cases h32:32 < l.length
 ·have HR:Hid (eY l = false):=by unfold Hid;rw [gK,decide_eq_false (show ¬ l.length ≤ 32 by omega),Bool.and_false]
  have d1:decide ((32:Int) < l.length) = true:=decide_eq_true (by omega)
  go_enter func127,ntmps127
  go_wp2
  go_ret
  exact ⟨aL HR.out.symm,Below.refl _ _⟩
 have d1:decide ((32:Int) < l.length) = false:=decide_eq_false (by omega)
 have H32:=ah h32
 clear h32
 go_enter func127,ntmps127
 go_wp2
 go_loopw [3] (fun i wr => ∃ k:Nat,k ≤ l.length ∧ i = .int .i64 k ∧ Hid (∀ j,j < k → rowOk l j = true) ∧ Below w.heap.size w wr) (fun i _ => (l.length - intOf i).toNat)
 case atStart => exact ⟨0,by omega,rfl,fun j hj => absurd hj (by omega),Below.refl _ _⟩
 obtain ⟨wo,rfl⟩:∃ wo:World,wo = wr:=⟨_,rfl⟩
 obtain ⟨k,hk,rfl,hok,hb⟩:=hrel
 by_cases hlt:k < l.length
 ·obtain ⟨b,off,rfl,hbl,hcell⟩:=HV.out (by intro e;rw [e] at hlt;simp at hlt)
  have c1:=ak (hcell k hlt).1 hb hbl
  have c2:=ak (hcell k hlt).2.1 hb hbl
  obtain ⟨hz1,hz2⟩:=HZ.out l[k] (List.getElem_mem hlt)
  have HN:=ah (fun w => IK l[k].name w (by omega))
  have HBAD:=ah (tQ l k hlt)
  have HE:=ah (yx l k hlt)
  have k0:(0:Int) ≤ k:=by omega
  have k1:(k:Int) < l.length:=by omega
  by_cases hn:dV l[k].name = true
  ·by_cases hk1:l[k].kind < 1
   ·have he:dP l[k] = false:=by unfold dP;rw [hn,decide_eq_false (by omega)];rfl
    have HR:=ah (HBAD.out (HE.out he))
    rw [hn] at HN
    have d2:decide ((l[k].kind:Int) < 1) = true:=decide_eq_true (by omega)
    clear hn he hcell hz1
    generalize l[k].name = x at c1 HN
    generalize l[k].kind = y at c2 d2 hz2 hk1
    go_wp2_with fail
    refine (HN.out _).mono ?_
    rintro e w' ⟨rfl,rfl⟩
    go_wp2
    go_ret
    exact ⟨aL HR.out.symm,hb⟩
   have he:dP l[k] = true:=by unfold dP;rw [hn,decide_eq_true (by omega)];rfl
   have d2:decide ((l[k].kind:Int) < 1) = false:=decide_eq_false (by omega)
   have d3:decide ((2:Int) < l[k].kind) = false:=decide_eq_false (by omega)
   rw [hn] at HN
   rcases Nat.eq_zero_or_pos k with hk0 | hk0
   ·have j5:decide ((0:Int) < k) = false:=decide_eq_false (by omega)
    have j6:decide (0 < k) = false:=decide_eq_false (by omega)
    have HR:Hid (rowOk l k = true):=by
     subst hk0
     exact ah (rQ l hlt he)
    have HK:=ah hk0
    have HOK:=ah hok
    clear hn he hcell hz1 hok hk0
    generalize l[k].name = x at c1 HN
    generalize l[k].kind = y at c2 d2 d3 hz2 hk1
    go_wp2_with fail
    refine (HN.out _).mono ?_
    rintro e w' ⟨rfl,rfl⟩
    go_wp2
    refine wbq ?_
    repeat (go_big_quiet_step (fail))
    refine wpQuiet_nil ?_
    intro wq hbq
    have HB:=ah (hb.trans (hbq.mono hb.size))
    clear hb hbq c1 c2
    go_wp2
    go_roundw
    case rel => exact ⟨k + 1,by omega,by go_num,fun j hj => by
     rcases Nat.lt_or_ge j k with h | h
     ·exact HOK.out j h
     obtain rfl:j = k:=by omega
     exact HR.out,HB.out⟩
    case measure => simp [intOf];omega
   have HX:=ah (uI l k hlt hk0 he)
   have cp:=ak (hcell (k - 1) (by omega)).1 hb hbl
   have hbo:b < wo.heap.size:=by have:=hb.size;omega
   have j1:IntKind.i64.wrap ((k:Int) - 1) = (k:Int) - 1:=IntWalk.i64_in _ (by omega)
   have j2:((k:Int) - 1).toNat = k - 1:=by omega
   have j3:(0:Int) ≤ (k:Int) - 1:=by omega
   have j4:(k:Int) - 1 < l.length:=by omega
   have j5:decide ((0:Int) < k) = true:=decide_eq_true (by omega)
   have j6:decide (0 < k) = true:=decide_eq_true (by omega)
   have j7:(1:Int) ≤ k:=by omega
   have HOK:=ah hok
   clear hn he hcell hz1 hok
   have hbl1:=Bd l[k].name l[k - 1].name
   have hbe1:=M9 l[k].name l[k - 1].name
   generalize l[k].name = x at c1 HN hbl1 hbe1 HX
   generalize l[k].kind = y at c2 d2 d3 hz2 hk1
   generalize l[k - 1].name = z at cp hbl1 hbe1 HX
   cases hlz:ltB z.data.toList x.data.toList with
   | true =>
    have HR:Hid (rowOk l k = true):=by unfold Hid;rw [HX.out,hlz]
    rw [y8 hlz] at hbl1
    rw [decide_eq_false (fun e => by rw [e,bS] at hlz;cases hlz)] at hbe1
    clear hlz
    go_wp2_with fail
    refine (HN.out _).mono ?_
    rintro e w' ⟨rfl,rfl⟩
    go_wp2
    refine wbq ?_
    have LQ0:=blq c1
    have LQ1:=blq cp
    repeat (go_big_quiet_step (fail))
    refine wpQuiet_nil ?_
    intro wq hbq
    clear LQ0 LQ1
    have HB:=ah (hb.trans (hbq.mono hb.size))
    clear hb hbq c1 c2 cp
    go_wp2
    go_roundw
    case rel => exact ⟨k + 1,by omega,by go_num,fun j hj => by
     rcases Nat.lt_or_ge j k with h | h
     ·exact HOK.out j h
     obtain rfl:j = k:=by omega
     exact HR.out,HB.out⟩
    case measure => simp [intOf];omega
   | false =>
    have HR:Hid (eY l = false):=ah (HBAD.out (by rw [HX.out,hlz]))
    by_cases hxz:x.data.toList = z.data.toList
    ·rw [decide_eq_true hxz] at hbe1
     have hbl2:Op.bytesLess x.toList z.toList = false:=by rw [hbl1,hxz,bS]
     clear hlz hxz hbl1
     go_wp2_with fail
     refine (HN.out _).mono ?_
     rintro e w' ⟨rfl,rfl⟩
     go_wp2
     refine wbq ?_
     have LQ0:=blq c1
     have LQ1:=blq cp
     repeat (go_big_quiet_step (fail))
     refine wpQuiet_nil ?_
     intro wq hbq
     clear LQ0 LQ1
     have HB:=ah (hb.trans (hbq.mono hb.size))
     clear hb hbq c1 c2 cp
     go_wp2
     go_ret
     exact ⟨aL HR.out.symm,HB.out⟩
    rw [decide_eq_false hxz] at hbe1
    have hbl2:Op.bytesLess x.toList z.toList = true:=by
     rw [hbl1]
     cases e:ltB x.data.toList z.data.toList with
     | true => rfl
     | false => exact absurd (kP e hlz) hxz
    clear hlz hxz hbl1
    go_wp2_with fail
    refine (HN.out _).mono ?_
    rintro e w' ⟨rfl,rfl⟩
    go_wp2
    refine wbq ?_
    have LQ0:=blq c1
    have LQ1:=blq cp
    repeat (go_big_quiet_step (fail))
    refine wpQuiet_nil ?_
    intro wq hbq
    clear LQ0 LQ1
    have HB:=ah (hb.trans (hbq.mono hb.size))
    clear hb hbq c1 c2 cp
    go_wp2
    go_ret
    exact ⟨aL HR.out.symm,HB.out⟩
  have hn2:dV l[k].name = false:=by simpa using hn
  have he:dP l[k] = false:=by unfold dP;rw [hn2];rfl
  have HR:=ah (HBAD.out (HE.out he))
  rw [hn2] at HN
  clear hn hn2 he hcell hz1 hz2 c2
  generalize l[k].name = x at c1 HN
  go_wp2_with fail
  refine (HN.out _).mono ?_
  rintro e w' ⟨rfl,rfl⟩
  go_wp2
  go_ret
  exact ⟨aL HR.out.symm,hb⟩
 obtain rfl:k = l.length:=by omega
 have HR:Hid (eY l = true):=by
  unfold Hid
  rw [gK,decide_eq_true (show l.length ≤ 32 by have:=H32.out;omega),Bool.and_true,List.all_eq_true]
  exact fun j hj => hok.out j (List.mem_range.1 hj)
 clear hok
 go_wp2
 go_ret
 exact ⟨aL HR.out.symm,hb⟩
end
end Go.Proofs.YtijhemdnajlfnaaGreatDoor

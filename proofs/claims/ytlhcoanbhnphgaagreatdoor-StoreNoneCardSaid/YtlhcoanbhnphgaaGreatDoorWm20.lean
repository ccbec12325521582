/- A part of this claim. -/
import Derived.Deep.Cut
import Derived.Test.YtlhcoanbhnphgaaGreatDoorWm14
import Derived.Test.YtlhcoanbhnphgaaGreatDoorWm17
import Derived.Test.YtlhcoanbhnphgaaGreatDoorWm9
namespace Go.Proofs.YtlhcoanbhnphgaaGreatDoor
open Tryz
set_option maxHeartbeats 64000000
set_option maxRecDepth 100000
set_option linter.all false
section
open Go.RowKit Go.Maps
theorem FL (w:World):PredAt prog 177 #[] encR badR w:=fun W r _ => by
 unfold FnGives
 by_cases h1:r < 33 <;> by_cases h2:126 < r <;> by_cases h3:r = 47
 all_goals
  have d1:decide ((r:Int) < 33) = decide (r < 33):=by rw [decide_eq_decide];omega
  have d2:decide ((126:Int) < r) = decide (126 < r):=by rw [decide_eq_decide];omega
  have d3:((r:Int) == 47) = decide (r = 47):=by by_cases h:r = 47 <;> simp [h] <;> omega
  go_enter func177,ntmps177
  go_wp2
  all_goals first | (exfalso;omega) | (go_ret;exact ⟨by simp [badR,h1,h2,h3],0,rfl⟩)
theorem wY (s:ByteArray) (w:World) (hs:s.size ≤ 1000000000) :
  Calls prog 106 #[.string s] w fun e w' => e = .returned (.bool (aQ s)) ∧ Below w.heap.size w w':=by
 have HC:=ah (fun W => Any.strings_ContainsFunc Tryz.laysGw17 177 #[] (enters_of func177 (by kernel_rfl) rfl) badR s W (FL W))
 have hcb:=jN s
 by_cases h0:s.size = 0
 ·obtain rfl:s = ⟨#[]⟩:=by
   cases s with
   | mk d => have:d = #[]:=Array.size_eq_zero_iff.1 h0;rw [this]
  clear HC hcb
  have HR:Hid (aQ ⟨#[]⟩ = false):=ah (by decide)
  go_enter func106,ntmps106
  go_wp2
  go_ret
  exact ⟨bE HR.out.symm,Below.refl _ _⟩
 have e1:s.toList ≠ []:=fun h => h0 (by have:=congrArg List.length h;rw [Lib.toList_data] at this;simpa using this)
 have e2:(!s.toList.isEmpty) = true:=by simpa using e1
 have e3:s.toList.isEmpty = false:=by simpa using e1
 by_cases h2:s.size ≤ 32
 ·have d2:decide ((s.size:Int) ≤ 32) = true:=decide_eq_true (by omega)
  have HR:Hid (aQ s = !decide (0 ≤ Lib.idxFunc badR true s)):=by
   unfold Hid aQ;rw [hcb,decide_eq_true (show 1 ≤ s.size ∧ s.size ≤ 32 by omega)];simp
  generalize decide (0 ≤ Lib.idxFunc badR true s) = b at HC HR
  clear hcb
  go_enter func106,ntmps106
  go_wp2_with fail
  refine (HC.out w).mono ?_
  rintro e w1 ⟨rfl,hb1⟩
  go_wp2
  go_ret
  exact ⟨bE HR.out.symm,hb1⟩
 have d2:decide ((s.size:Int) ≤ 32) = false:=decide_eq_false (by omega)
 have HR:Hid (aQ s = false):=by unfold Hid aQ;rw [decide_eq_false (fun h => h2 h.2)];simp
 clear HC hcb
 go_enter func106,ntmps106
 go_wp2
 go_ret
 exact ⟨bE HR.out.symm,Below.refl _ _⟩
def encX (x:List UInt8):Value:=.agg (idC x).toArray
def rfC (r:Rf):List Value:=.string r.1 :: idC r.2
theorem gI:(prog.info? 93).map (·.size) = some 33:=by decide +kernel
theorem yu (mb:Nat) (V:List Rf) (r:Rf) (w:World) (hm:MapZ encX w mb V) (hr:r.1.size ≤ maxLen) (hl:r.2.length = 32) (hn:V.length ≤ 1000000) :
  Calls prog 153 #[.map (some mb),.agg (rfC r).toArray] w fun e w' => e = .returned (.bool (decide ((setR V r).length ≤ 16))) ∧ MapZ encX w' mb (setR V r) ∧ w.grownBy w' (some mb):=by
 obtain ⟨W,hW⟩:∃ W,w.alloc (.cells (rfC r).toArray 93) = W:=⟨_,rfl⟩
 have hbW:Below w.heap.size w W:=by rw [← hW];exact bal
 have HB:Hid (BoxL W w.heap.size 93 (rfC r)):=ah (by rw [← hW];exact BoxL.new w 93 (rfC r))
 have HM:=ah (hm.on hbW)
 have hmb:mb < w.heap.size:=hm.lt
 have hpl:=jJ hm.nodup r.1 r.2
 have hpn:=ze hm.nodup r.1 r.2
 have HBW:=ah hbW
 have HW:=ah hW
 have c0:W.cell? ⟨w.heap.size,0,none⟩ = some (.string r.1):=HB.out.range 0 _ rfl
 have r1:W.rangeAt w.heap.size 1 (idC r.2):=fun j u hu => by
  have:=HB.out.range (j + 1) u (by unfold rfC;rw [List.getElem?_cons_succ];exact hu)
  rw [Nat.zero_add] at this
  rw [Nat.add_comm 1 j];exact this
 have h32:(prog.info? 42).map (·.size) = some (idC r.2).length:=mI (by rw [au,hl])
 have hmx:(setR V r).length ≤ 1000001:=by
  unfold setR
  have h1:=uj hpl r.1
  split <;> (split at hpn <;> omega)
 clear hW hbW hm
 go_enter func153,ntmps153
 go_upto_region 1 with fail
 rw [HW.out]
 go_wp2_with (first
  | refine wpList_load_mid rfl 42 _ rfl w.heap.size 1 rfl (idC r.2) _ r1 underlying42 rfl h32 ?_
  | refine qC (enc:=encX) rfl _ _ _ 150 42 rfl underlying150 mb V rfl HM.out r.1 hr r.2 rfl rfl (by unfold maxLen;omega) ?_)
 intro w2 hm2 hg2
 have hb2:=HB.out.kept hg2 (fun e => by have:=Option.some.inj e;omega)
 have c2:w2.cell? ⟨w.heap.size,0,none⟩ = some (.string r.1):=hb2.range 0 _ rfl
 have r2:w2.rangeAt w.heap.size 1 (idC r.2):=fun j u hu => by
  have:=hb2.range (j + 1) u (by unfold rfC;rw [List.getElem?_cons_succ];exact hu)
  rw [Nat.zero_add] at this
  rw [Nat.add_comm 1 j];exact this
 have HM2:=ah hm2
 have HG2:Hid (w.grownBy w2 (some mb)):=ah ⟨hg2.os.trans HBW.out.os,hg2.tape.trans HBW.out.tape,hg2.output.trans HBW.out.output,Nat.le_trans HBW.out.size hg2.size,fun k hk hne => (hg2.block k (Nat.lt_of_lt_of_le hk HBW.out.size) hne).trans (HBW.out.block k hk)⟩
 have HMX:=ah hmx
 clear c0 r1 hm2 hg2 hb2 hmx HM HB
 by_cases h0:r.2 = zid
 ·have hq:∀ w,(Op.equalIn 10000 42 (.agg (idC r.2).toArray) (.agg #[.int .u8 0,.int .u8 0,.int .u8 0,.int .u8 0,.int .u8 0,.int .u8 0,.int .u8 0,.int .u8 0,.int .u8 0,.int .u8 0,.int .u8 0,.int .u8 0,.int .u8 0,.int .u8 0,.int .u8 0,.int .u8 0,.int .u8 0,.int .u8 0,.int .u8 0,.int .u8 0,.int .u8 0,.int .u8 0,.int .u8 0,.int .u8 0,.int .u8 0,.int .u8 0,.int .u8 0,.int .u8 0,.int .u8 0,.int .u8 0,.int .u8 0,.int .u8 0])).run prog w = .ok true w:=fun w => iO hl h0 w
  have HS:Hid (setR V r = delV (putV V r.1 r.2) r.1):=ah (by unfold setR;rw [if_pos h0])
  clear h0 hpl hpn
  go_wp2_with (first
   | refine wpList_load_mid rfl 42 _ rfl w.heap.size 1 rfl (idC r.2) _ r2 underlying42 rfl h32 ?_
   | refine qE (enc:=encX) rfl _ _ 150 42 rfl underlying150 mb (putV V r.1 r.2) rfl HM2.out r.1 hr rfl ?_)
  intro w3 hm3 hg3
  rw [← HS.out] at hm3
  have hlr:=hm3.CJ underlying150 3
  have HM3:=ah hm3
  have HG3:Hid (w.grownBy w3 (some mb)):=ah ⟨hg3.os.trans HG2.out.os,hg3.tape.trans HG2.out.tape,hg3.output.trans HG2.out.output,Nat.le_trans HG2.out.size hg3.size,fun k hk hne => (hg3.block k (Nat.lt_of_lt_of_le hk HG2.out.size) hne).trans (HG2.out.block k hk hne)⟩
  obtain ⟨n,hn2⟩:∃ n,(setR V r).length = n:=⟨_,rfl⟩
  rw [hn2] at hlr
  have HN2:=ah hn2
  have d1:decide ((n:Int) ≤ 16) = decide (n ≤ 16):=by rw [decide_eq_decide];omega
  clear hm3 hg3 c2 r2 hq hn2
  go_wp2_with fail
  go_ret
  exact ⟨by rw [HN2.out];rfl,HM3.out,HG3.out⟩
 have hq:∀ w,(Op.equalIn 10000 42 (.agg (idC r.2).toArray) (.agg #[.int .u8 0,.int .u8 0,.int .u8 0,.int .u8 0,.int .u8 0,.int .u8 0,.int .u8 0,.int .u8 0,.int .u8 0,.int .u8 0,.int .u8 0,.int .u8 0,.int .u8 0,.int .u8 0,.int .u8 0,.int .u8 0,.int .u8 0,.int .u8 0,.int .u8 0,.int .u8 0,.int .u8 0,.int .u8 0,.int .u8 0,.int .u8 0,.int .u8 0,.int .u8 0,.int .u8 0,.int .u8 0,.int .u8 0,.int .u8 0,.int .u8 0,.int .u8 0])).run prog w = .ok false w:=fun w => tH hl aV h0 w
 have HS:Hid (setR V r = putV V r.1 r.2):=ah (by unfold setR;rw [if_neg h0])
 clear h0 hpl hpn
 have hm3:=HM2.out
 rw [← HS.out] at hm3
 have hlr:=hm3.CJ underlying150 3
 have HM3:=ah hm3
 obtain ⟨n,hn2⟩:∃ n,(setR V r).length = n:=⟨_,rfl⟩
 rw [hn2] at hlr
 have HN2:=ah hn2
 have d1:decide ((n:Int) ≤ 16) = decide (n ≤ 16):=by rw [decide_eq_decide];omega
 clear hm3 hn2
 go_wp2_with (refine wpList_load_mid rfl 42 _ rfl w.heap.size 1 rfl (idC r.2) _ r2 underlying42 rfl h32 ?_)
 go_ret
 exact ⟨by rw [HN2.out];rfl,HM3.out,HG2.out⟩
def bK (w:World) (v:Value) (l:List Rf):Prop:=aS w v 33 (l.map rfC)
theorem bK.below {w w':World} {v:Value} {l:List Rf} (h:bK w v l) (hb:Below w.heap.size w w'):bK w' v l:=aS.below h hb
theorem bK.open {w:World} {v:Value} {l:List Rf} (h:bK w v l):∃ ao cap,v = .slice ao l.length cap ∧ l.length ≤ maxLen ∧ (l ≠ [] → ∃ b off,ao = some ⟨b,off,none⟩ ∧ b < w.heap.size ∧ ∀ k (hk:k < l.length),w.rangeAt b (off + k * 33) (rfC l[k])):=by
 obtain ⟨ao,cap,rfl,hm,h⟩:=h
 rw [List.length_map] at hm ⊢
 refine ⟨ao,cap,rfl,hm,fun hne => ?_⟩
 obtain ⟨b,off,e,hl,hc⟩:=h (by simpa using hne)
 refine ⟨b,off,e,hl,fun k hk => ?_⟩
 have:=hc k (by simpa using hk)
 rw [List.getElem_map] at this
 exact this
def uL (t l:List Rf) (k:Nat) (w:World) (e:Ending) (w':World):Prop :=
 (match dx t (l.take k) with
 | none => e = .returned (.tuple #[.map none,.bool false])
 | some V => ∃ mb,e = .returned (.tuple #[.map (some mb),.bool (decide (l.length ≤ 100))]) ∧ MapZ encX w' mb V ∧ w.heap.size ≤ mb) ∧ Below w.heap.size w w'
theorem kJ {t l:List Rf} {k:Nat} {w w':World} (h:dx t (l.take k) = none) (hb:Below w.heap.size w w'):uL t l k w (.returned (.tuple #[.map none,.bool false])) w':=⟨by rw [h],hb⟩
theorem Ef {t l V:List Rf} {k mb:Nat} {w w':World} (h:dx t (l.take k) = some V) (hm:MapZ encX w' mb V) (h0:w.heap.size ≤ mb) (hb:Below w.heap.size w w'):uL t l k w (.returned (.tuple #[.map (some mb),.bool (decide (l.length ≤ 100))])) w':=⟨by rw [h];exact ⟨mb,rfl,hm,h0⟩,hb⟩
theorem iF:∃ zs:Array Value,(∀ w,(zeroValue 93).run prog w = .ok (.agg zs) w) ∧ zs.size = 33:=⟨#[.string ⟨#[]⟩] ++ #[.int .u8 0,.int .u8 0,.int .u8 0,.int .u8 0,.int .u8 0,.int .u8 0,.int .u8 0,.int .u8 0,.int .u8 0,.int .u8 0,.int .u8 0,.int .u8 0,.int .u8 0,.int .u8 0,.int .u8 0,.int .u8 0,.int .u8 0,.int .u8 0,.int .u8 0,.int .u8 0,.int .u8 0,.int .u8 0,.int .u8 0,.int .u8 0,.int .u8 0,.int .u8 0,.int .u8 0,.int .u8 0,.int .u8 0,.int .u8 0,.int .u8 0,.int .u8 0],fun w => by kernel_rfl,rfl⟩
theorem gJ {r:Rf} (h:r.2.length = 32):(rfC r).length = 33:=by unfold rfC;rw [List.length_cons,au,h]
theorem jH (r:Rf):∀ v ∈ rfC r,v.oneCell' = true:=fun v hv => by
 unfold rfC at hv
 rcases List.mem_cons.1 hv with rfl | hv
 ·rfl
 exact aM r.2 v hv
theorem LQ {w:World} {b o:Nat} {r:Rf} (h:w.rangeAt b o (rfC r)):w.rangeAt b (o + 1) (idC r.2):=fun j u hu => by
 have:=h (j + 1) u (by unfold rfC;rw [List.getElem?_cons_succ];exact hu)
 rw [Nat.add_assoc,Nat.add_comm 1 j];exact this
theorem zU:prog.underlying 49 = some (.slice 93):=underlying49
theorem yS (W:World) (ao:Option Addr) (n cap k:Nat) (h:k ≤ cap):(Instr.sliceAt 49 (.slice ao n cap) none (some (.int .i64 k)) none).run prog W = .ok (.slice ao k cap) W:=by
 have hs:(sizeOf (prog.elem 49)).run prog W = .ok 33 W:=by kernel_rfl
 rw [run_sliceAt_slice _ _ _ _ _ _ zU,run_slice_h _ _ _ _ _ zU _ _ (by omega) (by omega),hs]
 show Result.ok _ W = _
 unfold sliced
 rw [Int.toNat_natCast,Nat.zero_mul,Nat.sub_zero,Nat.sub_zero]
 have:ao.map (fun p:Addr => p.add 0) = ao:=by
  cases ao with
  | none => rfl
  | some p => obtain ⟨b,o,s⟩:=p;cases s <;> simp [Addr.add]
 rw [this,ite_self]
theorem bQ:(prog.info? 51).map (·.size) = some 2:=by decide +kernel
theorem rW (vt vl:Value) (t l:List Rf) (k:Nat) (w:World) (ht:bK w vt t) (hl:bK w vl l) (hz:∀ r ∈ t ++ l,r.1.size ≤ 1000000 ∧ r.2.length = 32) (hk:k ≤ l.length) (hcap:CapI vl) :
  Calls prog 87 #[.agg #[vt,vl],.int .i64 (k:Int)] w (uL t l k w):=by
 have hmm:=@run_makeMap prog
 obtain ⟨W,hW⟩:∃ W,(w.alloc (.cells #[vt,vl] 51)).alloc (.map #[] 0) = W:=⟨_,rfl⟩
 have hbW:Below w.heap.size w W:=by rw [← hW];exact bal.alloc (by simp) _
 have HBX:Hid (BoxL W w.heap.size 51 [vt,vl]):=ah (by rw [← hW];exact (BoxL.new w 51 [vt,vl]).below bal)
 have HMZ:Hid (MapZ encX W (w.heap.size + 1) []):=ah (by
  rw [← hW]
  have:=Er (enc:=encX) (w.alloc (.cells #[vt,vl] 51))
  rwa [World.size_alloc] at this)
 have HT:=ah ht
 have HL:=ah hl
 have HB:=ah hbW
 have HZ:=ah hz
 have HK:=ah hk
 have HW:=ah hW
 obtain ⟨ta,tc,rfl,htm,_⟩:=ht.open
 obtain ⟨la,lc,rfl,hlm,_⟩:=hl.open
 have hlc:l.length ≤ lc:=hcap _ _ _ rfl
 have c0:W.cell? ⟨w.heap.size,0,none⟩ = some (.slice ta t.length tc):=HBX.out.range 0 _ rfl
 clear hW hbW ht hl hz hk
 go_enter func87,ntmps87
 go_upto_region 2 with fail
 rw [HW.out]
 obtain ⟨n,hn⟩:∃ n,w.heap.size = n:=⟨_,rfl⟩
 rw [hn] at HBX HMZ c0 HB ⊢
 have HN:=ah hn
 clear hn HW
 go_wp2_with fail
 go_loopw [7,8,15] (fun _ _ i wr => ∃ j:Nat,j ≤ t.length ∧ i = .int .i64 (j:Int) ∧ Hid (tabV [] (t.take j) = some (t.take j)) ∧ Hid ((t.take j).length ≤ 16) ∧ Hid (BoxL wr n 51 [.slice ta t.length tc,.slice la l.length lc]) ∧ Hid (MapZ encX wr (n + 1) (t.take j)) ∧ Hid (Below n w wr)) (fun _ _ i _ => (t.length - intOf i).toNat)
 case atStart => exact ⟨0,by omega,rfl,rfl,Nat.zero_le _,HBX.out,HMZ.out,HB.out⟩
 obtain ⟨wo,rfl⟩:∃ wo:World,wo = wr:=⟨_,rfl⟩
 obtain ⟨j,hj,rfl,HTV,HTL,HX,HM,HB1⟩:=hrel
 by_cases hlt:j < t.length
 ·have hbw:Below w.heap.size w wo:=by rw [HN.out];exact HB1.out
  obtain ⟨ta2,tc2,e2,_,hv2⟩:=(HT.out.below hbw).open
  have e2':ta = ta2:=by injection e2
  subst e2'
  clear e2
  obtain ⟨b,off,rfl,hbl,hcell⟩:=hv2 (by intro e;rw [e] at hlt;simp at hlt)
  have hro:=hcell j hlt
  have HPV:Hid (∀ (h0:0 < j),wo.cell? ⟨b,off + (j - 1) * 33,none⟩ = some (.string (t[j - 1]'(by omega)).1)):=ah (fun h0 => hcell (j - 1) (by omega) 0 _ rfl)
  obtain ⟨zs,hzv,hzs⟩:=iF
  obtain ⟨hz1,hz2⟩:=HZ.out t[j] (List.mem_append.2 (.inl (List.getElem_mem hlt)))
  have HNXT:=ah (fun (hb:tabB (t.take j) t[j] = true) => Gb hlt HTV.out hb)
  have HBAD:=ah (fun (hb:tabB (t.take j) t[j] = false) => Jm hlt HTV.out hb (l.take k))
  have HLAST:Hid (∀ (h0:0 < j),(t.take j).getLast? = some (t[j - 1]'(by omega))):=ah (fun h0 => by have:=EK (t:=t) (k:=j - 1) (by omega);rwa [Nat.sub_add_cancel h0] at this)
  have HLAS0:Hid (j = 0 → (t.take j).getLast? = none):=ah (fun h0 => by rw [h0];rfl)
  have k0:(0:Int) ≤ j:=by omega
  have k1:(j:Int) < t.length:=by omega
  have wk:IntKind.i64.wrap ((j:Int) + 1) = (j:Int) + 1:=IntWalk.i64_in _ (by unfold maxLen at htm;omega)
  have HTJ:Hid (j < maxLen):=ah (by omega)
  generalize t[j] = r at hro hz1 hz2 HNXT HBAD
  have h33:(rfC r).length = 33:=gJ hz2
  have h33i:(prog.info? 93).map (·.size) = some (rfC r).length:=by rw [h33];exact gI
  have hth:(wo.alloc (.cells zs 93)).there wo.heap.size 0 33:=there_alloc wo zs 93 hzs
  obtain ⟨W4,hW4⟩:∃ W,(wo.alloc (.cells zs 93)).setCells wo.heap.size 0 (rfC r) = W:=⟨_,rfl⟩
  have hb4:Below wo.heap.size wo W4:=by rw [← hW4];exact below_setCells _ (Nat.le_refl _) _ _ _ bal
  have hx4:BoxL W4 wo.heap.size 93 (rfC r):=by rw [← hW4];exact BoxL.set (cs:=zs.toList) (by have:=BoxL.new wo 93 zs.toList;simpa using this) (by rw [h33];simpa using hzs.symm)
  have d0:W4.cell? ⟨wo.heap.size,0,none⟩ = some (.string r.1):=hx4.range 0 _ rfl
  have d1:W4.rangeAt wo.heap.size 1 (idC r.2):=by have:=LQ hx4.range;rwa [Nat.zero_add] at this
  have d2:=hx4.range
  have HX4:=ah hx4
  have hxl:=hx4.lt
  have hbo:b < wo.heap.size:=hbl
  have hbl4:b < W4.heap.size:=by have:=hb4.size;omega
  have hln:n < W4.heap.size:=by have:=BoxL.lt HX.out;have:=hb4.size;omega
  have e0:W4.cell? ⟨n,0,none⟩ = some (.slice (some ⟨b,off,none⟩) t.length tc):=(HX.out.below hb4).range 0 _ rfl
  have HB4:Hid (Below n w W4):=ah (HB1.out.trans (hb4.mono (by have:=BoxL.lt HX.out;omega)))
  have HM4:=ah (HM.out.on hb4)
  have HXB:=ah (HX.out.below hb4)
  have HW4:=ah hW4
  have HTH:=ah hth
  have HON:=ah (jH r)
  have HNM:=ah (fun w => wY r.1 w (by omega))
  have HR1:Hid (r.1.size ≤ 1000000 ∧ r.2.length = 32):=ah ⟨hz1,hz2⟩
  clear hW4 hth hb4 hx4 hzs hv2 hcell hbw
  generalize hrc:rfC r = rc at h33 h33i hro d2 HW4 HX4 HON
  have HRC:=ah hrc
  clear hrc
  go_upto_region 5 with (first
   | refine wpList_load_mid rfl 93 _ rfl b (off + j * 33) rfl rc _ hro underlying93 rfl h33i ?_
   | refine aj rfl 93 _ _ rfl wo.heap.size 0 rc rfl rfl 33 h33 HTH.out gI HON.out ?_;rw [HW4.out])
  simp only [Act.put]
  have h32:(prog.info? 42).map (·.size) = some (idC r.2).length:=mI (by rw [au,hz2])
  have HEND:Hid (∀ wq,Below W4.heap.size W4 wq → dx t (l.take k) = none → uL t l k w (.returned (.tuple #[.map none,.bool false])) wq):=ah fun wq hb h => kJ h (by
   rw [HN.out]
   exact HB4.out.trans (hb.mono (by omega)))
  have HRT:=ah (show tabB (t.take j) r = (aQ r.1 && decide (r.2 ≠ zid) && (match (t.take j).getLast? with | none => true | some q => ltB q.1.data.toList r.1.data.toList) && decide ((setR (t.take j) r).length ≤ 16)) from rfl)
  by_cases hn:aQ r.1 = true
  ·rw [hn] at HNM
   by_cases hid:r.2 = zid
   ·
    have HR:=ah (HBAD.out (by rw [HRT.out,decide_eq_false (fun h => h hid)];simp))
    have hq:∀ w,(Op.equalIn 10000 42 (.agg (idC r.2).toArray) (.agg #[.int .u8 0,.int .u8 0,.int .u8 0,.int .u8 0,.int .u8 0,.int .u8 0,.int .u8 0,.int .u8 0,.int .u8 0,.int .u8 0,.int .u8 0,.int .u8 0,.int .u8 0,.int .u8 0,.int .u8 0,.int .u8 0,.int .u8 0,.int .u8 0,.int .u8 0,.int .u8 0,.int .u8 0,.int .u8 0,.int .u8 0,.int .u8 0,.int .u8 0,.int .u8 0,.int .u8 0,.int .u8 0,.int .u8 0,.int .u8 0,.int .u8 0,.int .u8 0])).run prog w = .ok true w:=fun w => iO hz2 hid w
    clear HNXT HBAD HLAST HLAS0 HPV HRT hn hid
    refine aZ 29 (by kernel_rfl) (by kernel_rfl) ?_
    simp only [List.take_succ_cons,List.take_zero,List.drop_succ_cons,List.drop_zero]
    have LQ0:=blq d0
    have LQ1:=blq e0
    repeat (go_big_quiet_step ((go_at_call 106;with_reducible exact ay (HNM.out _))))
    refine dZ 42 _ _ rfl rfl rfl d1 (by omega) underlying42 rfl h32 ?_
    simp only [Act.put,nz]
    repeat (go_big_quiet_step ((go_at_call 106;with_reducible exact ay (HNM.out _))))
    refine wpQuiet_nil ?_
    intro wq hbq
    clear LQ0 LQ1
    have HBQ:=ah hbq
    clear hq hbq
    go_wp2_with fail
    go_ret2
    exact HEND.out _ HBQ.out HR.out
   have hq:∀ w,(Op.equalIn 10000 42 (.agg (idC r.2).toArray) (.agg #[.int .u8 0,.int .u8 0,.int .u8 0,.int .u8 0,.int .u8 0,.int .u8 0,.int .u8 0,.int .u8 0,.int .u8 0,.int .u8 0,.int .u8 0,.int .u8 0,.int .u8 0,.int .u8 0,.int .u8 0,.int .u8 0,.int .u8 0,.int .u8 0,.int .u8 0,.int .u8 0,.int .u8 0,.int .u8 0,.int .u8 0,.int .u8 0,.int .u8 0,.int .u8 0,.int .u8 0,.int .u8 0,.int .u8 0,.int .u8 0,.int .u8 0,.int .u8 0])).run prog w = .ok false w:=fun w => tH hz2 aV hid w
   have HVS:=ah (fun W (hm:MapZ encX W (n + 1) (t.take j)) => yu (n + 1) (t.take j) r W hm (by unfold maxLen;omega) hz2 (by have:=HTL.out;omega))
   have HLT:Hid (j < maxLen ∧ 0 ≤ (0:Int)):=ah ⟨HTJ.out,by omega⟩
   rw [hn,decide_eq_true hid] at HRT
   have hrc:rfC r = rc:=HRC.out
   rw [hrc] at HVS
   have HID:=ah hid
   clear hn hid hrc
   rcases Nat.eq_zero_or_pos j with hj0 | hj0
   ·
    have j5:decide ((0:Int) < j) = false:=decide_eq_false (by omega)
    have j6:decide (0 < j) = false:=decide_eq_false (by omega)
    rw [HLAS0.out hj0] at HRT
    clear HLAST HLAS0 HPV hj0
    refine aZ 29 (by kernel_rfl) (by kernel_rfl) ?_
    simp only [List.take_succ_cons,List.take_zero,List.drop_succ_cons,List.drop_zero]
    have LQ0:=blq d0
    have LQ1:=blq e0
    repeat (go_big_quiet_step ((go_at_call 106;with_reducible exact ay (HNM.out _))))
    refine dZ 42 _ _ rfl rfl rfl d1 (by omega) underlying42 rfl h32 ?_
    simp only [Act.put,nz]
    repeat (go_big_quiet_step ((go_at_call 106;with_reducible exact ay (HNM.out _))))
    refine dZ 93 _ _ rfl rfl rfl d2 (by omega) underlying93 rfl h33i ?_
    simp only [Act.put,nz]
    repeat (go_big_quiet_step ((go_at_call 106;with_reducible exact ay (HNM.out _))))
    refine wpQuiet_nil ?_
    intro wq hbq
    clear LQ0 LQ1
    go_wp2_with fail
    refine (HVS.out wq (HM4.out.on hbq)).mono ?_
    rintro e w5 ⟨rfl,hm5,hg5⟩
    cases hlen:decide ((setR (t.take j) r).length ≤ 16) with
    | false =>
     have HR:=ah (HBAD.out (by rw [HRT.out,hlen];rfl))
     have hb5:Below n w w5:=(HB4.out.trans (hbq.mono (by omega))).grown hg5 (by have h1:=HB4.out.size;have h2:=hbq.size;have h3:=HN.out;omega) (fun i e => by have:=Option.some.inj e;omega)
     rw [← HN.out] at hb5
     have HE:=ah (kJ (w:=w) HR.out hb5)
     clear hm5 hg5 hb5 hlen HR HBAD HNXT HRT
     go_wp2_with fail
     go_ret2
     exact HE.out
    | true =>
     obtain ⟨q1,q2⟩:=HNXT.out (by rw [HRT.out,hlen];rfl)
     have HQ1:=ah q1
     rw [q2] at hm5
     have HQL:Hid ((t.take (j + 1)).length ≤ 16):=ah (by rw [← q2];exact of_decide_eq_true hlen)
     have hb5:Below n w w5:=(HB4.out.trans (hbq.mono (by omega))).grown hg5 (by have h1:=HB4.out.size;have h2:=hbq.size;have h3:=HN.out;omega) (fun i e => by have:=Option.some.inj e;omega)
     have HB5:=ah hb5
     have HM5:=ah hm5
     have HX5:=ah ((HXB.out.below hbq).kept hg5 (fun e => by have:=Option.some.inj e;omega))
     clear hm5 hg5 hb5 hlen q1 q2 HBAD HNXT HRT
     go_wp2_with fail
     go_roundw
     case rel => exact ⟨j + 1,by omega,by go_num,HQ1.out,HQL.out,HX5.out,HM5.out,HB5.out⟩
     case measure => simp [intOf];omega
   have cp0:=HPV.out hj0
   have cp:=aA cp0 (show Below wo.heap.size wo W4 by rw [← HW4.out];exact below_setCells _ (Nat.le_refl _) _ _ _ bal) hbo
   have j1:IntKind.i64.wrap ((j:Int) - 1) = (j:Int) - 1:=IntWalk.i64_in _ (by have:=HTJ.out;unfold maxLen at this;omega)
   have j2:((j:Int) - 1).toNat = j - 1:=by omega
   have j3:(0:Int) ≤ (j:Int) - 1:=by omega
   have j4:(j:Int) - 1 < t.length:=by omega
   have j5:decide ((0:Int) < j) = true:=decide_eq_true (by omega)
   have j6:decide (0 < j) = true:=decide_eq_true (by omega)
   have j7:(1:Int) ≤ j:=by omega
   have hbl1:=C8 (t[j - 1]'(by omega)).1 r.1
   rw [HLAST.out hj0] at HRT
   dsimp only at HRT
   clear HLAST HLAS0 HPV cp0
   generalize (t[j - 1]'(by omega)).1 = z at cp hbl1 HRT
   clear hj0
   cases hlz:ltB z.data.toList r.1.data.toList with
   | true =>
    rw [hlz] at hbl1 HRT
    clear hlz
    refine aZ 29 (by kernel_rfl) (by kernel_rfl) ?_
    simp only [List.take_succ_cons,List.take_zero,List.drop_succ_cons,List.drop_zero]
    have LQ0:=blq d0
    have LQ1:=blq e0
    have LQ2:=blq cp
    repeat (go_big_quiet_step ((go_at_call 106;with_reducible exact ay (HNM.out _))))
    refine dZ 42 _ _ rfl rfl rfl d1 (by omega) underlying42 rfl h32 ?_
    simp only [Act.put,nz]
    repeat (go_big_quiet_step ((go_at_call 106;with_reducible exact ay (HNM.out _))))
    refine dZ 93 _ _ rfl rfl rfl d2 (by omega) underlying93 rfl h33i ?_
    simp only [Act.put,nz]
    repeat (go_big_quiet_step ((go_at_call 106;with_reducible exact ay (HNM.out _))))
    refine wpQuiet_nil ?_
    intro wq hbq
    clear LQ0 LQ1 LQ2
    go_wp2_with fail
    refine (HVS.out wq (HM4.out.on hbq)).mono ?_
    rintro e w5 ⟨rfl,hm5,hg5⟩
    cases hlen:decide ((setR (t.take j) r).length ≤ 16) with
    | false =>
     have HR:=ah (HBAD.out (by rw [HRT.out,hlen];rfl))
     have hb5:Below n w w5:=(HB4.out.trans (hbq.mono (by omega))).grown hg5 (by have h1:=HB4.out.size;have h2:=hbq.size;have h3:=HN.out;omega) (fun i e => by have:=Option.some.inj e;omega)
     rw [← HN.out] at hb5
     have HE:=ah (kJ (w:=w) HR.out hb5)
     clear hm5 hg5 hb5 hlen HR HBAD HNXT HRT
     go_wp2_with fail
     go_ret2
     exact HE.out
    | true =>
     obtain ⟨q1,q2⟩:=HNXT.out (by rw [HRT.out,hlen];rfl)
     have HQ1:=ah q1
     rw [q2] at hm5
     have HQL:Hid ((t.take (j + 1)).length ≤ 16):=ah (by rw [← q2];exact of_decide_eq_true hlen)
     have hb5:Below n w w5:=(HB4.out.trans (hbq.mono (by omega))).grown hg5 (by have h1:=HB4.out.size;have h2:=hbq.size;have h3:=HN.out;omega) (fun i e => by have:=Option.some.inj e;omega)
     have HB5:=ah hb5
     have HM5:=ah hm5
     have HX5:=ah ((HXB.out.below hbq).kept hg5 (fun e => by have:=Option.some.inj e;omega))
     clear hm5 hg5 hb5 hlen q1 q2 HBAD HNXT HRT
     go_wp2_with fail
     go_roundw
     case rel => exact ⟨j + 1,by omega,by go_num,HQ1.out,HQL.out,HX5.out,HM5.out,HB5.out⟩
     case measure => simp [intOf];omega
   | false =>
    rw [hlz] at hbl1 HRT
    have HR:=ah (HBAD.out (by rw [HRT.out];simp))
    clear HNXT HBAD HRT hlz
    refine aZ 29 (by kernel_rfl) (by kernel_rfl) ?_
    simp only [List.take_succ_cons,List.take_zero,List.drop_succ_cons,List.drop_zero]
    have LQ0:=blq d0
    have LQ1:=blq e0
    have LQ2:=blq cp
    repeat (go_big_quiet_step ((go_at_call 106;with_reducible exact ay (HNM.out _))))
    refine dZ 42 _ _ rfl rfl rfl d1 (by omega) underlying42 rfl h32 ?_
    simp only [Act.put,nz]
    repeat (go_big_quiet_step ((go_at_call 106;with_reducible exact ay (HNM.out _))))
    refine wpQuiet_nil ?_
    intro wq hbq
    clear LQ0 LQ1 LQ2
    have HBQ:=ah hbq
    clear hq hbq
    go_wp2_with fail
    go_ret2
    exact HEND.out _ HBQ.out HR.out
  have hn:aQ r.1 = false:=by simpa using hn
  have HR:=ah (HBAD.out (by rw [HRT.out,hn];simp))
  rw [hn] at HNM
  clear HNXT HBAD HLAST HLAS0 HPV HRT hn
  refine aZ 29 (by kernel_rfl) (by kernel_rfl) ?_
  simp only [List.take_succ_cons,List.take_zero,List.drop_succ_cons,List.drop_zero]
  have LQ0:=blq d0
  have LQ1:=blq e0
  repeat (go_big_quiet_step ((go_at_call 106;with_reducible exact ay (HNM.out _))))
  refine wpQuiet_nil ?_
  intro wq hbq
  clear LQ0 LQ1
  have HBQ:=ah hbq
  clear hbq
  go_wp2_with fail
  go_ret2
  exact HEND.out _ HBQ.out HR.out
 obtain rfl:j = t.length:=by omega
 have HBV:Hid (∀ l',dx t l' = logV t l'):=ah fun l' => Jl HTV.out l'
 have c1:wo.cell? ⟨n,1,none⟩ = some (.slice la l.length lc):=HX.out.range 1 _ rfl
 have HTL2:Hid (t.length ≤ 16):=ah (by have:=HTL.out;rwa [List.take_length] at this)
 have HM0:Hid (MapZ encX wo (n + 1) t):=ah (by have:=HM.out;rwa [List.take_length] at this)
 have HRT:=ah (yS wo la l.length lc k (by have:=HK.out;omega))
 clear HTV HTL HM
 go_upto_region 9 with (refine mY rfl 49 _ _ rfl _ _ rfl rfl _ HRT.out ?_)
 go_loopw [10,58] (fun _ i wr => ∃ (m:Nat) (V:List Rf),m ≤ k ∧ i = .int .i64 (m:Int) ∧ Hid (logV t (l.take m) = some V) ∧ Hid (V.length ≤ 16) ∧ Hid (BoxL wr n 51 [.slice ta t.length tc,.slice la l.length lc]) ∧ Hid (MapZ encX wr (n + 1) V) ∧ Hid (Below n w wr)) (fun _ i _ => (k - intOf i).toNat)
 case atStart => exact ⟨0,t,by omega,rfl,rfl,HTL2.out,HX.out,HM0.out,HB1.out⟩
 obtain ⟨wo2,rfl⟩:∃ wo2:World,wo2 = wr:=⟨_,rfl⟩
 obtain ⟨m,V,hm,rfl,HLV,HVL,HX2,HM2,HB2⟩:=hrel
 have hk:=HK.out
 by_cases hlt2:m < k
 ·have hbw:Below w.heap.size w wo2:=by rw [HN.out];exact HB2.out
  obtain ⟨la2,lc2,e2,_,hv2⟩:=(HL.out.below hbw).open
  have e2':la = la2:=by injection e2
  subst e2'
  clear e2
  have hml:m < l.length:=by omega
  obtain ⟨b,off,rfl,hbl,hcell⟩:=hv2 (by intro e;rw [e] at hml;simp at hml)
  have hro:=hcell m hml
  obtain ⟨zs,hzv,hzs⟩:=iF
  obtain ⟨hz1,hz2⟩:=HZ.out l[m] (List.mem_append.2 (.inr (List.getElem_mem hml)))
  have hmk:m < (l.take k).length:=by rw [List.length_take];omega
  have hget:(l.take k)[m] = l[m]:=List.getElem_take
  have htk:(l.take k).take m = l.take m:=by rw [List.take_take];congr 1;omega
  have htk1:(l.take k).take (m + 1) = l.take (m + 1):=by rw [List.take_take];congr 1;omega
  have HNXT:=ah (fun (hb:logB V l[m] = true) => GY hml HLV.out hb)
  have HBAD:Hid (logB V l[m] = false → dx t (l.take k) = none):=ah (fun hb => by
   rw [HBV.out]
   exact JC hmk (by rw [htk];exact HLV.out) (by rw [hget];exact hb))
  have k0:(0:Int) ≤ m:=by omega
  have k1:(m:Int) < k:=by omega
  have wk:IntKind.i64.wrap ((m:Int) + 1) = (m:Int) + 1:=IntWalk.i64_in _ (by unfold maxLen at hlm;omega)
  clear hmk hget htk htk1
  generalize l[m] = r at hro hz1 hz2 HNXT HBAD
  have h33:(rfC r).length = 33:=gJ hz2
  have h33i:(prog.info? 93).map (·.size) = some (rfC r).length:=by rw [h33];exact gI
  have hth:(wo2.alloc (.cells zs 93)).there wo2.heap.size 0 33:=there_alloc wo2 zs 93 hzs
  obtain ⟨W4,hW4⟩:∃ W,(wo2.alloc (.cells zs 93)).setCells wo2.heap.size 0 (rfC r) = W:=⟨_,rfl⟩
  have hb4:Below wo2.heap.size wo2 W4:=by rw [← hW4];exact below_setCells _ (Nat.le_refl _) _ _ _ bal
  have hx4:BoxL W4 wo2.heap.size 93 (rfC r):=by rw [← hW4];exact BoxL.set (cs:=zs.toList) (by have:=BoxL.new wo2 93 zs.toList;simpa using this) (by rw [h33];simpa using hzs.symm)
  have d0:W4.cell? ⟨wo2.heap.size,0,none⟩ = some (.string r.1):=hx4.range 0 _ rfl
  have HX4:=ah hx4
  have hnl:=BoxL.lt HX2.out
  have HB4:Hid (Below n w W4):=ah (HB2.out.trans (hb4.mono (by omega)))
  have HM4:=ah (HM2.out.on hb4)
  have HXB:=ah (HX2.out.below hb4)
  have HW4:=ah hW4
  have HTH:=ah hth
  have HON:=ah (jH r)
  have HNM:=ah (wY r.1 W4 (by omega))
  have HRL:=ah (show logB V r = (aQ r.1 && decide ((setR V r).length ≤ 16)) from rfl)
  have HVS:=ah (fun W (hm:MapZ encX W (n + 1) V) => yu (n + 1) V r W hm (by unfold maxLen;omega) hz2 (by have:=HVL.out;omega))
  clear hW4 hth hb4 hx4 hzs hv2 hcell hbw
  generalize hrc:rfC r = rc at h33 h33i hro HW4 HX4 HON HVS
  clear hrc
  have hHN:=HN.out
  cases hn:aQ r.1 with
  | false =>
   rw [hn] at HNM
   have HR:=ah (HBAD.out (by rw [HRL.out,hn];rfl))
   clear HNXT HBAD HRL hn
   go_wp2_with (first
    | refine wpList_load_mid rfl 93 _ rfl b (off + m * 33) rfl rc _ hro underlying93 rfl h33i ?_
    | refine aj rfl 93 _ _ rfl wo2.heap.size 0 rc rfl rfl 33 h33 HTH.out gI HON.out ?_;rw [HW4.out])
   refine HNM.out.mono ?_
   rintro e w5 ⟨rfl,hb5⟩
   have hb5':Below w.heap.size w w5:=by rw [HN.out];exact HB4.out.trans (hb5.mono (by have:=HB4.out.size;omega))
   have HE:=ah (kJ (w:=w) HR.out hb5')
   clear hb5 hb5'
   go_wp2_with fail
   go_ret2
   exact HE.out
  | true =>
   rw [hn] at HNM HRL
   clear hn
   go_wp2_with (first
    | refine wpList_load_mid rfl 93 _ rfl b (off + m * 33) rfl rc _ hro underlying93 rfl h33i ?_
    | refine aj rfl 93 _ _ rfl wo2.heap.size 0 rc rfl rfl 33 h33 HTH.out gI HON.out ?_;rw [HW4.out])
   refine HNM.out.mono ?_
   rintro e w5 ⟨rfl,hb5⟩
   have g5:=(HX4.out.below hb5).range
   have HB5:Hid (Below n w w5):=ah (HB4.out.trans (hb5.mono (by have:=HB4.out.size;omega)))
   have HX5:=ah (HXB.out.below hb5)
   have HC5:=ah (HVS.out w5 (HM4.out.on hb5))
   clear hb5 HNM
   go_wp2_with (refine bD rfl 93 _ rfl wo2.heap.size 0 rfl rc _ g5 underlying93 rfl h33i ?_)
   refine HC5.out.mono ?_
   rintro e w6 ⟨rfl,hm6,hg6⟩
   have hb6:Below n w w6:=HB5.out.grown hg6 (by have h1:=HB5.out.size;omega) (fun i e => by have:=Option.some.inj e;omega)
   clear g5 HC5
   cases hlen:decide ((setR V r).length ≤ 16) with
   | false =>
    have HR:=ah (HBAD.out (by rw [HRL.out,hlen];rfl))
    rw [← HN.out] at hb6
    have HE:=ah (kJ (w:=w) HR.out hb6)
    clear hm6 hg6 hb6 hlen HBAD HNXT HRL
    go_wp2_with fail
    go_ret2
    exact HE.out
   | true =>
    have HQ1:=ah (HNXT.out (by rw [HRL.out,hlen];rfl))
    have HQL:Hid ((setR V r).length ≤ 16):=ah (of_decide_eq_true hlen)
    have HB6:=ah hb6
    have HM6:=ah hm6
    have HX6:=ah (HX5.out.kept hg6 (fun e => by have:=Option.some.inj e;omega))
    clear hm6 hg6 hb6 hlen HBAD HNXT HRL
    go_wp2_with fail
    go_roundw
    case rel => exact ⟨m + 1,_,by omega,by go_num,HQ1.out,HQL.out,HX6.out,HM6.out,HB6.out⟩
    case measure => simp [intOf];omega
 obtain rfl:m = k:=by omega
 have HR:Hid (dx t (l.take m) = some V):=ah (by rw [HBV.out];exact HLV.out)
 have c1':wo2.cell? ⟨n,1,none⟩ = some (.slice la l.length lc):=HX2.out.range 1 _ rfl
 have hnl:=BoxL.lt HX2.out
 have HE:Hid (∀ wq,Below wo2.heap.size wo2 wq → uL t l m w (.returned (.tuple #[.map (some (n + 1)),.bool (decide (l.length ≤ 100))])) wq):=ah fun wq hb => Ef HR.out (HM2.out.on hb) (by have:=HN.out;omega) (by rw [HN.out];exact HB2.out.trans (hb.mono (by omega)))
 have q1:decide ((l.length:Int) ≤ 100) = decide (l.length ≤ 100):=by rw [decide_eq_decide];omega
 clear HR HLV HVL HM2
 go_upto_region 14 with fail
 refine wbq ?_
 have LQ0:=blq c1'
 repeat (go_big_quiet_step (fail))
 refine wpQuiet_nil ?_
 intro wq hbq
 clear LQ0
 have HQ:=ah hbq
 clear hbq
 go_wp2_with fail
 go_ret2
 exact HE.out _ HQ.out
end
end Go.Proofs.YtlhcoanbhnphgaaGreatDoor

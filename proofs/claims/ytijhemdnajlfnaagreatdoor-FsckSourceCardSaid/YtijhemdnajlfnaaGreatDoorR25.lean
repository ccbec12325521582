/- A part of this claim. -/
import Derived.Test.YtijhemdnajlfnaaGreatDoorR15
import Derived.Test.YtijhemdnajlfnaaGreatDoorR18
namespace Go.Proofs.YtijhemdnajlfnaaGreatDoor
open Tryz
set_option maxHeartbeats 64000000
set_option maxRecDepth 100000
section
open Go.RowKit
def nmC (y:Nm):List Value:=[.string y.s,.int .i64 (y.n:Int)]
def gq (w:World) (v:Value) (l:List Nm):Prop:=aK w v 2 (l.map nmC)
theorem gq.below {w w':World} {v:Value} {l:List Nm} (h:gq w v l) (hb:Below w.heap.size w w'):gq w' v l:=aK.below h hb
theorem gq.open {w:World} {v:Value} {l:List Nm} (h:gq w v l):∃ ao cap,v = .slice ao l.length cap ∧ l.length ≤ maxLen ∧ (l ≠ [] → ∃ b off,ao = some ⟨b,off,none⟩ ∧ b < w.heap.size ∧ ∀ k (hk:k < l.length),w.rangeAt b (off + k * 2) (nmC l[k])):=by
 obtain ⟨ao,cap,rfl,hm,h⟩:=h
 rw [List.length_map] at hm ⊢
 refine ⟨ao,cap,rfl,hm,fun hne => ?_⟩
 obtain ⟨b,off,e,hl,hc⟩:=h (by simpa using hne)
 refine ⟨b,off,e,hl,fun k hk => ?_⟩
 have:=hc k (by simpa using hk)
 rw [List.getElem_map] at this
 exact this
def fnI:Option Nat → Int
 | none => -1
 | some n => (n:Int)
theorem nU (a b:List Nm) (s:ByteArray):bZ (a ++ b) s = (bZ a s).or (bZ b s):=by
 unfold bZ
 rw [List.find?_append]
 cases a.find? fun y => decide (y.s = s) <;> rfl
theorem JA {l:List Nm} {s:ByteArray} {k:Nat} (hk:k < l.length) (h0:bZ (l.take k) s = none) (h:l[k].s = s):bZ l s = some l[k].n:=by
 conv => lhs;rw [← List.take_append_drop k l]
 rw [nU,h0,List.drop_eq_getElem_cons hk,dN,if_pos h];rfl
theorem CP {l:List Nm} {s:ByteArray} {k:Nat} (hk:k < l.length) (h0:bZ (l.take k) s = none) (h:l[k].s ≠ s):bZ (l.take (k + 1)) s = none:=by
 rw [List.take_succ_eq_append_getElem hk,nU,h0,dN,if_neg h];rfl
theorem rD (s t:ByteArray):(s.toList == t.toList) = decide (s = t):=by
 by_cases h:s = t
 ·subst h;simp
 rw [decide_eq_false h,beq_eq_false_iff_ne]
 intro e
 rw [ByteArray.toList_eq,ByteArray.toList_eq] at e
 exact h (fC e)
theorem Ce (v:Value) (l:List Nm) (s:ByteArray) (w:World) (hv:gq w v l):Calls prog 83 #[v,.string s] w fun e w' => e = .returned (.int .i64 (fnI (bZ l s))) ∧ w' = w:=by
 obtain ⟨ao,cap,rfl,hmax,hv⟩:=hv.open
 have HV:=ah hv
 have HMX:=ah hmax
 clear hv hmax
 go_enter func83,ntmps83
 go_wp2_with fail
 go_loopw [5] (fun i wr => ∃ k:Nat,k ≤ l.length ∧ i = .int .i64 (k:Int) ∧ Hid (bZ (l.take k) s = none) ∧ wr = w) (fun i _ => (l.length - intOf i).toNat)
 case atStart => exact ⟨0,by omega,rfl,rfl,rfl⟩
 obtain ⟨k,hk,rfl,hni,rfl⟩:=hrel
 by_cases hlt:k < l.length
 ·obtain ⟨b,off,rfl,hbl,hcell⟩:=HV.out (by intro e;rw [e] at hlt;simp at hlt)
  have r0:=hcell k hlt
  have k0:(0:Int) ≤ k:=by omega
  have k1:(k:Int) < l.length:=by omega
  have wk:IntKind.i64.wrap ((k:Int) + 1) = (k:Int) + 1:=IntWalk.i64_in _ (by have:=HMX.out;unfold maxLen at this;omega)
  have c0:wr.cell? ⟨b,off + k * 2,none⟩ = some (.string l[k].s):=r0 0 _ rfl
  have c1:wr.cell? ⟨b,off + k * 2 + 1,none⟩ = some (.int .i64 (l[k].n:Int)):=r0 1 _ rfl
  have heq:=rD l[k].s s
  clear hcell r0
  by_cases he:l[k].s = s
  ·have HR:Hid (bZ l s = some l[k].n):=ah (JA hlt hni.out he)
   rw [decide_eq_true he] at heq
   clear he hni
   generalize l[k].n = nk at c1 HR
   generalize l[k].s = sk at c0 heq
   go_wp2_with fail
   go_ret
   exact ⟨by rw [HR.out];rfl,rfl⟩
  have HN:Hid (bZ (l.take (k + 1)) s = none):=ah (CP hlt hni.out he)
  rw [decide_eq_false he] at heq
  clear he hni
  generalize l[k].s = sk at c0 heq
  go_wp2_with fail
  go_roundw
  case rel => exact ⟨k + 1,by omega,by go_num,HN,trivial⟩
  case measure => simp [intOf];omega
 obtain rfl:k = l.length:=by omega
 have HR:Hid (bZ l s = none):=ah (by have:=hni.out;rwa [List.take_length] at this)
 clear hni
 go_wp2_with fail
 go_ret
 exact ⟨by rw [HR.out];rfl,rfl⟩
theorem OV:∃ i0:TypeInfo,prog.info? 94 = some i0 ∧ i0.zero = some (.agg #[.string ⟨#[]⟩,.int .i64 0]) ∧ i0.size = 2 ∧ i0.bytes = 24:=⟨_,rfl,by kernel_rfl,by kernel_rfl,by kernel_rfl⟩
def nmsF (l:List Nm):List Value:=(l.map nmC).flatten
theorem kM (l:List Nm) (p:Nm):nmsF (l ++ [p]) = nmsF l ++ nmC p:=by simp [nmsF]
theorem gq.aS {w:World} {B:Nat} {v:Value} {l:List Nm} (h:w.ownsRow B 94 2 v l.length (nmsF l)):gq w v l :=
 aK.aS (B:=B) (e:=94) (fun r hr => by obtain ⟨p,_,rfl⟩:=List.mem_map.1 hr;rfl) (by rw [List.length_map];exact h)
theorem dS {ops:Array Oper} {rest:List Oper} {o:Oper} {a:Act} {Q:Exit → Act → World → Prop} (w:World) (hg:o.guard = none) (s x:Operand) (hop:o.op = Op.call { callee:=Callee.builtin Builtin.append,args:=#[s,x],argTypes:=#[83,83] })
  (base:Nat) (v:Value) (n:Nat) (xs:List Value) (hs:a.eval s = v) (hown:w.ownsRow base 94 2 v n xs) (b:Nat) (p:Nm) (hx:a.eval x = .slice (some ⟨b,0,none⟩) 1 1) (hr:w.rangeAt b 0 (nmC p)) (hn:n ≤ 10000000) (hbase:base ≤ w.heap.size)
  (hK:∀ v' w',w'.ownsRow base 94 2 v' (n + 1) (xs ++ nmC p) → w.grownBy w' v.ownBlock → Fr w v v' → wpList prog ops Q rest (a.put o.dst v') w'):wpList prog ops Q (o :: rest) a w:=by
 obtain ⟨i0,hi,hz0,hz1,hz2⟩:=OV
 refine aR w hg s x 83 hop base 94 i0 _ 2 24 underlying83 hi hz0 hz1 hz2 rfl (by decide) v n xs hs hown ⟨b,0,none⟩ 1 1 (nmC p) hx rfl (fun j u hu => ?_) (fun u hu => ?_) (by unfold maxLen;omega) (by omega) hbase hK
 ·have:=hr j u hu
  rw [Addr.add_mid]
  exact this
 unfold nmC at hu
 simp at hu
 rcases hu with rfl | rfl <;> rfl
theorem IY (w:World):Calls prog 48 #[] w fun e w' => e = .returned (.slice (some ⟨w.heap.size,0,none⟩) 3 3) ∧ BoxL w' w.heap.size 9 [.string bV,.string bn,.string sRef] ∧ Below w.heap.size w w':=by
 have HX:Hid (BoxL (w.alloc (.cells #[.string bV,.string bn,.string sRef] 9)) w.heap.size 9 [.string bV,.string bn,.string sRef]):=ah (BoxL.new w 9 [.string bV,.string bn,.string sRef])
 have HB:Hid (Below w.heap.size w (w.alloc (.cells #[.string bV,.string bn,.string sRef] 9))):=ah bal
 go_enter func48,ntmps48
 go_wp2_with fail
 go_ret
 exact ⟨rfl,HX.out,HB.out⟩
def whI (s:ByteArray):Int:=match aP s with
 | some k => k
 | none => -1
theorem ow (s:ByteArray) (w:World):Calls prog 23 #[.string s] w fun e w' => e = .returned (.int .i64 (whI s)) ∧ Below w.heap.size w w':=by
 have HD:=ah (IY w)
 have f0:(bV.toList == s.toList) = decide (bV = s):=iG _ _
 have f1:(bn.toList == s.toList) = decide (bn = s):=iG _ _
 have f2:(sRef.toList == s.toList) = decide (sRef = s):=iG _ _
 have HI:Hid (whI s = if bV = s then 0 else if bn = s then 1 else if sRef = s then 2 else -1):=by
  unfold Hid whI aP
  by_cases h0:s = bV
  ·rw [if_pos h0,if_pos h0.symm];rfl
  rw [if_neg h0,if_neg (fun h:bV = s => h0 h.symm)]
  by_cases h1:s = bn
  ·rw [if_pos h1,if_pos h1.symm];rfl
  rw [if_neg h1,if_neg (fun h:bn = s => h1 h.symm)]
  by_cases h2:s = sRef
  ·rw [if_pos h2,if_pos h2.symm];rfl
  rw [if_neg h2,if_neg (fun h:sRef = s => h2 h.symm)]
 generalize bV = a0 at HD f0 HI
 generalize bn = a1 at HD f1 HI
 generalize sRef = a2 at HD f2 HI
 go_enter func23,ntmps23
 go_wp2_with fail
 refine HD.out.mono ?_
 rintro e w2 ⟨rfl,hx,hb⟩
 have c0:w2.cell? ⟨w.heap.size,0,none⟩ = some (.string a0):=hx.range 0 _ rfl
 have c1:w2.cell? ⟨w.heap.size,1,none⟩ = some (.string a1):=hx.range 1 _ rfl
 have c2:w2.cell? ⟨w.heap.size,2,none⟩ = some (.string a2):=hx.range 2 _ rfl
 have HB:=ah hb
 clear hx hb
 by_cases h0:a0 = s
 ·rw [decide_eq_true h0] at f0
  rw [if_pos h0] at HI
  clear h0
  go_wp2_with fail
  refine wp_loop_rounds 4 ?_
  rw [rounds_succ]
  go_wp2_with fail
  go_ret
  exact ⟨by rw [HI.out];rfl,HB.out⟩
 rw [decide_eq_false h0] at f0
 rw [if_neg h0] at HI
 clear h0
 by_cases h1:a1 = s
 ·rw [decide_eq_true h1] at f1
  rw [if_pos h1] at HI
  clear h1
  go_wp2_with fail
  refine wp_loop_rounds 4 ?_
  rw [rounds_succ]
  go_wp2_with fail
  rw [rounds_succ]
  go_wp2_with fail
  go_ret
  exact ⟨by rw [HI.out];rfl,HB.out⟩
 rw [decide_eq_false h1] at f1
 rw [if_neg h1] at HI
 clear h1
 by_cases h2:a2 = s
 ·rw [decide_eq_true h2] at f2
  rw [if_pos h2] at HI
  clear h2
  go_wp2_with fail
  refine wp_loop_rounds 4 ?_
  rw [rounds_succ]
  go_wp2_with fail
  rw [rounds_succ]
  go_wp2_with fail
  rw [rounds_succ]
  go_wp2_with fail
  go_ret
  exact ⟨by rw [HI.out];rfl,HB.out⟩
 rw [decide_eq_false h2] at f2
 rw [if_neg h2] at HI
 clear h2
 go_wp2_with fail
 refine wp_loop_rounds 4 ?_
 rw [rounds_succ]
 go_wp2_with fail
 rw [rounds_succ]
 go_wp2_with fail
 rw [rounds_succ]
 go_wp2_with fail
 rw [rounds_succ]
 go_wp2_with fail
 go_ret
 exact ⟨by rw [HI.out];rfl,HB.out⟩
theorem yC (s:ByteArray) (w:World) (hs:s.size ≤ 1000000000):Calls prog 24 #[.string s] w fun e w' => e = .returned (.bool (aX s)) ∧ w' = w:=by
 go_enter func24,ntmps24
 go_wp2_with fail
 go_loopw [3] (fun i wr => ∃ k:Nat,k ≤ s.size ∧ i = .int .i64 (k:Int) ∧ Hid ((s.data.toList.take k).all lX = true) ∧ wr = w) (fun i _ => (s.size - intOf i).toNat)
 case atStart => exact ⟨0,by omega,rfl,rfl,rfl⟩
 obtain ⟨k,hk,rfl,hni,rfl⟩:=hrel
 by_cases hlt:k < s.size
 ·have k0:(0:Int) ≤ k:=by omega
  have k1:(k:Int) < s.size:=by omega
  have wk:IntKind.i64.wrap ((k:Int) + 1) = (k:Int) + 1:=IntWalk.i64_in _ (by omega)
  have hl:s.data.toList.length = s.size:=by simp
  have HT:Hid (s.data.toList.take (k + 1) = s.data.toList.take k ++ [s[k]]):=ah (List.take_succ_eq_append_getElem (by rw [hl];exact hlt))
  have HM:Hid (s[k] ∈ s.data.toList):=ah (List.getElem_mem (by rw [hl];exact hlt))
  have HX:lX s[k] = false → Hid (aX s = false):=fun h => ah (by
   unfold aX
   rw [show s.data.toList.all lX = false from by
    rw [Bool.eq_false_iff];intro h2
    have:=List.all_eq_true.1 h2 s[k] HM.out
    rw [h] at this;cases this]
   rfl)
  by_cases h1:s[k].toNat < 33
  ·have HR:=HX (decide_eq_false (by omega))
   clear HX
   go_wp2_with fail
   go_ret
   exact ⟨by rw [HR.out];rfl,by first | rfl | trivial⟩
  by_cases h2:126 < s[k].toNat
  ·have HR:=HX (decide_eq_false (by omega))
   clear HX
   go_wp2_with fail
   go_ret
   exact ⟨by rw [HR.out];rfl,by first | rfl | trivial⟩
  by_cases h3:s[k].toNat = 47
  ·have HR:=HX (decide_eq_false (by omega))
   have h3b:((s[k].toNat:Int) == 47) = true:=by rw [h3];rfl
   clear HX
   go_wp2_with fail
   go_ret
   exact ⟨by rw [HR.out];rfl,by first | rfl | trivial⟩
  have h3b:((s[k].toNat:Int) == 47) = false:=by rw [beq_eq_false_iff_ne];omega
  have HN:Hid ((s.data.toList.take (k + 1)).all lX = true):=ah (by
   rw [HT.out,List.all_append,hni.out]
   show (true && (lX s[k] && true)) = true
   rw [show lX s[k] = true from decide_eq_true ⟨by omega,by omega,h3⟩];rfl)
  clear HX
  go_wp2_with fail
  go_roundw
  case rel => exact ⟨k + 1,by omega,by go_num,HN,by first | rfl | trivial⟩
  case measure => simp [intOf];omega
 obtain rfl:k = s.size:=by omega
 have hl:s.data.toList.length = s.size:=by simp
 have hall:s.data.toList.all lX = true:=by
  have:=hni.out
  rwa [← hl,List.take_length] at this
 by_cases h1:1 ≤ s.size
 ·by_cases h2:s.size ≤ 80
  ·have HR:Hid (aX s = true):=ah (by unfold aX;rw [hall,decide_eq_true h1,decide_eq_true h2];rfl)
   have h1':(1:Int) ≤ s.size:=by omega
   have h2':(s.size:Int) ≤ 80:=by omega
   clear hall hl hni
   go_wp2_with fail
   go_ret
   exact ⟨by rw [HR.out];rfl,by first | rfl | trivial⟩
  have HR:Hid (aX s = false):=ah (by unfold aX;rw [hall,decide_eq_true h1,decide_eq_false h2];rfl)
  have h1':(1:Int) ≤ s.size:=by omega
  have h2':¬ (s.size:Int) ≤ 80:=by omega
  clear hall hl hni
  go_wp2_with fail
  go_ret
  exact ⟨by rw [HR.out];rfl,by first | rfl | trivial⟩
 have HR:Hid (aX s = false):=ah (by unfold aX;rw [hall,decide_eq_false h1];rfl)
 have h1':¬ (1:Int) ≤ s.size:=by omega
 clear hall hl hni
 go_wp2_with fail
 go_ret
 exact ⟨by rw [HR.out];rfl,by first | rfl | trivial⟩
end
end Go.Proofs.YtijhemdnajlfnaaGreatDoor

/- A part of this claim. -/
import Derived.Test.YtijhemdnajlfnaaGreatDoorR15
import Derived.Test.YtijhemdnajlfnaaGreatDoorR26
import Derived.Test.YtijhemdnajlfnaaGreatDoorR39
import Derived.Test.YtijhemdnajlfnaaGreatDoorShelf6
namespace Go.Proofs.YtijhemdnajlfnaaGreatDoor
open Tryz
set_option maxHeartbeats 64000000
set_option maxRecDepth 100000
section
open Go.RowKit
theorem Co:∀ l:List UInt8,Lib.hasPrefix l [112,45] = decide (l.take 2 = [112,45])
 | [] => by decide
 | [a] => by simp [Lib.hasPrefix,List.isPrefixOf]
 | a :: b :: t => by
  rw [Bool.eq_iff_iff,decide_eq_true_iff]
  simp only [Lib.hasPrefix,List.isPrefixOf,List.take_succ_cons,List.take_zero,Bool.and_true,Bool.and_eq_true,beq_iff_eq,List.cons.injEq,and_true]
  exact ⟨fun h => ⟨h.1.symm,h.2.symm⟩,fun h => ⟨h.1.symm,h.2.symm⟩⟩
def cpS (s:ByteArray):ByteArray:=⟨(Lib.trimPrefix s.data.toList [112,45]).toArray⟩
theorem MU (s:ByteArray) (w:World):Calls prog 87 #[.string s,.string ⟨#[112,45]⟩] w fun e w' => e = .returned (.tuple #[.string (cpS s),.bool (decide (s.data.toList.take 2 = [112,45]))]) ∧ w' = w:=by
 have h:=Any.strings_CutPrefix Tryz.lays103 s ⟨#[112,45]⟩ w
 rw [← Co]
 exact h
theorem MW {s:ByteArray} (h:s.data.toList.take 2 = [112,45]):(cpS s).size + 2 = s.size ∧ (cpS s).data.toList = s.data.toList.drop 2:=by
 have h2:Lib.hasPrefix s.data.toList [112,45] = true:=by rw [Co];exact decide_eq_true h
 have h3:(cpS s).data.toList = s.data.toList.drop 2:=by
  unfold cpS Lib.trimPrefix
  rw [if_pos h2]
  rfl
 refine ⟨?_,h3⟩
 have e:(cpS s).size = (cpS s).data.toList.length:=by simp
 rw [e,h3,List.length_drop]
 have hl:=congrArg List.length h
 rw [List.length_take] at hl
 have:s.data.toList.length = s.size:=by simp
 simp only [List.length_cons,List.length_nil] at hl
 omega
theorem Il (s:ByteArray) (w:World) (hs:s.size ≤ 1000000):Calls prog 73 #[.string s] w fun e w' => e = .returned (.int .i64 (numP s.data.toList:Int)) ∧ Below w.heap.size w w':=by
 have hsl:s.data.toList.length = s.size:=by simp
 have HCP:=ah (MU s w)
 by_cases ht:s.data.toList.take 2 = [112,45]
 ·obtain ⟨hc1,hc2⟩:=MW ht
  rw [decide_eq_true ht] at HCP
  generalize cpS s = t at HCP hc1 hc2
  by_cases h8:t.size < 6
  ·have HN:Hid (numP s.data.toList = 0):=ah (by unfold numP;rw [if_pos (.inl (by omega))])
   have d1:(t.size:Int) < 6:=by omega
   clear ht hc1 hc2 hsl
   go_enter func73,ntmps73
   go_wp2_with fail
   refine HCP.out.mono ?_
   rintro e w1 ⟨rfl,rfl⟩
   go_wp2_with fail
   go_ret
   exact ⟨by rw [HN.out];rfl,Below.refl _ _⟩
  have d1:¬ (t.size:Int) < 6:=by omega
  have HN:Hid (numP s.data.toList = (numF (t.data.toList.take 6) 0).getD 0):=ah (by
   unfold numP
   rw [if_neg (fun h => h.elim (fun h => by omega) (fun h => h ht)),hc2])
  have HIB:=ah (Da t)
  have htl:t.data.toList.length = t.size:=by simp
  have HLL:Hid ((t.data.toList.take 6).length = 6):=ah (by rw [List.length_take];omega)
  have HAT:Hid (∀ k,k < 6 → (t.data.toList.take 6)[k]? = t.data.toList[k]?):=ah fun k hk => by rw [List.getElem?_take,if_pos hk]
  clear ht hsl hc1 hc2 htl
  generalize t.data.toList.take 6 = ds at HN HLL HAT
  go_enter func73,ntmps73
  go_wp2_with fail
  refine HCP.out.mono ?_
  rintro e w1 ⟨rfl,rfl⟩
  go_wp2_with fail
  go_loopw [5,6,19] (fun v _ i wr => ∃ (k a:Nat),v = .int .i64 (a:Int) ∧ i = .int .i64 (k:Int) ∧ k ≤ 6 ∧ Hid (NumI ds k a) ∧ Below w1.heap.size w1 wr) (fun _ _ i _ => (10 - intOf i).toNat)
  case atStart => exact ⟨0,0,rfl,rfl,by omega,ah (NumI.zero _),Below.refl _ _⟩
  obtain ⟨k,a,rfl,rfl,hk,HI,hb⟩:=hrel
  have HB:=ah hb
  have hsm:=HI.out.small hk
  clear hb
  by_cases hlt:k < 6
  ·obtain ⟨d,hd,hix⟩:=HIB.out k (by omega)
   have HD:Hid (ds[k]? = some d):=ah (by rw [HAT.out k hlt,hd])
   have i1:(k:Int) < 6:=by omega
   have wi:IntKind.i64.wrap ((k:Int) + 1) = (k:Int) + 1:=by rw [IntKind.wrap_i64];omega
   have hd8:d.toNat < 256:=d.toNat_lt
   have HNB:=ah (fun h => HI.out.bad HD.out h)
   have HNX:=ah (fun h => HI.out.next HD.out h)
   clear hd HI
   generalize d.toNat = n at hix hd8 HNB HNX
   by_cases hbad:n < 48
   ·have c1:(n:Int) < 48:=by omega
    have HZ:Hid (numP s.data.toList = 0):=ah (by rw [HN.out,HNB.out (.inl hbad)];rfl)
    clear hbad
    go_wp2_with fail
    go_ret
    exact ⟨by rw [HZ.out];rfl,HB.out⟩
   have c1:¬ (n:Int) < 48:=by omega
   by_cases hbad2:57 < n
   ·have c2:(57:Int) < (n:Int):=by omega
    have HZ:Hid (numP s.data.toList = 0):=ah (by rw [HN.out,HNB.out (.inr hbad2)];rfl)
    clear hbad hbad2
    go_wp2_with fail
    go_ret
    exact ⟨by rw [HZ.out];rfl,HB.out⟩
   have c2:¬ (57:Int) < (n:Int):=by omega
   have HNN:=ah (HNX.out (by omega))
   have w1:IntKind.i64.wrap (10 * (a:Int)) = 10 * (a:Int):=by rw [IntKind.wrap_i64];omega
   have w2:IntKind.u8.wrap ((n:Int) - 48) = (n:Int) - 48:=by rw [IntKind.wrap_u8];omega
   have w3:IntKind.i64.wrap ((n:Int) - 48) = (n:Int) - 48:=by rw [IntKind.wrap_i64];omega
   have w4:IntKind.i64.wrap (10 * (a:Int) + ((n:Int) - 48)) = 10 * (a:Int) + ((n:Int) - 48):=by rw [IntKind.wrap_i64];omega
   have HEA:Hid (10 * (a:Int) + ((n:Int) - 48) = ((10 * a + (n - 48):Nat):Int)):=ah (by omega)
   clear hbad hbad2
   go_wp2_with fail
   go_roundw
   case rel => exact ⟨k + 1,10 * a + (n - 48),by rw [HEA.out],by go_num,by omega,HNN,HB.out⟩
   case measure => simp [intOf];omega
  have hk6:k = 6:=by omega
  subst hk6
  have HZ:Hid (numP s.data.toList = a):=ah (by rw [HN.out,HI.out.end_ HLL.out];rfl)
  clear hlt
  go_wp2_with fail
  go_ret
  exact ⟨by rw [HZ.out];rfl,HB.out⟩
 have HN:Hid (numP s.data.toList = 0):=ah (by unfold numP;rw [if_pos (.inr ht)])
 rw [decide_eq_false ht] at HCP
 clear ht hsl
 generalize cpS s = t at HCP
 go_enter func73,ntmps73
 go_wp2_with fail
 refine HCP.out.mono ?_
 rintro e w1 ⟨rfl,rfl⟩
 go_wp2_with fail
 go_ret
 exact ⟨by rw [HN.out];rfl,Below.refl _ _⟩
def stmL (n:Nat):List UInt8:=(List.range 6).map fun j => UInt8.ofNat (48 + n / 10 ^ (5 - j) % 10)
theorem BH (n:Nat):(stmL n).length = 6:=by unfold stmL;rw [List.length_map,List.length_range]
theorem KG (n j:Nat) (h:j < 6):(stmL n)[j]? = some (UInt8.ofNat (48 + n / 10 ^ (5 - j) % 10)):=by
 unfold stmL
 rw [List.getElem?_map,List.getElem?_range h]
 rfl
def stA (n k i:Nat):Value:=if 6 ≤ i + k then .int .u8 ((48 + n / 10 ^ (5 - i) % 10:Nat):Int) else .int .u8 0
theorem KJ (n k:Nat) (h:k < 6):upd (stA n k) (5 - k) (.int .u8 ((48 + n / 10 ^ k % 10:Nat):Int)) = fun i => if i < 6 then stA n (k + 1) i else stA n k i:=by
 funext i
 unfold upd stA
 by_cases e1:i = 5 - k
 ·rw [if_pos e1,if_pos (by omega),if_pos (by omega),e1,show 5 - (5 - k) = k from by omega]
 rw [if_neg e1]
 by_cases e2:i < 6
 ·rw [if_pos e2]
  by_cases e3:6 ≤ i + k
  ·rw [if_pos e3,if_pos (by omega)]
  rw [if_neg e3,if_neg (by omega)]
 rw [if_neg e2]
theorem KI (n:Nat) (hn:n < 1000000) (w:World):Calls prog 74 #[.int .i64 (n:Int)] w fun e w' => e = .returned (.string (ofB ([112,45] ++ stmL n))) ∧ Below w.heap.size w w':=by
 have HA0:Hid (Arr (w.alloc (.cells (Array.replicate 6 (.int .u8 0)) 243)) w.heap.size 6 (stA n 0)):=ah ((Arr.new w 6 (.int .u8 0) _).congr fun k hk => by unfold stA;rw [if_neg (by omega)])
 have HB0:Hid (Below w.heap.size w (w.alloc (.cells (Array.replicate 6 (.int .u8 0)) 243))):=ah bal
 have HXL:=ah (KJ n)
 go_enter func74,ntmps74
 go_wp2_with fail
 go_loopw [0,4,5] (fun v _ i wr => ∃ k:Nat,i = .int .i64 (k:Int) ∧ k ≤ 6 ∧ v = .int .i64 ((n / 10 ^ k:Nat):Int) ∧ Hid (Arr wr w.heap.size 6 (stA n k)) ∧ Hid (Below w.heap.size w wr)) (fun _ _ i _ => (6 - intOf i).toNat)
 case atStart => exact ⟨0,rfl,by omega,by rw [Nat.pow_zero,Nat.div_one],HA0,HB0⟩
 obtain ⟨wo,rfl⟩:∃ wo:World,wo = wr:=⟨_,rfl⟩
 obtain ⟨k,rfl,hk,rfl,HA,HB⟩:=hrel
 by_cases hlt:k < 6
 ·have d1:decide ((k:Int) < 6) = true:=decide_eq_true (by omega)
  have HN:=ah (HXL.out k hlt)
  have HDV:Hid (n / 10 ^ (k + 1) = n / 10 ^ k / 10):=ah (by rw [Nat.pow_succ,Nat.div_div_eq_div_mul])
  have hml:n / 10 ^ k < 1000000:=Nat.lt_of_le_of_lt (Nat.div_le_self _ _) hn
  generalize n / 10 ^ k = m at HN HDV hml
  have w1:IntKind.i64.wrap (5 - (k:Int)) = 5 - (k:Int):=by rw [IntKind.wrap_i64];omega
  have t1:(5 - (k:Int)).toNat = 5 - k:=by omega
  have p1:(0:Int) ≤ 5 - (k:Int):=by omega
  have l1:5 - (k:Int) < 6:=by omega
  have e1:(m:Int) % 10 = ((m % 10:Nat):Int):=by omega
  have e2:(m:Int) / 10 = ((m / 10:Nat):Int):=by omega
  have e3:(m:Int).tdiv 10 = ((m / 10:Nat):Int):=rfl
  have w5:IntKind.i64.wrap ((m / 10:Nat):Int) = ((m / 10:Nat):Int):=by rw [IntKind.wrap_i64];omega
  have q9:m % 10 < 10:=Nat.mod_lt _ (by decide)
  obtain ⟨q,hq⟩:∃ q,m % 10 = q:=⟨_,rfl⟩
  rw [hq] at e1 q9 HN
  have w2:IntKind.i64.wrap (48 + (q:Int)) = 48 + (q:Int):=by rw [IntKind.wrap_i64];omega
  have w3:IntKind.u8.wrap (48 + (q:Int)) = 48 + (q:Int):=by rw [IntKind.wrap_u8];omega
  have w4:IntKind.i64.wrap ((k:Int) + 1) = (k:Int) + 1:=by rw [IntKind.wrap_i64];omega
  have HE:Hid (((48 + q:Nat):Int) = 48 + (q:Int)):=ah (by omega)
  have f1:=HA.out.cell (5 - k) (by omega)
  have f2:=HA.out.free (5 - k) (by omega)
  obtain ⟨W2,hW2⟩:∃ W2,wo.setCell ⟨w.heap.size,5 - k,none⟩ (.int .u8 (48 + (q:Int))) = W2:=⟨_,rfl⟩
  have HA2:Hid (Arr W2 w.heap.size 6 (stA n (k + 1))):=ah (by
   rw [← hW2]
   have h:=HA.out.set (5 - k) (by omega) (.int .u8 (48 + (q:Int)))
   rw [← HE.out,HN.out] at h
   exact h.congr fun i hi => if_pos hi)
  have HB2:Hid (Below w.heap.size w W2):=ah (by rw [← hW2];exact below_setCells (B:=w.heap.size) w.heap.size (by omega) [.int .u8 (48 + (q:Int))] (5 - k) _ HB.out)
  have HW2:=ah hW2
  generalize m / 10 = m2 at e2 e3 w5 HDV
  clear hW2 hq e2
  go_upto_region 6 with fail
  rw [HW2.out]
  go_wp2_with fail
  go_roundw
  case rel => exact ⟨k + 1,by go_num,by omega,by rw [HDV.out],HA2,HB2⟩
  case measure => simp [intOf];omega
 obtain rfl:k = 6:=by omega
 have d1:decide ((6:Int) < 6) = false:=rfl
 have hcv:(convert 221 9 (.slice (some ⟨w.heap.size,0,none⟩) 6 6)).run prog wo = .ok (.string (ofB (stmL n))) wo:=by
  have hl:=BH n
  have:=run_convert_bytes_back (P:=prog) wo 221 9 5 ⟨w.heap.size,0,none⟩ 6 (stmL n) underlying221 underlying5 underlying9 (fun j hj => by
   rw [hl] at hj
   rw [Addr.add_mid,Nat.zero_add,HA.out.cell j hj]
   unfold stA
   have h10:n / 10 ^ (5 - j) % 10 < 10:=Nat.mod_lt _ (by decide)
   have hg:=KG n j hj
   rw [List.getElem?_eq_getElem (by rw [hl];exact hj)] at hg
   rw [if_pos (by omega),Option.some.inj hg]
   have:(UInt8.ofNat (48 + n / 10 ^ (5 - j) % 10)).toNat = 48 + n / 10 ^ (5 - j) % 10:=by
    rw [UInt8.toNat_ofNat']
    exact Nat.mod_eq_of_lt (by omega)
   rw [this])
  rw [hl] at this
  exact this
 have hsz:(ofB (stmL n)).size = 6:=by rw [aM,BH]
 have HE:Hid ((⟨#[112,45]⟩:ByteArray) ++ ofB (stmL n) = ofB ([112,45] ++ stmL n)):=ah (ba_eq (by simp [ofB]))
 generalize ofB (stmL n) = t at hcv hsz HE
 go_wp2
 go_ret
 exact ⟨by rw [show ofB (112 :: 45 :: stmL n) = _ from HE.out.symm];rfl,HB.out⟩
theorem kS (x:UInt8) (q:Nat) (h:¬ (x.toNat < 48 ∨ 57 < x.toNat)) (e:q = x.toNat - 48):UInt8.ofNat (48 + q) = x:=by
 have:48 + q = x.toNat:=by omega
 rw [this,UInt8.ofNat_toNat]
theorem Np {d0 d1 d2 d3 d4 d5:UInt8} {a:Nat} (h:numF [d0,d1,d2,d3,d4,d5] 0 = some a):stmL a = [d0,d1,d2,d3,d4,d5]:=by
 simp only [numF] at h
 split at h
 ·cases h
 split at h
 ·cases h
 split at h
 ·cases h
 split at h
 ·cases h
 split at h
 ·cases h
 split at h
 ·cases h
 rename_i h0 h1 h2 h3 h4 h5
 have e:=Option.some.inj h
 have hs:stmL a = [UInt8.ofNat (48 + a / 100000 % 10),UInt8.ofNat (48 + a / 10000 % 10),UInt8.ofNat (48 + a / 1000 % 10),UInt8.ofNat (48 + a / 100 % 10),UInt8.ofNat (48 + a / 10 % 10),UInt8.ofNat (48 + a / 1 % 10)]:=rfl
 rw [hs,kS d0 _ h0 (by omega),kS d1 _ h1 (by omega),kS d2 _ h2 (by omega),kS d3 _ h3 (by omega),kS d4 _ h4 (by omega),kS d5 _ h5 (by omega)]
theorem KF:∀ (ds:List UInt8) (a:Nat),ds.length = 6 → numF ds 0 = some a → stmL a = ds
 | [_,_,_,_,_,_],_,_,h => Np h
theorem GA:∀ (l:List UInt8) (a r:Nat),numF l a = some r → r < (a + 1) * 10 ^ l.length
 | [],a,r,h => by
  have:=Option.some.inj h
  subst this
  simp
 | d :: ds,a,r,h => by
  unfold numF at h
  split at h
  ·cases h
  have h1:=GA ds _ r h
  have h2:(10 * a + (d.toNat - 48) + 1) * 10 ^ ds.length ≤ (10 * (a + 1)) * 10 ^ ds.length:=Nat.mul_le_mul_right _ (by omega)
  have h3:(10 * (a + 1)) * 10 ^ ds.length = (a + 1) * 10 ^ (d :: ds).length:=by
   rw [List.length_cons,Nat.pow_succ,Nat.mul_comm (10 ^ ds.length) 10,← Nat.mul_assoc,Nat.mul_comm (a + 1) 10]
  omega
theorem NG (l:List UInt8):numP l < 1000000:=by
 unfold numP
 split
 ·decide
 cases hf:numF ((l.drop 2).take 6) 0 with
 | none => decide
 | some a =>
  have h:=GA _ _ _ hf
  have h2:10 ^ ((l.drop 2).take 6).length ≤ 10 ^ 6:=Nat.pow_le_pow_right (by decide) (by rw [List.length_take];omega)
  rw [Option.getD_some]
  omega
theorem Ih {l:List UInt8} (h:numP l ≠ 0):8 ≤ l.length ∧ [112,45] ++ stmL (numP l) = l.take 8:=by
 unfold numP at h ⊢
 split at h
 ·exact absurd rfl h
 rename_i hc
 have h8:8 ≤ l.length:=by
  have:=fun x => hc (.inl x)
  omega
 have h2:l.take 2 = [112,45]:=Decidable.of_not_not fun x => hc (.inr x)
 rw [if_neg hc]
 refine ⟨h8,?_⟩
 cases hf:numF ((l.drop 2).take 6) 0 with
 | none => rw [hf] at h;exact absurd rfl h
 | some a =>
  rw [Option.getD_some,KF _ a (by rw [List.length_take,List.length_drop];omega) hf,← h2]
  exact (List.take_add (l:=l) (i:=2) (j:=6)).symm
def mO (s:ByteArray):Bool:=decide (s.size = 8) && decide (numL s.data.toList ≠ 0)
theorem vN (s:ByteArray) (w:World) (hs:s.size ≤ 1000000):Calls prog 35 #[.string s] w fun e w' => e = .returned (.bool (mO s)) ∧ Below w.heap.size w w':=by
 have HN:=ah (fun w => Il s w hs)
 have HST:=ah (KI (numP s.data.toList) (NG _))
 have hsl:s.data.toList.length = s.size:=by simp
 by_cases h0:numP s.data.toList = 0
 ·have HR:Hid (mO s = false):=ah (by unfold mO;rw [← Az,decide_eq_false (p:=numP s.data.toList ≠ 0) (fun h => h h0),Bool.and_false])
  have HN1:=ah (HN.out w)
  rw [h0] at HN1
  go_enter func35,ntmps35
  go_wp2_with fail
  refine HN1.out.mono ?_
  rintro e w1 ⟨rfl,hb1⟩
  go_wp2_with fail
  go_ret
  exact ⟨by rw [HR.out];rfl,hb1⟩
 obtain ⟨h8,ht⟩:=Ih h0
 rw [ht] at HST
 have hR:mO s = decide (ofB (s.data.toList.take 8) = s):=by
  unfold mO
  rw [← Az,decide_eq_true (show numP s.data.toList ≠ 0 from h0),Bool.and_true]
  by_cases e8:s.size = 8
  ·rw [decide_eq_true e8,decide_eq_true]
   rw [List.take_of_length_le (by omega)]
   exact ba_eq (by simp [ofB])
  rw [decide_eq_false e8,decide_eq_false]
  intro e
  have:=congrArg ByteArray.size e
  rw [aM,List.length_take] at this
  omega
 have f0:((ofB (s.data.toList.take 8)).toList == s.toList) = decide (ofB (s.data.toList.take 8) = s):=iG _ _
 rw [← hR] at f0
 have d1:((numP s.data.toList:Int) != 0) = true:=by rw [bne_iff_ne];omega
 clear hR ht
 generalize ofB (s.data.toList.take 8) = t at f0 HST
 generalize mO s = b at f0 ⊢
 generalize numP s.data.toList = n at HN HST d1
 clear h0 h8 hsl
 go_enter func35,ntmps35
 go_wp2_with fail
 refine (HN.out _).mono ?_
 rintro e w1 ⟨rfl,hb1⟩
 go_wp2_with fail
 refine (HN.out _).mono ?_
 rintro e w2 ⟨rfl,hb2⟩
 go_wp2_with fail
 refine (HST.out _).mono ?_
 rintro e w3 ⟨rfl,hb3⟩
 have HB:=ah ((hb1.trans (hb2.mono hb1.size)).trans (hb3.mono (Nat.le_trans hb1.size hb2.size)))
 clear hb1 hb2 hb3
 go_wp2_with fail
 go_ret
 exact ⟨rfl,HB.out⟩
def csS (s p:List UInt8):ByteArray:=⟨(Lib.trimSuffix s p).toArray⟩
theorem BG {s p:List UInt8}:Lib.hasSuffix s p = true ↔ p.length ≤ s.length ∧ s.drop (s.length - p.length) = p:=by
 rw [← Lib.hasSuffix_of_drop]
 simp
theorem Cq (nm:ByteArray):pkNm nm = (Lib.hasSuffix nm.data.toList bF && mO (csS nm.data.toList bF)):=by
 have hsz:nm.size = nm.data.toList.length:=Lib.size_eq nm
 have hd5:bF.length = 5:=rfl
 cases hs:Lib.hasSuffix nm.data.toList bF with
 | false =>
  rw [Bool.false_and,Bool.eq_false_iff]
  intro h
  unfold pkNm at h
  simp only [Bool.and_eq_true,decide_eq_true_eq] at h
  have:Lib.hasSuffix nm.data.toList bF = true:=BG.2 ⟨by omega,by rw [← hsz,h.1.1,hd5];exact h.1.2⟩
  rw [hs] at this;cases this
 | true =>
  obtain ⟨h1,h2⟩:=BG.1 hs
  have e:(csS nm.data.toList bF).data.toList = nm.data.toList.take (nm.data.toList.length - 5):=by
   unfold csS Lib.trimSuffix
   rw [if_pos hs,hd5]
  have el:(csS nm.data.toList bF).size + 5 = nm.size:=by
   rw [Lib.size_eq,e,List.length_take];omega
  rw [Bool.true_and]
  unfold pkNm mO
  rw [e]
  by_cases h8:nm.size = 13
  ·have h3:nm.data.toList.drop 8 = bF:=by rw [← hsz,h8,hd5] at h2;exact h2
   have h4:numL (nm.data.toList.take (nm.data.toList.length - 5)) = numL nm.data.toList:=by
    rw [← hsz,h8]
    unfold numL
    have e1:(nm.data.toList.take (13 - 5)).length = 8:=by rw [List.length_take];omega
    have e2:(nm.data.toList.take (13 - 5)).take 2 = nm.data.toList.take 2:=by rw [List.take_take];rfl
    have e3:((nm.data.toList.take (13 - 5)).drop 2).take 6 = (nm.data.toList.drop 2).take 6:=by rw [List.drop_take,List.take_take];rfl
    rw [e1,e2,e3]
    have h5:¬ nm.data.toList.length < 8:=by omega
    by_cases h6:nm.data.toList.take 2 ≠ [112,45]
    ·rw [if_pos (.inr h6),if_pos (.inr h6)]
    have g1:¬ ((8:Nat) < 8 ∨ nm.data.toList.take 2 ≠ [112,45]):=fun h => h.elim (fun h => absurd h (by decide)) h6
    have g2:¬ (nm.data.toList.length < 8 ∨ nm.data.toList.take 2 ≠ [112,45]):=fun h => h.elim h5 h6
    rw [if_neg g1,if_neg g2]
   rw [h4,decide_eq_true h8,decide_eq_true h3,decide_eq_true (show (csS nm.data.toList bF).size = 8 by omega)]
   rfl
  rw [decide_eq_false h8,decide_eq_false (show ¬ (csS nm.data.toList bF).size = 8 by omega)]
  rfl
theorem ni {nm:ByteArray} (h:pkNm nm = true):csS nm.data.toList bF = ofB (nm.data.toList.take 8) ∧ nm.data.toList = nm.data.toList.take 8 ++ bF ∧ (nm.data.toList.take 8).length = 8:=by
 have h0:=h
 rw [Cq,Bool.and_eq_true] at h0
 unfold pkNm at h
 simp only [Bool.and_eq_true,decide_eq_true_eq] at h
 have hsz:nm.size = nm.data.toList.length:=Lib.size_eq nm
 refine ⟨fC ?_,?_,?_⟩
 ·rw [aW]
  unfold csS Lib.trimSuffix
  rw [if_pos h0.1,← hsz,h.1.1]
  rfl
 ·conv => lhs;rw [← List.take_append_drop 8 nm.data.toList,h.1.2]
 rw [List.length_take];omega
theorem jw {d:Dk} {nm:ByteArray} {p:Sp} (h:pkAt d nm = some p):pkNm nm = true ∧ p.stem = ofB (nm.data.toList.take 8) ∧ p.bytes = (d 1 nm).getD ByteArray.empty ∧ dJ p.bytes = some p.pk:=by
 unfold pkAt at h
 split at h
 ·rename_i hn
  split at h
  ·cases h
  rename_i q hq
  cases h
  exact ⟨hn,rfl,rfl,hq⟩
 cases h
theorem vF:∀ (x y s t:List UInt8),x.length = y.length → x ≠ y → ltB (x ++ s) (y ++ t) = ltB x y
 | [],[],_,_,_,h => absurd rfl h
 | [],_ :: _,_,_,h,_ => by cases h
 | _ :: _,[],_,_,h,_ => by cases h
 | a :: x,b :: y,s,t,hl,hne => by
  rw [List.cons_append,List.cons_append]
  unfold ltB
  by_cases h1:a.toNat < b.toNat
  ·rw [if_pos h1,if_pos h1]
  rw [if_neg h1,if_neg h1]
  by_cases h2:b.toNat < a.toNat
  ·rw [if_pos h2,if_pos h2]
  rw [if_neg h2,if_neg h2]
  have e:a = b:=UInt8.toNat_inj.1 (by omega)
  exact vF x y s t (by simpa using hl) (fun h => hne (by rw [e,h]))
theorem yQ (d:Dk):∀ {l:List ByteArray},AscT l → AscT ((aO d l).map Sp.stem)
 | [],_ => List.Pairwise.nil
 | nm :: l,h => by
  unfold AscT at h
  rw [List.pairwise_cons] at h
  have ih:=yQ d h.2
  unfold aO at ih ⊢
  rw [List.filterMap_cons]
  cases hp:pkAt d nm with
  | none => exact ih
  | some p =>
   unfold AscT at ih ⊢
   rw [List.map_cons,List.pairwise_cons]
   refine ⟨fun y hy => ?_,ih⟩
   obtain ⟨q,hq,rfl⟩:=List.mem_map.1 hy
   obtain ⟨nm2,hn2,hq2⟩:=List.mem_filterMap.1 hq
   obtain ⟨a1,a2,_⟩:=jw hp
   obtain ⟨b1,b2,_⟩:=jw hq2
   obtain ⟨_,a4,a5⟩:=ni a1
   obtain ⟨_,b4,b5⟩:=ni b1
   have hlt:=h.1 nm2 hn2
   rw [a2,b2,aW,aW]
   have hne:nm.data.toList.take 8 ≠ nm2.data.toList.take 8:=fun e => by
    have e2:nm = nm2:=fC (by rw [a4,b4,e])
    rw [e2,bS] at hlt;cases hlt
   rw [a4,b4,vF _ _ _ _ (by rw [a5,b5]) hne] at hlt
   exact hlt
theorem u6 (d:Dk) (l:List ByteArray) (nm:ByteArray):aO d (l ++ [nm]) = aO d l ++ (pkAt d nm).toList:=by
 unfold aO
 rw [List.filterMap_append]
 cases h:pkAt d nm <;> simp [h]
theorem KH {d:Dk} {l:List ByteArray} {p:Sp} (h:p ∈ aO d l):p.stem.size = 8:=by
 obtain ⟨nm,_,h2⟩:=List.mem_filterMap.1 h
 obtain ⟨h3,h4,_⟩:=jw h2
 rw [h4,aM];exact (ni h3).2.2
theorem yL (l p:List UInt8):Lib.hasPrefix l p = decide (l.take p.length = p):=by
 unfold Lib.hasPrefix
 rw [Bool.eq_iff_iff,decide_eq_true_iff,List.isPrefixOf_iff_prefix,List.prefix_iff_eq_take]
 exact eq_comm
def cpO (s:ByteArray):ByteArray:=⟨(Lib.trimPrefix s.data.toList slo1).toArray⟩
theorem MV (s:ByteArray) (w:World):Calls prog 87 #[.string s,.string ⟨#[83,76,79,49]⟩] w fun e w' => e = .returned (.tuple #[.string (cpO s),.bool (decide (s.data.toList.take 4 = slo1))]) ∧ w' = w:=by
 have h:=Any.strings_CutPrefix Tryz.lays103 s ⟨#[83,76,79,49]⟩ w
 have e:=yL s.data.toList slo1
 rw [show slo1.length = 4 from rfl] at e
 rw [← e]
 exact h
theorem MX (s:ByteArray):(cpO s).size ≤ s.size:=by
 have e:(cpO s).size = (Lib.trimPrefix s.data.toList slo1).length:=by unfold cpO;simp [ByteArray.size]
 rw [e]
 unfold Lib.trimPrefix
 have:s.data.toList.length = s.size:=by simp
 split
 ·rw [List.length_drop];omega
 omega
theorem MZ {s:ByteArray} (h:s.data.toList.take 4 = slo1):(cpO s).data.toList = s.data.toList.drop 4:=by
 have h2:Lib.hasPrefix s.data.toList slo1 = true:=by rw [yL];exact decide_eq_true h
 unfold cpO Lib.trimPrefix
 rw [if_pos h2]
 rfl
theorem Fg (b:ByteArray):loOb b = if (unOk b && decide ((unS b).data.toList.take 4 = slo1)) = true then aQ (cpO (unS b)).data.toList else none:=by
 unfold loOb
 cases hu:bK b.data.toList with
 | none =>
  have e2:unOk b = false:=by unfold unOk;rw [hu];rfl
  rw [e2,Bool.false_and,if_neg (by decide)]
 | some l =>
  have e1:unS b = ofB l:=by unfold unS;rw [hu];rfl
  have e2:unOk b = true:=by unfold unOk;rw [hu];rfl
  have e3:(ofB l).data.toList = l:=by simp [ofB]
  dsimp only
  by_cases h:l.take 4 = slo1
  ·rw [if_pos h,e2,Bool.true_and,if_pos (decide_eq_true (by rw [e1,e3];exact h)),MZ (by rw [e1,e3];exact h),e1,e3]
  rw [if_neg h,if_neg (fun x => h (by rw [e2,Bool.true_and] at x;have:=of_decide_eq_true x;rwa [e1,e3] at this))]
def zX (nm b:ByteArray) (w:World) (e:Ending) (w':World):Prop :=
 (match rdLo nm b with
 | none => e = .returned (.tuple #[.agg #[.int .i64 0,.string ⟨#[]⟩],.bool false])
 | some o => e = .returned (.tuple #[.agg (obC o).toArray,.bool true])) ∧ Below w.heap.size w w'
theorem ig {nm b:ByteArray} {w w':World} (h:rdLo nm b = none) (hb:Below w.heap.size w w'):zX nm b w (.returned (.tuple #[.agg #[.int .i64 0,.string ⟨#[]⟩],.bool false])) w':=⟨by rw [h],hb⟩
theorem y9 {nm b:ByteArray} {o:Ob} {c:List Value} {w w':World} (h:rdLo nm b = some o) (hc:obC o = c) (hb:Below w.heap.size w w'):zX nm b w (.returned (.tuple #[.agg c.toArray,.bool true])) w':=⟨by rw [h,← hc],hb⟩
theorem vC (w:World):(Instr.build 40 #[]).run prog w = .ok (.agg #[.int .i64 0,.string ⟨#[]⟩]) w:=run_build w 40 _ _ (by kernel_rfl)
theorem JE (nm b:ByteArray) (w:World) (hb:b.size ≤ 1000000) (hG:Glob w):Calls prog 51 #[.string nm,.string b] w (zX nm b w):=by
 have hbn:=vC
 obtain ⟨zi,j0,ji,jz0,jz1,jz2,hziv,hzil⟩:=gH
 have HZI:=ah hzil
 obtain ⟨W0,hW0⟩:∃ W,w.alloc (.cells #[.int .i64 0,.string ⟨#[]⟩] 40) = W:=⟨_,rfl⟩
 have HX0:Hid (BoxL W0 w.heap.size 40 [.int .i64 0,.string ⟨#[]⟩]):=ah (by rw [← hW0];exact BoxL.new w 40 [.int .i64 0,.string ⟨#[]⟩])
 have HB0:Hid (Below w.heap.size w W0):=ah (by rw [← hW0];exact bal)
 have HG:=ah hG
 have HUN:=ah (oh b W0 (hG.below HB0.out).crc (by omega))
 have HLO:=ah (Fg b)
 have hus:(unS b).size ≤ 1000000:=by
  unfold unS
  cases hu:bK b.data.toList with
  | none => exact Nat.zero_le _
  | some l =>
   show (ofB l).size ≤ _
   rw [aM]
   unfold bK at hu
   split at hu
   ·cases hu
    rw [List.length_take]
    have:b.data.toList.length = b.size:=by simp
    omega
   cases hu
 have hcs:=MX (unS b)
 have HCU:=ah (MV (unS b))
 have HRL:Hid (rdLo nm b = match loOb b with | none => none | some o => if ofB (hexL (idO o)) = nm then some o else none):=ah rfl
 rw [HLO.out] at HRL
 have HW0:=ah hW0
 clear hW0 hG hb HLO
 obtain ⟨p,hp⟩:∃ p,decide ((unS b).data.toList.take 4 = slo1) = p:=⟨_,rfl⟩
 rw [hp] at HCU HRL
 clear hp
 generalize cpO (unS b) = s at HCU HRL hcs
 generalize unS b = us at HUN HCU hcs hus
 generalize unOk b = u at HUN HRL
 go_enter func51,ntmps51
 go_upto_region 1 with fail
 rw [HW0.out]
 go_wp2_with fail
 refine HUN.out.mono ?_
 rintro e w1 ⟨rfl,hb1⟩
 have HX1:=ah (HX0.out.below hb1)
 have HB1:=bth HB0 hb1
 clear hb1 HUN
 go_wp2_with fail
 refine (HCU.out w1).mono ?_
 rintro e w1' ⟨rfl,rfl⟩
 have HOR:=ah (rX s w1' (by omega) (HG.out.below HB1.out).max)
 clear HCU
 go_wp2_with fail
 refine HOR.out.mono ?_
 rintro e w3 hans
 have HX3:=ah (HX1.out.below hans.1)
 have HB3:=ah (HB1.out.trans (hans.1.mono HB1.out.size))
 obtain ⟨o,c,rfl,hoc⟩:∃ (o:Ob) (c:Nat),e = .returned (.tuple #[.agg (obC o).toArray,.int .i64 (c:Int)]) ∧ ((c = 0 ∧ aQ s.data.toList = some o) ∨ (c = 2 ∧ aQ s.data.toList = none)):=by
  rcases hans.2 with ⟨o,h1,h2⟩ | ⟨h1,h2⟩
  ·exact ⟨o,0,h2,.inl ⟨rfl,h1⟩⟩
  exact ⟨ob0,2,h2,.inr ⟨rfl,h1⟩⟩
 have HOC:=ah hoc
 clear hans hoc
 have HT4:=ah (there_alloc (n:=2) w3 #[.int .i64 0,.string ⟨#[]⟩] 40 rfl)
 have HIO:=ah aF
 obtain ⟨W4,hW4⟩:∃ W,(w3.alloc (.cells #[.int .i64 0,.string ⟨#[]⟩] 40)).setCells w3.heap.size 0 (obC o) = W:=⟨_,rfl⟩
 have HBX4:Hid (BoxL W4 w3.heap.size 40 (obC o)):=ah (by rw [← hW4];exact (BoxL.new w3 40 [.int .i64 0,.string ⟨#[]⟩]).set rfl)
 have hb4:Below w3.heap.size w3 W4:=by rw [← hW4];exact below_setCells _ (Nat.le_refl _) _ _ _ bal
 have HX4:=ah (HX3.out.below hb4)
 have HB4:=bth HB3 hb4
 have HID:=ah (show Calls prog 89 #[.agg (obC o).toArray] W4 (qB o.kind o.body W4) from Gy o.kind o.body W4 (HG.out.below HB4.out).laid)
 unfold qB at HID
 have hr4:=HBX4.out.range
 have h2o:(prog.info? 40).map (·.size) = some (obC o).length:=aF
 have HOC1:=ah (dx o)
 have HOCL:Hid ((obC o).length = 2):=ah rfl
 have HRO:Hid (aQ s.data.toList = some o → aC ⟨o.kind,o.body⟩ = true):=ah fun h => dM h
 have HW4:=ah hW4
 obtain ⟨y,hy⟩:∃ y,(if aC ⟨o.kind,o.body⟩ = true then idO ⟨o.kind,o.body⟩ else zid) = y:=⟨_,rfl⟩
 have HY32:Hid (y.length = 32):=ah (by
  rw [← hy]
  split
  ·exact dI _
  exact dZ)
 rw [hy] at HID
 have HY:Hid (aQ s.data.toList = some o → y = idO o):=ah fun h => by rw [← hy,if_pos (HRO.out h)]
 obtain ⟨ok,hok⟩:∃ ok,aC ⟨o.kind,o.body⟩ = ok:=⟨_,rfl⟩
 rw [hok] at HID HRO
 clear hW4 hy hok hb4
 generalize hco:obC o = co at hr4 h2o HOC1 HOCL HW4 HID HBX4 ⊢
 have HCO:=ah hco
 clear hco
 go_upto_region 4 with (refine aj rfl 40 _ _ rfl w3.heap.size 0 co rfl rfl 2 HOCL.out HT4.out HIO.out HOC1.out ?_;rw [HW4.out])
 go_wp2_with (refine wpList_load_mid rfl 40 _ rfl w3.heap.size 0 rfl co _ hr4 underlying40 rfl h2o ?_)
 refine HID.out.mono ?_
 rintro e w5 ⟨rfl,hb5⟩
 have HX5:=ah (HX4.out.below hb5)
 have HB5:=bth HB4 hb5
 have HBX5:=ah (HBX4.out.below hb5)
 clear hb5 hr4 HID
 have HT6:=ah (there_alloc (n:=32) w5 zi 24 HZI.out)
 have HII:=ah AR
 have HCI:Hid ((idC y).length = 32 ∧ ∀ v ∈ idC y,v.oneCell' = true):=ah ⟨by rw [aD,HY32.out],bX y⟩
 obtain ⟨W6,hW6⟩:∃ W,(w5.alloc (.cells zi 24)).setCells w5.heap.size 0 (idC y) = W:=⟨_,rfl⟩
 have HBX6:Hid (BoxL W6 w5.heap.size 24 (idC y)):=ah (by rw [← hW6];exact BoxL.set (cs:=zi.toList) (by have:=BoxL.new w5 24 zi.toList;simpa using this) (by rw [HCI.out.1];simpa using HZI.out.symm))
 have hb6:Below w5.heap.size w5 W6:=by rw [← hW6];exact below_setCells _ (Nat.le_refl _) _ _ _ bal
 have HX6:=ah (HX5.out.below hb6)
 have HB6:=bth HB5 hb6
 have HOX6:=ah (HBX5.out.below hb6)
 have HNM:=ah (zf y HY32.out W6)
 have h32:=dG HCI.out.1
 have r6:=HBX6.out.range
 have HW6:=ah hW6
 clear hW6 hb6
 generalize hci:idC y = ci at HCI HW6 HBX6 HNM h32 r6
 clear hci
 go_upto_region 5 with (refine aj rfl 24 _ _ rfl w5.heap.size 0 ci rfl rfl 32 HCI.out.1 HT6.out HII.out HCI.out.2 ?_;rw [HW6.out])
 cases u with
 | false =>
  have HNO:Hid (rdLo nm b = none):=ah (by rw [HRL.out,Bool.false_and,if_neg (by decide)])
  clear r6 h32
  go_upto_region 6 with fail
  have hth:W6.there w.heap.size 0 2:=HX6.out.there
  have h2r:(prog.info? 40).map (·.size) = some ([.int .i64 0,.string ⟨#[]⟩]:List Value).length:=aF
  obtain ⟨WE,hWE⟩:∃ WE,W6.setCells w.heap.size 0 [.int .i64 0,.string ⟨#[]⟩] = WE:=⟨_,rfl⟩
  have HRE:Hid (BoxL WE w.heap.size 40 [.int .i64 0,.string ⟨#[]⟩]):=ah (by rw [← hWE];exact HX6.out.set rfl)
  have HBE:Hid (Below w.heap.size w WE):=ah (by rw [← hWE];exact below_setCells _ (Nat.le_refl _) _ _ _ HB6.out)
  have HWE:=ah hWE
  clear hWE
  go_wp2_with (refine aj rfl 40 _ _ rfl w.heap.size 0 [.int .i64 0,.string ⟨#[]⟩] rfl rfl 2 rfl hth HIO.out (by intro v hv;simp at hv;rcases hv with rfl | rfl <;> rfl) ?_;rw [HWE.out])
  have hre:=HRE.out.range
  (try simp only [Exit.inBlock,Exit.then])
  refine aB rfl w.heap.size 0 rfl [.int .i64 0,.string ⟨#[]⟩] _ hre underlying40 rfl h2r rfl _ rfl ?_
  exact ig HNO.out HBE.out
 | true =>
  cases p with
  | false =>
   have HNO:Hid (rdLo nm b = none):=ah (by rw [HRL.out,Bool.true_and,if_neg (by decide)])
   clear r6 h32
   go_upto_region 6 with fail
   have hth:W6.there w.heap.size 0 2:=HX6.out.there
   have h2r:(prog.info? 40).map (·.size) = some ([.int .i64 0,.string ⟨#[]⟩]:List Value).length:=aF
   obtain ⟨WE,hWE⟩:∃ WE,W6.setCells w.heap.size 0 [.int .i64 0,.string ⟨#[]⟩] = WE:=⟨_,rfl⟩
   have HRE:Hid (BoxL WE w.heap.size 40 [.int .i64 0,.string ⟨#[]⟩]):=ah (by rw [← hWE];exact HX6.out.set rfl)
   have HBE:Hid (Below w.heap.size w WE):=ah (by rw [← hWE];exact below_setCells _ (Nat.le_refl _) _ _ _ HB6.out)
   have HWE:=ah hWE
   clear hWE
   go_wp2_with (refine aj rfl 40 _ _ rfl w.heap.size 0 [.int .i64 0,.string ⟨#[]⟩] rfl rfl 2 rfl hth HIO.out (by intro v hv;simp at hv;rcases hv with rfl | rfl <;> rfl) ?_;rw [HWE.out])
   have hre:=HRE.out.range
   (try simp only [Exit.inBlock,Exit.then])
   refine aB rfl w.heap.size 0 rfl [.int .i64 0,.string ⟨#[]⟩] _ hre underlying40 rfl h2r rfl _ rfl ?_
   exact ig HNO.out HBE.out
  | true =>
   have HRL2:Hid (rdLo nm b = match aQ s.data.toList with | none => none | some o => if ofB (hexL (idO o)) = nm then some o else none):=ah (by rw [HRL.out,Bool.true_and,if_pos rfl])
   rcases HOC.out with ⟨rfl,hrd⟩ | ⟨rfl,hrd⟩
   ·have HRL3:Hid (rdLo nm b = if ofB (hexL y) = nm then some o else none):=ah (by rw [HRL2.out,hrd,HY.out hrd])
    have hok:=HRO.out hrd
    subst hok
    have f0:((ofB (hexL y)).toList != nm.toList) = !decide (ofB (hexL y) = nm):=by rw [bne,iG]
    clear hrd HRO HY HOC
    go_wp2_with (refine aG rfl 24 _ rfl w5.heap.size 0 rfl ci _ r6 underlying24 rfl h32 ?_)
    refine HNM.out.mono ?_
    rintro e w7 ⟨rfl,hb7⟩
    have HX7:=ah (HX6.out.below hb7)
    have HB7:=bth HB6 hb7
    have HOX7:=ah (HOX6.out.below hb7)
    clear hb7 r6 h32 HNM
    by_cases hnm:ofB (hexL y) = nm
    ·have f1:((ofB (hexL y)).toList == nm.toList) = true:=by rw [iG,decide_eq_true hnm]
     clear f0
     have HYE:Hid (rdLo nm b = some o):=ah (by rw [HRL3.out,if_pos hnm])
     clear hnm HRL3
     generalize ofB (hexL y) = t at f1
     have hth:w7.there w.heap.size 0 2:=HX7.out.there
     have h2r:(prog.info? 40).map (·.size) = some (co:List Value).length:=by rw [HOCL.out];exact aF
     obtain ⟨WE,hWE⟩:∃ WE,w7.setCells w.heap.size 0 co = WE:=⟨_,rfl⟩
     have HRE:Hid (BoxL WE w.heap.size 40 co):=ah (by rw [← hWE];exact HX7.out.set (by rw [HOCL.out];rfl))
     have HBE:Hid (Below w.heap.size w WE):=ah (by rw [← hWE];exact below_setCells _ (Nat.le_refl _) _ _ _ HB7.out)
     have HWE:=ah hWE
     clear hWE
     have r7:=HOX7.out.range
     go_wp2_with (first
      | refine wpList_load_mid rfl 40 _ rfl w3.heap.size 0 rfl co _ r7 underlying40 rfl h2o ?_
      | (refine aj rfl 40 _ _ rfl w.heap.size 0 co rfl rfl 2 HOCL.out hth HIO.out HOC1.out ?_;rw [HWE.out]))
     have hre:=HRE.out.range
     (try simp only [Exit.inBlock,Exit.then])
     refine aB rfl w.heap.size 0 rfl co _ hre underlying40 rfl h2r rfl _ rfl ?_
     exact y9 HYE.out HCO.out HBE.out
    have f1:((ofB (hexL y)).toList == nm.toList) = false:=by rw [iG,decide_eq_false hnm]
    clear f0
    have HNO:Hid (rdLo nm b = none):=ah (by rw [HRL3.out,if_neg hnm])
    clear hnm HRL3
    generalize ofB (hexL y) = t at f1
    go_upto_region 6 with fail
    have hth:w7.there w.heap.size 0 2:=HX7.out.there
    have h2r:(prog.info? 40).map (·.size) = some ([.int .i64 0,.string ⟨#[]⟩]:List Value).length:=aF
    obtain ⟨WE,hWE⟩:∃ WE,w7.setCells w.heap.size 0 [.int .i64 0,.string ⟨#[]⟩] = WE:=⟨_,rfl⟩
    have HRE:Hid (BoxL WE w.heap.size 40 [.int .i64 0,.string ⟨#[]⟩]):=ah (by rw [← hWE];exact HX7.out.set rfl)
    have HBE:Hid (Below w.heap.size w WE):=ah (by rw [← hWE];exact below_setCells _ (Nat.le_refl _) _ _ _ HB7.out)
    have HWE:=ah hWE
    clear hWE
    go_wp2_with (refine aj rfl 40 _ _ rfl w.heap.size 0 [.int .i64 0,.string ⟨#[]⟩] rfl rfl 2 rfl hth HIO.out (by intro v hv;simp at hv;rcases hv with rfl | rfl <;> rfl) ?_;rw [HWE.out])
    have hre:=HRE.out.range
    (try simp only [Exit.inBlock,Exit.then])
    refine aB rfl w.heap.size 0 rfl [.int .i64 0,.string ⟨#[]⟩] _ hre underlying40 rfl h2r rfl _ rfl ?_
    exact ig HNO.out HBE.out
   have HNO:Hid (rdLo nm b = none):=ah (by rw [HRL2.out,hrd])
   clear r6 h32 hrd
   go_upto_region 6 with fail
   have hth:W6.there w.heap.size 0 2:=HX6.out.there
   have h2r:(prog.info? 40).map (·.size) = some ([.int .i64 0,.string ⟨#[]⟩]:List Value).length:=aF
   obtain ⟨WE,hWE⟩:∃ WE,W6.setCells w.heap.size 0 [.int .i64 0,.string ⟨#[]⟩] = WE:=⟨_,rfl⟩
   have HRE:Hid (BoxL WE w.heap.size 40 [.int .i64 0,.string ⟨#[]⟩]):=ah (by rw [← hWE];exact HX6.out.set rfl)
   have HBE:Hid (Below w.heap.size w WE):=ah (by rw [← hWE];exact below_setCells _ (Nat.le_refl _) _ _ _ HB6.out)
   have HWE:=ah hWE
   clear hWE
   go_wp2_with (refine aj rfl 40 _ _ rfl w.heap.size 0 [.int .i64 0,.string ⟨#[]⟩] rfl rfl 2 rfl hth HIO.out (by intro v hv;simp at hv;rcases hv with rfl | rfl <;> rfl) ?_;rw [HWE.out])
   have hre:=HRE.out.range
   (try simp only [Exit.inBlock,Exit.then])
   refine aB rfl w.heap.size 0 rfl [.int .i64 0,.string ⟨#[]⟩] _ hre underlying40 rfl h2r rfl _ rfl ?_
   exact ig HNO.out HBE.out
end
end Go.Proofs.YtijhemdnajlfnaaGreatDoor

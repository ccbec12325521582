/- A part of this claim. -/
import Derived.Laws.ComplexArith
import Derived.Laws.FloatArith
namespace Go.Proofs.YtijhemdnajlfnaaGreatDoor
set_option maxHeartbeats 64000000
set_option maxRecDepth 100000
section
namespace Fl
open Ieee
def fb (n:Int):Nat:=double.write (.number (decide (n < 0)) n.natAbs 0)
theorem nW:double.leastPlace = -1074:=by decide
theorem zQ:double.binade = 4503599627370496:=by decide
theorem vR:double.infRung = 2047 * 4503599627370496:=by decide
theorem xK:double.signWeight = 9223372036854775808:=by decide
theorem Dr:double.fractionBits = 52:=rfl
theorem N8:fb 0 = 0:=by decide
theorem mJ (m:Nat) (h:m ≠ 0):2 ^ m.log2 ≤ m ∧ m < 2 ^ (m.log2 + 1) :=
 ⟨Nat.log2_self_le h,Nat.lt_log2_self⟩
theorem oI (m k:Nat) (h:m ≠ 0):(m * 2 ^ k).log2 = m.log2 + k:=by
 have hp:0 < 2 ^ k:=Nat.two_pow_pos k
 have h':m * 2 ^ k ≠ 0:=Nat.mul_ne_zero h (by omega)
 obtain ⟨a,b⟩:=mJ m h
 rw [Nat.log2_eq_iff h']
 constructor
 ·rw [Nat.pow_add];exact Nat.mul_le_mul_right _ a
 rw [show m.log2 + k + 1 = (m.log2 + 1) + k from by omega,Nat.pow_add];exact Nat.mul_lt_mul_of_pos_right b hp
theorem zK (s:Bool) (m d:Nat) (hd:d ≤ (m * 2 ^ d).log2 + 2):Toward.even.cut s (m * 2 ^ d) d = m:=by
 have hp:0 < 2 ^ d:=Nat.two_pow_pos d
 unfold Toward.cut
 rw [Nat.min_eq_left hd]
 simp only [Nat.one_shiftLeft]
 rw [Nat.mul_div_cancel _ hp,Nat.mul_mod_left]
 have h1:¬ 2 ^ d < 2 * 0:=by omega
 have h2:¬ 2 ^ d = 2 * 0:=by omega
 simp
theorem wW (s:Bool) (m d:Nat) (hd:d ≤ (m * 2 ^ d).log2 + 2):Toward.zero.cut s (m * 2 ^ d) d = m:=by
 have hp:0 < 2 ^ d:=Nat.two_pow_pos d
 unfold Toward.cut
 rw [Nat.min_eq_left hd]
 simp only [Nat.one_shiftLeft]
 rw [Nat.mul_div_cancel _ hp]
 simp
theorem za (m:Nat) (h0:m ≠ 0) (h:m < 2 ^ 53):m.log2 ≤ 52:=by
 have:=(Nat.log2_lt h0).2 h
 omega
theorem xR (s:Bool) (m k:Nat) (h0:m ≠ 0) (h:m < 2 ^ 53) :
  double.nearest s (m * 2 ^ k) (-(k:Int)) = double.word s ((m.log2 + 1022) * 4503599627370496 + m * 2 ^ (52 - m.log2)):=by
 have hl:=za m h0 h
 have hp:0 < 2 ^ k:=Nat.two_pow_pos k
 have h':m * 2 ^ k ≠ 0:=Nat.mul_ne_zero h0 (by omega)
 unfold Format.nearest
 rw [if_neg h']
 rw [oI m k h0,nW,zQ,vR,Dr]
 have e1:max (-(k:Int) + ((m.log2 + k:Nat):Int) - ((52:Nat):Int)) (-1074) = (m.log2:Int) - 52:=by omega
 dsimp only
 rw [e1]
 have hb:m * 2 ^ (52 - m.log2) < 2 ^ 53:=by
  have hb1:=(mJ m h0).2
  calc m * 2 ^ (52 - m.log2) < 2 ^ (m.log2 + 1) * 2 ^ (52 - m.log2):=Nat.mul_lt_mul_of_pos_right hb1 (Nat.two_pow_pos _)
   _ = 2 ^ 53:=by rw [← Nat.pow_add];congr 1;omega
 have hk:Toward.even.cut s ((m * 2 ^ k) <<< (-(k:Int) - ((m.log2:Int) - 52)).toNat) ((m.log2:Int) - 52 - (-(k:Int))).toNat = m * 2 ^ (52 - m.log2):=by
  by_cases c:m.log2 + k ≤ 52
  ·rw [show ((m.log2:Int) - 52 - (-(k:Int))).toNat = 0 from by omega,show (-(k:Int) - ((m.log2:Int) - 52)).toNat = 52 - m.log2 - k from by omega]
   rw [Nat.shiftLeft_eq,Nat.mul_assoc,← Nat.pow_add,show k + (52 - m.log2 - k) = 52 - m.log2 from by omega]
   have:=zK s (m * 2 ^ (52 - m.log2)) 0 (by omega)
   simpa using this
  rw [show (-(k:Int) - ((m.log2:Int) - 52)).toNat = 0 from by omega,show ((m.log2:Int) - 52 - (-(k:Int))).toNat = m.log2 + k - 52 from by omega]
  rw [Nat.shiftLeft_zero]
  have e:m * 2 ^ k = m * 2 ^ (52 - m.log2) * 2 ^ (m.log2 + k - 52):=by
   rw [Nat.mul_assoc,← Nat.pow_add,show 52 - m.log2 + (m.log2 + k - 52) = k from by omega]
  rw [e]
  refine zK s _ _ ?_
  rw [← e,oI m k h0];omega
 rw [hk]
 rw [show ((m.log2:Int) - 52 - -1074).toNat = m.log2 + 1022 from by omega]
 congr 1
 refine Nat.min_eq_left ?_
 omega
theorem fb_pos (n:Int) (h0:n ≠ 0) (h:n.natAbs < 2 ^ 53) :
  fb n = double.word (decide (n < 0)) ((n.natAbs.log2 + 1022) * 4503599627370496 + n.natAbs * 2 ^ (52 - n.natAbs.log2)):=by
 have:=xR (decide (n < 0)) n.natAbs 0 (by omega) h
 simpa [fb,Format.write] using this
theorem Bl (i:Nat):0 = (0:Int).natAbs * 2 ^ i:=(Nat.zero_mul _).symm
theorem Ao (n:Int) (h:n.natAbs < 2 ^ 53):∃ M i:Nat,i ≤ 1074 ∧ M = n.natAbs * 2 ^ i ∧ double.read (fb n) = .number (decide (n < 0)) M (-(i:Int)):=by
 by_cases h0:n = 0
 ·subst h0;exact ⟨0,1074,by omega,Bl 1074,by rw [N8];decide⟩
 have hn0:n.natAbs ≠ 0:=by omega
 have hl:=za _ hn0 h
 refine ⟨n.natAbs * 2 ^ (52 - n.natAbs.log2),52 - n.natAbs.log2,by omega,rfl,?_⟩
 rw [fb_pos n h0 h]
 obtain ⟨b1,b2⟩:=mJ _ hn0
 have c1:2 ^ 52 ≤ n.natAbs * 2 ^ (52 - n.natAbs.log2):=by
  calc 2 ^ 52 = 2 ^ n.natAbs.log2 * 2 ^ (52 - n.natAbs.log2):=by rw [← Nat.pow_add];congr 1;omega
   _ ≤ _:=Nat.mul_le_mul_right _ b1
 have c2:n.natAbs * 2 ^ (52 - n.natAbs.log2) < 2 ^ 53:=by
  calc _ < 2 ^ (n.natAbs.log2 + 1) * 2 ^ (52 - n.natAbs.log2):=Nat.mul_lt_mul_of_pos_right b2 (Nat.two_pow_pos _)
   _ = 2 ^ 53:=by rw [← Nat.pow_add];congr 1;omega
 generalize n.natAbs * 2 ^ (52 - n.natAbs.log2) = K at c1 c2 ⊢
 generalize n.natAbs.log2 = L at hl ⊢
 unfold Format.read Format.word
 rw [xK,zQ,vR,nW]
 have e1:((if decide (n < 0) = true then 9223372036854775808 + ((L + 1022) * 4503599627370496 + K) else (L + 1022) * 4503599627370496 + K) / 9223372036854775808 % 2 == 1) = decide (n < 0):=by
  by_cases hn:n < 0
  ·simp [hn];omega
  simp [hn];omega
 have e2:(if decide (n < 0) = true then 9223372036854775808 + ((L + 1022) * 4503599627370496 + K) else (L + 1022) * 4503599627370496 + K) % 9223372036854775808 = (L + 1022) * 4503599627370496 + K:=by
  split <;> omega
 dsimp only
 rw [e1,e2,if_neg (by omega),if_pos (by omega)]
 have e3:4503599627370496 + ((L + 1022) * 4503599627370496 + K) % 4503599627370496 = K:=by omega
 have e4:(-1074:Int) + ((((L + 1022) * 4503599627370496 + K) / 4503599627370496 - 1:Nat):Int) = -((52 - L:Nat):Int):=by omega
 rw [e3,e4]
theorem yw (n:Int) (M i:Nat) (hM:M = n.natAbs * 2 ^ i) (b:Nat) (hb:i ≤ b):signed (decide (n < 0)) M (-(i:Int) - -(b:Int)).toNat = n * 2 ^ b:=by
 have e:(-(i:Int) - -(b:Int)).toNat = b - i:=by omega
 rw [e,hM]
 unfold signed
 rw [Nat.shiftLeft_eq,Nat.mul_assoc,← Nat.pow_add,show i + (b - i) = b from by omega]
 by_cases hn:n < 0
 ·simp only [hn,decide_true,if_true]
  rw [Int.natCast_mul,Int.natCast_pow,← Int.neg_mul];congr 1;omega
 simp only [hn,decide_false,Bool.false_eq_true,if_false]
 rw [Int.natCast_mul,Int.natCast_pow];congr 1;omega
theorem NJ (i j:Nat):min (-(i:Int)) (-(j:Int)) = -((max i j:Nat):Int):=by omega
theorem vv (m n:Int) (hm:m.natAbs < 2 ^ 53) (hn:n.natAbs < 2 ^ 53):double.order (fb m) (fb n) = some (compare m n):=by
 obtain ⟨M,i,hi,eM,rm⟩:=Ao m hm
 obtain ⟨N,j,hj,eN,rn⟩:=Ao n hn
 unfold Format.order
 rw [rm,rn]
 simp only [Datum.order]
 rw [NJ,yw m M i eM _ (Nat.le_max_left ..),yw n N j eN _ (Nat.le_max_right ..)]
 congr 1
 generalize max i j = k
 have hp:(0:Int) < 2 ^ k:=Int.pow_pos (by decide)
 rcases Int.lt_trichotomy m n with h | h | h
 ·rw [Int.compare_eq_lt.2 h,Int.compare_eq_lt.2 (Int.mul_lt_mul_of_pos_right h hp)]
 ·subst h;simp
 rw [Int.compare_eq_gt.2 h,Int.compare_eq_gt.2 (Int.mul_lt_mul_of_pos_right h hp)]
theorem Kz (n:Int) (h:n.natAbs < 2 ^ 53):(double.read (fb n)).toInt .zero = some n:=by
 obtain ⟨M,i,hi,eM,rm⟩:=Ao n h
 rw [rm]
 simp only [Datum.toInt,Datum.integral]
 have e1:(-(i:Int)).toNat = 0:=by omega
 have e2:(- -(i:Int)).toNat = i:=by omega
 rw [e1,e2,Nat.shiftLeft_zero]
 have hc:Toward.zero.cut (decide (n < 0)) M i = n.natAbs:=by
  rw [eM]
  by_cases h0:n = 0
  ·subst h0;simp [Toward.cut]
  refine wW _ _ _ ?_
  rw [oI _ _ (by omega)];omega
 rw [hc]
 unfold signed
 simp only [Nat.shiftLeft_zero]
 by_cases hn:n < 0
 ·simp [hn];omega
 simp [hn];omega
end Fl
end
end Go.Proofs.YtijhemdnajlfnaaGreatDoor

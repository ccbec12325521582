/- Whole numbers as floats of 64 bits: sums, differences, orders and the way back are exact below 2^53. -/
import Derived.Laws.FloatArith
import Derived.Laws.ComplexArith
namespace Go.Proofs.Ytjgmfhfncphbnaa.Fl
open Ieee

/-- The bits of a whole number. -/
def fb (n : Int) : Nat := double.write (.number (decide (n < 0)) n.natAbs 0)

theorem leastPlace_eq : double.leastPlace = -1074 := by decide
theorem binade_eq : double.binade = 4503599627370496 := by decide
theorem infRung_eq : double.infRung = 2047 * 4503599627370496 := by decide
theorem signWeight_eq : double.signWeight = 9223372036854775808 := by decide
theorem fraction_eq : double.fractionBits = 52 := rfl

theorem fb_zero : fb 0 = 0 := by decide

theorem log2_bounds (m : Nat) (h : m ≠ 0) : 2 ^ m.log2 ≤ m ∧ m < 2 ^ (m.log2 + 1) :=
  ⟨Nat.log2_self_le h, Nat.lt_log2_self⟩

theorem log2_scale (m k : Nat) (h : m ≠ 0) : (m * 2 ^ k).log2 = m.log2 + k := by
  have hp : 0 < 2 ^ k := Nat.two_pow_pos k
  have h' : m * 2 ^ k ≠ 0 := Nat.mul_ne_zero h (by omega)
  obtain ⟨a, b⟩ := log2_bounds m h
  rw [Nat.log2_eq_iff h']
  constructor
  · rw [Nat.pow_add]; exact Nat.mul_le_mul_right _ a
  · rw [show m.log2 + k + 1 = (m.log2 + 1) + k from by omega, Nat.pow_add]; exact Nat.mul_lt_mul_of_pos_right b hp

theorem cut_exact (s : Bool) (m d : Nat) (hd : d ≤ (m * 2 ^ d).log2 + 2) : Toward.even.cut s (m * 2 ^ d) d = m := by
  have hp : 0 < 2 ^ d := Nat.two_pow_pos d
  unfold Toward.cut
  rw [Nat.min_eq_left hd]
  simp only [Nat.one_shiftLeft]
  rw [Nat.mul_div_cancel _ hp, Nat.mul_mod_left]
  have h1 : ¬ 2 ^ d < 2 * 0 := by omega
  have h2 : ¬ 2 ^ d = 2 * 0 := by omega
  simp

theorem cut_exact_zero (s : Bool) (m d : Nat) (hd : d ≤ (m * 2 ^ d).log2 + 2) : Toward.zero.cut s (m * 2 ^ d) d = m := by
  have hp : 0 < 2 ^ d := Nat.two_pow_pos d
  unfold Toward.cut
  rw [Nat.min_eq_left hd]
  simp only [Nat.one_shiftLeft]
  rw [Nat.mul_div_cancel _ hp]
  simp

theorem log2_lt53 (m : Nat) (h0 : m ≠ 0) (h : m < 2 ^ 53) : m.log2 ≤ 52 := by
  have := (Nat.log2_lt h0).2 h
  omega

/-- The word of a number that is there exactly, at whatever scale. -/
theorem nearest_scale (s : Bool) (m k : Nat) (h0 : m ≠ 0) (h : m < 2 ^ 53) :
    double.nearest s (m * 2 ^ k) (-(k : Int)) = double.word s ((m.log2 + 1022) * 4503599627370496 + m * 2 ^ (52 - m.log2)) := by
  have hl := log2_lt53 m h0 h
  have hp : 0 < 2 ^ k := Nat.two_pow_pos k
  have h' : m * 2 ^ k ≠ 0 := Nat.mul_ne_zero h0 (by omega)
  unfold Format.nearest
  rw [if_neg h']
  rw [log2_scale m k h0, leastPlace_eq, binade_eq, infRung_eq, fraction_eq]
  have e1 : max (-(k : Int) + ((m.log2 + k : Nat) : Int) - ((52 : Nat) : Int)) (-1074) = (m.log2 : Int) - 52 := by omega
  dsimp only
  rw [e1]
  have hb : m * 2 ^ (52 - m.log2) < 2 ^ 53 := by
    have hb1 := (log2_bounds m h0).2
    calc m * 2 ^ (52 - m.log2) < 2 ^ (m.log2 + 1) * 2 ^ (52 - m.log2) := Nat.mul_lt_mul_of_pos_right hb1 (Nat.two_pow_pos _)
      _ = 2 ^ 53 := by rw [← Nat.pow_add]; congr 1; omega
  have hk : Toward.even.cut s ((m * 2 ^ k) <<< (-(k : Int) - ((m.log2 : Int) - 52)).toNat) ((m.log2 : Int) - 52 - (-(k : Int))).toNat = m * 2 ^ (52 - m.log2) := by
    by_cases c : m.log2 + k ≤ 52
    · rw [show ((m.log2 : Int) - 52 - (-(k : Int))).toNat = 0 from by omega, show (-(k : Int) - ((m.log2 : Int) - 52)).toNat = 52 - m.log2 - k from by omega]
      rw [Nat.shiftLeft_eq, Nat.mul_assoc, ← Nat.pow_add, show k + (52 - m.log2 - k) = 52 - m.log2 from by omega]
      have := cut_exact s (m * 2 ^ (52 - m.log2)) 0 (by omega)
      simpa using this
    · rw [show (-(k : Int) - ((m.log2 : Int) - 52)).toNat = 0 from by omega, show ((m.log2 : Int) - 52 - (-(k : Int))).toNat = m.log2 + k - 52 from by omega]
      rw [Nat.shiftLeft_zero]
      have e : m * 2 ^ k = m * 2 ^ (52 - m.log2) * 2 ^ (m.log2 + k - 52) := by
        rw [Nat.mul_assoc, ← Nat.pow_add, show 52 - m.log2 + (m.log2 + k - 52) = k from by omega]
      rw [e]
      refine cut_exact s _ _ ?_
      rw [← e, log2_scale m k h0]; omega
  rw [hk]
  rw [show ((m.log2 : Int) - 52 - -1074).toNat = m.log2 + 1022 from by omega]
  congr 1
  refine Nat.min_eq_left ?_
  omega

theorem fb_pos (n : Int) (h0 : n ≠ 0) (h : n.natAbs < 2 ^ 53) :
    fb n = double.word (decide (n < 0)) ((n.natAbs.log2 + 1022) * 4503599627370496 + n.natAbs * 2 ^ (52 - n.natAbs.log2)) := by
  have := nearest_scale (decide (n < 0)) n.natAbs 0 (by omega) h
  simpa [fb, Format.write] using this

theorem write_scale (n : Int) (k : Nat) (h : n.natAbs < 2 ^ 53) : double.write (.number (decide (n < 0)) (n.natAbs * 2 ^ k) (-(k : Int))) = fb n := by
  by_cases h0 : n = 0
  · subst h0; simp [Format.write, fb, Format.nearest]
  · rw [fb_pos n h0 h]
    exact nearest_scale _ _ _ (by omega) h

theorem zero_scaled (i : Nat) : 0 = (0 : Int).natAbs * 2 ^ i := (Nat.zero_mul _).symm

/-- What the bits of a whole number stand for. -/
theorem read_fb (n : Int) (h : n.natAbs < 2 ^ 53) : ∃ M i : Nat, i ≤ 1074 ∧ M = n.natAbs * 2 ^ i ∧ double.read (fb n) = .number (decide (n < 0)) M (-(i : Int)) := by
  by_cases h0 : n = 0
  · subst h0; exact ⟨0, 1074, by omega, zero_scaled 1074, by rw [fb_zero]; decide⟩
  · have hn0 : n.natAbs ≠ 0 := by omega
    have hl := log2_lt53 _ hn0 h
    refine ⟨n.natAbs * 2 ^ (52 - n.natAbs.log2), 52 - n.natAbs.log2, by omega, rfl, ?_⟩
    rw [fb_pos n h0 h]
    obtain ⟨b1, b2⟩ := log2_bounds _ hn0
    have c1 : 2 ^ 52 ≤ n.natAbs * 2 ^ (52 - n.natAbs.log2) := by
      calc 2 ^ 52 = 2 ^ n.natAbs.log2 * 2 ^ (52 - n.natAbs.log2) := by rw [← Nat.pow_add]; congr 1; omega
        _ ≤ _ := Nat.mul_le_mul_right _ b1
    have c2 : n.natAbs * 2 ^ (52 - n.natAbs.log2) < 2 ^ 53 := by
      calc _ < 2 ^ (n.natAbs.log2 + 1) * 2 ^ (52 - n.natAbs.log2) := Nat.mul_lt_mul_of_pos_right b2 (Nat.two_pow_pos _)
        _ = 2 ^ 53 := by rw [← Nat.pow_add]; congr 1; omega
    generalize n.natAbs * 2 ^ (52 - n.natAbs.log2) = K at c1 c2 ⊢
    generalize n.natAbs.log2 = L at hl ⊢
    unfold Format.read Format.word
    rw [signWeight_eq, binade_eq, infRung_eq, leastPlace_eq]
    have e1 : ((if decide (n < 0) = true then 9223372036854775808 + ((L + 1022) * 4503599627370496 + K) else (L + 1022) * 4503599627370496 + K) / 9223372036854775808 % 2 == 1) = decide (n < 0) := by
      by_cases hn : n < 0
      · simp [hn]; omega
      · simp [hn]; omega
    have e2 : (if decide (n < 0) = true then 9223372036854775808 + ((L + 1022) * 4503599627370496 + K) else (L + 1022) * 4503599627370496 + K) % 9223372036854775808 = (L + 1022) * 4503599627370496 + K := by
      split <;> omega
    dsimp only
    rw [e1, e2, if_neg (by omega), if_pos (by omega)]
    have e3 : 4503599627370496 + ((L + 1022) * 4503599627370496 + K) % 4503599627370496 = K := by omega
    have e4 : (-1074 : Int) + ((((L + 1022) * 4503599627370496 + K) / 4503599627370496 - 1 : Nat) : Int) = -((52 - L : Nat) : Int) := by omega
    rw [e3, e4]

theorem signed_eq (n : Int) (M i : Nat) (hM : M = n.natAbs * 2 ^ i) (b : Nat) (hb : i ≤ b) : signed (decide (n < 0)) M (-(i : Int) - -(b : Int)).toNat = n * 2 ^ b := by
  have e : (-(i : Int) - -(b : Int)).toNat = b - i := by omega
  rw [e, hM]
  unfold signed
  rw [Nat.shiftLeft_eq, Nat.mul_assoc, ← Nat.pow_add, show i + (b - i) = b from by omega]
  by_cases hn : n < 0
  · simp only [hn, decide_true, if_true]
    rw [Int.natCast_mul, Int.natCast_pow, ← Int.neg_mul]; congr 1; omega
  · simp only [hn, decide_false, Bool.false_eq_true, if_false]
    rw [Int.natCast_mul, Int.natCast_pow]; congr 1; omega

theorem natAbs_scale (n : Int) (k : Nat) : (n * 2 ^ k).natAbs = n.natAbs * 2 ^ k := by
  rw [Int.natAbs_mul, Int.natAbs_pow]; rfl

theorem lt_scale (n : Int) (k : Nat) : decide (n * 2 ^ k < 0) = decide (n < 0) := by
  have hp : (0 : Int) < 2 ^ k := Int.pow_pos (by decide)
  congr 1
  refine propext ⟨fun h => ?_, fun h => Int.mul_neg_of_neg_of_pos h hp⟩
  exact Int.lt_of_not_ge fun hn => absurd (Int.mul_nonneg hn (Int.le_of_lt hp)) (by omega)

theorem zero_scale (n : Int) (k : Nat) : n * 2 ^ k = 0 ↔ n = 0 := by
  have hp : (0 : Int) < 2 ^ k := Int.pow_pos (by decide)
  constructor
  · intro h; rcases Int.mul_eq_zero.1 h with h | h
    · exact h
    · omega
  · intro h; rw [h, Int.zero_mul]

theorem min_neg (i j : Nat) : min (-(i : Int)) (-(j : Int)) = -((max i j : Nat) : Int) := by omega

theorem add_fb (m n : Int) (hm : m.natAbs < 2 ^ 52) (hn : n.natAbs < 2 ^ 52) : double.add (fb m) (fb n) = some (fb (m + n)) := by
  obtain ⟨M, i, hi, eM, rm⟩ := read_fb m (by omega)
  obtain ⟨N, j, hj, eN, rn⟩ := read_fb n (by omega)
  unfold Format.add
  rw [rm, rn]
  simp only [Datum.sum, Option.map_some]
  rw [min_neg, signed_eq m M i eM _ (Nat.le_max_left ..), signed_eq n N j eN _ (Nat.le_max_right ..), ← Int.add_mul, natAbs_scale, lt_scale]
  congr 1
  rw [← write_scale (m + n) (max i j) (by omega)]
  congr 2
  split
  · rename_i h0
    have h0 := (zero_scale _ _).1 h0
    by_cases h1 : m < 0 <;> by_cases h2 : n < 0 <;> simp [h1, h2] <;> omega
  · rfl

theorem opp_fb (n : Int) (N j : Nat) : (Datum.number (decide (n < 0)) N (-(j : Int))).opposite = .number (!decide (n < 0)) N (-(j : Int)) := rfl

theorem signed_not (s : Bool) (m k : Nat) : signed (!s) m k = - signed s m k := by
  cases s <;> simp [signed]

theorem sub_fb (m n : Int) (hm : m.natAbs < 2 ^ 52) (hn : n.natAbs < 2 ^ 52) : double.sub (fb m) (fb n) = some (fb (m - n)) := by
  obtain ⟨M, i, hi, eM, rm⟩ := read_fb m (by omega)
  obtain ⟨N, j, hj, eN, rn⟩ := read_fb n (by omega)
  unfold Format.sub
  rw [rm, rn, opp_fb]
  simp only [Datum.sum, Option.map_some]
  rw [min_neg, signed_not, signed_eq m M i eM _ (Nat.le_max_left ..), signed_eq n N j eN _ (Nat.le_max_right ..), ← Int.sub_eq_add_neg, ← Int.sub_mul, natAbs_scale, lt_scale]
  congr 1
  rw [← write_scale (m - n) (max i j) (by omega)]
  congr 2
  split
  · rename_i h0
    have h0 := (zero_scale _ _).1 h0
    by_cases h1 : m < 0 <;> by_cases h2 : n < 0 <;> simp [h1, h2] <;> omega
  · rfl

theorem order_fb (m n : Int) (hm : m.natAbs < 2 ^ 53) (hn : n.natAbs < 2 ^ 53) : double.order (fb m) (fb n) = some (compare m n) := by
  obtain ⟨M, i, hi, eM, rm⟩ := read_fb m hm
  obtain ⟨N, j, hj, eN, rn⟩ := read_fb n hn
  unfold Format.order
  rw [rm, rn]
  simp only [Datum.order]
  rw [min_neg, signed_eq m M i eM _ (Nat.le_max_left ..), signed_eq n N j eN _ (Nat.le_max_right ..)]
  congr 1
  generalize max i j = k
  have hp : (0 : Int) < 2 ^ k := Int.pow_pos (by decide)
  rcases Int.lt_trichotomy m n with h | h | h
  · rw [Int.compare_eq_lt.2 h, Int.compare_eq_lt.2 (Int.mul_lt_mul_of_pos_right h hp)]
  · subst h; simp
  · rw [Int.compare_eq_gt.2 h, Int.compare_eq_gt.2 (Int.mul_lt_mul_of_pos_right h hp)]

theorem toInt_fb (n : Int) (h : n.natAbs < 2 ^ 53) : (double.read (fb n)).toInt .zero = some n := by
  obtain ⟨M, i, hi, eM, rm⟩ := read_fb n h
  rw [rm]
  simp only [Datum.toInt, Datum.integral]
  have e1 : (-(i : Int)).toNat = 0 := by omega
  have e2 : (- -(i : Int)).toNat = i := by omega
  rw [e1, e2, Nat.shiftLeft_zero]
  have hc : Toward.zero.cut (decide (n < 0)) M i = n.natAbs := by
    rw [eM]
    by_cases h0 : n = 0
    · subst h0; simp [Toward.cut]
    · refine cut_exact_zero _ _ _ ?_
      rw [log2_scale _ _ (by omega)]; omega
  rw [hc]
  unfold signed
  simp only [Nat.shiftLeft_zero]
  by_cases hn : n < 0
  · simp [hn]; omega
  · simp [hn]; omega

theorem fb_inj (m n : Int) (hm : m.natAbs < 2 ^ 53) (hn : n.natAbs < 2 ^ 53) : fb m = fb n ↔ m = n := by
  constructor
  · intro h
    have a := toInt_fb m hm
    rw [h, toInt_fb n hn] at a
    exact (Option.some.inj a).symm
  · rintro rfl; rfl

end Go.Proofs.Ytjgmfhfncphbnaa.Fl

/- Walks: small functions. -/
import Derived.Test.YtjgmfhfncphbnaaChecked
import Derived.Test.YtjgmfhfncphbnaaFl
import Derived.WalkKit
import Derived.WalkLawsBesides
import Derived.WalkSpells
import Derived.Outline
import Derived.IntWalk
import Derived.Below
import Derived.KernelRfl
import Derived.LoopN
import Derived.Deep.QuietTactic
import Derived.BigQuiet
import Derived.Lib.Hide
namespace Go.Proofs.Ytjgmfhfncphbnaa
open Go.RowKit Fl

@[go_sem] theorem run_store_complex {P : Program} (w : World) (a : Addr) (m : Mode) (k : FloatKind) (x y : Nat) : (store a (.complex k x y) m).run P w = stored P w a (.complex k x y) m := run_store P w a _ m rfl

theorem xor63 (x K : Nat) (hx : x ≤ 1) (hK : K < 2 ^ 63) : (x * 2 ^ 63 + K) ^^^ 2 ^ 63 = (1 - x) * 2 ^ 63 + K := by
  have h1 : ((x * 2 ^ 63 + K) ^^^ 2 ^ 63) / 2 ^ 63 = 1 - x := by
    rw [Nat.xor_div_two_pow, show (x * 2 ^ 63 + K) / 2 ^ 63 = x from by omega, show 2 ^ 63 / 2 ^ 63 = 1 from by omega]
    rcases (by omega : x = 0 ∨ x = 1) with rfl | rfl <;> rfl
  have h2 : ((x * 2 ^ 63 + K) ^^^ 2 ^ 63) % 2 ^ 63 = K := by
    rw [Nat.xor_mod_two_pow, show (x * 2 ^ 63 + K) % 2 ^ 63 = K from by omega, Nat.mod_self, Nat.xor_zero]
  omega

theorem neg_fb (n : Int) (h0 : n ≠ 0) (h : n.natAbs < 2 ^ 53) : Op.negFloat .f64 (fb n) = fb (-n) := by
  rw [fb_pos n h0 h, fb_pos (-n) (by omega) (by omega)]
  have hb : (n.natAbs.log2 + 1022) * 4503599627370496 + n.natAbs * 2 ^ (52 - n.natAbs.log2) < 9223372036854775808 := by
    have hl := log2_lt53 _ (by omega : n.natAbs ≠ 0) h
    have c2 : n.natAbs * 2 ^ (52 - n.natAbs.log2) < 2 ^ 53 := by
      obtain ⟨b1, b2⟩ := log2_bounds n.natAbs (by omega)
      calc _ < 2 ^ (n.natAbs.log2 + 1) * 2 ^ (52 - n.natAbs.log2) := Nat.mul_lt_mul_of_pos_right b2 (Nat.two_pow_pos _)
        _ = 2 ^ 53 := by rw [← Nat.pow_add]; congr 1; omega
    omega
  rw [Int.natAbs_neg]
  generalize (n.natAbs.log2 + 1022) * 4503599627370496 + n.natAbs * 2 ^ (52 - n.natAbs.log2) = K at hb ⊢
  unfold Ieee.Format.word Op.negFloat
  rw [signWeight_eq]
  have e : (2 : Nat) ^ (FloatKind.f64.format.exponentBits + FloatKind.f64.format.fractionBits) = 2 ^ 63 := rfl
  rw [e]
  have x0 := xor63 0 K (by omega) (by omega)
  have x1 := xor63 1 K (by omega) (by omega)
  by_cases hn : n < 0
  · have h1 : ¬ (-n < 0) := by omega
    simp only [hn, h1, decide_true, decide_false, if_true, Bool.false_eq_true, if_false]
    rw [show (9223372036854775808 : Nat) + K = 1 * 2 ^ 63 + K from by omega, x1]; omega
  · have h1 : (-n < 0) := by omega
    simp only [hn, h1, decide_true, decide_false, if_true, Bool.false_eq_true, if_false]
    rw [show K = 0 * 2 ^ 63 + K from by omega, x0]; omega

theorem convert_fb (n : Int) (h : n.natAbs < 2 ^ 53) (w : World) : (convert 51 3 (.float .f64 (fb n))).run Try.prog w = .ok (.int .i64 n) w :=
  run_convert_float_int w 51 3 .f64 .i64 _ _ (by rw [Try.underlying51]; rfl) Try.underlying3 (by
    unfold floatToIntVal
    have : FloatKind.f64.decode (fb n) = Ieee.double.read (fb n) := rfl
    rw [this, toInt_fb n h]
    have h1 : IntKind.i64.min ≤ n := by show (-9223372036854775808 : Int) ≤ n; omega
    have h2 : n ≤ IntKind.i64.max := by show n ≤ (9223372036854775807 : Int); omega
    simp only [h1, h2, and_self, if_true])

theorem ret_int {k : IntKind} {a b : Int} (h : a = b) : Ending.returned (.int k a) = .returned (.int k b) := by rw [h]

theorem size_any (n : Int) (w : World) (h : n.natAbs < 1000000000) :
    Calls Try.prog 24 #[.float .f64 (fb n)] w fun e w' => e = .returned (.int .i64 n.natAbs) ∧ w = w' := by
  have ho : FloatKind.f64.format.order (fb n) 0 = some (compare n 0) := by
    have := order_fb n 0 (by omega) (by decide)
    rwa [fb_zero] at this
  by_cases hn : n < 0
  · have h1 : (FloatKind.f64.format.order (fb n) 0 == some Ordering.lt) = true := by rw [ho, Int.compare_eq_lt.2 hn]; rfl
    have hg : ∀ w, (Op.unary .neg (.float .f64 (fb n))).run Try.prog w = .ok (.float .f64 (fb (-n))) w := fun w => by
      simp [Op.unary, neg_fb n (by omega) (by omega)]
    have hc := convert_fb (-n) (by omega)
    clear ho
    go_enter Try.func24, Try.ntmps24
    go_wp2
    go_ret
    exact ⟨ret_int (by omega), rfl⟩
  · have h1 : (FloatKind.f64.format.order (fb n) 0 == some Ordering.lt) = false := by
      rw [ho]
      rcases Int.lt_trichotomy n 0 with h | h | h
      · omega
      · subst h; rfl
      · rw [Int.compare_eq_gt.2 h]; rfl
    have hc := convert_fb n (by omega)
    clear ho
    go_enter Try.func24, Try.ntmps24
    go_wp2
    go_ret
    exact ⟨ret_int (by omega), rfl⟩

theorem byte_any (b : Nat) (w : World) (hb : b < 256) :
    Calls Try.prog 23 #[.int .u8 b] w fun e w' => e = .returned (.complex .f64 (fb ((b : Int) % 16)) (fb ((b : Int) / 16))) ∧ w = w' := by
  go_enter Try.func23, Try.ntmps23
  go_wp2
  go_ret
  exact ⟨rfl, rfl⟩
end Go.Proofs.Ytjgmfhfncphbnaa

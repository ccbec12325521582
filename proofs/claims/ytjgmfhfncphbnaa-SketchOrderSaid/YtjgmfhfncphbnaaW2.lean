/- Walks: functions of whole sketches. -/
import Derived.Test.YtjgmfhfncphbnaaW1
import Derived.ChangeKeysEq
namespace Go.Proofs.Ytjgmfhfncphbnaa
open Go.RowKit Fl

/-- A sketch, its eight numbers given. -/
def skv (f : Nat → Int) : Value := .agg #[.complex .f64 (fb (f 0)) (fb (f 1)), .complex .f64 (fb (f 2)) (fb (f 3)), .complex .f64 (fb (f 4)) (fb (f 5)), .complex .f64 (fb (f 6)) (fb (f 7))]
def wv (f : Nat → Int) : Value := .agg #[.int .i64 (f 0), .int .i64 (f 1), .int .i64 (f 2), .int .i64 (f 3), .int .i64 (f 4), .int .i64 (f 5), .int .i64 (f 6), .int .i64 (f 7)]
/-- All eight are small. -/
def Bd (f : Nat → Int) : Prop := ∀ i, i < 8 → 0 ≤ f i ∧ f i ≤ 400000000
def far (f g : Nat → Int) : Int := (f 0 - g 0).natAbs + (f 1 - g 1).natAbs + (f 2 - g 2).natAbs + (f 3 - g 3).natAbs + (f 4 - g 4).natAbs + (f 5 - g 5).natAbs + (f 6 - g 6).natAbs + (f 7 - g 7).natAbs

theorem add_cx (t : TypeId) (a b c d : Int) (ha : 0 ≤ a ∧ a ≤ 400000000) (hb : 0 ≤ b ∧ b ≤ 400000000) (hc : 0 ≤ c ∧ c ≤ 400000000) (hd : 0 ≤ d ∧ d ≤ 400000000) (w : World) :
    (binOp .add t (.complex .f64 (fb a) (fb b)) (.complex .f64 (fb c) (fb d))).run Try.prog w = .ok (.complex .f64 (fb (a + c)) (fb (b + d))) w :=
  run_complex_sum w .add (Or.inl rfl) t .f64 _ _ _ _ _ _ (by
    simp only [cSumBits, floatBits, FloatKind.format, add_fb a c (by omega) (by omega), add_fb b d (by omega) (by omega), Option.bind_some])

theorem sub_cx (t : TypeId) (a b c d : Int) (ha : 0 ≤ a ∧ a ≤ 400000000) (hb : 0 ≤ b ∧ b ≤ 400000000) (hc : 0 ≤ c ∧ c ≤ 400000000) (hd : 0 ≤ d ∧ d ≤ 400000000) (w : World) :
    (binOp .sub t (.complex .f64 (fb a) (fb b)) (.complex .f64 (fb c) (fb d))).run Try.prog w = .ok (.complex .f64 (fb (a - c)) (fb (b - d))) w :=
  run_complex_sum w .sub (Or.inr rfl) t .f64 _ _ _ _ _ _ (by
    simp only [cSumBits, floatBits, FloatKind.format, sub_fb a c (by omega) (by omega), sub_fb b d (by omega) (by omega), Option.bind_some])

theorem floatEq_fb (a b : Int) (ha : a.natAbs < 2 ^ 53) (hb : b.natAbs < 2 ^ 53) : Op.floatEq .f64 (fb a) (fb b) = (a == b) := by
  have : FloatKind.f64.format.order (fb a) (fb b) = some (compare a b) := order_fb a b ha hb
  unfold Op.floatEq
  rw [this]
  by_cases h : a = b
  · subst h; simp
  · rw [beq_eq_false_iff_ne.2 h, beq_eq_false_iff_ne]
    intro e
    exact h (Int.compare_eq_eq.1 (Option.some.inj e))

theorem eqIn_cx (d : Nat) (a b c e : Int) (ha : a.natAbs < 2 ^ 53) (hb : b.natAbs < 2 ^ 53) (hc : c.natAbs < 2 ^ 53) (he : e.natAbs < 2 ^ 53) (w : World) :
    (Op.equalIn (d + 1) 26 (.complex .f64 (fb a) (fb b)) (.complex .f64 (fb c) (fb e))).run Try.prog w = .ok (a == c && b == e) w := by
  simp [Op.equalIn, run_underlying Try.underlying26, floatEq_fb a c ha hc, floatEq_fb b e hb he]

theorem info26 : (Try.prog.info? 26).map (fun i => (i.zero, i.size, i.bytes)) = some (some (.complex .f64 0 0), 1, 16) := by kernel_rfl
theorem cells26 : Try.prog.cellsOf 26 = 1 := by kernel_rfl

theorem eq_sk (f g : Nat → Int) (hf : Bd f) (hg : Bd g) (w : World) : (binOp .eql 28 (skv f) (skv g)).run Try.prog w =
    .ok (.bool (f 0 == g 0 && f 1 == g 1 && (f 2 == g 2 && f 3 == g 3 && (f 4 == g 4 && f 5 == g 5 && (f 6 == g 6 && f 7 == g 7))))) w := by
  have q : ∀ i, i < 8 → (f i).natAbs < 2 ^ 53 ∧ (g i).natAbs < 2 ^ 53 := fun i hi => by have := hf i hi; have := hg i hi; omega
  obtain ⟨i0, hi, hz0, hz1, hz2⟩ := info_parts info26
  unfold skv
  rw [run_eql_struct, run_equalIn_array w 9999 _ _ Try.underlying28 hi, cells26]
  simp only [List.range_succ, List.range_zero, List.nil_append, List.cons_append, Op.eqItems]
  have p : ∀ (xs : Array Value) (k : Nat) (v : Value), xs[k]? = some v → ∀ w, (part 26 xs (k * 1)).run Try.prog w = .ok v w := by
    intro xs k v h w
    rw [Nat.mul_one]
    simp [part, isAgg, run_underlying Try.underlying26, h]
  have p0 := fun a b c d => p #[a, b, c, d] 0 a rfl
  have p1 := fun a b c d => p #[a, b, c, d] 1 b rfl
  have p2 := fun a b c d => p #[a, b, c, d] 2 c rfl
  have p3 := fun a b c d => p #[a, b, c, d] 3 d rfl
  have r : ∀ (b : Bool) (s : Sem Bool) w, Sem.run Try.prog (if (!b) = true then pure false else s) w = if b then s.run Try.prog w else .ok false w := by
    intro b s w; cases b <;> simp
  have e0 := eqIn_cx 9998 _ _ _ _ (q 0 (by omega)).1 (q 1 (by omega)).1 (q 0 (by omega)).2 (q 1 (by omega)).2
  have e1 := eqIn_cx 9998 _ _ _ _ (q 2 (by omega)).1 (q 3 (by omega)).1 (q 2 (by omega)).2 (q 3 (by omega)).2
  have e2 := eqIn_cx 9998 _ _ _ _ (q 4 (by omega)).1 (q 5 (by omega)).1 (q 4 (by omega)).2 (q 5 (by omega)).2
  have e3 := eqIn_cx 9998 _ _ _ _ (q 6 (by omega)).1 (q 7 (by omega)).1 (q 6 (by omega)).2 (q 7 (by omega)).2
  simp only [Sem.run_bind, p0, p1, p2, p3, Result.andThen_ok, e0, e1, e2, e3, r]
  cases (f 0 == g 0 && f 1 == g 1) <;> cases (f 2 == g 2 && f 3 == g 3) <;> cases (f 4 == g 4 && f 5 == g 5) <;> cases (f 6 == g 6 && f 7 == g 7) <;> simp

def psum (f g : Nat → Int) : Nat → Int
  | 0 => 0
  | k + 1 => psum f g k + (f (2 * k) - g (2 * k)).natAbs + (f (2 * k + 1) - g (2 * k + 1)).natAbs
theorem psum_far (f g : Nat → Int) : psum f g 4 = far f g := by simp only [psum, far, Nat.reduceMul, Nat.reduceAdd]; omega
theorem psum_le (f g : Nat → Int) (hf : Bd f) (hg : Bd g) (k : Nat) (hk : k ≤ 4) : 0 ≤ psum f g k ∧ psum f g k ≤ 800000000 * k := by
  induction k with
  | zero => simp [psum]
  | succ k ih =>
    have := ih (by omega)
    have := hf (2 * k) (by omega)
    have := hf (2 * k + 1) (by omega)
    have := hg (2 * k) (by omega)
    have := hg (2 * k + 1) (by omega)
    simp only [psum]
    omega

/-- The four cells of a sketch lie at block b. -/
def SkAt (w : World) (b : Nat) (f : Nat → Int) : Prop := ∀ k, k < 4 → w.cell? ⟨b, k, none⟩ = some (.complex .f64 (fb (f (2 * k))) (fb (f (2 * k + 1))))

theorem far_any (f g : Nat → Int) (hf : Bd f) (hg : Bd g) (w : World) :
    Calls Try.prog 15 #[skv f, skv g] w fun e w' => e = .returned (.int .i64 (far f g)) ∧ Below w.heap.size w w' := by
  have eq := fun w => eq_sk f g hf hg w
  generalize hE : (f 0 == g 0 && f 1 == g 1 && (f 2 == g 2 && f 3 == g 3 && (f 4 == g 4 && f 5 == g 5 && (f 6 == g 6 && f 7 == g 7)))) = E at eq
  have HE := Lib.hid hE
  clear hE
  unfold skv at eq ⊢
  cases E
  · go_enter Try.func15, Try.ntmps15
    go_wp2
    clear eq HE
    go_loopw [5, 11] (fun n i wr => ∃ k : Nat, k ≤ 4 ∧ i = .int .i64 k ∧ n = .int .i64 (psum f g k) ∧ SkAt wr w.heap.size f ∧ SkAt wr (w.heap.size + 1) g ∧ Below w.heap.size w wr) (fun _ i _ => (4 - intOf i).toNat)
    case atStart =>
      refine ⟨0, by omega, rfl, rfl, ?_, ?_, (((Below.refl _ _).alloc (Nat.le_refl _) _).alloc (by simp) _)⟩
      · intro k hk
        rcases (by omega : k = 0 ∨ k = 1 ∨ k = 2 ∨ k = 3) with rfl | rfl | rfl | rfl <;> go_simp
      · intro k hk
        rcases (by omega : k = 0 ∨ k = 1 ∨ k = 2 ∨ k = 3) with rfl | rfl | rfl | rfl <;> go_simp
    case round =>
      obtain ⟨k, hk, rfl, rfl, hc1, hc2, hb⟩ := hrel
      have hp := psum_le f g hf hg k hk
      by_cases hlt : k < 4
      · have h1 := hc1 k hlt
        have h2 := hc2 k hlt
        have b0 := hf (2 * k) (by omega)
        have b1 := hf (2 * k + 1) (by omega)
        have b2 := hg (2 * k) (by omega)
        have b3 := hg (2 * k + 1) (by omega)
        have hs := fun t w => sub_cx t (f (2 * k)) (f (2 * k + 1)) (g (2 * k)) (g (2 * k + 1)) b0 b1 b2 b3 w
        have HC1 := Lib.hid hc1
        have HC2 := Lib.hid hc2
        clear hc1 hc2
        have l0 : (0 : Int) ≤ k := by omega
        have l1 : (k : Int) < 4 := by omega
        go_wp2
        go_quiet (fail)
        go_wp2_with (go_at_call 24; refine (size_any _ _ (by omega)).mono ?_; rintro e w' ⟨rfl, rfl⟩)
        go_roundw
        case rel =>
          exact ⟨k + 1, by omega, by go_num, by rw [psum, Int.add_assoc], HC1.out, HC2.out, below_drewN hb nq⟩
        case measure => simp [intOf]; omega
      · obtain rfl : k = 4 := by omega
        go_wp2
        go_ret
        exact ⟨ret_int (psum_far f g), hb⟩
  · go_enter Try.func15, Try.ntmps15
    go_wp2
    go_ret
    refine ⟨ret_int ?_, (((Below.refl _ _).alloc (Nat.le_refl _) _).alloc (by simp) _)⟩
    have h := HE.out
    simp only [Bool.and_eq_true, beq_iff_eq] at h
    unfold far
    omega

/-- The eight cells of a whole sketch lie at block b. -/
def WhAt (w : World) (b : Nat) (f : Nat → Int) : Prop := ∀ k, k < 8 → w.cell? ⟨b, k, none⟩ = some (.int .i64 (f k))
def qsum (f g : Nat → Int) : Nat → Int
  | 0 => 0
  | k + 1 => qsum f g k + (f k - g k).natAbs
theorem qsum_far (f g : Nat → Int) : qsum f g 8 = far f g := by simp only [qsum, far]; omega
theorem qsum_le (f g : Nat → Int) (hf : Bd f) (hg : Bd g) (k : Nat) (hk : k ≤ 8) : 0 ≤ qsum f g k ∧ qsum f g k ≤ 400000000 * k := by
  induction k with
  | zero => simp [qsum]
  | succ k ih =>
    have := ih (by omega)
    have := hf k (by omega)
    have := hg k (by omega)
    simp only [qsum]
    omega

theorem rfar_any (f g : Nat → Int) (hf : Bd f) (hg : Bd g) (w : World) :
    Calls Try.prog 16 #[wv f, wv g] w fun e w' => e = .returned (.int .i64 (far f g)) ∧ Below w.heap.size w w' := by
  unfold wv
  go_enter Try.func16, Try.ntmps16
  go_wp2
  go_loopw [5, 6] (fun n i wr => ∃ k : Nat, k ≤ 8 ∧ i = .int .i64 k ∧ n = .int .i64 (qsum f g k) ∧ WhAt wr w.heap.size f ∧ WhAt wr (w.heap.size + 1) g ∧ Below w.heap.size w wr) (fun _ i _ => (8 - intOf i).toNat)
  case atStart =>
    refine ⟨0, by omega, rfl, rfl, ?_, ?_, (((Below.refl _ _).alloc (Nat.le_refl _) _).alloc (by simp) _)⟩
    · intro k hk
      rcases (by omega : k = 0 ∨ k = 1 ∨ k = 2 ∨ k = 3 ∨ k = 4 ∨ k = 5 ∨ k = 6 ∨ k = 7) with rfl | rfl | rfl | rfl | rfl | rfl | rfl | rfl <;> go_simp
    · intro k hk
      rcases (by omega : k = 0 ∨ k = 1 ∨ k = 2 ∨ k = 3 ∨ k = 4 ∨ k = 5 ∨ k = 6 ∨ k = 7) with rfl | rfl | rfl | rfl | rfl | rfl | rfl | rfl <;> go_simp
  case round =>
    obtain ⟨k, hk, rfl, rfl, hc1, hc2, hb⟩ := hrel
    have hp := qsum_le f g hf hg k hk
    by_cases hlt : k < 8
    · have h1 := hc1 k hlt
      have h2 := hc2 k hlt
      have b0 := hf k hlt
      have b1 := hg k hlt
      have HC1 := Lib.hid hc1
      have HC2 := Lib.hid hc2
      clear hc1 hc2
      have l0 : (0 : Int) ≤ k := by omega
      have l1 : (k : Int) < 8 := by omega
      go_wp2
      go_quiet (fail)
      by_cases hgt : g k < f k
      all_goals
        go_wp2
        go_quiet (fail)
        go_wp2
        go_roundw
        case rel =>
          exact ⟨k + 1, by omega, by go_num, by rw [qsum]; go_num, HC1.out, HC2.out, below_drewN hb _⟩
        case measure => simp [intOf]; omega
    · obtain rfl : k = 8 := by omega
      go_wp2
      go_ret
      exact ⟨ret_int (qsum_far f g), hb⟩

theorem same_yes (f : Nat → Int) (hf : Bd f) (w : World) :
    Calls Try.prog 10 #[skv f, wv f] w fun e w' => e = .returned (.bool true) ∧ Below w.heap.size w w' := by
  unfold skv wv
  go_enter Try.func10, Try.ntmps10
  go_wp2
  go_loopw [5] (fun i wr => ∃ k : Nat, k ≤ 4 ∧ i = .int .i64 k ∧ SkAt wr w.heap.size f ∧ WhAt wr (w.heap.size + 1) f ∧ Below w.heap.size w wr) (fun i _ => (4 - intOf i).toNat)
  case atStart =>
    refine ⟨0, by omega, rfl, ?_, ?_, (((Below.refl _ _).alloc (Nat.le_refl _) _).alloc (by simp) _)⟩
    · intro k hk
      rcases (by omega : k = 0 ∨ k = 1 ∨ k = 2 ∨ k = 3) with rfl | rfl | rfl | rfl <;> go_simp
    · intro k hk
      rcases (by omega : k = 0 ∨ k = 1 ∨ k = 2 ∨ k = 3 ∨ k = 4 ∨ k = 5 ∨ k = 6 ∨ k = 7) with rfl | rfl | rfl | rfl | rfl | rfl | rfl | rfl <;> go_simp
  case round =>
    obtain ⟨k, hk, rfl, hc1, hc2, hb⟩ := hrel
    by_cases hlt : k < 4
    · have h1 := hc1 k hlt
      have h2 := hc2 (2 * k) (by omega)
      have h3 := hc2 (2 * k + 1) (by omega)
      have b0 := hf (2 * k) (by omega)
      have b1 := hf (2 * k + 1) (by omega)
      have HC1 := Lib.hid hc1
      have HC2 := Lib.hid hc2
      clear hc1 hc2
      have l0 : (0 : Int) ≤ k := by omega
      have l1 : (k : Int) < 4 := by omega
      go_wp2
      have q0 : (FloatKind.f64.format.order (fb (f (2 * k))) (floatOfInt .f64 (f (2 * k))) != some Ordering.eq) = false := by
        have := order_fb (f (2 * k)) (f (2 * k)) (by omega) (by omega)
        have e : FloatKind.f64.format.order (fb (f (2 * k))) (floatOfInt .f64 (f (2 * k))) = some (compare (f (2 * k)) (f (2 * k))) := this
        rw [e]; simp
      have q1 : (FloatKind.f64.format.order (fb (f (2 * k + 1))) (floatOfInt .f64 (f (2 * k + 1))) != some Ordering.eq) = false := by
        have := order_fb (f (2 * k + 1)) (f (2 * k + 1)) (by omega) (by omega)
        have e : FloatKind.f64.format.order (fb (f (2 * k + 1))) (floatOfInt .f64 (f (2 * k + 1))) = some (compare (f (2 * k + 1)) (f (2 * k + 1))) := this
        rw [e]; simp
      have m1 : (0 : Int) ≤ 2 * k := by omega
      have m2 : (2 * (k : Int)) < 8 := by omega
      have m3 : (0 : Int) ≤ 2 * k + 1 := by omega
      have m4 : (2 * (k : Int)) + 1 < 8 := by omega
      have n1 : (2 * (k : Int)).toNat = 2 * k := by omega
      have n2 : (2 * (k : Int) + 1).toNat = 2 * k + 1 := by omega
      have p1 : IntKind.i64.wrap (2 * (k : Int)) = 2 * k := IntWalk.i64_in _ (by omega)
      have p2 : IntKind.i64.wrap (2 * (k : Int) + 1) = 2 * k + 1 := IntWalk.i64_in _ (by omega)
      go_quiet (fail)
      clear n1 n2 p1 p2
      go_wp2
      go_roundw
      case rel => exact ⟨k + 1, by omega, by go_num, HC1.out, HC2.out, below_drewN hb _⟩
      case measure => simp [intOf]; omega
    · obtain rfl : k = 4 := by omega
      go_wp2
      go_ret
      exact ⟨rfl, hb⟩
end Go.Proofs.Ytjgmfhfncphbnaa

/- Walks: a number read (the document's reader). -/
import Derived.Test.YtbmiiiccnoiffaaGreatDoorT0
import Derived.Test.YtbmiiiccnoiffaaGreatDoorSB
namespace Go.Proofs.YtbmiiiccnoiffaaGreatDoor
open Go.RowKit

/-- A number, from place i on, n being read: an error's number, or the number and how many bytes it has. -/
def numGo (l : List UInt8) (most : Nat) : Nat → Nat → Nat → Sum Nat (Nat × Nat)
  | 0, _, _ => .inl 4
  | f + 1, i, n => match l[i]? with
    | none => .inl 3
    | some b => if 128 ≤ b.toNat then numGo l most f (i + 1) (n + b.toNat % 128 * 128 ^ i)
      else if b.toNat = 0 ∧ 0 < i then .inl 2
      else if 1099511627775 < n + b.toNat % 128 * 128 ^ i ∨ most < n + b.toNat % 128 * 128 ^ i then .inl 4
      else .inr (n + b.toNat % 128 * 128 ^ i, i + 1)
def Rd.left (r : Rd) : List UInt8 := r.s.data.toList.drop r.pos
def Rd.num (r : Rd) (most : Nat) : Rd × Nat := if r.err ≠ 0 then (r, 0) else match numGo r.left most 6 0 0 with
  | .inl e => ({ r with err := e }, 0)
  | .inr x => ({ r with pos := r.pos + x.2 }, x.1)
theorem left_get (r : Rd) (k : Nat) : r.left[k]? = r.s.data.toList[r.pos + k]? := by unfold Rd.left; rw [List.getElem?_drop]
theorem numGo_bounds (l : List UInt8) (most : Nat) : ∀ f i n, (∀ e, numGo l most f i n = .inl e → e ≤ 4 ∧ 0 < e) ∧ (∀ x, numGo l most f i n = .inr x → x.2 ≤ l.length ∧ x.1 ≤ most ∧ i < x.2 ∧ x.1 ≤ 1099511627775)
  | 0, i, n => ⟨fun e h => by cases h; omega, fun x h => by cases h⟩
  | f + 1, i, n => by
    unfold numGo
    cases hl : l[i]? with
    | none => exact ⟨fun e h => by cases h; omega, fun x h => by cases h⟩
    | some b =>
      dsimp only
      have hi : i < l.length := (List.getElem?_eq_some_iff.1 hl).1
      by_cases h1 : 128 ≤ b.toNat
      · rw [if_pos h1]
        obtain ⟨a1, a2⟩ := numGo_bounds l most f (i + 1) (n + b.toNat % 128 * 128 ^ i)
        exact ⟨a1, fun x h => by obtain ⟨q1, q2, q3, q4⟩ := a2 x h; exact ⟨q1, q2, by omega, q4⟩⟩
      · rw [if_neg h1]
        by_cases h2 : b.toNat = 0 ∧ 0 < i
        · rw [if_pos h2]; exact ⟨fun e h => by cases h; omega, fun x h => by cases h⟩
        · rw [if_neg h2]
          by_cases h3 : 1099511627775 < n + b.toNat % 128 * 128 ^ i ∨ most < n + b.toNat % 128 * 128 ^ i
          · rw [if_pos h3]; exact ⟨fun e h => by cases h; omega, fun x h => by cases h⟩
          · rw [if_neg h3]
            refine ⟨fun e h => (by cases h), fun x h => ?_⟩
            cases h
            exact ⟨by omega, by omega, by omega, by omega⟩
theorem Rd.num_fine (r : Rd) (most : Nat) (h : r.fine) : (r.num most).1.fine ∧ (r.num most).2 ≤ most := by
  unfold Rd.num
  split
  · exact ⟨h, Nat.zero_le _⟩
  · obtain ⟨a1, a2⟩ := numGo_bounds r.left most 6 0 0
    split
    · rename_i e he
      have := a1 e he
      exact ⟨⟨h.pos, h.size, by show e ≤ 100; omega⟩, Nat.zero_le _⟩
    · rename_i x hx
      obtain ⟨q1, q2, _, _⟩ := a2 x hx
      have hl : r.left.length = r.s.size - r.pos := by unfold Rd.left; simp
      have := h.pos
      exact ⟨⟨by show r.pos + x.2 ≤ r.s.size; omega, h.size, h.err⟩, q2⟩

theorem Rd.num_err (r : Rd) (most e : Nat) (h0 : r.err = 0) (h : numGo r.left most 6 0 0 = .inl e) : r.num most = ({ r with err := e }, 0) := by
  unfold Rd.num; rw [if_neg (by simp [h0]), h]
theorem Rd.num_ok (r : Rd) (most : Nat) (x : Nat × Nat) (h0 : r.err = 0) (h : numGo r.left most 6 0 0 = .inr x) : r.num most = ({ r with pos := r.pos + x.2 }, x.1) := by
  unfold Rd.num; rw [if_neg (by simp [h0]), h]

set_option maxRecDepth 100000 in
set_option maxHeartbeats 2000000 in
theorem rnum_any (b : Nat) (r : Rd) (most : Nat) (w : World) (hA : Arr w b 3 r.c) (hf : r.fine) (hn : most ≤ 1000000000) :
    Calls Tryz.prog 104 #[.pointer (some ⟨b, 0, none⟩), .int .i64 (most : Int)] w fun e w' => e = .returned (.int .i64 ((r.num most).2 : Int)) ∧ Arr w' b 3 (r.num most).1.c ∧ w.grownBy w' (some b) := by
  have hbl : b < w.heap.size := hA.lt (by omega)
  have c0 : w.cell? ⟨b, 0, none⟩ = some (.string r.s) := hA.cell 0 (by omega)
  have c1 : w.cell? ⟨b, 1, none⟩ = some (.int .i64 (r.pos : Int)) := hA.cell 1 (by omega)
  have c2 : w.cell? ⟨b, 2, none⟩ = some (.int .i64 (r.err : Int)) := hA.cell 2 (by omega)
  have f1 := hA.free 1 (by omega)
  have f2 := hA.free 2 (by omega)
  have hp := hf.pos
  have hs := hf.size
  have he := hf.err
  have HA := Lib.hid hA
  clear hA hf
  by_cases h0 : r.err = 0
  · have h0' : ((r.err : Int) != 0) = false := by rw [bne_eq_false_iff_eq]; omega
    have H0 := Lib.hid h0
    clear h0
    go_enter Tryz.func104, Tryz.ntmps104
    go_wp2
    go_loopw [5, 6, 7] (fun n o i wr => ∃ k N : Nat, k ≤ 6 ∧ i = .int .i64 k ∧ n = .int .i64 N ∧ o = .int .i64 ((128 ^ k : Nat) : Int) ∧ N ≤ 4398046511104 ∧ Hid (numGo r.left most 6 0 0 = numGo r.left most (6 - k) k N) ∧ Hid (N < 128 ^ k) ∧ Below w.heap.size w wr) (fun _ _ i _ => (6 - intOf i).toNat)
    case atStart => exact ⟨0, 0, by omega, rfl, rfl, rfl, by omega, rfl, by unfold Hid; decide, Below.refl _ _⟩
    case round =>
      obtain ⟨wo, rfl⟩ : ∃ wo : World, wo = wr := ⟨_, rfl⟩
      obtain ⟨k, N, hk, rfl, rfl, rfl, hN, hgo, hNl, hb⟩ := hrel
      have d0 := below_load c0 hb hbl
      have d1 := below_load c1 hb hbl
      have d2 := below_load c2 hb hbl
      have e1 : wo.frozen? ⟨b, 1, none⟩ = false := by rw [hb.frozen (p := ⟨b, 1, none⟩) hbl]; exact f1
      have e2 : wo.frozen? ⟨b, 2, none⟩ = false := by rw [hb.frozen (p := ⟨b, 2, none⟩) hbl]; exact f2
      have hbo : b < wo.heap.size := by have := hb.size; omega
      by_cases hk6 : k < 6
      · have k0 : (0 : Int) ≤ k := by omega
        have k1 : (k : Int) < 6 := by omega
        have hd : decide ((k : Int) < 6) = true := decide_eq_true (by omega)
        by_cases hlt : r.pos + k < r.s.size
        · have hxk : r.s.data.toList[r.pos + k]? = some (blk r.s (r.pos + k)) := by
            unfold blk
            have hl : r.pos + k < r.s.data.toList.length := by simp; omega
            simp only [List.getD, List.getElem?_eq_getElem hl, Option.getD_some]
          have HI : ∀ w, (Instr.index 9 (.string r.s) (.int .i64 ((r.pos : Int) + k))).run Tryz.prog w = .ok (.int .u8 (wn (bw (blk r.s (r.pos + k))))) w := fun w => run_index_str r.s w (r.pos + k) hlt
          have hwn := wn_bw (blk r.s (r.pos + k))
          have hX : (blk r.s (r.pos + k)).toNat < 256 := (blk r.s (r.pos + k)).toNat_lt
          have hl : r.left[k]? = some (blk r.s (r.pos + k)) := by rw [left_get]; exact hxk
          have hstep : numGo r.left most (6 - k) k N = if 128 ≤ (blk r.s (r.pos + k)).toNat then numGo r.left most (5 - k) (k + 1) (N + (blk r.s (r.pos + k)).toNat % 128 * 128 ^ k)
              else if (blk r.s (r.pos + k)).toNat = 0 ∧ 0 < k then .inl 2
              else if 1099511627775 < N + (blk r.s (r.pos + k)).toNat % 128 * 128 ^ k ∨ most < N + (blk r.s (r.pos + k)).toNat % 128 * 128 ^ k then .inl 4
              else .inr (N + (blk r.s (r.pos + k)).toNat % 128 * 128 ^ k, k + 1) := by
            rw [show 6 - k = (5 - k) + 1 from by omega]; conv => lhs; unfold numGo
            rw [hl]
          rw [← hwn] at HI
          generalize (blk r.s (r.pos + k)).toNat = X at HI hX hstep
          have ho : 128 ^ k ≤ 34359738368 := by
            have : 128 ^ k ≤ 128 ^ 5 := Nat.pow_le_pow_right (by omega) (by omega)
            omega
          have ho1 : 128 ^ (k + 1) = 128 ^ k * 128 := Nat.pow_succ 128 k
          have hgo2 := hgo.out
          rw [hstep] at hgo2
          have hNo := hNl.out
          have HO1 := Lib.hid ho1
          have hpp : ∃ p, p = X % 128 * 128 ^ k := ⟨_, rfl⟩
          obtain ⟨p, hpd⟩ := hpp
          have hpb : p ≤ 4363686772736 := by
            rw [hpd]
            exact Nat.le_trans (Nat.mul_le_mul (show X % 128 ≤ 127 by omega) ho) (by omega)
          have hpl : N + p < 128 ^ (k + 1) := by
            rw [ho1, hpd]
            have h1 : X % 128 * 128 ^ k ≤ 127 * 128 ^ k := Nat.mul_le_mul (by omega) (Nat.le_refl _)
            omega
          rw [← hpd] at hgo2
          have hw1 : IntKind.i64.wrap ((X : Int) % 128 * ((128 ^ k : Nat) : Int)) = (p : Int) := by
            rw [hpd]
            have e : ((X % 128 * 128 ^ k : Nat) : Int) = (X : Int) % 128 * ((128 ^ k : Nat) : Int) := by push_cast; rfl
            rw [← e, ← hpd]; exact IntWalk.i64_in _ (by omega)
          have HPL := Lib.hid hpl
          have HGO := Lib.hid hgo2
          have HB := Lib.hid hb
          clear hpd hgo2 hstep hgo hNl hNo ho1 hl hxk hwn hb c0 c1 c2 f1 f2 hpl
          generalize ho2 : 128 ^ k = o at hw1 ho HO1
          have HOO := Lib.hid ho2
          clear ho2
          have hd2 : decide (((r.s.size : Int)) ≤ (r.pos : Int) + k) = false := decide_eq_false (by omega)
          have x0 : (0 : Int) ≤ X := by omega
          have x1 : (X : Int) < 256 := by omega
          by_cases h128 : 128 ≤ X
          · have hdx : decide ((128 : Int) ≤ X) = true := decide_eq_true (by omega)
            go_wp2
            refine wp_region_bq (by kernel_rfl) (by kernel_rfl) ?_
            have LQ0 := fun x : BW (World.heap wo).size wo => below_load d0 x.hb (by omega)
            have LQ1 := fun x : BW (World.heap wo).size wo => below_load d1 x.hb (by omega)
            repeat (go_big_quiet_step (fail))
            refine wpQuiet_nil ?_
            intro wq hbq
            clear LQ0 LQ1
            obtain ⟨wa, rfl⟩ : ∃ wa : World, wa = wq := ⟨_, rfl⟩
            have hba := hbq
            clear hbq
            have q0 := below_load d0 hba hbo
            have q1 := below_load d1 hba hbo
            have hboa : b < wa.heap.size := by have := hba.size; omega
            go_wp2
            refine wp_region_bq (by kernel_rfl) (by kernel_rfl) ?_
            have LQ0 := fun x : BW (World.heap wa).size wa => below_load q0 x.hb (by omega)
            have LQ1 := fun x : BW (World.heap wa).size wa => below_load q1 x.hb (by omega)
            repeat (go_big_quiet_step (fail))
            refine wpQuiet_nil ?_
            intro wq hbq
            clear LQ0 LQ1
            have hbq2 := hba.trans (hbq.mono hba.size)
            clear q0 q1 hba hbq
            have hb2 := HB.out.trans (hbq2.mono HB.out.size)
            have g1 := below_load d1 hbq2 hbo
            have g2 := below_load d2 hbq2 hbo
            have k1' : wq.frozen? ⟨b, 1, none⟩ = false := by rw [hbq2.frozen (p := ⟨b, 1, none⟩) hbo]; exact e1
            have k2 : wq.frozen? ⟨b, 2, none⟩ = false := by rw [hbq2.frozen (p := ⟨b, 2, none⟩) hbo]; exact e2
            have HB2 := Lib.hid hb2
            clear d0 d1 d2 e1 e2 hbq2 hb2 HI
            go_wp2
            go_roundw
            case rel =>
              have h7 : 128 ^ (k + 1) ≤ 128 ^ 6 := Nat.pow_le_pow_right (by omega) (by omega)
              have h8 := HPL.out
              refine ⟨k + 1, N + p, by omega, by go_num, by go_num, vi64 (by rw [HO1.out]; push_cast; rfl), by omega, ?_, h8, HB2.out⟩
              show numGo r.left most 6 0 0 = numGo r.left most (6 - (k + 1)) (k + 1) (N + p)
              rw [HGO.out, if_pos h128, show 6 - (k + 1) = 5 - k from by omega]
            case measure => simp [intOf]; omega
          · have hdx : decide ((128 : Int) ≤ X) = false := decide_eq_false (by omega)
            by_cases hz : X = 0 ∧ 0 < k
            · have hr : numGo r.left most 6 0 0 = .inl 2 := by rw [HGO.out, if_neg h128, if_pos hz]
              have HR := Lib.hid (Rd.num_err r most 2 H0.out hr)
              have hx1 : ((X : Int) == 0) = true := by rw [beq_iff_eq]; omega
              have hk1 : decide ((0 : Int) < k) = true := decide_eq_true (by omega)
              have hk2 : 0 < k := hz.2
              clear hz hr h128
              go_wp2
              refine wp_region_bq (by kernel_rfl) (by kernel_rfl) ?_
              have LQ0 := fun x : BW (World.heap wo).size wo => below_load d0 x.hb (by omega)
              have LQ1 := fun x : BW (World.heap wo).size wo => below_load d1 x.hb (by omega)
              repeat (go_big_quiet_step (fail))
              refine wpQuiet_nil ?_
              intro wq hbq
              clear LQ0 LQ1
              obtain ⟨wa, rfl⟩ : ∃ wa : World, wa = wq := ⟨_, rfl⟩
              have hba := hbq
              clear hbq
              have q0 := below_load d0 hba hbo
              have q1 := below_load d1 hba hbo
              have hboa : b < wa.heap.size := by have := hba.size; omega
              go_wp2
              refine wp_region_bq (by kernel_rfl) (by kernel_rfl) ?_
              have LQ0 := fun x : BW (World.heap wa).size wa => below_load q0 x.hb (by omega)
              have LQ1 := fun x : BW (World.heap wa).size wa => below_load q1 x.hb (by omega)
              repeat (go_big_quiet_step (fail))
              refine wpQuiet_nil ?_
              intro wq hbq
              clear LQ0 LQ1
              have hbq2 := hba.trans (hbq.mono hba.size)
              clear q0 q1 hba hbq
              have hb2 := HB.out.trans (hbq2.mono HB.out.size)
              have g1 := below_load d1 hbq2 hbo
              have g2 := below_load d2 hbq2 hbo
              have k1' : wq.frozen? ⟨b, 1, none⟩ = false := by rw [hbq2.frozen (p := ⟨b, 1, none⟩) hbo]; exact e1
              have k2 : wq.frozen? ⟨b, 2, none⟩ = false := by rw [hbq2.frozen (p := ⟨b, 2, none⟩) hbo]; exact e2
              have HB2 := Lib.hid hb2
              clear d0 d1 d2 e1 e2 hbq2 hb2 HI
              go_wp2
              go_ret
              rw [HR.out]
              exact ⟨rfl, ((HA.out.below HB2.out hbl).set 2 (by omega) (.int .i64 ((2 : Nat) : Int))).congr (Rd.upd_err r 2), grown_set (grown_of_below HB2.out _) _⟩
            · by_cases hx0 : X = 0
              · skip
                by_cases hA : 1099511627775 < N + p
                · skip
                  have hr : numGo r.left most 6 0 0 = .inl 4 := by rw [HGO.out, if_neg h128, if_neg hz, if_pos (by omega)]
                  have HR := Lib.hid (Rd.num_err r most 4 H0.out hr)
                  have hx1 : ((X : Int) == 0) = true := by rw [beq_iff_eq]; omega
                  have hk1 : decide ((0 : Int) < k) = false := decide_eq_false (by omega)
                  have hk3 : decide (0 < k) = false := decide_eq_false (by omega)
                  have hb1 : decide ((1099511627775 : Int) < (N : Int) + p) = true := decide_eq_true (by omega)
                  clear hz hr h128 hx0
                  go_wp2
                  refine wp_region_bq (by kernel_rfl) (by kernel_rfl) ?_
                  have LQ0 := fun x : BW (World.heap wo).size wo => below_load d0 x.hb (by omega)
                  have LQ1 := fun x : BW (World.heap wo).size wo => below_load d1 x.hb (by omega)
                  repeat (go_big_quiet_step (fail))
                  refine wpQuiet_nil ?_
                  intro wq hbq
                  clear LQ0 LQ1
                  obtain ⟨wa, rfl⟩ : ∃ wa : World, wa = wq := ⟨_, rfl⟩
                  have hba := hbq
                  clear hbq
                  have q0 := below_load d0 hba hbo
                  have q1 := below_load d1 hba hbo
                  have hboa : b < wa.heap.size := by have := hba.size; omega
                  go_wp2
                  refine wp_region_bq (by kernel_rfl) (by kernel_rfl) ?_
                  have LQ0 := fun x : BW (World.heap wa).size wa => below_load q0 x.hb (by omega)
                  have LQ1 := fun x : BW (World.heap wa).size wa => below_load q1 x.hb (by omega)
                  repeat (go_big_quiet_step (fail))
                  refine wpQuiet_nil ?_
                  intro wq hbq
                  clear LQ0 LQ1
                  have hbq2 := hba.trans (hbq.mono hba.size)
                  clear q0 q1 hba hbq
                  have hb2 := HB.out.trans (hbq2.mono HB.out.size)
                  have g1 := below_load d1 hbq2 hbo
                  have g2 := below_load d2 hbq2 hbo
                  have k1' : wq.frozen? ⟨b, 1, none⟩ = false := by rw [hbq2.frozen (p := ⟨b, 1, none⟩) hbo]; exact e1
                  have k2 : wq.frozen? ⟨b, 2, none⟩ = false := by rw [hbq2.frozen (p := ⟨b, 2, none⟩) hbo]; exact e2
                  have HB2 := Lib.hid hb2
                  clear d0 d1 d2 e1 e2 hbq2 hb2 HI
                  go_wp2
                  go_ret
                  rw [HR.out]
                  exact ⟨rfl, ((HA.out.below HB2.out hbl).set 2 (by omega) (.int .i64 ((4 : Nat) : Int))).congr (Rd.upd_err r 4), grown_set (grown_of_below HB2.out _) _⟩
                · by_cases hB : most < N + p
                  · skip
                    have hr : numGo r.left most 6 0 0 = .inl 4 := by rw [HGO.out, if_neg h128, if_neg hz, if_pos (by omega)]
                    have HR := Lib.hid (Rd.num_err r most 4 H0.out hr)
                    have hx1 : ((X : Int) == 0) = true := by rw [beq_iff_eq]; omega
                    have hk1 : decide ((0 : Int) < k) = false := decide_eq_false (by omega)
                    have hk3 : decide (0 < k) = false := decide_eq_false (by omega)
                    have hb1 : decide ((1099511627775 : Int) < (N : Int) + p) = false := decide_eq_false (by omega)
                    have hb3 : decide ((most : Int) < (N : Int) + p) = true := decide_eq_true (by omega)
                    clear hz hr h128 hx0
                    go_wp2
                    refine wp_region_bq (by kernel_rfl) (by kernel_rfl) ?_
                    have LQ0 := fun x : BW (World.heap wo).size wo => below_load d0 x.hb (by omega)
                    have LQ1 := fun x : BW (World.heap wo).size wo => below_load d1 x.hb (by omega)
                    repeat (go_big_quiet_step (fail))
                    refine wpQuiet_nil ?_
                    intro wq hbq
                    clear LQ0 LQ1
                    obtain ⟨wa, rfl⟩ : ∃ wa : World, wa = wq := ⟨_, rfl⟩
                    have hba := hbq
                    clear hbq
                    have q0 := below_load d0 hba hbo
                    have q1 := below_load d1 hba hbo
                    have hboa : b < wa.heap.size := by have := hba.size; omega
                    go_wp2
                    refine wp_region_bq (by kernel_rfl) (by kernel_rfl) ?_
                    have LQ0 := fun x : BW (World.heap wa).size wa => below_load q0 x.hb (by omega)
                    have LQ1 := fun x : BW (World.heap wa).size wa => below_load q1 x.hb (by omega)
                    repeat (go_big_quiet_step (fail))
                    refine wpQuiet_nil ?_
                    intro wq hbq
                    clear LQ0 LQ1
                    have hbq2 := hba.trans (hbq.mono hba.size)
                    clear q0 q1 hba hbq
                    have hb2 := HB.out.trans (hbq2.mono HB.out.size)
                    have g1 := below_load d1 hbq2 hbo
                    have g2 := below_load d2 hbq2 hbo
                    have k1' : wq.frozen? ⟨b, 1, none⟩ = false := by rw [hbq2.frozen (p := ⟨b, 1, none⟩) hbo]; exact e1
                    have k2 : wq.frozen? ⟨b, 2, none⟩ = false := by rw [hbq2.frozen (p := ⟨b, 2, none⟩) hbo]; exact e2
                    have HB2 := Lib.hid hb2
                    clear d0 d1 d2 e1 e2 hbq2 hb2 HI
                    go_wp2
                    go_ret
                    rw [HR.out]
                    exact ⟨rfl, ((HA.out.below HB2.out hbl).set 2 (by omega) (.int .i64 ((4 : Nat) : Int))).congr (Rd.upd_err r 4), grown_set (grown_of_below HB2.out _) _⟩
                  · skip
                    have hr : numGo r.left most 6 0 0 = .inr (N + p, k + 1) := by rw [HGO.out, if_neg h128, if_neg hz, if_neg (by omega)]
                    have HR := Lib.hid (Rd.num_ok r most (N + p, k + 1) H0.out hr)
                    have hx1 : ((X : Int) == 0) = true := by rw [beq_iff_eq]; omega
                    have hk1 : decide ((0 : Int) < k) = false := decide_eq_false (by omega)
                    have hk3 : decide (0 < k) = false := decide_eq_false (by omega)
                    have hb1 : decide ((1099511627775 : Int) < (N : Int) + p) = false := decide_eq_false (by omega)
                    have hb3 : decide ((most : Int) < (N : Int) + p) = false := decide_eq_false (by omega)
                    have hw5 : IntKind.i64.wrap ((r.pos : Int) + k) = (r.pos : Int) + k := IntWalk.i64_in _ (by omega)
                    clear hz hr h128 hx0
                    go_wp2
                    refine wp_region_bq (by kernel_rfl) (by kernel_rfl) ?_
                    have LQ0 := fun x : BW (World.heap wo).size wo => below_load d0 x.hb (by omega)
                    have LQ1 := fun x : BW (World.heap wo).size wo => below_load d1 x.hb (by omega)
                    repeat (go_big_quiet_step (fail))
                    refine wpQuiet_nil ?_
                    intro wq hbq
                    clear LQ0 LQ1
                    obtain ⟨wa, rfl⟩ : ∃ wa : World, wa = wq := ⟨_, rfl⟩
                    have hba := hbq
                    clear hbq
                    have q0 := below_load d0 hba hbo
                    have q1 := below_load d1 hba hbo
                    have hboa : b < wa.heap.size := by have := hba.size; omega
                    go_wp2
                    refine wp_region_bq (by kernel_rfl) (by kernel_rfl) ?_
                    have LQ0 := fun x : BW (World.heap wa).size wa => below_load q0 x.hb (by omega)
                    have LQ1 := fun x : BW (World.heap wa).size wa => below_load q1 x.hb (by omega)
                    repeat (go_big_quiet_step (fail))
                    refine wpQuiet_nil ?_
                    intro wq hbq
                    clear LQ0 LQ1
                    have hbq2 := hba.trans (hbq.mono hba.size)
                    clear q0 q1 hba hbq
                    have hb2 := HB.out.trans (hbq2.mono HB.out.size)
                    have g1 := below_load d1 hbq2 hbo
                    have g2 := below_load d2 hbq2 hbo
                    have k1' : wq.frozen? ⟨b, 1, none⟩ = false := by rw [hbq2.frozen (p := ⟨b, 1, none⟩) hbo]; exact e1
                    have k2 : wq.frozen? ⟨b, 2, none⟩ = false := by rw [hbq2.frozen (p := ⟨b, 2, none⟩) hbo]; exact e2
                    have HB2 := Lib.hid hb2
                    clear d0 d1 d2 e1 e2 hbq2 hb2 HI
                    go_wp2
                    go_ret
                    rw [HR.out]
                    exact ⟨ret_int (by push_cast; rfl), ((HA.out.below HB2.out hbl).set 1 (by omega) (.int .i64 ((r.pos + (k + 1) : Nat) : Int))).congr (Rd.upd_pos r _), grown_set (grown_of_below HB2.out _) _⟩
              · skip
                by_cases hA : 1099511627775 < N + p
                · skip
                  have hr : numGo r.left most 6 0 0 = .inl 4 := by rw [HGO.out, if_neg h128, if_neg hz, if_pos (by omega)]
                  have HR := Lib.hid (Rd.num_err r most 4 H0.out hr)
                  have hx1 : ((X : Int) == 0) = false := by rw [beq_eq_false_iff_ne]; omega
                  have hb1 : decide ((1099511627775 : Int) < (N : Int) + p) = true := decide_eq_true (by omega)
                  clear hz hr h128 hx0
                  go_wp2
                  refine wp_region_bq (by kernel_rfl) (by kernel_rfl) ?_
                  have LQ0 := fun x : BW (World.heap wo).size wo => below_load d0 x.hb (by omega)
                  have LQ1 := fun x : BW (World.heap wo).size wo => below_load d1 x.hb (by omega)
                  repeat (go_big_quiet_step (fail))
                  refine wpQuiet_nil ?_
                  intro wq hbq
                  clear LQ0 LQ1
                  obtain ⟨wa, rfl⟩ : ∃ wa : World, wa = wq := ⟨_, rfl⟩
                  have hba := hbq
                  clear hbq
                  have q0 := below_load d0 hba hbo
                  have q1 := below_load d1 hba hbo
                  have hboa : b < wa.heap.size := by have := hba.size; omega
                  go_wp2
                  refine wp_region_bq (by kernel_rfl) (by kernel_rfl) ?_
                  have LQ0 := fun x : BW (World.heap wa).size wa => below_load q0 x.hb (by omega)
                  have LQ1 := fun x : BW (World.heap wa).size wa => below_load q1 x.hb (by omega)
                  repeat (go_big_quiet_step (fail))
                  refine wpQuiet_nil ?_
                  intro wq hbq
                  clear LQ0 LQ1
                  have hbq2 := hba.trans (hbq.mono hba.size)
                  clear q0 q1 hba hbq
                  have hb2 := HB.out.trans (hbq2.mono HB.out.size)
                  have g1 := below_load d1 hbq2 hbo
                  have g2 := below_load d2 hbq2 hbo
                  have k1' : wq.frozen? ⟨b, 1, none⟩ = false := by rw [hbq2.frozen (p := ⟨b, 1, none⟩) hbo]; exact e1
                  have k2 : wq.frozen? ⟨b, 2, none⟩ = false := by rw [hbq2.frozen (p := ⟨b, 2, none⟩) hbo]; exact e2
                  have HB2 := Lib.hid hb2
                  clear d0 d1 d2 e1 e2 hbq2 hb2 HI
                  go_wp2
                  go_ret
                  rw [HR.out]
                  exact ⟨rfl, ((HA.out.below HB2.out hbl).set 2 (by omega) (.int .i64 ((4 : Nat) : Int))).congr (Rd.upd_err r 4), grown_set (grown_of_below HB2.out _) _⟩
                · by_cases hB : most < N + p
                  · skip
                    have hr : numGo r.left most 6 0 0 = .inl 4 := by rw [HGO.out, if_neg h128, if_neg hz, if_pos (by omega)]
                    have HR := Lib.hid (Rd.num_err r most 4 H0.out hr)
                    have hx1 : ((X : Int) == 0) = false := by rw [beq_eq_false_iff_ne]; omega
                    have hb1 : decide ((1099511627775 : Int) < (N : Int) + p) = false := decide_eq_false (by omega)
                    have hb3 : decide ((most : Int) < (N : Int) + p) = true := decide_eq_true (by omega)
                    clear hz hr h128 hx0
                    go_wp2
                    refine wp_region_bq (by kernel_rfl) (by kernel_rfl) ?_
                    have LQ0 := fun x : BW (World.heap wo).size wo => below_load d0 x.hb (by omega)
                    have LQ1 := fun x : BW (World.heap wo).size wo => below_load d1 x.hb (by omega)
                    repeat (go_big_quiet_step (fail))
                    refine wpQuiet_nil ?_
                    intro wq hbq
                    clear LQ0 LQ1
                    obtain ⟨wa, rfl⟩ : ∃ wa : World, wa = wq := ⟨_, rfl⟩
                    have hba := hbq
                    clear hbq
                    have q0 := below_load d0 hba hbo
                    have q1 := below_load d1 hba hbo
                    have hboa : b < wa.heap.size := by have := hba.size; omega
                    go_wp2
                    refine wp_region_bq (by kernel_rfl) (by kernel_rfl) ?_
                    have LQ0 := fun x : BW (World.heap wa).size wa => below_load q0 x.hb (by omega)
                    have LQ1 := fun x : BW (World.heap wa).size wa => below_load q1 x.hb (by omega)
                    repeat (go_big_quiet_step (fail))
                    refine wpQuiet_nil ?_
                    intro wq hbq
                    clear LQ0 LQ1
                    have hbq2 := hba.trans (hbq.mono hba.size)
                    clear q0 q1 hba hbq
                    have hb2 := HB.out.trans (hbq2.mono HB.out.size)
                    have g1 := below_load d1 hbq2 hbo
                    have g2 := below_load d2 hbq2 hbo
                    have k1' : wq.frozen? ⟨b, 1, none⟩ = false := by rw [hbq2.frozen (p := ⟨b, 1, none⟩) hbo]; exact e1
                    have k2 : wq.frozen? ⟨b, 2, none⟩ = false := by rw [hbq2.frozen (p := ⟨b, 2, none⟩) hbo]; exact e2
                    have HB2 := Lib.hid hb2
                    clear d0 d1 d2 e1 e2 hbq2 hb2 HI
                    go_wp2
                    go_ret
                    rw [HR.out]
                    exact ⟨rfl, ((HA.out.below HB2.out hbl).set 2 (by omega) (.int .i64 ((4 : Nat) : Int))).congr (Rd.upd_err r 4), grown_set (grown_of_below HB2.out _) _⟩
                  · skip
                    have hr : numGo r.left most 6 0 0 = .inr (N + p, k + 1) := by rw [HGO.out, if_neg h128, if_neg hz, if_neg (by omega)]
                    have HR := Lib.hid (Rd.num_ok r most (N + p, k + 1) H0.out hr)
                    have hx1 : ((X : Int) == 0) = false := by rw [beq_eq_false_iff_ne]; omega
                    have hb1 : decide ((1099511627775 : Int) < (N : Int) + p) = false := decide_eq_false (by omega)
                    have hb3 : decide ((most : Int) < (N : Int) + p) = false := decide_eq_false (by omega)
                    have hw5 : IntKind.i64.wrap ((r.pos : Int) + k) = (r.pos : Int) + k := IntWalk.i64_in _ (by omega)
                    clear hz hr h128 hx0
                    go_wp2
                    refine wp_region_bq (by kernel_rfl) (by kernel_rfl) ?_
                    have LQ0 := fun x : BW (World.heap wo).size wo => below_load d0 x.hb (by omega)
                    have LQ1 := fun x : BW (World.heap wo).size wo => below_load d1 x.hb (by omega)
                    repeat (go_big_quiet_step (fail))
                    refine wpQuiet_nil ?_
                    intro wq hbq
                    clear LQ0 LQ1
                    obtain ⟨wa, rfl⟩ : ∃ wa : World, wa = wq := ⟨_, rfl⟩
                    have hba := hbq
                    clear hbq
                    have q0 := below_load d0 hba hbo
                    have q1 := below_load d1 hba hbo
                    have hboa : b < wa.heap.size := by have := hba.size; omega
                    go_wp2
                    refine wp_region_bq (by kernel_rfl) (by kernel_rfl) ?_
                    have LQ0 := fun x : BW (World.heap wa).size wa => below_load q0 x.hb (by omega)
                    have LQ1 := fun x : BW (World.heap wa).size wa => below_load q1 x.hb (by omega)
                    repeat (go_big_quiet_step (fail))
                    refine wpQuiet_nil ?_
                    intro wq hbq
                    clear LQ0 LQ1
                    have hbq2 := hba.trans (hbq.mono hba.size)
                    clear q0 q1 hba hbq
                    have hb2 := HB.out.trans (hbq2.mono HB.out.size)
                    have g1 := below_load d1 hbq2 hbo
                    have g2 := below_load d2 hbq2 hbo
                    have k1' : wq.frozen? ⟨b, 1, none⟩ = false := by rw [hbq2.frozen (p := ⟨b, 1, none⟩) hbo]; exact e1
                    have k2 : wq.frozen? ⟨b, 2, none⟩ = false := by rw [hbq2.frozen (p := ⟨b, 2, none⟩) hbo]; exact e2
                    have HB2 := Lib.hid hb2
                    clear d0 d1 d2 e1 e2 hbq2 hb2 HI
                    go_wp2
                    go_ret
                    rw [HR.out]
                    exact ⟨ret_int (by push_cast; rfl), ((HA.out.below HB2.out hbl).set 1 (by omega) (.int .i64 ((r.pos + (k + 1) : Nat) : Int))).congr (Rd.upd_pos r _), grown_set (grown_of_below HB2.out _) _⟩
        · have hd2 : decide (((r.s.size : Int)) ≤ (r.pos : Int) + k) = true := decide_eq_true (by omega)
          have hr : numGo r.left most (6 - k) k N = .inl 3 := by
            have hl : r.left[k]? = none := by rw [left_get]; simp; omega
            rw [show 6 - k = (5 - k) + 1 from by omega]; unfold numGo; rw [hl]
          have HR := Lib.hid (Rd.num_err r most 3 H0.out (by rw [hgo.out, hr]))
          have HB := Lib.hid hb
          clear hr hgo hNl hb c0 c1 c2 f1 f2 hlt
          generalize 128 ^ k = o
          go_wp2
          refine wp_region_bq (by kernel_rfl) (by kernel_rfl) ?_
          have LQ0 := fun x : BW (World.heap wo).size wo => below_load d0 x.hb (by omega)
          have LQ1 := fun x : BW (World.heap wo).size wo => below_load d1 x.hb (by omega)
          repeat (go_big_quiet_step (fail))
          refine wpQuiet_nil ?_
          intro wq hbq
          clear LQ0 LQ1
          have hb2 := HB.out.trans (hbq.mono HB.out.size)
          have g2 := below_load d2 hbq hbo
          have k2 : wq.frozen? ⟨b, 2, none⟩ = false := by rw [hbq.frozen (p := ⟨b, 2, none⟩) hbo]; exact e2
          have HB2 := Lib.hid hb2
          clear d0 d1 d2 e1 e2 hbq hb2
          go_wp2
          go_ret
          rw [HR.out]
          exact ⟨rfl, ((HA.out.below HB2.out hbl).set 2 (by omega) (.int .i64 ((3 : Nat) : Int))).congr (Rd.upd_err r 3), grown_set (grown_of_below HB2.out _) _⟩
      · obtain rfl : k = 6 := by omega
        have HR := Lib.hid (Rd.num_err r most 4 H0.out (by rw [hgo.out]; rfl))
        have HB := Lib.hid hb
        clear hgo hNl hb c0 c1 c2 f1 f2
        generalize 128 ^ 6 = o
        go_wp2
        go_ret
        rw [HR.out]
        exact ⟨rfl, ((HA.out.below HB.out hbl).set 2 (by omega) (.int .i64 ((4 : Nat) : Int))).congr (Rd.upd_err r 4), grown_set (grown_of_below HB.out _) _⟩
  · have h0' : ((r.err : Int) != 0) = true := by rw [bne_iff_ne]; omega
    have HR : Hid (r.num most = (r, 0)) := by unfold Hid Rd.num; rw [if_pos h0]
    clear h0
    go_enter Tryz.func104, Tryz.ntmps104
    go_wp2
    go_ret
    rw [HR.out]
    exact ⟨rfl, HA.out, grown_of_below (Below.refl _ _) _⟩
end Go.Proofs.YtbmiiiccnoiffaaGreatDoor

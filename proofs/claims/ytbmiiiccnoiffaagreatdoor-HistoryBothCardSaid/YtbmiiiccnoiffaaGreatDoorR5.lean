/- YtbmiiiccnoiffaaGreatDoorR5: texts SB, T1 of this claim, in one. -/
import Derived.Test.YtbmiiiccnoiffaaGreatDoorR4
namespace Go.Proofs.YtbmiiiccnoiffaaGreatDoor
open Go.RowKit

/-- The bytes of a block. -/
def blk (c : ByteArray) (k : Nat) : UInt8 := c.data.toList.getD k 0
def stV (st : Nat → W32) : Value := .agg #[.int .u32 (wn (st 0)), .int .u32 (wn (st 1)), .int .u32 (wn (st 2)), .int .u32 (wn (st 3)), .int .u32 (wn (st 4)), .int .u32 (wn (st 5)), .int .u32 (wn (st 6)), .int .u32 (wn (st 7))]
theorem run_index_str (c : ByteArray) (w : World) (k : Nat) (hk : k < c.size) : (Instr.index 9 (.string c) (.int .i64 (k : Int))).run Tryz.prog w = .ok (.int .u8 (wn (bw (blk c k)))) w := by
  have h1 : (0 : Int) ≤ k := by omega
  have h2 : c[k]? = some (blk c k) := by
    unfold blk
    rw [getElem?_pos c k hk]
    have : c.data.toList[k]? = some c[k] := by simp [hk]; rfl
    simp only [List.getD, this, Option.getD_some]
  unfold Instr.index
  simp only [Sem.run_bind, asIntOf, Sem.run_pure, Result.andThen_ok, run_underlying Tryz.underlying9, if_pos h1, Int.toNat_natCast, h2, wn_bw]
def initR (r : Nat → UInt8) (i : Nat) : Nat → W32 := fun k => if k < i then wordTo r k 4 else 0
theorem initR_next (r : Nat → UInt8) (i : Nat) : upd (initR r i) i (wordTo r i 4) = initR r (i + 1) := by
  funext k; unfold upd initR
  by_cases h : k = i
  · subst h; rw [if_pos rfl, if_pos (by omega)]
  · rw [if_neg h]
    by_cases h2 : k < i
    · rw [if_pos h2, if_pos (by omega)]
    · rw [if_neg h2, if_neg (by omega)]
theorem initR_16 (r : Nat → UInt8) : initR r 16 = initW r 16 0 := by
  funext k; unfold initR initW
  by_cases h : k < 16
  · rw [if_pos h, if_pos h]
  · rw [if_neg h, if_neg h]; split <;> rfl

set_option maxRecDepth 100000 in
set_option maxHeartbeats 1000000 in
theorem block_any (st : Nat → W32) (c : ByteArray) (w : World) (hc : c.size = 64) :
    Calls Tryz.prog 144 #[stV st, .string c] w fun e w' => e = .returned (stV (blockW st (blk c))) ∧ Below w.heap.size w w' := by
  unfold stV
  have HI := Lib.hid (fun (w : World) (k : Nat) (hk : k < 64) => run_index_str c w k (by omega))
  generalize hr : blk c = r at HI
  have HR := Lib.hid hr
  clear hr hc
  have hW0 : ∃ W, W = ((w.alloc (.cells #[.int .u32 (wn (st 0)), .int .u32 (wn (st 1)), .int .u32 (wn (st 2)), .int .u32 (wn (st 3)), .int .u32 (wn (st 4)), .int .u32 (wn (st 5)), .int .u32 (wn (st 6)), .int .u32 (wn (st 7))] 225)).alloc (.cells (Array.replicate 8 (.int .u32 0)) 225)).alloc (.cells (Array.replicate 64 (.int .u32 0)) 271) := ⟨_, rfl⟩
  obtain ⟨W, hW⟩ := hW0
  have hb0 : Below w.heap.size w W := by rw [hW]; exact (((Below.refl _ _).alloc (Nat.le_refl _) _).alloc (by simp) _).alloc (by simp; omega) _
  have hS0 : Arr W w.heap.size 8 (wordsV st) := by rw [hW]; exact ((Arr.eight w st _).alloc (by omega) _).alloc (by omega) _
  have hO0 : Arr W (w.heap.size + 1) 8 (fun _ => .int .u32 0) := by
    rw [hW]
    have h := (Arr.new (w.alloc (.cells #[.int .u32 (wn (st 0)), .int .u32 (wn (st 1)), .int .u32 (wn (st 2)), .int .u32 (wn (st 3)), .int .u32 (wn (st 4)), .int .u32 (wn (st 5)), .int .u32 (wn (st 6)), .int .u32 (wn (st 7))] 225)) 8 (.int .u32 0) 225).alloc (by omega) (.cells (Array.replicate 64 (.int .u32 0)) 271)
    rw [World.size_alloc] at h; exact h
  have hX0 : Arr W (w.heap.size + 2) 64 (wordsV (initR r 0)) := by
    have e : wordsV (initR r 0) = fun _ => .int .u32 0 := by funext k; unfold wordsV initR; rw [if_neg (by omega)]; rfl
    rw [hW, e]
    have h := Arr.new ((w.alloc (.cells #[.int .u32 (wn (st 0)), .int .u32 (wn (st 1)), .int .u32 (wn (st 2)), .int .u32 (wn (st 3)), .int .u32 (wn (st 4)), .int .u32 (wn (st 5)), .int .u32 (wn (st 6)), .int .u32 (wn (st 7))] 225)).alloc (.cells (Array.replicate 8 (.int .u32 0)) 225)) 64 (.int .u32 0) 271
    rw [World.size_alloc, World.size_alloc] at h; exact h
  have HB0 := Lib.hid hb0
  have HS0 := Lib.hid hS0
  have HO0 := Lib.hid hO0
  have HX0 := Lib.hid hX0
  have HW := Lib.hid hW
  clear hb0 hS0 hO0 hX0 hW
  go_enter Tryz.func144, Tryz.ntmps144
  go_wp2
  go_loopw [6] (fun i wr => ∃ k : Nat, k ≤ 16 ∧ i = .int .i64 k ∧ Arr wr (w.heap.size + 2) 64 (wordsV (initR r k)) ∧ Arr wr w.heap.size 8 (wordsV st) ∧ Arr wr (w.heap.size + 1) 8 (fun _ => .int .u32 0) ∧ Below w.heap.size w wr) (fun i _ => (16 - intOf i).toNat)
  case atStart =>
    have e := HW.out
    exact ⟨0, by omega, rfl, by have := HX0.out; rw [e] at this; exact this, by have := HS0.out; rw [e] at this; exact this, by have := HO0.out; rw [e] at this; exact this, by have := HB0.out; rw [e] at this; exact this⟩
  case round =>
    obtain ⟨wo, rfl⟩ : ∃ wo : World, wo = wr := ⟨_, rfl⟩
    obtain ⟨k, hk, rfl, hX, hS, hO, hb⟩ := hrel
    clear HB0 HS0 HO0 HX0 HW
    by_cases hlt : k < 16
    · have i0 := fun w => HI.out w (4 * k) (by omega)
      have i1 := fun w => HI.out w (4 * k + 1) (by omega)
      have i2 := fun w => HI.out w (4 * k + 2) (by omega)
      have i3 := fun w => HI.out w (4 * k + 3) (by omega)
      simp only [Int.natCast_add, Int.natCast_mul, Int.cast_ofNat_Int] at i0 i1 i2 i3
      have b0 := bw_lt (r (4 * k)); have b1 := bw_lt (r (4 * k + 1)); have b2 := bw_lt (r (4 * k + 2)); have b3 := bw_lt (r (4 * k + 3))
      have p0 := wn_0 (bw (r (4 * k))); have p1 := wn_0 (bw (r (4 * k + 1))); have p2 := wn_0 (bw (r (4 * k + 2))); have p3 := wn_0 (bw (r (4 * k + 3)))
      have c1 := hX.cell k (by omega)
      have f1 := hX.free k (by omega)
      unfold wordsV at c1
      have hsX : w.heap.size + 2 < wo.heap.size := hX.lt (by omega)
      have k0 : (0 : Int) ≤ k := by omega
      have k1 : (k : Int) < 16 := by omega
      have hd : decide ((k : Int) < 16) = true := decide_eq_true (by omega)
      have HXX := Lib.hid hX
      have HSS := Lib.hid hS
      have HOO := Lib.hid hO
      have HBB := Lib.hid hb
      clear hX hS hO hb
      go_wp2
      refine wp_region_bt 31 (by kernel_rfl) (by kernel_rfl) ?_
      simp only [List.take_succ_cons, List.take_zero, List.drop_succ_cons, List.drop_zero]
      repeat (go_big_quiet_step (fail))
      refine wpQuiet_nil ?_
      intro wq hbq
      have g1 := below_load c1 hbq hsX
      have h1 : wq.frozen? ⟨w.heap.size + 2, k, none⟩ = false := by rw [hbq.frozen (p := ⟨w.heap.size + 2, k, none⟩) hsX]; exact f1
      clear c1 f1
      go_wp2
      go_roundw
      case rel =>
        rw [word_sum]
        have hx := (HXX.out.below hbq hsX).set k (by omega) (.int .u32 (wn (wordTo r k 4)))
        rw [wordsV_upd, initR_next] at hx
        have hbb := HBB.out
        have hsz := hbb.size
        refine ⟨k + 1, by omega, by go_num, hx, (HSS.out.below hbq (HSS.out.lt (by omega))).far (by show w.heap.size + 2 ≠ w.heap.size; omega) _, (HOO.out.below hbq (HOO.out.lt (by omega))).far (by show w.heap.size + 2 ≠ w.heap.size + 1; omega) _, (hbb.trans (hbq.mono hsz)).setCell (by show w.heap.size ≤ w.heap.size + 2; omega) _⟩
      case measure => simp [intOf]; omega
    · obtain rfl : k = 16 := by omega
      rw [initR_16] at hX
      have HXX := Lib.hid hX
      have HSS := Lib.hid hS
      have HOO := Lib.hid hO
      have HBB := Lib.hid hb
      clear hX hS hO hb
      go_wp2
      go_loopw [7] (fun i wr => ∃ n : Nat, n ≤ 48 ∧ i = .int .i64 (16 + n : Nat) ∧ Arr wr (w.heap.size + 2) 64 (wordsV (schedW r n)) ∧ Arr wr w.heap.size 8 (wordsV st) ∧ Arr wr (w.heap.size + 1) 8 (fun _ => .int .u32 0) ∧ Below w.heap.size w wr) (fun i _ => (64 - intOf i).toNat)
      case atStart => exact ⟨0, by omega, rfl, HXX.out, HSS.out, HOO.out, HBB.out⟩
      case round =>
        obtain ⟨wi, rfl⟩ : ∃ wi : World, wi = wr := ⟨_, rfl⟩
        obtain ⟨n, hn, rfl, hX, hS, hO, hb⟩ := hrel
        clear HXX HSS HOO HBB
        generalize hm : 16 + n = m
        by_cases hnl : n < 48
        · have c2 := hX.cell (m - 2) (by omega)
          have c7 := hX.cell (m - 7) (by omega)
          have c15 := hX.cell (m - 15) (by omega)
          have c16 := hX.cell (m - 16) (by omega)
          have cm := hX.cell m (by omega)
          have fm := hX.free m (by omega)
          have hsz : w.heap.size + 2 < wi.heap.size := hX.lt (by omega)
          unfold wordsV at c2 c7 c15 c16 cm
          have m0 : (16 : Int) ≤ m := by omega
          have m1 : (m : Int) < 64 := by omega
          have hd2 : decide ((m : Int) < 64) = true := decide_eq_true (by omega)
          have HXX := Lib.hid hX
          have HSS := Lib.hid hS
          have HOO := Lib.hid hO
          have HBB := Lib.hid hb
          clear hX hS hO hb
          have a2 : IntKind.i64.wrap ((m : Int) - 2) = (m : Int) - 2 := IntWalk.i64_in _ (by omega)
          have t2 : ((m : Int) - 2).toNat = m - 2 := by omega
          have z2 : (2 : Int) ≤ m := by omega
          have y2 : (m : Int) - 2 < 64 := by omega
          have a7 : IntKind.i64.wrap ((m : Int) - 7) = (m : Int) - 7 := IntWalk.i64_in _ (by omega)
          have t7 : ((m : Int) - 7).toNat = m - 7 := by omega
          have z7 : (7 : Int) ≤ m := by omega
          have y7 : (m : Int) - 7 < 64 := by omega
          have a15 : IntKind.i64.wrap ((m : Int) - 15) = (m : Int) - 15 := IntWalk.i64_in _ (by omega)
          have t15 : ((m : Int) - 15).toNat = m - 15 := by omega
          have z15 : (15 : Int) ≤ m := by omega
          have y15 : (m : Int) - 15 < 64 := by omega
          have a16 : IntKind.i64.wrap ((m : Int) - 16) = (m : Int) - 16 := IntWalk.i64_in _ (by omega)
          have t16 : ((m : Int) - 16).toNat = m - 16 := by omega
          have z16 : (16 : Int) ≤ m := by omega
          have y16 : (m : Int) - 16 < 64 := by omega
          have EA := e_add
          have EX := w_xor
          have ES1 : ∀ x : W32, wn x / (1024 : Int) = wn (x >>> 10) := fun x => e_shr x 10
          have ES2 : ∀ x : W32, wn x / (8 : Int) = wn (x >>> 3) := fun x => e_shr x 3
          have HNW : Hid (nextW (schedW r n) m = turnW (schedW r n (m - 2)) 17 19 10 + schedW r n (m - 7) + turnW (schedW r n (m - 15)) 7 18 3 + schedW r n (m - 16)) := Lib.hid rfl
          generalize schedW r n (m - 2) = y at c2 HNW
          generalize schedW r n (m - 15) = x at c15 HNW
          generalize schedW r n (m - 7) = u at c7 HNW
          generalize schedW r n (m - 16) = v at c16 HNW
          generalize schedW r n m = q at cm
          have K1 : ∀ w, Calls Tryz.prog 182 #[.int .u32 (wn y), .int .u64 17] w fun e w' => e = .returned (.int .u32 (wn (BitVec.rotateRight y 17))) ∧ w' = w := fun w => right_any y 17 17 rfl (by omega) (by omega) w
          have K2 : ∀ w, Calls Tryz.prog 182 #[.int .u32 (wn y), .int .u64 19] w fun e w' => e = .returned (.int .u32 (wn (BitVec.rotateRight y 19))) ∧ w' = w := fun w => right_any y 19 19 rfl (by omega) (by omega) w
          have K3 : ∀ w, Calls Tryz.prog 182 #[.int .u32 (wn x), .int .u64 7] w fun e w' => e = .returned (.int .u32 (wn (BitVec.rotateRight x 7))) ∧ w' = w := fun w => right_any x 7 7 rfl (by omega) (by omega) w
          have K4 : ∀ w, Calls Tryz.prog 182 #[.int .u32 (wn x), .int .u64 18] w fun e w' => e = .returned (.int .u32 (wn (BitVec.rotateRight x 18))) ∧ w' = w := fun w => right_any x 18 18 rfl (by omega) (by omega) w
          go_wp2
          refine wp_region_bq (by kernel_rfl) (by kernel_rfl) ?_
          have LQ0 := fun x : BW (World.heap wi).size wi => below_load c15 x.hb (by omega)
          have LQ1 := fun x : BW (World.heap wi).size wi => below_load c2 x.hb (by omega)
          repeat (go_big_quiet_step (fail))
          refine wpQuiet_nil ?_
          intro wq hbq
          clear LQ0 LQ1
          obtain ⟨wa, rfl⟩ : ∃ wa : World, wa = wq := ⟨_, rfl⟩
          have hb7 := hbq
          clear hbq
          have d7 := below_load c7 hb7 hsz
          have d16 := below_load c16 hb7 hsz
          have hsa : w.heap.size + 2 < wa.heap.size := by have := hb7.size; omega
          go_wp2
          refine wp_region_bt 29 (by kernel_rfl) (by kernel_rfl) ?_
          simp only [List.take_succ_cons, List.take_zero, List.drop_succ_cons, List.drop_zero]
          have LQ0 := fun x : BW (World.heap wa).size wa => below_load d7 x.hb (by omega)
          have LQ1 := fun x : BW (World.heap wa).size wa => below_load d16 x.hb (by omega)
          repeat (go_big_quiet_step ((first | (go_at_call 182; with_reducible exact calls_bw_same (K1 _)) | (go_at_call 182; with_reducible exact calls_bw_same (K2 _)) | (go_at_call 182; with_reducible exact calls_bw_same (K3 _)) | (go_at_call 182; with_reducible exact calls_bw_same (K4 _)))))
          refine wpQuiet_nil ?_
          intro wq hbq
          clear LQ0 LQ1
          have hbe := hb7.trans (hbq.mono hb7.size)
          have cmn := below_load cm hbe hsz
          have fmn : wq.frozen? ⟨w.heap.size + 2, m, none⟩ = false := by rw [hbe.frozen (p := ⟨w.heap.size + 2, m, none⟩) hsz]; exact fm
          have HBE := Lib.hid hbe
          clear c2 c7 c15 c16 cm fm d7 d16 K1 K2 K3 K4 hbq hb7 hbe
          go_wp2
          go_roundw
          case rel =>
            have hx := (HXX.out.below HBE.out hsz).set m (by omega) (.int .u32 (wn (turnW y 17 19 10 + u + turnW x 7 18 3 + v)))
            have e : upd (schedW r n) m (turnW y 17 19 10 + u + turnW x 7 18 3 + v) = schedW r (n + 1) := by rw [← HNW.out, ← hm]; rfl
            rw [wordsV_upd, e] at hx
            have hbb := HBB.out
            exact ⟨n + 1, by omega, by rw [← hm]; go_num, hx, (HSS.out.below HBE.out (HSS.out.lt (by omega))).far (by show w.heap.size + 2 ≠ w.heap.size; omega) _, (HOO.out.below HBE.out (HOO.out.lt (by omega))).far (by show w.heap.size + 2 ≠ w.heap.size + 1; omega) _, (hbb.trans (HBE.out.mono hbb.size)).setCell (by show w.heap.size ≤ w.heap.size + 2; omega) _⟩
          case measure => simp [intOf]; omega
        · obtain rfl : n = 48 := by omega
          obtain rfl : m = 64 := by omega
          have hsz : w.heap.size + 2 < wi.heap.size := hX.lt (by omega)
          have c0 := hS.cell 0 (by omega)
          have c1 := hS.cell 1 (by omega)
          have c2 := hS.cell 2 (by omega)
          have c3 := hS.cell 3 (by omega)
          have c4 := hS.cell 4 (by omega)
          have c5 := hS.cell 5 (by omega)
          have c6 := hS.cell 6 (by omega)
          have c7 := hS.cell 7 (by omega)
          unfold wordsV at c0 c1 c2 c3 c4 c5 c6 c7
          generalize hW : schedW r 48 = Wd at hX
          have HWW := Lib.hid hW
          have HXX := Lib.hid hX
          have HSS := Lib.hid hS
          have HOO := Lib.hid hO
          have HBB := Lib.hid hb
          clear hX hS hO hb hW
          go_wp2_with fail
          refine (rounds_any _).mono ?_
          rintro e w1 ⟨rfl, hb1⟩
          have hA1 := Arr.new w1 64 (.int .u32 0) 271
          have hA2 := hA1.setAll kV kV_len
          have h64 : (Tryz.prog.info? 271).map (·.size) = some 64 := by kernel_rfl
          have hone : ∀ v ∈ kV, v.oneCell' = true := by
            intro v hv; obtain ⟨x, _, rfl⟩ := List.mem_map.1 hv; rfl
          have hK : ∀ k, k < 64 → kV.getD k undef = .int .u32 (wn (rK k)) := fun k hk => by
            unfold kV rK
            have : k < roundK.length := by rw [roundK_len]; exact hk
            simp [this]
          have hA3 := hA2.congr hK
          have hbs : Below w1.heap.size w1 ((w1.alloc (.cells (Array.replicate 64 (.int .u32 0)) 271)).setCells w1.heap.size 0 kV) := below_setCells _ (Nat.le_refl _) kV 0 _ ((Below.refl _ _).alloc (Nat.le_refl _) _)
          have HTH := Lib.hid hA1.there
          have HON := Lib.hid hone
          have HLN := Lib.hid kV_len
          have HA3 := Lib.hid hA3
          have HBS := Lib.hid hbs
          clear hA1 hA2 hA3 hone hK hbs
          generalize kV = KV at HTH HON HLN HA3 HBS
          go_wp2_with (refine wpList_store_list rfl 271 _ _ rfl w1.heap.size 0 KV ?y1 ?y2 64 HLN.out ?y4 h64 HON.out ?_)
          case y4 => exact HTH.out
          try case y1 => rfl
          try case y2 => rfl
          generalize hWc : World.setCells _ w1.heap.size 0 KV = wc
          have hA4 : Arr wc w1.heap.size 64 (fun k => .int .u32 (wn (rK k))) := by rw [← hWc]; exact HA3.out
          have hbc : Below wi.heap.size wi wc := hb1.trans ((by rw [← hWc]; exact HBS.out : Below w1.heap.size w1 wc).mono hb1.size)
          have hsc : w1.heap.size < wc.heap.size := hA4.lt (by omega)
          have hs1 := hb1.size
          have HA4 := Lib.hid hA4
          have HBC := Lib.hid hbc
          have d0 := below_load c0 hbc (by omega)
          have d1 := below_load c1 hbc (by omega)
          have d2 := below_load c2 hbc (by omega)
          have d3 := below_load c3 hbc (by omega)
          have d4 := below_load c4 hbc (by omega)
          have d5 := below_load c5 hbc (by omega)
          have d6 := below_load c6 hbc (by omega)
          have d7 := below_load c7 hbc (by omega)
          clear hWc HA3 HBS HTH HON HLN hA4 hbc hb1 c0 c1 c2 c3 c4 c5 c6 c7
          go_wp2
          simp only [Act.put]
          refine wp_region_bq (by kernel_rfl) (by kernel_rfl) ?_
          have LQ0 := fun x : BW (World.heap wc).size wc => below_load d0 x.hb (by omega)
          have LQ1 := fun x : BW (World.heap wc).size wc => below_load d1 x.hb (by omega)
          have LQ2 := fun x : BW (World.heap wc).size wc => below_load d2 x.hb (by omega)
          have LQ3 := fun x : BW (World.heap wc).size wc => below_load d3 x.hb (by omega)
          repeat (go_big_quiet_step (fail))
          refine wpQuiet_nil ?_
          intro wq hbq
          clear LQ0 LQ1 LQ2 LQ3
          obtain ⟨wd, rfl⟩ : ∃ wd : World, wd = wq := ⟨_, rfl⟩
          have hbd := hbq
          clear hbq
          have g4 := below_load d4 hbd (by omega)
          have g5 := below_load d5 hbd (by omega)
          have g6 := below_load d6 hbd (by omega)
          have g7 := below_load d7 hbd (by omega)
          have hsd : w1.heap.size < wd.heap.size := by have := hbd.size; omega
          go_wp2
          refine wp_region_bq (by kernel_rfl) (by kernel_rfl) ?_
          have LQ0 := fun x : BW (World.heap wd).size wd => below_load g4 x.hb (by omega)
          have LQ1 := fun x : BW (World.heap wd).size wd => below_load g5 x.hb (by omega)
          have LQ2 := fun x : BW (World.heap wd).size wd => below_load g6 x.hb (by omega)
          have LQ3 := fun x : BW (World.heap wd).size wd => below_load g7 x.hb (by omega)
          repeat (go_big_quiet_step (fail))
          refine wpQuiet_nil ?_
          intro wq hbq
          clear LQ0 LQ1 LQ2 LQ3
          have hbf : Below wi.heap.size wi wq := HBC.out.trans ((hbd.trans (hbq.mono hbd.size)).mono HBC.out.size)
          have hK5 : Arr wq w1.heap.size 64 (fun k => .int .u32 (wn (rK k))) := HA4.out.below (hbd.trans (hbq.mono hbd.size)) hsc
          have HBF := Lib.hid hbf
          have HK5 := Lib.hid hK5
          obtain ⟨wg, rfl⟩ : ∃ wg : World, wg = wq := ⟨_, rfl⟩
          clear d0 d1 d2 d3 d4 d5 d6 d7 g4 g5 g6 g7 hbd hbq hbf hK5
          go_wp2
          go_loopw [11, 12, 13, 14, 15, 16, 17, 18, 19] (fun v0 v1 v2 v3 v4 v5 v6 v7 i wr => ∃ n : Nat, n ≤ 64 ∧ i = .int .i64 n ∧ v0 = .int .u32 (wn (roundsW Wd st n 0)) ∧ v1 = .int .u32 (wn (roundsW Wd st n 1)) ∧ v2 = .int .u32 (wn (roundsW Wd st n 2)) ∧ v3 = .int .u32 (wn (roundsW Wd st n 3)) ∧ v4 = .int .u32 (wn (roundsW Wd st n 4)) ∧ v5 = .int .u32 (wn (roundsW Wd st n 5)) ∧ v6 = .int .u32 (wn (roundsW Wd st n 6)) ∧ v7 = .int .u32 (wn (roundsW Wd st n 7)) ∧ Below wg.heap.size wg wr) (fun _ _ _ _ _ _ _ _ i _ => (64 - intOf i).toNat)
          case atStart => exact ⟨0, by omega, rfl, rfl, rfl, rfl, rfl, rfl, rfl, rfl, rfl, Below.refl _ _⟩
          case round =>
            obtain ⟨wh, rfl⟩ : ∃ wh : World, wh = wr := ⟨_, rfl⟩
            obtain ⟨n, hn, rfl, rfl, rfl, rfl, rfl, rfl, rfl, rfl, rfl, hbh⟩ := hrel
            have hsg : w1.heap.size < wg.heap.size := HK5.out.lt (by omega)
            have hsh := hbh.size
            by_cases hnl : n < 64
            · have cK := (HK5.out.below hbh hsg).cell n (by omega)
              have hXg : Arr wg (w.heap.size + 2) 64 (wordsV Wd) := HXX.out.below HBF.out hsz
              have hsz2 : w.heap.size + 2 < wg.heap.size := hXg.lt (by omega)
              have cW := (hXg.below hbh hsz2).cell n (by omega)
              unfold wordsV at cW
              have n0 : (0 : Int) ≤ n := by omega
              have n1 : (n : Int) < 64 := by omega
              have hd3 : decide ((n : Int) < 64) = true := decide_eq_true (by omega)
              have HRN : Hid (roundsW Wd st (n + 1) = stepW (roundsW Wd st n) (rK n) (Wd n)) := Lib.hid rfl
              generalize roundsW Wd st n = R at HRN
              have HHB := Lib.hid hbh
              clear hXg hbh
              have EA := e_add
              have EX := w_xor
              have EN := w_and
              have EO := w_or
              have EC := w_not2
              have K1 : ∀ w, Calls Tryz.prog 182 #[.int .u32 (wn (R 4)), .int .u64 6] w fun e w' => e = .returned (.int .u32 (wn (BitVec.rotateRight (R 4) 6))) ∧ w' = w := fun w => right_any (R 4) 6 6 rfl (by omega) (by omega) w
              have K2 : ∀ w, Calls Tryz.prog 182 #[.int .u32 (wn (R 4)), .int .u64 11] w fun e w' => e = .returned (.int .u32 (wn (BitVec.rotateRight (R 4) 11))) ∧ w' = w := fun w => right_any (R 4) 11 11 rfl (by omega) (by omega) w
              have K3 : ∀ w, Calls Tryz.prog 182 #[.int .u32 (wn (R 4)), .int .u64 25] w fun e w' => e = .returned (.int .u32 (wn (BitVec.rotateRight (R 4) 25))) ∧ w' = w := fun w => right_any (R 4) 25 25 rfl (by omega) (by omega) w
              go_wp2
              refine wp_region_bq (by kernel_rfl) (by kernel_rfl) ?_
              have LQ0 := fun x : BW (World.heap wh).size wh => below_load cK x.hb (by omega)
              have LQ1 := fun x : BW (World.heap wh).size wh => below_load cW x.hb (by omega)
              repeat (go_big_quiet_step ((first | (go_at_call 182; with_reducible exact calls_bw_same (K1 _)) | (go_at_call 182; with_reducible exact calls_bw_same (K2 _)) | (go_at_call 182; with_reducible exact calls_bw_same (K3 _)))))
              refine wpQuiet_nil ?_
              intro wq hbq
              clear LQ0 LQ1
              obtain ⟨wj, rfl⟩ : ∃ wj : World, wj = wq := ⟨_, rfl⟩
              have HBQ := Lib.hid hbq
              clear hbq K1 K2 K3 cK cW
              rw [e_add]
              have eT : R 7 + (BitVec.rotateRight (R 4) 6 ^^^ BitVec.rotateRight (R 4) 11 ^^^ BitVec.rotateRight (R 4) 25) + (R 4 &&& R 5 ||| ~~~R 4 &&& R 6) + rK n + Wd n = tW R (rK n) (Wd n) := by unfold tW spinW; rw [ch_or]
              rw [eT]
              clear eT
              generalize hT : tW R (rK n) (Wd n) = T
              have HTT := Lib.hid hT
              clear hT
              go_wp2_with (go_at_call 182; first | ((with_reducible refine (right_any (R 0) 2 2 rfl (by omega) (by omega) _).mono ?_); rintro e w' ⟨rfl, rfl⟩) | ((with_reducible refine (right_any (R 0) 13 13 rfl (by omega) (by omega) _).mono ?_); rintro e w' ⟨rfl, rfl⟩) | ((with_reducible refine (right_any (R 0) 22 22 rfl (by omega) (by omega) _).mono ?_); rintro e w' ⟨rfl, rfl⟩))
              go_roundw
              case rel =>
                rw [e_add, e_add]
                have eU : (BitVec.rotateRight (R 0) 2 ^^^ BitVec.rotateRight (R 0) 13 ^^^ BitVec.rotateRight (R 0) 22) + (R 0 &&& R 1 ||| R 0 &&& R 2 ||| R 1 &&& R 2) = uW R := by unfold uW spinW; rw [maj_or]
                rw [eU]
                have h0 : roundsW Wd st (n + 1) 0 = T + uW R := by rw [HRN.out, ← HTT.out]; rfl
                have h4 : roundsW Wd st (n + 1) 4 = R 3 + T := by rw [HRN.out, ← HTT.out]; rfl
                have hh : ∀ k, roundsW Wd st (n + 1) k = stepW R (rK n) (Wd n) k := fun k => by rw [HRN.out]
                refine ⟨n + 1, by omega, by go_num, by rw [h0], by rw [hh]; rfl, by rw [hh]; rfl, by rw [hh]; rfl, by rw [h4], by rw [hh]; rfl, by rw [hh]; rfl, by rw [hh]; rfl, HHB.out.trans (HBQ.out.mono HHB.out.size)⟩
              case measure => simp [intOf]; omega
            · obtain rfl : n = 64 := by omega
              have hSg : Arr wg w.heap.size 8 (wordsV st) := HSS.out.below HBF.out (by omega)
              have hOg : Arr wg (w.heap.size + 1) 8 (fun _ => .int .u32 0) := HOO.out.below HBF.out (by omega)
              have hlg : w.heap.size + 1 < wg.heap.size := hOg.lt (by omega)
              have hSh := hSg.below hbh (by omega)
              have hOh := hOg.below hbh (by omega)
              have c0 := hSh.cell 0 (by omega)
              have c1 := hSh.cell 1 (by omega)
              have c2 := hSh.cell 2 (by omega)
              have c3 := hSh.cell 3 (by omega)
              have c4 := hSh.cell 4 (by omega)
              have c5 := hSh.cell 5 (by omega)
              have c6 := hSh.cell 6 (by omega)
              have c7 := hSh.cell 7 (by omega)
              unfold wordsV at c0 c1 c2 c3 c4 c5 c6 c7
              have hfin : ∀ k, blockW st r k = st k + roundsW Wd st 64 k := fun k => by unfold blockW; rw [HWW.out]
              generalize roundsW Wd st 64 = X at hfin
              have HF := Lib.hid hfin
              have hth := hOh.there
              have h8 : (Tryz.prog.info? 225).map (·.size) = some 8 := by kernel_rfl
              have hbw : Below w.heap.size w wh := by
                have h1 := HBB.out; have h2 := HBF.out
                exact (h1.trans (h2.mono h1.size)).trans (hbh.mono (Nat.le_trans h1.size h2.size))
              have hfr := World.rangeAt_setCells_same wh (w.heap.size + 1) 0 [.int .u32 (wn (st 0 + X 0)), .int .u32 (wn (st 1 + X 1)), .int .u32 (wn (st 2 + X 2)), .int .u32 (wn (st 3 + X 3)), .int .u32 (wn (st 4 + X 4)), .int .u32 (wn (st 5 + X 5)), .int .u32 (wn (st 6 + X 6)), .int .u32 (wn (st 7 + X 7))] hth
              have hbf := below_setCells (B := w.heap.size) (a := w) (w.heap.size + 1) (by omega) [.int .u32 (wn (st 0 + X 0)), .int .u32 (wn (st 1 + X 1)), .int .u32 (wn (st 2 + X 2)), .int .u32 (wn (st 3 + X 3)), .int .u32 (wn (st 4 + X 4)), .int .u32 (wn (st 5 + X 5)), .int .u32 (wn (st 6 + X 6)), .int .u32 (wn (st 7 + X 7))] 0 wh hbw
              have HTH := Lib.hid hth
              have HFR := Lib.hid hfr
              have HBW := Lib.hid hbf
              have EA := e_add
              clear hSg hOg hSh hOh hfin hth hfr hbf hbw hbh
              go_wp2_with (refine wpList_store_list rfl 225 _ _ rfl (w.heap.size + 1) 0 [.int .u32 (wn (st 0 + X 0)), .int .u32 (wn (st 1 + X 1)), .int .u32 (wn (st 2 + X 2)), .int .u32 (wn (st 3 + X 3)), .int .u32 (wn (st 4 + X 4)), .int .u32 (wn (st 5 + X 5)), .int .u32 (wn (st 6 + X 6)), .int .u32 (wn (st 7 + X 7))] ?z1 ?z2 8 rfl HTH.out h8 ?z3 ?_)
              try case z1 => rfl
              try case z2 => go_simp
              case z3 => simp [Value.oneCell']
              rw [HF.out 0, HF.out 1, HF.out 2, HF.out 3, HF.out 4, HF.out 5, HF.out 6, HF.out 7]
              simp only [Act.put]
              refine ret_cell rfl (w.heap.size + 1) 0 rfl [.int .u32 (wn (st 0 + X 0)), .int .u32 (wn (st 1 + X 1)), .int .u32 (wn (st 2 + X 2)), .int .u32 (wn (st 3 + X 3)), .int .u32 (wn (st 4 + X 4)), .int .u32 (wn (st 5 + X 5)), .int .u32 (wn (st 6 + X 6)), .int .u32 (wn (st 7 + X 7))] _ HFR.out Tryz.underlying225 rfl h8 rfl ⟨rfl, HBW.out⟩
end Go.Proofs.YtbmiiiccnoiffaaGreatDoor
namespace Go.Proofs.YtbmiiiccnoiffaaGreatDoor
open Go.RowKit

/-- A number, from place i on, n being read: an error's number, or the number and how many bytes it has. -/
def numGo (l : List UInt8) (most : Nat) : Nat → Nat → Nat → Sum Nat (Nat × Nat)
  | 0, _, _ => .inl 4
  | f + 1, i, n => match l[i]? with
    | none => .inl 3
    | some b => if 128 ≤ b.toNat then numGo l most f (i + 1) (n + b.toNat % 128 * 128 ^ i)
      else if b.toNat = 0 ∧ 0 < i then .inl 2
      else if 1099511627775 < n + b.toNat % 128 * 128 ^ i ∨ most < n + b.toNat % 128 * 128 ^ i then .inl 4
      else .inr (n + b.toNat % 128 * 128 ^ i, i + 1)
def Rd.left (r : Rd) : List UInt8 := r.s.data.toList.drop r.pos
def Rd.num (r : Rd) (most : Nat) : Rd × Nat := if r.err ≠ 0 then (r, 0) else match numGo r.left most 6 0 0 with
  | .inl e => ({ r with err := e }, 0)
  | .inr x => ({ r with pos := r.pos + x.2 }, x.1)
theorem left_get (r : Rd) (k : Nat) : r.left[k]? = r.s.data.toList[r.pos + k]? := by unfold Rd.left; rw [List.getElem?_drop]
theorem numGo_bounds (l : List UInt8) (most : Nat) : ∀ f i n, (∀ e, numGo l most f i n = .inl e → e ≤ 4 ∧ 0 < e) ∧ (∀ x, numGo l most f i n = .inr x → x.2 ≤ l.length ∧ x.1 ≤ most ∧ i < x.2 ∧ x.1 ≤ 1099511627775)
  | 0, i, n => ⟨fun e h => by cases h; omega, fun x h => by cases h⟩
  | f + 1, i, n => by
    unfold numGo
    cases hl : l[i]? with
    | none => exact ⟨fun e h => by cases h; omega, fun x h => by cases h⟩
    | some b =>
      dsimp only
      have hi : i < l.length := (List.getElem?_eq_some_iff.1 hl).1
      by_cases h1 : 128 ≤ b.toNat
      · rw [if_pos h1]
        obtain ⟨a1, a2⟩ := numGo_bounds l most f (i + 1) (n + b.toNat % 128 * 128 ^ i)
        exact ⟨a1, fun x h => by obtain ⟨q1, q2, q3, q4⟩ := a2 x h; exact ⟨q1, q2, by omega, q4⟩⟩
      · rw [if_neg h1]
        by_cases h2 : b.toNat = 0 ∧ 0 < i
        · rw [if_pos h2]; exact ⟨fun e h => by cases h; omega, fun x h => by cases h⟩
        · rw [if_neg h2]
          by_cases h3 : 1099511627775 < n + b.toNat % 128 * 128 ^ i ∨ most < n + b.toNat % 128 * 128 ^ i
          · rw [if_pos h3]; exact ⟨fun e h => by cases h; omega, fun x h => by cases h⟩
          · rw [if_neg h3]
            refine ⟨fun e h => (by cases h), fun x h => ?_⟩
            cases h
            exact ⟨by omega, by omega, by omega, by omega⟩
theorem Rd.num_fine (r : Rd) (most : Nat) (h : r.fine) : (r.num most).1.fine ∧ (r.num most).2 ≤ most := by
  unfold Rd.num
  split
  · exact ⟨h, Nat.zero_le _⟩
  · obtain ⟨a1, a2⟩ := numGo_bounds r.left most 6 0 0
    split
    · rename_i e he
      have := a1 e he
      exact ⟨⟨h.pos, h.size, by show e ≤ 100; omega⟩, Nat.zero_le _⟩
    · rename_i x hx
      obtain ⟨q1, q2, _, _⟩ := a2 x hx
      have hl : r.left.length = r.s.size - r.pos := by unfold Rd.left; simp
      have := h.pos
      exact ⟨⟨by show r.pos + x.2 ≤ r.s.size; omega, h.size, h.err⟩, q2⟩

theorem Rd.num_err (r : Rd) (most e : Nat) (h0 : r.err = 0) (h : numGo r.left most 6 0 0 = .inl e) : r.num most = ({ r with err := e }, 0) := by
  unfold Rd.num; rw [if_neg (by simp [h0]), h]
theorem Rd.num_ok (r : Rd) (most : Nat) (x : Nat × Nat) (h0 : r.err = 0) (h : numGo r.left most 6 0 0 = .inr x) : r.num most = ({ r with pos := r.pos + x.2 }, x.1) := by
  unfold Rd.num; rw [if_neg (by simp [h0]), h]

set_option maxRecDepth 100000 in
set_option maxHeartbeats 2000000 in
theorem rnum_any (b : Nat) (r : Rd) (most : Nat) (w : World) (hA : Arr w b 3 r.c) (hf : r.fine) (hn : most ≤ 1000000000) :
    Calls Tryz.prog 104 #[.pointer (some ⟨b, 0, none⟩), .int .i64 (most : Int)] w fun e w' => e = .returned (.int .i64 ((r.num most).2 : Int)) ∧ Arr w' b 3 (r.num most).1.c ∧ w.grownBy w' (some b) := by
  have hbl : b < w.heap.size := hA.lt (by omega)
  have c0 : w.cell? ⟨b, 0, none⟩ = some (.string r.s) := hA.cell 0 (by omega)
  have c1 : w.cell? ⟨b, 1, none⟩ = some (.int .i64 (r.pos : Int)) := hA.cell 1 (by omega)
  have c2 : w.cell? ⟨b, 2, none⟩ = some (.int .i64 (r.err : Int)) := hA.cell 2 (by omega)
  have f1 := hA.free 1 (by omega)
  have f2 := hA.free 2 (by omega)
  have hp := hf.pos
  have hs := hf.size
  have he := hf.err
  have HA := Lib.hid hA
  clear hA hf
  by_cases h0 : r.err = 0
  · have h0' : ((r.err : Int) != 0) = false := by rw [bne_eq_false_iff_eq]; omega
    have H0 := Lib.hid h0
    clear h0
    go_enter Tryz.func104, Tryz.ntmps104
    go_wp2
    go_loopw [5, 6, 7] (fun n o i wr => ∃ k N : Nat, k ≤ 6 ∧ i = .int .i64 k ∧ n = .int .i64 N ∧ o = .int .i64 ((128 ^ k : Nat) : Int) ∧ N ≤ 4398046511104 ∧ Hid (numGo r.left most 6 0 0 = numGo r.left most (6 - k) k N) ∧ Hid (N < 128 ^ k) ∧ Below w.heap.size w wr) (fun _ _ i _ => (6 - intOf i).toNat)
    case atStart => exact ⟨0, 0, by omega, rfl, rfl, rfl, by omega, rfl, by unfold Hid; decide, Below.refl _ _⟩
    case round =>
      obtain ⟨wo, rfl⟩ : ∃ wo : World, wo = wr := ⟨_, rfl⟩
      obtain ⟨k, N, hk, rfl, rfl, rfl, hN, hgo, hNl, hb⟩ := hrel
      have d0 := below_load c0 hb hbl
      have d1 := below_load c1 hb hbl
      have d2 := below_load c2 hb hbl
      have e1 : wo.frozen? ⟨b, 1, none⟩ = false := by rw [hb.frozen (p := ⟨b, 1, none⟩) hbl]; exact f1
      have e2 : wo.frozen? ⟨b, 2, none⟩ = false := by rw [hb.frozen (p := ⟨b, 2, none⟩) hbl]; exact f2
      have hbo : b < wo.heap.size := by have := hb.size; omega
      by_cases hk6 : k < 6
      · have k0 : (0 : Int) ≤ k := by omega
        have k1 : (k : Int) < 6 := by omega
        have hd : decide ((k : Int) < 6) = true := decide_eq_true (by omega)
        by_cases hlt : r.pos + k < r.s.size
        · have hxk : r.s.data.toList[r.pos + k]? = some (blk r.s (r.pos + k)) := by
            unfold blk
            have hl : r.pos + k < r.s.data.toList.length := by simp; omega
            simp only [List.getD, List.getElem?_eq_getElem hl, Option.getD_some]
          have HI : ∀ w, (Instr.index 9 (.string r.s) (.int .i64 ((r.pos : Int) + k))).run Tryz.prog w = .ok (.int .u8 (wn (bw (blk r.s (r.pos + k))))) w := fun w => run_index_str r.s w (r.pos + k) hlt
          have hwn := wn_bw (blk r.s (r.pos + k))
          have hX : (blk r.s (r.pos + k)).toNat < 256 := (blk r.s (r.pos + k)).toNat_lt
          have hl : r.left[k]? = some (blk r.s (r.pos + k)) := by rw [left_get]; exact hxk
          have hstep : numGo r.left most (6 - k) k N = if 128 ≤ (blk r.s (r.pos + k)).toNat then numGo r.left most (5 - k) (k + 1) (N + (blk r.s (r.pos + k)).toNat % 128 * 128 ^ k)
              else if (blk r.s (r.pos + k)).toNat = 0 ∧ 0 < k then .inl 2
              else if 1099511627775 < N + (blk r.s (r.pos + k)).toNat % 128 * 128 ^ k ∨ most < N + (blk r.s (r.pos + k)).toNat % 128 * 128 ^ k then .inl 4
              else .inr (N + (blk r.s (r.pos + k)).toNat % 128 * 128 ^ k, k + 1) := by
            rw [show 6 - k = (5 - k) + 1 from by omega]; conv => lhs; unfold numGo
            rw [hl]
          rw [← hwn] at HI
          generalize (blk r.s (r.pos + k)).toNat = X at HI hX hstep
          have ho : 128 ^ k ≤ 34359738368 := by
            have : 128 ^ k ≤ 128 ^ 5 := Nat.pow_le_pow_right (by omega) (by omega)
            omega
          have ho1 : 128 ^ (k + 1) = 128 ^ k * 128 := Nat.pow_succ 128 k
          have hgo2 := hgo.out
          rw [hstep] at hgo2
          have hNo := hNl.out
          have HO1 := Lib.hid ho1
          have hpp : ∃ p, p = X % 128 * 128 ^ k := ⟨_, rfl⟩
          obtain ⟨p, hpd⟩ := hpp
          have hpb : p ≤ 4363686772736 := by
            rw [hpd]
            exact Nat.le_trans (Nat.mul_le_mul (show X % 128 ≤ 127 by omega) ho) (by omega)
          have hpl : N + p < 128 ^ (k + 1) := by
            rw [ho1, hpd]
            have h1 : X % 128 * 128 ^ k ≤ 127 * 128 ^ k := Nat.mul_le_mul (by omega) (Nat.le_refl _)
            omega
          rw [← hpd] at hgo2
          have hw1 : IntKind.i64.wrap ((X : Int) % 128 * ((128 ^ k : Nat) : Int)) = (p : Int) := by
            rw [hpd]
            have e : ((X % 128 * 128 ^ k : Nat) : Int) = (X : Int) % 128 * ((128 ^ k : Nat) : Int) := by push_cast; rfl
            rw [← e, ← hpd]; exact IntWalk.i64_in _ (by omega)
          have HPL := Lib.hid hpl
          have HGO := Lib.hid hgo2
          have HB := Lib.hid hb
          clear hpd hgo2 hstep hgo hNl hNo ho1 hl hxk hwn hb c0 c1 c2 f1 f2 hpl
          generalize ho2 : 128 ^ k = o at hw1 ho HO1
          have HOO := Lib.hid ho2
          clear ho2
          have hd2 : decide (((r.s.size : Int)) ≤ (r.pos : Int) + k) = false := decide_eq_false (by omega)
          have x0 : (0 : Int) ≤ X := by omega
          have x1 : (X : Int) < 256 := by omega
          by_cases h128 : 128 ≤ X
          · have hdx : decide ((128 : Int) ≤ X) = true := decide_eq_true (by omega)
            go_wp2
            refine wp_region_bq (by kernel_rfl) (by kernel_rfl) ?_
            have LQ0 := fun x : BW (World.heap wo).size wo => below_load d0 x.hb (by omega)
            have LQ1 := fun x : BW (World.heap wo).size wo => below_load d1 x.hb (by omega)
            repeat (go_big_quiet_step (fail))
            refine wpQuiet_nil ?_
            intro wq hbq
            clear LQ0 LQ1
            obtain ⟨wa, rfl⟩ : ∃ wa : World, wa = wq := ⟨_, rfl⟩
            have hba := hbq
            clear hbq
            have q0 := below_load d0 hba hbo
            have q1 := below_load d1 hba hbo
            have hboa : b < wa.heap.size := by have := hba.size; omega
            go_wp2
            refine wp_region_bq (by kernel_rfl) (by kernel_rfl) ?_
            have LQ0 := fun x : BW (World.heap wa).size wa => below_load q0 x.hb (by omega)
            have LQ1 := fun x : BW (World.heap wa).size wa => below_load q1 x.hb (by omega)
            repeat (go_big_quiet_step (fail))
            refine wpQuiet_nil ?_
            intro wq hbq
            clear LQ0 LQ1
            have hbq2 := hba.trans (hbq.mono hba.size)
            clear q0 q1 hba hbq
            have hb2 := HB.out.trans (hbq2.mono HB.out.size)
            have g1 := below_load d1 hbq2 hbo
            have g2 := below_load d2 hbq2 hbo
            have k1' : wq.frozen? ⟨b, 1, none⟩ = false := by rw [hbq2.frozen (p := ⟨b, 1, none⟩) hbo]; exact e1
            have k2 : wq.frozen? ⟨b, 2, none⟩ = false := by rw [hbq2.frozen (p := ⟨b, 2, none⟩) hbo]; exact e2
            have HB2 := Lib.hid hb2
            clear d0 d1 d2 e1 e2 hbq2 hb2 HI
            go_wp2
            go_roundw
            case rel =>
              have h7 : 128 ^ (k + 1) ≤ 128 ^ 6 := Nat.pow_le_pow_right (by omega) (by omega)
              have h8 := HPL.out
              refine ⟨k + 1, N + p, by omega, by go_num, by go_num, vi64 (by rw [HO1.out]; push_cast; rfl), by omega, ?_, h8, HB2.out⟩
              show numGo r.left most 6 0 0 = numGo r.left most (6 - (k + 1)) (k + 1) (N + p)
              rw [HGO.out, if_pos h128, show 6 - (k + 1) = 5 - k from by omega]
            case measure => simp [intOf]; omega
          · have hdx : decide ((128 : Int) ≤ X) = false := decide_eq_false (by omega)
            by_cases hz : X = 0 ∧ 0 < k
            · have hr : numGo r.left most 6 0 0 = .inl 2 := by rw [HGO.out, if_neg h128, if_pos hz]
              have HR := Lib.hid (Rd.num_err r most 2 H0.out hr)
              have hx1 : ((X : Int) == 0) = true := by rw [beq_iff_eq]; omega
              have hk1 : decide ((0 : Int) < k) = true := decide_eq_true (by omega)
              have hk2 : 0 < k := hz.2
              clear hz hr h128
              go_wp2
              refine wp_region_bq (by kernel_rfl) (by kernel_rfl) ?_
              have LQ0 := fun x : BW (World.heap wo).size wo => below_load d0 x.hb (by omega)
              have LQ1 := fun x : BW (World.heap wo).size wo => below_load d1 x.hb (by omega)
              repeat (go_big_quiet_step (fail))
              refine wpQuiet_nil ?_
              intro wq hbq
              clear LQ0 LQ1
              obtain ⟨wa, rfl⟩ : ∃ wa : World, wa = wq := ⟨_, rfl⟩
              have hba := hbq
              clear hbq
              have q0 := below_load d0 hba hbo
              have q1 := below_load d1 hba hbo
              have hboa : b < wa.heap.size := by have := hba.size; omega
              go_wp2
              refine wp_region_bq (by kernel_rfl) (by kernel_rfl) ?_
              have LQ0 := fun x : BW (World.heap wa).size wa => below_load q0 x.hb (by omega)
              have LQ1 := fun x : BW (World.heap wa).size wa => below_load q1 x.hb (by omega)
              repeat (go_big_quiet_step (fail))
              refine wpQuiet_nil ?_
              intro wq hbq
              clear LQ0 LQ1
              have hbq2 := hba.trans (hbq.mono hba.size)
              clear q0 q1 hba hbq
              have hb2 := HB.out.trans (hbq2.mono HB.out.size)
              have g1 := below_load d1 hbq2 hbo
              have g2 := below_load d2 hbq2 hbo
              have k1' : wq.frozen? ⟨b, 1, none⟩ = false := by rw [hbq2.frozen (p := ⟨b, 1, none⟩) hbo]; exact e1
              have k2 : wq.frozen? ⟨b, 2, none⟩ = false := by rw [hbq2.frozen (p := ⟨b, 2, none⟩) hbo]; exact e2
              have HB2 := Lib.hid hb2
              clear d0 d1 d2 e1 e2 hbq2 hb2 HI
              go_wp2
              go_ret
              rw [HR.out]
              exact ⟨rfl, ((HA.out.below HB2.out hbl).set 2 (by omega) (.int .i64 ((2 : Nat) : Int))).congr (Rd.upd_err r 2), grown_set (grown_of_below HB2.out _) _⟩
            · by_cases hx0 : X = 0
              · skip
                by_cases hA : 1099511627775 < N + p
                · skip
                  have hr : numGo r.left most 6 0 0 = .inl 4 := by rw [HGO.out, if_neg h128, if_neg hz, if_pos (by omega)]
                  have HR := Lib.hid (Rd.num_err r most 4 H0.out hr)
                  have hx1 : ((X : Int) == 0) = true := by rw [beq_iff_eq]; omega
                  have hk1 : decide ((0 : Int) < k) = false := decide_eq_false (by omega)
                  have hk3 : decide (0 < k) = false := decide_eq_false (by omega)
                  have hb1 : decide ((1099511627775 : Int) < (N : Int) + p) = true := decide_eq_true (by omega)
                  clear hz hr h128 hx0
                  go_wp2
                  refine wp_region_bq (by kernel_rfl) (by kernel_rfl) ?_
                  have LQ0 := fun x : BW (World.heap wo).size wo => below_load d0 x.hb (by omega)
                  have LQ1 := fun x : BW (World.heap wo).size wo => below_load d1 x.hb (by omega)
                  repeat (go_big_quiet_step (fail))
                  refine wpQuiet_nil ?_
                  intro wq hbq
                  clear LQ0 LQ1
                  obtain ⟨wa, rfl⟩ : ∃ wa : World, wa = wq := ⟨_, rfl⟩
                  have hba := hbq
                  clear hbq
                  have q0 := below_load d0 hba hbo
                  have q1 := below_load d1 hba hbo
                  have hboa : b < wa.heap.size := by have := hba.size; omega
                  go_wp2
                  refine wp_region_bq (by kernel_rfl) (by kernel_rfl) ?_
                  have LQ0 := fun x : BW (World.heap wa).size wa => below_load q0 x.hb (by omega)
                  have LQ1 := fun x : BW (World.heap wa).size wa => below_load q1 x.hb (by omega)
                  repeat (go_big_quiet_step (fail))
                  refine wpQuiet_nil ?_
                  intro wq hbq
                  clear LQ0 LQ1
                  have hbq2 := hba.trans (hbq.mono hba.size)
                  clear q0 q1 hba hbq
                  have hb2 := HB.out.trans (hbq2.mono HB.out.size)
                  have g1 := below_load d1 hbq2 hbo
                  have g2 := below_load d2 hbq2 hbo
                  have k1' : wq.frozen? ⟨b, 1, none⟩ = false := by rw [hbq2.frozen (p := ⟨b, 1, none⟩) hbo]; exact e1
                  have k2 : wq.frozen? ⟨b, 2, none⟩ = false := by rw [hbq2.frozen (p := ⟨b, 2, none⟩) hbo]; exact e2
                  have HB2 := Lib.hid hb2
                  clear d0 d1 d2 e1 e2 hbq2 hb2 HI
                  go_wp2
                  go_ret
                  rw [HR.out]
                  exact ⟨rfl, ((HA.out.below HB2.out hbl).set 2 (by omega) (.int .i64 ((4 : Nat) : Int))).congr (Rd.upd_err r 4), grown_set (grown_of_below HB2.out _) _⟩
                · by_cases hB : most < N + p
                  · skip
                    have hr : numGo r.left most 6 0 0 = .inl 4 := by rw [HGO.out, if_neg h128, if_neg hz, if_pos (by omega)]
                    have HR := Lib.hid (Rd.num_err r most 4 H0.out hr)
                    have hx1 : ((X : Int) == 0) = true := by rw [beq_iff_eq]; omega
                    have hk1 : decide ((0 : Int) < k) = false := decide_eq_false (by omega)
                    have hk3 : decide (0 < k) = false := decide_eq_false (by omega)
                    have hb1 : decide ((1099511627775 : Int) < (N : Int) + p) = false := decide_eq_false (by omega)
                    have hb3 : decide ((most : Int) < (N : Int) + p) = true := decide_eq_true (by omega)
                    clear hz hr h128 hx0
                    go_wp2
                    refine wp_region_bq (by kernel_rfl) (by kernel_rfl) ?_
                    have LQ0 := fun x : BW (World.heap wo).size wo => below_load d0 x.hb (by omega)
                    have LQ1 := fun x : BW (World.heap wo).size wo => below_load d1 x.hb (by omega)
                    repeat (go_big_quiet_step (fail))
                    refine wpQuiet_nil ?_
                    intro wq hbq
                    clear LQ0 LQ1
                    obtain ⟨wa, rfl⟩ : ∃ wa : World, wa = wq := ⟨_, rfl⟩
                    have hba := hbq
                    clear hbq
                    have q0 := below_load d0 hba hbo
                    have q1 := below_load d1 hba hbo
                    have hboa : b < wa.heap.size := by have := hba.size; omega
                    go_wp2
                    refine wp_region_bq (by kernel_rfl) (by kernel_rfl) ?_
                    have LQ0 := fun x : BW (World.heap wa).size wa => below_load q0 x.hb (by omega)
                    have LQ1 := fun x : BW (World.heap wa).size wa => below_load q1 x.hb (by omega)
                    repeat (go_big_quiet_step (fail))
                    refine wpQuiet_nil ?_
                    intro wq hbq
                    clear LQ0 LQ1
                    have hbq2 := hba.trans (hbq.mono hba.size)
                    clear q0 q1 hba hbq
                    have hb2 := HB.out.trans (hbq2.mono HB.out.size)
                    have g1 := below_load d1 hbq2 hbo
                    have g2 := below_load d2 hbq2 hbo
                    have k1' : wq.frozen? ⟨b, 1, none⟩ = false := by rw [hbq2.frozen (p := ⟨b, 1, none⟩) hbo]; exact e1
                    have k2 : wq.frozen? ⟨b, 2, none⟩ = false := by rw [hbq2.frozen (p := ⟨b, 2, none⟩) hbo]; exact e2
                    have HB2 := Lib.hid hb2
                    clear d0 d1 d2 e1 e2 hbq2 hb2 HI
                    go_wp2
                    go_ret
                    rw [HR.out]
                    exact ⟨rfl, ((HA.out.below HB2.out hbl).set 2 (by omega) (.int .i64 ((4 : Nat) : Int))).congr (Rd.upd_err r 4), grown_set (grown_of_below HB2.out _) _⟩
                  · skip
                    have hr : numGo r.left most 6 0 0 = .inr (N + p, k + 1) := by rw [HGO.out, if_neg h128, if_neg hz, if_neg (by omega)]
                    have HR := Lib.hid (Rd.num_ok r most (N + p, k + 1) H0.out hr)
                    have hx1 : ((X : Int) == 0) = true := by rw [beq_iff_eq]; omega
                    have hk1 : decide ((0 : Int) < k) = false := decide_eq_false (by omega)
                    have hk3 : decide (0 < k) = false := decide_eq_false (by omega)
                    have hb1 : decide ((1099511627775 : Int) < (N : Int) + p) = false := decide_eq_false (by omega)
                    have hb3 : decide ((most : Int) < (N : Int) + p) = false := decide_eq_false (by omega)
                    have hw5 : IntKind.i64.wrap ((r.pos : Int) + k) = (r.pos : Int) + k := IntWalk.i64_in _ (by omega)
                    clear hz hr h128 hx0
                    go_wp2
                    refine wp_region_bq (by kernel_rfl) (by kernel_rfl) ?_
                    have LQ0 := fun x : BW (World.heap wo).size wo => below_load d0 x.hb (by omega)
                    have LQ1 := fun x : BW (World.heap wo).size wo => below_load d1 x.hb (by omega)
                    repeat (go_big_quiet_step (fail))
                    refine wpQuiet_nil ?_
                    intro wq hbq
                    clear LQ0 LQ1
                    obtain ⟨wa, rfl⟩ : ∃ wa : World, wa = wq := ⟨_, rfl⟩
                    have hba := hbq
                    clear hbq
                    have q0 := below_load d0 hba hbo
                    have q1 := below_load d1 hba hbo
                    have hboa : b < wa.heap.size := by have := hba.size; omega
                    go_wp2
                    refine wp_region_bq (by kernel_rfl) (by kernel_rfl) ?_
                    have LQ0 := fun x : BW (World.heap wa).size wa => below_load q0 x.hb (by omega)
                    have LQ1 := fun x : BW (World.heap wa).size wa => below_load q1 x.hb (by omega)
                    repeat (go_big_quiet_step (fail))
                    refine wpQuiet_nil ?_
                    intro wq hbq
                    clear LQ0 LQ1
                    have hbq2 := hba.trans (hbq.mono hba.size)
                    clear q0 q1 hba hbq
                    have hb2 := HB.out.trans (hbq2.mono HB.out.size)
                    have g1 := below_load d1 hbq2 hbo
                    have g2 := below_load d2 hbq2 hbo
                    have k1' : wq.frozen? ⟨b, 1, none⟩ = false := by rw [hbq2.frozen (p := ⟨b, 1, none⟩) hbo]; exact e1
                    have k2 : wq.frozen? ⟨b, 2, none⟩ = false := by rw [hbq2.frozen (p := ⟨b, 2, none⟩) hbo]; exact e2
                    have HB2 := Lib.hid hb2
                    clear d0 d1 d2 e1 e2 hbq2 hb2 HI
                    go_wp2
                    go_ret
                    rw [HR.out]
                    exact ⟨ret_int (by push_cast; rfl), ((HA.out.below HB2.out hbl).set 1 (by omega) (.int .i64 ((r.pos + (k + 1) : Nat) : Int))).congr (Rd.upd_pos r _), grown_set (grown_of_below HB2.out _) _⟩
              · skip
                by_cases hA : 1099511627775 < N + p
                · skip
                  have hr : numGo r.left most 6 0 0 = .inl 4 := by rw [HGO.out, if_neg h128, if_neg hz, if_pos (by omega)]
                  have HR := Lib.hid (Rd.num_err r most 4 H0.out hr)
                  have hx1 : ((X : Int) == 0) = false := by rw [beq_eq_false_iff_ne]; omega
                  have hb1 : decide ((1099511627775 : Int) < (N : Int) + p) = true := decide_eq_true (by omega)
                  clear hz hr h128 hx0
                  go_wp2
                  refine wp_region_bq (by kernel_rfl) (by kernel_rfl) ?_
                  have LQ0 := fun x : BW (World.heap wo).size wo => below_load d0 x.hb (by omega)
                  have LQ1 := fun x : BW (World.heap wo).size wo => below_load d1 x.hb (by omega)
                  repeat (go_big_quiet_step (fail))
                  refine wpQuiet_nil ?_
                  intro wq hbq
                  clear LQ0 LQ1
                  obtain ⟨wa, rfl⟩ : ∃ wa : World, wa = wq := ⟨_, rfl⟩
                  have hba := hbq
                  clear hbq
                  have q0 := below_load d0 hba hbo
                  have q1 := below_load d1 hba hbo
                  have hboa : b < wa.heap.size := by have := hba.size; omega
                  go_wp2
                  refine wp_region_bq (by kernel_rfl) (by kernel_rfl) ?_
                  have LQ0 := fun x : BW (World.heap wa).size wa => below_load q0 x.hb (by omega)
                  have LQ1 := fun x : BW (World.heap wa).size wa => below_load q1 x.hb (by omega)
                  repeat (go_big_quiet_step (fail))
                  refine wpQuiet_nil ?_
                  intro wq hbq
                  clear LQ0 LQ1
                  have hbq2 := hba.trans (hbq.mono hba.size)
                  clear q0 q1 hba hbq
                  have hb2 := HB.out.trans (hbq2.mono HB.out.size)
                  have g1 := below_load d1 hbq2 hbo
                  have g2 := below_load d2 hbq2 hbo
                  have k1' : wq.frozen? ⟨b, 1, none⟩ = false := by rw [hbq2.frozen (p := ⟨b, 1, none⟩) hbo]; exact e1
                  have k2 : wq.frozen? ⟨b, 2, none⟩ = false := by rw [hbq2.frozen (p := ⟨b, 2, none⟩) hbo]; exact e2
                  have HB2 := Lib.hid hb2
                  clear d0 d1 d2 e1 e2 hbq2 hb2 HI
                  go_wp2
                  go_ret
                  rw [HR.out]
                  exact ⟨rfl, ((HA.out.below HB2.out hbl).set 2 (by omega) (.int .i64 ((4 : Nat) : Int))).congr (Rd.upd_err r 4), grown_set (grown_of_below HB2.out _) _⟩
                · by_cases hB : most < N + p
                  · skip
                    have hr : numGo r.left most 6 0 0 = .inl 4 := by rw [HGO.out, if_neg h128, if_neg hz, if_pos (by omega)]
                    have HR := Lib.hid (Rd.num_err r most 4 H0.out hr)
                    have hx1 : ((X : Int) == 0) = false := by rw [beq_eq_false_iff_ne]; omega
                    have hb1 : decide ((1099511627775 : Int) < (N : Int) + p) = false := decide_eq_false (by omega)
                    have hb3 : decide ((most : Int) < (N : Int) + p) = true := decide_eq_true (by omega)
                    clear hz hr h128 hx0
                    go_wp2
                    refine wp_region_bq (by kernel_rfl) (by kernel_rfl) ?_
                    have LQ0 := fun x : BW (World.heap wo).size wo => below_load d0 x.hb (by omega)
                    have LQ1 := fun x : BW (World.heap wo).size wo => below_load d1 x.hb (by omega)
                    repeat (go_big_quiet_step (fail))
                    refine wpQuiet_nil ?_
                    intro wq hbq
                    clear LQ0 LQ1
                    obtain ⟨wa, rfl⟩ : ∃ wa : World, wa = wq := ⟨_, rfl⟩
                    have hba := hbq
                    clear hbq
                    have q0 := below_load d0 hba hbo
                    have q1 := below_load d1 hba hbo
                    have hboa : b < wa.heap.size := by have := hba.size; omega
                    go_wp2
                    refine wp_region_bq (by kernel_rfl) (by kernel_rfl) ?_
                    have LQ0 := fun x : BW (World.heap wa).size wa => below_load q0 x.hb (by omega)
                    have LQ1 := fun x : BW (World.heap wa).size wa => below_load q1 x.hb (by omega)
                    repeat (go_big_quiet_step (fail))
                    refine wpQuiet_nil ?_
                    intro wq hbq
                    clear LQ0 LQ1
                    have hbq2 := hba.trans (hbq.mono hba.size)
                    clear q0 q1 hba hbq
                    have hb2 := HB.out.trans (hbq2.mono HB.out.size)
                    have g1 := below_load d1 hbq2 hbo
                    have g2 := below_load d2 hbq2 hbo
                    have k1' : wq.frozen? ⟨b, 1, none⟩ = false := by rw [hbq2.frozen (p := ⟨b, 1, none⟩) hbo]; exact e1
                    have k2 : wq.frozen? ⟨b, 2, none⟩ = false := by rw [hbq2.frozen (p := ⟨b, 2, none⟩) hbo]; exact e2
                    have HB2 := Lib.hid hb2
                    clear d0 d1 d2 e1 e2 hbq2 hb2 HI
                    go_wp2
                    go_ret
                    rw [HR.out]
                    exact ⟨rfl, ((HA.out.below HB2.out hbl).set 2 (by omega) (.int .i64 ((4 : Nat) : Int))).congr (Rd.upd_err r 4), grown_set (grown_of_below HB2.out _) _⟩
                  · skip
                    have hr : numGo r.left most 6 0 0 = .inr (N + p, k + 1) := by rw [HGO.out, if_neg h128, if_neg hz, if_neg (by omega)]
                    have HR := Lib.hid (Rd.num_ok r most (N + p, k + 1) H0.out hr)
                    have hx1 : ((X : Int) == 0) = false := by rw [beq_eq_false_iff_ne]; omega
                    have hb1 : decide ((1099511627775 : Int) < (N : Int) + p) = false := decide_eq_false (by omega)
                    have hb3 : decide ((most : Int) < (N : Int) + p) = false := decide_eq_false (by omega)
                    have hw5 : IntKind.i64.wrap ((r.pos : Int) + k) = (r.pos : Int) + k := IntWalk.i64_in _ (by omega)
                    clear hz hr h128 hx0
                    go_wp2
                    refine wp_region_bq (by kernel_rfl) (by kernel_rfl) ?_
                    have LQ0 := fun x : BW (World.heap wo).size wo => below_load d0 x.hb (by omega)
                    have LQ1 := fun x : BW (World.heap wo).size wo => below_load d1 x.hb (by omega)
                    repeat (go_big_quiet_step (fail))
                    refine wpQuiet_nil ?_
                    intro wq hbq
                    clear LQ0 LQ1
                    obtain ⟨wa, rfl⟩ : ∃ wa : World, wa = wq := ⟨_, rfl⟩
                    have hba := hbq
                    clear hbq
                    have q0 := below_load d0 hba hbo
                    have q1 := below_load d1 hba hbo
                    have hboa : b < wa.heap.size := by have := hba.size; omega
                    go_wp2
                    refine wp_region_bq (by kernel_rfl) (by kernel_rfl) ?_
                    have LQ0 := fun x : BW (World.heap wa).size wa => below_load q0 x.hb (by omega)
                    have LQ1 := fun x : BW (World.heap wa).size wa => below_load q1 x.hb (by omega)
                    repeat (go_big_quiet_step (fail))
                    refine wpQuiet_nil ?_
                    intro wq hbq
                    clear LQ0 LQ1
                    have hbq2 := hba.trans (hbq.mono hba.size)
                    clear q0 q1 hba hbq
                    have hb2 := HB.out.trans (hbq2.mono HB.out.size)
                    have g1 := below_load d1 hbq2 hbo
                    have g2 := below_load d2 hbq2 hbo
                    have k1' : wq.frozen? ⟨b, 1, none⟩ = false := by rw [hbq2.frozen (p := ⟨b, 1, none⟩) hbo]; exact e1
                    have k2 : wq.frozen? ⟨b, 2, none⟩ = false := by rw [hbq2.frozen (p := ⟨b, 2, none⟩) hbo]; exact e2
                    have HB2 := Lib.hid hb2
                    clear d0 d1 d2 e1 e2 hbq2 hb2 HI
                    go_wp2
                    go_ret
                    rw [HR.out]
                    exact ⟨ret_int (by push_cast; rfl), ((HA.out.below HB2.out hbl).set 1 (by omega) (.int .i64 ((r.pos + (k + 1) : Nat) : Int))).congr (Rd.upd_pos r _), grown_set (grown_of_below HB2.out _) _⟩
        · have hd2 : decide (((r.s.size : Int)) ≤ (r.pos : Int) + k) = true := decide_eq_true (by omega)
          have hr : numGo r.left most (6 - k) k N = .inl 3 := by
            have hl : r.left[k]? = none := by rw [left_get]; simp; omega
            rw [show 6 - k = (5 - k) + 1 from by omega]; unfold numGo; rw [hl]
          have HR := Lib.hid (Rd.num_err r most 3 H0.out (by rw [hgo.out, hr]))
          have HB := Lib.hid hb
          clear hr hgo hNl hb c0 c1 c2 f1 f2 hlt
          generalize 128 ^ k = o
          go_wp2
          refine wp_region_bq (by kernel_rfl) (by kernel_rfl) ?_
          have LQ0 := fun x : BW (World.heap wo).size wo => below_load d0 x.hb (by omega)
          have LQ1 := fun x : BW (World.heap wo).size wo => below_load d1 x.hb (by omega)
          repeat (go_big_quiet_step (fail))
          refine wpQuiet_nil ?_
          intro wq hbq
          clear LQ0 LQ1
          have hb2 := HB.out.trans (hbq.mono HB.out.size)
          have g2 := below_load d2 hbq hbo
          have k2 : wq.frozen? ⟨b, 2, none⟩ = false := by rw [hbq.frozen (p := ⟨b, 2, none⟩) hbo]; exact e2
          have HB2 := Lib.hid hb2
          clear d0 d1 d2 e1 e2 hbq hb2
          go_wp2
          go_ret
          rw [HR.out]
          exact ⟨rfl, ((HA.out.below HB2.out hbl).set 2 (by omega) (.int .i64 ((3 : Nat) : Int))).congr (Rd.upd_err r 3), grown_set (grown_of_below HB2.out _) _⟩
      · obtain rfl : k = 6 := by omega
        have HR := Lib.hid (Rd.num_err r most 4 H0.out (by rw [hgo.out]; rfl))
        have HB := Lib.hid hb
        clear hgo hNl hb c0 c1 c2 f1 f2
        generalize 128 ^ 6 = o
        go_wp2
        go_ret
        rw [HR.out]
        exact ⟨rfl, ((HA.out.below HB.out hbl).set 2 (by omega) (.int .i64 ((4 : Nat) : Int))).congr (Rd.upd_err r 4), grown_set (grown_of_below HB.out _) _⟩
  · have h0' : ((r.err : Int) != 0) = true := by rw [bne_iff_ne]; omega
    have HR : Hid (r.num most = (r, 0)) := by unfold Hid Rd.num; rw [if_pos h0]
    clear h0
    go_enter Tryz.func104, Tryz.ntmps104
    go_wp2
    go_ret
    rw [HR.out]
    exact ⟨rfl, HA.out, grown_of_below (Below.refl _ _) _⟩
end Go.Proofs.YtbmiiiccnoiffaaGreatDoor

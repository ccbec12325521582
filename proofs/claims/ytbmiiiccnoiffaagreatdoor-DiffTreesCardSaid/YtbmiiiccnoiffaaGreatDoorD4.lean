/- The walk of the document's list of paths, in order, each once. -/
import Derived.Test.YtbmiiiccnoiffaaGreatDoorD3
namespace Go.Proofs.YtbmiiiccnoiffaaGreatDoor
open Go.RowKit
set_option maxRecDepth 100000

theorem insS_ahead (p : ByteArray) : ∀ (l : List ByteArray) (j : Nat), j ≤ l.length → (∀ i (_ : i < j) (h2 : i < l.length), ordP l[i] p < 0) → insS p l = l.take j ++ insS p (l.drop j)
  | _, 0, _, _ => by simp
  | [], j + 1, h, _ => by simp at h
  | x :: l, j + 1, h, hb => by
    have h0 := hb 0 (by omega) (by simp)
    simp only [List.getElem_cons_zero] at h0
    rw [List.take_succ_cons, List.drop_succ_cons, List.cons_append, ← insS_ahead p l j (by simpa using h) (fun i hi hl => by
      have := hb (i + 1) (by omega) (by simpa using hl)
      simpa using this)]
    rw [insS, if_pos h0]

theorem insS_at (p : ByteArray) (l : List ByteArray) (j : Nat) (hj : j ≤ l.length) (hb : ∀ i (_ : i < j) (h2 : i < l.length), ordP l[i] p < 0) (hn : ∀ h : j < l.length, ¬ ordP l[j] p < 0) :
    insS p l = if h : j < l.length then (if l[j] = p then l else l.take j ++ [p] ++ l.drop j) else l.take j ++ [p] ++ l.drop j := by
  rw [insS_ahead p l j hj hb]
  by_cases h : j < l.length
  · rw [dif_pos h, List.drop_eq_getElem_cons h, insS, if_neg (hn h)]
    by_cases e : l[j] = p
    · rw [if_pos e, if_pos e, ← List.drop_eq_getElem_cons h, List.take_append_drop]
    · rw [if_neg e, if_neg e]; simp
  · rw [dif_neg h, List.drop_eq_nil_of_le (by omega)]; simp [insS]

/-- The capacity is no less than the length. -/
def CapOk (v : Value) : Prop := ∀ p n c, v = .slice p n c → n ≤ c
theorem CapOk.of_own {w : World} {B : Nat} {e : TypeId} {sz : Nat} {v : Value} {n : Nat} {xs : List Value} (h : w.ownsRow B e sz v n xs) : CapOk v := by
  intro p k c hv
  rcases h.2 with ⟨h1, _⟩ | ⟨g, cap, cur, h1, _, _, hn, _⟩
  · rw [h1] at hv; cases hv; omega
  · rw [h1] at hv; cases hv; exact hn

theorem oneCell_strs (l : List ByteArray) : ∀ u ∈ l.map Value.string, u.oneCell' = true := by
  intro u hu
  obtain ⟨x, _, rfl⟩ := List.mem_map.1 hu
  rfl

/-- All are short. -/
def Short (l : List ByteArray) : Prop := ∀ x ∈ l, x.size ≤ 1000000
theorem short_ins {p : ByteArray} {l : List ByteArray} (hp : p.size ≤ 1000000) (h : Short l) : Short (insS p l) := fun x hx => by
  rcases (insS_mem p x l).1 hx with rfl | hx
  · exact hp
  · exact h x hx
theorem insS_len (p : ByteArray) : ∀ l, (insS p l).length ≤ l.length + 1
  | [] => by simp [insS]
  | x :: l => by
    have := insS_len p l
    unfold insS
    split
    · simp; omega
    · split
      · simp
      · simp

set_option maxHeartbeats 4000000 in
theorem rpaths_any (v u : Value) (l : List ByteArray) (a : List Lf) (w : World) (hv : StrRow w v l) (hcv : CapOk v) (hu : LeafRow w u a) (hl : Short l) (ha : ∀ f ∈ a, f.1.size ≤ 1000000) (hn : l.length + a.length ≤ 1000000) :
    Calls Tryz.prog 118 #[v, u] w fun e w' => ∃ o, e = .returned o ∧ StrRow w' o (pathsS l a) ∧ CapOk o ∧ Below w.heap.size w w' := by
  obtain ⟨i0, hi, hz0, hz1, hz2⟩ := info_parts infoS
  obtain ⟨bo, capb, rfl, hmb, hu⟩ := hu.open
  have HA := Lib.hid ha
  have HL := Lib.hid hl
  have HU := Lib.hid hu
  have HV := Lib.hid hv
  clear ha hl hu hv
  go_enter Tryz.func118, Tryz.ntmps118
  go_wp2
  go_loopw [0, 5] (fun lv i wr => ∃ (k : Nat) (m : List ByteArray), k ≤ a.length ∧ i = .int .i64 k ∧ Hid (pathsS m (a.drop k) = pathsS l a) ∧ Hid (Short m) ∧ m.length ≤ l.length + k ∧ StrRow wr lv m ∧ Hid (CapOk lv) ∧ Below w.heap.size w wr) (fun _ i _ => (a.length - intOf i).toNat)
  case atStart => exact ⟨0, l, by omega, rfl, rfl, HL, by omega, HV.out, hcv, Below.refl _ _⟩
  case round =>
    obtain ⟨k, m, hk, rfl, hpm, hsm, hml, hrow, hcap, hb⟩ := hrel
    have hszb := hb.size
    by_cases hlt : k < a.length
    · obtain ⟨bl, ofl, rfl, hbl, hcell⟩ := HU.out (by intro e; rw [e] at hlt; simp at hlt)
      obtain ⟨cp, _⟩ := hcell k hlt
      have cp2 := below_load cp hb hbl
      have hps := HA.out a[k] (List.getElem_mem hlt)
      have hp2 := hpm.out
      rw [List.drop_eq_getElem_cons hlt] at hp2
      have HP : Hid (pathsS (insS a[k].1 m) (a.drop (k + 1)) = pathsS l a) := hp2
      clear hpm hp2 cp hcell
      generalize a[k].1 = p at cp2 hps HP
      have hbl2 : bl < wr.heap.size := by omega
      obtain ⟨ao, capm, rfl, hmm, hrowm⟩ := hrow
      have hcm0 : m.length ≤ capm := hcap.out _ _ _ rfl
      have HM : Hid (m ≠ [] → ∃ b off, ao = some ⟨b, off, none⟩ ∧ b < wr.heap.size ∧ ∀ i (h : i < m.length), wr.cell? ⟨b, off + i, none⟩ = some (.string m[i])) := hrowm
      clear hrowm
      go_wp2
      obtain ⟨wo, rfl⟩ : ∃ wo : World, wo = wr := ⟨_, rfl⟩
      go_loopw [6] (fun i wr => ∃ j : Nat, j ≤ m.length ∧ i = .int .i64 j ∧ Hid (∀ i (h : i < j) (h2 : i < m.length), ordP m[i] p < 0) ∧ Below wo.heap.size wo wr) (fun i _ => (m.length - intOf i).toNat)
      case atStart => exact ⟨0, by omega, rfl, (fun i h => by omega), Below.refl _ _⟩
      case round =>
        obtain ⟨j, hj, rfl, hahead, hbj⟩ := hrel
        have hszj := hbj.size
        have cp3 := below_load cp2 hbj hbl2
        have l0 : (0 : Int) ≤ j := by omega
        have l1 : (0 : Int) ≤ k := by omega
        have l2 : (k : Int) < a.length := by omega
        by_cases hjm : j < m.length
        · obtain ⟨bm, om, rfl, hbm, hcm⟩ := HM.out (by intro e; rw [e] at hjm; simp at hjm)
          have cm := hcm j hjm
          have cm2 := below_load cm hbj hbm
          have hsj := hsm.out m[j] (List.getElem_mem hjm)
          have hjm2 : (j : Int) < m.length := by omega
          have hlo : bm < wr.heap.size := by omega
          have hlo2 : bl < wr.heap.size := by omega
          generalize hx : m[j] = x at cm2 hsj
          have HX := Lib.hid hx
          have HCM := Lib.hid hcm
          clear hx hcm cm
          by_cases hlt3 : lessS x p = true
          · go_wp2
            refine wp_region_below wr.heap.size (by kernel_rfl) (by kernel_rfl) ?_
            refine WQ.val rfl (fun w hw => by go_simp; rfl) ?_
            simp only [Act.put, List.setIfInBounds_toArray, List.set_cons_zero, List.set_cons_succ]
            refine WQ.val rfl (fun w hw => by go_simp; rfl) ?_
            simp only [Act.put, List.setIfInBounds_toArray, List.set_cons_zero, List.set_cons_succ]
            refine WQ.val rfl (fun w hw => by go_simp; rfl) ?_
            simp only [Act.put, List.setIfInBounds_toArray, List.set_cons_zero, List.set_cons_succ]
            refine WQ.val rfl (fun w hw => by go_simp; rfl) ?_
            simp only [Act.put, List.setIfInBounds_toArray, List.set_cons_zero, List.set_cons_succ]
            refine WQ.val rfl (fun w hw => by go_simp; rfl) ?_
            simp only [Act.put, List.setIfInBounds_toArray, List.set_cons_zero, List.set_cons_succ]
            refine WQ.val rfl (fun w hw => by go_simp; rfl) ?_
            simp only [Act.put, List.setIfInBounds_toArray, List.set_cons_zero, List.set_cons_succ]
            refine WQ.val rfl (fun w hw => by go_simp; rfl) ?_
            simp only [Act.put, List.setIfInBounds_toArray, List.set_cons_zero, List.set_cons_succ]
            refine WQ.val rfl (fun w hw => by go_simp; rfl) ?_
            simp only [Act.put, List.setIfInBounds_toArray, List.set_cons_zero, List.set_cons_succ]
            refine WQ.val rfl (fun w hw => by have := below_load cm2 hw hlo; go_simp; rfl) ?_
            simp only [Act.put, List.setIfInBounds_toArray, List.set_cons_zero, List.set_cons_succ]
            refine WQ.val rfl (fun w hw => by go_simp; rfl) ?_
            simp only [Act.put, List.setIfInBounds_toArray, List.set_cons_zero, List.set_cons_succ]
            refine WQ.val rfl (fun w hw => by go_simp; rfl) ?_
            simp only [Act.put, List.setIfInBounds_toArray, List.set_cons_zero, List.set_cons_succ]
            refine WQ.val rfl (fun w hw => by go_simp; rfl) ?_
            simp only [Act.put, List.setIfInBounds_toArray, List.set_cons_zero, List.set_cons_succ]
            refine WQ.val rfl (fun w hw => by go_simp; rfl) ?_
            simp only [Act.put, List.setIfInBounds_toArray, List.set_cons_zero, List.set_cons_succ]
            refine WQ.val rfl (fun w hw => by have := below_load cp3 hw hlo2; go_simp; rfl) ?_
            simp only [Act.put, List.setIfInBounds_toArray, List.set_cons_zero, List.set_cons_succ]
            refine WQ.call rfl (fun w hw => by go_simp <;> first | rfl | exact ⟨rfl, rfl⟩) (fun w hw => (rless_any x p w hsj hps).mono fun e w2 ⟨he, hb⟩ => ⟨he, hw.trans (hb.mono hw.size)⟩) ?_
            simp only [Act.put, List.setIfInBounds_toArray, List.set_cons_zero, List.set_cons_succ]
            refine WQ.val rfl (fun w hw => by go_simp; rfl) ?_
            simp only [Act.put, List.setIfInBounds_toArray, List.set_cons_zero, List.set_cons_succ]
            refine WQ.nil ?_
            intro wn hbn
            go_wp2
            go_roundw
            case rel => exact ⟨j + 1, by omega, by go_num, (fun i hi h2 => by
              rcases Nat.lt_or_ge i j with h | h
              · exact hahead.out i h h2
              · obtain rfl : i = j := by omega
                rw [HX.out]; unfold lessS at hlt3; simpa using hlt3), hbj.trans (hbn.mono hszj)⟩
            case measure => simp [intOf]; omega
          · have hlt4 : lessS x p = false := by simpa using hlt3
            go_wp2
            refine wp_region_below wr.heap.size (by kernel_rfl) (by kernel_rfl) ?_
            refine WQ.val rfl (fun w hw => by go_simp; rfl) ?_
            simp only [Act.put, List.setIfInBounds_toArray, List.set_cons_zero, List.set_cons_succ]
            refine WQ.val rfl (fun w hw => by go_simp; rfl) ?_
            simp only [Act.put, List.setIfInBounds_toArray, List.set_cons_zero, List.set_cons_succ]
            refine WQ.val rfl (fun w hw => by go_simp; rfl) ?_
            simp only [Act.put, List.setIfInBounds_toArray, List.set_cons_zero, List.set_cons_succ]
            refine WQ.val rfl (fun w hw => by go_simp; rfl) ?_
            simp only [Act.put, List.setIfInBounds_toArray, List.set_cons_zero, List.set_cons_succ]
            refine WQ.val rfl (fun w hw => by go_simp; rfl) ?_
            simp only [Act.put, List.setIfInBounds_toArray, List.set_cons_zero, List.set_cons_succ]
            refine WQ.val rfl (fun w hw => by go_simp; rfl) ?_
            simp only [Act.put, List.setIfInBounds_toArray, List.set_cons_zero, List.set_cons_succ]
            refine WQ.val rfl (fun w hw => by go_simp; rfl) ?_
            simp only [Act.put, List.setIfInBounds_toArray, List.set_cons_zero, List.set_cons_succ]
            refine WQ.val rfl (fun w hw => by go_simp; rfl) ?_
            simp only [Act.put, List.setIfInBounds_toArray, List.set_cons_zero, List.set_cons_succ]
            refine WQ.val rfl (fun w hw => by have := below_load cm2 hw hlo; go_simp; rfl) ?_
            simp only [Act.put, List.setIfInBounds_toArray, List.set_cons_zero, List.set_cons_succ]
            refine WQ.val rfl (fun w hw => by go_simp; rfl) ?_
            simp only [Act.put, List.setIfInBounds_toArray, List.set_cons_zero, List.set_cons_succ]
            refine WQ.val rfl (fun w hw => by go_simp; rfl) ?_
            simp only [Act.put, List.setIfInBounds_toArray, List.set_cons_zero, List.set_cons_succ]
            refine WQ.val rfl (fun w hw => by go_simp; rfl) ?_
            simp only [Act.put, List.setIfInBounds_toArray, List.set_cons_zero, List.set_cons_succ]
            refine WQ.val rfl (fun w hw => by go_simp; rfl) ?_
            simp only [Act.put, List.setIfInBounds_toArray, List.set_cons_zero, List.set_cons_succ]
            refine WQ.val rfl (fun w hw => by have := below_load cp3 hw hlo2; go_simp; rfl) ?_
            simp only [Act.put, List.setIfInBounds_toArray, List.set_cons_zero, List.set_cons_succ]
            refine WQ.call rfl (fun w hw => by go_simp <;> first | rfl | exact ⟨rfl, rfl⟩) (fun w hw => (rless_any x p w hsj hps).mono fun e w2 ⟨he, hb⟩ => ⟨he, hw.trans (hb.mono hw.size)⟩) ?_
            simp only [Act.put, List.setIfInBounds_toArray, List.set_cons_zero, List.set_cons_succ]
            refine WQ.val rfl (fun w hw => by go_simp; rfl) ?_
            simp only [Act.put, List.setIfInBounds_toArray, List.set_cons_zero, List.set_cons_succ]
            refine WQ.nil ?_
            intro wn hbn
            have hbn2 := hbj.trans (hbn.mono hszj)
            have cp4 := below_load cp2 hbn2 hbl2
            have cm4 := below_load cm2 hbn hlo
            have hins := insS_at p m j hj hahead.out (fun _ => by rw [HX.out]; unfold lessS at hlt4; simpa using hlt4)
            rw [dif_pos hjm, HX.out] at hins
            have hbe := ba_beq x p
            by_cases hxp : x = p
            · rw [if_pos hxp] at hins
              rw [decide_eq_true hxp] at hbe
              have HI := Lib.hid hins
              clear hins hxp
              go_wp2
              go_quiet (fail)
              go_wp2
              go_roundw
              case rel =>
                refine ⟨k + 1, m, by omega, by go_num, by rw [← HP.out, HI.out]; rfl, hsm, by omega, ?_, hcap, ?_⟩
                · exact StrRow.below (w := wo) ⟨_, _, rfl, hmm, HM.out⟩ (below_drewN hbn2 _)
                · exact hb.trans ((below_drewN hbn2 _).mono hszb)
              case measure => simp [intOf]; omega
            · rw [if_neg hxp] at hins
              rw [decide_eq_false hxp] at hbe
              have HI := Lib.hid hins
              clear hins hxp
              go_wp2
              go_quiet (fail)
              clear cm4 cp4 hbe
              have hbn3 := below_drewN hbn2 nq
              have cp4 := below_load cp2 hbn3 hbl2
              generalize hwq : wn.drewN nq = wq at hbn3 cp4 ⊢
              have hszq := hbn3.size
              clear hwq
              have hcap0 : ¬ capm = 0 := by omega
              have hcapj : ¬ capm = j := by omega
              have lj : (j : Int) ≤ capm := by omega
              have lj2 : (j : Int) ≤ m.length := by omega
              have HM2 : Hid (∀ w2, Below wo.heap.size wo w2 → ∀ i (h : i < m.length), w2.cell? ⟨bm, om + i, none⟩ = some (.string m[i])) := fun w2 h2 i h => below_load (HCM.out i h) h2 hbm
              have hown0 : wq.ownsRow wq.heap.size 9 1 (.slice none 0 0) 0 [] := World.ownsRow_nil _ _ _ _
              go_wp2_with (at_builtin; refine wpList_append_any rfl (.tmp 48) (.tmp 51) 84 rfl wq.heap.size 9 i0 (.string ByteArray.empty) 1 16 Tryz.underlying84 hi hz0 hz1 hz2 rfl (by decide) _ 0 _ rfl hown0 _ j _ ((m.take j).map Value.string) rfl ?c1 ?c2 ?c3 ?c4 ?c5 ?c6 ?_)
              case c1 => simp; omega
              case c2 =>
                intro _
                refine ⟨⟨bm, om, none⟩, rfl, fun i u hu => ?_⟩
                rw [Addr.add_mid]
                obtain ⟨hi2, rfl⟩ := List.getElem?_eq_some_iff.1 hu
                have hi3 : i < j := by rw [List.length_map, List.length_take] at hi2; omega
                rw [List.getElem_map, List.getElem_take]
                exact HM2.out wq hbn3 i (by omega)
              case c3 => exact oneCell_strs _
              case c4 => unfold maxLen; omega
              case c5 => omega
              case c6 => omega
              intro v1 w1 hown1 hg1
              have hb1 : Below wq.heap.size wq w1 := (Below.refl _ _).grown hg1 (Nat.le_refl _) (fun x hx => (hown0.lt x hx).1)
              have hsz1 := hb1.size
              obtain ⟨a1, cc1, rfl⟩ := own_form hown1
              have cp5 := below_load cp4 hb1 (by omega)
              go_wp2_with (at_builtin; refine wpList_append_any rfl (.tmp 53) (.tmp 59) 84 rfl wq.heap.size 9 i0 (.string ByteArray.empty) 1 16 Tryz.underlying84 hi hz0 hz1 hz2 rfl (by decide) _ j _ rfl (hown1.alloc _) (some ⟨w1.heap.size, 0, none⟩) 1 _ [.string p] rfl rfl ?c1 ?c2 ?c3 ?c4 ?c5 ?_)
              case c1 => exact fun _ => ⟨_, rfl, cell_one_new _ _ _⟩
              case c2 => exact oneCell_strs [p]
              case c3 => unfold maxLen; omega
              case c4 => omega
              case c5 => simp; omega
              intro v2 w2 hown2 hg2
              have hb2 : Below wq.heap.size wq w2 := (hb1.alloc hsz1 _).grown hg2 (by simp; omega) (fun x hx => (hown1.lt x hx).1)
              have hsz2 := hb2.size
              obtain ⟨a2, cc2, rfl⟩ := own_form hown2
              have hbw2 := hbn3.trans (hb2.mono hszq)
              go_wp2_with (at_builtin; refine wpList_append_any rfl (.tmp 61) (.tmp 64) 84 rfl wq.heap.size 9 i0 (.string ByteArray.empty) 1 16 Tryz.underlying84 hi hz0 hz1 hz2 rfl (by decide) _ (j + 1) _ rfl hown2 _ (m.length - j) _ ((m.drop j).map Value.string) rfl ?c1 ?c2 ?c3 ?c4 ?c5 ?c6 ?_)
              case c1 => simp
              case c2 =>
                intro _
                refine ⟨⟨bm, om + j, none⟩, rfl, fun i u hu => ?_⟩
                rw [Addr.add_mid]
                obtain ⟨hi2, rfl⟩ := List.getElem?_eq_some_iff.1 hu
                have hi3 : i < m.length - j := by rw [List.length_map, List.length_drop] at hi2; omega
                rw [List.getElem_map, List.getElem_drop, Nat.add_assoc]
                exact HM2.out w2 hbw2 (j + i) (by omega)
              case c3 => exact oneCell_strs _
              case c4 => unfold maxLen; omega
              case c5 => omega
              case c6 => omega
              intro v3 w3 hown3 hg3
              have hb3 : Below wq.heap.size wq w3 := hb2.grown hg3 (Nat.le_trans hsz2 (Nat.le_refl _)) (fun x hx => (hown2.lt x hx).1)
              have hlen := insS_len p m
              go_wp2
              go_roundw
              case rel =>
                refine ⟨k + 1, insS p m, by omega, by go_num, HP, short_ins hps hsm.out, by omega, ?_, CapOk.of_own hown3, hb.trans ((hbn3.trans (hb3.mono hszq)).mono hszb)⟩
                rw [HI.out]
                have e3 : (m.take j ++ [p] ++ m.drop j).length = j + 1 + (m.length - j) := by simp; omega
                exact StrRow.of_own (B := wq.heap.size) (e := 9) (by rw [e3]; simpa using hown3)
              case measure => simp [intOf]; omega
        · obtain rfl : j = m.length := by omega
          have hjm2 : decide ((m.length : Int) < m.length) = false := by simp
          have hins := insS_at p m m.length (Nat.le_refl _) hahead.out (fun h => absurd h (Nat.lt_irrefl _))
          rw [dif_neg (Nat.lt_irrefl _)] at hins
          have HI := Lib.hid hins
          clear hins
          go_wp2
          refine wp_region_below wr.heap.size (by kernel_rfl) (by kernel_rfl) ?_
          refine WQ.val rfl (fun w hw => by go_simp; rfl) ?_
          simp only [Act.put, List.setIfInBounds_toArray, List.set_cons_zero, List.set_cons_succ]
          refine WQ.val rfl (fun w hw => by go_simp; rfl) ?_
          simp only [Act.put, List.setIfInBounds_toArray, List.set_cons_zero, List.set_cons_succ]
          refine WQ.val rfl (fun w hw => by go_simp; rfl) ?_
          simp only [Act.put, List.setIfInBounds_toArray, List.set_cons_zero, List.set_cons_succ]
          refine WQ.val rfl (fun w hw => by go_simp; rfl) ?_
          simp only [Act.put, List.setIfInBounds_toArray, List.set_cons_zero, List.set_cons_succ]
          refine WQ.val rfl (fun w hw => by go_simp; rfl) ?_
          simp only [Act.put, List.setIfInBounds_toArray, List.set_cons_zero, List.set_cons_succ]
          refine WQ.off rfl ?_
          simp only [Act.put, List.setIfInBounds_toArray, List.set_cons_zero, List.set_cons_succ]
          refine WQ.off rfl ?_
          simp only [Act.put, List.setIfInBounds_toArray, List.set_cons_zero, List.set_cons_succ]
          refine WQ.off rfl ?_
          simp only [Act.put, List.setIfInBounds_toArray, List.set_cons_zero, List.set_cons_succ]
          refine WQ.off rfl ?_
          simp only [Act.put, List.setIfInBounds_toArray, List.set_cons_zero, List.set_cons_succ]
          refine WQ.off rfl ?_
          simp only [Act.put, List.setIfInBounds_toArray, List.set_cons_zero, List.set_cons_succ]
          refine WQ.off rfl ?_
          simp only [Act.put, List.setIfInBounds_toArray, List.set_cons_zero, List.set_cons_succ]
          refine WQ.off rfl ?_
          simp only [Act.put, List.setIfInBounds_toArray, List.set_cons_zero, List.set_cons_succ]
          refine WQ.off rfl ?_
          simp only [Act.put, List.setIfInBounds_toArray, List.set_cons_zero, List.set_cons_succ]
          refine WQ.off rfl ?_
          simp only [Act.put, List.setIfInBounds_toArray, List.set_cons_zero, List.set_cons_succ]
          refine WQ.off rfl ?_
          simp only [Act.put, List.setIfInBounds_toArray, List.set_cons_zero, List.set_cons_succ]
          refine WQ.val rfl (fun w hw => by go_simp; rfl) ?_
          simp only [Act.put, List.setIfInBounds_toArray, List.set_cons_zero, List.set_cons_succ]
          refine WQ.nil ?_
          intro wn hbn
          have hbn2 := hbj.trans (hbn.mono hszj)
          go_wp2
          go_quiet (fail)
          have hbn3 := below_drewN hbn2 nq
          have cp4 := below_load cp2 hbn3 hbl2
          generalize hwq : wn.drewN nq = wq at hbn3 cp4 ⊢
          have hszq := hbn3.size
          clear hwq
          have lj : (m.length : Int) ≤ capm := by omega
          have lj2 : (m.length : Int) ≤ m.length := by omega
          have hown0 : wq.ownsRow wq.heap.size 9 1 (.slice none 0 0) 0 [] := World.ownsRow_nil _ _ _ _
          go_wp2_with (at_builtin; refine wpList_append_any rfl (.tmp 48) (.tmp 51) 84 rfl wq.heap.size 9 i0 (.string ByteArray.empty) 1 16 Tryz.underlying84 hi hz0 hz1 hz2 rfl (by decide) _ 0 _ rfl hown0 _ m.length _ (m.map Value.string) rfl ?c1 ?c2 ?c3 ?c4 ?c5 ?c6 ?_)
          case c1 => simp
          case c2 =>
            intro hm0
            obtain ⟨bm, om, rfl, hbm, hcm⟩ := HM.out (by intro e; rw [e] at hm0; simp at hm0)
            have hcap0 : ¬ capm = 0 := by omega
            refine ⟨⟨bm, om, none⟩, by simp, fun i u hu => ?_⟩
            rw [Addr.add_mid]
            obtain ⟨hi2, rfl⟩ := List.getElem?_eq_some_iff.1 hu
            rw [List.getElem_map]
            exact below_load (hcm i (by simpa using hi2)) hbn3 hbm
          case c3 => exact oneCell_strs _
          case c4 => unfold maxLen; omega
          case c5 => omega
          case c6 => omega
          intro v1 w1 hown1 hg1
          have hb1 : Below wq.heap.size wq w1 := (Below.refl _ _).grown hg1 (Nat.le_refl _) (fun x hx => (hown0.lt x hx).1)
          have hsz1 := hb1.size
          obtain ⟨a1, cc1, rfl⟩ := own_form hown1
          have cp5 := below_load cp4 hb1 (by omega)
          go_wp2_with (at_builtin; refine wpList_append_any rfl (.tmp 53) (.tmp 59) 84 rfl wq.heap.size 9 i0 (.string ByteArray.empty) 1 16 Tryz.underlying84 hi hz0 hz1 hz2 rfl (by decide) _ m.length _ rfl (hown1.alloc _) (some ⟨w1.heap.size, 0, none⟩) 1 _ [.string p] rfl rfl ?c1 ?c2 ?c3 ?c4 ?c5 ?_)
          case c1 => exact fun _ => ⟨_, rfl, cell_one_new _ _ _⟩
          case c2 => exact oneCell_strs [p]
          case c3 => unfold maxLen; omega
          case c4 => omega
          case c5 => simp; omega
          intro v2 w2 hown2 hg2
          have hb2 : Below wq.heap.size wq w2 := (hb1.alloc hsz1 _).grown hg2 (by simp; omega) (fun x hx => (hown1.lt x hx).1)
          have hsz2 := hb2.size
          obtain ⟨a2, cc2, rfl⟩ := own_form hown2
          have hbw2 := hbn3.trans (hb2.mono hszq)
          go_wp2_with (at_builtin; refine wpList_append_any rfl (.tmp 61) (.tmp 64) 84 rfl wq.heap.size 9 i0 (.string ByteArray.empty) 1 16 Tryz.underlying84 hi hz0 hz1 hz2 rfl (by decide) _ (m.length + 1) _ rfl hown2 _ 0 _ [] rfl ?c1 ?c2 ?c3 ?c4 ?c5 ?c6 ?_)
          case c1 => simp
          case c3 => simp
          case c4 => unfold maxLen; omega
          case c5 => omega
          case c6 => omega
          all_goals
            intro v3 w3 hown3 hg3
            have hb3 : Below wq.heap.size wq w3 := hb2.grown hg3 (Nat.le_trans hsz2 (Nat.le_refl _)) (fun x hx => (hown2.lt x hx).1)
            have hlen := insS_len p m
            go_wp2
            go_roundw
            case rel =>
              refine ⟨k + 1, insS p m, by omega, by go_num, HP, short_ins hps hsm.out, by omega, ?_, CapOk.of_own hown3, hb.trans ((hbn3.trans (hb3.mono hszq)).mono hszb)⟩
              rw [HI.out]
              exact StrRow.of_own (B := wq.heap.size) (e := 9) (by simpa using hown3)
            case measure => simp [intOf]; omega
    · obtain rfl : k = a.length := by omega
      have hpm2 := hpm.out
      rw [List.drop_eq_nil_of_le (Nat.le_refl _)] at hpm2
      have HP : Hid (m = pathsS l a) := hpm2
      clear hpm hpm2
      obtain ⟨ao, capm, rfl, hmm, hrowm⟩ := hrow
      go_wp2
      go_ret
      exact ⟨_, rfl, by rw [← HP.out]; exact ⟨_, _, rfl, hmm, hrowm⟩, hcap.out, hb⟩
end Go.Proofs.YtbmiiiccnoiffaaGreatDoor

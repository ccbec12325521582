/- Walks: which path comes first: the program's and the document's. -/
import Derived.Test.YtbmiiiccnoiffaaGreatDoorJJ
import Derived.Test.YtbmiiiccnoiffaaGreatDoorShelf
namespace Go.Proofs.YtbmiiiccnoiffaaGreatDoor
open Go.RowKit
set_option maxRecDepth 100000

/-- What internal/bytealg.MaxLen holds: some number. -/
def MaxAt (w : World) : Prop := ∃ m : Int, w.cell? ⟨0, 0, none⟩ = some (.int .i64 m)
theorem MaxAt.below {w w' : World} {B : Nat} (h : MaxAt w) (hb : Below B w w') (hB : 0 < B) : MaxAt w' := by
  obtain ⟨m, h⟩ := h; exact ⟨m, by rw [hb.cell (p := ⟨0, 0, none⟩) hB]; exact h⟩
theorem MaxAt.lt {w : World} (h : MaxAt w) : 0 < w.heap.size := by
  obtain ⟨m, h⟩ := h; exact World.block_lt_of_cell? w _ h
theorem MaxAt.step {w w' : World} (h : MaxAt w) (hb : Below w.heap.size w w') : MaxAt w' := h.below hb h.lt

theorem spl_row (w : World) (s : ByteArray) (hs : s.size ≤ 1000000) : StrRow (w.alloc (.cells ((Lib.splitB slash 0 (Lib.countB s slash) s).map Value.string).toArray 9)) (.slice (some ⟨w.heap.size, 0, none⟩) (Lib.countB s slash + 1) (Lib.countB s slash + 1)) (nms s) := by
  have e : Lib.splitB slash 0 (Lib.countB s slash) s = nms s := nms_of (splitB_spl s)
  have hl := Lib.splitB_all slash (by decide) 0 _ s rfl
  rw [e] at hl ⊢
  have hn : (nms s).length ≤ s.size + 1 := by
    have := spl_len s.data.toList
    unfold nms; rw [List.length_map]
    have e2 : s.data.toList.length = s.size := by simp
    omega
  refine ⟨some ⟨w.heap.size, 0, none⟩, Lib.countB s slash + 1, by rw [hl], by unfold maxLen; omega, fun _ => ⟨w.heap.size, 0, rfl, by simp, fun i hi => ?_⟩⟩
  rw [World.cell?_alloc_new]
  simp [hi]

set_option maxHeartbeats 1000000 in
theorem order_any (p q : ByteArray) (w : World) (hp : p.size ≤ 1000000) (hq : q.size ≤ 1000000) (hm : MaxAt w) :
    Calls Tryz.prog 117 #[.string p, .string q] w fun e w' => e = .returned (.int .i64 (ordP p q)) ∧ ∃ o1 o2, w' = (w.alloc o1).alloc o2 := by
  obtain ⟨m, hm⟩ := hm
  have hl := World.block_lt_of_cell? w _ hm
  have h1 := Any.strings_Split Tryz.lays146 (by kernel_rfl) p slash m w (by omega) hm (by decide)
  have e1 := spl_row w p hp
  generalize hw1 : w.alloc (.cells ((Lib.splitB slash 0 (Lib.countB p slash) p).map Value.string).toArray 9) = w1 at e1
  have hb1 : Below w.heap.size w w1 := by rw [← hw1]; exact (Below.refl _ w).alloc (Nat.le_refl _) _
  have hm1 : w1.cell? ⟨0, 0, none⟩ = some (.int .i64 m) := by rw [hb1.cell (p := ⟨0, 0, none⟩) hl]; exact hm
  have h2 := Any.strings_Split Tryz.lays146 (by kernel_rfl) q slash m w1 (by omega) hm1 (by decide)
  have e2 := spl_row w1 q hq
  generalize hw2 : w1.alloc (.cells ((Lib.splitB slash 0 (Lib.countB q slash) q).map Value.string).toArray 9) = w2 at e2
  have hb2 : Below w1.heap.size w1 w2 := by rw [← hw2]; exact (Below.refl _ w1).alloc (Nat.le_refl _) _
  have h3 := scompare_any _ _ _ _ w2 (e1.below hb2) e2
  rw [nms_data, nms_data] at h3
  have c1 : Calls Tryz.prog 155 #[.string p, .string slash] w fun e w' => e = .returned (.slice (some ⟨w.heap.size, 0, none⟩) (Lib.countB p slash + 1) (Lib.countB p slash + 1)) ∧ w' = w1 := h1.mono fun e w' ⟨he, hw⟩ => ⟨he, hw.trans hw1⟩
  have c2 : Calls Tryz.prog 155 #[.string q, .string slash] w1 fun e w' => e = .returned (.slice (some ⟨w1.heap.size, 0, none⟩) (Lib.countB q slash + 1) (Lib.countB q slash + 1)) ∧ w' = w2 := h2.mono fun e w' ⟨he, hw⟩ => ⟨he, hw.trans hw2⟩
  have c3 : Calls Tryz.prog 154 #[.slice (some ⟨w.heap.size, 0, none⟩) (Lib.countB p slash + 1) (Lib.countB p slash + 1), .slice (some ⟨w1.heap.size, 0, none⟩) (Lib.countB q slash + 1) (Lib.countB q slash + 1)] w2 fun e w' => e = .returned (.int .i64 (ordP p q)) ∧ w' = w2 := h3
  have HW : Hid (∃ o1 o2, w2 = (w.alloc o1).alloc o2) := ⟨_, _, by rw [hw1, hw2]⟩
  clear hw1 hw2 hm1 hm hb1 hb2 e1 e2 h1 h2 h3
  generalize Lib.countB p slash + 1 = n1 at c1 c3
  generalize Lib.countB q slash + 1 = n2 at c2 c3
  generalize ordP p q = r at c3
  unfold slash at c1 c2
  go_enter Tryz.func117, Tryz.ntmps117
  go_wp2_with (first | (go_at_call 155; refine c1.mono ?_; rintro e wa ⟨rfl, hwa⟩; rw [hwa]; clear hwa) | (go_at_call 155; refine c2.mono ?_; rintro e wa ⟨rfl, hwa⟩; rw [hwa]; clear hwa) | (go_at_call 154; refine c3.mono ?_; rintro e wa ⟨rfl, hwa⟩; rw [hwa]; clear hwa))
  go_ret
  exact ⟨rfl, HW.out⟩

theorem below_drewN {B : Nat} {w w' : World} (h : Below B w w') (n : Nat) : Below B w (w'.drewN n) := ⟨h.1, h.2, h.3, h.4, h.5⟩

def lessS (p q : ByteArray) : Bool := decide (ordP p q < 0)

theorem dless_any (p q : ByteArray) (w : World) (hp : p.size ≤ 1000000) (hq : q.size ≤ 1000000) (hm : MaxAt w) :
    Calls Tryz.prog 71 #[.string p, .string q] w fun e w' => e = .returned (.bool (lessS p q)) ∧ Below w.heap.size w w' := by
  have h := order_any p q w hp hq hm
  unfold lessS
  generalize ordP p q = r at h
  go_enter Tryz.func71, Tryz.ntmps71
  go_wp2_with (go_at_call 117; refine h.mono ?_; rintro e wa ⟨rfl, o1, o2, rfl⟩)
  go_ret
  exact ⟨rfl, ((Below.refl _ w).alloc (Nat.le_refl _) _).alloc (by simp) _⟩

theorem nms_len (s : ByteArray) : (nms s).length ≤ s.size + 1 := by
  have := spl_len s.data.toList
  unfold nms; rw [List.length_map]
  have e2 : s.data.toList.length = s.size := by simp
  omega

set_option maxHeartbeats 1000000 in
theorem rless_any (p q : ByteArray) (w : World) (hp : p.size ≤ 1000000) (hq : q.size ≤ 1000000) :
    Calls Tryz.prog 156 #[.string p, .string q] w fun e w' => e = .returned (.bool (lessS p q)) ∧ Below w.heap.size w w' := by
  have h1 := names_any p w hp
  have h2 := fun w => names_any q w hq
  have hord : ordP p q = cmpP ((nms p).map (·.data.toList)) ((nms q).map (·.data.toList)) := by rw [nms_data, nms_data]; rfl
  have HO := Lib.hid hord
  have hn1 := nms_len p
  have hn2 := nms_len q
  generalize nms p = xs at h1 hord hn1 HO
  generalize nms q = ys at h2 hord hn2 HO
  clear hord
  unfold lessS
  go_enter Tryz.func156, Tryz.ntmps156
  go_wp2_with (first | (go_at_call_of 193 (Value.string p); refine h1.mono ?_; rintro e w1 ⟨v1, rfl, r1, b1⟩) | (go_at_call_of 193 (Value.string q); refine (h2 _).mono ?_; rintro e w2 ⟨v2, rfl, r2, b2⟩))
  have r3 := r1.below b2
  have b3 := b1.trans (b2.mono b1.size)
  clear r1 b1 b2
  obtain ⟨ao, cap, rfl, hmx, hx⟩ := r3
  obtain ⟨bo, cap2, rfl, hmy, hy⟩ := r2
  unfold maxLen at hmx hmy
  go_loopw [7] (fun i wr => ∃ k : Nat, k ≤ xs.length ∧ k ≤ ys.length ∧ i = .int .i64 k ∧ Hid (cmpP ((xs.drop k).map (·.data.toList)) ((ys.drop k).map (·.data.toList)) = ordP p q) ∧ Below w2.heap.size w2 wr) (fun i _ => (xs.length - intOf i).toNat)
  case atStart => exact ⟨0, by omega, by omega, rfl, HO.out.symm, Below.refl _ _⟩
  case round =>
    obtain ⟨k, hk, hk2, rfl, hf, hb⟩ := hrel
    have hbw := b3.trans (hb.mono b3.size)
    by_cases hlt : k < xs.length
    · by_cases hlt2 : k < ys.length
      · obtain ⟨b, off, rfl, hbl, hcell⟩ := hx (by intro e; rw [e] at hlt; simp at hlt)
        have c1 := below_load (hcell k hlt) hb hbl
        obtain ⟨b2, off2, rfl, hbl2, hcell2⟩ := hy (by intro e; rw [e] at hlt2; simp at hlt2)
        have c2 := below_load (hcell2 k hlt2) hb hbl2
        have hs := hf.out
        rw [List.drop_eq_getElem_cons hlt, List.drop_eq_getElem_cons hlt2, List.map_cons, List.map_cons, cmpP_cons] at hs
        clear hcell hcell2 hf
        generalize xs[k] = x at c1 hs
        generalize ys[k] = y at c2 hs
        by_cases hr : x.data.toList = y.data.toList
        · have hr0 := (cmpB_zero _ _).2 hr
          rw [if_neg (by simpa using hr0)] at hs
          have HS := Lib.hid hs
          have he : (x.toList == y.toList) = true := by rw [ByteArray.toList_eq, ByteArray.toList_eq]; simpa using hr
          clear hs hr hr0
          go_wp2
          go_quiet (fail)
          go_wp2
          go_roundw
          case rel => exact ⟨k + 1, by omega, by omega, by go_num, HS, below_drewN hb _⟩
          case measure => simp [intOf]; omega
        · have hr0 : cmpB x.data.toList y.data.toList ≠ 0 := fun e => hr ((cmpB_zero _ _).1 e)
          rw [if_pos hr0] at hs
          have hlt3 : Op.bytesLess x.toList y.toList = decide (ordP p q < 0) := by
            rw [← hs, ByteArray.toList_eq, ByteArray.toList_eq, Bool.eq_iff_iff, decide_eq_true_eq, cmpB_neg]
          have he : (x.toList == y.toList) = false := by rw [ByteArray.toList_eq, ByteArray.toList_eq]; simpa using hr
          have HS := Lib.hid hlt3
          clear hs hr hr0 hlt3
          go_wp2
          go_quiet (fail)
          go_wp2
          go_quiet (fail)
          go_wp2
          go_ret
          exact ⟨by rw [← HS.out]; rfl, below_drewN (below_drewN hbw _) _⟩
      · obtain rfl : k = ys.length := by omega
        have hs := hf.out
        rw [List.drop_eq_getElem_cons hlt, List.drop_eq_nil_of_le (Nat.le_refl _)] at hs
        have HS : Hid (ordP p q = 1) := hs.symm
        clear hf hs
        have hlt3 : ¬ (xs.length : Int) < ys.length := by omega
        go_wp2
        go_ret
        exact ⟨by rw [HS.out]; rfl, hbw⟩
    · obtain rfl : k = xs.length := by omega
      have hs := hf.out
      rw [List.drop_eq_nil_of_le (Nat.le_refl _)] at hs
      by_cases hlt2 : xs.length < ys.length
      · rw [List.drop_eq_getElem_cons hlt2] at hs
        have HS : Hid (ordP p q = -1) := hs.symm
        clear hf hs
        have hlt3 : (xs.length : Int) < ys.length := by omega
        go_wp2
        go_ret
        exact ⟨by rw [HS.out]; rfl, hbw⟩
      · rw [List.drop_eq_nil_of_le (by omega)] at hs
        have HS : Hid (ordP p q = 0) := hs.symm
        clear hf hs
        have hlt3 : ¬ (xs.length : Int) < ys.length := by omega
        go_wp2
        go_ret
        exact ⟨by rw [HS.out]; rfl, hbw⟩

theorem run_append_nil {P : Program} (w : World) (t ty e : TypeId) (i : TypeInfo) (ht : P.underlying t = some (.slice e)) (hi : P.info? e = some i) (b : Option Addr) (c : Nat) :
    (Builtin.append_ #[t, t] ty #[.slice none 0 0, .slice b 0 c]).run P w = .ok (.slice none 0 0) w := by
  cases b <;> simp [Builtin.append_, run_underlying ht, sizeOf, typeInfo, hi, Builtin.lenOf, Builtin.firstCells, loadCells, loadCellsFrom]

/-- append, of none too, onto nil too. -/
theorem wpList_append_any {P : Program} {w : World} {ops : Array Oper} {rest : List Oper} {o : Oper} {a : Act} {Q : Exit → Act → World → Prop} (hgd : o.guard = none) (s x : Operand) (t : TypeId)
    (ho : o.op = .call { callee := .builtin .append, args := #[s, x], argTypes := #[t, t] })
    (base : Nat) (e : TypeId) (i : TypeInfo) (z : Value) (size bytes : Nat) (ht : P.underlying t = some (.slice e)) (hi : P.info? e = some i) (hz : i.zero = some z)
    (hsize : i.size = size) (hby : i.bytes = bytes) (hzs : z.cells.size = size) (hsz : 0 < size)
    (v : Value) (n : Nat) (xs : List Value) (hs : a.eval s = v) (hown : w.ownsRow base e size v n xs)
    (ao : Option Addr) (m c : Nat) (news : List Value) (hx : a.eval x = .slice ao m c) (hl : news.length = m * size) (hnews : 0 < m → ∃ ad, ao = some ad ∧ ∀ j u, news[j]? = some u → w.cell? (ad.add j) = some u) (h1 : ∀ u ∈ news, u.oneCell' = true)
    (h63 : n + m ≤ maxLen) (hbytes : (n + m) * bytes ≤ 140737488355328) (hbase : base ≤ w.heap.size)
    (h : ∀ v' w', w'.ownsRow base e size v' (n + m) (xs ++ news) → w.grownBy w' v.ownBlock → wpList P ops Q rest (a.put o.dst v') w') : wpList P ops Q (o :: rest) a w := by
  rcases Nat.eq_zero_or_pos m with rfl | hm
  · obtain rfl : news = [] := List.eq_nil_of_length_eq_zero (by simpa using hl)
    rw [List.append_nil, Nat.add_zero] at h
    rcases hown.2 with ⟨rfl, rfl⟩ | ⟨g, cap, cur, rfl, _, _, hn, _⟩
    · refine wpList_plain hgd fun K hK' => ?_
      have hrun := run_append_nil (P := P) w t o.type e i ht hi ao c
      unfold Oper.wp
      simp [execOp, ho, resolve, invoke, builtin, hs, hx, hrun, Result.andThen]
      exact hK' _ _ (h _ _ hown (World.grownBy.refl _ _))
    · exact wpList_append_empty w hgd s x t ho e i ht hi _ n cap hn ao c hs hx (h _ _ hown (World.grownBy.refl _ _))
  · obtain ⟨ad, rfl, hc⟩ := hnews hm
    exact wpList_append_lies w hgd s x t ho base e i z size bytes ht hi hz hsize hby hzs hsz v n xs hs hown ad m c news hx hl hc h1 hm h63 hbytes hbase _ rfl fun g cap w' h2 h3 _ _ => h _ _ h2 h3
end Go.Proofs.YtbmiiiccnoiffaaGreatDoor

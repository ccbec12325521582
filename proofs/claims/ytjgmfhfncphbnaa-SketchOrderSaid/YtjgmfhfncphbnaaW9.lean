/- Walks: the document's places, each near the one ahead. -/
import Derived.Test.YtjgmfhfncphbnaaW7
import Derived.Test.YtjgmfhfncphbnaaW8
namespace Go.Proofs.Ytjgmfhfncphbnaa
open Go.RowKit Fl

def bsOf (n : Nat) (o : List Nat) : List Bool := (List.range n).map fun i => decide (i ∈ o)
def nextR (fs : List (Nat → Int)) (o : List Nat) (at_ : Nat) : Nat :=
  if o = [] then at_ else (nearB (dst (fat fs at_) fs) (free (bsOf fs.length o)) fs.length).toNat
def rGo (fs : List (Nat → Int)) : Nat → List Nat → Nat → List Nat
  | 0, o, _ => o
  | n + 1, o, at_ => rGo fs n (o ++ [nextR fs o at_]) (nextR fs o at_)
def ordR (fs : List (Nat → Int)) : List Nat := rGo fs fs.length [] 0

theorem pigeon : ∀ (n : Nat) (o : List Nat), (∀ i, i < n → i ∈ o) → n ≤ o.length
  | 0, _, _ => by omega
  | n + 1, o, h => by
    have hm := h n (by omega)
    have := pigeon n (o.erase n) (fun i hi => (List.mem_erase_of_ne (by omega)).2 (h i (by omega)))
    rw [List.length_erase_of_mem hm] at this
    have := List.length_pos_of_mem hm
    omega

theorem nearB_ok (d : Nat → Int) (ok : Nat → Bool) (k i : Nat) (hi : i < k) (h : ok i = true) : 0 ≤ nearB d ok k := by
  induction k with
  | zero => omega
  | succ k ih =>
    unfold nearB
    split
    · omega
    · rename_i hc
      rcases Nat.lt_or_ge i k with h1 | h1
      · exact ih h1
      · obtain rfl : i = k := by omega
        by_cases hn : nearB d ok i < 0
        · exact absurd ⟨h, .inl hn⟩ hc
        · omega

theorem free_bs (n : Nat) (o : List Nat) (i : Nat) (hi : i < n) : free (bsOf n o) i = !decide (i ∈ o) := by
  unfold free bsOf
  rw [List.getD_eq_getElem?_getD, List.getElem?_map, List.getElem?_range hi]; rfl

theorem near_free (d : Nat → Int) (n : Nat) (o : List Nat) (h : o.length < n) : 0 ≤ nearB d (free (bsOf n o)) n := by
  by_cases hc : ∀ i, i < n → i ∈ o
  · have := pigeon n o hc; omega
  · have : ∃ i, i < n ∧ i ∉ o := by
      refine Classical.byContradiction fun h' => hc fun i hi => ?_
      refine Classical.byContradiction fun h2 => h' ⟨i, hi, h2⟩
    obtain ⟨i, hi, hm⟩ := this
    exact nearB_ok _ _ _ i hi (by rw [free_bs n o i hi]; simp [hm])

theorem nextR_lt (fs : List (Nat → Int)) (o : List Nat) (at_ : Nat) (h : o.length < fs.length) (ha : at_ < fs.length) : nextR fs o at_ < fs.length := by
  unfold nextR
  split
  · exact ha
  · have h1 := nearB_bd (dst (fat fs at_) fs) (free (bsOf fs.length o)) fs.length
    have h2 := near_free (dst (fat fs at_) fs) fs.length o h
    omega

theorem info4 : (Try.prog.info? 4).map (fun i => (i.zero, i.size, i.bytes)) = some (some (.bool false), 1, 1) := by kernel_rfl

def boolv (o : List Nat) (i : Nat) : Value := .bool (decide (i ∈ o))

set_option maxHeartbeats 1000000 in
theorem rorder_any (v : Value) (fs : List (Nat → Int)) (w : World) (hfs : ∀ g ∈ fs, Bd g) (hn : fs.length ≤ 1000000) (hv : RowOf w v 8 (fs.map wl)) :
    Calls Try.prog 21 #[v] w fun e w' => ∃ o, e = .returned o ∧ IntRow w' o ((ordR fs).map Int.ofNat) ∧ Below w.heap.size w w' := by
  have hv0 := hv
  obtain ⟨ao, cap, rfl, hmax, hv⟩ := hv
  obtain ⟨i0, hi, hz0, hz1, hz2⟩ := info_parts info3
  obtain ⟨i1, hj, hy0, hy1, hy2⟩ := info_parts info4
  unfold maxLen at hmax
  rw [List.length_map] at hmax hv0 ⊢
  have HV0 := Lib.hid hv0
  have HV := Lib.hid hv
  clear hv hv0
  go_enter Try.func21, Try.ntmps21
  go_wp2_with (at_make; refine wpList_make_full _ rfl _ _ 42 rfl w.heap.size 4 i1 (.bool false) 1 Try.underlying42 hj hy0 hy1 _ _ _ _ fs.length rfl rfl rfl rfl ?m1 ?m2 ?m3 ?_)
  case m1 => rw [hy2]; omega
  case m2 => unfold maxLen; omega
  case m3 => exact Nat.le_refl _
  intro w1 hown1 hgrow1
  have hmade : Arr w1 w.heap.size fs.length (boolv []) := by
    rcases hown1.2 with ⟨h, _⟩ | ⟨g, c, cur, h, _, hg, _, _, hc, ht⟩
    · simp at h
    · simp at h
      obtain ⟨rfl, rfl⟩ := h
      refine ⟨fun k hk => ?_, fun k hk => ?_⟩
      · have := hown1.cells (g := w.heap.size) rfl k (.bool false) (by simp [madeCells, hk, Nat.mod_one])
        rw [Addr.add_mid, Nat.zero_add] at this
        rw [this]; simp [boolv]
      · simp [World.frozen?, hg]
  have HM := Lib.hid hmade
  have hb1 : Below w.heap.size w w1 := (Below.refl _ _).grown hgrow1 (Nat.le_refl _) (by simp)
  have hs1 : w.heap.size < w1.heap.size ∨ fs.length = 0 := by
    rcases Nat.eq_zero_or_pos fs.length with h | h
    · exact .inr h
    · exact .inl (hmade.lt h)
  clear hmade hown1
  go_wp2
  go_loopw [3, 5, 6] (fun out at_ n wr => ∃ (o : List Nat) (q : Nat), n = .int .i64 o.length ∧ o.length ≤ fs.length ∧ at_ = .int .i64 q ∧ (0 < fs.length → q < fs.length) ∧ Hid (rGo fs (fs.length - o.length) o q = ordR fs) ∧ wr.ownsRow w.heap.size 3 1 out o.length (o.map natv) ∧ out.ownBlock ≠ some w.heap.size ∧ Arr wr w.heap.size fs.length (boolv o) ∧ Below w.heap.size w wr) (fun _ _ n _ => (fs.length - intOf n).toNat)
  case atStart => exact ⟨[], 0, rfl, by simp, rfl, fun h => h, rfl, World.ownsRow_nil _ _ _ _, by simp [Value.ownBlock], HM.out, hb1⟩
  case round =>
    obtain ⟨o, q, rfl, hol, rfl, hq, hgo, hown, hne, harr, hb⟩ := hrel
    obtain ⟨ao3, c3, rfl⟩ := own_form hown
    by_cases hlt : o.length < fs.length
    · have hsz := hb.size
      by_cases ho0 : o = []
      · skip
        have HK : Hid (nextR fs o q = q) := by show _ = _; unfold nextR; rw [if_pos ho0]
        have HKL : Hid (q < fs.length) := hq (by omega)
        have hz : decide (0 < o.length) = false := by simp [ho0]
        clear ho0
        have hKl : q < fs.length := HKL.out
        have hstep : ∀ w2, Below wr.heap.size wr w2 → (w2.cell? ⟨w.heap.size, q, none⟩ = some (.bool (decide (q ∈ o))) ∧ w2.frozen? ⟨w.heap.size, q, none⟩ = false) ∧ Arr w2 w.heap.size fs.length (boolv o) ∧ Below w.heap.size w w2 ∧ w2.ownsRow w.heap.size 3 1 (.slice ao3 o.length c3) o.length (o.map natv) := fun w2 hb2 => by
          have hl : w.heap.size < wr.heap.size := harr.lt (by omega)
          have h1 := harr.below hb2 hl
          exact ⟨⟨h1.cell q hKl, h1.free q hKl⟩, h1, hb.trans (hb2.mono hsz), hown.kept (grown_of_below hb2 none) (by cases ao3 <;> simp [Value.ownBlock])⟩
        have HST := Lib.hid hstep
        have hos : ∀ w2, Below wr.heap.size wr w2 → (w2.setCell ⟨w.heap.size, q, none⟩ (.bool true)).ownsRow w.heap.size 3 1 (.slice ao3 o.length c3) o.length (o.map natv) := fun w2 hb2 =>
          World.ownsRow.kept (row := some w.heap.size) (hstep w2 hb2).2.2.2 ⟨rfl, rfl, rfl, by simp, fun k _ hk => Below.heap_setCell _ _ _ _ (by intro e; exact hk (by rw [e]))⟩ (.inr (by simpa [Value.ownBlock] using hne))
        have HOS := Lib.hid hos
        have hbr : Below wr.heap.size wr wr := Below.refl _ _
        have k0 : (0 : Int) ≤ q := by omega
        have k1 : (q : Int) < fs.length := by omega
        clear hos hstep harr hown
        have HSW := HST.out wr hbr
        obtain ⟨hc1, hc2⟩ := HSW.1
        have HSW := HST.out wr hbr
        go_wp2_with (at_builtin; refine wpList_append_lies _ rfl (.tmp 28) (.tmp 30) 44 rfl w.heap.size 3 i0 (.int .i64 0) 1 8 Try.underlying44 hi hz0 hz1 hz2 rfl (by decide) _ o.length _ rfl ((HOS.out _ hbr).alloc _) ⟨wr.heap.size, 0, none⟩ 1 1 [.int .i64 q] rfl rfl ?e1a ?e2a (by decide) ?e3a ?e4a ?e5a _ rfl ?_)
        case e1a => intro j u hu; have h := cell_one_new (wr.setCell ⟨w.heap.size, q, none⟩ (.bool true)) (.int .i64 q) 3 j u hu; rw [World.size_setCell] at h; exact h
        case e2a => simp [Value.oneCell']
        case e3a => unfold maxLen; omega
        case e4a => omega
        case e5a => have := HSW.2.2.1.size; simp; omega
        intro g3 c4 w3 hown4 hgrow3 hat3 hlt3
        obtain ⟨_, hA', hbW, hoW⟩ := HSW
        have hsW := hbW.size
        have hb3 : Below w.heap.size w w3 := ((hbW.setCell (by simp) _).alloc (by simp; omega) _).grown hgrow3 (by simp; omega) (fun x hx => by have := (hoW.lt x hx).1; exact this)
        have hbne : w.heap.size < wr.heap.size := hA'.lt (by omega)
        have hgne : g3 ≠ w.heap.size := by
          rcases hat3 with h | h
          · intro e; rw [h, e] at hne; exact hne rfl
          · have h' : g3 = wr.heap.size + 1 := by simpa using h
            omega
        have harr3 : Arr w3 w.heap.size fs.length (boolv (o ++ [q])) := by
          have h1 := ((hA'.set q hKl (.bool true)).alloc (by omega) (Obj.cells #[.int .i64 q] 3))
          refine ⟨fun k hk => ?_, fun k hk => ?_⟩
          · rw [hgrow3.cell_far ⟨w.heap.size, k, none⟩ (by simp; omega) (by simpa using Ne.symm hne), h1.cell k hk]
            unfold upd boolv
            by_cases e : k = q
            · rw [if_pos e, e]; simp
            · rw [if_neg e]; simp [e]
          · rw [hgrow3.frozen_far ⟨w.heap.size, k, none⟩ (by simp; omega) (by simpa using Ne.symm hne)]; exact h1.free k hk
        have HA3 := Lib.hid harr3
        have HO3 := Lib.hid hown4
        clear harr3 hown4 hA' hc1 hc2
        go_wp2
        go_roundw
        case rel =>
          refine ⟨o ++ [q], q, by rw [List.length_append]; go_num, by simp; omega, rfl, fun _ => hKl, ?_, by rw [List.length_append, List.map_append]; exact HO3.out, by simp [Value.ownBlock]; exact hgne, HA3.out, hb3⟩
          show rGo fs (fs.length - (o ++ [q]).length) (o ++ [q]) q = ordR fs
          have e := hgo.out
          rw [show fs.length - o.length = (fs.length - (o ++ [q]).length) + 1 from by simp; omega] at e
          rw [← e, rGo, HK.out]
        case measure => simp [intOf]; omega
      · skip
        have hq := hq (by omega)
        have hkl := nextR_lt fs o q hlt hq
        have hN : nearB (dst (fat fs q) fs) (free (bsOf fs.length o)) fs.length = (nextR fs o q : Nat) := by
          unfold nextR; rw [if_neg ho0, Int.toNat_of_nonneg (near_free _ _ _ hlt)]
        have hpos := List.length_pos_iff.2 ho0
        have hz : decide ((0 : Int) < o.length) = true := decide_eq_true (by omega)
        obtain ⟨b, off, rfl, hbl, hrow⟩ := HV.out (by intro e; rw [List.map_eq_nil_iff] at e; rw [e] at hq; simp at hq)
        have hr : wr.rangeAt b (off + q * 8) (wl (fat fs q)) := by
          have h1 := rangeAt_below (hrow q (by simpa using hq)) hb hbl
          rw [List.getElem_map] at h1
          rw [fat_eq fs q hq]; exact h1
        have hbdq : Bd (fat fs q) := by rw [fat_eq fs q hq]; exact hfs _ (List.getElem_mem hq)
        have hrows : RowOf wr (.slice (some ⟨b, off, none⟩) fs.length cap) 8 (fs.map wl) := by
          refine ⟨_, cap, by rw [List.length_map], by rw [List.length_map]; unfold maxLen; omega, fun _ => ⟨b, off, rfl, by have := hb.size; omega, fun i hi => rangeAt_below (hrow i hi) hb hbl⟩⟩
        have hboo : BoolRow wr (.slice (some ⟨w.heap.size, 0, none⟩) fs.length fs.length) (bsOf fs.length o) := by
          refine ⟨_, fs.length, by simp [bsOf], by simp [bsOf, maxLen]; omega, fun _ => ⟨w.heap.size, 0, rfl, harr.lt (by omega), fun i hi => ?_⟩⟩
          have hi' : i < fs.length := by simpa [bsOf] using hi
          rw [Nat.zero_add, harr.cell i hi']
          simp [bsOf, boolv]
        have hbsl : (bsOf fs.length o).length = fs.length := by simp [bsOf]
        have HBS := Lib.hid hbsl
        generalize hkn : nextR fs o q = kn at hN hkl
        have HK : Hid (nextR fs o q = kn) := hkn
        have HKL : Hid (kn < fs.length) := hkl
        have HN := Lib.hid hN
        have HR := Lib.hid hrow
        clear hkn hkl hrow ho0 hbsl hN
        unfold wl at hr
        have m0 : (0 : Int) ≤ q := by omega
        have m1 : (q : Int) < fs.length := by omega
        have hKl : kn < fs.length := HKL.out
        have hstep : ∀ w2, Below wr.heap.size wr w2 → (w2.cell? ⟨w.heap.size, kn, none⟩ = some (.bool (decide (kn ∈ o))) ∧ w2.frozen? ⟨w.heap.size, kn, none⟩ = false) ∧ Arr w2 w.heap.size fs.length (boolv o) ∧ Below w.heap.size w w2 ∧ w2.ownsRow w.heap.size 3 1 (.slice ao3 o.length c3) o.length (o.map natv) := fun w2 hb2 => by
          have hl : w.heap.size < wr.heap.size := harr.lt (by omega)
          have h1 := harr.below hb2 hl
          exact ⟨⟨h1.cell kn hKl, h1.free kn hKl⟩, h1, hb.trans (hb2.mono hsz), hown.kept (grown_of_below hb2 none) (by cases ao3 <;> simp [Value.ownBlock])⟩
        have HST := Lib.hid hstep
        have hos : ∀ w2, Below wr.heap.size wr w2 → (w2.setCell ⟨w.heap.size, kn, none⟩ (.bool true)).ownsRow w.heap.size 3 1 (.slice ao3 o.length c3) o.length (o.map natv) := fun w2 hb2 =>
          World.ownsRow.kept (row := some w.heap.size) (hstep w2 hb2).2.2.2 ⟨rfl, rfl, rfl, by simp, fun k _ hk => Below.heap_setCell _ _ _ _ (by intro e; exact hk (by rw [e]))⟩ (.inr (by simpa [Value.ownBlock] using hne))
        have HOS := Lib.hid hos
        have hbr : Below wr.heap.size wr wr := Below.refl _ _
        have k0 : (0 : Int) ≤ kn := by omega
        have k1 : (kn : Int) < fs.length := by omega
        clear hos hstep harr hown
        go_wp2_with (first | (refine wpList_load_mid rfl 31 _ rfl b (off + q * 8) rfl _ _ hr Try.underlying31 rfl (by kernel_rfl) ?_) | (go_at_call 18; refine (rnear_any _ _ (fat fs q) fs (bsOf fs.length o) _ hbdq hfs hrows hboo HBS.out).mono ?_; rintro e w2 ⟨rfl, hb2⟩; rw [HN.out]; have HSW := HST.out w2 hb2; obtain ⟨hc1, hc2⟩ := HSW.1; have HSW := HST.out w2 hb2) | (at_builtin; refine wpList_append_lies _ rfl (.tmp 28) (.tmp 30) 44 rfl w.heap.size 3 i0 (.int .i64 0) 1 8 Try.underlying44 hi hz0 hz1 hz2 rfl (by decide) _ o.length _ rfl ((HOS.out _ (by assumption)).alloc _) ⟨_, 0, none⟩ 1 1 [.int .i64 kn] rfl rfl ?e1b ?e2b (by decide) ?e3b ?e4b ?e5b _ rfl ?_))
        case e1b => intro j u hu; have h := cell_one_new (w2.setCell ⟨w.heap.size, kn, none⟩ (.bool true)) (.int .i64 kn) 3 j u hu; rw [World.size_setCell] at h; exact h
        case e2b => simp [Value.oneCell']
        case e3b => unfold maxLen; omega
        case e4b => omega
        case e5b => have := HSW.2.2.1.size; simp; omega
        intro g3 c4 w3 hown4 hgrow3 hat3 hlt3
        obtain ⟨_, hA', hbW, hoW⟩ := HSW
        have hsW := hbW.size
        have hb3 : Below w.heap.size w w3 := ((hbW.setCell (by simp) _).alloc (by simp; omega) _).grown hgrow3 (by simp; omega) (fun x hx => by have := (hoW.lt x hx).1; exact this)
        have hbne : w.heap.size < w2.heap.size := hA'.lt (by omega)
        have hgne : g3 ≠ w.heap.size := by
          rcases hat3 with h | h
          · intro e; rw [h, e] at hne; exact hne rfl
          · have h' : g3 = w2.heap.size + 1 := by simpa using h
            omega
        have harr3 : Arr w3 w.heap.size fs.length (boolv (o ++ [kn])) := by
          have h1 := ((hA'.set kn hKl (.bool true)).alloc (by omega) (Obj.cells #[.int .i64 kn] 3))
          refine ⟨fun k hk => ?_, fun k hk => ?_⟩
          · rw [hgrow3.cell_far ⟨w.heap.size, k, none⟩ (by simp; omega) (by simpa using Ne.symm hne), h1.cell k hk]
            unfold upd boolv
            by_cases e : k = kn
            · rw [if_pos e, e]; simp
            · rw [if_neg e]; simp [e]
          · rw [hgrow3.frozen_far ⟨w.heap.size, k, none⟩ (by simp; omega) (by simpa using Ne.symm hne)]; exact h1.free k hk
        have HA3 := Lib.hid harr3
        have HO3 := Lib.hid hown4
        clear harr3 hown4 hA' hc1 hc2
        go_wp2
        go_roundw
        case rel =>
          refine ⟨o ++ [kn], kn, by rw [List.length_append]; go_num, by simp; omega, rfl, fun _ => hKl, ?_, by rw [List.length_append, List.map_append]; exact HO3.out, by simp [Value.ownBlock]; exact hgne, HA3.out, hb3⟩
          show rGo fs (fs.length - (o ++ [kn]).length) (o ++ [kn]) kn = ordR fs
          have e := hgo.out
          rw [show fs.length - o.length = (fs.length - (o ++ [kn]).length) + 1 from by simp; omega] at e
          rw [← e, rGo, HK.out]
        case measure => simp [intOf]; omega
    · have hfin : IntRow wr (.slice ao3 o.length c3) (o.map Int.ofNat) := IntRow.of_own hown
      have HF := Lib.hid hfin
      clear hown harr hfin
      go_wp2
      go_ret
      have e := hgo.out
      rw [show fs.length - o.length = 0 from by omega] at e
      simp only [rGo] at e
      exact ⟨_, rfl, by rw [← e]; exact HF.out, hb⟩
end Go.Proofs.Ytjgmfhfncphbnaa

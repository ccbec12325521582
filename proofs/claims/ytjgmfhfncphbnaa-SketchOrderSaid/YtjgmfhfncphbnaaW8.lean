/- Walks: places, each near the one ahead. -/
import Derived.Test.YtjgmfhfncphbnaaW6
import Derived.Test.YtjgmfhfncphbnaaQu
import Derived.Deep.AppendLies
import Derived.StillTailTactics
namespace Go.Proofs.Ytjgmfhfncphbnaa
open Go.RowKit Fl

theorem nearB_pos (d : Nat → Int) (k : Nat) (hk : 0 < k) : 0 ≤ nearB d (fun _ => true) k := by
  induction k with
  | zero => omega
  | succ k ih =>
    unfold nearB
    split
    · omega
    · rename_i h
      have h0 : 0 < k := by
        rcases Nat.eq_zero_or_pos k with rfl | h'
        · simp [nearB] at h
        · exact h'
      exact ih h0

/-- The i-th one. -/
def fat (fs : List (Nat → Int)) (i : Nat) : Nat → Int := fs.getD i fun _ => 0
theorem fat_eq (fs : List (Nat → Int)) (i : Nat) (h : i < fs.length) : fat fs i = fs[i] := by
  unfold fat; rw [List.getD_eq_getElem?_getD, List.getElem?_eq_getElem h]; rfl
/-- The cells of the sketches at the first j places. -/
def restOf (fs : List (Nat → Int)) (L : List Nat) (j : Nat) : List Value := ((L.take j).map fun i => skl (fat fs i)).flatten

/-- The order's next place in the list of those that are left. -/
def nextK (fs : List (Nat → Int)) (L : List Nat) (at_ : Nat) (out : List Nat) : Nat :=
  if out = [] then 0 else (nearB (dst (fat fs at_) (L.map (fat fs))) (fun _ => true) L.length).toNat
def ordGo (fs : List (Nat → Int)) : Nat → List Nat → Nat → List Nat → List Nat
  | 0, _, _, out => out
  | n + 1, L, at_, out => ordGo fs n (L.eraseIdx (nextK fs L at_ out)) (L.getD (nextK fs L at_ out) 0) (out ++ [L.getD (nextK fs L at_ out) 0])
def ordS (fs : List (Nat → Int)) : List Nat := ordGo fs fs.length (List.range fs.length) 0 []

theorem nextK_lt (fs : List (Nat → Int)) (L : List Nat) (at_ : Nat) (out : List Nat) (hL : L ≠ []) : nextK fs L at_ out < L.length := by
  have hl : 0 < L.length := List.length_pos_iff.2 hL
  unfold nextK
  split
  · exact hl
  · have h1 := nearB_bd (dst (fat fs at_) (L.map (fat fs))) (fun _ => true) L.length
    have h2 := nearB_pos (dst (fat fs at_) (L.map (fat fs))) L.length hl
    omega

theorem info3 : (Try.prog.info? 3).map (fun i => (i.zero, i.size, i.bytes)) = some (some (.int .i64 0), 1, 8) := by kernel_rfl
theorem info28 : (Try.prog.info? 28).map (fun i => (i.zero, i.size, i.bytes)) = some (some (skv fun _ => 0), 4, 64) := by kernel_rfl

def lenOf : Value → Nat | .slice _ n _ => n | _ => 0
def natv (n : Nat) : Value := .int .i64 n

/-- What is left: a row of whole numbers that only is read; it lies in block g. -/
def LeftAt (w : World) (B : Nat) (v : Value) (L : List Nat) (no : Option Nat) : Prop :=
  (v = .slice none 0 0 ∧ L = []) ∨ ∃ g cap, v = .slice (some ⟨g, 0, none⟩) L.length cap ∧ L.length ≤ cap ∧ B ≤ g ∧ g < w.heap.size ∧ some g ≠ no ∧ ∀ i (h : i < L.length), w.cell? ⟨g, i, none⟩ = some (natv L[i])

theorem LeftAt.of_own {w : World} {B : Nat} {v : Value} {L : List Nat} (h : w.ownsRow B 3 1 v L.length (L.map natv)) : LeftAt w B v L none := by
  rcases h.2 with ⟨h1, h2⟩ | ⟨g, cap, cur, hv, hg, hh, hn, hm, hc, ht⟩
  · exact .inl ⟨h1, List.eq_nil_of_length_eq_zero h2⟩
  · refine .inr ⟨g, cap, hv, hn, hg, (Array.getElem?_eq_some_iff.1 hh).1, by simp, fun i hi => ?_⟩
    have := h.cells (g := g) (by rw [hv]; rfl) i (natv L[i]) (by simp [hi])
    rwa [Addr.add_mid, Nat.zero_add] at this

theorem own_form {w : World} {B : Nat} {e : TypeId} {sz : Nat} {v : Value} {n : Nat} {xs : List Value} (h : w.ownsRow B e sz v n xs) : ∃ ao c, v = .slice ao n c := by
  rcases h.2 with ⟨h1, h2⟩ | ⟨g, cap, cur, hv, _⟩
  · exact ⟨none, 0, by rw [h2]; exact h1⟩
  · exact ⟨_, _, hv⟩

theorem LeftAt.keep {w w' : World} {B : Nat} {v : Value} {L : List Nat} {no no' : Option Nat} (h : LeftAt w B v L no) (hb : w.grownBy w' no) (hno : no' = no ∨ ∃ k, no' = some k ∧ w.heap.size ≤ k) : LeftAt w' B v L no' := by
  rcases h with h | ⟨g, cap, hv, hc, hB, hg, hne, hcell⟩
  · exact .inl h
  · refine .inr ⟨g, cap, hv, hc, hB, Nat.lt_of_lt_of_le hg hb.size, ?_, fun i hi => ?_⟩
    · rcases hno with rfl | ⟨k, rfl, hk⟩
      · exact hne
      · intro e; have := Option.some.inj e; omega
    · rw [hb.cell_far ⟨g, i, none⟩ hg hne]; exact hcell i hi

theorem grown_of_below {w w' : World} (h : Below w.heap.size w w') (row : Option Nat) : w.grownBy w' row := ⟨h.os, h.tape, h.output, h.size, fun k hk _ => h.block k hk⟩

theorem IntRow.of_own {w : World} {B : Nat} {v : Value} {o : List Nat} (h : w.ownsRow B 3 1 v o.length (o.map natv)) : IntRow w v (o.map Int.ofNat) := by
  rcases h.2 with ⟨h1, h2⟩ | ⟨g, cap, cur, hv, hg, hh, hn, hm, hc, ht⟩
  · obtain rfl := List.eq_nil_of_length_eq_zero h2
    exact ⟨none, 0, h1, by simp, fun h => absurd rfl h⟩
  · refine ⟨some ⟨g, 0, none⟩, cap, by rw [List.length_map]; exact hv, by rw [List.length_map]; exact Nat.le_trans hn hm, fun _ => ⟨g, 0, rfl, (Array.getElem?_eq_some_iff.1 hh).1, fun i hi => ?_⟩⟩
    rw [List.length_map] at hi
    have := h.cells (g := g) (by rw [hv]; rfl) i (natv o[i]) (by simp [hi])
    rw [Addr.add_mid] at this
    rw [List.getElem_map]; exact this

theorem flat_get {sz : Nat} : ∀ (rows : List (List Value)), (∀ r ∈ rows, r.length = sz) → ∀ (i : Nat) (hi : i < rows.length) (j : Nat) (u : Value), rows[i][j]? = some u → rows.flatten[i * sz + j]? = some u
  | [], _, _, hi, _, _, _ => by simp at hi
  | r :: rows, hr, i, hi, j, u, hu => by
    have hrl : r.length = sz := hr r (by simp)
    cases i with
    | zero =>
      simp only [List.getElem_cons_zero] at hu
      have hj := (List.getElem?_eq_some_iff.1 hu).1
      rw [List.flatten_cons, Nat.zero_mul, Nat.zero_add, List.getElem?_append_left hj]; exact hu
    | succ i =>
      simp only [List.getElem_cons_succ] at hu
      rw [List.flatten_cons, List.getElem?_append_right (by rw [Nat.succ_mul]; omega), show (i + 1) * sz + j - r.length = i * sz + j from by rw [Nat.succ_mul]; omega]
      exact flat_get rows (fun r hr' => hr r (by simp [hr'])) i (by simpa using hi) j u hu

theorem RowOf.of_own {w : World} {B : Nat} {e : TypeId} {v : Value} {sz : Nat} {rows : List (List Value)} (hr : ∀ r ∈ rows, r.length = sz) (h : w.ownsRow B e sz v rows.length rows.flatten) : RowOf w v sz rows := by
  rcases h.2 with ⟨h1, h2⟩ | ⟨g, cap, cur, hv, hg, hh, hn, hm, hc, ht⟩
  · obtain rfl := List.eq_nil_of_length_eq_zero h2
    exact ⟨none, 0, h1, by simp, fun h => absurd rfl h⟩
  · refine ⟨some ⟨g, 0, none⟩, cap, hv, Nat.le_trans hn hm, fun _ => ⟨g, 0, rfl, (Array.getElem?_eq_some_iff.1 hh).1, fun i hi j u hu => ?_⟩⟩
    have hf := flat_get rows hr i hi j u hu
    have := h.cells (g := g) (by rw [hv]; rfl) (i * sz + j) u hf
    rw [Addr.add_mid] at this
    rw [show 0 + i * sz + j = 0 + (i * sz + j) from by omega]; exact this

theorem run_append_empty {P : Program} (w : World) (t ty e : TypeId) (i : TypeInfo) (ht : P.underlying t = some (.slice e)) (hi : P.info? e = some i) (a : Addr) (n cap : Nat) (h : n ≤ cap) (b : Option Addr) (c : Nat) :
    (Builtin.append_ #[t, t] ty #[.slice (some a) n cap, .slice b 0 c]).run P w = .ok (.slice (some a) n cap) w := by
  cases b <;> simp [Builtin.append_, run_underlying ht, sizeOf, typeInfo, hi, Builtin.lenOf, h, Builtin.firstCells, loadCells, loadCellsFrom, storeCells]

theorem wpList_append_empty {P : Program} (w : World) {ops : Array Oper} {rest : List Oper} {o : Oper} {a : Act} {Q : Exit → Act → World → Prop}
    (hg : o.guard = none) (s x : Operand) (t : TypeId) (hop : o.op = Op.call { callee := Callee.builtin Builtin.append, args := #[s, x], argTypes := #[t, t] })
    (e : TypeId) (i : TypeInfo) (ht : P.underlying t = some (.slice e)) (hi : P.info? e = some i) (ad : Addr) (n cap : Nat) (h : n ≤ cap) (b : Option Addr) (c : Nat)
    (hs : a.eval s = .slice (some ad) n cap) (hx : a.eval x = .slice b 0 c) (hK : wpList P ops Q rest (a.put o.dst (.slice (some ad) n cap)) w) : wpList P ops Q (o :: rest) a w := by
  refine wpList_plain hg fun K hK' => ?_
  have hrun := run_append_empty (P := P) w t o.type e i ht hi ad n cap h b c
  unfold Oper.wp
  simp [execOp, hop, resolve, invoke, builtin, hs, hx, hrun, Result.andThen]
  exact hK' _ _ hK

set_option maxHeartbeats 1000000 in
theorem order_any (v : Value) (fs : List (Nat → Int)) (w : World) (hfs : ∀ g ∈ fs, Bd g) (hn : fs.length ≤ 1000000) (hv : RowOf w v 4 (fs.map skl)) :
    Calls Try.prog 20 #[v] w fun e w' => ∃ o, e = .returned o ∧ IntRow w' o ((ordS fs).map Int.ofNat) ∧ Below w.heap.size w w' := by
  obtain ⟨ao, cap, rfl, hmax, hv⟩ := hv
  obtain ⟨i0, hi, hz0, hz1, hz2⟩ := info_parts info3
  obtain ⟨i1, hj, hy0, hy1, hy2⟩ := info_parts info28
  unfold maxLen at hmax
  rw [List.length_map] at hmax ⊢
  go_enter Try.func20, Try.ntmps20
  go_wp2
  go_loopw [4, 13] (fun left i wr => ∃ k : Nat, k ≤ fs.length ∧ i = .int .i64 k ∧ wr.ownsRow w.heap.size 3 1 left k ((List.range k).map natv) ∧ Below w.heap.size w wr) (fun _ i _ => (fs.length - intOf i).toNat)
  case atStart => exact ⟨0, by omega, rfl, World.ownsRow_nil _ _ _ _, Below.refl _ _⟩
  case round =>
    obtain ⟨k, hk, rfl, hown, hb⟩ := hrel
    by_cases hlt : k < fs.length
    · have hsz := hb.size
      have HV := Lib.hid hv
      clear hv
      go_wp2_with (at_builtin; refine wpList_append_lies _ rfl (.tmp 16) (.tmp 18) 44 rfl w.heap.size 3 i0 (.int .i64 0) 1 8 Try.underlying44 hi hz0 hz1 hz2 rfl (by decide) _ k _ rfl (hown.alloc _) ⟨wr.heap.size, 0, none⟩ 1 1 [.int .i64 k] rfl rfl ?c1 ?c2 (by decide) ?c3 ?c4 ?c5 _ rfl ?_)
      case c1 => exact cell_one_new _ _ _
      case c2 => simp [Value.oneCell']
      case c3 => unfold maxLen; omega
      case c4 => omega
      case c5 => simp; omega
      intro g c w1 hown1 hgrow hat hltg
      go_wp2
      go_roundw
      case rel => exact ⟨k + 1, by omega, by go_num, by rw [List.range_succ, List.map_append]; exact hown1, (hb.alloc (by omega) _).grown hgrow (by simp; omega) (fun x hx => (hown.lt x hx).1)⟩
      case measure => simp [intOf]; omega
    · obtain rfl : k = fs.length := by omega
      have hl0 : LeftAt wr w.heap.size u4 (List.range fs.length) none := LeftAt.of_own (by simpa using hown)
      have HL := Lib.hid hl0
      have HV := Lib.hid hv
      clear hl0 hv hown
      go_wp2
      obtain ⟨wa, rfl⟩ : ∃ wa : World, wa = wr := ⟨_, rfl⟩
      go_loopw [3, 4, 6] (fun out left at_ wr => ∃ (L : List Nat) (q : Nat) (o : List Nat), at_ = natv q ∧ Hid (∀ i ∈ L, i < fs.length) ∧ (L ≠ [] → q < fs.length) ∧ Hid (ordGo fs L.length L q o = ordS fs) ∧ wr.ownsRow w.heap.size 3 1 out o.length (o.map natv) ∧ LeftAt wr w.heap.size left L out.ownBlock ∧ o.length + L.length ≤ fs.length ∧ Below w.heap.size w wr) (fun _ left _ _ => lenOf left)
      case atStart =>
        refine ⟨List.range fs.length, 0, [], rfl, fun i hi => List.mem_range.1 hi, fun h => ?_, ?_, World.ownsRow_nil _ _ _ _, HL.out, by simp, hb⟩
        · cases hfl : fs.length with
          | zero => rw [hfl] at h; simp at h
          | succ n => omega
        · show ordGo fs (List.range fs.length).length _ 0 [] = ordS fs
          rw [List.length_range]; rfl
      case round =>
        obtain ⟨L, q, o, rfl, hLb, hq, hgo, hown, hleft, hlen, hb'⟩ := hrel
        obtain ⟨ao3, c3, rfl⟩ := own_form hown
        clear hb
        rcases hleft with ⟨rfl, rfl⟩ | ⟨g, cp, rfl, hcp, hgB, hgl, hgo2, hcell⟩
        · have hfin : IntRow wr (.slice ao3 o.length c3) (o.map Int.ofNat) := IntRow.of_own hown
          have HF := Lib.hid hfin
          have HO := Lib.hid hown
          clear hfin hown
          go_wp2
          go_ret
          have e := hgo.out
          simp only [List.length_nil, ordGo] at e
          exact ⟨_, rfl, by rw [← e]; exact HF.out, hb'⟩
        · by_cases hL0 : L = []
          · subst hL0
            have hfin : IntRow wr (.slice ao3 o.length c3) (o.map Int.ofNat) := IntRow.of_own hown
            have HF := Lib.hid hfin
            have HO := Lib.hid hown
            clear hfin hown hcell
            go_wp2
            go_ret
            have e := hgo.out
            simp only [List.length_nil, ordGo] at e
            exact ⟨_, rfl, by rw [← e]; exact HF.out, hb'⟩
          · have hLl : 0 < L.length := List.length_pos_iff.2 hL0
            have hq := hq hL0
            have HO := Lib.hid hown
            have HC := Lib.hid hcell
            clear hown hcell
            go_wp2
            obtain ⟨wo, rfl⟩ : ∃ wo : World, wo = wr := ⟨_, rfl⟩
            go_loopw [7, 26] (fun rest i wr => ∃ j : Nat, j ≤ L.length ∧ i = .int .i64 j ∧ wr.ownsRow wo.heap.size 28 4 rest j (restOf fs L j) ∧ Below wo.heap.size wo wr) (fun _ i _ => (L.length - intOf i).toNat)
            case atStart => exact ⟨0, by omega, rfl, World.ownsRow_nil _ _ _ _, Below.refl _ _⟩
            case round =>
              obtain ⟨j, hj', rfl, hrest, hbi⟩ := hrel
              have hszo := hb'.size
              have hszi := hbi.size
              by_cases hjl : j < L.length
              · have hc1 : wr.cell? ⟨g, j, none⟩ = some (.int .i64 (L[j] : Nat)) := by
                  rw [hbi.cell (p := ⟨g, j, none⟩) hgl]; exact HC.out j hjl
                have hx : L[j] < fs.length := hLb.out _ (List.getElem_mem hjl)
                have ht : L.take (j + 1) = L.take j ++ [L[j]] := List.take_succ_eq_append_getElem hjl
                have HT := Lib.hid ht
                clear ht
                generalize L[j] = x at hc1 hx HT
                obtain ⟨b, off, rfl, hbl, hrow⟩ := HV.out (by intro e; rw [List.map_eq_nil_iff] at e; rw [e] at hx; simp at hx)
                have hr : wr.rangeAt b (off + x * 4) (skl (fat fs x)) := by
                  have h1 := rangeAt_below (rangeAt_below (hrow x (by simpa using hx)) hb' hbl) hbi (by omega)
                  rw [List.getElem_map] at h1
                  rw [fat_eq fs x hx]; exact h1
                have HR := Lib.hid hrow
                clear hrow
                generalize hfe : fat fs x = f at hr
                have HE := Lib.hid hfe
                clear hfe
                unfold skl at hr
                have m0 : (0 : Int) ≤ x := by omega
                have m1 : (x : Int) < fs.length := by omega
                go_wp2_with (first | (at_builtin; refine wpList_append_lies _ rfl (.tmp 30) (.tmp 35) 34 rfl wo.heap.size 28 i1 (skv fun _ => 0) 4 64 Try.underlying34 hj hy0 hy1 hy2 rfl (by decide) _ j _ rfl (hrest.alloc _) ⟨wr.heap.size, 0, none⟩ 1 1 [.complex .f64 (fb (f 0)) (fb (f 1)), .complex .f64 (fb (f 2)) (fb (f 3)), .complex .f64 (fb (f 4)) (fb (f 5)), .complex .f64 (fb (f 6)) (fb (f 7))] rfl rfl ?d1 ?d2 (by decide) ?d3 ?d4 ?d5 _ rfl ?_) | (refine wpList_load_mid rfl 28 _ rfl b (off + x * 4) rfl _ _ hr Try.underlying28 rfl (by kernel_rfl) ?_))
                case d1 => exact World.news_of_block (heap_alloc_new wr _)
                case d2 => simp [Value.oneCell']
                case d3 => unfold maxLen; omega
                case d4 => omega
                case d5 => simp; omega
                intro g2 c2 w1 hown1 hgrow hat hltg
                go_wp2
                go_roundw
                case rel =>
                  refine ⟨j + 1, by omega, by go_num, ?_, (hbi.alloc (by omega) _).grown hgrow (by simp; omega) (fun x hx => (hrest.lt x hx).1)⟩
                  have e : restOf fs L (j + 1) = restOf fs L j ++ skl f := by
                    unfold restOf; rw [HT.out, List.map_append, List.flatten_append, List.map_singleton, HE.out]; simp
                  rw [e]
                  exact hown1
                case measure => simp [intOf]; omega
              · obtain rfl : j = L.length := by omega
                have hrow2 : RowOf wr u7 4 ((L.map (fat fs)).map skl) := by
                  have e : restOf fs L L.length = ((L.map (fat fs)).map skl).flatten := by
                    unfold restOf; rw [List.take_of_length_le (Nat.le_refl _), List.map_map]; rfl
                  refine RowOf.of_own (B := wo.heap.size) (e := 28) ?_ (by rw [List.length_map, List.length_map, ← e]; exact hrest)
                  intro r hr
                  simp only [List.mem_map] at hr
                  obtain ⟨f, _, rfl⟩ := hr
                  rfl
                have hbds : ∀ h ∈ L.map (fat fs), Bd h := by
                  intro h hh
                  obtain ⟨i, hi, rfl⟩ := List.mem_map.1 hh
                  have := hLb.out i hi
                  rw [fat_eq fs i this]
                  exact hfs _ (List.getElem_mem this)
                obtain ⟨b, off, rfl, hbl, hrow⟩ := HV.out (by intro e; rw [List.map_eq_nil_iff] at e; rw [e] at hq; simp at hq)
                have hr : wr.rangeAt b (off + q * 4) (skl (fat fs q)) := by
                  have h1 := rangeAt_below (rangeAt_below (hrow q (by simpa using hq)) hb' hbl) hbi (by omega)
                  rw [List.getElem_map] at h1
                  rw [fat_eq fs q hq]; exact h1
                have hbdq : Bd (fat fs q) := by
                  rw [fat_eq fs q hq]; exact hfs _ (List.getElem_mem hq)
                have hkk := nextK_lt fs L q o hL0
                unfold skl at hr
                have HR := Lib.hid hrow
                have HR2 := Lib.hid hrest
                clear hrow hrest
                have m0 : (0 : Int) ≤ q := by omega
                have m1 : (q : Int) < fs.length := by omega
                have hown2 : wr.ownsRow w.heap.size 3 1 (.slice ao3 o.length c3) o.length (o.map natv) := HO.out.kept (grown_of_below hbi none) (by cases ao3 <;> simp [Value.ownBlock])
                have hgo3 : Hid (ordGo fs (L.length - 1) (L.eraseIdx (nextK fs L q o)) (L.getD (nextK fs L q o) 0) (o ++ [L.getD (nextK fs L q o) 0]) = ordS fs) := by
                  have e := hgo.out
                  rw [show L.length = (L.length - 1) + 1 from by omega] at e
                  exact e
                have hcell2 : ∀ w2, Below wr.heap.size wr w2 → ∀ i (h : i < L.length), w2.cell? ⟨g, i, none⟩ = some (natv L[i]) := fun w2 hb2 i h => by
                  rw [hb2.cell (p := ⟨g, i, none⟩) (by simp; omega), hbi.cell (p := ⟨g, i, none⟩) hgl]; exact HC.out i h
                have HC2 := Lib.hid hcell2
                clear hcell2
                have hown3 : ∀ w2, Below wr.heap.size wr w2 → w2.ownsRow w.heap.size 3 1 (.slice ao3 o.length c3) o.length (o.map natv) := fun w2 hb2 =>
                  hown2.kept (grown_of_below hb2 none) (by cases ao3 <;> simp [Value.ownBlock])
                have HO3 := Lib.hid hown3
                clear hown3 hown2
                unfold natv
                by_cases ho0 : o = []
                · skip
                  have hk0 : nextK fs L q o = 0 := by unfold nextK; rw [if_pos ho0]
                  rw [hk0] at hgo3 hkk
                  have hz : ((o.length : Int) == 0) = true := by rw [ho0]; rfl
                  have HO0 := Lib.hid ho0
                  clear hk0 ho0
                  have HX : Hid (L.getD 0 0 = L[0]) := by show _ = _; rw [List.getD_eq_getElem?_getD, List.getElem?_eq_getElem hLl]; rfl
                  have k1 : (0 : Int) < L.length := by omega
                  have hxv : ∀ w2, Below wr.heap.size wr w2 → w2.cell? ⟨g, 0, none⟩ = some (.int .i64 (L[0] : Nat)) := fun w2 hb2 => HC2.out w2 hb2 0 hLl
                  have hxl : L[0] < fs.length := hLb.out _ (List.getElem_mem hLl)
                  have HXV := Lib.hid hxv
                  clear hxv
                  generalize L[0] = x at HX HXV hxl
                  go_wp2_with (first | (refine wpList_load_mid rfl 28 _ rfl b (off + q * 4) rfl _ _ hr Try.underlying28 rfl (by kernel_rfl) ?_) | (go_at_call 17; refine (near_any u7 (fat fs q) (L.map (fat fs)) _ hbdq hbds hrow2).mono ?_; rintro e w2 ⟨rfl, hb2⟩; have hxw := HXV.out w2 hb2) | (at_builtin; refine wpList_append_lies _ rfl (.tmp 51) (.tmp 53) 44 rfl w.heap.size 3 i0 (.int .i64 0) 1 8 Try.underlying44 hi hz0 hz1 hz2 rfl (by decide) _ o.length _ rfl ((HO3.out _ (by assumption)).alloc _) ⟨_, 0, none⟩ 1 1 [.int .i64 x] rfl rfl ?e1a ?e2a (by decide) ?e3a ?e4a ?e5a _ rfl ?_))
                  case e1a => exact cell_one_new _ _ _
                  case e2a => simp [Value.oneCell']
                  case e3a => unfold maxLen; omega
                  case e4a => omega
                  case e5a => have := hb2.size; simp; omega
                  intro g3 c4 w3 hown4 hgrow3 hat3 hlt3
                  have hg2 : g < w2.heap.size := by have := hb2.size; omega
                  have hcell3 : ∀ i (h : i < L.length), w3.cell? ⟨g, i, none⟩ = some (natv L[i]) := fun i h => by
                    rw [hgrow3.cell_far ⟨g, i, none⟩ (by simp; omega) hgo2, World.cell?_alloc_lt _ _ _ hg2]; exact HC2.out w2 hb2 i h
                  have HC3 := Lib.hid hcell3
                  have HO4 := Lib.hid hown4
                  have hb3 : Below w.heap.size w w3 := ((hb'.trans ((hbi.mono hszo).trans (hb2.mono (by omega)))).alloc (by have := hb2.size; omega) _).grown hgrow3 (by have := hb2.size; simp; omega) (fun x hx => by have := (HO.out.lt x hx).1; exact this)
                  have hg3 : g ≠ g3 := by
                    rcases hat3 with h | h
                    · intro e; rw [h, e] at hgo2; exact hgo2 rfl
                    · omega
                  have hs3 : g < w3.heap.size := by have := hgrow3.size; simp at this; omega
                  clear hcell3 hown4 hxw
                  have p1 : IntKind.i64.wrap 1 = 1 := by decide
                  have p3 : (1 : Int) ≤ L.length := by omega
                  go_wp2
                  refine wp_region_still_tail 8 (by kernel_rfl) (by kernel_rfl) ?_
                  simp only [List.take_succ_cons, List.take_zero, List.drop_succ_cons, List.drop_zero]
                  repeat still_step
                  refine wpStill_nil ?_
                  change wpList _ _ _ _ _ w3.drew
                  have herl : (L.eraseIdx 0).length = L.length - 1 := by rw [List.length_eraseIdx, if_pos hkk]
                  have hgo' : ordGo fs (L.eraseIdx 0).length (L.eraseIdx 0) x (o ++ [x]) = ordS fs := by
                    have e := hgo3.out
                    rw [HX.out] at e
                    rw [herl]; exact e
                  have HG' := Lib.hid hgo'
                  clear hgo'
                  have hLb' : Hid (∀ i ∈ L.eraseIdx 0, i < fs.length) := fun i hi => hLb.out i (List.mem_of_mem_eraseIdx hi)
                  have holen : (o ++ [x]).length = o.length + 1 := by simp
                  have HOL := Lib.hid holen
                  have HEL := Lib.hid herl
                  clear holen herl
                  by_cases hm : 1 = L.length
                  · have e0 : L.length - (1) = 0 := by omega
                    rw [e0]
                    clear e0
                    refine wpList_append_empty _ rfl (.tmp 58) (.tmp 62) 44 rfl 3 i0 Try.underlying44 hi ⟨g, 0, none⟩ 0 0 (Nat.le_refl _) _ _ rfl rfl ?_
                    have hta : L.eraseIdx 0 = L.take 0 := by rw [List.eraseIdx_eq_take_drop_succ, List.drop_eq_nil_of_le (by omega), List.append_nil]
                    have HTA := Lib.hid hta
                    clear hta hm
                    go_wp2
                    go_roundw
                    case rel =>
                      refine ⟨L.eraseIdx 0, x, o ++ [x], rfl, hLb', fun _ => hxl, HG'.out, ?_, ?_, ?_, hb3.drew⟩
                      · rw [HOL.out, List.map_append]; exact HO4.out.kept (w' := w3.drew) (row := none) ⟨rfl, rfl, rfl, Nat.le_refl _, fun _ _ _ => rfl⟩ (.inr (by simp [Value.ownBlock]))
                      · right
                        refine ⟨g, 0, by rw [HEL.out]; congr 1; have := congrArg List.length HTA.out; rw [HEL.out, List.length_take] at this; omega, by rw [HTA.out, List.length_take]; omega, hgB, hs3, by simp [Value.ownBlock]; exact hg3, fun i h => ?_⟩
                        have hh := h
                        rw [HTA.out, List.length_take] at hh
                        simp only [HTA.out, List.getElem_take]
                        exact HC3.out i (by omega)
                      · rw [HOL.out, HEL.out]; omega
                    case measure => simp [lenOf]; omega
                  · have e1 : ¬ cp = 1 := by omega
                    rw [if_neg e1]
                    clear e1
                    refine wpList_append_grows _ rfl (.tmp 58) (.tmp 62) 44 rfl 3 i0 (.int .i64 0) 1 8 Try.underlying44 hi hz0 hz1 hz2 rfl (by decide) (some ⟨g, 0, none⟩) 0 0 ((L.take 0).map natv) rfl (by simp) (by rw [List.length_map, List.length_take]; omega) ?_ ⟨g, 1, none⟩ (L.length - (1)) (cp - (1)) ((L.drop (1)).map natv) rfl (by simp) ?_ ?_ (by omega) (by unfold maxLen; omega) (by omega) ?_
                    · intro b hb j u hu
                      obtain rfl := Option.some.inj hb
                      rw [Addr.add_mid, Nat.zero_add]
                      have hj := (List.getElem?_eq_some_iff.1 hu).1
                      rw [List.length_map, List.length_take] at hj
                      rw [List.getElem?_map, List.getElem?_take_of_lt (by omega), List.getElem?_eq_getElem (by omega)] at hu
                      obtain rfl := Option.some.inj hu
                      exact HC3.out j (by omega)
                    · intro j u hu
                      rw [Addr.add_mid]
                      have hj := (List.getElem?_eq_some_iff.1 hu).1
                      simp at hj
                      rw [List.getElem?_map, List.getElem?_drop, List.getElem?_eq_getElem (by omega)] at hu
                      obtain rfl := Option.some.inj hu
                      exact HC3.out (1 + j) (by omega)
                    · intro u hu
                      obtain ⟨y, _, rfl⟩ := List.mem_map.1 hu
                      rfl
                    intro v5 w5 hown5 hgrow5
                    rw [← List.map_append] at hown5
                    have herd : L.take 0 ++ L.drop (1) = L.eraseIdx 0 := (List.eraseIdx_eq_take_drop_succ L 0).symm
                    rw [herd] at hown5
                    rw [show 0 + (L.length - (1)) = (L.eraseIdx 0).length from by rw [HEL.out]; omega] at hown5
                    have hl5 := LeftAt.of_own hown5
                    obtain ⟨ao5, c5, rfl⟩ := own_form hown5
                    have HL5 := Lib.hid hl5
                    have HO5 := Lib.hid hown5
                    clear hl5 hown5 herd
                    go_wp2
                    go_roundw
                    case rel =>
                      refine ⟨L.eraseIdx 0, x, o ++ [x], rfl, hLb', fun _ => hxl, HG'.out, ?_, ?_, ?_, hb3.drew.grown hgrow5 (by have := hgrow3.size; have := hb2.size; simp at *; omega) (by simp)⟩
                      · rw [HOL.out, List.map_append]; exact (HO4.out.kept (w' := w3.drew) (row := none) ⟨rfl, rfl, rfl, Nat.le_refl _, fun _ _ _ => rfl⟩ (.inr (by simp [Value.ownBlock]))).kept hgrow5 (.inr (by simp [Value.ownBlock]))
                      · (first | rw [← HEL.out] | skip)
                        rcases HL5.out with h | ⟨g5, c6, hv5, hc5, hB5, hg5, _, hcell5⟩
                        · exact .inl h
                        · refine .inr ⟨g5, c6, hv5, hc5, ?_, hg5, ?_, hcell5⟩
                          · have := hb3.size; simp at hB5; omega
                          · simp [Value.ownBlock]; simp at hB5; omega
                      · rw [HOL.out, HEL.out]; omega
                    case measure => simp [lenOf]; have := HEL.out; omega
                · skip
                  have hN : nearB (dst (fat fs q) (L.map (fat fs))) (fun _ => true) L.length = (nextK fs L q o : Nat) := by
                    unfold nextK; rw [if_neg ho0, Int.toNat_of_nonneg (nearB_pos _ _ hLl)]
                  have hz : ((o.length : Int) == 0) = false := by
                    have := List.length_pos_iff.2 ho0
                    rw [beq_eq_false_iff_ne]; omega
                  generalize nextK fs L q o = kn at hgo3 hN hkk
                  clear ho0
                  have HX : Hid (L.getD kn 0 = L[kn]) := by show _ = _; rw [List.getD_eq_getElem?_getD, List.getElem?_eq_getElem hkk]; rfl
                  have k0 : (0 : Int) ≤ kn := by omega
                  have k1 : (kn : Int) < L.length := by omega
                  have hxv : ∀ w2, Below wr.heap.size wr w2 → w2.cell? ⟨g, kn, none⟩ = some (.int .i64 (L[kn] : Nat)) := fun w2 hb2 => HC2.out w2 hb2 kn hkk
                  have hxl : L[kn] < fs.length := hLb.out _ (List.getElem_mem hkk)
                  have HXV := Lib.hid hxv
                  clear hxv
                  generalize L[kn] = x at HX HXV hxl
                  go_wp2_with (first | (refine wpList_load_mid rfl 28 _ rfl b (off + q * 4) rfl _ _ hr Try.underlying28 rfl (by kernel_rfl) ?_) | (go_at_call 17; refine (near_any u7 (fat fs q) (L.map (fat fs)) _ hbdq hbds hrow2).mono ?_; rintro e w2 ⟨rfl, hb2⟩; have hxw := HXV.out w2 hb2) | (at_builtin; refine wpList_append_lies _ rfl (.tmp 51) (.tmp 53) 44 rfl w.heap.size 3 i0 (.int .i64 0) 1 8 Try.underlying44 hi hz0 hz1 hz2 rfl (by decide) _ o.length _ rfl ((HO3.out _ (by assumption)).alloc _) ⟨_, 0, none⟩ 1 1 [.int .i64 x] rfl rfl ?e1b ?e2b (by decide) ?e3b ?e4b ?e5b _ rfl ?_))
                  case e1b => exact cell_one_new _ _ _
                  case e2b => simp [Value.oneCell']
                  case e3b => unfold maxLen; omega
                  case e4b => omega
                  case e5b => have := hb2.size; simp; omega
                  intro g3 c4 w3 hown4 hgrow3 hat3 hlt3
                  have hg2 : g < w2.heap.size := by have := hb2.size; omega
                  have hcell3 : ∀ i (h : i < L.length), w3.cell? ⟨g, i, none⟩ = some (natv L[i]) := fun i h => by
                    rw [hgrow3.cell_far ⟨g, i, none⟩ (by simp; omega) hgo2, World.cell?_alloc_lt _ _ _ hg2]; exact HC2.out w2 hb2 i h
                  have HC3 := Lib.hid hcell3
                  have HO4 := Lib.hid hown4
                  have hb3 : Below w.heap.size w w3 := ((hb'.trans ((hbi.mono hszo).trans (hb2.mono (by omega)))).alloc (by have := hb2.size; omega) _).grown hgrow3 (by have := hb2.size; simp; omega) (fun x hx => by have := (HO.out.lt x hx).1; exact this)
                  have hg3 : g ≠ g3 := by
                    rcases hat3 with h | h
                    · intro e; rw [h, e] at hgo2; exact hgo2 rfl
                    · omega
                  have hs3 : g < w3.heap.size := by have := hgrow3.size; simp at this; omega
                  clear hcell3 hown4 hxw
                  have p1 : IntKind.i64.wrap ((kn : Int) + 1) = (kn : Int) + 1 := IntWalk.i64_in _ (by omega)
                  have p2 : (0 : Int) ≤ (kn : Int) + 1 := by omega
                  have p3 : (kn : Int) + 1 ≤ L.length := by omega
                  have p4 : ((kn : Int) + 1).toNat = kn + 1 := by omega
                  have p5 : (kn : Int) ≤ cp := by omega
                  go_wp2
                  refine wp_region_still_tail 8 (by kernel_rfl) (by kernel_rfl) ?_
                  simp only [List.take_succ_cons, List.take_zero, List.drop_succ_cons, List.drop_zero]
                  repeat still_step
                  refine wpStill_nil ?_
                  change wpList _ _ _ _ _ w3.drew
                  have herl : (L.eraseIdx kn).length = L.length - 1 := by rw [List.length_eraseIdx, if_pos hkk]
                  have hgo' : ordGo fs (L.eraseIdx kn).length (L.eraseIdx kn) x (o ++ [x]) = ordS fs := by
                    have e := hgo3.out
                    rw [HX.out] at e
                    rw [herl]; exact e
                  have HG' := Lib.hid hgo'
                  clear hgo'
                  have hLb' : Hid (∀ i ∈ L.eraseIdx kn, i < fs.length) := fun i hi => hLb.out i (List.mem_of_mem_eraseIdx hi)
                  have holen : (o ++ [x]).length = o.length + 1 := by simp
                  have HOL := Lib.hid holen
                  have HEL := Lib.hid herl
                  clear holen herl
                  by_cases hm : kn + 1 = L.length
                  · have e0 : L.length - (kn + 1) = 0 := by omega
                    rw [e0]
                    clear e0
                    refine wpList_append_empty _ rfl (.tmp 58) (.tmp 62) 44 rfl 3 i0 Try.underlying44 hi ⟨g, 0, none⟩ kn kn (Nat.le_refl _) _ _ rfl rfl ?_
                    have hta : L.eraseIdx kn = L.take kn := by rw [List.eraseIdx_eq_take_drop_succ, List.drop_eq_nil_of_le (by omega), List.append_nil]
                    have HTA := Lib.hid hta
                    clear hta hm
                    go_wp2
                    go_roundw
                    case rel =>
                      refine ⟨L.eraseIdx kn, x, o ++ [x], rfl, hLb', fun _ => hxl, HG'.out, ?_, ?_, ?_, hb3.drew⟩
                      · rw [HOL.out, List.map_append]; exact HO4.out.kept (w' := w3.drew) (row := none) ⟨rfl, rfl, rfl, Nat.le_refl _, fun _ _ _ => rfl⟩ (.inr (by simp [Value.ownBlock]))
                      · right
                        refine ⟨g, kn, by rw [HEL.out]; congr 1; have := congrArg List.length HTA.out; rw [HEL.out, List.length_take] at this; omega, by rw [HTA.out, List.length_take]; omega, hgB, hs3, by simp [Value.ownBlock]; exact hg3, fun i h => ?_⟩
                        have hh := h
                        rw [HTA.out, List.length_take] at hh
                        simp only [HTA.out, List.getElem_take]
                        exact HC3.out i (by omega)
                      · rw [HOL.out, HEL.out]; omega
                    case measure => simp [lenOf]; omega
                  · have e1 : ¬ cp = kn + 1 := by omega
                    rw [if_neg e1]
                    clear e1
                    refine wpList_append_grows _ rfl (.tmp 58) (.tmp 62) 44 rfl 3 i0 (.int .i64 0) 1 8 Try.underlying44 hi hz0 hz1 hz2 rfl (by decide) (some ⟨g, 0, none⟩) kn kn ((L.take kn).map natv) rfl (by simp) (by rw [List.length_map, List.length_take]; omega) ?_ ⟨g, kn + 1, none⟩ (L.length - (kn + 1)) (cp - (kn + 1)) ((L.drop (kn + 1)).map natv) rfl (by simp) ?_ ?_ (by omega) (by unfold maxLen; omega) (by omega) ?_
                    · intro b hb j u hu
                      obtain rfl := Option.some.inj hb
                      rw [Addr.add_mid, Nat.zero_add]
                      have hj := (List.getElem?_eq_some_iff.1 hu).1
                      rw [List.length_map, List.length_take] at hj
                      rw [List.getElem?_map, List.getElem?_take_of_lt (by omega), List.getElem?_eq_getElem (by omega)] at hu
                      obtain rfl := Option.some.inj hu
                      exact HC3.out j (by omega)
                    · intro j u hu
                      rw [Addr.add_mid]
                      have hj := (List.getElem?_eq_some_iff.1 hu).1
                      simp at hj
                      rw [List.getElem?_map, List.getElem?_drop, List.getElem?_eq_getElem (by omega)] at hu
                      obtain rfl := Option.some.inj hu
                      exact HC3.out (kn + 1 + j) (by omega)
                    · intro u hu
                      obtain ⟨y, _, rfl⟩ := List.mem_map.1 hu
                      rfl
                    intro v5 w5 hown5 hgrow5
                    rw [← List.map_append] at hown5
                    have herd : L.take kn ++ L.drop (kn + 1) = L.eraseIdx kn := (List.eraseIdx_eq_take_drop_succ L kn).symm
                    rw [herd] at hown5
                    rw [show kn + (L.length - (kn + 1)) = (L.eraseIdx kn).length from by rw [HEL.out]; omega] at hown5
                    have hl5 := LeftAt.of_own hown5
                    obtain ⟨ao5, c5, rfl⟩ := own_form hown5
                    have HL5 := Lib.hid hl5
                    have HO5 := Lib.hid hown5
                    clear hl5 hown5 herd
                    go_wp2
                    go_roundw
                    case rel =>
                      refine ⟨L.eraseIdx kn, x, o ++ [x], rfl, hLb', fun _ => hxl, HG'.out, ?_, ?_, ?_, hb3.drew.grown hgrow5 (by have := hgrow3.size; have := hb2.size; simp at *; omega) (by simp)⟩
                      · rw [HOL.out, List.map_append]; exact (HO4.out.kept (w' := w3.drew) (row := none) ⟨rfl, rfl, rfl, Nat.le_refl _, fun _ _ _ => rfl⟩ (.inr (by simp [Value.ownBlock]))).kept hgrow5 (.inr (by simp [Value.ownBlock]))
                      · (first | rw [← HEL.out] | skip)
                        rcases HL5.out with h | ⟨g5, c6, hv5, hc5, hB5, hg5, _, hcell5⟩
                        · exact .inl h
                        · refine .inr ⟨g5, c6, hv5, hc5, ?_, hg5, ?_, hcell5⟩
                          · have := hb3.size; simp at hB5; omega
                          · simp [Value.ownBlock]; simp at hB5; omega
                      · rw [HOL.out, HEL.out]; omega
                    case measure => simp [lenOf]; have := HEL.out; omega
end Go.Proofs.Ytjgmfhfncphbnaa

/- Walks: how files are apart, the document's; two such lists are the same. -/
import Derived.Test.YtbmiiiccnoiffaaGreatDoorD4
namespace Go.Proofs.YtbmiiiccnoiffaaGreatDoor
open Go.RowKit
set_option maxRecDepth 100000

theorem infoA : (Tryz.prog.info? 124).map (fun i => (i.zero, i.size, i.bytes)) = some (some (.agg #[.string ByteArray.empty, .int .i64 0]), 2, 24) := by kernel_rfl

/-- What is told of a path. -/
def tell (a b : List Lf) (p : ByteArray) : Option (ByteArray × Nat) := if kindS a b p = 0 then none else some (p, kindS a b p)
theorem filesS_tell (a b : List Lf) : filesS a b = (pathsS (pathsS [] a) b).filterMap (tell a b) := rfl
def told (a b : List Lf) (l : List ByteArray) (k : Nat) : List (ByteArray × Nat) := (l.take k).filterMap (tell a b)
theorem told_next (a b : List Lf) (l : List ByteArray) (k : Nat) (h : k < l.length) : told a b l (k + 1) = told a b l k ++ (tell a b l[k]).toList := by
  unfold told
  rw [List.take_succ_eq_append_getElem h, List.filterMap_append]
  congr 1
theorem told_len (a b : List Lf) (l : List ByteArray) (k : Nat) : (told a b l k).length ≤ k := by
  unfold told
  exact Nat.le_trans (List.length_filterMap_le _ _) (by simp; omega)
theorem told_all (a b : List Lf) (l : List ByteArray) : told a b l l.length = l.filterMap (tell a b) := by unfold told; rw [List.take_length]
def apF (l : List (ByteArray × Nat)) : List Value := (l.map apC).flatten
theorem apF_snoc (l : List (ByteArray × Nat)) (x : ByteArray × Nat) : apF (l ++ [x]) = apF l ++ [.string x.1, .int .i64 x.2] := by unfold apF apC; simp
theorem ApRow.of_own {w : World} {B : Nat} {v : Value} {l : List (ByteArray × Nat)} (h : w.ownsRow B 124 2 v l.length (apF l)) : ApRow w v l := by
  unfold ApRow
  refine RowOf.of_own (B := B) (e := 124) (fun r hr => ?_) (by rw [List.length_map]; exact h)
  obtain ⟨x, _, rfl⟩ := List.mem_map.1 hr
  rfl
theorem cells_new2 (w : World) (x y : Value) (e : TypeId) : ∀ j u, [x, y][j]? = some u → (w.alloc (.cells #[x, y] e)).cell? ((⟨w.heap.size, 0, none⟩ : Addr).add j) = some u := by
  intro j u hj
  rw [Addr.add_mid, Nat.zero_add, World.cell?_alloc_new]
  simpa using hj

theorem paths_len (l : List ByteArray) : ∀ (a : List Lf), (pathsS l a).length ≤ l.length + a.length := by
  intro a
  unfold pathsS
  induction a generalizing l with
  | nil => simp
  | cons f a ih => rw [List.foldl_cons, List.length_cons]; have := ih (insS f.1 l); have := insS_len f.1 l; omega
theorem paths_short (l : List ByteArray) (hl : Short l) (a : List Lf) (ha : ∀ f ∈ a, f.1.size ≤ 1000000) : Short (pathsS l a) := fun x hx => by
  rcases (pathsS_mem x a l).1 hx with h | ⟨f, hf, rfl⟩
  · exact hl x h
  · exact ha f hf

set_option maxHeartbeats 4000000 in
theorem rfiles_any (v u : Value) (a b : List Lf) (w : World) (hv : LeafRow w v a) (hu : LeafRow w u b) (ha : ∀ f ∈ a, f.1.size ≤ 1000000) (hb : ∀ f ∈ b, f.1.size ≤ 1000000) (hn : a.length + b.length ≤ 1000000) :
    Calls Tryz.prog 72 #[v, u] w fun e w' => ∃ o, e = .returned o ∧ ApRow w' o (filesS a b) ∧ Below w.heap.size w w' := by
  obtain ⟨i0, hi, hz0, hz1, hz2⟩ := info_parts infoA
  have h1 := rpaths_any (.slice none 0 0) v [] a w (StrRow.nil w) (fun p n c h => by cases h; omega) hv (fun x hx => by simp at hx) ha (by simp; omega)
  have h2 := fun o w' (hr : StrRow w' o (pathsS [] a)) (hc : CapOk o) (hbw : Below w.heap.size w w') => rpaths_any o u (pathsS [] a) b w' hr hc (hu.below hbw) (paths_short _ (fun x hx => by simp at hx) a ha) hb (by have := paths_len [] a; simp at this; omega)
  have hfa := fun p w' (hbw : Below w.heap.size w w') => find_any v a p w' (hv.below hbw)
  have hfb := fun p w' (hbw : Below w.heap.size w w') => find_any u b p w' (hu.below hbw)
  have HFA := Lib.hid hfa
  have HFB := Lib.hid hfb
  have hlen : (pathsS (pathsS [] a) b).length ≤ 1000000 := by
    have h3 := paths_len [] a; have h4 := paths_len (pathsS [] a) b; simp at h3; omega
  rw [filesS_tell]
  generalize hl : pathsS (pathsS [] a) b = l at h2 hlen
  have HLN := Lib.hid hlen
  clear hfa hfb hl hlen
  go_enter Tryz.func72, Tryz.ntmps72
  go_wp2_with (first | (go_at_call_of 118 (Value.slice none 0 0); refine h1.mono ?_; rintro e w1 ⟨o1, rfl, r1, cp1, b1⟩) | (go_at_call 118; refine (h2 _ _ (by assumption) (by assumption) (by assumption)).mono ?_; rintro e w2 ⟨o2, rfl, r2, cp2, b2⟩))
  obtain ⟨ao, capa, rfl, _, _⟩ := hv.open
  obtain ⟨bo, capb, rfl, _, _⟩ := hu.open
  have hb12 := b1.trans (b2.mono b1.size)
  obtain ⟨lo, capl, rfl, hml, hrow⟩ := r2
  have HR := Lib.hid hrow
  have hln := HLN.out
  clear hrow h1 h2 r1 hv hu ha hb
  go_loopw [5, 7] (fun out i wr => ∃ k : Nat, k ≤ l.length ∧ i = .int .i64 k ∧ wr.ownsRow w2.heap.size 124 2 out (told a b l k).length (apF (told a b l k)) ∧ Below w2.heap.size w2 wr) (fun _ i _ => (l.length - intOf i).toNat)
  case atStart => exact ⟨0, by omega, rfl, World.ownsRow_nil _ _ _ _, Below.refl _ _⟩
  case round =>
    obtain ⟨k, hk, rfl, hown, hbl⟩ := hrel
    have hbw := hb12.trans (hbl.mono hb12.size)
    have htl := told_len a b l k
    have hszw := hbw.size
    have hszl := hbl.size
    by_cases hlt : k < l.length
    · obtain ⟨bl, ol, rfl, hll, hcell⟩ := HR.out (by intro e; rw [e] at hlt; simp at hlt)
      have cl := below_load (hcell k hlt) hbl hll
      generalize hx : l[k] = p at cl
      have HX := Lib.hid hx
      have htell : tell a b p = if kindS a b p = 0 then none else some (p, kindS a b p) := rfl
      clear hcell hx
      obtain ⟨co, cc, rfl⟩ := own_form hown
      cases ea : findS a p with
      | none =>
        have ht : tell a b p = some (p, 1) := by rw [htell]; simp [kindS, ea]
        cases eb : findS b p with
        | none =>
          go_wp2_with (first | (go_at_call_of 119 (Value.slice ao a.length capa); refine (HFA.out p _ hbw).mono ?_; rintro e wf ⟨rfl, hwf⟩; rw [hwf, ea]; clear hwf) | (go_at_call_of 119 (Value.slice bo b.length capb); refine (HFB.out p _ hbw).mono ?_; rintro e wf ⟨rfl, hwf⟩; rw [hwf, eb]; clear hwf) | (at_builtin; refine wpList_append_any rfl (.tmp 50) (.tmp 57) 56 rfl w2.heap.size 124 i0 (.agg #[.string ByteArray.empty, .int .i64 0]) 2 24 Tryz.underlying56 hi hz0 hz1 hz2 rfl (by decide) _ (told a b l k).length _ rfl (hown.alloc _) (some ⟨wr.heap.size, 0, none⟩) 1 _ [.string p, .int .i64 1] rfl rfl ?c1 ?c2 ?c3 ?c4 ?c5 ?_))
          case c1 => exact fun _ => ⟨_, rfl, cells_new2 _ _ _ _⟩
          case c2 => intro x hx; simp at hx; rcases hx with rfl | rfl <;> rfl
          case c3 => unfold maxLen; omega
          case c4 => omega
          case c5 => simp; omega
          intro v1 w3 hown1 hg1
          go_wp2
          go_roundw
          case rel =>
            refine ⟨k + 1, by omega, by go_num, ?_, (hbl.alloc hszl _).grown hg1 (by simp; omega) (fun x hx => (hown.lt x hx).1)⟩
            rw [told_next a b l k hlt, HX.out, ht]; rw [Option.toList_some, apF_snoc, List.length_append]; exact hown1
          case measure => simp [intOf]; omega
        | some t =>
          go_wp2_with (first | (go_at_call_of 119 (Value.slice ao a.length capa); refine (HFA.out p _ hbw).mono ?_; rintro e wf ⟨rfl, hwf⟩; rw [hwf, ea]; clear hwf) | (go_at_call_of 119 (Value.slice bo b.length capb); refine (HFB.out p _ hbw).mono ?_; rintro e wf ⟨rfl, hwf⟩; rw [hwf, eb]; clear hwf) | (at_builtin; refine wpList_append_any rfl (.tmp 50) (.tmp 57) 56 rfl w2.heap.size 124 i0 (.agg #[.string ByteArray.empty, .int .i64 0]) 2 24 Tryz.underlying56 hi hz0 hz1 hz2 rfl (by decide) _ (told a b l k).length _ rfl (hown.alloc _) (some ⟨wr.heap.size, 0, none⟩) 1 _ [.string p, .int .i64 1] rfl rfl ?c1 ?c2 ?c3 ?c4 ?c5 ?_))
          case c1 => exact fun _ => ⟨_, rfl, cells_new2 _ _ _ _⟩
          case c2 => intro x hx; simp at hx; rcases hx with rfl | rfl <;> rfl
          case c3 => unfold maxLen; omega
          case c4 => omega
          case c5 => simp; omega
          intro v1 w3 hown1 hg1
          go_wp2
          go_roundw
          case rel =>
            refine ⟨k + 1, by omega, by go_num, ?_, (hbl.alloc hszl _).grown hg1 (by simp; omega) (fun x hx => (hown.lt x hx).1)⟩
            rw [told_next a b l k hlt, HX.out, ht]; rw [Option.toList_some, apF_snoc, List.length_append]; exact hown1
          case measure => simp [intOf]; omega
      | some s =>
        cases eb : findS b p with
        | none =>
          have ht : tell a b p = some (p, 2) := by rw [htell]; simp [kindS, ea, eb]
          go_wp2_with (first | (go_at_call_of 119 (Value.slice ao a.length capa); refine (HFA.out p _ hbw).mono ?_; rintro e wf ⟨rfl, hwf⟩; rw [hwf, ea]; clear hwf) | (go_at_call_of 119 (Value.slice bo b.length capb); refine (HFB.out p _ hbw).mono ?_; rintro e wf ⟨rfl, hwf⟩; rw [hwf, eb]; clear hwf) | (at_builtin; refine wpList_append_any rfl (.tmp 50) (.tmp 57) 56 rfl w2.heap.size 124 i0 (.agg #[.string ByteArray.empty, .int .i64 0]) 2 24 Tryz.underlying56 hi hz0 hz1 hz2 rfl (by decide) _ (told a b l k).length _ rfl (hown.alloc _) (some ⟨wr.heap.size, 0, none⟩) 1 _ [.string p, .int .i64 2] rfl rfl ?c1 ?c2 ?c3 ?c4 ?c5 ?_))
          case c1 => exact fun _ => ⟨_, rfl, cells_new2 _ _ _ _⟩
          case c2 => intro x hx; simp at hx; rcases hx with rfl | rfl <;> rfl
          case c3 => unfold maxLen; omega
          case c4 => omega
          case c5 => simp; omega
          intro v1 w3 hown1 hg1
          go_wp2
          go_roundw
          case rel =>
            refine ⟨k + 1, by omega, by go_num, ?_, (hbl.alloc hszl _).grown hg1 (by simp; omega) (fun x hx => (hown.lt x hx).1)⟩
            rw [told_next a b l k hlt, HX.out, ht]; rw [Option.toList_some, apF_snoc, List.length_append]; exact hown1
          case measure => simp [intOf]; omega
        | some t =>
          have hbe := ba_beq s t
          by_cases hst : s = t
          · have ht : tell a b p = none := by rw [htell]; simp [kindS, ea, eb, hst]
            rw [decide_eq_true hst] at hbe
            clear hst
            go_wp2_with (first | (go_at_call_of 119 (Value.slice ao a.length capa); refine (HFA.out p _ hbw).mono ?_; rintro e wf ⟨rfl, hwf⟩; rw [hwf, ea]; clear hwf) | (go_at_call_of 119 (Value.slice bo b.length capb); refine (HFB.out p _ hbw).mono ?_; rintro e wf ⟨rfl, hwf⟩; rw [hwf, eb]; clear hwf))
            go_roundw
            case rel =>
              refine ⟨k + 1, by omega, by go_num, ?_, hbl⟩
              rw [told_next a b l k hlt, HX.out, ht, Option.toList_none, List.append_nil]; exact hown
            case measure => simp [intOf]; omega
          · have ht : tell a b p = some (p, 3) := by rw [htell]; simp [kindS, ea, eb, hst]
            rw [decide_eq_false hst] at hbe
            clear hst
            go_wp2_with (first | (go_at_call_of 119 (Value.slice ao a.length capa); refine (HFA.out p _ hbw).mono ?_; rintro e wf ⟨rfl, hwf⟩; rw [hwf, ea]; clear hwf) | (go_at_call_of 119 (Value.slice bo b.length capb); refine (HFB.out p _ hbw).mono ?_; rintro e wf ⟨rfl, hwf⟩; rw [hwf, eb]; clear hwf) | (at_builtin; refine wpList_append_any rfl (.tmp 50) (.tmp 57) 56 rfl w2.heap.size 124 i0 (.agg #[.string ByteArray.empty, .int .i64 0]) 2 24 Tryz.underlying56 hi hz0 hz1 hz2 rfl (by decide) _ (told a b l k).length _ rfl (hown.alloc _) (some ⟨wr.heap.size, 0, none⟩) 1 _ [.string p, .int .i64 3] rfl rfl ?c1 ?c2 ?c3 ?c4 ?c5 ?_))
            case c1 => exact fun _ => ⟨_, rfl, cells_new2 _ _ _ _⟩
            case c2 => intro x hx; simp at hx; rcases hx with rfl | rfl <;> rfl
            case c3 => unfold maxLen; omega
            case c4 => omega
            case c5 => simp; omega
            intro v1 w3 hown1 hg1
            go_wp2
            go_roundw
            case rel =>
              refine ⟨k + 1, by omega, by go_num, ?_, (hbl.alloc hszl _).grown hg1 (by simp; omega) (fun x hx => (hown.lt x hx).1)⟩
              rw [told_next a b l k hlt, HX.out, ht]; rw [Option.toList_some, apF_snoc, List.length_append]; exact hown1
            case measure => simp [intOf]; omega
    · obtain rfl : k = l.length := by omega
      rw [told_all] at hown
      go_wp2
      go_ret
      exact ⟨_, rfl, ApRow.of_own hown, hbw⟩
end Go.Proofs.YtbmiiiccnoiffaaGreatDoor

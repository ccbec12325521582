/- YtbmiiiccnoiffaaGreatDoorR43: texts Q0 of this claim, in one. -/
import Derived.Deep.CutRange
import Derived.Laws.MakeOwn
import Derived.Test.YtbmiiiccnoiffaaGreatDoorR16
import Derived.Test.YtbmiiiccnoiffaaGreatDoorR17
import Derived.Test.YtbmiiiccnoiffaaGreatDoorR29
import Derived.Test.YtbmiiiccnoiffaaGreatDoorR40
import Derived.Test.YtbmiiiccnoiffaaGreatDoorR41
import Derived.Test.YtbmiiiccnoiffaaGreatDoorR42
namespace Go.Proofs.YtbmiiiccnoiffaaGreatDoor
open Go.RowKit
/-- The law's argument, carried along. -/
structure StH (w0 : World) (v : Value) (l : List Ob) (w : World) : Prop where
  row : ObRow w v l
  ld : Laid w
  bel : Below w0.heap.size w0 w
theorem StH.step {w0 w w' : World} {v : Value} {l : List Ob} (h : StH w0 v l w) (hb : Below w.heap.size w w') : StH w0 v l w' :=
  ⟨h.row.below hb, h.ld.below hb, h.bel.trans (hb.mono h.bel.size)⟩
theorem obGreat_40 {l : List Ob} (h : obGreat l = false) : l.length ≤ 40 := by
  unfold obGreat at h
  simp only [Bool.or_eq_false_iff, decide_eq_false_iff_not] at h
  omega

/-- All that a law carries along. -/
structure HSt (w0 : World) (v : Value) (l : List Ob) (r vl vi : Value) (B : Nat) (rows : List (Nat × List Value)) (W : World) : Prop where
  st : StH w0 v l W
  sr : SrcP W r (getS l)
  sw : SrcRow W (.agg #[vl, vi]) l
  ar : W.rangeAt B 0 [vl, vi] ∧ B < W.heap.size
  rw : ∀ p ∈ rows, W.rangeAt p.1 0 p.2 ∧ p.1 < W.heap.size
theorem HSt.step {w0 : World} {v : Value} {l : List Ob} {r vl vi : Value} {B : Nat} {rows : List (Nat × List Value)} {W W' : World} (h : HSt w0 v l r vl vi B rows W) (hb : Below W.heap.size W W') : HSt w0 v l r vl vi B rows W' :=
  ⟨h.st.step hb, h.sr.below hb, h.sw.below hb, ⟨rangeAt_below h.ar.1 hb h.ar.2, Nat.lt_of_lt_of_le h.ar.2 hb.size⟩, fun p hp => ⟨rangeAt_below (h.rw p hp).1 hb (h.rw p hp).2, Nat.lt_of_lt_of_le (h.rw p hp).2 hb.size⟩⟩
theorem HSt.c0 {w0 : World} {v : Value} {l : List Ob} {r vl vi : Value} {B : Nat} {rows : List (Nat × List Value)} {W : World} (h : HSt w0 v l r vl vi B rows W) : W.cell? ⟨B, 0, none⟩ = some vl := h.ar.1 0 _ rfl
theorem HSt.c1 {w0 : World} {v : Value} {l : List Ob} {r vl vi : Value} {B : Nat} {rows : List (Nat × List Value)} {W : World} (h : HSt w0 v l r vl vi B rows W) : W.cell? ⟨B, 1, none⟩ = some vi := h.ar.1 1 _ rfl
theorem HSt.row0 {w0 : World} {v : Value} {l : List Ob} {r vl vi : Value} {B : Nat} {p : Nat × List Value} {rows : List (Nat × List Value)} {W : World} (h : HSt w0 v l r vl vi B (p :: rows) W) : W.rangeAt p.1 0 p.2 := (h.rw p (by simp)).1
theorem HSt.row1 {w0 : World} {v : Value} {l : List Ob} {r vl vi : Value} {B : Nat} {p q : Nat × List Value} {rows : List (Nat × List Value)} {W : World} (h : HSt w0 v l r vl vi B (p :: q :: rows) W) : W.rangeAt q.1 0 q.2 := (h.rw q (by simp)).1
/-- What a law carries along, where it asks the program alone. -/
structure HSp (w0 : World) (v : Value) (l : List Ob) (r : Value) (rows : List (Nat × List Value)) (W : World) : Prop where
  st : StH w0 v l W
  sr : SrcP W r (getS l)
  rw : ∀ p ∈ rows, W.rangeAt p.1 0 p.2 ∧ p.1 < W.heap.size
theorem HSp.step {w0 : World} {v : Value} {l : List Ob} {r : Value} {rows : List (Nat × List Value)} {W W' : World} (h : HSp w0 v l r rows W) (hb : Below W.heap.size W W') : HSp w0 v l r rows W' :=
  ⟨h.st.step hb, h.sr.below hb, fun p hp => ⟨rangeAt_below (h.rw p hp).1 hb (h.rw p hp).2, Nat.lt_of_lt_of_le (h.rw p hp).2 hb.size⟩⟩
theorem HSp.row0 {w0 : World} {v : Value} {l : List Ob} {r : Value} {p : Nat × List Value} {rows : List (Nat × List Value)} {W : World} (h : HSp w0 v l r (p :: rows) W) : W.rangeAt p.1 0 p.2 := (h.rw p (by simp)).1
theorem HSp.row1 {w0 : World} {v : Value} {l : List Ob} {r : Value} {p q : Nat × List Value} {rows : List (Nat × List Value)} {W : World} (h : HSp w0 v l r (p :: q :: rows) W) : W.rangeAt q.1 0 q.2 := (h.rw q (by simp)).1
section
variable {l : List Ob} {U : List Idl} (HU : CmOk (cmG (getS l)) U) {id : Idl} (hid : id.length = 32)
include HU hid
theorem lin_yes {S : List Idl} (hl : lineL (cmG (getS l)) id = some S) (r : Value) (W : World) (h : SrcP W r (getS l)) : Calls Tryz.prog 21 #[r, .agg (idC id).toArray] W fun e w' => ∃ v, e = .returned (.tuple #[v, .int .i64 0]) ∧ IdRow w' v S ∧ Below W.heap.size W w' := by
  refine (hline_any r (getS l) (fun x o h => (getS_some h).2.1) U HU id W h hid).mono ?_
  rintro e w' ⟨hb, ⟨S', v, h1, rfl, hr⟩ | ⟨h1, _⟩⟩
  · obtain rfl : S = S' := Option.some.inj (hl.symm.trans h1)
    exact ⟨v, rfl, hr, hb⟩
  · rw [hl] at h1; cases h1
theorem rl_yes {S : List Idl} (hl : lineL (cmG (getS l)) id = some S) (vl vi : Value) (W : World) (h : SrcRow W (.agg #[vl, vi]) l) : Calls Tryz.prog 24 #[.agg #[vl, vi], .agg (idC id).toArray] W fun e w' => ∃ v, e = .returned (.tuple #[v, .bool true]) ∧ IdRow w' v S ∧ Below W.heap.size W w' := by
  refine (rline_any vl vi l U HU id W h hid).mono ?_
  rintro e w' ⟨v, rfl, hr, hb⟩
  rw [hl] at hr
  exact ⟨v, by rw [hl]; rfl, hr, hb⟩
theorem rl_no (hl : lineL (cmG (getS l)) id = none) (vl vi : Value) (W : World) (h : SrcRow W (.agg #[vl, vi]) l) : Calls Tryz.prog 24 #[.agg #[vl, vi], .agg (idC id).toArray] W fun e w' => ∃ v, e = .returned (.tuple #[v, .bool false]) ∧ IdRow w' v [] ∧ Below W.heap.size W w' := by
  refine (rline_any vl vi l U HU id W h hid).mono ?_
  rintro e w' ⟨v, rfl, hr, hb⟩
  rw [hl] at hr
  exact ⟨v, by rw [hl]; rfl, hr, hb⟩
end
/-- 'Older' of two commits whose lines there are. -/
theorem old_yes {l : List Ob} {U : List Idl} (HU : CmOk (cmG (getS l)) U) {x y : Idl} (hx : x.length = 32) (hy : y.length = 32) {A B : List Idl} (hA : lineL (cmG (getS l)) x = some A) (hB : lineL (cmG (getS l)) y = some B) (r : Value) (W : World) (h : SrcP W r (getS l)) : Calls Tryz.prog 29 #[r, .agg (idC x).toArray, .agg (idC y).toArray] W fun e w' => e = .returned (.tuple #[.bool (olderL (cmG (getS l)) x y), .int .i64 0]) ∧ Below W.heap.size W w' := by
  refine (holder_any r (getS l) (fun x o h => (getS_some h).2.1) U HU x y W h hx hy).mono ?_
  rintro e w' ⟨hb, ⟨A', B', h1, h2, rfl⟩ | ⟨h1, _⟩⟩
  · exact ⟨by rw [olderL_line h2], hb⟩
  · rcases h1 with h1 | h1
    · rw [hA] at h1; cases h1
    · rw [hB] at h1; cases h1
theorem old_no {l : List Ob} {U : List Idl} (HU : CmOk (cmG (getS l)) U) {x y : Idl} (hx : x.length = 32) (hy : y.length = 32) (hn : lineL (cmG (getS l)) x = none ∨ lineL (cmG (getS l)) y = none) (r : Value) (W : World) (h : SrcP W r (getS l)) : Calls Tryz.prog 29 #[r, .agg (idC x).toArray, .agg (idC y).toArray] W fun e w' => e = .returned (.tuple #[.bool false, .int .i64 13]) ∧ Below W.heap.size W w' := by
  refine (holder_any r (getS l) (fun x o h => (getS_some h).2.1) U HU x y W h hx hy).mono ?_
  rintro e w' ⟨hb, ⟨A', B', h1, h2, rfl⟩ | ⟨h1, rfl⟩⟩
  · rcases hn with hn | hn
    · rw [h1] at hn; cases hn
    · rw [h2] at hn; cases hn
  · exact ⟨rfl, hb⟩
end Go.Proofs.YtbmiiiccnoiffaaGreatDoor

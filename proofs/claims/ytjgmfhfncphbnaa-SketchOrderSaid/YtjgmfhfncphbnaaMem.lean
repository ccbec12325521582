/- A row of n cells at the head of block b: what each holds, none frozen; behind a store, a draw, a new block. And the sketch of a text, in plain Lean. -/
import Derived.WalkKit
import Derived.WalkSmall
import Derived.Below
import Derived.Deep.MidRow
import Derived.Tactics
namespace Go.Proofs.Ytjgmfhfncphbnaa
open Go.RowKit

structure Arr (w : World) (b n : Nat) (c : Nat → Value) : Prop where
  cell : ∀ k, k < n → w.cell? ⟨b, k, none⟩ = some (c k)
  free : ∀ k, k < n → w.frozen? ⟨b, k, none⟩ = false

def upd {α : Type} (c : Nat → α) (j : Nat) (v : α) : Nat → α := fun k => if k = j then v else c k

theorem Arr.drewN {w : World} {b n : Nat} {c : Nat → Value} (h : Arr w b n c) (m : Nat) : Arr (w.drewN m) b n c := ⟨h.cell, h.free⟩
theorem Arr.drew {w : World} {b n : Nat} {c : Nat → Value} (h : Arr w b n c) : Arr w.drew b n c := ⟨h.cell, h.free⟩
theorem Arr.set {w : World} {b n : Nat} {c : Nat → Value} (h : Arr w b n c) (j : Nat) (hj : j < n) (v : Value) : Arr (w.setCell ⟨b, j, none⟩ v) b n (upd c j v) := by
  refine ⟨fun k hk => ?_, fun k hk => by rw [World.frozen?_setCell]; exact h.free k hk⟩
  unfold upd
  by_cases e : k = j
  · subst e; rw [if_pos rfl]; exact World.cell?_setCell_same _ _ _ (h.cell k hk)
  · rw [if_neg e, World.cell?_setCell_other _ _ _ _ (fun x => e (by injection x with _ h2 _; exact h2.symm))]; exact h.cell k hk
theorem Arr.far {w : World} {b n : Nat} {c : Nat → Value} (h : Arr w b n c) {p : Addr} (hp : p.block ≠ b) (v : Value) : Arr (w.setCell p v) b n c :=
  ⟨fun k hk => by rw [World.cell?_setCell_other _ _ _ _ (fun x => hp (by rw [x]))]; exact h.cell k hk, fun k hk => by rw [World.frozen?_setCell]; exact h.free k hk⟩
theorem Arr.congr {w : World} {b n : Nat} {c d : Nat → Value} (h : Arr w b n c) (e : ∀ k, k < n → c k = d k) : Arr w b n d :=
  ⟨fun k hk => by rw [← e k hk]; exact h.cell k hk, h.free⟩
theorem Arr.lt {w : World} {b n : Nat} {c : Nat → Value} (h : Arr w b n c) (hn : 0 < n) : b < w.heap.size := World.block_lt_of_cell? w ⟨b, 0, none⟩ (h.cell 0 hn)
theorem Arr.alloc {w : World} {b n : Nat} {c : Nat → Value} (h : Arr w b n c) (hn : 0 < n) (o : Obj) : Arr (w.alloc o) b n c := by
  have hl := h.lt hn
  exact ⟨fun k hk => by rw [World.cell?_alloc_lt _ _ _ hl]; exact h.cell k hk, fun k hk => by rw [World.frozen?_alloc_old _ _ _ (Nat.ne_of_lt hl)]; exact h.free k hk⟩
theorem Arr.below {w w' : World} {b n B : Nat} {c : Nat → Value} (h : Arr w b n c) (hb : Below B w w') (hB : b < B) : Arr w' b n c :=
  ⟨fun k hk => by rw [hb.cell (p := ⟨b, k, none⟩) hB]; exact h.cell k hk, fun k hk => by rw [hb.frozen (p := ⟨b, k, none⟩) hB]; exact h.free k hk⟩

theorem Arr.range {w : World} {b n : Nat} {c : Nat → Value} (h : Arr w b n c) : w.rangeAt b 0 ((List.range n).map c) := fun j v hv => by
  have hj : j < n := by have := (List.getElem?_eq_some_iff.1 hv).1; simpa using this
  rw [Nat.zero_add, h.cell j hj, ← hv]
  simp [hj]
theorem Arr.there {w : World} {b n : Nat} {c : Nat → Value} (h : Arr w b n c) : w.there b 0 n := fun j hj => by
  rw [Nat.zero_add]; exact ⟨by rw [h.cell j hj]; rfl, h.free j hj⟩

/-- A function whose one result is a row in memory returns it. -/
theorem ret_cell {P : Program} {fn : Func} {R : Ending → World → Prop} {a : Act} {w : World} {p : Tmp} {ty : TypeId} (h : fn.results = #[.cell p ty]) (b o : Nat)
    (hp : a.tmps.getD p undef = .pointer (some ⟨b, o, none⟩)) (cs : List Value) (d : TypeDesc) (hc : w.rangeAt b o cs)
    (hu : P.underlying ty = some d) (hd : d.isRow = true) (hi : (P.info? ty).map (·.size) = some cs.length) (hdef : a.defers = []) (hR : R (.returned (.agg cs.toArray)) w) : bodyPost P fn R .ret a w := by
  refine bodyPost_ret (v := .agg cs.toArray) ?_ hdef hR
  have := run_loadVar_mid (P := P) w b o ty cs d hc hu hd hi
  simp only [results, h]
  rw [Array.getD_eq_getD_getElem?] at hp
  simp [asAddr, hp, this]

theorem below_setCells {B : Nat} {a : World} (b : Nat) (hb : B ≤ b) : ∀ (vs : List Value) (o : Nat) (w : World), Below B a w → Below B a (w.setCells b o vs)
  | [], _, _, h => h
  | v :: r, o, w, h => by rw [World.setCells]; exact below_setCells b hb r (o + 1) _ (h.setCell hb v)

/-! The sketch of a text. -/
def bit (b i : Nat) : Int := if i = 2 * (b % 4) then (b % 16 : Nat) else if i = 2 * (b % 4) + 1 then (b / 16 : Nat) else 0
def sk (l : List UInt8) (i : Nat) : Int := match l with | [] => 0 | b :: l => bit b.toNat i + sk l i

theorem sk_append (l m : List UInt8) (i : Nat) : sk (l ++ m) i = sk l i + sk m i := by
  induction l with
  | nil => simp [sk]
  | cons b l ih => simp only [List.cons_append, sk, ih]; omega
theorem sk_snoc (l : List UInt8) (b : UInt8) (i : Nat) : sk (l ++ [b]) i = sk l i + bit b.toNat i := by
  rw [sk_append]; simp [sk]
theorem bit_bd (b i : Nat) (hb : b < 256) : 0 ≤ bit b i ∧ bit b i ≤ 15 := by
  unfold bit; split
  · omega
  · split <;> omega
theorem sk_bd (l : List UInt8) (i : Nat) : 0 ≤ sk l i ∧ sk l i ≤ 15 * l.length := by
  induction l with
  | nil => simp [sk]
  | cons b l ih =>
    have := bit_bd b.toNat i b.toNat_lt
    simp only [sk, List.length_cons]; omega
theorem take_snoc (s : ByteArray) (k : Nat) (h : k < s.size) : s.data.toList.take (k + 1) = s.data.toList.take k ++ [s[k]] := by
  rw [List.take_succ_eq_append_getElem (by simpa using h)]; rfl
end Go.Proofs.Ytjgmfhfncphbnaa

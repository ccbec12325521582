/- A region that draws its order: its first n operations are taken first in the order of the text (Derived/OrdersHeld.lean's law), one Bool for all of them. -/
import Derived.Test.YtjgmfhfncphbnaaQu
import Derived.OrdersHeld
import Derived.Deep.RegionHeld3
namespace Go.Proofs.Ytjgmfhfncphbnaa
open Go.RowKit

/-- The first i of N have come up. -/
def pre (N i : Nat) : Array Bool := ((List.replicate i true) ++ List.replicate (N - i) false).toArray
theorem pre_zero (N : Nat) : pre N 0 = Array.replicate N false := by unfold pre; simp
theorem pre_succ (N i : Nat) (h : i < N) : (pre N i).setIfInBounds i true = pre N (i + 1) := by
  unfold pre
  rw [List.setIfInBounds_toArray]
  congr 1
  obtain ⟨m, hm⟩ : ∃ m, N - i = m + 1 := ⟨N - i - 1, by omega⟩
  rw [hm, show N - (i + 1) = m by omega, List.replicate_succ, List.replicate_succ']
  simp

section
variable {P : Program} {ops : Array Oper} {Q : Exit → Act → World → Prop} {md : Region.Mode} {S : World → Prop} {K : Act → Prop}

def preB (md : Region.Mode) (ops : Array Oper) (n : Nat) : Bool :=
  Region.noSelect ops && (List.range n).all fun i => decide (i < ops.size) && Region.free md ops (pre ops.size i) i && (Region.ready md ops (pre ops.size i)).contains i

/-- The walk of the first operations: each yields its value in every world that meets S. -/
inductive HW (P : Program) (ops : Array Oper) (S : World → Prop) (K : Act → Prop) : List Oper → Act → Prop
  | nil {a : Act} (h : K a) : HW P ops S K [] a
  | cons {o : Oper} {v : Value} {rest : List Oper} {a : Act} (hy : YieldsIf P ops S o v a) (h : HW P ops S K rest (a.put o.dst v)) : HW P ops S K (o :: rest) a

theorem HW.val {a : Act} {o : Oper} {rest : List Oper} {v : Value} (hw : Region.wanted o (yielded ops a.tmps) = true) (h : ∀ w, S w → (execOp a.eval o).run P w = .ok (.value v) w)
    (hk : HW P ops S K rest (a.put o.dst v)) : HW P ops S K (o :: rest) a := .cons (.inl ⟨hw, h⟩) hk
theorem HW.off {a : Act} {o : Oper} {rest : List Oper} (hw : Region.wanted o (yielded ops a.tmps) = false)
    (hk : HW P ops S K rest (a.put o.dst undef)) : HW P ops S K (o :: rest) a := .cons (.inr ⟨hw, rfl⟩) hk

theorem HW.sound (n : Nat) (w : World) (hS : S w) (hQ : ∀ c a d v w, Q (.panic c) (Act.put a d v) w → Q (.panic c) a w) (hns : Region.noSelect ops = true)
    (hB : ∀ i, i < n → i < ops.size ∧ Region.free md ops (pre ops.size i) i = true ∧ (Region.ready md ops (pre ops.size i)).contains i = true) :
    ∀ (m i : Nat) (a : Act), i + m = n → HW P ops S (fun a' => wpAnyH P md ops Q S (ops.size - n) (pre ops.size n) a' w) ((ops.toList.drop i).take m) a →
      wpAnyH P md ops Q S (ops.size - i) (pre ops.size i) a w
  | 0, i, a, hi, h => by
    obtain rfl : i = n := by omega
    simp only [List.take_zero] at h
    cases h with | nil h => exact h
  | m + 1, i, a, hi, h => by
    obtain ⟨hlt, hf, hr⟩ := hB i (by omega)
    have hd : ops.toList.drop i = ops[i] :: ops.toList.drop (i + 1) := by
      rw [List.drop_eq_getElem_cons (by simpa using hlt)]; simp
    rw [hd, List.take_succ_cons] at h
    cases h with
    | cons hy h =>
      have := HW.sound n w hS hQ hns hB m (i + 1) _ (by omega) h
      rw [show ops.size - i = (ops.size - (i + 1)) + 1 by omega]
      refine wpAnyH_take (i := i) (oi := ops[i]) (Array.getElem?_eq_getElem hlt) hns hf hr (fun c a w h => hQ c a _ _ w h) hy hS ?_
      rw [pre_succ _ _ hlt]
      exact this

theorem wp_region_hw {id : Nat} {a : Act} {w : World} {l : List Oper} (n : Nat) (S : World → Prop) (hm : P.follows .mixedOrders = true) (hB : preB .any l.toArray n = true)
    (hQ : ∀ c a d v w, Q (.panic c) (Act.put a d v) w → Q (.panic c) a w) (hS : S w.drew)
    (h : HW P l.toArray S (fun a' => wpAnyH P .any l.toArray Q S (l.toArray.size - n) (pre l.toArray.size n) a' w.drew) (l.take n) a) : (Code.region id l.toArray true).wp P Q a w := by
  unfold preB at hB
  rw [Bool.and_eq_true, List.all_eq_true] at hB
  have hB2 : ∀ i, i < n → i < l.toArray.size ∧ Region.free .any l.toArray (pre l.toArray.size i) i = true ∧ (Region.ready .any l.toArray (pre l.toArray.size i)).contains i = true := fun i hi => by
    have := hB.2 i (List.mem_range.2 hi)
    rw [Bool.and_eq_true, Bool.and_eq_true, decide_eq_true_eq] at this
    exact ⟨this.1.1, this.1.2, this.2⟩
  refine wp_region_held (S := S) hm ?_
  have := HW.sound (P := P) (ops := l.toArray) (Q := Q) (md := .any) (S := S) n w.drew hS hQ hB.1 hB2 n 0 a (by omega) (by simpa using h)
  rw [pre_zero] at this
  exact this
end
end Go.Proofs.Ytjgmfhfncphbnaa

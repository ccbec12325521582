/- A region that draws its order, whose operations read and whose callees make memory: one walk in the order of the text, in the class of worlds that keep all that was there. -/
import Derived.Test.YtjgmfhfncphbnaaMem
import Derived.Deep.Quiet
import Derived.KernelRfl
namespace Go.Proofs.Ytjgmfhfncphbnaa
open Go.RowKit

section
variable {P : Program} {ops : Array Oper} {C : World → Prop} {Q : Act → Prop} {a : Act} {o : Oper} {rest : List Oper} {v : Value}

/-- The walk, behind a structure: nothing unfolds it. -/
structure WQ (P : Program) (ops : Array Oper) (C : World → Prop) (Q : Act → Prop) (l : List Oper) (a : Act) : Prop where
  out : wpQuiet P ops C Q l a

theorem WQ.val (hw : Region.wanted o (yielded ops a.tmps) = true) (h : ∀ w, C w → (execOp a.eval o).run P w = .ok (.value v) w)
    (hk : WQ P ops C Q rest (a.put o.dst v)) : WQ P ops C Q (o :: rest) a := by
  refine ⟨?_⟩
  unfold wpQuiet
  rw [if_pos hw]
  exact ⟨v, fun w hw => by unfold Oper.quietAt; rw [h w hw]; exact ⟨rfl, rfl⟩, hk.out⟩

theorem WQ.off (hw : Region.wanted o (yielded ops a.tmps) = false) (hk : WQ P ops C Q rest (a.put o.dst undef)) : WQ P ops C Q (o :: rest) a := by
  refine ⟨?_⟩
  unfold wpQuiet
  rw [hw]
  exact hk.out

theorem WQ.call {f : FuncId} {args : Array Value} (hw : Region.wanted o (yielded ops a.tmps) = true) (h : ∀ w, C w → (execOp a.eval o).run P w = .ok (.enter f args) w)
    (hc : ∀ w, C w → Calls P f args w (fun e w'' => e = .returned v ∧ C w'')) (hk : WQ P ops C Q rest (a.put o.dst v)) : WQ P ops C Q (o :: rest) a := by
  refine ⟨?_⟩
  unfold wpQuiet
  rw [if_pos hw]
  exact ⟨v, fun w hw => by unfold Oper.quietAt; rw [h w hw]; exact ⟨rfl, hc w hw⟩, hk.out⟩

theorem WQ.nil (h : Q a) : WQ P ops C Q [] a := ⟨h⟩

theorem wp_region_below {id : Nat} {Q : Exit → Act → World → Prop} {a : Act} {w : World} {l : List Oper} (B : Nat) (hm : P.follows .mixedOrders = true) (hB : Region.lexB .any l.toArray = true)
    (h : WQ P l.toArray (Below B w) (fun a' => ∀ w', Below B w w' → Q .normal a' w') l a) : (Code.region id l.toArray true).wp P Q a w :=
  wp_region_quiet (C := Below B w) hm hB ⟨rfl, rfl, rfl, Nat.le_refl _, fun _ _ => rfl⟩ h.out
end

theorem below_load {w w' : World} {B b o : Nat} {v : Value} (h : w.cell? ⟨b, o, none⟩ = some v) (hb : Below B w w') (hB : b < B) : w'.cell? ⟨b, o, none⟩ = some v := by
  rw [hb.cell (p := ⟨b, o, none⟩) hB]; exact h

/-- A load of a row, in each such world. -/
theorem exec_load_row {P : Program} {w w' : World} {B b o : Nat} {cs : List Value} (ty : TypeId) (d : TypeDesc) (hc : w.rangeAt b o cs) (hB : b < B) (hu : P.underlying ty = some d) (hd : d.isRow = true)
    (hi : (P.info? ty).map (·.size) = some cs.length) (hb : Below B w w') {a : Act} {op : Oper} (x : Operand) (ho : op.op = .load ty x) (hx : a.eval x = .pointer (some ⟨b, o, none⟩)) :
    (execOp a.eval op).run P w' = .ok (.value (.agg cs.toArray)) w' := by
  have hr : w'.rangeAt b o cs := fun j v hv => by rw [hb.cell (p := ⟨b, o + j, none⟩) hB]; exact hc j v hv
  unfold execOp
  simp only [ho, hx, Instr.loadAt, Instr.sureAddr, Sem.run_bind, Sem.run_pure, Result.andThen_ok, run_loadVar_mid w' b o ty cs d hr hu hd hi]
end Go.Proofs.Ytjgmfhfncphbnaa

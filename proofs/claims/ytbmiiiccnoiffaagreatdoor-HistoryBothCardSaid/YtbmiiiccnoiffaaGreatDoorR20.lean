/- YtbmiiiccnoiffaaGreatDoorR20: texts ZK of this claim, in one. -/
import Derived.Maps.OwnOps
import Derived.Maps.OwnSet
import Derived.Test.YtbmiiiccnoiffaaGreatDoorR14
import Derived.WideKeyArr
namespace Go.Proofs.YtbmiiiccnoiffaaGreatDoor
open Go.RowKit Go.Maps Go.WideMaps

theorem mapM_some {α β : Type} (f : α → Option β) (g : α → β) : ∀ l : List α, (∀ i ∈ l, f i = some (g i)) → l.mapM f = some (l.map g)
  | [], _ => rfl
  | a :: l, h => by
    rw [List.mapM_cons, h a (by simp), mapM_some f g l (fun i hi => h i (List.mem_cons_of_mem _ hi))]; rfl
theorem idKey : ArrKey Tryz.prog 24 5 32 := ⟨Tryz.underlying24, by kernel_rfl, by kernel_rfl, by kernel_rfl⟩
theorem idKeyed : Keyed Tryz.prog 24 := Keyed.of_law (ArrKey.law idKey)
theorem typesN : ∃ m, Tryz.prog.types.size = m + 1 := ⟨Tryz.prog.types.size - 1, by kernel_rfl⟩
theorem lits_byte (d : Nat) (b : UInt8) : Program.keyLits Tryz.prog (d + 1) 5 [Value.int .u8 (b.toNat : Int)] = some [.int .u8 (b.toNat : Int)] := by
  have hw : (Lit.int .u8 (b.toNat : Int)).wf = true := by
    have := b.toNat_lt
    simp only [Lit.wf, Bool.and_eq_true, decide_eq_true_eq]
    have e1 : IntKind.u8.min = 0 := by decide
    have e2 : IntKind.u8.max = 255 := by decide
    rw [e1, e2]; omega
  unfold Program.keyLits
  rw [Tryz.underlying5]
  simp [hw]
theorem keyOf_id (x : List UInt8) (hx : x.length = 32) : ∃ l, keyOf Tryz.prog 24 (.agg (idC x).toArray) = some l := by
  have hkt := idKey.keyType typesN
  obtain ⟨m, hm⟩ := typesN
  have hl : (idC x).length = 32 := by rw [idC_len, hx]
  have hc32 : Program.cellsOf Tryz.prog 24 = 32 := by kernel_rfl
  have hc1 : Program.cellsOf Tryz.prog 5 = 1 := by kernel_rfl
  have hform : Value.formed Tryz.prog 24 (.agg (idC x).toArray) = true := by
    unfold Value.formed
    rw [Tryz.underlying24]
    simp [hl, hc32]
  obtain ⟨mm, rfl⟩ : ∃ mm, m = mm + 1 := ⟨m - 1, by
    have : 1 < Tryz.prog.types.size := of_decide_eq_true (by kernel_rfl)
    omega⟩
  have hlits : ∃ ls, Program.keyLits Tryz.prog (Tryz.prog.types.size + 1) 24 (idC x) = some ls := by
    rw [hm]
    unfold Program.keyLits
    rw [Tryz.underlying24]
    dsimp only
    rw [if_pos (by rw [hl, hc32]), hc1]
    rw [mapM_some _ (fun i => [Lit.int .u8 ((x.getD i 0).toNat : Int)])]
    · exact ⟨_, rfl⟩
    · intro i hi
      have hi := List.mem_range.1 hi
      have e : ((idC x).drop (i * 1)).take 1 = [Value.int .u8 ((x.getD i 0).toNat : Int)] := by
        rw [Nat.mul_one]
        have hix : i < x.length := by omega
        have hic : i < (idC x).length := by omega
        rw [List.drop_eq_getElem_cons hic]
        simp [idC, hix]
      rw [e]; exact lits_byte _ _
  obtain ⟨ls, hls⟩ := hlits
  unfold keyOf
  rw [Tryz.underlying24]
  dsimp only
  rw [if_pos (by rw [hkt, hform]; rfl)]
  exact ⟨_, by show ((Program.keyLits Tryz.prog _ _ (idC x).toArray.toList).map _) = _; rw [List.toList_toArray, hls]; rfl⟩
noncomputable def keyI (x : List UInt8) : Lit := (keyOf Tryz.prog 24 (.agg (idC x).toArray)).getD .nil
theorem keyI_eq {x : List UInt8} (hx : x.length = 32) : keyOf Tryz.prog 24 (.agg (idC x).toArray) = some (keyI x) := by
  obtain ⟨l, hl⟩ := keyOf_id x hx
  unfold keyI; rw [hl]; rfl
theorem idC_inj : ∀ {x y : List UInt8}, idC x = idC y → x = y
  | [], [], _ => rfl
  | [], _ :: _, h => by simp [idC] at h
  | _ :: _, [], h => by simp [idC] at h
  | a :: x, b :: y, h => by
    unfold idC at h
    simp only [List.map_cons, List.cons.injEq] at h
    obtain ⟨h1, h2⟩ := h
    injection h1 with _ h3
    rw [idC_inj (x := x) (y := y) h2, UInt8.toNat_inj.1 (show a.toNat = b.toNat by omega)]
set_option maxRecDepth 100000

theorem keyI_inj {x y : List UInt8} (hx : x.length = 32) (hy : y.length = 32) (h : keyI x = keyI y) : x = y := by
  have h2 := idKeyed.inj ((keyI_eq hx).trans (congrArg some h)) (keyI_eq hy)
  injection h2 with h3
  exact idC_inj (by injection h3)

def heldR (v : Value) : Option (DataW Value × List MemPlace) := some (.held v, [])
end Go.Proofs.YtbmiiiccnoiffaaGreatDoor

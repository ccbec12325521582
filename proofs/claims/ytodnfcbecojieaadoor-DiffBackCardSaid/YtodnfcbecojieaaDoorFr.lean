/- How a slice of files that comes in is read. -/
import Derived.Test.YtodnfcbecojieaaDoorDA
import Derived.Deep.SlicePairs
import Derived.SizedLaws
import Derived.Shelf.Vars
import Derived.LaidLaws
import Derived.ProofKit
import Derived.ChangeOld
import Derived.LaidMore
namespace Go.Proofs.YtodnfcbecojieaaDoor
open Go.RowKit Go.ChangeShapes Go.WideShapes

theorem mem_weightsAll {H : Type} {P : Program} {e : TypeId} {n : Nat} : ∀ {l : List (DataW H)} {d : DataW H}, d ∈ l → n ∈ d.weights P e → n ∈ DataW.weightsAll P e l
  | x :: l, d, hd, hn => by
    rw [DataW.weightsAll, List.mem_append]
    rcases List.mem_cons.1 hd with rfl | hd
    · exact .inl hn
    · exact .inr (mem_weightsAll hd hn)

theorem leaf_open {H : Type} {enc : TypeId × Value → H} {W : World} {spare : Nat → Bool} {held : Bool} {fuel : Nat} {cs : List Value} {x : DataW H × List MemPlace}
    (h : DataW.trod enc Tryd.prog W 0 spare held fuel 22 cs = some x) : ∃ ao len cap l, cs = [.slice ao len cap] ∧ LeafRow W (.slice ao len cap) l ∧ ∀ f ∈ l, f.2.size ∈ x.1.weights Tryd.prog 22 := by
  rcases Go.Deep.open_slice_pairs Tryd.underlying22 Tryd.underlying33 (by kernel_rfl) rfl rfl (by kernel_rfl) (by kernel_rfl) h with ⟨rfl, _⟩ | ⟨a, len, cap, m, n, V0, V1, D0, D1, P0, P1, rfl, _, hl, hm, hmm, rfl, hc⟩
  · exact ⟨none, 0, 0, [], rfl, ⟨none, 0, rfl, by simp, fun h => absurd rfl h⟩, fun f hf => by simp at hf⟩
  · have hlm : len ≤ m := by rw [hmm]; split <;> omega
    have hex : ∀ i, ∃ q : Lf, i < len → W.cell? (a.add (i * 2)) = some (.string q.1) ∧ W.cell? (a.add (i * 2 + 1)) = some (.string q.2) ∧ D1 i = .lit (.string q.2.data.toList) := fun i => by
      by_cases hi : i < len
      · obtain ⟨h1, h2, h3, h4⟩ := hc i (by omega)
        obtain ⟨s0, e0, _, _⟩ := DataW.trod_string Tryd.underlying9 h3
        obtain ⟨s1, e1, e2, _⟩ := DataW.trod_string Tryd.underlying9 h4
        refine ⟨(s0, s1), fun _ => ⟨?_, ?_, ?_⟩⟩
        · rw [h1]; injection e0 with e; rw [e]
        · rw [h2]; injection e1 with e; rw [e]
        · exact congrArg Prod.fst e2
      · exact ⟨(ByteArray.empty, ByteArray.empty), fun h => absurd h hi⟩
    obtain ⟨q, hq⟩ := Classical.axiomOfChoice hex
    refine ⟨some a, len, cap, (List.range len).map q, rfl, ?_, ?_⟩
    · refine ⟨some a, cap, by simp, by simp; omega, fun hne => ?_⟩
      have hpos : 0 < len := by
        rcases Nat.eq_zero_or_pos len with h0 | h0
        · subst h0; simp at hne
        · exact h0
      obtain ⟨b, off, spot⟩ := a
      have hc0 := (hq 0 hpos).1
      have hspot : spot = none := by simpa [Addr.add] using World.cell?_spot hc0
      subst hspot
      refine ⟨b, off, rfl, ?_, fun i hi j u hu => ?_⟩
      · exact World.block_lt_of_cell? W _ (by rw [Addr.add_mid] at hc0; exact hc0)
      · have hi2 : i < len := by simpa using hi
        obtain ⟨h1, h2, _⟩ := hq i hi2
        rw [Addr.add_mid] at h1 h2
        simp only [List.getElem_map, List.getElem_range, leafC] at hu
        rcases j with _ | _ | j
        · simp at hu; rw [← hu]; exact h1
        · simp at hu; rw [← hu]; exact h2
        · simp at hu
    · intro f hf
      obtain ⟨i, hi, rfl⟩ := List.mem_map.1 hf
      have hi2 := List.mem_range.1 hi
      obtain ⟨_, _, h3⟩ := hq i hi2
      simp only [DataW.weights, Tryd.underlying22]
      refine List.mem_cons_of_mem _ (List.mem_append.2 (.inl (mem_weightsAll (d := .agg [D0 i, D1 i]) (List.mem_map.2 ⟨i, hi, rfl⟩) ?_)))
      simp only [DataW.weights, Tryd.underlying33]
      simp [DataW.weightsEach, h3, DataW.weights]

theorem maxAt_shaped {w : World} (h : w.ShapedOpen Tryd.prog) : MaxAt w :=
  Go.Proofs.cell_of_shapedOpen_int (P := Tryd.prog) (g := 0) (t := 3) (zero := #[.int .i64 0]) h (of_decide_eq_true (by kernel_rfl)) (by kernel_rfl) rfl (by kernel_rfl) (by kernel_rfl) Tryd.underlying3

/-- The kit's wrap for a row that lists variables, the world's shape kept besides. -/
theorem handed_and_shaped {H : Type} {enc : TypeId × Value → H} {a : Assume} {C : Checked} {os : Os} {f : FuncId} {fn : Func} {s : ChangeSpec} {conds : List PathCond} {apart fresh handsOn again : Bool} {X : World → Array Value → Prop}
    (own : ownKnob C.prog.godebug = none) (started : os.Started) (noInit : C.prog.inits.idxOf? f = none) (hfn : C.prog.funcs[f]? = some fn)
    (witness : ∃ (w : World) (tape : Tape) (i : Input), w.os = os ∧ (w.forCall tape i).Shaped C.prog ∧ i.vars = [] ∧ Input.okWide C.prog (w.forCall tape i) .any w.heap.size f i ∧
      ((s.pre enc C.prog fn conds apart (w.forCall tape i).memory i.args ∧ X (w.forCall tape i).memory i.args) ∧ sizedMet enc C.prog fn (OpenSpec.ofChange s) apart (w.forCall tape i).memory i.args) ∧ a.holds C.prog (lone (Frame.enter C.prog f i.args .normal) [] (w.forCall tape i)))
    (contract : ∀ (W : World) (base : Nat) (args : Array Value) (ds gs : List (DataW H)) (before : List MemPlace),
      (∀ (j : Nat) t v, fn.params[j]? = some t → args[j]? = some v → Value.okWide C.prog W .any base t v) →
      DataW.Whole enc C.prog fn.params.toList s.vars apart W args.toList ds gs before →
      (DataW.weightsEach C.prog (fn.params.toList ++ s.plain.varTypes C.prog) (ds ++ gs)).all (· ≤ reachBytes) = true → W.ShapedOpen C.prog →
      Calls C.prog f args W fun e W' => ∃ v, e = .returned v ∧ s.post enc C.prog fn apart fresh handsOn again W args v W') :
    ReturnsInHanded a C os f .any (fun w args => (s.pre enc C.prog fn conds apart w args ∧ X w args) ∧ sizedMet enc C.prog fn (OpenSpec.ofChange s) apart w args) (s.post enc C.prog fn apart fresh handsOn again) := by
  refine returnsInHanded_of_calls own started noInit witness ?_
  intro w tape i _ hsh _ hok hpre _
  obtain ⟨_, _, _, fn', hfn', _, _, _, _, hval⟩ := hok
  have e : fn' = fn := Option.some.inj (hfn'.symm.trans hfn)
  subst e
  obtain ⟨⟨⟨ds, gs, before, hw, _⟩, _⟩, hz⟩ := hpre
  have hw' := DataW.Whole.of_heap (w' := w.forCall tape i) (by rfl) hw
  refine (contract (w.forCall tape i) w.heap.size i.args ds gs before hval hw' (hz.weights hw) hsh).mono fun e W' ⟨v, he, hp⟩ => ?_
  subst he
  exact ChangeSpec.post_blind hp
end Go.Proofs.YtodnfcbecojieaaDoor

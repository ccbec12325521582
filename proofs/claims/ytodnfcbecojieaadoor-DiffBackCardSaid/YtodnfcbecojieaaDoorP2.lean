/- The law DiffBack: for every input the call returns true, and each argument reads as it read. The row lists two of the library's tables with what they hold; the card ties them to the text. -/
import Derived.Test.YtodnfcbecojieaaDoorRows
import Derived.Test.YtodnfcbecojieaaDoorCards
import Derived.Test.YtodnfcbecojieaaDoorTie
import Derived.Test.YtodnfcbecojieaaDoorFr
import Derived.Test.YtodnfcbecojieaaDoorDB
import Derived.OpenShut
import Derived.ShutString
import Derived.Lay
import Derived.LaidOnce
import Derived.SevenTiedAt
import Derived.Stop.Joined
namespace Go.Proofs.YtodnfcbecojieaaDoor.diffBack
open Go.ChangeShapes Go.WideShapes Go.ChangeAt Go.RowKit
open Go.ChangeMaps (open_string shut_string)
set_option linter.unusedVariables false

theorem own : ownKnob Tryd.prog.godebug = none := by kernel_rfl
theorem laidOut : laidOutB Tryd.prog = true := by kernel_rfl

set_option maxRecDepth 100000 in
theorem lifted (os : Os) (started : os.Started) (H : Type) (enc : TypeId × Value → H) :
    ReturnsInHanded {} Tryd.checked os 4 .any (fun w args => (Rows.diffBackSpec.pre enc Tryd.prog Tryd.f4 [] false w args ∧ laidMetH Tryd.prog Rows.diffBackRow.laid w) ∧ sizedMet enc Tryd.prog Tryd.f4 (OpenSpec.ofChange Rows.diffBackSpec) false w args)
      (Rows.diffBackSpec.post enc Tryd.prog Tryd.f4 false true false false) := by
  refine handed_and_shaped (C := Tryd.checked) (X := fun w _ => laidMetH Tryd.prog Rows.diffBackRow.laid w) own started (by kernel_rfl) Tryd.func4
    (ChangeSpec.witness_shaped (enc := enc) (C := Tryd.checked) (os := os) (X := fun w _ => laidMetH Tryd.prog Rows.diffBackRow.laid w) false (World.laidAll Tryd.prog os Rows.diffBackRow.laid) #[.slice none 0 0, .slice none 0 0] 8 (World.laidAll_os _ _ _)
      (World.shaped_of_ZipB (by kernel_rfl) (by kernel_rfl)) (by kernel_rfl) (by kernel_rfl) (by kernel_rfl)
      (by rw [MakeChecks.laidMetH_plain _ _ _ (by kernel_rfl)]; exact laidMet_laidAll _ (by kernel_rfl) (by kernel_rfl))) ?_
  intro W base args ds gs before hval0 hW hz hsh
  have hval : ∀ (j : Nat) t v, Tryd.f4.params[j]? = some t → args[j]? = some v → Value.okWide Tryd.prog W .any base t v := hval0
  have hW' := hW
  obtain ⟨p, q, hA0, hV, rfl, hfz, hnd⟩ := hW
  have hA : DataW.TrodAll enc Tryd.prog W 0 (fun _ => true) true Tryd.f4.params.toList args.toList ds p := hA0
  rw [Tryd.params4] at hA hval
  obtain ⟨v0, vs0, d0, ds0, p0, q0, hargs, rfl, rfl, h0, r0⟩ := trodAll_cons hA
  obtain ⟨v1, vs1, d1, ds1, p1, q1, rfl, rfl, rfl, h1, r1⟩ := trodAll_cons r0
  obtain ⟨rfl, rfl, rfl⟩ := trodAll_nil r1
  obtain rfl : args = #[v0, v1] := by cases args; simp_all
  obtain ⟨rfl, rfl⟩ := trodVars_none hV
  have hz' : (DataW.weightsEach Tryd.prog (Tryd.f4.params.toList ++ Rows.diffBackSpec.plain.varTypes Tryd.prog) ([d0, d1] ++ [])).all (· ≤ reachBytes) = true := hz
  rw [Tryd.params4] at hz'
  obtain ⟨a0, len0, cap0, rfl⟩ := okWide_slice Tryd.underlying22 (hval 0 22 v0 rfl rfl)
  obtain ⟨a1, len1, cap1, rfl⟩ := okWide_slice Tryd.underlying22 (hval 1 22 v1 rfl rfl)
  have k0 := h0
  have k1 := h1
  have lt0 : ∀ x ∈ p0, x.block < W.heap.size := by obtain ⟨m, hm⟩ := k0; exact DataW.trod_lt m _ _ _ hm
  have lt1 : ∀ x ∈ p1, x.block < W.heap.size := by obtain ⟨m, hm⟩ := k1; exact DataW.trod_lt m _ _ _ hm
  obtain ⟨z0, w0, y0⟩ : ∃ l, LeafRow W (.slice a0 len0 cap0) l ∧ ∀ f ∈ l, f.2.size ≤ 1000000000000000 := by
    obtain ⟨fuel, hf⟩ := h0
    obtain ⟨ao, len, cap, l, hcs, hr, hw⟩ := leaf_open hf
    simp [Value.cells] at hcs
    obtain ⟨rfl, rfl, rfl⟩ := hcs
    refine ⟨l, hr, fun f hf => ?_⟩
    have := List.all_eq_true.1 hz' _ (DataW.weights_mem_each (j := 0) (t := 22) rfl rfl _ (hw f hf))
    have h2 := reachBytes_lt
    simp at this; omega
  obtain ⟨z1, w1, y1⟩ : ∃ l, LeafRow W (.slice a1 len1 cap1) l ∧ ∀ f ∈ l, f.2.size ≤ 1000000000000000 := by
    obtain ⟨fuel, hf⟩ := h1
    obtain ⟨ao, len, cap, l, hcs, hr, hw⟩ := leaf_open hf
    simp [Value.cells] at hcs
    obtain ⟨rfl, rfl, rfl⟩ := hcs
    refine ⟨l, hr, fun f hf => ?_⟩
    have := List.all_eq_true.1 hz' _ (DataW.weights_mem_each (j := 1) (t := 22) rfl rfl _ (hw f hf))
    have h2 := reachBytes_lt
    simp at this; omega
  clear hA0 hval0
  refine (diffBack_walk (.slice a0 len0 cap0) (.slice a1 len1 cap1) z0 z1 W (maxAt_shaped hsh) w0 w1 y0 y1).mono fun e W' ⟨he, bel⟩ => ?_
  subst he
  exact ⟨_, rfl, _, _, _, [], _, [], hW', trodAll_mk1 (shut_bool Tryd.underlying4 _), (trodAll_cons_mk (Below.trod laidOut (by kernel_rfl) (of_decide_eq_true (by kernel_rfl)) k0 bel lt0) (trodAll_cons_mk (Below.trod laidOut (by kernel_rfl) (of_decide_eq_true (by kernel_rfl)) k1 bel lt1) trodAll_mk0)), rfl, bel.frame _, fun h => by cases h⟩

theorem over : Rows.DiffBackSaid :=
  OpenClaim.holds_of_wide 4 Tryd.f4 rfl rfl rfl rfl rfl rfl rfl ⟨rfl, rfl, rfl, rfl, rfl⟩ rfl rfl rfl rfl rfl (by kernel_rfl) Tryd.func4 (by kernel_rfl)
    (of_decide_eq_true (by kernel_rfl)) (by unfold Func.isWrapper; first | (rw [if_pos (by decide +kernel)]; kernel_rfl) | (rw [if_neg (by decide +kernel)]; exact ⟨rfl, rfl⟩))
    (fun os started H enc _ => lifted os started H enc)

theorem proved : Rows.DiffBackCardSaid :=
  Claim7.holds_tied_plain_at .later [] [.data, .pinned] true (true, "a53a258f6e670b4e897c3d02ffda5608776fc52e14c6469fd2a33dd5025a1b64") false
    over (fun _ h => by cases h) (by kernel_rfl) (fun _ h => by cases h) diffBack_row_tie rfl ⟨rfl, rfl⟩ (by kernel_rfl) rfl
    (fun f fn hf hfn => by
      obtain rfl : f = 4 := Option.some.inj ((show Tryd.prog.funcNamed "sediment/sedimentlaw27.DiffBack" = some 4 by kernel_rfl).symm.trans hf) |>.symm
      obtain rfl : fn = Tryd.f4 := (Option.some.inj (Tryd.func4.symm.trans hfn)).symm
      exact ⟨by kernel_rfl, fun j t ht => by
        rw [Tryd.params4] at ht
        have hm : t ∈ [22] := by
          have := Array.mem_of_getElem? ht
          simp at this
          rcases this with rfl | rfl <;> simp
        have hall : ([22].all fun u => !Tryd.prog.wantsStandIn u) = true := by kernel_rfl
        exact (show Tryd.prog.wantsStandIn t = false by simpa using List.all_eq_true.1 hall t hm)⟩)
    (by kernel_rfl)
end Go.Proofs.YtodnfcbecojieaaDoor.diffBack

/- The law FsckSource: for every input the call returns true, and each argument reads as it read. The row lists four of the program's variables with what they hold; the card ties them to the text. -/
import Derived.Test.YtijhemdnajlfnaaGreatDoorRows
import Derived.Test.YtijhemdnajlfnaaGreatDoorCards
import Derived.Test.YtijhemdnajlfnaaGreatDoorTie
import Derived.ChangeAt
import Derived.Test.YtijhemdnajlfnaaGreatDoorR46
import Derived.OpenShut
import Derived.ShutString
import Derived.Lay
import Derived.LaidOnce
import Derived.SevenTiedAt
import Derived.Stop.Joined
namespace Go.Proofs.YtijhemdnajlfnaaGreatDoor.fsckSource
open Go.ChangeShapes Go.WideShapes Go.ChangeAt Go.RowKit
open Go.ChangeMaps (open_string shut_string)
set_option linter.unusedVariables false

theorem own : ownKnob Tryz.prog.godebug = none := by kernel_rfl
theorem laidOut : laidOutB Tryz.prog = true := by kernel_rfl

set_option maxRecDepth 100000 in
theorem lifted (os : Os) (started : os.Started) (H : Type) (enc : TypeId × Value → H) :
    ReturnsInHanded {} Tryz.checked os 3 .any (fun w args => (Rows.fsckSourceSpec.pre enc Tryz.prog Tryz.f3 [] false w args ∧ laidMetH Tryz.prog Rows.fsckSourceRow.laid w) ∧ sizedMet enc Tryz.prog Tryz.f3 (OpenSpec.ofChange Rows.fsckSourceSpec) false w args)
      (Rows.fsckSourceSpec.post enc Tryz.prog Tryz.f3 false true false false) := by
  refine oJ (C := Tryz.checked) (X := fun w _ => laidMetH Tryz.prog Rows.fsckSourceRow.laid w) (fun _ _ _ hh h => h.of_heap hh.symm) own started (by kernel_rfl) Tryz.func3
    (ChangeSpec.witness_shaped (enc := enc) (C := Tryz.checked) (os := os) (X := fun w _ => laidMetH Tryz.prog Rows.fsckSourceRow.laid w) false (World.laidAll Tryz.prog os Rows.fsckSourceRow.laid) #[.slice none 0 0, .agg (idC (List.replicate 32 0)).toArray] 8 (World.laidAll_os _ _ _)
      (World.shaped_of_ZipB (by kernel_rfl) (by kernel_rfl)) (by kernel_rfl) (by kernel_rfl) (by kernel_rfl)
      (by rw [MakeChecks.laidMetH_plain _ _ _ (by kernel_rfl)]; exact laidMet_laidAll _ (by kernel_rfl) (by kernel_rfl))) ?_
  intro W base args ds gs before hval0 hW hz hsh hlx
  have hval : ∀ (j : Nat) t v, Tryz.f3.params[j]? = some t → args[j]? = some v → Value.okWide Tryz.prog W .any base t v := hval0
  have hW' := hW
  obtain ⟨p, q, hA0, hV, rfl, hfz, hnd⟩ := hW
  have hA : DataW.TrodAll enc Tryz.prog W 0 (fun _ => true) true Tryz.f3.params.toList args.toList ds p := hA0
  rw [Tryz.params3] at hA hval
  obtain ⟨v0, vs0, d0, ds0, p0, q0, hargs, rfl, rfl, h0, r0⟩ := trodAll_cons hA
  obtain ⟨v1, vs1, d1, ds1, p1, q1, rfl, rfl, rfl, h1, r1⟩ := trodAll_cons r0
  obtain ⟨rfl, rfl, rfl⟩ := trodAll_nil r1
  obtain rfl : args = #[v0, v1] := by cases args; simp_all
  obtain ⟨rfl, rfl⟩ := trodVars_none hV
  have hz' : (DataW.weightsEach Tryz.prog (Tryz.f3.params.toList ++ Rows.fsckSourceSpec.plain.varTypes Tryz.prog) ([d0, d1] ++ [])).all (· ≤ reachBytes) = true := hz
  rw [Tryz.params3] at hz'
  obtain ⟨a0, len0, cap0, rfl⟩ := okWide_slice Tryz.underlying22 (hval 0 22 v0 rfl rfl)
  have k0 := h0
  have k1 := h1
  have lt0 : ∀ x ∈ p0, x.block < W.heap.size := by obtain ⟨m, hm⟩ := k0; exact DataW.trod_lt m _ _ _ hm
  have lt1 : ∀ x ∈ p1, x.block < W.heap.size := by obtain ⟨m, hm⟩ := k1; exact DataW.trod_lt m _ _ _ hm
  obtain ⟨l, hl, hmx⟩ : ∃ l, jX W (.slice a0 len0 cap0) l ∧ Ht l := by
    obtain ⟨fuel, hf⟩ := h0
    obtain ⟨ao, len, cap, l, hcs, hr, hw⟩ := FX hf
    simp [Value.cells] at hcs
    obtain ⟨rfl, rfl, rfl⟩ := hcs
    have hle : ∀ n, n ∈ d0.weights Tryz.prog 22 → n ≤ 140737488355328 := fun n hn => by
      have := List.all_eq_true.1 hz' _ (DataW.weights_mem_each (j := 0) (t := 22) rfl rfl _ hn)
      have h2 := reachBytes_lt
      simp at this; omega
    refine ⟨l, hr, fun f hf => ?_⟩
    obtain ⟨g1, g2, g3⟩ := hw f hf
    have := hle _ g1
    exact ⟨by unfold maxLen; omega, hle _ g2, hle _ g3⟩
  obtain ⟨x1, rfl, hx1⟩ : ∃ x : List UInt8, v1 = .agg (idC x).toArray ∧ x.length = 32 := by
    obtain ⟨fuel, hf⟩ := h1
    exact NT (hval 1 24 v1 rfl rfl) hf
  clear hA0 hval0
  have hlx' : laidMet Tryz.prog Rows.fsckSourceRow.laid W := by rw [MakeChecks.laidMetH_plain _ _ _ (by kernel_rfl)] at hlx; exact hlx
  have hG : Glob W := ⟨(zl hlx').1, AB hsh, (zl hlx').2, OP hlx'⟩
  refine (sQ (.slice a0 len0 cap0) l x1 W hl hmx hx1 hG).mono fun e W' ⟨he, bel⟩ => ?_
  subst he
  exact ⟨_, rfl, _, _, _, [], _, [], hW', trodAll_mk1 (shut_bool Tryz.underlying4 _), (trodAll_cons_mk (Below.trod laidOut (by kernel_rfl) (of_decide_eq_true (by kernel_rfl)) k0 bel lt0) (trodAll_cons_mk (Below.trod laidOut (by kernel_rfl) (of_decide_eq_true (by kernel_rfl)) k1 bel lt1) trodAll_mk0)), rfl, bel.frame _, fun h => by cases h⟩
end Go.Proofs.YtijhemdnajlfnaaGreatDoor.fsckSource

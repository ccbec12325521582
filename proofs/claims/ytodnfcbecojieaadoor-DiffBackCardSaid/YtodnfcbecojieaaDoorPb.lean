/- Plain Lean: files that are apart, the other way round. -/
import Derived.Test.YtodnfcbecojieaaDoorD5
namespace Go.Proofs.YtodnfcbecojieaaDoor

theorem mem_paths (a b : List Lf) (p : ByteArray) : p ∈ pathsS (pathsS [] a) b ↔ (findS a p).isSome = true ∨ (findS b p).isSome = true := by
  rw [pathsS_mem, pathsS_mem, findS_some, findS_some]; simp
theorem paths_turn (a b : List Lf) : pathsS (pathsS [] b) a = pathsS (pathsS [] a) b :=
  asc_ext _ _ (pathsS_asc a _ (pathsS_asc b _ List.Pairwise.nil)) (pathsS_asc b _ (pathsS_asc a _ List.Pairwise.nil)) fun p => by rw [mem_paths, mem_paths, or_comm]
/-- Added and Removed, changed about. -/
def turnK (k : Nat) : Nat := if k = 1 then 2 else if k = 2 then 1 else k
theorem kind_turn (a b : List Lf) (p : ByteArray) (h : (findS a p).isSome = true ∨ (findS b p).isSome = true) : kindS b a p = turnK (kindS a b p) := by
  unfold kindS turnK
  cases ea : findS a p with
  | none => cases eb : findS b p with
    | none => rw [ea, eb] at h; simp at h
    | some t => simp
  | some s => cases eb : findS b p with
    | none => simp
    | some t => by_cases e : s = t
                · subst e; simp
                · have e' : ¬ t = s := fun h => e h.symm
                  simp [e, e']
theorem files_turn (a b : List Lf) : filesS b a = (filesS a b).map fun x => (x.1, turnK x.2) := by
  rw [filesS_tell, filesS_tell, paths_turn a b]
  have h : ∀ p ∈ pathsS (pathsS [] a) b, tell b a p = (tell a b p).map fun x => (x.1, turnK x.2) := fun p hp => by
    have hk := kind_turn a b p ((mem_paths a b p).1 hp)
    unfold tell
    rw [hk]
    by_cases e : kindS a b p = 0
    · rw [e]; rfl
    · have : turnK (kindS a b p) ≠ 0 := by unfold turnK; split; · simp
                                           split; · simp
                                           exact e
      rw [if_neg e, if_neg this]; rfl
  generalize pathsS (pathsS [] a) b = l at h
  induction l with
  | nil => rfl
  | cons p l ih =>
    have h1 := h p (by simp)
    have ih' := ih fun q hq => h q (by simp [hq])
    rw [List.filterMap_cons, List.filterMap_cons, h1]
    cases e : tell a b p with
    | none => simpa using ih'
    | some x => simpa using ih'
theorem files_self (a : List Lf) : filesS a a = [] := by
  rw [filesS_tell, List.filterMap_eq_nil_iff]
  intro p hp
  have h := (mem_paths a a p).1 hp
  unfold tell kindS
  cases e : findS a p with
  | none => rw [e] at h; simp at h
  | some s => simp
theorem files_asc (a b : List Lf) : (filesS a b).Pairwise fun x y => ordP x.1 y.1 < 0 := by
  rw [filesS_tell]
  refine List.Pairwise.filterMap _ (fun p q h x hx y hy => ?_) (pathsS_asc b _ (pathsS_asc a _ List.Pairwise.nil))
  unfold tell at hx hy
  split at hx
  · cases hx
  · split at hy
    · cases hy
    · cases hx; cases hy; exact h
theorem files_told (a b : List Lf) (p : ByteArray) (h : (findS a p).isSome = true) : (∃ x ∈ filesS a b, x.1 = p) ↔ findS b p ≠ findS a p := by
  rw [filesS_tell]
  constructor
  · rintro ⟨x, hx, rfl⟩
    obtain ⟨q, _, hq⟩ := List.mem_filterMap.1 hx
    unfold tell at hq
    split at hq
    · cases hq
    · rename_i hk
      cases hq
      intro e
      apply hk
      unfold kindS
      rw [e]
      cases ea : findS a q with
      | none => rw [ea] at h; cases h
      | some s => simp
  · intro hne
    refine ⟨(p, kindS a b p), List.mem_filterMap.2 ⟨p, (mem_paths a b p).2 (.inl h), ?_⟩, rfl⟩
    unfold tell
    rw [if_neg]
    unfold kindS
    cases ea : findS a p with
    | none => simp
    | some s =>
      cases eb : findS b p with
      | none => simp
      | some t =>
        rw [ea, eb] at hne
        have : ¬ s = t := fun e => hne (by rw [e])
        simp [this]
end Go.Proofs.YtodnfcbecojieaaDoor

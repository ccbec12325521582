/- In plain Lean: the two orders are one, and what holds of it. -/
import Derived.Test.YtjgmfhfncphbnaaW9
namespace Go.Proofs.Ytjgmfhfncphbnaa

theorem nearB_congr (d d' : Nat → Int) (ok ok' : Nat → Bool) : ∀ k, (∀ i, i < k → d i = d' i ∧ ok i = ok' i) → nearB d ok k = nearB d' ok' k
  | 0, _ => rfl
  | k + 1, h => by
    have ih := nearB_congr d d' ok ok' k (fun i hi => h i (by omega))
    have hb := nearB_bd d' ok' k
    obtain ⟨e1, e2⟩ := h k (by omega)
    unfold nearB
    rw [ih, e1, e2]
    by_cases hn : nearB d' ok' k < 0
    · simp [hn]
    · rw [(h (nearB d' ok' k).toNat (by omega)).1]

theorem nearB_min (d : Nat → Int) (ok : Nat → Bool) : ∀ k, 0 ≤ nearB d ok k → ok (nearB d ok k).toNat = true ∧ ∀ j, j < k → ok j = true → d (nearB d ok k).toNat ≤ d j
  | 0, h => by simp [nearB] at h
  | k + 1, h => by
    unfold nearB at h ⊢
    by_cases hc : ok k = true ∧ (nearB d ok k < 0 ∨ d k < d (nearB d ok k).toNat)
    · rw [if_pos hc] at h ⊢
      rw [Int.toNat_natCast]
      refine ⟨hc.1, fun j hj hok => ?_⟩
      rcases Nat.lt_or_ge j k with h1 | h1
      · rcases hc.2 with h2 | h2
        · have := nearB_ok d ok k j h1 hok; omega
        · by_cases h3 : 0 ≤ nearB d ok k
          · have := (nearB_min d ok k h3).2 j h1 hok; omega
          · have := nearB_ok d ok k j h1 hok; omega
      · obtain rfl : j = k := by omega
        omega
    · rw [if_neg hc] at h ⊢
      obtain ⟨h1, h2⟩ := nearB_min d ok k h
      refine ⟨h1, fun j hj hok => ?_⟩
      rcases Nat.lt_or_ge j k with h3 | h3
      · exact h2 j h3 hok
      · obtain rfl : j = k := by omega
        have : ¬ (nearB d ok j < 0 ∨ d j < d (nearB d ok j).toNat) := fun h => hc ⟨hok, h⟩
        omega

/-- The nearest of those that are let, looked for among them alone. -/
theorem nearB_filter (d : Nat → Int) (ok : Nat → Bool) : ∀ n, nearB d ok n =
    if (List.range n).filter ok = [] then -1 else ((((List.range n).filter ok).getD (nearB (fun j => d (((List.range n).filter ok).getD j 0)) (fun _ => true) ((List.range n).filter ok).length).toNat 0 : Nat) : Int)
  | 0 => by simp [nearB]
  | n + 1 => by
    have ih := nearB_filter d ok n
    rw [List.range_succ, List.filter_append]
    by_cases hok : ok n = true
    · have e1 : List.filter ok [n] = [n] := by simp [hok]
      rw [e1]
      generalize hL : (List.range n).filter ok = L at ih ⊢
      have hne : L ++ [n] ≠ [] := by simp
      rw [if_neg hne, List.length_append, List.length_singleton]
      have hcg : nearB (fun j => d ((L ++ [n]).getD j 0)) (fun _ => true) L.length = nearB (fun j => d (L.getD j 0)) (fun _ => true) L.length :=
        nearB_congr _ _ _ _ _ fun i hi => ⟨by simp only [List.getD_eq_getElem?_getD]; rw [List.getElem?_append_left hi], rfl⟩
      have hb := nearB_bd (fun j => d (L.getD j 0)) (fun _ => true) L.length
      have hn : d ((L ++ [n]).getD L.length 0) = d n := by simp
      have hgn : (L ++ [n]).getD L.length 0 = n := by simp
      conv => lhs; unfold nearB
      conv => rhs; unfold nearB
      rw [hcg, hok]
      simp only [hn, true_and]
      by_cases hL0 : L = []
      · subst hL0
        rw [if_pos rfl] at ih
        rw [ih]
        simp [nearB]
      · rw [if_neg hL0] at ih
        have hpos := nearB_pos (fun j => d (L.getD j 0)) L.length (List.length_pos_iff.2 hL0)
        generalize hM : nearB (fun j => d (L.getD j 0)) (fun _ => true) L.length = M at ih hb hpos ⊢
        have e2 : (L ++ [n]).getD M.toNat 0 = L.getD M.toNat 0 := by
          simp only [List.getD_eq_getElem?_getD]; rw [List.getElem?_append_left (by omega)]
        rw [ih, e2, Int.toNat_natCast]
        have h1 : ¬ (((L.getD M.toNat 0 : Nat) : Int) < 0) := by omega
        have h2 : ¬ (M < 0) := by omega
        simp only [h1, h2, false_or]
        by_cases hc : d n < d (L.getD M.toNat 0)
        · rw [if_pos hc, if_pos hc, Int.toNat_natCast, hgn]
        · rw [if_neg hc, if_neg hc, e2]
    · have e1 : List.filter ok [n] = [] := by simp [hok]
      rw [e1, List.append_nil, ← ih]
      conv => lhs; unfold nearB
      rw [if_neg (fun h => hok h.1)]

/-- What is left behind those that were taken. -/
def leftOf (N : Nat) (o : List Nat) : List Nat := (List.range N).filter fun i => !decide (i ∈ o)

theorem erase_left (N : Nat) (o : List Nat) (k : Nat) (hk : k < (leftOf N o).length) : (leftOf N o).eraseIdx k = leftOf N (o ++ [(leftOf N o).getD k 0]) := by
  have hnd : (leftOf N o).Nodup := List.Pairwise.filter _ List.nodup_range
  have hg : (leftOf N o).getD k 0 = (leftOf N o)[k] := by rw [List.getD_eq_getElem?_getD, List.getElem?_eq_getElem hk]; rfl
  rw [hg]
  have h1 : (leftOf N o).eraseIdx k = (leftOf N o).erase (leftOf N o)[k] :=
    (List.erase_eq_eraseIdx_of_idxOf (hnd.idxOf_getElem k hk)).symm
  rw [h1, hnd.erase_eq_filter]
  generalize (leftOf N o)[k] = x
  unfold leftOf
  rw [List.filter_filter]
  congr 1
  funext i
  by_cases h : i = x <;> by_cases h' : i ∈ o <;> simp [h, h']

theorem next_eq (fs : List (Nat → Int)) (o : List Nat) (q : Nat) (hL : leftOf fs.length o ≠ []) (hq : o = [] → q = 0) :
    (leftOf fs.length o).getD (nextK fs (leftOf fs.length o) q o) 0 = nextR fs o q := by
  unfold nextK nextR
  by_cases ho : o = []
  · rw [if_pos ho, if_pos ho, hq ho]
    subst ho
    have h1 : leftOf fs.length [] = List.range fs.length := by unfold leftOf; simp
    rw [h1] at hL ⊢
    cases hn : fs.length with
    | zero => rw [hn] at hL; simp at hL
    | succ n => rw [List.range_succ_eq_map]; simp
  · rw [if_neg ho, if_neg ho]
    have h1 : nearB (dst (fat fs q) fs) (free (bsOf fs.length o)) fs.length = nearB (dst (fat fs q) fs) (fun i => !decide (i ∈ o)) fs.length :=
      nearB_congr _ _ _ _ _ fun i hi => ⟨rfl, free_bs _ _ _ hi⟩
    rw [h1, nearB_filter (dst (fat fs q) fs) (fun i => !decide (i ∈ o)) fs.length]
    have h2 : (List.range fs.length).filter (fun i => !decide (i ∈ o)) = leftOf fs.length o := rfl
    rw [h2, if_neg hL, Int.toNat_natCast]
    have h3 : nearB (dst (fat fs q) ((leftOf fs.length o).map (fat fs))) (fun _ => true) (leftOf fs.length o).length = nearB (fun j => dst (fat fs q) fs ((leftOf fs.length o).getD j 0)) (fun _ => true) (leftOf fs.length o).length := by
      refine nearB_congr _ _ _ _ _ fun i hi => ⟨?_, rfl⟩
      unfold dst
      rw [List.getD_eq_getElem?_getD (l := (leftOf fs.length o).map (fat fs)), List.getElem?_map, List.getElem?_eq_getElem hi, List.getD_eq_getElem?_getD (l := leftOf fs.length o), List.getElem?_eq_getElem hi]
      rfl
    rw [h3]

theorem go_eq (fs : List (Nat → Int)) : ∀ (n : Nat) (o : List Nat) (q : Nat), n = (leftOf fs.length o).length → (o = [] → q = 0) → ordGo fs n (leftOf fs.length o) q o = rGo fs n o q
  | 0, _, _, _, _ => rfl
  | n + 1, o, q, hn, hq => by
    have hL : leftOf fs.length o ≠ [] := by intro e; rw [e] at hn; simp at hn
    have hk := nextK_lt fs (leftOf fs.length o) q o hL
    have he := erase_left fs.length o _ hk
    unfold ordGo rGo
    rw [he, next_eq fs o q hL hq]
    refine go_eq fs n _ _ ?_ (fun h => by simp at h)
    have hl := List.length_eraseIdx_of_lt hk
    rw [he, next_eq fs o q hL hq] at hl
    omega

theorem ord_eq (fs : List (Nat → Int)) : ordS fs = ordR fs := by
  unfold ordS ordR
  have h1 : leftOf fs.length [] = List.range fs.length := by unfold leftOf; simp
  have h := go_eq fs fs.length [] 0 (by rw [h1, List.length_range]) (fun _ => rfl)
  rw [h1] at h
  exact h

/-- What holds of an order's beginning. -/
def Good (fs : List (Nat → Int)) (o : List Nat) : Prop := ∀ i (h : i < o.length), o[i] < fs.length ∧ (i = 0 → o[i] = 0) ∧ o[i] ∉ o.take i ∧ (0 < i → ∀ j, j < fs.length → j ∉ o.take i → far (fat fs (o.getD (i - 1) 0)) (fat fs o[i]) ≤ far (fat fs (o.getD (i - 1) 0)) (fat fs j))

theorem good_next (fs : List (Nat → Int)) (o : List Nat) (q : Nat) (hg : Good fs o) (hl : o.length < fs.length) (hq : o = [] → q = 0) (hq' : o ≠ [] → q = o.getD (o.length - 1) 0) (hql : q < fs.length) : Good fs (o ++ [nextR fs o q]) := by
  intro i hi
  rw [List.length_append, List.length_singleton] at hi
  rcases Nat.lt_or_ge i o.length with h | h
  · obtain ⟨g1, g2, g3, g4⟩ := hg i h
    rw [List.getElem_append_left h, List.take_append_of_le_length (by omega)]
    refine ⟨g1, g2, g3, fun hp => ?_⟩
    have e : (o ++ [nextR fs o q]).getD (i - 1) 0 = o.getD (i - 1) 0 := by
      simp only [List.getD_eq_getElem?_getD]; rw [List.getElem?_append_left (by omega)]
    rw [e]; exact g4 hp
  · obtain rfl : i = o.length := by omega
    have e0 : (o ++ [nextR fs o q])[o.length] = nextR fs o q := by simp
    rw [e0, List.take_append_of_le_length (Nat.le_refl _), List.take_length]
    refine ⟨nextR_lt fs o q hl hql, fun h0 => ?_, ?_, fun hp j hj hjo => ?_⟩
    · have ho : o = [] := List.eq_nil_of_length_eq_zero h0
      unfold nextR; rw [if_pos ho, hq ho]
    · unfold nextR
      by_cases ho : o = []
      · rw [if_pos ho, ho]; simp
      · rw [if_neg ho]
        have hn := near_free (dst (fat fs q) fs) fs.length o hl
        have hb := nearB_bd (dst (fat fs q) fs) (free (bsOf fs.length o)) fs.length
        have hm := (nearB_min _ _ _ hn).1
        rw [free_bs _ _ _ (by omega)] at hm
        simpa using hm
    · have ho : o ≠ [] := by intro e; rw [e] at hp; simp at hp
      have e : (o ++ [nextR fs o q]).getD (o.length - 1) 0 = q := by
        rw [hq' ho]; simp only [List.getD_eq_getElem?_getD]; rw [List.getElem?_append_left (by omega)]
      rw [e]
      unfold nextR
      rw [if_neg ho]
      have hn := near_free (dst (fat fs q) fs) fs.length o hl
      have hm := (nearB_min _ _ _ hn).2 j hj (by rw [free_bs _ _ _ hj]; simpa using hjo)
      exact hm

theorem good_go (fs : List (Nat → Int)) : ∀ (n : Nat) (o : List Nat) (q : Nat), n + o.length = fs.length → Good fs o → (o = [] → q = 0) → (o ≠ [] → q = o.getD (o.length - 1) 0) → (0 < fs.length → q < fs.length) → Good fs (rGo fs n o q) ∧ (rGo fs n o q).length = fs.length
  | 0, o, q, hn, hg, _, _, _ => ⟨hg, by unfold rGo; omega⟩
  | n + 1, o, q, hn, hg, hq, hq', hql => by
    unfold rGo
    have hl : o.length < fs.length := by omega
    refine good_go fs n _ _ (by simp; omega) (good_next fs o q hg hl hq hq' (hql (by omega))) (fun h => by simp at h) (fun _ => by simp) (fun _ => nextR_lt fs o q hl (hql (by omega)))

theorem good_ord (fs : List (Nat → Int)) : Good fs (ordS fs) ∧ (ordS fs).length = fs.length := by
  rw [ord_eq]
  exact good_go fs fs.length [] 0 (by simp) (fun i h => by simp at h) (fun _ => rfl) (fun h => absurd rfl h) (fun h => h)
end Go.Proofs.Ytjgmfhfncphbnaa

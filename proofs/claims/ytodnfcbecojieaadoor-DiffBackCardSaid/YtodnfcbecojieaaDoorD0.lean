/- Plain Lean: names of a path, the order of paths, files that are apart. -/
import Derived.Lib.SplitLaws
import Derived.Sort.Statements
import Derived.Laws.Strings
namespace Go.Proofs.YtodnfcbecojieaaDoor
open Go Go.Sort

/-! Bytes. -/
theorem bl_irr : ∀ x : List UInt8, Op.bytesLess x x = false
  | [] => rfl
  | a :: x => by simp [Op.bytesLess, bl_irr x]
theorem bl_trans : ∀ x y z : List UInt8, Op.bytesLess x y = true → Op.bytesLess y z = true → Op.bytesLess x z = true
  | _, [], _, h, _ => by cases ‹List UInt8› <;> simp [Op.bytesLess] at h
  | _, _ :: _, [], _, h => by simp [Op.bytesLess] at h
  | [], _ :: _, _ :: _, _, _ => by simp [Op.bytesLess]
  | a :: x, b :: y, c :: z, h1, h2 => by
    simp only [Op.bytesLess, Bool.or_eq_true, decide_eq_true_eq, Bool.and_eq_true, beq_iff_eq] at h1 h2 ⊢
    rcases h1 with h1 | ⟨rfl, h1⟩
    · rcases h2 with h2 | ⟨rfl, h2⟩
      · exact .inl (UInt8.lt_trans h1 h2)
      · exact .inl h1
    · rcases h2 with h2 | ⟨rfl, h2⟩
      · exact .inl h2
      · exact .inr ⟨rfl, bl_trans _ _ _ h1 h2⟩
theorem bl_tot : ∀ x y : List UInt8, Op.bytesLess x y = false → Op.bytesLess y x = false → x = y
  | [], [], _, _ => rfl
  | [], _ :: _, h, _ => by simp [Op.bytesLess] at h
  | _ :: _, [], _, h => by simp [Op.bytesLess] at h
  | a :: x, b :: y, h1, h2 => by
    simp only [Op.bytesLess, Bool.or_eq_false_iff, decide_eq_false_iff_not, Bool.and_eq_false_iff, beq_eq_false_iff_ne] at h1 h2
    have hab : a = b := UInt8.le_antisymm (UInt8.not_lt.1 h2.1) (UInt8.not_lt.1 h1.1)
    subst hab
    rcases h1.2 with h | h
    · exact absurd rfl h
    · rcases h2.2 with h' | h'
      · exact absurd rfl h'
      · rw [bl_tot x y h h']

/-- 'cmp.Compare' of texts. -/
def cmpB (x y : List UInt8) : Int := if Op.bytesLess x y = true then -1 else if x = y then 0 else 1
theorem cmpB_self (x : List UInt8) : cmpB x x = 0 := by unfold cmpB; rw [bl_irr]; simp
theorem cmpB_zero (x y : List UInt8) : cmpB x y = 0 ↔ x = y := by
  unfold cmpB
  constructor
  · intro h; split at h
    · simp at h
    · split at h
      · assumption
      · simp at h
  · rintro rfl; rw [bl_irr]; simp
theorem cmpB_neg (x y : List UInt8) : cmpB x y < 0 ↔ Op.bytesLess x y = true := by
  unfold cmpB
  split
  · simp_all
  · split <;> simp_all

/-- 'slices.Compare' of lists of texts. -/
def cmpP : List (List UInt8) → List (List UInt8) → Int
  | [], [] => 0
  | [], _ :: _ => -1
  | _ :: _, [] => 1
  | x :: a, y :: b => if cmpB x y ≠ 0 then cmpB x y else cmpP a b
theorem cmpP_self : ∀ a, cmpP a a = 0
  | [] => rfl
  | x :: a => by unfold cmpP; rw [cmpB_self]; simp [cmpP_self a]
theorem cmpP_zero : ∀ a b, cmpP a b = 0 → a = b
  | [], [], _ => rfl
  | [], _ :: _, h => by simp [cmpP] at h
  | _ :: _, [], h => by simp [cmpP] at h
  | x :: a, y :: b, h => by
    unfold cmpP at h
    split at h
    · rename_i h1; exact absurd h h1
    · rename_i h1
      have e := (cmpB_zero x y).1 (Decidable.not_not.1 h1)
      rw [e, cmpP_zero a b h]
theorem cmpP_neg_trans : ∀ a b c, cmpP a b < 0 → cmpP b c < 0 → cmpP a c < 0
  | _, [], [], _, h => by simp [cmpP] at h
  | [], [], _ :: _, h, _ => by simp [cmpP] at h
  | _ :: _, [], _ :: _, h, _ => by simp [cmpP] at h
  | _, _ :: _, [], _, h => by simp [cmpP] at h
  | [], _ :: _, _ :: _, _, _ => by simp [cmpP]
  | x :: a, y :: b, z :: c, h1, h2 => by
    unfold cmpP at h1 h2 ⊢
    by_cases e1 : cmpB x y = 0
    · rw [if_neg (by simp [e1])] at h1
      have := (cmpB_zero x y).1 e1
      subst this
      by_cases e2 : cmpB x z = 0
      · rw [if_neg (by simp [e2])] at h2 ⊢
        exact cmpP_neg_trans _ _ _ h1 h2
      · rw [if_pos e2] at h2 ⊢; exact h2
    · rw [if_pos e1] at h1
      by_cases e2 : cmpB y z = 0
      · have := (cmpB_zero y z).1 e2
        subst this
        rw [if_pos e1]; exact h1
      · rw [if_pos e2] at h2
        have h := (cmpB_neg x z).2 (bl_trans _ _ _ ((cmpB_neg _ _).1 h1) ((cmpB_neg _ _).1 h2))
        rw [if_pos (by omega)]; exact h
theorem cmpB_flip (x y : List UInt8) (h1 : ¬ cmpB x y < 0) (h2 : cmpB x y ≠ 0) : cmpB y x < 0 := by
  rw [cmpB_neg]
  rw [cmpB_neg] at h1
  have h3 : x ≠ y := fun e => h2 ((cmpB_zero x y).2 e)
  cases h : Op.bytesLess y x
  · exact absurd (bl_tot x y (by simpa using h1) h) h3
  · rfl
theorem cmpP_flip : ∀ a b, ¬ cmpP a b < 0 → cmpP a b ≠ 0 → cmpP b a < 0
  | [], [], _, h => by simp [cmpP] at h
  | [], _ :: _, h, _ => by simp [cmpP] at h
  | _ :: _, [], _, _ => by simp [cmpP]
  | x :: a, y :: b, h1, h2 => by
    unfold cmpP at h1 h2 ⊢
    by_cases e1 : cmpB x y = 0
    · rw [if_neg (by simp [e1])] at h1 h2
      have := (cmpB_zero x y).1 e1
      subst this
      rw [if_neg (by simp [cmpB_self])]
      exact cmpP_flip a b h1 h2
    · rw [if_pos e1] at h1 h2
      have h := cmpB_flip x y h1 e1
      rw [if_pos (by omega)]; exact h

/-! A path's names. -/
def spl : List UInt8 → List (List UInt8)
  | [] => [[]]
  | b :: l => if b = 47 then [] :: spl l else match spl l with
    | [] => [[b]]
    | h :: t => (b :: h) :: t
theorem spl_cons (b : UInt8) (l : List UInt8) : spl (b :: l) = if b = 47 then [] :: spl l else match spl l with
    | [] => [[b]]
    | h :: t => (b :: h) :: t := rfl
theorem spl_ne : ∀ l, spl l ≠ []
  | [] => by simp [spl]
  | b :: l => by unfold spl; split; · simp
                 · split <;> simp
/-- What comes of a name that is under way and of the names that follow. -/
def glue (c : List UInt8) : List (List UInt8) → List (List UInt8)
  | [] => [c]
  | h :: t => (c ++ h) :: t
theorem glue_nil (l : List UInt8) : glue [] (spl l) = spl l := by
  cases h : spl l with
  | nil => exact absurd h (spl_ne l)
  | cons => simp [glue]
theorem glue_sep (c l : List UInt8) : glue c (spl (47 :: l)) = c :: spl l := by simp [spl, glue]
theorem glue_byte (c : List UInt8) (b : UInt8) (l : List UInt8) (hb : b ≠ 47) : glue c (spl (b :: l)) = glue (c ++ [b]) (spl l) := by
  rw [spl_cons, if_neg hb]
  cases h : spl l with
  | nil => exact absurd h (spl_ne l)
  | cons => simp [glue]
theorem glue_end (c : List UInt8) : glue c (spl []) = [c] := by simp [spl, glue]
/-- Names, put together again. -/
def joinP : List (List UInt8) → List UInt8
  | [] => []
  | [x] => x
  | x :: y :: t => x ++ 47 :: joinP (y :: t)
theorem join_spl : ∀ l, joinP (spl l) = l
  | [] => rfl
  | b :: l => by
    have ih := join_spl l
    unfold spl
    split
    · rename_i h; subst h
      cases h : spl l with
      | nil => exact absurd h (spl_ne l)
      | cons x t => rw [h] at ih; simp [joinP, ih]
    · split
      · rename_i h; exact absurd h (spl_ne l)
      · rename_i x t h; rw [h] at ih
        cases t with
        | nil => simp [joinP] at ih ⊢; exact ih
        | cons y t => simp [joinP] at ih ⊢; exact ih
theorem spl_inj {l m : List UInt8} (h : spl l = spl m) : l = m := by rw [← join_spl l, ← join_spl m, h]
theorem spl_len : ∀ l, (spl l).length ≤ l.length + 1
  | [] => by simp [spl]
  | b :: l => by
    have ih := spl_len l
    unfold spl
    split
    · simp; omega
    · split
      · simp
      · rename_i h; rw [h] at ih; simp at ih ⊢; omega

/-- The order of paths. -/
def ordP (p q : ByteArray) : Int := cmpP (spl p.data.toList) (spl q.data.toList)
theorem ba_ext {p q : ByteArray} (h : p.data.toList = q.data.toList) : p = q := by
  cases p; cases q; simp at h; rw [h]
theorem ordP_self (p : ByteArray) : ordP p p = 0 := cmpP_self _
theorem ordP_tot (p q : ByteArray) (h1 : ¬ ordP p q < 0) (h2 : ¬ ordP q p < 0) : p = q := by
  by_cases h : ordP p q = 0
  · exact ba_ext (spl_inj (cmpP_zero _ _ h))
  · exact absurd (cmpP_flip _ _ h1 h) h2
theorem ordP_trans (p q r : ByteArray) (h1 : ordP p q < 0) (h2 : ordP q r < 0) : ordP p r < 0 := cmpP_neg_trans _ _ _ h1 h2
theorem ordP_irr (p : ByteArray) : ¬ ordP p p < 0 := by rw [ordP_self]; omega
theorem ordP_asym (p q : ByteArray) (h : ordP p q < 0) : ¬ ordP q p < 0 := fun h' => ordP_irr p (ordP_trans _ _ _ h h')
theorem ordP_ntrans (p q r : ByteArray) (h1 : ¬ ordP p q < 0) (h2 : ¬ ordP q r < 0) : ¬ ordP p r < 0 := fun h => by
  by_cases e : ordP q p < 0
  · exact h2 (ordP_trans _ _ _ e h)
  · have := ordP_tot p q h1 e; subst this; exact h2 h

/-! Files. -/
abbrev Lf := ByteArray × ByteArray
/-- The first file of a path. -/
def findS (l : List Lf) (p : ByteArray) : Option ByteArray := (l.find? fun f => decide (f.1 = p)).map (·.2)
/-- A path in its place, once. -/
def insS (p : ByteArray) : List ByteArray → List ByteArray
  | [] => [p]
  | x :: l => if ordP x p < 0 then x :: insS p l else if x = p then x :: l else p :: x :: l
def pathsS (l : List ByteArray) (a : List Lf) : List ByteArray := a.foldl (fun l f => insS f.1 l) l
def kindS (a b : List Lf) (p : ByteArray) : Nat := match findS a p, findS b p with
  | none, _ => 1
  | some _, none => 2
  | some s, some t => if s = t then 0 else 3
def filesS (a b : List Lf) : List (ByteArray × Nat) := (pathsS (pathsS [] a) b).filterMap fun p => if kindS a b p = 0 then none else some (p, kindS a b p)

def Asc (l : List ByteArray) : Prop := l.Pairwise fun p q => ordP p q < 0
theorem insS_mem (p x : ByteArray) : ∀ l, x ∈ insS p l ↔ x = p ∨ x ∈ l
  | [] => by simp [insS]
  | y :: l => by
    unfold insS
    split
    · rw [List.mem_cons, insS_mem p x l, List.mem_cons]; constructor <;> (rintro (h | h | h) <;> simp [h])
    · split
      · rename_i h; subst h; simp
      · simp
theorem insS_asc (p : ByteArray) : ∀ l, Asc l → Asc (insS p l)
  | [], _ => by simp [insS, Asc]
  | y :: l, h => by
    obtain ⟨h1, h2⟩ := List.pairwise_cons.1 h
    unfold insS
    split
    · rename_i hy
      refine List.pairwise_cons.2 ⟨fun x hx => ?_, insS_asc p l h2⟩
      rcases (insS_mem p x l).1 hx with rfl | hx
      · exact hy
      · exact h1 x hx
    · split
      · exact h
      · rename_i hy hn
        have hp : ordP p y < 0 := by
          by_cases e : ordP p y < 0
          · exact e
          · exact absurd (ordP_tot y p hy e) hn
        refine List.pairwise_cons.2 ⟨fun x hx => ?_, h⟩
        rcases List.mem_cons.1 hx with rfl | hx
        · exact hp
        · exact ordP_trans _ _ _ hp (h1 x hx)
theorem pathsS_asc (a : List Lf) : ∀ l, Asc l → Asc (pathsS l a) := by
  unfold pathsS
  induction a with
  | nil => intro l h; exact h
  | cons f a ih => intro l h; exact ih _ (insS_asc _ _ h)
theorem pathsS_mem (x : ByteArray) (a : List Lf) : ∀ l, x ∈ pathsS l a ↔ x ∈ l ∨ ∃ f ∈ a, f.1 = x := by
  unfold pathsS
  induction a with
  | nil => intro l; simp
  | cons f a ih =>
    intro l
    rw [List.foldl_cons, ih, insS_mem]
    constructor
    · rintro ((rfl | h) | ⟨g, hg, h⟩)
      · exact .inr ⟨f, by simp, rfl⟩
      · exact .inl h
      · exact .inr ⟨g, by simp [hg], h⟩
    · rintro (h | ⟨g, hg, h⟩)
      · exact .inl (.inr h)
      · rcases List.mem_cons.1 hg with rfl | hg
        · exact .inl (.inl h.symm)
        · exact .inr ⟨g, hg, h⟩
/-- Two lists that rise and have the same texts are one. -/
theorem asc_ext : ∀ l m, Asc l → Asc m → (∀ x, x ∈ l ↔ x ∈ m) → l = m
  | [], [], _, _, _ => rfl
  | [], y :: m, _, _, h => absurd ((h y).2 (by simp)) (by simp)
  | x :: l, [], _, _, h => absurd ((h x).1 (by simp)) (by simp)
  | x :: l, y :: m, hl, hm, h => by
    obtain ⟨l1, l2⟩ := List.pairwise_cons.1 hl
    obtain ⟨m1, m2⟩ := List.pairwise_cons.1 hm
    have e : x = y := by
      rcases List.mem_cons.1 ((h x).1 (by simp)) with e | hx
      · exact e
      · rcases List.mem_cons.1 ((h y).2 (by simp)) with e | hy
        · exact e.symm
        · exact absurd (ordP_trans _ _ _ (l1 y hy) (m1 x hx)) (ordP_irr x)
    subst e
    rw [asc_ext l m l2 m2 fun z => ?_]
    constructor
    · intro hz
      rcases List.mem_cons.1 ((h z).1 (by simp [hz])) with rfl | hz'
      · exact absurd (l1 z hz) (ordP_irr z)
      · exact hz'
    · intro hz
      rcases List.mem_cons.1 ((h z).2 (by simp [hz])) with rfl | hz'
      · exact absurd (m1 z hz) (ordP_irr z)
      · exact hz'
theorem findS_some (l : List Lf) (p : ByteArray) : (findS l p).isSome = true ↔ ∃ f ∈ l, f.1 = p := by
  unfold findS
  rw [Option.isSome_map, List.find?_isSome]
  constructor
  · rintro ⟨f, h1, h2⟩; exact ⟨f, h1, by simpa using h2⟩
  · rintro ⟨f, h1, h2⟩; exact ⟨f, h1, by simpa using h2⟩

/-! The library's cutting at each '/'. -/
theorem index_byte (b : UInt8) (l : List UInt8) : Lib.index (b :: l) [47] = if b = 47 then 0 else if Lib.index l [47] = -1 then -1 else Lib.index l [47] + 1 := by
  by_cases h : b = 47
  · subst h; simp [Lib.index]
  · rw [if_neg h]
    have h' : ¬ (47 : UInt8) = b := fun e => h e.symm
    simp [Lib.index, h']
theorem spl_index : ∀ (l : List UInt8) , (Lib.index l [47] = -1 → spl l = [l]) ∧ (∀ i : Nat, Lib.index l [47] = i → spl l = l.take i :: spl (l.drop (i + 1)))
  | [] => by
    have h : Lib.index [] [47] = -1 := by decide
    exact ⟨fun _ => rfl, fun i hi => by rw [h] at hi; omega⟩
  | b :: l => by
    obtain ⟨ih1, ih2⟩ := spl_index l
    have hb := index_byte b l
    by_cases h : b = 47
    · subst h
      rw [if_pos rfl] at hb
      refine ⟨fun h => by omega, fun i hi => ?_⟩
      obtain rfl : i = 0 := by omega
      simp [spl]
    · rw [if_neg h] at hb
      refine ⟨fun hi => ?_, fun i hi => ?_⟩
      · rw [hb] at hi
        have hge := Lib.index_ge l [47]
        split at hi
        · rename_i h1; rw [spl_cons, if_neg h, ih1 h1]
        · omega
      · rw [hb] at hi
        have hge := Lib.index_ge l [47]
        split at hi
        · omega
        · obtain ⟨j, hj⟩ : ∃ j : Nat, Lib.index l [47] = j := ⟨(Lib.index l [47]).toNat, by omega⟩
          obtain rfl : i = j + 1 := by omega
          have := ih2 j hj
          rw [spl_cons, if_neg h, this]
          rfl
theorem splitK_spl : ∀ (k : Nat) (l : List UInt8), Lib.count l [47] = k → Lib.splitK [47] 0 k l = spl l
  | 0, l, h => by
    have hi : Lib.index l [47] = -1 := by
      by_cases e : Lib.index l [47] = -1
      · exact e
      · have hge := Lib.index_ge l [47]
        obtain ⟨i, hi⟩ : ∃ i : Nat, Lib.index l [47] = i := ⟨(Lib.index l [47]).toNat, by omega⟩
        have := Lib.count_hit (by simp) hi
        omega
    rw [(spl_index l).1 hi]; rfl
  | k + 1, l, h => by
    by_cases e : Lib.index l [47] = -1
    · have := Lib.count_miss e; omega
    · have hge := Lib.index_ge l [47]
      obtain ⟨i, hi⟩ : ∃ i : Nat, Lib.index l [47] = i := ⟨(Lib.index l [47]).toNat, by omega⟩
      have hc := Lib.count_hit (by simp) hi
      have ih := splitK_spl k (l.drop (i + 1)) (by simpa using (by omega : Lib.count (l.drop (i + [(47 : UInt8)].length)) [47] = k))
      rw [(spl_index l).2 i hi, ← ih]
      rw [Lib.splitK, if_neg (by simpa using e), hi]
      rfl
def slash : ByteArray := ⟨#[47]⟩
theorem splitB_spl (s : ByteArray) : (Lib.splitB slash 0 (Lib.countB s slash) s).map (·.data.toList) = spl s.data.toList := by
  rw [Lib.splitB_data]
  exact splitK_spl _ _ rfl
end Go.Proofs.YtodnfcbecojieaaDoor

/- D0; D1; D2, in one text. -/
import Derived.Lib.SplitLaws
import Derived.Sort.Statements
import Derived.Laws.Strings
import Derived.Test.YtbmiiiccnoiffaaGreatDoorChecked
import Derived.Test.YtbmiiiccnoiffaaGreatDoorGen
import Derived.Laws.Strings2
import Derived.Laws.Strings3
import Derived.Laws.Concat
import Derived.Laws.Cover1
/- Plain Lean: names of a path, the order of paths, files that are apart. -/
namespace Go.Proofs.YtbmiiiccnoiffaaGreatDoor
open Go Go.Sort

/-! Bytes. -/
theorem bl_irr : ∀ x : List UInt8, Op.bytesLess x x = false
  | [] => rfl
  | a :: x => by simp [Op.bytesLess, bl_irr x]
theorem bl_trans : ∀ x y z : List UInt8, Op.bytesLess x y = true → Op.bytesLess y z = true → Op.bytesLess x z = true
  | _, [], _, h, _ => by cases ‹List UInt8› <;> simp [Op.bytesLess] at h
  | _, _ :: _, [], _, h => by simp [Op.bytesLess] at h
  | [], _ :: _, _ :: _, _, _ => by simp [Op.bytesLess]
  | a :: x, b :: y, c :: z, h1, h2 => by
    simp only [Op.bytesLess, Bool.or_eq_true, decide_eq_true_eq, Bool.and_eq_true, beq_iff_eq] at h1 h2 ⊢
    rcases h1 with h1 | ⟨rfl, h1⟩
    · rcases h2 with h2 | ⟨rfl, h2⟩
      · exact .inl (UInt8.lt_trans h1 h2)
      · exact .inl h1
    · rcases h2 with h2 | ⟨rfl, h2⟩
      · exact .inl h2
      · exact .inr ⟨rfl, bl_trans _ _ _ h1 h2⟩
theorem bl_tot : ∀ x y : List UInt8, Op.bytesLess x y = false → Op.bytesLess y x = false → x = y
  | [], [], _, _ => rfl
  | [], _ :: _, h, _ => by simp [Op.bytesLess] at h
  | _ :: _, [], _, h => by simp [Op.bytesLess] at h
  | a :: x, b :: y, h1, h2 => by
    simp only [Op.bytesLess, Bool.or_eq_false_iff, decide_eq_false_iff_not, Bool.and_eq_false_iff, beq_eq_false_iff_ne] at h1 h2
    have hab : a = b := UInt8.le_antisymm (UInt8.not_lt.1 h2.1) (UInt8.not_lt.1 h1.1)
    subst hab
    rcases h1.2 with h | h
    · exact absurd rfl h
    · rcases h2.2 with h' | h'
      · exact absurd rfl h'
      · rw [bl_tot x y h h']

/-- 'cmp.Compare' of texts. -/
def cmpB (x y : List UInt8) : Int := if Op.bytesLess x y = true then -1 else if x = y then 0 else 1
theorem cmpB_self (x : List UInt8) : cmpB x x = 0 := by unfold cmpB; rw [bl_irr]; simp
theorem cmpB_zero (x y : List UInt8) : cmpB x y = 0 ↔ x = y := by
  unfold cmpB
  constructor
  · intro h; split at h
    · simp at h
    · split at h
      · assumption
      · simp at h
  · rintro rfl; rw [bl_irr]; simp
theorem cmpB_neg (x y : List UInt8) : cmpB x y < 0 ↔ Op.bytesLess x y = true := by
  unfold cmpB
  split
  · simp_all
  · split <;> simp_all

/-- 'slices.Compare' of lists of texts. -/
def cmpP : List (List UInt8) → List (List UInt8) → Int
  | [], [] => 0
  | [], _ :: _ => -1
  | _ :: _, [] => 1
  | x :: a, y :: b => if cmpB x y ≠ 0 then cmpB x y else cmpP a b
theorem cmpP_self : ∀ a, cmpP a a = 0
  | [] => rfl
  | x :: a => by unfold cmpP; rw [cmpB_self]; simp [cmpP_self a]
theorem cmpP_zero : ∀ a b, cmpP a b = 0 → a = b
  | [], [], _ => rfl
  | [], _ :: _, h => by simp [cmpP] at h
  | _ :: _, [], h => by simp [cmpP] at h
  | x :: a, y :: b, h => by
    unfold cmpP at h
    split at h
    · rename_i h1; exact absurd h h1
    · rename_i h1
      have e := (cmpB_zero x y).1 (Decidable.not_not.1 h1)
      rw [e, cmpP_zero a b h]
theorem cmpP_neg_trans : ∀ a b c, cmpP a b < 0 → cmpP b c < 0 → cmpP a c < 0
  | _, [], [], _, h => by simp [cmpP] at h
  | [], [], _ :: _, h, _ => by simp [cmpP] at h
  | _ :: _, [], _ :: _, h, _ => by simp [cmpP] at h
  | _, _ :: _, [], _, h => by simp [cmpP] at h
  | [], _ :: _, _ :: _, _, _ => by simp [cmpP]
  | x :: a, y :: b, z :: c, h1, h2 => by
    unfold cmpP at h1 h2 ⊢
    by_cases e1 : cmpB x y = 0
    · rw [if_neg (by simp [e1])] at h1
      have := (cmpB_zero x y).1 e1
      subst this
      by_cases e2 : cmpB x z = 0
      · rw [if_neg (by simp [e2])] at h2 ⊢
        exact cmpP_neg_trans _ _ _ h1 h2
      · rw [if_pos e2] at h2 ⊢; exact h2
    · rw [if_pos e1] at h1
      by_cases e2 : cmpB y z = 0
      · have := (cmpB_zero y z).1 e2
        subst this
        rw [if_pos e1]; exact h1
      · rw [if_pos e2] at h2
        have h := (cmpB_neg x z).2 (bl_trans _ _ _ ((cmpB_neg _ _).1 h1) ((cmpB_neg _ _).1 h2))
        rw [if_pos (by omega)]; exact h
theorem cmpB_flip (x y : List UInt8) (h1 : ¬ cmpB x y < 0) (h2 : cmpB x y ≠ 0) : cmpB y x < 0 := by
  rw [cmpB_neg]
  rw [cmpB_neg] at h1
  have h3 : x ≠ y := fun e => h2 ((cmpB_zero x y).2 e)
  cases h : Op.bytesLess y x
  · exact absurd (bl_tot x y (by simpa using h1) h) h3
  · rfl
theorem cmpP_flip : ∀ a b, ¬ cmpP a b < 0 → cmpP a b ≠ 0 → cmpP b a < 0
  | [], [], _, h => by simp [cmpP] at h
  | [], _ :: _, h, _ => by simp [cmpP] at h
  | _ :: _, [], _, _ => by simp [cmpP]
  | x :: a, y :: b, h1, h2 => by
    unfold cmpP at h1 h2 ⊢
    by_cases e1 : cmpB x y = 0
    · rw [if_neg (by simp [e1])] at h1 h2
      have := (cmpB_zero x y).1 e1
      subst this
      rw [if_neg (by simp [cmpB_self])]
      exact cmpP_flip a b h1 h2
    · rw [if_pos e1] at h1 h2
      have h := cmpB_flip x y h1 e1
      rw [if_pos (by omega)]; exact h

/-! A path's names. -/
def spl : List UInt8 → List (List UInt8)
  | [] => [[]]
  | b :: l => if b = 47 then [] :: spl l else match spl l with
    | [] => [[b]]
    | h :: t => (b :: h) :: t
theorem spl_cons (b : UInt8) (l : List UInt8) : spl (b :: l) = if b = 47 then [] :: spl l else match spl l with
    | [] => [[b]]
    | h :: t => (b :: h) :: t := rfl
theorem spl_ne : ∀ l, spl l ≠ []
  | [] => by simp [spl]
  | b :: l => by unfold spl; split; · simp
                 · split <;> simp
/-- What comes of a name that is under way and of the names that follow. -/
def glue (c : List UInt8) : List (List UInt8) → List (List UInt8)
  | [] => [c]
  | h :: t => (c ++ h) :: t
theorem glue_nil (l : List UInt8) : glue [] (spl l) = spl l := by
  cases h : spl l with
  | nil => exact absurd h (spl_ne l)
  | cons => simp [glue]
theorem glue_sep (c l : List UInt8) : glue c (spl (47 :: l)) = c :: spl l := by simp [spl, glue]
theorem glue_byte (c : List UInt8) (b : UInt8) (l : List UInt8) (hb : b ≠ 47) : glue c (spl (b :: l)) = glue (c ++ [b]) (spl l) := by
  rw [spl_cons, if_neg hb]
  cases h : spl l with
  | nil => exact absurd h (spl_ne l)
  | cons => simp [glue]
theorem glue_end (c : List UInt8) : glue c (spl []) = [c] := by simp [spl, glue]
/-- Names, put together again. -/
def joinP : List (List UInt8) → List UInt8
  | [] => []
  | [x] => x
  | x :: y :: t => x ++ 47 :: joinP (y :: t)
theorem join_spl : ∀ l, joinP (spl l) = l
  | [] => rfl
  | b :: l => by
    have ih := join_spl l
    unfold spl
    split
    · rename_i h; subst h
      cases h : spl l with
      | nil => exact absurd h (spl_ne l)
      | cons x t => rw [h] at ih; simp [joinP, ih]
    · split
      · rename_i h; exact absurd h (spl_ne l)
      · rename_i x t h; rw [h] at ih
        cases t with
        | nil => simp [joinP] at ih ⊢; exact ih
        | cons y t => simp [joinP] at ih ⊢; exact ih
theorem spl_inj {l m : List UInt8} (h : spl l = spl m) : l = m := by rw [← join_spl l, ← join_spl m, h]
theorem spl_len : ∀ l, (spl l).length ≤ l.length + 1
  | [] => by simp [spl]
  | b :: l => by
    have ih := spl_len l
    unfold spl
    split
    · simp; omega
    · split
      · simp
      · rename_i h; rw [h] at ih; simp at ih ⊢; omega

/-- The order of paths. -/
def ordP (p q : ByteArray) : Int := cmpP (spl p.data.toList) (spl q.data.toList)
theorem ba_ext {p q : ByteArray} (h : p.data.toList = q.data.toList) : p = q := by
  cases p; cases q; simp at h; rw [h]
theorem ordP_self (p : ByteArray) : ordP p p = 0 := cmpP_self _
theorem ordP_tot (p q : ByteArray) (h1 : ¬ ordP p q < 0) (h2 : ¬ ordP q p < 0) : p = q := by
  by_cases h : ordP p q = 0
  · exact ba_ext (spl_inj (cmpP_zero _ _ h))
  · exact absurd (cmpP_flip _ _ h1 h) h2
theorem ordP_trans (p q r : ByteArray) (h1 : ordP p q < 0) (h2 : ordP q r < 0) : ordP p r < 0 := cmpP_neg_trans _ _ _ h1 h2
theorem ordP_irr (p : ByteArray) : ¬ ordP p p < 0 := by rw [ordP_self]; omega
theorem ordP_asym (p q : ByteArray) (h : ordP p q < 0) : ¬ ordP q p < 0 := fun h' => ordP_irr p (ordP_trans _ _ _ h h')
theorem ordP_ntrans (p q r : ByteArray) (h1 : ¬ ordP p q < 0) (h2 : ¬ ordP q r < 0) : ¬ ordP p r < 0 := fun h => by
  by_cases e : ordP q p < 0
  · exact h2 (ordP_trans _ _ _ e h)
  · have := ordP_tot p q h1 e; subst this; exact h2 h

/-! Files. -/
abbrev Lf := ByteArray × ByteArray
/-- The first file of a path. -/
def findS (l : List Lf) (p : ByteArray) : Option ByteArray := (l.find? fun f => decide (f.1 = p)).map (·.2)
/-- A path in its place, once. -/
def insS (p : ByteArray) : List ByteArray → List ByteArray
  | [] => [p]
  | x :: l => if ordP x p < 0 then x :: insS p l else if x = p then x :: l else p :: x :: l
def pathsS (l : List ByteArray) (a : List Lf) : List ByteArray := a.foldl (fun l f => insS f.1 l) l
def kindS (a b : List Lf) (p : ByteArray) : Nat := match findS a p, findS b p with
  | none, _ => 1
  | some _, none => 2
  | some s, some t => if s = t then 0 else 3
def filesS (a b : List Lf) : List (ByteArray × Nat) := (pathsS (pathsS [] a) b).filterMap fun p => if kindS a b p = 0 then none else some (p, kindS a b p)

def Asc (l : List ByteArray) : Prop := l.Pairwise fun p q => ordP p q < 0
theorem insS_mem (p x : ByteArray) : ∀ l, x ∈ insS p l ↔ x = p ∨ x ∈ l
  | [] => by simp [insS]
  | y :: l => by
    unfold insS
    split
    · rw [List.mem_cons, insS_mem p x l, List.mem_cons]; constructor <;> (rintro (h | h | h) <;> simp [h])
    · split
      · rename_i h; subst h; simp
      · simp
theorem insS_asc (p : ByteArray) : ∀ l, Asc l → Asc (insS p l)
  | [], _ => by simp [insS, Asc]
  | y :: l, h => by
    obtain ⟨h1, h2⟩ := List.pairwise_cons.1 h
    unfold insS
    split
    · rename_i hy
      refine List.pairwise_cons.2 ⟨fun x hx => ?_, insS_asc p l h2⟩
      rcases (insS_mem p x l).1 hx with rfl | hx
      · exact hy
      · exact h1 x hx
    · split
      · exact h
      · rename_i hy hn
        have hp : ordP p y < 0 := by
          by_cases e : ordP p y < 0
          · exact e
          · exact absurd (ordP_tot y p hy e) hn
        refine List.pairwise_cons.2 ⟨fun x hx => ?_, h⟩
        rcases List.mem_cons.1 hx with rfl | hx
        · exact hp
        · exact ordP_trans _ _ _ hp (h1 x hx)
theorem pathsS_asc (a : List Lf) : ∀ l, Asc l → Asc (pathsS l a) := by
  unfold pathsS
  induction a with
  | nil => intro l h; exact h
  | cons f a ih => intro l h; exact ih _ (insS_asc _ _ h)
theorem pathsS_mem (x : ByteArray) (a : List Lf) : ∀ l, x ∈ pathsS l a ↔ x ∈ l ∨ ∃ f ∈ a, f.1 = x := by
  unfold pathsS
  induction a with
  | nil => intro l; simp
  | cons f a ih =>
    intro l
    rw [List.foldl_cons, ih, insS_mem]
    constructor
    · rintro ((rfl | h) | ⟨g, hg, h⟩)
      · exact .inr ⟨f, by simp, rfl⟩
      · exact .inl h
      · exact .inr ⟨g, by simp [hg], h⟩
    · rintro (h | ⟨g, hg, h⟩)
      · exact .inl (.inr h)
      · rcases List.mem_cons.1 hg with rfl | hg
        · exact .inl (.inl h.symm)
        · exact .inr ⟨g, hg, h⟩
/-- Two lists that rise and have the same texts are one. -/
theorem asc_ext : ∀ l m, Asc l → Asc m → (∀ x, x ∈ l ↔ x ∈ m) → l = m
  | [], [], _, _, _ => rfl
  | [], y :: m, _, _, h => absurd ((h y).2 (by simp)) (by simp)
  | x :: l, [], _, _, h => absurd ((h x).1 (by simp)) (by simp)
  | x :: l, y :: m, hl, hm, h => by
    obtain ⟨l1, l2⟩ := List.pairwise_cons.1 hl
    obtain ⟨m1, m2⟩ := List.pairwise_cons.1 hm
    have e : x = y := by
      rcases List.mem_cons.1 ((h x).1 (by simp)) with e | hx
      · exact e
      · rcases List.mem_cons.1 ((h y).2 (by simp)) with e | hy
        · exact e.symm
        · exact absurd (ordP_trans _ _ _ (l1 y hy) (m1 x hx)) (ordP_irr x)
    subst e
    rw [asc_ext l m l2 m2 fun z => ?_]
    constructor
    · intro hz
      rcases List.mem_cons.1 ((h z).1 (by simp [hz])) with rfl | hz'
      · exact absurd (l1 z hz) (ordP_irr z)
      · exact hz'
    · intro hz
      rcases List.mem_cons.1 ((h z).2 (by simp [hz])) with rfl | hz'
      · exact absurd (m1 z hz) (ordP_irr z)
      · exact hz'
theorem findS_some (l : List Lf) (p : ByteArray) : (findS l p).isSome = true ↔ ∃ f ∈ l, f.1 = p := by
  unfold findS
  rw [Option.isSome_map, List.find?_isSome]
  constructor
  · rintro ⟨f, h1, h2⟩; exact ⟨f, h1, by simpa using h2⟩
  · rintro ⟨f, h1, h2⟩; exact ⟨f, h1, by simpa using h2⟩

/-! The library's cutting at each '/'. -/
theorem index_byte (b : UInt8) (l : List UInt8) : Lib.index (b :: l) [47] = if b = 47 then 0 else if Lib.index l [47] = -1 then -1 else Lib.index l [47] + 1 := by
  by_cases h : b = 47
  · subst h; simp [Lib.index]
  · rw [if_neg h]
    have h' : ¬ (47 : UInt8) = b := fun e => h e.symm
    simp [Lib.index, h']
theorem spl_index : ∀ (l : List UInt8) , (Lib.index l [47] = -1 → spl l = [l]) ∧ (∀ i : Nat, Lib.index l [47] = i → spl l = l.take i :: spl (l.drop (i + 1)))
  | [] => by
    have h : Lib.index [] [47] = -1 := by decide
    exact ⟨fun _ => rfl, fun i hi => by rw [h] at hi; omega⟩
  | b :: l => by
    obtain ⟨ih1, ih2⟩ := spl_index l
    have hb := index_byte b l
    by_cases h : b = 47
    · subst h
      rw [if_pos rfl] at hb
      refine ⟨fun h => by omega, fun i hi => ?_⟩
      obtain rfl : i = 0 := by omega
      simp [spl]
    · rw [if_neg h] at hb
      refine ⟨fun hi => ?_, fun i hi => ?_⟩
      · rw [hb] at hi
        have hge := Lib.index_ge l [47]
        split at hi
        · rename_i h1; rw [spl_cons, if_neg h, ih1 h1]
        · omega
      · rw [hb] at hi
        have hge := Lib.index_ge l [47]
        split at hi
        · omega
        · obtain ⟨j, hj⟩ : ∃ j : Nat, Lib.index l [47] = j := ⟨(Lib.index l [47]).toNat, by omega⟩
          obtain rfl : i = j + 1 := by omega
          have := ih2 j hj
          rw [spl_cons, if_neg h, this]
          rfl
theorem splitK_spl : ∀ (k : Nat) (l : List UInt8), Lib.count l [47] = k → Lib.splitK [47] 0 k l = spl l
  | 0, l, h => by
    have hi : Lib.index l [47] = -1 := by
      by_cases e : Lib.index l [47] = -1
      · exact e
      · have hge := Lib.index_ge l [47]
        obtain ⟨i, hi⟩ : ∃ i : Nat, Lib.index l [47] = i := ⟨(Lib.index l [47]).toNat, by omega⟩
        have := Lib.count_hit (by simp) hi
        omega
    rw [(spl_index l).1 hi]; rfl
  | k + 1, l, h => by
    by_cases e : Lib.index l [47] = -1
    · have := Lib.count_miss e; omega
    · have hge := Lib.index_ge l [47]
      obtain ⟨i, hi⟩ : ∃ i : Nat, Lib.index l [47] = i := ⟨(Lib.index l [47]).toNat, by omega⟩
      have hc := Lib.count_hit (by simp) hi
      have ih := splitK_spl k (l.drop (i + 1)) (by simpa using (by omega : Lib.count (l.drop (i + [(47 : UInt8)].length)) [47] = k))
      rw [(spl_index l).2 i hi, ← ih]
      rw [Lib.splitK, if_neg (by simpa using e), hi]
      rfl
def slash : ByteArray := ⟨#[47]⟩
theorem splitB_spl (s : ByteArray) : (Lib.splitB slash 0 (Lib.countB s slash) s).map (·.data.toList) = spl s.data.toList := by
  rw [Lib.splitB_data]
  exact splitK_spl _ _ rfl
end Go.Proofs.YtbmiiiccnoiffaaGreatDoor

/- Walks: the first file of a path; whether files are great; a path's names; comparing. -/
namespace Go.Proofs.YtbmiiiccnoiffaaGreatDoor
open Go.RowKit

theorem StrRow.below {w w' : World} {v : Value} {ss : List ByteArray} (h : StrRow w v ss) (hb : Below w.heap.size w w') : StrRow w' v ss := by
  obtain ⟨ao, cap, rfl, hm, h⟩ := h
  refine ⟨ao, cap, rfl, hm, fun hne => ?_⟩
  obtain ⟨b, off, e, hl, hc⟩ := h hne
  exact ⟨b, off, e, Nat.lt_of_lt_of_le hl hb.size, fun i hi => by rw [hb.cell (p := ⟨b, off + i, none⟩) hl]; exact hc i hi⟩
theorem StrRow.of_own {w : World} {B : Nat} {e : TypeId} {v : Value} {o : List ByteArray} (h : w.ownsRow B e 1 v o.length (o.map Value.string)) : StrRow w v o := by
  rcases h.2 with ⟨h1, h2⟩ | ⟨g, cap, cur, hv, hg, hh, hn, hm, hc, ht⟩
  · obtain rfl := List.eq_nil_of_length_eq_zero h2
    exact ⟨none, 0, h1, by simp, fun h => absurd rfl h⟩
  · refine ⟨some ⟨g, 0, none⟩, cap, hv, Nat.le_trans hn hm, fun _ => ⟨g, 0, rfl, (Array.getElem?_eq_some_iff.1 hh).1, fun i hi => ?_⟩⟩
    have := h.cells (g := g) (by rw [hv]; rfl) i (.string o[i]) (by simp [hi])
    rw [Addr.add_mid] at this
    exact this
theorem StrRow.form {w : World} {v : Value} {ss : List ByteArray} (h : StrRow w v ss) : ∃ ao c, v = .slice ao ss.length c := by
  obtain ⟨ao, c, h, _⟩ := h; exact ⟨ao, c, h⟩
theorem StrRow.nil (w : World) : StrRow w (.slice none 0 0) [] := ⟨none, 0, rfl, by simp, fun h => absurd rfl h⟩

def leafC (f : Lf) : List Value := [.string f.1, .string f.2]
def apC (f : ByteArray × Nat) : List Value := [.string f.1, .int .i64 f.2]
def LeafRow (w : World) (v : Value) (l : List Lf) : Prop := RowOf w v 2 (l.map leafC)
def ApRow (w : World) (v : Value) (l : List (ByteArray × Nat)) : Prop := RowOf w v 2 (l.map apC)
theorem LeafRow.below {w w' : World} {v : Value} {l : List Lf} (h : LeafRow w v l) (hb : Below w.heap.size w w') : LeafRow w' v l := RowOf.below h hb
theorem ApRow.below {w w' : World} {v : Value} {l : List (ByteArray × Nat)} (h : ApRow w v l) (hb : Below w.heap.size w w') : ApRow w' v l := RowOf.below h hb

/-- A slice of files, cell by cell. -/
theorem LeafRow.open {w : World} {v : Value} {l : List Lf} (h : LeafRow w v l) : ∃ ao cap, v = .slice ao l.length cap ∧ l.length ≤ maxLen ∧ (l ≠ [] → ∃ b off, ao = some ⟨b, off, none⟩ ∧ b < w.heap.size ∧ ∀ k (hk : k < l.length), w.cell? ⟨b, off + k * 2, none⟩ = some (.string l[k].1) ∧ w.cell? ⟨b, off + k * 2 + 1, none⟩ = some (.string l[k].2)) := by
  obtain ⟨ao, cap, rfl, hm, h⟩ := h
  rw [List.length_map] at hm ⊢
  refine ⟨ao, cap, rfl, hm, fun hne => ?_⟩
  obtain ⟨b, off, e, hl, hc⟩ := h (by simpa using hne)
  refine ⟨b, off, e, hl, fun k hk => ?_⟩
  have := hc k (by simpa using hk)
  rw [List.getElem_map] at this
  exact ⟨this 0 _ rfl, this 1 _ rfl⟩
theorem ApRow.open {w : World} {v : Value} {l : List (ByteArray × Nat)} (h : ApRow w v l) : ∃ ao cap, v = .slice ao l.length cap ∧ l.length ≤ maxLen ∧ (l ≠ [] → ∃ b off, ao = some ⟨b, off, none⟩ ∧ b < w.heap.size ∧ ∀ k (hk : k < l.length), w.cell? ⟨b, off + k * 2, none⟩ = some (.string l[k].1) ∧ w.cell? ⟨b, off + k * 2 + 1, none⟩ = some (.int .i64 l[k].2)) := by
  obtain ⟨ao, cap, rfl, hm, h⟩ := h
  rw [List.length_map] at hm ⊢
  refine ⟨ao, cap, rfl, hm, fun hne => ?_⟩
  obtain ⟨b, off, e, hl, hc⟩ := h (by simpa using hne)
  refine ⟨b, off, e, hl, fun k hk => ?_⟩
  have := hc k (by simpa using hk)
  rw [List.getElem_map] at this
  exact ⟨this 0 _ rfl, this 1 _ rfl⟩

theorem findS_step (l : List Lf) (p : ByteArray) (k : Nat) (h : k < l.length) : findS (l.drop k) p = if l[k].1 = p then some l[k].2 else findS (l.drop (k + 1)) p := by
  rw [List.drop_eq_getElem_cons h]
  unfold findS
  rw [List.find?_cons]
  by_cases e : l[k].1 = p
  · rw [if_pos e]; simp [e]
  · rw [if_neg e]; simp [e]
theorem ba_beq (p q : ByteArray) : (p.toList == q.toList) = decide (p = q) := by
  rw [ByteArray.toList_eq, ByteArray.toList_eq]
  by_cases h : p = q
  · subst h; simp
  · rw [decide_eq_false h, beq_eq_false_iff_ne]
    exact fun e => h (ba_ext e)

set_option maxHeartbeats 1000000 in
theorem find_any (v : Value) (l : List Lf) (p : ByteArray) (w : World) (hv : LeafRow w v l) :
    Calls Tryz.prog 119 #[v, .string p] w fun e w' => e = .returned (.tuple #[.string ((findS l p).getD ByteArray.empty), .bool (findS l p).isSome]) ∧ w' = w := by
  obtain ⟨ao, cap, rfl, hmax, hv⟩ := hv.open
  unfold maxLen at hmax
  go_enter Tryz.func119, Tryz.ntmps119
  go_wp2
  go_loopw [6] (fun i wr => ∃ k : Nat, k ≤ l.length ∧ i = .int .i64 k ∧ Hid (findS (l.drop k) p = findS l p) ∧ wr = w) (fun i _ => (l.length - intOf i).toNat)
  case atStart => exact ⟨0, by omega, rfl, rfl, rfl⟩
  case round =>
    obtain ⟨k, hk, rfl, hf, rfl⟩ := hrel
    by_cases hlt : k < l.length
    · obtain ⟨b, off, rfl, hbl, hcell⟩ := hv (by intro e; rw [e] at hlt; simp at hlt)
      obtain ⟨c1, c2⟩ := hcell k hlt
      have hs := findS_step l p k hlt
      rw [hf.out] at hs
      generalize l[k].1 = q at c1 hs
      generalize l[k].2 = t at c2 hs
      have hb := ba_beq q p
      by_cases e : q = p
      · rw [if_pos e] at hs
        subst e
        simp only [decide_true] at hb
        have HF := Lib.hid (hs : findS l q = some t)
        clear hcell hf hs
        go_wp2
        go_ret2
        exact ⟨by rw [HF.out]; rfl, rfl⟩
      · rw [if_neg e] at hs
        rw [decide_eq_false e] at hb
        have HS := Lib.hid hs
        clear hcell hf hs
        go_wp2
        go_roundw
        case rel => exact ⟨k + 1, by omega, by go_num, HS.out.symm, by simp⟩
        case measure => simp [intOf]; omega
    · obtain rfl : k = l.length := by omega
      have hs : findS l p = none := by rw [← hf.out]; simp [findS]
      have HS := Lib.hid hs
      clear hf hs
      go_wp2
      go_ret2
      exact ⟨by rw [HS.out]; rfl, rfl⟩

/-- Are there more files, or longer ones, than are looked at? -/
def grGo : List Lf → Nat → Bool
  | [], _ => false
  | f :: l, n => decide (12000 < n + f.2.size) || decide (300 < f.1.size) || grGo l (n + f.2.size)
def gr26 (l : List Lf) : Bool := decide (320 < l.length) || grGo l 0
def gr27 (l : List Lf) : Bool := decide (60 < l.length) || gr26 l
theorem grGo_step (l : List Lf) (n k : Nat) (h : k < l.length) : grGo (l.drop k) n = (decide (12000 < n + l[k].2.size) || decide (300 < l[k].1.size) || grGo (l.drop (k + 1)) (n + l[k].2.size)) := by
  rw [List.drop_eq_getElem_cons h]; rfl

set_option maxHeartbeats 1000000 in
theorem great26_any (v : Value) (l : List Lf) (w : World) (hz : ∀ f ∈ l, f.2.size ≤ 1000000000000000) (hv : LeafRow w v l) :
    Calls Tryz.prog 39 #[v] w fun e w' => e = .returned (.bool (gr26 l)) ∧ Below w.heap.size w w' := by
  obtain ⟨ao, cap, rfl, hmax, hv⟩ := hv.open
  unfold maxLen at hmax
  have HZ := Lib.hid hz
  clear hz
  by_cases hg : 320 < l.length
  · go_enter Tryz.func39, Tryz.ntmps39
    go_wp2
    go_ret
    exact ⟨by unfold gr26; rw [decide_eq_true hg]; rfl, Below.refl _ _⟩
  · have hgl := decide_eq_false hg
    have HG := Lib.hid hgl
    go_enter Tryz.func39, Tryz.ntmps39
    go_wp2
    go_loopw [3, 4] (fun n i wr => ∃ k m : Nat, k ≤ l.length ∧ i = .int .i64 k ∧ n = .int .i64 m ∧ m ≤ 12000 ∧ Hid (grGo (l.drop k) m = grGo l 0) ∧ Below w.heap.size w wr) (fun _ i _ => (l.length - intOf i).toNat)
    case atStart => exact ⟨0, 0, by omega, rfl, rfl, by omega, rfl, Below.refl _ _⟩
    case round =>
      obtain ⟨k, m, hk, rfl, rfl, hm, hf, hb⟩ := hrel
      by_cases hlt : k < l.length
      · obtain ⟨b, off, rfl, hbl, hcell⟩ := hv (by intro e; rw [e] at hlt; simp at hlt)
        obtain ⟨c1, c2⟩ := hcell k hlt
        have hs := grGo_step l m k hlt
        rw [hf.out] at hs
        have c1' := below_load c1 hb hbl
        have c2' := below_load c2 hb hbl
        have hzt := HZ.out l[k] (List.getElem_mem hlt)
        clear hcell c1 c2 hf
        generalize l[k].1 = q at c1' hs hzt
        generalize l[k].2 = t at c2' hs hzt
        have hwr : IntKind.i64.wrap ((m : Int) + t.size) = (m : Int) + t.size := IntWalk.i64_in _ (by omega)
        by_cases h1 : 12000 < m + t.size
        · rw [decide_eq_true h1] at hs
          have HS := Lib.hid hs
          have h1' : (12000 : Int) < (m : Int) + t.size := by omega
          clear hs
          go_wp2
          go_ret
          exact ⟨by unfold gr26; rw [HG.out, HS.out]; rfl, hb⟩
        · rw [decide_eq_false h1] at hs
          have h1' : decide ((12000 : Int) < (m : Int) + t.size) = false := decide_eq_false (by omega)
          by_cases h2 : 300 < q.size
          · rw [decide_eq_true h2] at hs
            have HS := Lib.hid hs
            have h2' : (300 : Int) < q.size := by omega
            clear hs
            go_wp2
            go_ret
            exact ⟨by unfold gr26; rw [HG.out, HS.out]; rfl, hb⟩
          · rw [decide_eq_false h2] at hs
            have HS := Lib.hid hs
            have h2' : decide ((300 : Int) < q.size) = false := decide_eq_false (by omega)
            clear hs
            go_wp2
            go_roundw
            case rel => exact ⟨k + 1, m + t.size, by omega, by go_num, by go_num, by omega, by rw [HS.out]; rfl, hb⟩
            case measure => simp [intOf]; omega
      · obtain rfl : k = l.length := by omega
        have hs : grGo l 0 = false := by rw [← hf.out]; simp [grGo]
        have HS := Lib.hid hs
        clear hf hs
        go_wp2
        go_ret
        exact ⟨by unfold gr26; rw [HG.out, HS.out]; rfl, hb⟩
end Go.Proofs.YtbmiiiccnoiffaaGreatDoor

/- Walks: a path's names; which path comes first. -/
namespace Go.Proofs.YtbmiiiccnoiffaaGreatDoor
open Go.RowKit

/-- A path's names as texts. -/
def ofL (l : List UInt8) : ByteArray := ⟨l.toArray⟩
theorem ofL_data (l : List UInt8) : (ofL l).data.toList = l := by simp [ofL]
def nms (s : ByteArray) : List ByteArray := (spl s.data.toList).map ofL
theorem nms_data (s : ByteArray) : (nms s).map (·.data.toList) = spl s.data.toList := by
  unfold nms; rw [List.map_map]
  conv => rhs; rw [← List.map_id (spl s.data.toList)]
  congr 1
theorem map_data_inj : ∀ {l m : List ByteArray}, l.map (·.data.toList) = m.map (·.data.toList) → l = m
  | [], [], _ => rfl
  | [], _ :: _, h => by simp at h
  | _ :: _, [], h => by simp at h
  | x :: l, y :: m, h => by
    simp only [List.map_cons, List.cons.injEq] at h
    rw [ba_ext h.1, map_data_inj h.2]
theorem nms_of {s : ByteArray} {l : List ByteArray} (h : l.map (·.data.toList) = spl s.data.toList) : l = nms s := map_data_inj (by rw [h, nms_data])
theorem drop_byte (s : ByteArray) (k : Nat) (h : k < s.size) : s.data.toList.drop k = s[k] :: s.data.toList.drop (k + 1) := by
  rw [List.drop_eq_getElem_cons (by simpa using h)]; rfl
theorem extract_one (s : ByteArray) (k : Nat) (h : k < s.size) : (s.extract k (k + 1)).data.toList = [s[k]] := by
  rw [Lib.extract_data]
  rw [drop_byte s k h]
  simp [List.take_succ_cons]

theorem infoS : (Tryz.prog.info? 9).map (fun i => (i.zero, i.size, i.bytes)) = some (some (.string ByteArray.empty), 1, 16) := by kernel_rfl

set_option maxHeartbeats 1000000 in
theorem names_any (s : ByteArray) (w : World) (hs : s.size ≤ 1000000) :
    Calls Tryz.prog 193 #[.string s] w fun e w' => ∃ v, e = .returned v ∧ StrRow w' v (nms s) ∧ Below w.heap.size w w' := by
  obtain ⟨i0, hi, hz0, hz1, hz2⟩ := info_parts infoS
  go_enter Tryz.func193, Tryz.ntmps193
  go_wp2
  go_loopw [3, 4, 5] (fun out nm i wr => ∃ (k : Nat) (o : List ByteArray) (c : ByteArray), k ≤ s.size ∧ i = .int .i64 k ∧ nm = .string c ∧ c.size ≤ k ∧ o.length ≤ k ∧ Hid (o.map (·.data.toList) ++ glue c.data.toList (spl (s.data.toList.drop k)) = spl s.data.toList) ∧ wr.ownsRow w.heap.size 9 1 out o.length (o.map Value.string) ∧ Below w.heap.size w wr) (fun _ _ i _ => (s.size - intOf i).toNat)
  case atStart => exact ⟨0, [], ByteArray.empty, by omega, rfl, rfl, by simp, by simp, by show [] ++ glue [] (spl (s.data.toList.drop 0)) = _; simp [glue_nil], World.ownsRow_nil _ _ _ _, Below.refl _ _⟩
  case round =>
    obtain ⟨k, o, c, hk, rfl, rfl, hc, ho, hf, hown, hb⟩ := hrel
    obtain ⟨ao, cc, rfl⟩ := own_form hown
    by_cases hlt : k < s.size
    · have hd := hf.out
      rw [drop_byte s k hlt] at hd
      have hx := extract_one s k hlt
      have HX := Lib.hid hx
      clear hx hf
      have hszb := hb.size
      by_cases hb47 : s[k] = 47
      · rw [hb47, glue_sep] at hd
        have h47 : ((s[k].toNat : Int) == 47) = true := by rw [hb47]; rfl
        have HD := Lib.hid hd
        clear hd
        go_wp2_with (at_builtin; refine wpList_append_lies _ rfl (.tmp 16) (.tmp 18) 84 rfl w.heap.size 9 i0 (.string ByteArray.empty) 1 16 Tryz.underlying84 hi hz0 hz1 hz2 rfl (by decide) _ o.length _ rfl (hown.alloc _) ⟨wr.heap.size, 0, none⟩ 1 1 [.string c] rfl rfl ?c1 ?c2 (by decide) ?c3 ?c4 ?c5 _ rfl ?_)
        case c1 => exact cell_one_new _ _ _
        case c2 => simp [Value.oneCell']
        case c3 => unfold maxLen; omega
        case c4 => omega
        case c5 => simp; omega
        intro g c2 w1 hown1 hgrow hat hltg
        go_wp2
        go_roundw
        case rel => exact ⟨k + 1, o ++ [c], ByteArray.empty, by omega, by go_num, rfl, by simp, by simp; omega, by rw [List.map_append, List.append_assoc, ← HD.out]; show _ ++ ([c].map _ ++ glue [] _) = _; rw [glue_nil]; rfl, by rw [List.length_append, List.map_append]; exact hown1, (hb.alloc (by omega) _).grown hgrow (by simp; omega) (fun x hx => (hown.lt x hx).1)⟩
        case measure => simp [intOf]; omega
      · rw [glue_byte _ _ _ hb47] at hd
        have HD := Lib.hid hd
        clear hd
        have l1 : (0 : Int) ≤ k := by omega
        have l2 : (k : Int) + 1 ≤ s.size := by omega
        have l3 : IntKind.i64.wrap ((k : Int) + 1) = (k : Int) + 1 := IntWalk.i64_in _ (by omega)
        have l4 : (k : Int) ≤ (k : Int) + 1 := by omega
        have l5 : ((k : Int) + 1).toNat = k + 1 := by omega
        have l6 : (s.extract k (k + 1)).size = 1 := by rw [ByteArray.size_extract]; omega
        have h47 : ((s[k].toNat : Int) == 47) = false := by
          rw [beq_eq_false_iff_ne]
          intro e
          have e2 : s[k].toNat = 47 := by omega
          exact hb47 (UInt8.toNat_inj.1 e2)
        go_wp2
        go_roundw
        case rel => exact ⟨k + 1, o, c ++ s.extract k (k + 1), by omega, by go_num, rfl, by rw [ByteArray.size_append, l6]; omega, by omega, by rw [ByteArray.data_append, Array.toList_append, HX.out]; exact HD.out, hown, hb⟩
        case measure => simp [intOf]; omega
    · obtain rfl : k = s.size := by omega
      have hd := hf.out
      rw [List.drop_eq_nil_of_le (by simp), glue_end] at hd
      have HD := Lib.hid hd
      clear hf hd
      have hszb := hb.size
      go_wp2_with (at_builtin; refine wpList_append_lies _ rfl (.tmp 27) (.tmp 29) 84 rfl w.heap.size 9 i0 (.string ByteArray.empty) 1 16 Tryz.underlying84 hi hz0 hz1 hz2 rfl (by decide) _ o.length _ rfl (hown.alloc _) ⟨wr.heap.size, 0, none⟩ 1 1 [.string c] rfl rfl ?c1 ?c2 (by decide) ?c3 ?c4 ?c5 _ rfl ?_)
      case c1 => exact cell_one_new _ _ _
      case c2 => simp [Value.oneCell']
      case c3 => unfold maxLen; omega
      case c4 => omega
      case c5 => simp; omega
      intro g c2 w1 hown1 hgrow hat hltg
      go_wp2
      go_ret
      have e : o ++ [c] = nms s := nms_of (by rw [List.map_append]; exact HD.out)
      refine ⟨_, rfl, ?_, (hb.alloc (by omega) _).grown hgrow (by simp; omega) (fun x hx => (hown.lt x hx).1)⟩
      rw [← e]
      exact StrRow.of_own (B := w.heap.size) (e := 9) (by rw [List.length_append, List.map_append]; exact hown1)

theorem isNaN_any (x : ByteArray) (w : World) : Calls Tryz.prog 198 #[.string x] w fun e w' => e = .returned (.bool false) ∧ w' = w := by
  go_enter Tryz.func198, Tryz.ntmps198
  go_wp2
  go_ret
  exact ⟨by simp, rfl⟩

theorem cmpB_cases (x y : List UInt8) : cmpB x y = -1 ∨ cmpB x y = 0 ∨ cmpB x y = 1 := by
  unfold cmpB
  split
  · simp
  · split <;> simp

theorem compare_any (x y : ByteArray) (w : World) : Calls Tryz.prog 161 #[.string x, .string y] w fun e w' => e = .returned (.int .i64 (cmpB x.data.toList y.data.toList)) ∧ w' = w := by
  cases hl : Op.bytesLess x.toList y.toList
  · by_cases he : x.toList = y.toList
    · have hr : cmpB x.data.toList y.data.toList = 0 := by rw [cmpB_zero, ← ByteArray.toList_eq, ← ByteArray.toList_eq, he]
      rw [hr]
      have he' : (x.toList == y.toList) = true := beq_iff_eq.2 he
      clear hr he
      go_enter Tryz.func161, Tryz.ntmps161
      go_wp2_with (go_at_call 198; refine (isNaN_any _ _).mono ?_; rintro e w1 ⟨rfl, hw1⟩; rw [hw1]; clear hw1)
      go_ret
      exact ⟨rfl, rfl⟩
    · have hr : cmpB x.data.toList y.data.toList = 1 := by
        unfold cmpB; rw [← ByteArray.toList_eq, ← ByteArray.toList_eq, hl, if_neg (by simp), if_neg he]
      rw [hr]
      have he' : (x.toList == y.toList) = false := beq_eq_false_iff_ne.2 he
      clear hr he
      go_enter Tryz.func161, Tryz.ntmps161
      go_wp2_with (go_at_call 198; refine (isNaN_any _ _).mono ?_; rintro e w1 ⟨rfl, hw1⟩; rw [hw1]; clear hw1)
      go_ret
      exact ⟨rfl, rfl⟩
  · have hr : cmpB x.data.toList y.data.toList = -1 := by
      unfold cmpB; rw [← ByteArray.toList_eq, ← ByteArray.toList_eq, hl, if_pos rfl]
    rw [hr]
    clear hr
    go_enter Tryz.func161, Tryz.ntmps161
    go_wp2_with (go_at_call 198; refine (isNaN_any _ _).mono ?_; rintro e w1 ⟨rfl, hw1⟩; rw [hw1]; clear hw1)
    go_ret
    exact ⟨rfl, rfl⟩

theorem cmpP_cons (x y : List UInt8) (a b : List (List UInt8)) : cmpP (x :: a) (y :: b) = if cmpB x y ≠ 0 then cmpB x y else cmpP a b := rfl

set_option maxHeartbeats 1000000 in
theorem scompare_any (v u : Value) (xs ys : List ByteArray) (w : World) (hx : StrRow w v xs) (hy : StrRow w u ys) :
    Calls Tryz.prog 154 #[v, u] w fun e w' => e = .returned (.int .i64 (cmpP (xs.map (·.data.toList)) (ys.map (·.data.toList)))) ∧ w' = w := by
  obtain ⟨ao, cap, rfl, hmx, hx⟩ := hx
  obtain ⟨bo, cap2, rfl, hmy, hy⟩ := hy
  unfold maxLen at hmx hmy
  go_enter Tryz.func154, Tryz.ntmps154
  go_wp2
  go_loopw [11] (fun i wr => ∃ k : Nat, k ≤ xs.length ∧ k ≤ ys.length ∧ i = .int .i64 k ∧ Hid (cmpP ((xs.drop k).map (·.data.toList)) ((ys.drop k).map (·.data.toList)) = cmpP (xs.map (·.data.toList)) (ys.map (·.data.toList))) ∧ wr = w) (fun i _ => (xs.length - intOf i).toNat)
  case atStart => exact ⟨0, by omega, by omega, rfl, rfl, rfl⟩
  case round =>
    obtain ⟨k, hk, hk2, rfl, hf, rfl⟩ := hrel
    by_cases hlt : k < xs.length
    · obtain ⟨b, off, rfl, hbl, hcell⟩ := hx (by intro e; rw [e] at hlt; simp at hlt)
      have c1 := hcell k hlt
      by_cases hlt2 : k < ys.length
      · obtain ⟨b2, off2, rfl, hbl2, hcell2⟩ := hy (by intro e; rw [e] at hlt2; simp at hlt2)
        have c2 := hcell2 k hlt2
        have hs := hf.out
        rw [List.drop_eq_getElem_cons hlt, List.drop_eq_getElem_cons hlt2, List.map_cons, List.map_cons, cmpP_cons] at hs
        clear hcell hcell2 hf
        generalize xs[k] = x at c1 hs
        generalize ys[k] = y at c2 hs
        have hca := compare_any x y
        generalize cmpB x.data.toList y.data.toList = r at hca hs
        by_cases hr : r = 0
        · rw [if_neg (by simpa using hr)] at hs
          have HS := Lib.hid hs
          subst hr
          clear hs
          go_wp2_with (go_at_call 161; refine (hca _).mono ?_; rintro e w1 ⟨rfl, hw1⟩; rw [hw1]; clear hw1)
          go_roundw
          case rel => exact ⟨k + 1, by omega, by omega, by go_num, HS, by simp⟩
          case measure => simp [intOf]; omega
        · rw [if_pos hr] at hs
          have HS := Lib.hid hs
          have hr' : (r == 0) = false := by simpa using hr
          clear hs
          go_wp2_with (go_at_call 161; refine (hca _).mono ?_; rintro e w1 ⟨rfl, hw1⟩; rw [hw1]; clear hw1)
          go_ret
          exact ⟨by rw [← HS.out]; rfl, rfl⟩
      · obtain rfl : k = ys.length := by omega
        have hs := hf.out
        rw [List.drop_eq_getElem_cons hlt, List.drop_eq_nil_of_le (Nat.le_refl _)] at hs
        have HS := Lib.hid (hs.symm : _ = (1 : Int))
        clear hcell hf hs
        go_wp2
        go_ret
        exact ⟨by rw [HS.out]; rfl, rfl⟩
    · obtain rfl : k = xs.length := by omega
      have hs := hf.out
      rw [List.drop_eq_nil_of_le (Nat.le_refl _)] at hs
      by_cases hlt2 : xs.length < ys.length
      · rw [List.drop_eq_getElem_cons hlt2] at hs
        have HS := Lib.hid (hs.symm : _ = (-1 : Int))
        clear hf hs
        have hlt3 : (xs.length : Int) < ys.length := by omega
        go_wp2
        go_ret
        exact ⟨by rw [HS.out]; rfl, rfl⟩
      · rw [List.drop_eq_nil_of_le (by omega)] at hs
        have HS := Lib.hid (hs.symm : _ = (0 : Int))
        clear hf hs
        have hlt3 : ¬ (xs.length : Int) < ys.length := by omega
        go_wp2
        go_ret
        exact ⟨by rw [HS.out]; rfl, rfl⟩
end Go.Proofs.YtbmiiiccnoiffaaGreatDoor

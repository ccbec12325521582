/- YtbmiiiccnoiffaaGreatDoorO17: texts H0, H1, H2, H3, CW28 of this claim, in one. -/
import Derived.Test.YtbmiiiccnoiffaaGreatDoorO1
import Derived.Test.YtbmiiiccnoiffaaGreatDoorO16
namespace Go.Proofs.YtbmiiiccnoiffaaGreatDoor

/-- The commit of an id. -/
def cmG (get : Idl → Option Ob) (x : Idl) : Option Cmt := match get x with
  | some o => if o.kind = 3 then (match commitOf o.body with
    | some c => some ⟨c.1, c.2.1, c.2.2⟩
    | none => none) else none
  | none => none
theorem cmG_some {get : Idl → Option Ob} {x : Idl} {c : Cmt} (h : cmG get x = some c) : ∃ o, get x = some o ∧ o.kind = 3 ∧ commitOf o.body = some (c.tree, c.pars, c.text) := by
  unfold cmG at h
  cases e : get x with
  | none => rw [e] at h; cases h
  | some o =>
    rw [e] at h
    dsimp only at h
    by_cases h3 : o.kind = 3
    · rw [if_pos h3] at h
      cases e2 : commitOf o.body with
      | none => rw [e2] at h; cases h
      | some d =>
        rw [e2] at h
        cases h
        exact ⟨o, rfl, h3, e2⟩
    · rw [if_neg h3] at h; cases h
theorem cmG_of {get : Idl → Option Ob} {x : Idl} {o : Ob} {t : List UInt8} {l : List (List UInt8)} {s : ByteArray} (h : get x = some o) (h3 : o.kind = 3) (hc : commitOf o.body = some (t, l, s)) : cmG get x = some ⟨t, l, s⟩ := by
  unfold cmG; rw [h]; dsimp only; rw [if_pos h3, hc]
theorem cmG_none {get : Idl → Option Ob} {x : Idl} (h : get x = none) : cmG get x = none := by unfold cmG; rw [h]
/-- What a source's commits are like. -/
structure CmOk (cm : Idl → Option Cmt) (U : List Idl) : Prop where
  few : U.length ≤ 1000
  mem : ∀ x c, cm x = some c → x ∈ U
  len : ∀ x c, cm x = some c → x.length = 32
  tree : ∀ x c, cm x = some c → c.tree.length = 32
  pars : ∀ x c, cm x = some c → ∀ p ∈ c.pars, p.length = 32
  four : ∀ x c, cm x = some c → c.pars.length ≤ 4
  nodup : ∀ x c, cm x = some c → c.pars.Nodup
  text : ∀ x c, cm x = some c → c.text.size ≤ 64
theorem cmOk {l : List Ob} (hl : l.length ≤ 1000) : CmOk (cmG (getS l)) ((rights l).map idO) := by
  have key : ∀ x c, cmG (getS l) x = some c → ∃ o, o ∈ rights l ∧ idO o = x ∧ commitOf o.body = some (c.tree, c.pars, c.text) := fun x c h => by
    obtain ⟨o, h1, _, h3⟩ := cmG_some h
    obtain ⟨g1, g2, g3⟩ := getS_some h1
    exact ⟨o, List.mem_filter.2 ⟨g1, g2⟩, g3, h3⟩
  constructor
  · rw [List.length_map]; exact Nat.le_trans (List.length_filter_le _ _) hl
  · intro x c h; obtain ⟨o, h1, h2, _⟩ := key x c h; exact List.mem_map.2 ⟨o, h1, h2⟩
  · intro x c h; obtain ⟨o, _, h2, _⟩ := key x c h; rw [← h2]; exact idO_len o
  · intro x c h; obtain ⟨o, _, _, h3⟩ := key x c h; exact (commitOf_len h3).1
  · intro x c h; obtain ⟨o, _, _, h3⟩ := key x c h; exact (commitOf_len h3).2.1
  · intro x c h; obtain ⟨o, _, _, h3⟩ := key x c h; exact (commitOf_len h3).2.2.1
  · intro x c h; obtain ⟨o, _, _, h3⟩ := key x c h; exact (commitOf_len h3).2.2.2.2
  · intro x c h; obtain ⟨o, _, _, h3⟩ := key x c h; exact (commitOf_len h3).2.2.2.1
theorem par_of {cm : Idl → Option Cmt} {x : Idl} {c : Cmt} (h : cm x = some c) : par cm x = c.pars := by unfold par; rw [h]
theorem CmOk.parLen {cm : Idl → Option Cmt} {U : List Idl} (h : CmOk cm U) {x p : Idl} (hp : p ∈ par cm x) : p.length = 32 := by
  cases e : cm x with
  | none => unfold par at hp; rw [e] at hp; cases hp
  | some c => rw [par_of e] at hp; exact h.pars x c e p hp
theorem CmOk.parNodup {cm : Idl → Option Cmt} {U : List Idl} (h : CmOk cm U) (x : Idl) : (par cm x).Nodup := by
  cases e : cm x with
  | none => unfold par; rw [e]; exact List.nodup_nil
  | some c => rw [par_of e]; exact h.nodup x c e
theorem CmOk.reach {cm : Idl → Option Cmt} {U : List Idl} (h : CmOk cm U) {x y : Idl} (hr : Reach cm x y) (hx : x.length = 32) : y.length = 32 := by
  induction hr with
  | refl => exact hx
  | tail _ hz _ => exact h.parLen hz

theorem Bfs.congr {cm : Idl → Option Cmt} {id : Idl} {V W : Idl → Prop} {Q : List Idl} (h : Bfs cm id V Q) (hVW : ∀ y, V y ↔ W y) : Bfs cm id W Q := by
  have : V = W := funext fun y => propext (hVW y)
  rwa [this] at h
def potB (U V Q : List Idl) : Nat := 5 * (U.filter fun u => !V.contains u).length + Q.length
theorem potB_skip (U V Q : List Idl) (x : Idl) : potB U V Q < potB U V (x :: Q) := by unfold potB; simp
theorem potB_le (U V Q : List Idl) : potB U V Q ≤ 5 * U.length + Q.length := by
  unfold potB
  have := List.length_filter_le (fun u => !V.contains u) U
  omega
theorem potB_take {U V W Q ps : List Idl} {x : Idl} (hx : x ∈ U) (hv : x ∉ V) (hp : ps.length ≤ 4) (hW : ∀ y, y ∈ W ↔ y ∈ V ∨ y = x) : potB U W (Q ++ ps) < potB U V (x :: Q) := by
  unfold potB
  have := filter_lt (fun u => !W.contains u) (fun u => !V.contains u) U x hx (by simpa using hv) (by simp [hW]) (fun y hy => by
    simp only [Bool.not_eq_true', List.contains_eq_mem, decide_eq_false_iff_not] at hy ⊢
    exact fun h => hy ((hW y).2 (.inl h)))
  simp only [List.length_cons, List.length_append]; omega

def sortL (V : List Idl) : List Idl := V.foldl putL []
theorem foldl_putL (V : List Idl) : ∀ S, AscL S → AscL (V.foldl putL S) ∧ ∀ x, x ∈ V.foldl putL S ↔ x ∈ S ∨ x ∈ V := by
  induction V with
  | nil => exact fun S h => ⟨h, fun x => by simp⟩
  | cons a V ih =>
    intro S h
    obtain ⟨h1, h2⟩ := ih (putL S a) (putL_asc h a)
    refine ⟨h1, fun x => ?_⟩
    rw [List.foldl_cons, h2, putL_mem, List.mem_cons]
    constructor
    · rintro ((h | h) | h)
      · exact .inl h
      · exact .inr (.inl h)
      · exact .inr (.inr h)
    · rintro (h | h | h)
      · exact .inl (.inl h)
      · exact .inl (.inr h)
      · exact .inr h
theorem sortL_asc (V : List Idl) : AscL (sortL V) := (foldl_putL V [] List.Pairwise.nil).1
theorem sortL_mem (V : List Idl) (x : Idl) : x ∈ sortL V ↔ x ∈ V := by
  have := (foldl_putL V [] List.Pairwise.nil).2 x
  unfold sortL
  simpa using this
open Classical in
/-- A commit's line, rising. -/
noncomputable def lineL (cm : Idl → Option Cmt) (id : Idl) : Option (List Idl) := if h : ∃ S, IsLine cm id S ∧ AscL S then some h.choose else none
theorem lineL_some {cm : Idl → Option Cmt} {id : Idl} {S : List Idl} (h : lineL cm id = some S) : IsLine cm id S ∧ AscL S := by
  unfold lineL at h
  split at h
  · rename_i hh
    cases h
    exact hh.choose_spec
  · cases h
theorem lineL_eq {cm : Idl → Option Cmt} {id : Idl} {S : List Idl} (h : IsLine cm id S) (ha : AscL S) : lineL cm id = some S := by
  have hh : ∃ S, IsLine cm id S ∧ AscL S := ⟨S, h, ha⟩
  unfold lineL
  rw [dif_pos hh]
  obtain ⟨h1, h2⟩ := hh.choose_spec
  exact congrArg some (ascL_ext h2 ha fun x => by rw [h1.mem, h.mem])
theorem lineL_sort {cm : Idl → Option Cmt} {id : Idl} {V : List Idl} (h : IsLine cm id V) : lineL cm id = some (sortL V) :=
  lineL_eq ⟨(sortL_asc V).nodup, fun x => by rw [sortL_mem, h.mem], fun x hx => h.there x ((sortL_mem V x).1 hx)⟩ (sortL_asc V)
theorem lineL_none {cm : Idl → Option Cmt} {id : Idl} (h : NoLine cm id) : lineL cm id = none := by
  cases e : lineL cm id with
  | none => rfl
  | some S => exact (h.not (lineL_some e).1).elim
theorem IsLine.closed {cm : Idl → Option Cmt} {id : Idl} {S : List Idl} (h : IsLine cm id S) : ∀ x ∈ S, ∀ y ∈ par cm x, y ∈ S := fun x hx y hy => (h.mem y).2 (((h.mem x).1 hx).tail hy)
theorem IsLine.few {cm : Idl → Option Cmt} {U : List Idl} (hU : CmOk cm U) {id : Idl} {S : List Idl} (h : IsLine cm id S) : S.length ≤ U.length :=
  nodup_sub_len S U h.nodup fun x hx => by
    cases e : cm x with
    | none => have := h.there x hx; rw [e] at this; cases this
    | some c => exact hU.mem x c e
/-- Within a line each line is whole. -/
theorem IsLine.sub {cm : Idl → Option Cmt} {id x : Idl} {S : List Idl} (h : IsLine cm id S) (hx : x ∈ S) : ∃ T, IsLine cm x T := by
  classical
  refine ⟨S.filter fun y => decide (Reach cm x y), List.Pairwise.filter _ h.nodup, fun y => ?_, fun y hy => h.there y (List.mem_filter.1 hy).1⟩
  rw [List.mem_filter]
  constructor
  · rintro ⟨_, h2⟩; exact of_decide_eq_true h2
  · intro hr; exact ⟨(h.mem y).2 (((h.mem x).1 hx).trans hr), decide_eq_true hr⟩
theorem lineL_sub {cm : Idl → Option Cmt} {id x : Idl} {S : List Idl} (h : lineL cm id = some S) (hx : x ∈ S) : ∃ T, lineL cm x = some T := by
  obtain ⟨T, hT⟩ := (lineL_some h).1.sub hx
  exact ⟨_, lineL_sort hT⟩
theorem older_line {cm : Idl → Option Cmt} {a b : Idl} {L : List Idl} (h : IsLine cm b L) : (a ∈ L ∧ a ≠ b) ↔ Older cm a b := by
  unfold Older
  rw [h.mem]
  exact ⟨fun ⟨h1, h2⟩ => ⟨h2, h1⟩, fun ⟨h1, h2⟩ => ⟨h2, h1⟩⟩
end Go.Proofs.YtbmiiiccnoiffaaGreatDoor
namespace Go.Proofs.YtbmiiiccnoiffaaGreatDoor
variable {cm : Idl → Option Cmt}
/-- How many of a list have a parent. -/
def kids (cm : Idl → Option Cmt) (G : List Idl) (p : Idl) : Nat := (G.filter fun y => (par cm y).contains p).length
theorem kids_snoc (G : List Idl) (x p : Idl) : kids cm (G ++ [x]) p = kids cm G p + if p ∈ par cm x then 1 else 0 := by
  unfold kids
  rw [List.filter_append, List.length_append]
  by_cases h : p ∈ par cm x
  · rw [if_pos h, show [x].filter (fun y => (par cm y).contains p) = [x] from by simp [h]]; rfl
  · rw [if_neg h, show [x].filter (fun y => (par cm y).contains p) = [] from by simp [h]]; rfl
theorem kids_perm {G H : List Idl} (h : G.Perm H) (p : Idl) : kids cm G p = kids cm H p := (h.filter _).length_eq
theorem kids_le (G : List Idl) (p : Idl) : kids cm G p ≤ G.length := List.length_filter_le _ _
theorem kids_zero {G : List Idl} {p : Idl} : kids cm G p = 0 ↔ ∀ y ∈ G, p ∉ par cm y := by
  unfold kids
  rw [List.length_eq_zero_iff, List.filter_eq_nil_iff]
  simp
theorem kids_erase {G : List Idl} {x : Idl} (h : x ∈ G) (p : Idl) : kids cm G p = kids cm (G.erase x) p + if p ∈ par cm x then 1 else 0 := by
  rw [kids_perm (List.perm_cons_erase h) p]
  unfold kids
  rw [List.filter_cons]
  by_cases hp : p ∈ par cm x
  · rw [if_pos hp, if_pos (by simpa using hp)]; rfl
  · rw [if_neg hp, if_neg (by simpa using hp)]; rfl

/-- What is told, what is left, what is ready. -/
structure Tells (cm : Idl → Option Cmt) (L T G R : List Idl) : Prop where
  told : T = logN cm L T.length
  nodup : G.Nodup
  left : ∀ x, x ∈ G ↔ x ∈ L ∧ x ∉ T
  ready : R.Perm (G.filter fun x => decide (kids cm G x = 0))
theorem Tells.mem {L T G R : List Idl} (h : Tells cm L T G R) (x : Idl) : x ∈ R ↔ x ∈ L ∧ readyB cm L T x = true := by
  rw [h.ready.mem_iff, List.mem_filter, decide_eq_true_iff, kids_zero, h.left, readyB_iff]
  constructor
  · rintro ⟨⟨h1, h2⟩, h3⟩
    exact ⟨h1, fun y hy hx => by
      by_cases hyT : y ∈ T
      · exact hyT
      · exact absurd hx (h3 y ((h.left y).2 ⟨hy, hyT⟩)), h2⟩
  · rintro ⟨h1, h2, h3⟩
    exact ⟨⟨h1, h3⟩, fun y hy hx => ((h.left y).1 hy).2 (h2 y ((h.left y).1 hy).1 hx)⟩
theorem Tells.start {L G : List Idl} {R : List Idl} (hG : G.Perm L) (hn : L.Nodup) (hR : R.Perm (G.filter fun x => decide (kids cm G x = 0))) : Tells cm L [] G R :=
  ⟨rfl, hG.nodup_iff.2 hn, fun x => by rw [hG.mem_iff]; simp, hR⟩
/-- The first of a rising list that may be. -/
theorem find_least {p : Idl → Bool} : ∀ {L R : List Idl} {x : Idl}, AscL L → AscL (x :: R) → (∀ y, y ∈ x :: R ↔ y ∈ L ∧ p y = true) → L.find? p = some x
  | [], R, x, _, _, h => by have := (h x).1 (by simp); simp at this
  | a :: L, R, x, hL, hR, h => by
    obtain ⟨hL1, hL2⟩ := List.pairwise_cons.1 hL
    obtain ⟨hR1, hR2⟩ := List.pairwise_cons.1 hR
    obtain ⟨hxL, hxp⟩ := (h x).1 (by simp)
    by_cases ha : p a = true
    · rw [List.find?_cons_of_pos ha]
      have : a ∈ x :: R := (h a).2 ⟨by simp, ha⟩
      rcases List.mem_cons.1 this with e | h1
      · rw [e]
      · rcases List.mem_cons.1 hxL with e | h2
        · rw [e]
        · have := ltB_trans (hR1 a h1) (hL1 x h2)
          rw [ltB_irrefl] at this; cases this
    · rw [List.find?_cons_of_neg ha]
      refine find_least hL2 hR fun y => ?_
      rw [h, List.mem_cons]
      constructor
      · rintro ⟨e | h1, h2⟩
        · rw [e] at h2; exact absurd h2 ha
        · exact ⟨h1, h2⟩
      · rintro ⟨h1, h2⟩; exact ⟨.inr h1, h2⟩
theorem Tells.step {L T G R : List Idl} {x : Idl} (h : Tells cm L T G (x :: R)) (hL : AscL L) (hR : AscL (x :: R)) (hc : ∀ y ∈ L, ∀ p ∈ par cm y, p ∈ L) (ha : Acyc cm) (hp : (par cm x).Nodup) :
    x ∈ G ∧ Tells cm L (T ++ [x]) (G.erase x) (R ++ (par cm x).filter fun p => decide (kids cm (G.erase x) p = 0)) := by
  have hf := find_least hL hR h.mem
  obtain ⟨hxL, hxr⟩ := (h.mem x).1 (by simp)
  have hxT : x ∉ T := (readyB_iff.1 hxr).2
  have hxG : x ∈ G := (h.left x).2 ⟨hxL, hxT⟩
  have hTel : Telling cm L T := by rw [h.told]; exact logN_telling _ _
  have hmem : ∀ y, y ∈ G.erase x ↔ y ∈ G ∧ y ≠ x := fun y => by rw [h.nodup.mem_erase_iff]; exact And.comm
  have hnR : (x :: R).Nodup := hR.nodup
  refine ⟨hxG, ?_, h.nodup.erase x, fun y => ?_, ?_⟩
  · rw [List.length_append, List.length_singleton]
    show _ = logStep cm L (logN cm L T.length)
    unfold logStep
    rw [← h.told, hf]
  · rw [hmem, h.left, List.mem_append, List.mem_singleton]
    constructor
    · rintro ⟨⟨h1, h2⟩, h3⟩; exact ⟨h1, fun h4 => h4.elim h2 h3⟩
    · rintro ⟨h1, h2⟩; exact ⟨⟨h1, fun h3 => h2 (.inl h3)⟩, fun h3 => h2 (.inr h3)⟩
  · have hnP : ((par cm x).filter fun p => decide (kids cm (G.erase x) p = 0)).Nodup := List.Pairwise.filter _ hp
    have hrk : ∀ y, y ∈ x :: R → kids cm G y = 0 := fun y hy => by
      have := (List.mem_filter.1 (h.ready.mem_iff.1 hy)).2
      exact of_decide_eq_true this
    refine (List.perm_ext_iff_of_nodup ?_ (List.Pairwise.filter _ (h.nodup.erase x))).2 fun y => ?_
    · rw [List.nodup_append]
      refine ⟨(List.nodup_cons.1 hnR).2, hnP, fun a h1 b h2 e => ?_⟩
      subst e
      have h3 := hrk a (List.mem_cons_of_mem _ h1)
      rw [kids_zero] at h3
      exact h3 x hxG (List.mem_filter.1 h2).1
    · rw [List.mem_append, List.mem_filter, List.mem_filter, decide_eq_true_iff]
      have hke := kids_erase (cm := cm) hxG y
      constructor
      · rintro (h1 | ⟨h1, h2⟩)
        · have h3 := hrk y (List.mem_cons_of_mem _ h1)
          exact ⟨(hmem y).2 ⟨(List.mem_filter.1 (h.ready.mem_iff.1 (List.mem_cons_of_mem _ h1))).1, fun e => (List.nodup_cons.1 hnR).1 (e ▸ h1)⟩, by omega⟩
        · refine ⟨(hmem y).2 ⟨(h.left y).2 ⟨hc x hxL y h1, fun hyT => ?_⟩, fun e => ?_⟩, h2⟩
          · obtain ⟨i, hi, ei⟩ := List.getElem_of_mem hyT
            have := hTel.ahead i hi x hxL (by rw [ei]; exact h1)
            exact hxT (List.mem_of_mem_take this)
          · subst e; exact ha y y h1 (.refl _)
      · rintro ⟨h1, h2⟩
        by_cases hpx : y ∈ par cm x
        · exact .inr ⟨hpx, h2⟩
        · rw [if_neg hpx] at hke
          have h3 : y ∈ x :: R := h.ready.mem_iff.2 (List.mem_filter.2 ⟨((hmem y).1 h1).1, decide_eq_true (by omega)⟩)
          rcases List.mem_cons.1 h3 with e | h4
          · exact absurd e ((hmem y).1 h1).2
          · exact .inl h4
theorem Tells.sorted {L T G R S : List Idl} (h : Tells cm L T G R) (hS : S.Perm R) : Tells cm L T G S := ⟨h.told, h.nodup, h.left, hS.trans h.ready⟩
/-- Where nothing is ready, all is told. -/
theorem Tells.done {L T G : List Idl} (h : Tells cm L T G []) (hL : AscL L) (ha : Acyc cm) : T = logOf cm L := by
  have hTel : Telling cm L T := by rw [h.told]; exact logN_telling _ _
  have hle : T.length ≤ L.length := nodup_sub_len T L hTel.nodup hTel.sub
  have : T.length = L.length := by
    rcases Nat.lt_or_ge T.length L.length with hlt | hge
    · obtain ⟨x, hx, hr⟩ := ready_ex ha hlt hL.nodup
      have := (h.mem x).2 ⟨hx, hr⟩
      cases this
    · omega
  unfold logOf
  rw [← this]; exact h.told
theorem Tells.len {L T G R : List Idl} (h : Tells cm L T G R) : T.length ≤ L.length ∧ G.length ≤ L.length ∧ R.length ≤ L.length := by
  have hTel : Telling cm L T := by rw [h.told]; exact logN_telling _ _
  have h1 : G.length ≤ L.length := nodup_sub_len G L h.nodup fun x hx => ((h.left x).1 hx).1
  refine ⟨nodup_sub_len T L hTel.nodup hTel.sub, h1, ?_⟩
  rw [h.ready.length_eq]
  exact Nat.le_trans (List.length_filter_le _ _) h1
/-- A round of the children's counting: how many are left of those before k. -/
def kidsJ (cm : Idl → Option Cmt) (G : List Idl) (x : Idl) (k : Nat) (p : Idl) : Nat := kids cm (G.erase x) p + if p ∈ (par cm x).drop k then 1 else 0
theorem kidsJ_start {G : List Idl} {x : Idl} (h : x ∈ G) : kidsJ cm G x 0 = kids cm G := by
  funext p; unfold kidsJ; rw [List.drop_zero]; exact (kids_erase h p).symm
theorem kidsJ_end (G : List Idl) (x : Idl) {k : Nat} (h : (par cm x).length ≤ k) : kidsJ cm G x k = kids cm (G.erase x) := by
  funext p; unfold kidsJ; rw [List.drop_eq_nil_of_le h]; simp
theorem kidsJ_next {G : List Idl} {x : Idl} {k : Nat} (h : k < (par cm x).length) (hn : (par cm x).Nodup) (p : Idl) : kidsJ cm G x (k + 1) p = if p = (par cm x)[k] then kidsJ cm G x k p - 1 else kidsJ cm G x k p := by
  unfold kidsJ
  rw [List.drop_eq_getElem_cons h]
  have hnd : (par cm x)[k] ∉ (par cm x).drop (k + 1) := by
    have := List.Pairwise.sublist (List.drop_sublist k _) hn
    rw [List.drop_eq_getElem_cons h] at this
    exact (List.nodup_cons.1 this).1
  by_cases e : p = (par cm x)[k]
  · rw [if_pos e, if_neg (by rw [e]; exact hnd), if_pos (by rw [e]; exact List.mem_cons_self)]; omega
  · rw [if_neg e]
    congr 1
    by_cases h2 : p ∈ (par cm x).drop (k + 1)
    · rw [if_pos h2, if_pos (List.mem_cons_of_mem _ h2)]
    · rw [if_neg h2, if_neg (fun h3 => by rcases List.mem_cons.1 h3 with h4 | h4; exact e h4; exact h2 h4)]
theorem kidsJ_at {G : List Idl} {x : Idl} {k : Nat} (h : k < (par cm x).length) : kidsJ cm G x k (par cm x)[k] = kids cm (G.erase x) (par cm x)[k] + 1 := by
  unfold kidsJ
  rw [List.drop_eq_getElem_cons h, if_pos List.mem_cons_self]
end Go.Proofs.YtbmiiiccnoiffaaGreatDoor
namespace Go.Proofs.YtbmiiiccnoiffaaGreatDoor
variable {cm : Idl → Option Cmt}
/-- Asked of the first k of a line. -/
def ReadyTo (cm : Idl → Option Cmt) (L T : List Idl) (x : Idl) (k : Nat) : Prop := ∀ j (h : j < L.length), j < k → x ∈ par cm L[j] → L[j] ∈ T
theorem ReadyTo.next {L T : List Idl} {x : Idl} {k : Nat} (h : ReadyTo cm L T x k) (hk : k < L.length) (hx : x ∈ par cm L[k] → L[k] ∈ T) : ReadyTo cm L T x (k + 1) := fun j hj hjk hp => by
  by_cases e : j = k
  · subst e; exact hx hp
  · exact h j hj (by omega) hp

structure Rnd (cm : Idl → Option Cmt) (x0 : Idl) (P V Q : List Idl) : Prop where
  start : ∀ p ∈ P, p ∈ V ∨ p ∈ Q
  shut : ∀ v ∈ V, ∀ p ∈ par cm v, p ∈ V ∨ p ∈ Q
  off : x0 ∉ V
theorem Rnd.init (x0 : Idl) (P : List Idl) : Rnd cm x0 P [] P := ⟨fun _ h => .inr h, fun _ h => (List.not_mem_nil h).elim, List.not_mem_nil⟩
theorem Rnd.skip {x0 x : Idl} {P V Q : List Idl} (h : Rnd cm x0 P V (x :: Q)) (hx : x ∈ V) : Rnd cm x0 P V Q := by
  have key : ∀ p, p ∈ V ∨ p ∈ x :: Q → p ∈ V ∨ p ∈ Q := fun p hp => by
    rcases hp with h1 | h1
    · exact .inl h1
    · rcases List.mem_cons.1 h1 with rfl | h2
      · exact .inl hx
      · exact .inr h2
  exact ⟨fun p hp => key p (h.start p hp), fun v hv p hp => key p (h.shut v hv p hp), h.off⟩
theorem Rnd.take {x0 x : Idl} {P V Q : List Idl} (h : Rnd cm x0 P V (x :: Q)) (hx : x ≠ x0) : Rnd cm x0 P (V ++ [x]) (Q ++ par cm x) := by
  have key : ∀ p, p ∈ V ∨ p ∈ x :: Q → p ∈ V ++ [x] ∨ p ∈ Q ++ par cm x := fun p hp => by
    rcases hp with h1 | h1
    · exact .inl (List.mem_append_left _ h1)
    · rcases List.mem_cons.1 h1 with rfl | h2
      · exact .inl (List.mem_append_right _ (by simp))
      · exact .inr (List.mem_append_left _ h2)
  refine ⟨fun p hp => key p (h.start p hp), fun v hv p hp => ?_, fun hm => ?_⟩
  · rcases List.mem_append.1 hv with h1 | h1
    · exact key p (h.shut v h1 p hp)
    · rw [List.mem_singleton.1 h1] at hp
      exact .inr (List.mem_append_right _ hp)
  · rcases List.mem_append.1 hm with h1 | h1
    · exact h.off h1
    · exact hx (List.mem_singleton.1 h1).symm
theorem Rnd.done {x0 : Idl} {P V : List Idl} (h : Rnd cm x0 P V []) {p z : Idl} (hp : p ∈ P) (hr : Reach cm p z) : z ≠ x0 := by
  have : z ∈ V := by
    induction hr with
    | refl => exact (h.start _ hp).resolve_right (by simp)
    | tail _ hz ih => exact (h.shut _ ih _ hz).resolve_right (by simp)
  exact fun e => h.off (e ▸ this)
/-- A right commit's parents. -/
def parsO (o : Ob) : List Idl := match commitOf o.body with
  | some c => c.2.1
  | none => []
def allP (l : List Ob) : List Idl := (rights l).flatMap parsO
theorem parsO_len (o : Ob) : (parsO o).length ≤ 4 ∧ ∀ p ∈ parsO o, p.length = 32 := by
  unfold parsO
  cases e : commitOf o.body with
  | none => exact ⟨by simp, fun p hp => by cases hp⟩
  | some c =>
    obtain ⟨t, p, s⟩ := c
    have := commitOf_len e
    exact ⟨this.2.2.1, this.2.1⟩
theorem flatMap_len (l : List Ob) : (l.flatMap parsO).length ≤ 4 * l.length := by
  induction l with
  | nil => exact Nat.le_refl _
  | cons a l ih =>
    rw [List.flatMap_cons, List.length_append, List.length_cons]
    have := (parsO_len a).1
    omega
theorem allP_len (l : List Ob) : (allP l).length ≤ 4 * l.length := by
  have h1 := flatMap_len (rights l)
  have h2 : (rights l).length ≤ l.length := List.length_filter_le _ _
  unfold allP
  omega
theorem allP_of {l : List Ob} {o : Ob} (h : o ∈ rights l) : ∀ p ∈ parsO o, p ∈ allP l := fun _ hp => List.mem_flatMap.2 ⟨o, h, hp⟩
theorem allP_par (l : List Ob) (x : Idl) : ∀ p ∈ par (cmG (getS l)) x, p ∈ allP l := fun p hp => by
  cases e : cmG (getS l) x with
  | none => unfold par at hp; rw [e] at hp; cases hp
  | some c =>
    rw [par_of e] at hp
    obtain ⟨o, h1, _, h3⟩ := cmG_some e
    obtain ⟨g1, g2, _⟩ := getS_some h1
    exact allP_of (List.mem_filter.2 ⟨g1, g2⟩) p (by unfold parsO; rw [h3]; exact hp)
theorem allP_32 (l : List Ob) : ∀ p ∈ allP l, p.length = 32 := fun p hp => by
  obtain ⟨o, _, h⟩ := List.mem_flatMap.1 hp
  exact (parsO_len o).2 p h
/-- Asked of an object: it isn't its own ancestor. -/
def NoRnd (l : List Ob) (o : Ob) : Prop := o.kind = 3 → ∀ p ∈ parsO o, ∀ z, Reach (cmG (getS l)) p z → z ≠ idO o
theorem acyc_of {l : List Ob} (h : ∀ o ∈ rights l, NoRnd l o) : Acyc (cmG (getS l)) := fun x y hy hr => by
  cases e : cmG (getS l) x with
  | none => unfold par at hy; rw [e] at hy; cases hy
  | some c =>
    rw [par_of e] at hy
    obtain ⟨o, h1, h2, h3⟩ := cmG_some e
    obtain ⟨g1, g2, g3⟩ := getS_some h1
    exact h o (List.mem_filter.2 ⟨g1, g2⟩) h2 y (by unfold parsO; rw [h3]; exact hy) x hr g3.symm

theorem log_head (ha : Acyc cm) {id : Idl} {S : List Idl} (h : IsLine cm id S) : ∃ T, logOf cm S = id :: T := by
  have hid : id ∈ S := (h.mem id).2 (.refl _)
  have hpos : 0 < S.length := List.length_pos_of_mem hid
  have hlen := logOf_len ha h.nodup
  have hT := logOf_telling (cm := cm) S
  cases e : logOf cm S with
  | nil => rw [e] at hlen; simp at hlen; omega
  | cons x T =>
    rw [e] at hT
    have hx : x ∈ S := hT.sub x (by simp)
    have hr := (h.mem x).1 hx
    have : x = id := by
      cases hr with
      | refl => rfl
      | tail h1 hz =>
        rename_i y
        have hy : y ∈ S := (h.mem y).2 h1
        have := hT.ahead 0 (by simp) y hy (by simpa using hz)
        simp at this
    exact ⟨T, by rw [this]⟩
end Go.Proofs.YtbmiiiccnoiffaaGreatDoor
namespace Go.Proofs.YtbmiiiccnoiffaaGreatDoor
variable {cm : Idl → Option Cmt}
/-- Is a commit older than another one? -/
noncomputable def olderL (cm : Idl → Option Cmt) (x y : Idl) : Bool := decide (x ∈ (lineL cm y).getD []) && decide (x ≠ y)
theorem olderL_line {x y : Idl} {B : List Idl} (h : lineL cm y = some B) : olderL cm x y = (decide (x ∈ B) && decide (x ≠ y)) := by unfold olderL; rw [h]; rfl
theorem olderL_iff {x y : Idl} {B : List Idl} (h : lineL cm y = some B) : olderL cm x y = true ↔ Older cm x y := by
  rw [olderL_line h, Bool.and_eq_true, decide_eq_true_iff, decide_eq_true_iff]
  exact older_line (lineL_some h).1
/-- HistoryOrder. -/
theorem order_no {id : Idl} {S : List Idl} (h : lineL cm id = some S) {k i : Nat} (hki : k < i) (hi : i < (logOf cm S).length) {B : List Idl} (hB : lineL cm (logOf cm S)[i] = some B) : olderL cm ((logOf cm S)[k]'(by omega)) (logOf cm S)[i] = false := by
  cases e : olderL cm ((logOf cm S)[k]'(by omega)) (logOf cm S)[i] with
  | false => rfl
  | true =>
    have h1 := (olderL_iff hB).1 e
    have := telling_ahead (lineL_some h).1.closed (logOf_telling S) (by omega : k < _) hi h1.2
    omega
theorem order_ne {S : List Idl} {k i : Nat} (hki : k < i) (hi : i < (logOf cm S).length) : (logOf cm S)[k]'(by omega) ≠ (logOf cm S)[i] := fun e => by
  have := (List.getElem_inj (logOf_telling (cm := cm) S).nodup).1 e
  omega
/-- HistoryAges. -/
theorem ages_self {x : Idl} : olderL cm x x = false := by unfold olderL; simp
theorem ages_less (ha : Acyc cm) {id x y : Idl} {S Y : List Idl} (h : lineL cm id = some S) (hl : S.length ≤ 1000) (hy : y ∈ S) (hY : lineL cm y = some Y) (hxy : olderL cm x y = true) : ageOf cm x < ageOf cm y := by
  obtain ⟨h1, h2⟩ := (olderL_iff hY).1 hxy
  rcases (age_reach ha (lineL_some h).1.closed hl hy h2).2 with e | h3
  · exact absurd e.symm h1
  · exact h3
theorem ages_trans (ha : Acyc cm) {id x y : Idl} {S Y : List Idl} (h : lineL cm id = some S) (hY : lineL cm y = some Y) (hxy : olderL cm x y = true) (hyt : olderL cm y id = true) : olderL cm x id = true :=
  (olderL_iff h).2 (((olderL_iff hY).1 hxy).trans ha ((olderL_iff h).1 hyt))
end Go.Proofs.YtbmiiiccnoiffaaGreatDoor
namespace Go.Proofs.YtbmiiiccnoiffaaGreatDoor
open Go.RowKit

set_option maxRecDepth 100000 in
set_option maxHeartbeats 4000000 in
theorem clash28_any (v : Value) (l : List Ob) (w : World) (hv : ObRow w v l) :
    Calls Tryz.prog 17 #[v] w fun e w' => e = .returned (.bool (clashB l)) ∧ Below w.heap.size w w' := by
  obtain ⟨ao, cap, rfl, hmax, hv⟩ := hv.open
  unfold maxLen at hmax
  have HV := Lib.hid hv
  have h2 : ∀ (a : Int) (s : ByteArray), (Tryz.prog.info? 93).map (·.size) = some [Value.int .i64 a, Value.string s].length := fun a s => by kernel_rfl
  have H2 := Lib.hid h2
  clear hv h2
  go_enter Tryz.func17, Tryz.ntmps17
  go_wp2
  go_loopw [3, 4] (fun i _ wr => ∃ k : Nat, k ≤ l.length ∧ i = .int .i64 k ∧ Hid (∀ i, i < k → ∀ j, j < i → clashAt l i j = false) ∧ Below w.heap.size w wr) (fun i _ _ => (l.length - intOf i).toNat)
  case atStart => exact ⟨0, by omega, rfl, (fun i hi => absurd hi (by omega)), Below.refl _ _⟩
  case round =>
    obtain ⟨wo, rfl⟩ : ∃ wo : World, wo = wr := ⟨_, rfl⟩
    obtain ⟨k, hk, rfl, hno, hb⟩ := hrel
    by_cases hlt : k < l.length
    · have HNO := Lib.hid hno.out
      have HBO := Lib.hid hb
      obtain ⟨b, off, rfl, hbl, hcell⟩ := HV.out (by intro e; rw [e] at hlt; simp at hlt)
      have HC := Lib.hid (fun j (hj : j < l.length) (w' : World) (hb' : Below w.heap.size w w') => rangeAt_below (hcell j hj) hb' hbl)
      clear hno hb hcell
      go_wp2
      go_loopw [4] (fun j wr => ∃ m : Nat, m ≤ k ∧ j = .int .i64 m ∧ Hid (∀ j, j < m → clashAt l k j = false) ∧ Below wo.heap.size wo wr) (fun j _ => (k - intOf j).toNat)
      case atStart => exact ⟨0, by omega, rfl, (fun j hj => absurd hj (by omega)), Below.refl _ _⟩
      case round =>
        obtain ⟨wi, rfl⟩ : ∃ wi : World, wi = wr := ⟨_, rfl⟩
        obtain ⟨m, hm, rfl, hnm, hbi⟩ := hrel
        by_cases hmk : m < k
        · have hbw : Below w.heap.size w wi := HBO.out.trans (hbi.mono HBO.out.size)
          have f1 : wi.rangeAt b (off + k * 2) [.int .i64 l[k].kind, .string l[k].body] := HC.out k hlt wi hbw
          have f2 : wi.rangeAt b (off + m * 2) [.int .i64 l[m].kind, .string l[m].body] := HC.out m (by omega) wi hbw
          have hbli : b < wi.heap.size := by have := hbw.size; omega
          have k0 : (0 : Int) ≤ k := by omega
          have k1 : (k : Int) < l.length := by omega
          have m0 : (0 : Int) ≤ m := by omega
          have m1 : (m : Int) < l.length := by omega
          have hma : m < l.length := by omega
          have HA := Lib.hid (clashAt_eq l hlt hma)
          have HF := Lib.hid (clash_found (l := l) hlt hmk)
          have HRA := Lib.hid (fun w => rright_any l[k].kind l[k].body w)
          have HRB := Lib.hid (fun w => rright_any l[m].kind l[m].body w)
          have HIA := Lib.hid (fun w (h : rightOb ⟨l[k].kind, l[k].body⟩ = true) => rido_any l[k].kind l[k].body w (by have := right_small h; omega))
          have HIB := Lib.hid (fun w (h : rightOb ⟨l[m].kind, l[m].body⟩ = true) => rido_any l[m].kind l[m].body w (by have := right_small h; omega))
          have HNM := Lib.hid hnm.out
          have HNX : Hid (clashAt l k m = false → ∀ j, j < m + 1 → clashAt l k j = false) := Lib.hid (fun h j hj => by
            rcases Nat.lt_or_ge j m with h1 | h1
            · exact hnm.out j h1
            · obtain rfl : j = m := by omega
              exact h)
          have s1 := H2.out l[k].kind l[k].body
          have s2 := H2.out l[m].kind l[m].body
          have HYES := Lib.hid (fun hh w => ob_eq_yes (a := l[k]'hlt) (b := l[m]'hma) hh w)
          have HNOT := Lib.hid (fun hh w => ob_eq_no (a := l[k]'hlt) (b := l[m]'hma) hh w)
          have HLA := idO_len l[k]
          have HLB := idO_len l[m]
          clear hnm hbw
          generalize l[k] = A at f1 HA HRA HIA s1 HYES HNOT HLA
          generalize l[m] = B at f2 HA HRB HIB s2 HYES HNOT HLB
          obtain ⟨ka, sa⟩ := A
          obtain ⟨kb, sb⟩ := B
          dsimp only at f1 f2 HRA HRB HIA HIB s1 s2 HYES HNOT
          cases hne : obNe ⟨ka, sa⟩ ⟨kb, sb⟩ with
          | false =>
            have heq := HYES.out hne
            have HCA : Hid (clashAt l k m = false) := by unfold Hid; rw [HA.out, hne]; rfl
            clear hne
            go_wp2
            refine wp_region_bq (by kernel_rfl) (by kernel_rfl) ?_
            repeat (go_big_quiet_step ((go_at_call 57; with_reducible exact calls_bw (HRA.out _))))
            refine bq_row 93 _ _ rfl rfl rfl f1 (by omega) Tryz.underlying93 rfl s1 ?_
            simp only [Act.put, List.setIfInBounds_toArray, List.set_cons_zero, List.set_cons_succ]
            repeat (go_big_quiet_step ((go_at_call 57; with_reducible exact calls_bw (HRA.out _))))
            refine bq_row 93 _ _ rfl rfl rfl f2 (by omega) Tryz.underlying93 rfl s2 ?_
            simp only [Act.put, List.setIfInBounds_toArray, List.set_cons_zero, List.set_cons_succ]
            repeat (go_big_quiet_step ((go_at_call 57; with_reducible exact calls_bw (HRA.out _))))
            refine wpQuiet_nil ?_
            intro wq hbq
            have HBI := Lib.hid (hbi.trans (hbq.mono hbi.size))
            clear hbi hbq f1 f2
            go_wp2
            go_roundw
            case rel => exact ⟨m + 1, by omega, by go_num, HNX.out HCA.out, HBI.out⟩
            case measure => simp [intOf]; omega
          | true =>
            have heq := HNOT.out hne
            cases hra : rightOb ⟨ka, sa⟩ with
            | false =>
              have HCA : Hid (clashAt l k m = false) := by unfold Hid; rw [HA.out, hne, hra]; rfl
              rw [hra] at HRA
              clear hne hra
              go_wp2
              refine wp_region_bq (by kernel_rfl) (by kernel_rfl) ?_
              repeat (go_big_quiet_step ((go_at_call 57; with_reducible exact calls_bw (HRA.out _))))
              refine bq_row 93 _ _ rfl rfl rfl f1 (by omega) Tryz.underlying93 rfl s1 ?_
              simp only [Act.put, List.setIfInBounds_toArray, List.set_cons_zero, List.set_cons_succ]
              repeat (go_big_quiet_step ((go_at_call 57; with_reducible exact calls_bw (HRA.out _))))
              refine bq_row 93 _ _ rfl rfl rfl f2 (by omega) Tryz.underlying93 rfl s2 ?_
              simp only [Act.put, List.setIfInBounds_toArray, List.set_cons_zero, List.set_cons_succ]
              repeat (go_big_quiet_step ((go_at_call 57; with_reducible exact calls_bw (HRA.out _))))
              refine bq_row 93 _ _ rfl rfl rfl f1 (by omega) Tryz.underlying93 rfl s1 ?_
              simp only [Act.put, List.setIfInBounds_toArray, List.set_cons_zero, List.set_cons_succ]
              repeat (go_big_quiet_step ((go_at_call 57; with_reducible exact calls_bw (HRA.out _))))
              refine wpQuiet_nil ?_
              intro wq hbq
              have HBI := Lib.hid (hbi.trans (hbq.mono hbi.size))
              clear hbi hbq f1 f2
              go_wp2
              go_roundw
              case rel => exact ⟨m + 1, by omega, by go_num, HNX.out HCA.out, HBI.out⟩
              case measure => simp [intOf]; omega
            | true =>
              cases hrb : rightOb ⟨kb, sb⟩ with
              | false =>
                have HCA : Hid (clashAt l k m = false) := by unfold Hid; rw [HA.out, hne, hra, hrb]; rfl
                rw [hra] at HRA
                rw [hrb] at HRB
                clear hne hra hrb
                go_wp2
                refine wp_region_bq (by kernel_rfl) (by kernel_rfl) ?_
                repeat (go_big_quiet_step ((first | (go_at_call 57; with_reducible exact calls_bw (HRA.out _)) | (go_at_call 57; with_reducible exact calls_bw (HRB.out _)))))
                refine bq_row 93 _ _ rfl rfl rfl f1 (by omega) Tryz.underlying93 rfl s1 ?_
                simp only [Act.put, List.setIfInBounds_toArray, List.set_cons_zero, List.set_cons_succ]
                repeat (go_big_quiet_step ((first | (go_at_call 57; with_reducible exact calls_bw (HRA.out _)) | (go_at_call 57; with_reducible exact calls_bw (HRB.out _)))))
                refine bq_row 93 _ _ rfl rfl rfl f2 (by omega) Tryz.underlying93 rfl s2 ?_
                simp only [Act.put, List.setIfInBounds_toArray, List.set_cons_zero, List.set_cons_succ]
                repeat (go_big_quiet_step ((first | (go_at_call 57; with_reducible exact calls_bw (HRA.out _)) | (go_at_call 57; with_reducible exact calls_bw (HRB.out _)))))
                refine bq_row 93 _ _ rfl rfl rfl f1 (by omega) Tryz.underlying93 rfl s1 ?_
                simp only [Act.put, List.setIfInBounds_toArray, List.set_cons_zero, List.set_cons_succ]
                repeat (go_big_quiet_step ((first | (go_at_call 57; with_reducible exact calls_bw (HRA.out _)) | (go_at_call 57; with_reducible exact calls_bw (HRB.out _)))))
                refine bq_row 93 _ _ rfl rfl rfl f2 (by omega) Tryz.underlying93 rfl s2 ?_
                simp only [Act.put, List.setIfInBounds_toArray, List.set_cons_zero, List.set_cons_succ]
                repeat (go_big_quiet_step ((first | (go_at_call 57; with_reducible exact calls_bw (HRA.out _)) | (go_at_call 57; with_reducible exact calls_bw (HRB.out _)))))
                refine wpQuiet_nil ?_
                intro wq hbq
                have HBI := Lib.hid (hbi.trans (hbq.mono hbi.size))
                clear hbi hbq f1 f2
                go_wp2
                go_roundw
                case rel => exact ⟨m + 1, by omega, by go_num, HNX.out HCA.out, HBI.out⟩
                case measure => simp [intOf]; omega
              | true =>
                have HIA2 := Lib.hid (fun w => HIA.out w hra)
                have HIB2 := Lib.hid (fun w => HIB.out w hrb)
                by_cases he : idO ⟨ka, sa⟩ = idO ⟨kb, sb⟩
                · have HCA : Hid (clashAt l k m = true) := by unfold Hid; rw [HA.out, hne, hra, hrb, decide_eq_true he]; rfl
                  have hid := fun w => id_eqIn_yes HLA he w
                  rw [hra] at HRA
                  rw [hrb] at HRB
                  clear hne hra hrb he
                  generalize idC (idO ⟨ka, sa⟩) = ua at HIA2 hid
                  generalize idC (idO ⟨kb, sb⟩) = ub at HIB2 hid
                  go_wp2
                  refine wp_region_bq (by kernel_rfl) (by kernel_rfl) ?_
                  repeat (go_big_quiet_step ((first | (go_at_call 57; with_reducible exact calls_bw (HRA.out _)) | (go_at_call 57; with_reducible exact calls_bw (HRB.out _)) | (go_at_call 58; with_reducible exact calls_bw (HIA2.out _)) | (go_at_call 58; with_reducible exact calls_bw (HIB2.out _)))))
                  refine bq_row 93 _ _ rfl rfl rfl f1 (by omega) Tryz.underlying93 rfl s1 ?_
                  simp only [Act.put, List.setIfInBounds_toArray, List.set_cons_zero, List.set_cons_succ]
                  repeat (go_big_quiet_step ((first | (go_at_call 57; with_reducible exact calls_bw (HRA.out _)) | (go_at_call 57; with_reducible exact calls_bw (HRB.out _)) | (go_at_call 58; with_reducible exact calls_bw (HIA2.out _)) | (go_at_call 58; with_reducible exact calls_bw (HIB2.out _)))))
                  refine bq_row 93 _ _ rfl rfl rfl f2 (by omega) Tryz.underlying93 rfl s2 ?_
                  simp only [Act.put, List.setIfInBounds_toArray, List.set_cons_zero, List.set_cons_succ]
                  repeat (go_big_quiet_step ((first | (go_at_call 57; with_reducible exact calls_bw (HRA.out _)) | (go_at_call 57; with_reducible exact calls_bw (HRB.out _)) | (go_at_call 58; with_reducible exact calls_bw (HIA2.out _)) | (go_at_call 58; with_reducible exact calls_bw (HIB2.out _)))))
                  refine bq_row 93 _ _ rfl rfl rfl f1 (by omega) Tryz.underlying93 rfl s1 ?_
                  simp only [Act.put, List.setIfInBounds_toArray, List.set_cons_zero, List.set_cons_succ]
                  repeat (go_big_quiet_step ((first | (go_at_call 57; with_reducible exact calls_bw (HRA.out _)) | (go_at_call 57; with_reducible exact calls_bw (HRB.out _)) | (go_at_call 58; with_reducible exact calls_bw (HIA2.out _)) | (go_at_call 58; with_reducible exact calls_bw (HIB2.out _)))))
                  refine bq_row 93 _ _ rfl rfl rfl f2 (by omega) Tryz.underlying93 rfl s2 ?_
                  simp only [Act.put, List.setIfInBounds_toArray, List.set_cons_zero, List.set_cons_succ]
                  repeat (go_big_quiet_step ((first | (go_at_call 57; with_reducible exact calls_bw (HRA.out _)) | (go_at_call 57; with_reducible exact calls_bw (HRB.out _)) | (go_at_call 58; with_reducible exact calls_bw (HIA2.out _)) | (go_at_call 58; with_reducible exact calls_bw (HIB2.out _)))))
                  refine bq_row 93 _ _ rfl rfl rfl f1 (by omega) Tryz.underlying93 rfl s1 ?_
                  simp only [Act.put, List.setIfInBounds_toArray, List.set_cons_zero, List.set_cons_succ]
                  repeat (go_big_quiet_step ((first | (go_at_call 57; with_reducible exact calls_bw (HRA.out _)) | (go_at_call 57; with_reducible exact calls_bw (HRB.out _)) | (go_at_call 58; with_reducible exact calls_bw (HIA2.out _)) | (go_at_call 58; with_reducible exact calls_bw (HIB2.out _)))))
                  refine bq_row 93 _ _ rfl rfl rfl f2 (by omega) Tryz.underlying93 rfl s2 ?_
                  simp only [Act.put, List.setIfInBounds_toArray, List.set_cons_zero, List.set_cons_succ]
                  repeat (go_big_quiet_step ((first | (go_at_call 57; with_reducible exact calls_bw (HRA.out _)) | (go_at_call 57; with_reducible exact calls_bw (HRB.out _)) | (go_at_call 58; with_reducible exact calls_bw (HIA2.out _)) | (go_at_call 58; with_reducible exact calls_bw (HIB2.out _)))))
                  refine wpQuiet_nil ?_
                  intro wq hbq
                  go_wp2
                  go_ret
                  exact ⟨ret_bool (HF.out HCA.out).symm, HBO.out.trans ((hbi.trans (hbq.mono hbi.size)).mono HBO.out.size)⟩
                · have HCA : Hid (clashAt l k m = false) := by unfold Hid; rw [HA.out, decide_eq_false he, Bool.and_false]
                  have hid := fun w => id_eqIn_no HLA HLB he w
                  rw [hra] at HRA
                  rw [hrb] at HRB
                  clear hne hra hrb he
                  generalize idC (idO ⟨ka, sa⟩) = ua at HIA2 hid
                  generalize idC (idO ⟨kb, sb⟩) = ub at HIB2 hid
                  go_wp2
                  refine wp_region_bq (by kernel_rfl) (by kernel_rfl) ?_
                  repeat (go_big_quiet_step ((first | (go_at_call 57; with_reducible exact calls_bw (HRA.out _)) | (go_at_call 57; with_reducible exact calls_bw (HRB.out _)) | (go_at_call 58; with_reducible exact calls_bw (HIA2.out _)) | (go_at_call 58; with_reducible exact calls_bw (HIB2.out _)))))
                  refine bq_row 93 _ _ rfl rfl rfl f1 (by omega) Tryz.underlying93 rfl s1 ?_
                  simp only [Act.put, List.setIfInBounds_toArray, List.set_cons_zero, List.set_cons_succ]
                  repeat (go_big_quiet_step ((first | (go_at_call 57; with_reducible exact calls_bw (HRA.out _)) | (go_at_call 57; with_reducible exact calls_bw (HRB.out _)) | (go_at_call 58; with_reducible exact calls_bw (HIA2.out _)) | (go_at_call 58; with_reducible exact calls_bw (HIB2.out _)))))
                  refine bq_row 93 _ _ rfl rfl rfl f2 (by omega) Tryz.underlying93 rfl s2 ?_
                  simp only [Act.put, List.setIfInBounds_toArray, List.set_cons_zero, List.set_cons_succ]
                  repeat (go_big_quiet_step ((first | (go_at_call 57; with_reducible exact calls_bw (HRA.out _)) | (go_at_call 57; with_reducible exact calls_bw (HRB.out _)) | (go_at_call 58; with_reducible exact calls_bw (HIA2.out _)) | (go_at_call 58; with_reducible exact calls_bw (HIB2.out _)))))
                  refine bq_row 93 _ _ rfl rfl rfl f1 (by omega) Tryz.underlying93 rfl s1 ?_
                  simp only [Act.put, List.setIfInBounds_toArray, List.set_cons_zero, List.set_cons_succ]
                  repeat (go_big_quiet_step ((first | (go_at_call 57; with_reducible exact calls_bw (HRA.out _)) | (go_at_call 57; with_reducible exact calls_bw (HRB.out _)) | (go_at_call 58; with_reducible exact calls_bw (HIA2.out _)) | (go_at_call 58; with_reducible exact calls_bw (HIB2.out _)))))
                  refine bq_row 93 _ _ rfl rfl rfl f2 (by omega) Tryz.underlying93 rfl s2 ?_
                  simp only [Act.put, List.setIfInBounds_toArray, List.set_cons_zero, List.set_cons_succ]
                  repeat (go_big_quiet_step ((first | (go_at_call 57; with_reducible exact calls_bw (HRA.out _)) | (go_at_call 57; with_reducible exact calls_bw (HRB.out _)) | (go_at_call 58; with_reducible exact calls_bw (HIA2.out _)) | (go_at_call 58; with_reducible exact calls_bw (HIB2.out _)))))
                  refine bq_row 93 _ _ rfl rfl rfl f1 (by omega) Tryz.underlying93 rfl s1 ?_
                  simp only [Act.put, List.setIfInBounds_toArray, List.set_cons_zero, List.set_cons_succ]
                  repeat (go_big_quiet_step ((first | (go_at_call 57; with_reducible exact calls_bw (HRA.out _)) | (go_at_call 57; with_reducible exact calls_bw (HRB.out _)) | (go_at_call 58; with_reducible exact calls_bw (HIA2.out _)) | (go_at_call 58; with_reducible exact calls_bw (HIB2.out _)))))
                  refine bq_row 93 _ _ rfl rfl rfl f2 (by omega) Tryz.underlying93 rfl s2 ?_
                  simp only [Act.put, List.setIfInBounds_toArray, List.set_cons_zero, List.set_cons_succ]
                  repeat (go_big_quiet_step ((first | (go_at_call 57; with_reducible exact calls_bw (HRA.out _)) | (go_at_call 57; with_reducible exact calls_bw (HRB.out _)) | (go_at_call 58; with_reducible exact calls_bw (HIA2.out _)) | (go_at_call 58; with_reducible exact calls_bw (HIB2.out _)))))
                  refine wpQuiet_nil ?_
                  intro wq hbq
                  have HBI := Lib.hid (hbi.trans (hbq.mono hbi.size))
                  clear hbi hbq f1 f2
                  go_wp2
                  go_roundw
                  case rel => exact ⟨m + 1, by omega, by go_num, HNX.out HCA.out, HBI.out⟩
                  case measure => simp [intOf]; omega
        · obtain rfl : m = k := by omega
          have HN2 : Hid (∀ i, i < m + 1 → ∀ j, j < i → clashAt l i j = false) := Lib.hid (fun i hi => by
            rcases Nat.lt_or_ge i m with h | h
            · exact HNO.out i h
            · obtain rfl : i = m := by omega
              exact hnm.out)
          have HBI := Lib.hid (HBO.out.trans (hbi.mono HBO.out.size))
          clear hnm hbi
          go_wp2
          go_roundw
          case rel => exact ⟨m + 1, by omega, by go_num, HN2.out, HBI.out⟩
          case measure => simp [intOf]; omega
    · obtain rfl : k = l.length := by omega
      have HR : Hid (clashB l = false) := Lib.hid (clash_none hno.out)
      clear hno
      go_wp2
      go_ret
      exact ⟨ret_bool HR.out.symm, hb⟩
end Go.Proofs.YtbmiiiccnoiffaaGreatDoor

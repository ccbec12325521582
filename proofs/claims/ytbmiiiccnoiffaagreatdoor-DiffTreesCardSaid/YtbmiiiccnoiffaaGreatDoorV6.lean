/- Walks: entries read out of a body (the document's). -/
import Derived.Test.YtbmiiiccnoiffaaGreatDoorJH
import Derived.Test.YtbmiiiccnoiffaaGreatDoorJF
namespace Go.Proofs.YtbmiiiccnoiffaaGreatDoor
open Go.RowKit

/-- How much is left to read, as the reader in block b has it. -/
def leftM (b : Nat) (w : World) : Nat := match w.cell? ⟨b, 1, none⟩, w.cell? ⟨b, 2, none⟩ with
  | some (.int _ p), some (.int _ e) => if e = 0 then 1000001 - p.toNat else 0
  | _, _ => 0
theorem leftM_eq {b : Nat} {w : World} {r : Rd} (h : Arr w b 3 r.c) : leftM b w = if r.err = 0 then 1000001 - r.pos else 0 := by
  unfold leftM
  have c1 : w.cell? ⟨b, 1, none⟩ = some (.int .i64 (r.pos : Int)) := h.cell 1 (by omega)
  have c2 : w.cell? ⟨b, 2, none⟩ = some (.int .i64 (r.err : Int)) := h.cell 2 (by omega)
  rw [c1, c2]
  by_cases h0 : r.err = 0
  · simp [h0]
  · simp [h0]
theorem rd0_arr (w : World) (s : ByteArray) (e : TypeId) : Arr (w.alloc (.cells #[.string s, .int .i64 0, .int .i64 0] e)) w.heap.size 3 (rd0 s).c :=
  (Arr.ofList w [.string s, .int .i64 0, .int .i64 0] e).congr fun k hk => by
    obtain h | h | h : k = 0 ∨ k = 1 ∨ k = 2 := by simp at hk; omega
    all_goals subst h; rfl
def entZ (k : Nat) : Value := if k = 0 then .string ByteArray.empty else if k = 1 then .int .i64 0 else .int .u8 0
theorem entZ_list : #[.string ⟨#[]⟩, .int .i64 0, .int .u8 0, .int .u8 0, .int .u8 0, .int .u8 0, .int .u8 0, .int .u8 0, .int .u8 0, .int .u8 0, .int .u8 0, .int .u8 0, .int .u8 0, .int .u8 0, .int .u8 0, .int .u8 0, .int .u8 0, .int .u8 0, .int .u8 0, .int .u8 0, .int .u8 0, .int .u8 0, .int .u8 0, .int .u8 0, .int .u8 0, .int .u8 0, .int .u8 0, .int .u8 0, .int .u8 0, .int .u8 0, .int .u8 0, .int .u8 0, .int .u8 0, .int .u8 0] = ((List.range 34).map entZ).toArray := by kernel_rfl
theorem ent_zero : ∃ (zs : Array Value) (i0 : TypeInfo), Tryz.prog.info? 152 = some i0 ∧ i0.zero = some (.agg zs) ∧ i0.size = 34 ∧ i0.bytes = 56 ∧ (∀ w, (zeroValue 152).run Tryz.prog w = .ok (.agg zs) w) ∧ (∀ w, (Instr.build 152 #[]).run Tryz.prog w = .ok (.agg zs) w) ∧ zs = ((List.range 34).map entZ).toArray := by
  have h : (Tryz.prog.info? 152).map (fun i => (i.zero, i.size, i.bytes)) = some (some (.agg #[.string ⟨#[]⟩, .int .i64 0, .int .u8 0, .int .u8 0, .int .u8 0, .int .u8 0, .int .u8 0, .int .u8 0, .int .u8 0, .int .u8 0, .int .u8 0, .int .u8 0, .int .u8 0, .int .u8 0, .int .u8 0, .int .u8 0, .int .u8 0, .int .u8 0, .int .u8 0, .int .u8 0, .int .u8 0, .int .u8 0, .int .u8 0, .int .u8 0, .int .u8 0, .int .u8 0, .int .u8 0, .int .u8 0, .int .u8 0, .int .u8 0, .int .u8 0, .int .u8 0, .int .u8 0, .int .u8 0]), 34, 56) := by kernel_rfl
  obtain ⟨i0, hi, hz0, hz1, hz2⟩ := info_parts h
  exact ⟨#[.string ⟨#[]⟩, .int .i64 0, .int .u8 0, .int .u8 0, .int .u8 0, .int .u8 0, .int .u8 0, .int .u8 0, .int .u8 0, .int .u8 0, .int .u8 0, .int .u8 0, .int .u8 0, .int .u8 0, .int .u8 0, .int .u8 0, .int .u8 0, .int .u8 0, .int .u8 0, .int .u8 0, .int .u8 0, .int .u8 0, .int .u8 0, .int .u8 0, .int .u8 0, .int .u8 0, .int .u8 0, .int .u8 0, .int .u8 0, .int .u8 0, .int .u8 0, .int .u8 0, .int .u8 0, .int .u8 0], i0, hi, hz0, hz1, hz2, fun w => by kernel_rfl, fun w => run_build w 152 #[] _ (by kernel_rfl), entZ_list⟩
theorem entZ_one : ∀ v ∈ (List.range 34).map entZ, v.oneCell' = true := by
  intro v hv
  obtain ⟨k, _, rfl⟩ := List.mem_map.1 hv
  unfold entZ; split
  · rfl
  · split <;> rfl
/-- An entry's cells. -/
def entF (e : Ent) (k : Nat) : Value := (entC e).getD k undef
theorem entF_upd (e : Ent) (h : e.id.length = 32) (k : Nat) (hk : k < 34) : (if 2 ≤ k ∧ k < 2 + (idC e.id).length then (idC e.id).getD (k - 2) undef else upd (upd entZ 1 (.int .i64 (e.kind : Int))) 0 (.string e.name) k) = entF e k := by
  have hl : (idC e.id).length = 32 := by rw [idC_len, h]
  rw [hl]
  unfold upd entF entC
  obtain h0 | h0 | h0 : k = 0 ∨ k = 1 ∨ 2 ≤ k := by omega
  · subst h0; rfl
  · subst h0; rfl
  · rw [if_pos ⟨h0, by omega⟩]
    rw [List.getD_eq_getElem?_getD, List.getD_eq_getElem?_getD, List.getElem?_append_right (by simpa using h0)]; rfl
theorem entC_one (e : Ent) : ∀ v ∈ entC e, v.oneCell' = true := by
  intro v hv
  unfold entC at hv
  rcases List.mem_append.1 hv with h | h
  · simp at h; rcases h with rfl | rfl <;> rfl
  · exact idC_one _ v h
theorem cells_newL (w : World) (cs : List Value) (e : TypeId) (j : Nat) (u : Value) (h : cs[j]? = some u) : (w.alloc (.cells cs.toArray e)).cell? ((⟨w.heap.size, 0, none⟩ : Addr).add j) = some u := by
  rw [Addr.add_mid, Nat.zero_add, World.cell?_alloc_new]; simpa using h
theorem entF_list (e : Ent) (h : e.id.length = 32) : (List.range 34).map (entF e) = entC e := by
  have hl : (entC e).length = 34 := by simp [entC, idC_len, h]
  apply List.ext_getElem
  · simp [hl]
  · intro i h1 h2
    simp [entF, h2]
def entsF (l : List Ent) : List Value := (l.map entC).flatten
theorem entsF_snoc (l : List Ent) (e : Ent) : entsF (l ++ [e]) = entsF l ++ entC e := by simp [entsF]
theorem entsF_len (l : List Ent) (h : ∀ e ∈ l, e.id.length = 32) : (entsF l).length = l.length * 34 := by
  induction l with
  | nil => rfl
  | cons a l ih =>
    have := ih (fun e he => h e (List.mem_cons_of_mem _ he))
    have h1 : (entC a).length = 34 := by simp [entC, idC_len, h a (by simp)]
    unfold entsF at this ⊢
    simp only [List.map_cons, List.flatten_cons, List.length_append, List.length_cons, this, h1]; omega

theorem ents_stop (r : Rd) : ∀ (f : Nat) (es : List Ent), r.more = false → r.entsN f es = (r, es)
  | 0, _, _ => rfl
  | _ + 1, _, h => by unfold Rd.entsN; rw [h]; rfl
theorem ents_on (r : Rd) : ∀ (f : Nat) (es : List Ent), r.more = true → 0 < f → r.entsN f es = r.entry.1.entsN (f - 1) (es ++ [r.entry.2])
  | 0, _, _, h => by omega
  | f + 1, es, h, _ => by conv => lhs; unfold Rd.entsN
                          rw [if_pos h]; rfl
theorem own_below {w w' : World} {B : Nat} {e : TypeId} {sz : Nat} {v : Value} {n : Nat} {xs : List Value} (h : w.ownsRow B e sz v n xs) (hb : Below w.heap.size w w') : w'.ownsRow B e sz v n xs :=
  h.kept (grown_of_below hb none) (by cases hv : v.ownBlock <;> simp)
theorem own_grown {w w' : World} {B b : Nat} {e : TypeId} {sz : Nat} {v : Value} {n : Nat} {xs : List Value} (h : w.ownsRow B e sz v n xs) (hg : w.grownBy w' (some b)) (hb : b < B) : w'.ownsRow B e sz v n xs :=
  h.kept hg (by
    cases hv : v.ownBlock with
    | none => exact .inl rfl
    | some g => right; intro e; cases e; have := (h.lt b hv).1; omega)
theorem own_ne {w : World} {B b : Nat} {e : TypeId} {sz : Nat} {v : Value} {n : Nat} {xs : List Value} (h : w.ownsRow B e sz v n xs) (hb : b < B) : v.ownBlock = none ∨ v.ownBlock ≠ some b := by
  cases hv : v.ownBlock with
  | none => exact .inl rfl
  | some g => right; intro e; cases e; have := (h.lt b hv).1; omega
theorem own_new {w : World} {B : Nat} {e : TypeId} {sz : Nat} {v : Value} {n : Nat} {xs : List Value} (h : w.ownsRow B e sz v n xs) : v.ownBlock = none ∨ v.ownBlock ≠ some w.heap.size := by
  cases hv : v.ownBlock with
  | none => exact .inl rfl
  | some g => right; intro e; cases e; have := (h.lt _ hv).2; omega
theorem own_set {w : World} {B b o : Nat} {e : TypeId} {sz : Nat} {v u : Value} {n : Nat} {xs : List Value} (h : w.ownsRow B e sz v n xs) (hne : v.ownBlock = none ∨ v.ownBlock ≠ some b) : (w.setCell ⟨b, o, none⟩ u).ownsRow B e sz v n xs :=
  h.kept (grown_set (World.grownBy.refl w (some b)) u) hne
theorem own_sets {w : World} {B b o : Nat} {e : TypeId} {sz : Nat} {v : Value} {n : Nat} {xs us : List Value} (h : w.ownsRow B e sz v n xs) (hne : v.ownBlock = none ∨ v.ownBlock ≠ some b) : (w.setCells b o us).ownsRow B e sz v n xs :=
  h.kept (grown_setCells us o w (World.grownBy.refl w (some b))) hne
theorem Arr.grownV {w w' : World} {b n : Nat} {c : Nat → Value} (h : Arr w b n c) {row : Option Nat} (hg : w.grownBy w' row) (hne : row ≠ some b) : Arr w' b n c :=
  ⟨fun k hk => hg.cell (h.cell k hk) (fun e => hne e.symm), fun k hk => by
    rw [World.frozen?_of_block (w := w) (a := ⟨b, k, none⟩) (hg.block b (h.lt (by omega)) (fun e => hne e.symm))]; exact h.free k hk⟩
theorem Arr.farSets {w : World} {b n B : Nat} {c : Nat → Value} (h : Arr w b n c) (hne : B ≠ b) : ∀ (us : List Value) (o : Nat), Arr (w.setCells B o us) b n c := fun us o =>
  h.grownV (grown_setCells us o w (World.grownBy.refl w (some B))) (fun e => hne (Option.some.inj e))
/-- What is left of a round: the reader's measure goes down. -/
theorem entry_left (r : Rd) (hf : r.fine) : (if r.entry.1.err = 0 then 1000001 - r.entry.1.pos else 0) < 1000001 - r.pos := by
  have h1 := hf.pos
  have h2 := hf.size
  split
  · rename_i h
    obtain ⟨_, _, h3, _⟩ := r.entry_canon hf h
    omega
  · omega

set_option maxRecDepth 100000 in
set_option maxHeartbeats 4000000 in
theorem rentries_own (s : ByteArray) (w : World) (hs : s.size ≤ 100000) :
    Calls Tryz.prog 87 #[.string s] w fun e w' => ∃ v, e = .returned (.tuple #[v, .bool (treeOf s).isSome]) ∧ (EntRow w' v ((treeOf s).getD []) ∧ w'.ownsRow (w.heap.size + 1) 152 34 v ((treeOf s).getD []).length (((treeOf s).getD []).map entC).flatten) ∧ Below w.heap.size w w' := by
  obtain ⟨zs, i0, hi, hz0, hz1, hz2, hzv, hbu, hzs⟩ := ent_zero
  have hzl : zs.size = 34 := by rw [hzs]; simp
  have HZL := Lib.hid hzl
  have HZS := Lib.hid hzs
  clear hzl hzs
  have HA0 := Lib.hid (rd0_arr w s 180)
  have hb0 : Below w.heap.size w (w.alloc (.cells #[.string s, .int .i64 0, .int .i64 0] 180)) := (Below.refl _ _).alloc (Nat.le_refl _) _
  have HB0 := Lib.hid hb0
  clear hb0
  go_enter Tryz.func87, Tryz.ntmps87
  go_wp2
  go_loopw [5, 6] (fun v _ wr => ∃ (r : Rd) (es : List Ent) (f : Nat), Arr wr w.heap.size 3 r.c ∧ Hid r.fine ∧ r.err ≤ 4 ∧ Hid (r.s = s) ∧ Hid (r.entsN f es = (rd0 s).entsN (s.size + 1) []) ∧ Hid (r.err = 0 → r.s.size - r.pos < f ∧ es.length ≤ r.pos) ∧ Hid (∀ e ∈ es, e.id.length = 32) ∧ es.length ≤ 100001 ∧ wr.ownsRow (w.heap.size + 1) 152 34 v es.length (entsF es) ∧ Below w.heap.size w wr) (fun _ _ wr => leftM w.heap.size wr)
  case atStart => exact ⟨rd0 s, [], s.size + 1, HA0.out, rd0_fine s (by omega), by show 0 ≤ 4; omega, rfl, rfl, (fun _ => ⟨by show s.size - 0 < s.size + 1; omega, Nat.zero_le _⟩), (fun e he => by cases he), by simp, World.ownsRow_nil _ _ _ _, HB0.out⟩
  case round =>
    obtain ⟨wo, rfl⟩ : ∃ wo : World, wo = wr := ⟨_, rfl⟩
    obtain ⟨r, es, f, hA, hf, h4, hrs, hN, hfu, hid, hlen, hown, hb⟩ := hrel
    have c1 : wo.cell? ⟨w.heap.size, 1, none⟩ = some (.int .i64 (r.pos : Int)) := hA.cell 1 (by omega)
    have c2 : wo.cell? ⟨w.heap.size, 2, none⟩ = some (.int .i64 (r.err : Int)) := hA.cell 2 (by omega)
    have hlto := hA.lt (by omega)
    obtain ⟨co, cc, rfl⟩ := own_form hown
    by_cases hm : r.more = true
    · obtain ⟨he0, hps⟩ := of_decide_eq_true hm
      obtain ⟨hfu1, hfu2⟩ := hfu.out he0
      have d1 : ((r.err : Int) == 0) = true := by rw [beq_iff_eq]; omega
      have d2 : decide ((r.pos : Int) < s.size) = true := decide_eq_true (by rw [hrs.out] at hps; omega)
      have d3 : decide (r.pos < s.size) = true := decide_eq_true (by rw [hrs.out] at hps; omega)
      have HLM := Lib.hid (leftM_eq hA)
      have HE0 := Lib.hid he0
      have HM := Lib.hid hm
      have hel := Lib.hid (entry_left r hf.out)
      have hentry : Hid (r.entry = (((r.num 2).1.text 32).1.id.1, ⟨((r.num 2).1.text 32).2, (r.num 2).2, ((r.num 2).1.text 32).1.id.2⟩)) := Lib.hid rfl
      have hf1 := Lib.hid (Rd.num_fine r 2 hf.out)
      have hf2 := Lib.hid (Rd.text_fine _ 32 hf1.out.1)
      have HA := Lib.hid hA
      have HN := Lib.hid (fun W (hA : Arr W w.heap.size 3 r.c) => rnum_any w.heap.size r 2 W hA hf.out (by omega))
      have HT := Lib.hid (fun W (hA : Arr W w.heap.size 3 (r.num 2).1.c) => rtext_any w.heap.size _ 32 W hA hf1.out.1 (by omega))
      have HI := Lib.hid (fun W (hA : Arr W w.heap.size 3 ((r.num 2).1.text 32).1.c) => rid_any w.heap.size _ W hA hf2.out)
      have HIL : Hid ((((r.num 2).1.text 32).1.id.2).length = 32) := Lib.hid (idOf_len _)
      have HEF := Lib.hid (r.entry_fine hf.out)
      have HE4 := Lib.hid (r.entry_err4 h4)
      have HES := Lib.hid (r.entry_s)
      have HECN := Lib.hid (r.entry_canon hf.out)
      have HST : Hid (r.entsN f es = r.entry.1.entsN (f - 1) (es ++ [r.entry.2])) := Lib.hid (ents_on r f es hm (by omega))
      clear hA hm he0
      generalize r.entry = en at hentry hel HEF HE4 HES HECN HST
      obtain ⟨r', e⟩ := en
      generalize r.num 2 = x1 at hentry HN HT hf1 HI HIL hf2
      obtain ⟨r1, kd⟩ := x1
      dsimp only at hentry HN HT hf1 HI HIL hf2
      generalize r1.text 32 = x2 at hentry HT HI HIL hf2
      obtain ⟨r2, nm⟩ := x2
      dsimp only at hentry HT HI HIL hf2
      generalize r2.id = x3 at hentry HI HIL
      obtain ⟨r3, d⟩ := x3
      dsimp only at hentry HI HIL HEF HE4 HES hel HECN HST
      obtain ⟨rfl, rfl⟩ : r' = r3 ∧ e = ⟨nm, kd, d⟩ := by have := hentry.out; injection this with h1 h2; exact ⟨h1, h2⟩
      clear hentry
      have hE0 : Arr (wo.alloc (.cells zs 152)) wo.heap.size 34 entZ := by
        rw [HZS.out]
        exact (Arr.ofList wo ((List.range 34).map entZ) 152).congr fun k hk => by simp at hk; simp [hk]
      have HE0A := Lib.hid hE0
      have hE : Arr ((wo.alloc (.cells zs 152)).setCells wo.heap.size 0 zs.toList) wo.heap.size 34 entZ :=
        (hE0.setCells 0 zs.toList (by rw [Array.length_toList, HZL.out]; exact Nat.le_refl _)).congr fun k hk => by
          rw [Array.length_toList, HZL.out, if_pos ⟨by omega, by omega⟩, HZS.out]; simp [hk]
      have hbW : Below wo.heap.size wo ((wo.alloc (.cells zs 152)).setCells wo.heap.size 0 zs.toList) := below_setCells _ (Nat.le_refl _) _ _ _ ((Below.refl _ _).alloc (Nat.le_refl _) _)
      have HE := Lib.hid hE
      have HBW := Lib.hid hbW
      clear hE0 hE hbW
      go_wp2_with (refine wpList_store_mid rfl 152 _ _ rfl wo.heap.size 0 zs rfl rfl ?g1 ?g2 ?g3 ?_)
      case g1 => rw [HZL.out]; exact HE0A.out.there
      case g2 => exact HZL.out.symm
      case g3 =>
        intro i hi'
        have hm : zs[i] ∈ zs.toList := by simp
        have h2 : zs.toList = (List.range 34).map entZ := by rw [HZS.out]
        exact entZ_one _ (h2 ▸ hm)
      generalize hW : (wo.alloc _).setCells _ _ _ = W
      rw [hW] at HE HBW
      have hAW := HA.out.below HBW.out hlto
      have HOW := Lib.hid (own_below hown HBW.out)
      have hown0 := Lib.hid hown.lt
      have HNE := Lib.hid (own_new hown)
      have HNB := Lib.hid (own_ne hown (Nat.lt_succ_self w.heap.size))
      have hszW : wo.heap.size < W.heap.size := HE.out.lt (by omega)
      clear hW hown c1 c2 HE0A
      refine (HN.out W hAW).mono ?_
      rintro e w1 ⟨rfl, hA1, hg1⟩
      have hE1 := HE.out.grown hg1 (by omega)
      have hO1 := own_grown HOW.out hg1 (by omega)
      have c1 := hE1.cell 1 (by omega)
      have f1 := hE1.free 1 (by omega)
      have HA1 := Lib.hid (hA1.far (p := ⟨wo.heap.size, 1, none⟩) (by show wo.heap.size ≠ _; omega) (.int .i64 (kd : Int)))
      have HE1 := Lib.hid (hE1.set 1 (by omega) (.int .i64 (kd : Int)))
      have HO1 := Lib.hid (own_set (o := 1) (u := .int .i64 (kd : Int)) hO1 HNE.out)
      have HG1 := Lib.hid hg1
      clear hA1 hE1 hO1 hg1
      go_wp2_with fail
      refine (HT.out _ HA1.out).mono ?_
      rintro e w2 ⟨rfl, hA2, hg2⟩
      have hE2 := HE1.out.grown hg2 (by omega)
      have hO2 := own_grown HO1.out hg2 (by omega)
      have c2 := hE2.cell 0 (by omega)
      have f2 := hE2.free 0 (by omega)
      have HA2 := Lib.hid (hA2.far (p := ⟨wo.heap.size, 0, none⟩) (by show wo.heap.size ≠ _; omega) (.string nm))
      have HE2 := Lib.hid (hE2.set 0 (by omega) (.string nm))
      have HO2 := Lib.hid (own_set (o := 0) (u := .string nm) hO2 HNE.out)
      have HG2 := Lib.hid hg2
      clear hA2 hE2 hO2 hg2 c1 f1
      go_wp2_with fail
      refine (HI.out _ HA2.out).mono ?_
      rintro e w3 ⟨rfl, hA3, hg3⟩
      have hdl : (idC d).length = 32 := by rw [idC_len, HIL.out]
      have hE3 := HE2.out.grown hg3 (by omega)
      have hO3 := own_grown HO2.out hg3 (by omega)
      have HA3 := Lib.hid (hA3.farSets (B := wo.heap.size) (by omega) (idC d) 2)
      have HE3 := Lib.hid ((hE3.setCells 2 (idC d) (by omega)).congr (fun k hk => entF_upd ⟨nm, kd, d⟩ HIL.out k hk))
      have HO3 := Lib.hid (own_sets (o := 2) (us := idC d) hO3 HNE.out)
      have hth : w3.there wo.heap.size 2 32 := fun j hj => ⟨by rw [hE3.cell _ (by omega)]; rfl, hE3.free _ (by omega)⟩
      have HTH := Lib.hid hth
      have HG3 := Lib.hid hg3
      have HDL := Lib.hid hdl
      have HDO := Lib.hid (idC_one d)
      have h32 : (Tryz.prog.info? 24).map (·.size) = some 32 := by kernel_rfl
      have hel34 : (entC ⟨nm, kd, d⟩).length = 34 := by simp [entC, idC_len, HIL.out]
      have h34 : (Tryz.prog.info? 152).map (·.size) = some (entC ⟨nm, kd, d⟩).length := by
        rw [hel34, hi]; exact congrArg some hz1
      have HEL34 := Lib.hid hel34
      have HOC := Lib.hid (entC_one ⟨nm, kd, d⟩)
      clear hel34
      clear hA3 hE3 hO3 hg3 c2 f2 hth hdl
      have hdv : idV d = .agg (idC d).toArray := rfl
      rw [hdv]
      clear hdv
      generalize hcs : entC ⟨nm, kd, d⟩ = cs at h34 HEL34 HOC
      have hrg := HE3.out.range
      rw [entF_list ⟨nm, kd, d⟩ HIL.out, hcs] at hrg
      have HCS := Lib.hid hcs
      clear hcs
      have HSZC : Hid (∀ w, (sizeOf 152).run Tryz.prog w = .ok cs.length w) := Lib.hid (fun w => by rw [HEL34.out]; kernel_rfl)
      have HPC := Lib.hid (show 0 < cs.length by rw [HEL34.out]; omega)
      have HLC := Lib.hid (show cs.length ≤ 1000 by rw [HEL34.out]; omega)
      generalize hus : idC d = us at HA3 HE3 HO3 HDL HDO hrg
      clear hus
      have HRG := Lib.hid hrg
      have hsz4 : wo.heap.size < (w3.setCells wo.heap.size 2 us).heap.size := HE3.out.lt (show 0 < 34 by omega)
      have HSZ4 := Lib.hid hsz4
      clear hrg hsz4
      go_wp2_with (first | (refine wpList_store_list rfl 24 _ _ rfl wo.heap.size 2 us ?y1 ?y2 32 HDL.out ?y4 h32 HDO.out ?_) | (refine wpList_load_mid rfl 152 _ rfl wo.heap.size 0 rfl cs _ HRG.out Tryz.underlying152 rfl h34 ?_) | (refine wpList_buildSlice_one rfl (.tmp 35) 147 152 rfl cs zs rfl Tryz.underlying147 HSZC.out hzv HPC.out HLC.out ?_) | (at_builtin; refine wpList_append_own _ rfl (.tmp 34) (.tmp 36) 147 rfl (w.heap.size + 1) 152 i0 (.agg zs) 34 56 Tryz.underlying147 hi hz0 hz1 hz2 HZL.out (by decide) _ es.length (entsF es) rfl (HO3.out.alloc _) ⟨(w3.setCells wo.heap.size 2 us).heap.size, 0, none⟩ 1 1 cs ?a1 HEL34.out ?a2 HOC.out ?a3 ?a4 ?a5 ?_))
      try case y1 => rfl
      try case y2 => rfl
      try case y4 => exact HTH.out
      case a2 => exact fun j u hj => cells_newL _ cs _ j u hj
      case a3 => unfold maxLen; omega
      case a4 => omega
      case a5 => rw [World.size_alloc]; have := HSZ4.out; omega
      intro v' w5 hown5 hg5 _
      have hb4 : Below w.heap.size w (w3.setCells wo.heap.size 2 us) := by
        refine below_setCells _ (by omega) _ _ _ ?_
        have q1 := (hb.trans (HBW.out.mono hb.size)).grown HG1.out (by have := HBW.out.size; omega) (fun k hk => by cases hk; exact Nat.le_refl _)
        have q2 := (q1.setCell (p := ⟨wo.heap.size, 1, none⟩) (by show w.heap.size ≤ wo.heap.size; omega) (.int .i64 (kd : Int))).grown HG2.out (by have := HG1.out.size; simp; omega) (fun k hk => by cases hk; exact Nat.le_refl _)
        exact (q2.setCell (p := ⟨wo.heap.size, 0, none⟩) (by show w.heap.size ≤ wo.heap.size; omega) (.string nm)).grown HG3.out (by have := HG2.out.size; have := HG1.out.size; simp at *; omega) (fun k hk => by cases hk; exact Nat.le_refl _)
      have hb5 : Below w.heap.size w w5 := (hb4.alloc hb4.size _).grown hg5 (by rw [World.size_alloc]; have := hb4.size; omega) (fun k hk => by have := (hown0.out k hk).1; omega)
      have hA5 : Arr w5 w.heap.size 3 r'.c := (HA3.out.alloc (by omega) _).grownV hg5 (fun e => by have := (hown0.out _ e).1; omega)
      have HA5 := Lib.hid hA5
      have HB5 := Lib.hid hb5
      rw [← HCS.out, ← entsF_snoc] at hown5
      have HO5 := Lib.hid hown5
      have hpos := hf.out.pos
      have hrs' : r.s.size = s.size := by rw [hrs.out]
      clear hA5 hb5 hb4 hown5 hg5
      go_wp2
      go_roundw
      case rel =>
        refine ⟨r', es ++ [⟨nm, kd, d⟩], f - 1, HA5.out, HEF.out, HE4.out, HES.out.trans hrs.out, Lib.hid (HST.out.symm.trans hN.out), fun h0 => ?_, fun e he => ?_, by simp; omega, by rw [List.length_append]; exact HO5.out, HB5.out⟩
        · obtain ⟨_, _, q3, _⟩ := HECN.out h0
          rw [HES.out, List.length_append, List.length_singleton]
          omega
        · rcases List.mem_append.1 he with h | h
          · exact hid.out e h
          · rw [List.mem_singleton.1 h]; exact HIL.out
      case measure =>
        rw [leftM_eq HA5.out, HLM.out, if_pos HE0.out]; exact hel.out
    · have hm2 : r.more = false := by simpa using hm
      have hst : (rd0 s).entsN (s.size + 1) [] = (r, es) := by rw [← hN.out]; exact ents_stop r f es hm2
      rw [Rd.entsN_eq] at hst
      have e1 : (treeRd s).1 = r := congrArg Prod.fst hst
      have e2 : (treeRd s).2 = es := congrArg Prod.snd hst
      have HTO : Hid (treeOf s = if r.fin = 0 ∧ treeOk es = true then some es else none) := by unfold Hid treeOf; rw [e1, e2]
      have HEND := Lib.hid (fun W (hA : Arr W w.heap.size 3 r.c) => rend_any w.heap.size r W hA hf.out)
      have HAR := Lib.hid hA
      have HOWN := Lib.hid hown
      clear hst hN hA hown hm
      by_cases h0 : r.err = 0
      · have hps : ¬ r.pos < r.s.size := fun h => by have := of_decide_eq_false hm2; exact this ⟨h0, h⟩
        have hrs' : r.s.size = s.size := by rw [hrs.out]
        have d1 : ((r.err : Int) == 0) = true := by rw [beq_iff_eq]; omega
        have d2 : decide ((r.pos : Int) < s.size) = false := decide_eq_false (by omega)
        have d3 : decide (r.pos < s.size) = false := decide_eq_false (by omega)
        have hfin : r.fin = 0 := by unfold Rd.fin; rw [if_neg (by simp [h0]), if_neg hps]
        have HER : Hid (∀ W, Below wo.heap.size wo W → EntRow W (.slice co es.length cc) es) := Lib.hid (fun W hb' => (RowOf.of_own (B := w.heap.size + 1) (e := 152) (sz := 34) (rows := es.map entC) (fun r hr => by
          obtain ⟨e, he, rfl⟩ := List.mem_map.1 hr
          simp [entC, idC_len, hid.out e he]) (by rw [List.length_map]; exact HOWN.out)).below hb')
        have e0 : (treeRd s).1.err = 0 := by rw [e1]; exact h0
        have hsm := Rd.ents_small (s.size + 1) (rd0 s) (rd0_fine s (by omega)) e0
        have e3 : ((rd0 s).ents (s.size + 1)).2 = es := e2
        rw [e3] at hsm
        have HTR := Lib.hid (fun W (hb' : Below wo.heap.size wo W) => rtreeright_any (.slice co es.length cc) es W (HER.out W hb') (fun e he => by have := hsm e he; omega))
        have HBD : Hid (treeOk es = true → ∀ W, Below wo.heap.size wo W → Calls Tryz.prog 132 #[.slice co es.length cc] W fun e w' => e = .returned (.string s) ∧ Below W.heap.size W w') := Lib.hid (fun hok W hb' => by
          have h32 : es.length ≤ 32 := by
            rw [treeOk_rows] at hok
            simp only [Bool.and_eq_true, decide_eq_true_eq] at hok
            exact hok.2
          have := rtreebody_any (.slice co es.length cc) es W (HER.out W hb') (fun e he => by have h1 := hsm e he; exact ⟨by omega, by omega, hid.out e he⟩) (by omega)
          have hc := treeOf_canon s (by omega) (by rw [e1]; exact hfin)
          rw [e2] at hc
          rw [hc, ofB_of] at this
          exact this)
        rw [hfin] at HEND
        clear hsm e0 e1 e2 e3 hps h0 hm2
        have HFIN := Lib.hid hfin
        clear hfin
        cases hok : treeOk es with
        | false =>
          have HR : Hid (treeOf s = none) := by unfold Hid; rw [HTO.out, if_neg (by rw [hok]; simp)]
          rw [hok] at HTR
          clear hok
          go_wp2_with fail
          refine (HEND.out _ HAR.out).mono ?_
          rintro e w1 ⟨rfl, hb1⟩
          have HB1 := Lib.hid hb1
          clear hb1
          go_wp2_with fail
          refine (HTR.out _ HB1.out).mono ?_
          rintro e w2 ⟨rfl, hb2⟩
          have HB2 := Lib.hid (hb.trans ((HB1.out.trans (hb2.mono HB1.out.size)).mono hb.size))
          clear hb2
          go_wp2
          go_ret2
          exact ⟨.slice none 0 0, by rw [HR.out]; rfl, by rw [HR.out]; exact ⟨⟨none, 0, rfl, by simp, fun h => absurd rfl h⟩, World.ownsRow_nil _ _ _ _⟩, HB2.out⟩
        | true =>
          have HR : Hid (treeOf s = some es) := by unfold Hid; rw [HTO.out, if_pos ⟨HFIN.out, hok⟩]
          have HBD2 := Lib.hid (HBD.out hok)
          rw [hok] at HTR
          clear hok
          go_wp2_with fail
          refine (HEND.out _ HAR.out).mono ?_
          rintro e w1 ⟨rfl, hb1⟩
          have HB1 := Lib.hid hb1
          clear hb1
          go_wp2_with fail
          refine (HTR.out _ HB1.out).mono ?_
          rintro e w2 ⟨rfl, hb2⟩
          have HB2 := Lib.hid (HB1.out.trans (hb2.mono HB1.out.size))
          clear hb2
          go_wp2_with fail
          refine (HBD2.out _ HB2.out).mono ?_
          rintro e w3 ⟨rfl, hb3⟩
          have HB3 := Lib.hid (HB2.out.trans (hb3.mono HB2.out.size))
          clear hb3
          go_wp2
          go_ret2
          exact ⟨.slice co es.length cc, by rw [HR.out]; rfl, by rw [HR.out]; exact ⟨HER.out _ HB3.out, own_below HOWN.out HB3.out⟩, hb.trans (HB3.out.mono hb.size)⟩
      · have d1 : ((r.err : Int) == 0) = false := by rw [beq_eq_false_iff_ne]; omega
        have hfin : r.fin = r.err := by unfold Rd.fin; rw [if_pos h0]
        have d2 : ((r.err : Int) != 0) = true := by rw [bne_iff_ne]; omega
        have HR : Hid (treeOf s = none) := by unfold Hid; rw [HTO.out, if_neg (by rw [hfin]; exact fun h => h0 h.1)]
        rw [hfin] at HEND
        clear hfin h0 hm2 e1 e2
        go_wp2_with fail
        refine (HEND.out _ HAR.out).mono ?_
        rintro e w1 ⟨rfl, hb1⟩
        have HB1 := Lib.hid (hb.trans (hb1.mono hb.size))
        clear hb1
        go_wp2
        go_ret2
        exact ⟨.slice none 0 0, by rw [HR.out]; rfl, by rw [HR.out]; exact ⟨⟨none, 0, rfl, by simp, fun h => absurd rfl h⟩, World.ownsRow_nil _ _ _ _⟩, HB1.out⟩
theorem rentries_any (s : ByteArray) (w : World) (hs : s.size ≤ 100000) :
    Calls Tryz.prog 87 #[.string s] w fun e w' => ∃ v, e = .returned (.tuple #[v, .bool (treeOf s).isSome]) ∧ EntRow w' v ((treeOf s).getD []) ∧ Below w.heap.size w w' :=
  (rentries_own s w hs).mono fun _ _ ⟨v, h1, h2, h3⟩ => ⟨v, h1, h2.1, h3⟩
end Go.Proofs.YtbmiiiccnoiffaaGreatDoor

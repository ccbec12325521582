/- D7; D8; D9; DA; Fr, in one text. -/
import Derived.Test.YtbmiiiccnoiffaaGreatDoorD6
import Derived.Sort.OwnSorted
import Derived.Deep.SlicePairs
import Derived.SizedLaws
import Derived.Shelf.Vars
import Derived.LaidLaws
import Derived.ProofKit
import Derived.ChangeOld
import Derived.LaidMore
/- Walks: a map's keys, collected and put in order. -/
namespace Go.Proofs.YtbmiiiccnoiffaaGreatDoor
open Go.RowKit Go.Maps Go.Sort Go.Shelf
set_option maxRecDepth 100000

theorem strKeys_spec {P : Program} {k : TypeId} {R : Value → Option (DataW Unit × List MemPlace)} {w : World} {b n : Nat} {D : DataW Unit} (h : w.ownsMap P k R b n D) (K : Keyed P k) (hk : P.underlying k = some .string) :
    (strKeys D).Nodup ∧ ∀ x, x ∈ strKeys D ↔ Maps.has D (.string x) = true := by
  obtain ⟨es, rfl, hp⟩ := h.tidy K
  obtain ⟨es', e, hko⟩ := h.keysOf
  cases e
  have hs : ∀ p ∈ es, ∃ x, p.1 = .string x := fun p hp' => by
    obtain ⟨v, hv⟩ := hko p hp'
    obtain ⟨x, _, hx, _⟩ := Maps.keyOf_str hk hv
    exact ⟨x, hx⟩
  refine ⟨?_, fun x => ?_⟩
  · show (es.map fun p => strOf p.1).Nodup
    refine List.pairwise_map.2 (hp.imp_of_mem fun {p q} hp' hq' hne e => hne ?_)
    obtain ⟨a, ha⟩ := hs p hp'
    obtain ⟨b, hb⟩ := hs q hq'
    rw [ha, hb] at e ⊢
    exact congrArg _ e
  · show x ∈ (es.map fun p => strOf p.1) ↔ _
    rw [Maps.has_eq, List.any_eq_true, List.mem_map]
    constructor
    · rintro ⟨p, hp', rfl⟩
      obtain ⟨a, ha⟩ := hs p hp'
      exact ⟨p, hp', by rw [ha]; simp [Lit.sameKey, strOf]⟩
    · rintro ⟨p, hp', he⟩
      obtain ⟨a, ha⟩ := hs p hp'
      rw [ha] at he
      exact ⟨p, hp', by rw [ha]; simpa [Lit.sameKey, strOf] using he⟩

/-- A text cut at a great length: an element of the sort. -/
def cut (x : List UInt8) : List UInt8 := x.take 1000000
def encC (x : List UInt8) : Value := encStr (cut x)
def cfC (x y : List UInt8) : Int := ordP (ofL (cut x)) (ofL (cut y))
theorem cut_short {x : List UInt8} (h : x.length ≤ 1000000) : cut x = x := List.take_of_length_le h
theorem ofL_size (x : List UInt8) : (ofL x).size = x.length := by simp [ofL, ByteArray.size]
theorem swoC : SWO (ltOf cfC) where
  irrefl x := by simp [ltOf, cfC, ordP_self]
  trans x y z h1 h2 := decide_eq_true (ordP_trans _ _ _ (of_decide_eq_true h1) (of_decide_eq_true h2))
  ntrans x y z h1 h2 := decide_eq_false (ordP_ntrans _ _ _ (of_decide_eq_false h1) (of_decide_eq_false h2))
theorem oneC : OneCell encC := fun _ => rfl

theorem maxAt_sort {w : World} (h : MaxAt w) {blk off m : Nat} (hne : 0 ≠ blk) (dk : Array (List UInt8)) (os : Array Obj) : MaxAt (sortWorld encC w blk off m dk os) := by
  obtain ⟨v, hv⟩ := h
  refine ⟨v, ?_⟩
  have hl := World.block_lt_of_cell? w _ hv
  unfold sortWorld
  have e : (grow (putRow encC (Sort.ahead w m) blk off dk) os).heap[0]? = w.heap[0]? := by
    rw [heap_grow_old _ _ (by simpa using hl)]
    have : blk ≠ 0 := fun e => hne e.symm
    simp [putRow, mapBlock, Sort.ahead, Array.getElem?_modify, this]
  unfold World.cell? at hv ⊢
  rw [e]; exact hv

theorem cmpC (w : World) (h : MaxAt w) (blk off size : Nat) (hne : 0 ≠ blk) : CmpLays1 Tryz.prog 117 #[] encC cfC blk off size w := fun m os dk _ x y => by
  have hm := maxAt_sort h (off := off) (m := m) hne dk os
  refine (order_any (ofL (cut x)) (ofL (cut y)) _ (by rw [ofL_size]; unfold cut; simp; omega) (by rw [ofL_size]; unfold cut; simp; omega) hm).mono ?_
  rintro e w' ⟨he, o1, o2, hw⟩
  exact ⟨he, 0, #[o1, o2], by rw [hw, alloc_eq_grow, alloc_eq_grow, grow_grow]; rfl⟩

theorem putRow_short (w : World) (blk off : Nat) (d : Array (List UInt8)) (h : ∀ x ∈ d, x.length ≤ 1000000) : putRow encC w blk off d = putRow encStr w blk off d := by
  unfold putRow
  refine mapBlock_congr _ _ _ _ fun c e fr _ => ?_
  unfold putCells
  congr 1
  funext k x
  split
  · rename_i hk
    have hlt : k - off < d.size := by omega
    rw [getElem!_pos d _ hlt]
    unfold encC; rw [cut_short (h _ (Array.getElem_mem hlt))]
  · rfl
theorem holds_short {w : World} {blk off : Nat} {d : Array (List UInt8)} (h : ∀ x ∈ d, x.length ≤ 1000000) (hH : Holds encStr w blk off d) : Holds encC w blk off d := fun j hj => by
  have := hH j hj
  rw [getElem!_pos d _ hj] at this ⊢
  unfold encC; rw [cut_short (h _ (Array.getElem_mem hj))]; exact this

theorem keys_any (mb : Option Nat) (w : World) : Calls Tryz.prog 153 #[.map mb] w fun e w' => e = .returned (.func (.func 191) #[] #[.pointer (some ⟨w.heap.size, 0, none⟩)]) ∧ w' = w.alloc (.cells #[.map mb] 242) :=
  callsIn_wide.1 (AnyZ.keys_in Tryz.keysZ Fence.wide 5 trivial rfl mb w)

theorem collect_any (b nn : Nat) (D0 : DataW Unit) (R : Value → Option (DataW Unit × List MemPlace)) (w : World) (hown : w.ownsMap Tryz.prog 9 R b nn D0) (hmax : Maps.size D0 ≤ 1000000000) :
    Calls Tryz.prog 189 #[.func (.func 191) #[] #[.pointer (some ⟨w.heap.size, 0, none⟩)]] (w.alloc (.cells #[.map (some b)] 242)) fun e w' => ∃ (v : Value) (ss : List (List UInt8)), e = .returned v ∧ ss.Perm (strKeys D0) ∧ ss.length ≤ 1000000000 ∧
      w'.ownsRow (w.heap.size + 1) 9 1 v ss.length (ss.map encStr) ∧ Below (w.heap.size + 1) (w.alloc (.cells #[.map (some b)] 242)) w' := by
  have hbl := hown.lt
  have hseq : SeqGives Fence.wide 3 Tryz.prog 191 #[.pointer (some ⟨w.heap.size, 0, none⟩)] encStr (fun ss => ss.Perm (strKeys D0)) (Maps.size D0) (w.alloc (.cells #[.map (some b)] 242)) :=
    AnyZ.keys_gives (ρ := Tryz.keysZ_ren) { Tryz.keysZ with } Fence.wide _ trivial rfl (by omega) w.heap.size b nn D0 _ (by simp) (by simp) (by
      obtain ⟨es, clock, hb, Ft, hs, hD⟩ := hown
      exact ⟨es, clock, (Below.heap_alloc _ _ b hbl).trans hb, Ft, hs, hD⟩)
  have h := callsIn_wide.1 (AnyZ.collect_in Tryz.collZ Fence.wide 5 trivial trivial rfl (by omega) 191 #[.pointer (some ⟨w.heap.size, 0, none⟩)] trivial (enters_of Tryz.func191 (by kernel_rfl) rfl) _ _ (by unfold maxLen; omega) (by omega) _ hseq)
  refine h.mono ?_
  rintro e w' ⟨v, ss, he, hS, hrow, _, hb⟩
  rw [World.size_alloc] at hrow hb
  have hl := hS.length_eq
  obtain ⟨es, rfl⟩ := hown.isMap
  exact ⟨v, ss, he, hS, by rw [hl]; show (es.map _).length ≤ _; rw [List.length_map]; exact hmax, hrow, hb⟩

/-- A list without doubles, in which no later one is less than an earlier one, rises. -/
theorem asc_of_sorted (l : List ByteArray) (hn : l.Nodup) (hs : l.Pairwise fun x y => ¬ ordP y x < 0) : Asc l :=
  (hs.and hn).imp fun {x y} ⟨h1, h2⟩ => by
    by_cases h : ordP x y < 0
    · exact h
    · exact absurd (ordP_tot x y h h1) h2

theorem ofL_inj {x y : List UInt8} (h : ofL x = ofL y) : x = y := by rw [← ofL_data x, ← ofL_data y, h]

/-- What the sort gives of keys that are short. -/
theorem sorted_keys (ss : List (List UInt8)) (d : Array (List UInt8)) (hsh : ∀ x ∈ ss, x.length ≤ 1000000) (hnd : ss.Nodup) (hp : PermIn 0 ss.toArray.size ss.toArray d) (hs : SortedIn (ltOf cfC) 0 ss.toArray.size d) :
    d.toList.Perm ss ∧ Asc (d.toList.map ofL) := by
  obtain ⟨hsz, _, hperm⟩ := hp
  have hd : d.size = ss.length := by simpa using hsz
  have e1 : d.extract 0 ss.toArray.size = d := by rw [← hsz]; exact Array.extract_size
  rw [e1, Array.extract_size] at hperm
  refine ⟨hperm, asc_of_sorted _ ?_ ?_⟩
  · refine List.pairwise_map.2 ((hperm.nodup_iff.2 hnd).imp fun {x y} h e => h (ofL_inj e))
  · refine List.pairwise_map.2 ?_
    rw [List.pairwise_iff_getElem]
    intro i j hi hj hij
    have hi' : i < d.size := by simpa using hi
    have hj' : j < d.size := by simpa using hj
    have h := hs i j (Nat.zero_le _) hij (by simpa [hd] using hj')
    rw [getElem!_pos d _ hj', getElem!_pos d _ hi'] at h
    have h2 := of_decide_eq_false h
    unfold cfC at h2
    have m1 : d[i] ∈ ss := hperm.mem_iff.1 (by simp)
    have m2 : d[j] ∈ ss := hperm.mem_iff.1 (by simp)
    rw [cut_short (hsh _ m1), cut_short (hsh _ m2)] at h2
    simpa using h2

set_option maxHeartbeats 1000000 in
theorem sfunc_any (b nn : Nat) (D0 : DataW Unit) (R : Value → Option (DataW Unit × List MemPlace)) (w : World) (hm : MaxAt w) (hown : w.ownsMap Tryz.prog 9 R b nn D0) (hmax : Maps.size D0 ≤ 1000000000) (hsh : ∀ x, Maps.has D0 (.string x) = true → x.length ≤ 1000000) :
    Calls Tryz.prog 152 #[.func (.func 191) #[] #[.pointer (some ⟨w.heap.size, 0, none⟩)], .func (.func 117) #[] #[]] (w.alloc (.cells #[.map (some b)] 242)) fun e w' => ∃ (v : Value) (ss : List ByteArray), e = .returned v ∧ StrRow w' v ss ∧ Asc ss ∧ (∀ p : ByteArray, p ∈ ss ↔ Maps.has D0 (.string p.data.toList) = true) ∧ Below (w.heap.size + 1) (w.alloc (.cells #[.map (some b)] 242)) w' := by
  have hc := collect_any b nn D0 R w hown hmax
  obtain ⟨hnd, hmem⟩ := strKeys_spec hown strKeyed Tryz.underlying9
  have hlm := hm.lt
  have hb0 : Below w.heap.size w (w.alloc (.cells #[.map (some b)] 242)) := (Below.refl _ w).alloc (Nat.le_refl _) _
  have eg : ∀ args w, (callFunc 117 args).run Tryz.prog w = .ok (.enter 117 args) w := enters_of Tryz.func117 (by kernel_rfl) rfl
  generalize hw0 : w.alloc (.cells #[.map (some b)] 242) = w0 at hc hb0
  have HH := Lib.hid hsh
  have HN := Lib.hid hnd
  have HE := Lib.hid hmem
  clear hsh hnd hmem hown hw0
  go_enter Tryz.func152, Tryz.ntmps152
  go_wp2_with (go_at_call 189; refine hc.mono ?_; rintro e W ⟨v, ss, rfl, hS, hlen, hrow, hb⟩)
  have hmW : MaxAt W := hm.step (hb0.trans (hb.mono (Nat.le_succ _)))
  have hss : ∀ x ∈ ss, x.length ≤ 1000000 := fun x hx => HH.out x ((HE.out x).1 (hS.mem_iff.1 hx))
  have hsn : ss.Nodup := hS.nodup_iff.2 HN.out
  have hsm : ∀ x, x ∈ ss ↔ Maps.has D0 (.string x) = true := fun x => hS.mem_iff.trans (HE.out x)
  have HSS := Lib.hid hss
  have HSN := Lib.hid hsn
  have HSM := Lib.hid hsm
  clear hss hsn hsm hc hS
  rcases hrow.2 with ⟨rfl, hz⟩ | ⟨gb, cap, cur, rfl, hbase, hgb, r1, r2, r3, r4⟩
  · have hse : ss = [] := List.eq_nil_of_length_eq_zero hz
    subst hse
    have hn0 := fun W' => AnyF.slices_SortFunc_none (P := Tryz.prog) (ρ := Tryz.sortF_ren) { Tryz.sortF with } none 0 (.func (.func 117) #[] #[]) W'
    change ∀ W', Calls Tryz.prog 190 _ _ _ at hn0
    go_wp2_with (go_at_call 190; refine (hn0 _).mono ?_; rintro e w' ⟨rfl, hw'⟩; rw [hw']; clear hw')
    go_ret
    exact ⟨_, [], rfl, StrRow.nil _, List.Pairwise.nil, fun p => by rw [← HSM.out p.data.toList]; simp, hb⟩
  · have hH : Holds encC W gb 0 ss.toArray := holds_short (by simpa using HSS.out) (holds_of_block hgb (by simpa using r4))
    have hgl : gb < W.heap.size := (Array.getElem?_eq_some_iff.1 hgb).1
    have hsz : ss.toArray.size < 4611686018427387904 := by simp; omega
    have hS := Any.slices_SortFunc Tryz.sortF encC oneC cfC swoC 117 #[] gb 0 cap ss.toArray W eg (cmpC W hmW gb 0 ss.toArray.size (by omega)) hH hgl hsz
    rw [show ss.toArray.size = ss.length from by simp] at hS
    change Calls Tryz.prog 190 _ _ _ at hS
    have hS2 : Calls Tryz.prog 190 #[.slice (some ⟨gb, 0, none⟩) ss.length cap, .func (.func 117) #[] #[]] W fun e w' => e = .returned (.tuple #[]) ∧ ∃ ts : List (List UInt8), ts.Perm ss ∧ Asc (ts.map ofL) ∧ w'.ownsRow (w.heap.size + 1) 9 1 (.slice (some ⟨gb, 0, none⟩) ss.length cap) ss.length (ts.map encStr) ∧ W.grownBy w' (some gb) := by
      refine hS.mono ?_
      rintro e w' ⟨he, d', nq, os, hp, hs, hw'⟩
      obtain ⟨hperm, hasc⟩ := sorted_keys ss d' HSS.out HSN.out (by simpa using hp) (by simpa using hs)
      have hsh' : ∀ x ∈ d', x.length ≤ 1000000 := fun x hx => HSS.out x (hperm.mem_iff.1 (by simpa using hx))
      unfold sortWorld at hw'
      rw [putRow_short _ _ _ _ hsh'] at hw'
      have hown2 := ownsRow_sorted (n := nq) (os := os) (ss := ss) (ts := d'.toList) (by have := hperm.length_eq; simpa using this) hbase hgb r1 r2 r3
      have hg2 := grownBy_sorted (w := W) (g := gb) (n := nq) (os := os) d'
      rw [Array.toArray_toList, ← hw'] at hown2
      rw [← hw'] at hg2
      exact ⟨he, d'.toList, hperm, hasc, hown2, hg2⟩
    clear hH hS
    go_wp2_with (go_at_call 190; refine hS2.mono ?_; rintro e w' ⟨rfl, ts, hperm, hasc, hown2, hg2⟩)
    go_ret
    refine ⟨_, ts.map ofL, rfl, ?_, hasc, fun p => ?_, hb.grown hg2 (by omega) (fun j hj => by cases hj; exact hbase)⟩
    · have el : (ts.map ofL).length = ss.length := by rw [List.length_map]; exact hperm.length_eq
      refine StrRow.of_own (B := w.heap.size + 1) (e := 9) ?_
      rw [el, List.map_map]; exact hown2
    · rw [← HSM.out p.data.toList, List.mem_map]
      constructor
      · rintro ⟨x, hx, rfl⟩; rw [ofL_data]; exact hperm.mem_iff.1 hx
      · intro hx; exact ⟨_, hperm.mem_iff.2 hx, ba_ext (by rw [ofL_data])⟩
end Go.Proofs.YtbmiiiccnoiffaaGreatDoor

/- The walk of all paths of some files, in order. -/
namespace Go.Proofs.YtbmiiiccnoiffaaGreatDoor
open Go.RowKit Go.Maps Go.Sort
set_option maxRecDepth 100000

/-- What is in a set that is being filled from a map that is ranged over. -/
def Got (D Di : DataW Unit) (left : Lit → Bool) (G : List UInt8 → Prop) : Prop := ∀ p : List UInt8, Maps.has D (.string p) = true ↔ (G p ∨ (Maps.has Di (.string p) = true ∧ left (.string p) = false))
theorem got_step {D Di : DataW Unit} {left : Lit → Bool} {G : List UInt8 → Prop} {x : List UInt8} {d e : DataW Unit} (hD : IsMap D) (h : Got D Di left G) (hat : ∀ zd, Di.atKey (.string x) zd = e) : Got (D.put (.string x) d) Di (fun z => left z && !z.sameKey (.string x)) G := fun p => by
  by_cases hp : p = x
  · subst hp
    rw [has_put_same hD (by trivial)]
    have h2 := has_true_of_atKey hat
    simp [h2, Lit.sameKey]
  · have hne : (Lit.string p) ≠ .string x := fun e => hp (by injection e)
    rw [has_put_other hne, h p]
    have : (Lit.string p).sameKey (.string x) = false := by simp [Lit.sameKey, hp]
    simp [this]

set_option maxHeartbeats 4000000 in
theorem dpaths_any (bo oo cap N : Nat) (bk : Nat → Nat) (f : Nat → ByteArray → Option ByteArray) (w : World) (hN : N ≤ 10) (hbo : bo < w.heap.size) (hm : MaxAt w)
    (hc : ∀ i, i < N → w.cell? ⟨bo, oo + i, none⟩ = some (.map (some (bk i)))) (hf : ∀ i, i < N → StrMap w (bk i) 1000000 (f i)) (hs : ∀ i p, i < N → (f i p).isSome = true → p.size ≤ 1000000) :
    Calls Tryz.prog 116 #[.slice (some ⟨bo, oo, none⟩) N cap] w fun e w' => ∃ v ss, e = .returned v ∧ StrRow w' v ss ∧ Asc ss ∧ (∀ p, p ∈ ss ↔ ∃ i, i < N ∧ (f i p).isSome = true) ∧ Below w.heap.size w w' := by
  have HC := Lib.hid hc
  have HF := Lib.hid hf
  have HS := Lib.hid hs
  clear hc hf hs
  have hmm := @run_makeMap Tryz.prog
  go_enter Tryz.func116, Tryz.ntmps116
  go_wp2
  go_loopw [10] (fun i wr => ∃ (k n : Nat) (D : DataW Unit), k ≤ N ∧ i = .int .i64 k ∧ n ≤ k * 1000000 ∧ wr.ownsMap Tryz.prog 9 (plainElem Tryz.prog 4) w.heap.size n D ∧ Hid (∀ p : List UInt8, Maps.has D (.string p) = true ↔ ∃ i, i < k ∧ (f i (ofL p)).isSome = true) ∧ Below w.heap.size w wr) (fun i _ => (N - intOf i).toNat)
  case atStart => exact ⟨0, 0, _, by omega, rfl, by omega, World.ownsMap_made _ _ _ _, (fun p => by simp [Maps.has]), (Below.refl _ _).alloc (Nat.le_refl _) _⟩
  case round =>
    obtain ⟨k, n, D, hk, rfl, hnk, hown, hset, hb⟩ := hrel
    have hszb := hb.size
    by_cases hlt : k < N
    · have c1 := below_load (HC.out k hlt) hb hbo
      obtain ⟨Di, hDi, hsay⟩ := (HF.out k hlt).below hb (HF.out k hlt).lt
      have hbi := (HF.out k hlt).lt
      have hsz := hDi.size_le
      have HSAY := Lib.hid hsay
      clear hsay
      generalize hbk : bk k = bi at c1 hDi hbi
      clear hbk
      go_wp2_with (at_range; refine wpList_range_own _ rfl (.tmp 14) 195 rfl 9 9 strKeyed Tryz.underlying195 _ bi 1000000 Di rfl hDi ?_; intro w0 hrg0 hg0 hs0)
      have hb0 : Below w.heap.size w w0 := hb.grown hg0 hszb (fun j hj => by cases hj)
      have hown0 := hown.kept hg0 (by simp)
      have hBi : w.heap.size ≠ bi := by omega
      have hBlt := hown.lt
      have hrB : w.heap.size ≠ wr.heap.size := by omega
      have hrle : w.heap.size ≤ wr.heap.size := by omega
      clear hown hs0
      generalize hr : wr.heap.size = r at hrg0 hrB hrle
      go_frame
      go_loopw [6] (fun _ wx => ∃ (left : Lit → Bool) (cnt m : Nat) (E : DataW Unit), wx.ranges Tryz.prog 9 (plainElem Tryz.prog 9) bi r 1000000 Di left cnt ∧ wx.ownsMap Tryz.prog 9 (plainElem Tryz.prog 4) w.heap.size m E ∧ Hid (Got E Di left (fun p => ∃ i, i < k ∧ (f i (ofL p)).isSome = true)) ∧ m + cnt ≤ k * 1000000 + Maps.size Di ∧ Below w.heap.size w wx) (fun _ wx => wx.rangeLeft bi r)
      case atStart =>
        refine ⟨_, _, n, D, hrg0, hown0, (fun p => ?_), by omega, hb0⟩
        rw [hset.out p]
        constructor
        · exact fun h => .inl h
        · rintro (h | ⟨h1, h2⟩)
          · exact h
          · rw [h1] at h2; cases h2
      case round =>
        obtain ⟨left, cnt, m, E, hrg, hE, hgot, hmc, hbx⟩ := hrel
        have hszx := hbx.size
        go_wp2_with (at_next; refine wpList_next_ranges _ rfl (.tmp 15) rfl 9 strKeyed (plainElem Tryz.prog 9) encStr Value.string (fun key kl hk => by obtain ⟨x, hx, _⟩ := Maps.keyOf_str Tryz.underlying9 hk; exact ⟨x, hx⟩) (fun v y hv => by obtain ⟨c, rfl, _⟩ := plainElem_string_inv Tryz.underlying9 hv; exact ⟨c, rfl⟩) bi r 1000000 Di left cnt rfl hrg ?_ ?_)
        · intro hc0 hl0
          go_wp2
          go_roundw
          case rel =>
            refine ⟨k + 1, m, E, by omega, by go_num, by omega, hE, (fun p => ?_), hbx⟩
            rw [hgot.out p]
            have hsay := (HSAY.out (ofL p)).1
            rw [ofL_data] at hsay
            constructor
            · rintro (⟨i, hi, h⟩ | ⟨h1, _⟩)
              · exact ⟨i, by omega, h⟩
              · exact ⟨k, by omega, by rw [← hsay]; exact h1⟩
            · rintro ⟨i, hi, h⟩
              rcases Nat.lt_or_ge i k with h' | h'
              · exact .inl ⟨i, h', h⟩
              · obtain rfl : i = k := by omega
                exact .inr ⟨by rw [hsay]; exact h, hl0 _⟩
          case measure => simp [intOf]; omega
        · intro x c kl yd yp w2 cnt2 hkey hlk hv hat hrg2 hltc hg2 hs2 hen
          obtain ⟨x', ex, rfl, _⟩ := Maps.keyOf_str Tryz.underlying9 hkey
          obtain rfl : x = x' := encStr_inj ex
          clear hs2
          have hE2 := hE.kept hg2 (by simpa using hrB)
          have hb2 := hbx.grown hg2 hszx (fun j hj => by cases hj; have := hrg.lt; have := hb.size; omega)
          go_wp2_with (at_mapUpdate; refine wpList_mapUpdate_own _ rfl (.tmp 20) (.tmp 21) (.const (.bool true)) 242 rfl 9 4 strKeyed Tryz.underlying242 _ w.heap.size m E rfl hE2 ?hm _ _ (.string x) rfl rfl hkey (.lit (.bool true)) [] (plainElem_bool Tryz.underlying4 true) ?_)
          case hm => unfold maxLen; omega
          intro w3 hE3 hg3
          have hrg3 := hrg2.kept hg3 (by simp; omega) (by simp; omega)
          go_wp2
          go_roundw
          case rel => exact ⟨_, cnt2, m + 1, _, hrg3, hE3, got_step hE2.isMap hgot.out hat, by omega, hb2.grown hg3 (by have := hb2.size; omega) (fun j hj => by cases hj; exact Nat.le_refl _)⟩
          case measure => rw [hrg3.left_eq, hrg.left_eq]; exact hltc
    · obtain rfl : k = N := by omega
      have hk1 := keys_any (some w.heap.size)
      have hmr : MaxAt wr := hm.step hb
      have hss := sfunc_any w.heap.size n D (plainElem Tryz.prog 4) wr hmr hown (by have := hown.size_le; omega) (fun x hx => by
        obtain ⟨i, hi, h⟩ := (hset.out x).1 hx
        have := HS.out i _ hi h
        rw [ofL_size] at this; exact this)
      go_wp2_with (first | (go_at_call 153; refine (hk1 _).mono ?_; rintro e w1 ⟨rfl, hw1⟩; rw [hw1]; clear hw1) | (go_at_call 152; refine hss.mono ?_; rintro e w2 ⟨v, ss, rfl, hrow, hasc, hmem, hb2⟩))
      go_ret
      refine ⟨_, ss, rfl, hrow, hasc, fun p => ?_, (hb.alloc hszb _).trans (hb2.mono (by omega))⟩
      rw [hmem, hset.out p.data.toList]
      have : ofL p.data.toList = p := ba_ext (by rw [ofL_data])
      rw [this]
end Go.Proofs.YtbmiiiccnoiffaaGreatDoor

/- The walk of how files are apart, the program's. -/
namespace Go.Proofs.YtbmiiiccnoiffaaGreatDoor
open Go.RowKit Go.Maps Go.Sort
set_option maxRecDepth 100000

theorem StrMap.mono {w : World} {b n m : Nat} {f : ByteArray → Option ByteArray} (h : StrMap w b n f) (hn : n ≤ m) : StrMap w b m f := by
  obtain ⟨D, h1, h2⟩ := h
  exact ⟨D, h1.mono hn, h2⟩
def two {α : Type} (x y : α) (i : Nat) : α := if i = 0 then x else y

theorem filesS_paths (a b : List Lf) (ss : List ByteArray) (hs : Asc ss) (hm : ∀ p, p ∈ ss ↔ ∃ i, i < 2 ∧ (two (findS a) (findS b) i p).isSome = true) : ss = pathsS (pathsS [] a) b := by
  refine asc_ext _ _ hs (pathsS_asc b _ (pathsS_asc a _ List.Pairwise.nil)) fun p => ?_
  rw [hm, pathsS_mem, pathsS_mem]
  constructor
  · rintro ⟨i, hi, h⟩
    rcases Nat.eq_zero_or_pos i with rfl | hp
    · exact .inl (.inr ((findS_some a p).1 h))
    · exact .inr ((findS_some b p).1 (by simpa [two, Nat.pos_iff_ne_zero.1 hp] using h))
  · rintro ((h | h) | h)
    · simp at h
    · exact ⟨0, by omega, (findS_some a p).2 h⟩
    · exact ⟨1, by omega, (findS_some b p).2 h⟩

set_option maxHeartbeats 4000000 in
theorem dfiles_any (v u : Value) (a b : List Lf) (w : World) (hv : LeafRow w v a) (hu : LeafRow w u b) (ha : ∀ f ∈ a, f.1.size ≤ 1000000 ∧ f.2.size ≤ 1000000) (hb : ∀ f ∈ b, f.1.size ≤ 1000000 ∧ f.2.size ≤ 1000000) (hna : a.length ≤ 1000) (hnb : b.length ≤ 1000) (hm : MaxAt w) :
    Calls Tryz.prog 70 #[v, u] w fun e w' => ∃ o, e = .returned o ∧ ApRow w' o (filesS a b) ∧ Below w.heap.size w w' := by
  obtain ⟨i0, hi, hz0, hz1, hz2⟩ := info_parts infoA
  have h1 := dof_any v a w hv ha (by omega)
  have h2 := fun w' (hbw : Below w.heap.size w w') => dof_any u b w' (hu.below hbw) hb (by omega)
  have hsa : ∀ p, (findS a p).isSome = true → p.size ≤ 1000000 := fun p h => by obtain ⟨f, hf, rfl⟩ := (findS_some a p).1 h; exact (ha f hf).1
  have hsb : ∀ p, (findS b p).isSome = true → p.size ≤ 1000000 := fun p h => by obtain ⟨f, hf, rfl⟩ := (findS_some b p).1 h; exact (hb f hf).1
  have HSA := Lib.hid hsa
  have HSB := Lib.hid hsb
  have HLA := Lib.hid (paths_len [] a)
  have HLB := Lib.hid (paths_len (pathsS [] a) b)
  have HLM := Lib.hid (fun p => pathsS_mem p b (pathsS [] a))
  have HLM2 := Lib.hid (fun p => pathsS_mem p a [])
  clear hsa hsb
  rw [filesS_tell]
  go_enter Tryz.func70, Tryz.ntmps70
  go_wp2_with (first | (go_at_call_of 115 v; refine h1.mono ?_; rintro e w1 ⟨ba, na, rfl, hna1, hba, hma1, hb1⟩) | (go_at_call_of 115 u; refine (h2 _ (by assumption)).mono ?_; rintro e w2 ⟨bb, nb, rfl, hnb1, hbb, hmb2, hb2⟩))
  have hb12 : Below w.heap.size w w2 := hb1.trans (hb2.mono hb1.size)
  have hma2 : StrMap w2 ba na (findS a) := hma1.below hb2 hma1.lt
  obtain ⟨wq, hwq⟩ : ∃ wq, w2.alloc (.cells #[.map (some ba), .map (some bb)] 195) = wq := ⟨_, rfl⟩
  have hbq : Below w2.heap.size w2 wq := by rw [← hwq]; exact (Below.refl _ w2).alloc (Nat.le_refl _) _
  have hcq : ∀ i, i < 2 → wq.cell? ⟨w2.heap.size, 0 + i, none⟩ = some (.map (some (two ba bb i))) := fun i hi => by
    have := cells_new2 w2 (.map (some ba)) (.map (some bb)) 195 i (.map (some (two ba bb i))) (by
      rcases (by omega : i = 0 ∨ i = 1) with rfl | rfl <;> rfl)
    rw [hwq, Addr.add_mid] at this; exact this
  have hmaq : StrMap wq ba na (findS a) := hma2.below hbq hma2.lt
  have hmbq : StrMap wq bb nb (findS b) := hmb2.below hbq hmb2.lt
  have hpq := dpaths_any w2.heap.size 0 2 2 (two ba bb) (two (findS a) (findS b)) wq (by omega) (by rw [← hwq]; simp) (hm.step (hb12.trans (hbq.mono hb12.size))) hcq (fun i hi => by
    rcases (by omega : i = 0 ∨ i = 1) with rfl | rfl
    · exact hmaq.mono hna1
    · exact hmbq.mono hnb1) (fun i p hi h => by
    rcases (by omega : i = 0 ∨ i = 1) with rfl | rfl
    · exact HSA.out p h
    · exact HSB.out p h)
  rw [hwq]
  clear h1 h2 hcq hma1 hma2 hmb2 hv hu ha hb
  refine hpq.mono ?_
  rintro e w3 ⟨o3, ss, rfl, hrow, hasc, hmem, hb3⟩
  have hss := filesS_paths a b ss hasc hmem
  have hll : (pathsS (pathsS [] a) b).length ≤ 2000 := by have h1 := HLA.out; have h2 := HLB.out; simp at h1; omega
  rw [← hss] at hll
  have HSS := Lib.hid hss
  have hpm : ∀ p ∈ ss, ((findS a p).isSome = true ∨ (findS b p).isSome = true) ∧ p.size ≤ 1000000 := fun p hp => by
    obtain ⟨i, hi2, h⟩ := (hmem p).1 hp
    rcases (by omega : i = 0 ∨ i = 1) with rfl | rfl
    · exact ⟨.inl h, HSA.out p h⟩
    · exact ⟨.inr h, HSB.out p h⟩
  have HPM := Lib.hid hpm
  clear hpm hmem hasc hpq hss hwq
  obtain ⟨l, rfl⟩ : ∃ l, l = ss := ⟨_, rfl⟩
  obtain ⟨so, cs, rfl, hml, hr⟩ := hrow
  have HR := Lib.hid hr
  clear hr
  have hb3w := hb12.trans ((hbq.trans (hb3.mono hbq.size)).mono hb12.size)
  have hma3 := hmaq.below hb3 hmaq.lt
  have hmb3 := hmbq.below hb3 hmbq.lt
  have HMA := Lib.hid hma3
  have HMB := Lib.hid hmb3
  clear hmaq hmbq hma3 hmb3
  go_wp2
  go_loopw [7, 23] (fun out i wr => ∃ k : Nat, k ≤ l.length ∧ i = .int .i64 k ∧ wr.ownsRow w3.heap.size 124 2 out (told a b l k).length (apF (told a b l k)) ∧ Below w3.heap.size w3 wr) (fun _ i _ => (l.length - intOf i).toNat)
  case atStart => exact ⟨0, by omega, rfl, World.ownsRow_nil _ _ _ _, Below.refl _ _⟩
  case round =>
    obtain ⟨k, hk, rfl, hown, hbl⟩ := hrel
    have htl := told_len a b l k
    have hszl := hbl.size
    by_cases hlt : k < l.length
    · obtain ⟨bl, ol, rfl, hll2, hcell⟩ := HR.out (by intro e; rw [e] at hlt; simp at hlt)
      have cl := below_load (hcell k hlt) hbl hll2
      obtain ⟨hin, hps0⟩ := HPM.out l[k] (List.getElem_mem hlt)
      generalize hx : l[k] = p at cl hin hps0
      have hps : p.size ≤ maxLen := by unfold maxLen; omega
      have HX := Lib.hid hx
      have htell : tell a b p = if kindS a b p = 0 then none else some (p, kindS a b p) := rfl
      clear hcell hx
      have hma := HMA.out.below hbl HMA.out.lt
      have hmb := HMB.out.below hbl HMB.out.lt
      have hbw := hb3w.trans (hbl.mono hb3w.size)
      obtain ⟨co, cc, rfl⟩ := own_form hown
      cases ea : findS a p with
      | none =>
        have ht : tell a b p = some (p, 1) := by rw [htell]; simp [kindS, ea]
        cases eb : findS b p with
        | none => rw [ea, eb] at hin; simp at hin
        | some t =>
          clear hin
          go_wp2_with (first | (at_lookup; refine wpList_lookup_says rfl (.tmp 28) (.tmp 29) 195 rfl Tryz.underlying195 ba na (findS a) rfl hma p rfl none ea hps ?_) | (at_lookup; refine wpList_lookup_says rfl (.tmp 34) (.tmp 35) 195 rfl Tryz.underlying195 bb nb (findS b) rfl hmb p rfl (some t) eb hps ?_) | (at_builtin; refine wpList_append_any rfl (.tmp 71) (.tmp 74) 56 rfl w3.heap.size 124 i0 (.agg #[.string ByteArray.empty, .int .i64 0]) 2 24 Tryz.underlying56 hi hz0 hz1 hz2 rfl (by decide) _ (told a b l k).length _ rfl (hown.alloc _) (some ⟨wr.heap.size, 0, none⟩) 1 _ [.string p, .int .i64 1] rfl rfl ?c1 ?c2 ?c3 ?c4 ?c5 ?_))
          case c1 => exact fun _ => ⟨_, rfl, cells_new2 _ _ _ _⟩
          case c2 => intro x hx; simp at hx; rcases hx with rfl | rfl <;> rfl
          case c3 => unfold maxLen; omega
          case c4 => omega
          case c5 => simp; omega
          intro v1 w4 hown1 hg1
          go_wp2
          go_roundw
          case rel =>
            refine ⟨k + 1, by omega, by go_num, ?_, (hbl.alloc hszl _).grown hg1 (by simp; omega) (fun x hx => (hown.lt x hx).1)⟩
            rw [told_next a b l k hlt, HX.out, ht]; rw [Option.toList_some, apF_snoc, List.length_append]; exact hown1
          case measure => simp [intOf]; omega
      | some s =>
        cases eb : findS b p with
        | none =>
          have ht : tell a b p = some (p, 2) := by rw [htell]; simp [kindS, ea, eb]
          clear hin
          go_wp2_with (first | (at_lookup; refine wpList_lookup_says rfl (.tmp 28) (.tmp 29) 195 rfl Tryz.underlying195 ba na (findS a) rfl hma p rfl (some s) ea hps ?_) | (at_lookup; refine wpList_lookup_says rfl (.tmp 34) (.tmp 35) 195 rfl Tryz.underlying195 bb nb (findS b) rfl hmb p rfl none eb hps ?_) | (at_builtin; refine wpList_append_any rfl (.tmp 60) (.tmp 63) 56 rfl w3.heap.size 124 i0 (.agg #[.string ByteArray.empty, .int .i64 0]) 2 24 Tryz.underlying56 hi hz0 hz1 hz2 rfl (by decide) _ (told a b l k).length _ rfl (hown.alloc _) (some ⟨wr.heap.size, 0, none⟩) 1 _ [.string p, .int .i64 2] rfl rfl ?c1 ?c2 ?c3 ?c4 ?c5 ?_))
          case c1 => exact fun _ => ⟨_, rfl, cells_new2 _ _ _ _⟩
          case c2 => intro x hx; simp at hx; rcases hx with rfl | rfl <;> rfl
          case c3 => unfold maxLen; omega
          case c4 => omega
          case c5 => simp; omega
          intro v1 w4 hown1 hg1
          go_wp2
          go_roundw
          case rel =>
            refine ⟨k + 1, by omega, by go_num, ?_, (hbl.alloc hszl _).grown hg1 (by simp; omega) (fun x hx => (hown.lt x hx).1)⟩
            rw [told_next a b l k hlt, HX.out, ht]; rw [Option.toList_some, apF_snoc, List.length_append]; exact hown1
          case measure => simp [intOf]; omega
        | some t =>
          have hbe := ba_beq s t
          clear hin
          by_cases hst : s = t
          · have ht : tell a b p = none := by rw [htell]; simp [kindS, ea, eb, hst]
            rw [decide_eq_true hst] at hbe
            clear hst
            go_wp2_with (first | (at_lookup; refine wpList_lookup_says rfl (.tmp 28) (.tmp 29) 195 rfl Tryz.underlying195 ba na (findS a) rfl hma p rfl (some s) ea hps ?_) | (at_lookup; refine wpList_lookup_says rfl (.tmp 34) (.tmp 35) 195 rfl Tryz.underlying195 bb nb (findS b) rfl hmb p rfl (some t) eb hps ?_))
            go_roundw
            case rel =>
              refine ⟨k + 1, by omega, by go_num, ?_, hbl⟩
              rw [told_next a b l k hlt, HX.out, ht, Option.toList_none, List.append_nil]; exact hown
            case measure => simp [intOf]; omega
          · have ht : tell a b p = some (p, 3) := by rw [htell]; simp [kindS, ea, eb, hst]
            rw [decide_eq_false hst] at hbe
            clear hst
            go_wp2_with (first | (at_lookup; refine wpList_lookup_says rfl (.tmp 28) (.tmp 29) 195 rfl Tryz.underlying195 ba na (findS a) rfl hma p rfl (some s) ea hps ?_) | (at_lookup; refine wpList_lookup_says rfl (.tmp 34) (.tmp 35) 195 rfl Tryz.underlying195 bb nb (findS b) rfl hmb p rfl (some t) eb hps ?_) | (at_builtin; refine wpList_append_any rfl (.tmp 49) (.tmp 52) 56 rfl w3.heap.size 124 i0 (.agg #[.string ByteArray.empty, .int .i64 0]) 2 24 Tryz.underlying56 hi hz0 hz1 hz2 rfl (by decide) _ (told a b l k).length _ rfl (hown.alloc _) (some ⟨wr.heap.size, 0, none⟩) 1 _ [.string p, .int .i64 3] rfl rfl ?c1 ?c2 ?c3 ?c4 ?c5 ?_))
            case c1 => exact fun _ => ⟨_, rfl, cells_new2 _ _ _ _⟩
            case c2 => intro x hx; simp at hx; rcases hx with rfl | rfl <;> rfl
            case c3 => unfold maxLen; omega
            case c4 => omega
            case c5 => simp; omega
            intro v1 w4 hown1 hg1
            go_wp2
            go_roundw
            case rel =>
              refine ⟨k + 1, by omega, by go_num, ?_, (hbl.alloc hszl _).grown hg1 (by simp; omega) (fun x hx => (hown.lt x hx).1)⟩
              rw [told_next a b l k hlt, HX.out, ht]; rw [Option.toList_some, apF_snoc, List.length_append]; exact hown1
            case measure => simp [intOf]; omega
    · obtain rfl : k = l.length := by omega
      rw [told_all] at hown
      go_wp2
      go_ret
      exact ⟨_, rfl, by rw [← HSS.out]; exact ApRow.of_own hown, hb3w.trans (hbl.mono hb3w.size)⟩
end Go.Proofs.YtbmiiiccnoiffaaGreatDoor

/- Walks: what every right program answers; the law DiffFiles. -/
namespace Go.Proofs.YtbmiiiccnoiffaaGreatDoor
open Go.RowKit
set_option maxRecDepth 100000

def tA : List Lf := [(⟨#[97]⟩, ⟨#[49]⟩), (⟨#[98]⟩, ⟨#[50]⟩)]
def tB : List Lf := [(⟨#[98]⟩, ⟨#[51]⟩), (⟨#[99]⟩, ⟨#[52]⟩)]
theorem tFiles : filesS tA tB = [(⟨#[97]⟩, 2), (⟨#[98]⟩, 3), (⟨#[99]⟩, 1)] := by decide +kernel
theorem tLess : lessS ⟨#[97, 47, 98]⟩ ⟨#[97, 46, 98]⟩ = true := by decide +kernel

theorem tRow (w : World) (a b c d : ByteArray) (e : TypeId) : LeafRow (w.alloc (.cells #[.string a, .string b, .string c, .string d] e)) (.slice (some ⟨w.heap.size, 0, none⟩) 2 2) [(a, b), (c, d)] := by
  refine ⟨_, _, rfl, by unfold maxLen; simp, fun _ => ⟨w.heap.size, 0, rfl, by simp, fun i hi j u hu => ?_⟩⟩
  rw [World.cell?_alloc_new]
  have hi2 : i = 0 ∨ i = 1 := by simp at hi; omega
  rcases hi2 with rfl | rfl <;> (rcases j with _ | _ | j <;> simp [leafC] at hu ⊢ <;> exact hu)

set_option maxHeartbeats 2000000 in
theorem alive_any (w : World) (hm : MaxAt w) : Calls Tryz.prog 33 #[] w fun e w' => e = .returned (.bool true) ∧ Below w.heap.size w w' := by
  have hF : ∃ W, W = (w.alloc (.cells #[.string ⟨#[97]⟩, .string ⟨#[49]⟩, .string ⟨#[98]⟩, .string ⟨#[50]⟩] 82)).alloc (.cells #[.string ⟨#[98]⟩, .string ⟨#[51]⟩, .string ⟨#[99]⟩, .string ⟨#[52]⟩] 82) := ⟨_, rfl⟩
  obtain ⟨W, hW⟩ := hF
  have hb1 : Below w.heap.size w (w.alloc (.cells #[.string ⟨#[97]⟩, .string ⟨#[49]⟩, .string ⟨#[98]⟩, .string ⟨#[50]⟩] 82)) := (Below.refl _ w).alloc (Nat.le_refl _) _
  have hb2 : Below w.heap.size w W := by rw [hW]; exact hb1.alloc hb1.size _
  have hr1 : LeafRow W (.slice (some ⟨w.heap.size, 0, none⟩) 2 2) tA := by
    rw [hW]; exact (tRow w _ _ _ _ _).below ((Below.refl _ _).alloc (Nat.le_refl _) _)
  have hr2 : LeafRow W (.slice (some ⟨w.heap.size + 1, 0, none⟩) 2 2) tB := by
    rw [hW]
    have := tRow (w.alloc (.cells #[.string ⟨#[97]⟩, .string ⟨#[49]⟩, .string ⟨#[98]⟩, .string ⟨#[50]⟩] 82)) ⟨#[98]⟩ ⟨#[51]⟩ ⟨#[99]⟩ ⟨#[52]⟩ 82
    rw [World.size_alloc] at this; exact this
  have hF := dfiles_any _ _ tA tB W hr1 hr2 (by decide) (by decide) (by decide) (by decide) (hm.step hb2)
  rw [tFiles] at hF
  have hL := fun w' => dless_any ⟨#[97, 47, 98]⟩ ⟨#[97, 46, 98]⟩ w' (by decide) (by decide)
  rw [tLess] at hL
  clear hb1 hr1 hr2
  go_enter Tryz.func33, Tryz.ntmps33
  go_wp2_with (go_at_call 70; rw [← hW]; refine hF.mono ?_; rintro e w1 ⟨o, rfl, hr, hb3⟩)
  have hbw := hb2.trans (hb3.mono hb2.size)
  have hm1 := hm.step hbw
  obtain ⟨ao, cap, rfl, _, hcell⟩ := hr.open
  obtain ⟨bo, oo, rfl, hbo, hc⟩ := hcell (by simp)
  have c12 := hc 0 (by simp)
  have c34 := hc 1 (by simp)
  have c56 := hc 2 (by simp)
  clear hc hcell hF hr hW
  simp only [List.getElem_cons_zero, List.getElem_cons_succ, Nat.zero_mul, Nat.one_mul, Nat.add_zero, Nat.reduceMul] at c12 c34 c56
  obtain ⟨c1, c2⟩ := c12
  obtain ⟨c3, c4⟩ := c34
  obtain ⟨c5, c6⟩ := c56
  generalize hn : [((⟨#[97]⟩ : ByteArray), 2), (⟨#[98]⟩, 3), (⟨#[99]⟩, 1)].length = n
  have n3 : ((n : Int) == 3) = true := by rw [← hn]; rfl
  have n0 : (0 : Int) < n := by rw [← hn]; decide
  have n1 : (1 : Int) < n := by rw [← hn]; decide
  have n2 : (2 : Int) < n := by rw [← hn]; decide
  clear hn
  go_wp2
  go_simp
  go_wp2_with (go_at_call 71; refine (hL _ hm1).mono ?_; rintro e w2 ⟨rfl, hb4⟩)
  go_ret
  exact ⟨rfl, hbw.trans (hb4.mono hbw.size)⟩

end Go.Proofs.YtbmiiiccnoiffaaGreatDoor

/- How a slice of files that comes in is read. -/
namespace Go.Proofs.YtbmiiiccnoiffaaGreatDoor
open Go.RowKit Go.ChangeShapes Go.WideShapes

theorem mem_weightsAll {H : Type} {P : Program} {e : TypeId} {n : Nat} : ∀ {l : List (DataW H)} {d : DataW H}, d ∈ l → n ∈ d.weights P e → n ∈ DataW.weightsAll P e l
  | x :: l, d, hd, hn => by
    rw [DataW.weightsAll, List.mem_append]
    rcases List.mem_cons.1 hd with rfl | hd
    · exact .inl hn
    · exact .inr (mem_weightsAll hd hn)

theorem leaf_open {H : Type} {enc : TypeId × Value → H} {W : World} {spare : Nat → Bool} {held : Bool} {fuel : Nat} {cs : List Value} {x : DataW H × List MemPlace}
    (h : DataW.trod enc Tryz.prog W 0 spare held fuel 62 cs = some x) : ∃ ao len cap l, cs = [.slice ao len cap] ∧ LeafRow W (.slice ao len cap) l ∧ ∀ f ∈ l, f.2.size ∈ x.1.weights Tryz.prog 62 := by
  rcases Go.Deep.open_slice_pairs Tryz.underlying62 Tryz.underlying82 (by kernel_rfl) rfl rfl (by kernel_rfl) (by kernel_rfl) h with ⟨rfl, _⟩ | ⟨a, len, cap, m, n, V0, V1, D0, D1, P0, P1, rfl, _, hl, hm, hmm, rfl, hc⟩
  · exact ⟨none, 0, 0, [], rfl, ⟨none, 0, rfl, by simp, fun h => absurd rfl h⟩, fun f hf => by simp at hf⟩
  · have hlm : len ≤ m := by rw [hmm]; split <;> omega
    have hex : ∀ i, ∃ q : Lf, i < len → W.cell? (a.add (i * 2)) = some (.string q.1) ∧ W.cell? (a.add (i * 2 + 1)) = some (.string q.2) ∧ D1 i = .lit (.string q.2.data.toList) := fun i => by
      by_cases hi : i < len
      · obtain ⟨h1, h2, h3, h4⟩ := hc i (by omega)
        obtain ⟨s0, e0, _, _⟩ := DataW.trod_string Tryz.underlying9 h3
        obtain ⟨s1, e1, e2, _⟩ := DataW.trod_string Tryz.underlying9 h4
        refine ⟨(s0, s1), fun _ => ⟨?_, ?_, ?_⟩⟩
        · rw [h1]; injection e0 with e; rw [e]
        · rw [h2]; injection e1 with e; rw [e]
        · exact congrArg Prod.fst e2
      · exact ⟨(ByteArray.empty, ByteArray.empty), fun h => absurd h hi⟩
    obtain ⟨q, hq⟩ := Classical.axiomOfChoice hex
    refine ⟨some a, len, cap, (List.range len).map q, rfl, ?_, ?_⟩
    · refine ⟨some a, cap, by simp, by simp; omega, fun hne => ?_⟩
      have hpos : 0 < len := by
        rcases Nat.eq_zero_or_pos len with h0 | h0
        · subst h0; simp at hne
        · exact h0
      obtain ⟨b, off, spot⟩ := a
      have hc0 := (hq 0 hpos).1
      have hspot : spot = none := by simpa [Addr.add] using World.cell?_spot hc0
      subst hspot
      refine ⟨b, off, rfl, ?_, fun i hi j u hu => ?_⟩
      · exact World.block_lt_of_cell? W _ (by rw [Addr.add_mid] at hc0; exact hc0)
      · have hi2 : i < len := by simpa using hi
        obtain ⟨h1, h2, _⟩ := hq i hi2
        rw [Addr.add_mid] at h1 h2
        simp only [List.getElem_map, List.getElem_range, leafC] at hu
        rcases j with _ | _ | j
        · simp at hu; rw [← hu]; exact h1
        · simp at hu; rw [← hu]; exact h2
        · simp at hu
    · intro f hf
      obtain ⟨i, hi, rfl⟩ := List.mem_map.1 hf
      have hi2 := List.mem_range.1 hi
      obtain ⟨_, _, h3⟩ := hq i hi2
      simp only [DataW.weights, Tryz.underlying62]
      refine List.mem_cons_of_mem _ (List.mem_append.2 (.inl (mem_weightsAll (d := .agg [D0 i, D1 i]) (List.mem_map.2 ⟨i, hi, rfl⟩) ?_)))
      simp only [DataW.weights, Tryz.underlying82]
      simp [DataW.weightsEach, h3, DataW.weights]

theorem maxAt_shaped {w : World} (h : w.ShapedOpen Tryz.prog) : MaxAt w :=
  Go.Proofs.cell_of_shapedOpen_int (P := Tryz.prog) (g := 0) (t := 3) (zero := #[.int .i64 0]) h (of_decide_eq_true (by kernel_rfl)) (by kernel_rfl) rfl (by kernel_rfl) (by kernel_rfl) Tryz.underlying3

/-- The kit's wrap for a row that lists variables, the world's shape kept besides. -/
theorem handed_and_shaped {H : Type} {enc : TypeId × Value → H} {a : Assume} {C : Checked} {os : Os} {f : FuncId} {fn : Func} {s : ChangeSpec} {conds : List PathCond} {apart fresh handsOn again : Bool} {X : World → Array Value → Prop}
    (own : ownKnob C.prog.godebug = none) (started : os.Started) (noInit : C.prog.inits.idxOf? f = none) (hfn : C.prog.funcs[f]? = some fn)
    (witness : ∃ (w : World) (tape : Tape) (i : Input), w.os = os ∧ (w.forCall tape i).Shaped C.prog ∧ i.vars = [] ∧ Input.okWide C.prog (w.forCall tape i) .any w.heap.size f i ∧
      ((s.pre enc C.prog fn conds apart (w.forCall tape i).memory i.args ∧ X (w.forCall tape i).memory i.args) ∧ sizedMet enc C.prog fn (OpenSpec.ofChange s) apart (w.forCall tape i).memory i.args) ∧ a.holds C.prog (lone (Frame.enter C.prog f i.args .normal) [] (w.forCall tape i)))
    (contract : ∀ (W : World) (base : Nat) (args : Array Value) (ds gs : List (DataW H)) (before : List MemPlace),
      (∀ (j : Nat) t v, fn.params[j]? = some t → args[j]? = some v → Value.okWide C.prog W .any base t v) →
      DataW.Whole enc C.prog fn.params.toList s.vars apart W args.toList ds gs before →
      (DataW.weightsEach C.prog (fn.params.toList ++ s.plain.varTypes C.prog) (ds ++ gs)).all (· ≤ reachBytes) = true → W.ShapedOpen C.prog →
      Calls C.prog f args W fun e W' => ∃ v, e = .returned v ∧ s.post enc C.prog fn apart fresh handsOn again W args v W') :
    ReturnsInHanded a C os f .any (fun w args => (s.pre enc C.prog fn conds apart w args ∧ X w args) ∧ sizedMet enc C.prog fn (OpenSpec.ofChange s) apart w args) (s.post enc C.prog fn apart fresh handsOn again) := by
  refine returnsInHanded_of_calls own started noInit witness ?_
  intro w tape i _ hsh _ hok hpre _
  obtain ⟨_, _, _, fn', hfn', _, _, _, _, hval⟩ := hok
  have e : fn' = fn := Option.some.inj (hfn'.symm.trans hfn)
  subst e
  obtain ⟨⟨⟨ds, gs, before, hw, _⟩, _⟩, hz⟩ := hpre
  have hw' := DataW.Whole.of_heap (w' := w.forCall tape i) (by rfl) hw
  refine (contract (w.forCall tape i) w.heap.size i.args ds gs before hval hw' (hz.weights hw) hsh).mono fun e W' ⟨v, he, hp⟩ => ?_
  subst he
  exact ChangeSpec.post_blind hp
end Go.Proofs.YtbmiiiccnoiffaaGreatDoor

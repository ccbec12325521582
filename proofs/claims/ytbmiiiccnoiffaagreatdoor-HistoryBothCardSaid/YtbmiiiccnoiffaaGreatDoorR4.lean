/- YtbmiiiccnoiffaaGreatDoorR4: texts JB, T0 of this claim, in one. -/
import Derived.Laws.IdiomStrings
import Derived.Test.YtbmiiiccnoiffaaGreatDoorR3
namespace Go.Proofs.YtbmiiiccnoiffaaGreatDoor
open Go.RowKit

def firstL : List W32 := [0x6a09e667#32, 0xbb67ae85#32, 0x3c6ef372#32, 0xa54ff53a#32, 0x510e527f#32, 0x9b05688c#32, 0x1f83d9ab#32, 0x5be0cd19#32]
def firstW (k : Nat) : W32 := firstL.getD k 0
def firstV : List Value := [.int .u32 (wn (firstW 0)), .int .u32 (wn (firstW 1)), .int .u32 (wn (firstW 2)), .int .u32 (wn (firstW 3)), .int .u32 (wn (firstW 4)), .int .u32 (wn (firstW 5)), .int .u32 (wn (firstW 6)), .int .u32 (wn (firstW 7))]
/-- What the two variables of the digest hold. -/
structure Laid (w : World) : Prop where
  rounds : w.rangeAt 4 0 kV
  first : w.rangeAt 1 0 firstV
  lt : 5 ≤ w.heap.size
theorem Laid.below {w w' : World} (h : Laid w) (hb : Below w.heap.size w w') : Laid w' := by
  have := h.lt; have := hb.size
  exact ⟨rangeAt_below h.rounds hb (by omega), rangeAt_below h.first hb (by omega), by omega⟩
theorem rangeAt_grown {w w' : World} {b b2 o : Nat} {cs : List Value} (h : w.rangeAt b o cs) (hg : w.grownBy w' (some b2)) (hne : b ≠ b2) : w'.rangeAt b o cs := fun j v hv =>
  hg.cell (h j v hv) (by simpa using hne)
theorem Laid.grown {w w' : World} {b : Nat} (h : Laid w) (hg : w.grownBy w' (some b)) (hb : 5 ≤ b) : Laid w' :=
  ⟨rangeAt_grown h.rounds hg (by omega), rangeAt_grown h.first hg (by omega), Nat.le_trans h.lt hg.size⟩

theorem grown_trans {a w w' : World} {b : Nat} (h : a.grownBy w (some b)) (k : w.grownBy w' (some b)) : a.grownBy w' (some b) :=
  ⟨k.os.trans h.os, k.tape.trans h.tape, k.output.trans h.output, Nat.le_trans h.size k.size, fun i hi hne => (k.block i (Nat.lt_of_lt_of_le hi h.size) hne).trans (h.block i hi hne)⟩

def HS.begin (h : HS) : HS := if h.begun then h else { h with begun := true, st := firstW }
def HS.put (h : HS) (x : UInt8) : HS :=
  if h.many + 1 = 64 then { h with st := blockW h.st (upd h.rest h.many x), rest := upd h.rest h.many x, many := 0 } else { h with rest := upd h.rest h.many x, many := h.many + 1 }
theorem HS.put_many (h : HS) (x : UInt8) (hm : h.many < 64) : (h.put x).many < 64 := by
  unfold HS.put; split
  · show 0 < 64; omega
  · show h.many + 1 < 64; omega

set_option maxHeartbeats 1000000 in
theorem put_any (b : Nat) (h : HS) (x : UInt8) (w : World) (hA : Arr w b 75 h.c) (hm : h.many < 64) (hL : Laid w) (hb8 : 5 ≤ b) :
    Calls Tryz.prog 181 #[.pointer (some ⟨b, 0, none⟩), .int .u8 (x.toNat : Int)] w fun e w' => e = .returned (.tuple #[]) ∧ Arr w' b 75 (h.put x).c ∧ w.grownBy w' (some b) := by
  have hbl : b < w.heap.size := hA.lt (by omega)
  have c1 := hA.cell 73 (by omega)
  rw [HS.c_many] at c1
  have c2 := hA.cell (9 + h.many) (by omega)
  have f2 := hA.free (9 + h.many) (by omega)
  have f1 := hA.free 73 (by omega)
  have m0 : (0 : Int) ≤ h.many := by omega
  have m1 : (h.many : Int) < 64 := by omega
  have HA := Lib.hid hA
  clear hA
  generalize hmm : h.many = m at hm c1 c2 f2 m0 m1
  have HM := Lib.hid hmm
  have HL := Lib.hid hL
  clear hmm hL
  go_enter Tryz.func181, Tryz.ntmps181
  go_wp2
  refine wp_region_bt 9 (by kernel_rfl) (by kernel_rfl) ?_
  simp only [List.take_succ_cons, List.take_zero, List.drop_succ_cons, List.drop_zero]
  have LQ0 := fun x : BW (World.heap w).size w => below_load c1 x.hb (by omega)
  repeat (go_big_quiet_step (fail))
  refine wpQuiet_nil ?_
  intro wq hbq
  clear LQ0
  have g1 := below_load c1 hbq hbl
  have g2 := below_load c2 hbq hbl
  have k1 : wq.frozen? ⟨b, 73, none⟩ = false := by rw [hbq.frozen (p := ⟨b, 73, none⟩) hbl]; exact f1
  have k2 : wq.frozen? ⟨b, 9 + m, none⟩ = false := by rw [hbq.frozen (p := ⟨b, 9 + m, none⟩) hbl]; exact f2
  clear c1 c2 f1 f2
  have hA1 := (HA.out.below hbq hbl).set (9 + m) (by omega) (.int .u8 (x.toNat : Int))
  rw [HS.upd_rest _ _ (by omega)] at hA1
  have hA2 := hA1.set 73 (by omega) (.int .i64 ((m + 1 : Nat) : Int))
  rw [HS.upd_many] at hA2
  dsimp only at hA2
  have HA2 := Lib.hid hA2
  have HG := Lib.hid (grown_set (grown_set (grown_of_below hbq (some b)) (o := 9 + m) (.int .u8 (x.toNat : Int))) (o := 73) (.int .i64 ((m + 1 : Nat) : Int)))
  clear hA1 hA2
  by_cases h64 : m + 1 = 64
  · have h64' : ((m : Int) + 1 == 64) = true := by rw [beq_iff_eq]; omega
    have HH := Lib.hid h64
    clear h64
    go_wp2_with fail
    have hL2 : Laid _ := HL.out.grown HG.out hb8
    refine (take_any b _ _ HA2.out hL2.rounds (by have := hL2.lt; omega)).mono ?_
    rintro e w' ⟨rfl, hA3, hg3⟩
    have HA3 := Lib.hid hA3
    have HG3 := Lib.hid (grown_trans HG.out hg3)
    clear hA3 hg3 hL2
    go_wp2
    go_end0
    refine ⟨rfl, ?_, HG3.out⟩
    unfold HS.put
    rw [HM.out, if_pos HH.out]
    exact HA3.out
  · have h64' : ((m : Int) + 1 == 64) = false := by rw [beq_eq_false_iff_ne]; omega
    have HH := Lib.hid h64
    clear h64
    go_wp2
    go_end0
    refine ⟨rfl, ?_, HG.out⟩
    unfold HS.put
    rw [HM.out, if_neg HH.out]
    exact HA2.out
end Go.Proofs.YtbmiiiccnoiffaaGreatDoor

namespace Go.Proofs.YtbmiiiccnoiffaaGreatDoor
open Go.RowKit

theorem Arr.setCells {w : World} {b n : Nat} {c : Nat → Value} (h : Arr w b n c) (o : Nat) (vs : List Value) (hn : o + vs.length ≤ n) :
    Arr (w.setCells b o vs) b n (fun k => if o ≤ k ∧ k < o + vs.length then vs.getD (k - o) undef else c k) := by
  have ht : w.there b o vs.length := fun j hj => ⟨by rw [h.cell (o + j) (by omega)]; rfl, h.free _ (by omega)⟩
  refine ⟨fun k hk => ?_, fun k hk => ?_⟩
  · split
    · rename_i hc
      have := World.rangeAt_setCells_same w b o vs ht (k - o) (vs.getD (k - o) undef) (by simp [show k - o < vs.length from by omega])
      rw [show o + (k - o) = k from by omega] at this
      exact this
    · rw [World.cell?_setCells_out b vs o w ⟨b, k, none⟩ (fun _ _ => by show k < o ∨ o + vs.length ≤ k; omega)]
      exact h.cell k hk
  · rw [World.frozen?_setCells]; exact h.free k hk
theorem grown_setCells {w : World} {b : Nat} (vs : List Value) : ∀ (o : Nat) (w' : World), w.grownBy w' (some b) → w.grownBy (w'.setCells b o vs) (some b) := by
  induction vs with
  | nil => intro o w' h; exact h
  | cons v vs ih => intro o w' h; rw [World.setCells]; exact ih _ _ (grown_set h v)
theorem HS.begin_c (h : HS) (hb : h.begun = false) : ∀ k, k < 75 → (if 1 ≤ k ∧ k < 1 + firstV.length then firstV.getD (k - 1) undef else upd h.c 0 (.bool true) k) = h.begin.c k := by
  intro k _
  have hl : firstV.length = 8 := rfl
  have he : h.begin = { h with begun := true, st := firstW } := by unfold HS.begin; rw [hb]; rfl
  rw [hl, he]
  unfold upd HS.c
  dsimp only
  by_cases h0 : k = 0
  · subst h0; rfl
  · by_cases h9 : k < 9
    · rw [if_pos (by omega), if_neg h0, if_pos h9]
      obtain h | h | h | h | h | h | h | h : k = 1 ∨ k = 2 ∨ k = 3 ∨ k = 4 ∨ k = 5 ∨ k = 6 ∨ k = 7 ∨ k = 8 := by omega
      all_goals subst h; rfl
    · rw [if_neg (by omega), if_neg h0, if_neg h0, if_neg h0, if_neg h9, if_neg h9]

set_option maxHeartbeats 1000000 in
theorem begin_any (b : Nat) (h : HS) (w : World) (hA : Arr w b 75 h.c) (hL : Laid w) :
    Calls Tryz.prog 180 #[.pointer (some ⟨b, 0, none⟩)] w fun e w' => e = .returned (.tuple #[]) ∧ Arr w' b 75 h.begin.c ∧ w.grownBy w' (some b) := by
  have c0 := hA.cell 0 (by omega)
  rw [HS.c_begun] at c0
  have f0 := hA.free 0 (by omega)
  cases hb : h.begun with
  | true =>
    rw [hb] at c0
    have HA := Lib.hid hA
    have HB := Lib.hid hb
    clear hA hb
    go_enter Tryz.func180, Tryz.ntmps180
    go_wp2
    go_end0
    refine ⟨rfl, ?_, grown_of_below (Below.refl _ _) _⟩
    unfold HS.begin
    rw [HB.out, if_pos rfl]
    exact HA.out
  | false =>
    rw [hb] at c0
    have HB := Lib.hid hb
    have hA1 := hA.set 0 (by omega) (.bool true)
    have hth : (w.setCell ⟨b, 0, none⟩ (.bool true)).there b (0 + 1) 8 := fun j hj => ⟨by rw [hA1.cell _ (by omega)]; rfl, hA1.free _ (by omega)⟩
    have hA2 := hA1.setCells 1 firstV (by show 1 + 8 ≤ 75; omega)
    have HA2 := Lib.hid hA2
    have HG := Lib.hid (grown_setCells firstV 1 _ (grown_set (grown_of_below (Below.refl _ w) (some b)) (o := 0) (.bool true)))
    have hF := hL.first
    have h8 : (Tryz.prog.info? 225).map (·.size) = some 8 := by kernel_rfl
    have HT := Lib.hid hth
    clear hA hb hA1 hA2 hL hth
    go_enter Tryz.func180, Tryz.ntmps180
    go_wp2_with (first | (refine wpList_load_mid rfl 225 _ rfl 1 0 rfl firstV _ hF Tryz.underlying225 rfl h8 ?_) | (refine wpList_store_list rfl 225 _ _ rfl b 1 firstV ?x1 ?x2 8 ?x3 ?x4 ?x5 ?h1 ?_))
    case x1 => rfl
    case x2 => rfl
    case x3 => rfl
    case x4 => exact HT.out
    case x5 => exact h8
    case h1 => unfold firstV; simp [Value.oneCell']
    go_wp2
    go_end0
    exact ⟨rfl, HA2.out.congr (HS.begin_c h HB.out), HG.out⟩
end Go.Proofs.YtbmiiiccnoiffaaGreatDoor

namespace Go.Proofs.YtbmiiiccnoiffaaGreatDoor
open Go.RowKit

def HS.feed (h : HS) (l : List UInt8) : HS := l.foldl HS.put h
theorem HS.feed_snoc (h : HS) (s : ByteArray) (k : Nat) (hk : k < s.size) : h.feed (s.data.toList.take (k + 1)) = (h.feed (s.data.toList.take k)).put s[k] := by
  unfold HS.feed
  rw [List.take_succ_eq_append_getElem (by simpa using hk), List.foldl_append]; rfl
theorem HS.feed_many (h : HS) (l : List UInt8) (hm : h.many < 64) : (h.feed l).many < 64 := by
  unfold HS.feed
  induction l generalizing h with
  | nil => exact hm
  | cons x l ih => exact ih _ (HS.put_many _ _ hm)
theorem HS.put_taken (h : HS) (x : UInt8) : (h.put x).taken = h.taken := by unfold HS.put; split <;> rfl
theorem HS.feed_taken (h : HS) (l : List UInt8) : (h.feed l).taken = h.taken := by
  unfold HS.feed
  induction l generalizing h with
  | nil => rfl
  | cons x l ih => exact (ih _).trans (HS.put_taken _ _)
theorem HS.begin_many (h : HS) : h.begin.many = h.many := by unfold HS.begin; split <;> rfl
theorem HS.begin_taken (h : HS) : h.begin.taken = h.taken := by unfold HS.begin; split <;> rfl
/-- Ahead of the text, behind it. -/
def HS.w1 (h : HS) (s : ByteArray) (k : Nat) : HS := if k = 0 then h.begin else { h.begin.feed s.data.toList with taken := (s.size : Int) }

set_option maxHeartbeats 2000000 in
theorem write_any (b p q cap : Nat) (h : HS) (s : ByteArray) (w : World) (hA : Arr w b 75 h.c) (hL : Laid w) (hb8 : 5 ≤ b) (hs : w.cell? ⟨p, q, none⟩ = some (.string s)) (hp : p ≠ b) (ht : h.taken = 0) (hm : h.many < 64) (hz : s.size ≤ 1000000000) :
    Calls Tryz.prog 141 #[.pointer (some ⟨b, 0, none⟩), .slice (some ⟨p, q, none⟩) 1 cap] w fun e w' => e = .returned (.tuple #[]) ∧ Arr w' b 75 (h.w1 s 1).c ∧ w.grownBy w' (some b) := by
  have HB := Lib.hid (fun w' (h1 : Arr w' b 75 h.c) (h2 : Laid w') => begin_any b h w' h1 h2)
  have HT := Lib.hid ht
  have HM := Lib.hid hm
  have HA := Lib.hid hA
  have HL := Lib.hid hL
  clear hA hL ht hm
  go_enter Tryz.func141, Tryz.ntmps141
  go_wp2_with fail
  refine (HB.out w HA.out HL.out).mono ?_
  rintro e w1 ⟨rfl, hA1, hg1⟩
  have hs1 := hg1.cell hs (by simpa using hp)
  have HA1 := Lib.hid hA1
  have HG1 := Lib.hid hg1
  clear hA1 hg1
  go_wp2
  go_loopw [13] (fun i wr => ∃ k : Nat, k ≤ 1 ∧ i = .int .i64 k ∧ Arr wr b 75 (h.w1 s k).c ∧ w.grownBy wr (some b)) (fun i _ => (1 - intOf i).toNat)
  case atStart => exact ⟨0, by omega, rfl, HA1.out, HG1.out⟩
  case round =>
    obtain ⟨wo, rfl⟩ : ∃ wo : World, wo = wr := ⟨_, rfl⟩
    obtain ⟨k, hk, rfl, hAo, hgo⟩ := hrel
    by_cases hk0 : k < 1
    · have HK0 := Lib.hid (show k = 0 by omega)
      have hd1 : decide (k < 1) = true := decide_eq_true hk0
      have hd2 : decide ((k : Int) < 1) = true := decide_eq_true (by omega)
      have k0 : (0 : Int) ≤ k := by omega
      have k1 : (k : Int) < 1 := by omega
      have hpk : (⟨p, q + k, none⟩ : Addr) = ⟨p, q, none⟩ := by rw [HK0.out]; rfl
      have hso := hgo.cell hs (by simpa using hp)
      rw [← hpk] at hso
      have HAo := Lib.hid hAo
      have HGo := Lib.hid hgo
      clear hAo hgo hs1 hk hk0 hpk
      go_wp2
      go_loopw [19] (fun i wr => ∃ j : Nat, j ≤ s.size ∧ i = .int .i64 j ∧ Arr wr b 75 (h.begin.feed (s.data.toList.take j)).c ∧ w.grownBy wr (some b)) (fun i _ => (s.size - intOf i).toNat)
      case atStart => exact ⟨0, by omega, rfl, by have := HAo.out; rw [HK0.out] at this; exact this, HGo.out⟩
      case round =>
        obtain ⟨wi, rfl⟩ : ∃ wi : World, wi = wr := ⟨_, rfl⟩
        obtain ⟨j, hj, rfl, hAi, hgi⟩ := hrel
        by_cases hjl : j < s.size
        · have HP := Lib.hid (put_any b _ s[j] wi hAi (HS.feed_many _ _ (by rw [HS.begin_many]; exact HM.out)) (HL.out.grown hgi hb8) hb8)
          have HGi := Lib.hid hgi
          have HS1 := Lib.hid (HS.feed_snoc h.begin s j hjl)
          clear hAi hgi
          go_wp2_with fail
          refine HP.out.mono ?_
          rintro e w2 ⟨rfl, hA2, hg2⟩
          have HA2 := Lib.hid hA2
          have HG2 := Lib.hid (grown_trans HGi.out hg2)
          clear hA2 hg2
          go_wp2
          go_roundw
          case rel => exact ⟨j + 1, by omega, by go_num, by rw [HS1.out]; exact HA2.out, HG2.out⟩
          case measure => simp [intOf]; omega
        · obtain rfl : j = s.size := by omega
          rw [show s.data.toList.take s.size = s.data.toList from List.take_of_length_le (by simp)] at hAi
          have c1 := hAi.cell 74 (by omega)
          have f1 := hAi.free 74 (by omega)
          rw [HS.c_taken, HS.feed_taken, HS.begin_taken, HT.out] at c1
          have HAi := Lib.hid hAi
          have HGi := Lib.hid hgi
          clear hAi hgi
          go_wp2
          go_roundw
          case rel =>
            refine ⟨k + 1, by omega, by go_num, ?_, grown_set HGi.out _⟩
            rw [HK0.out]
            exact (HAi.out.set 74 (by omega) (.int .u64 (s.size : Int))).congr (HS.upd_taken _ _)
          case measure => simp [intOf]; omega
    · obtain rfl : k = 1 := by omega
      have HAo := Lib.hid hAo
      have HGo := Lib.hid hgo
      clear hAo hgo
      go_wp2
      go_end0
      exact ⟨rfl, HAo.out, HGo.out⟩
end Go.Proofs.YtbmiiiccnoiffaaGreatDoor

namespace Go.Proofs.YtbmiiiccnoiffaaGreatDoor
open Go.RowKit

/-- The eight bytes of a number, the highest first. -/
def be8 (T k : Nat) : UInt8 := UInt8.ofNat (T / 2 ^ (56 - 8 * k))
def be64 (T : Nat) : List UInt8 := (List.range 8).map (be8 T)
/-- The bytes of a state. -/
def stB (st : Nat → W32) (j : Nat) : UInt8 := UInt8.ofNat ((st (j / 4)).toNat / 2 ^ (24 - 8 * (j % 4)))
def padN (m : Nat) : Nat := (120 - m) % 64
/-- The hash behind its end. -/
def HS.ended (h : HS) : HS := (((h.begin.put 128).feed (List.replicate (padN (h.begin.put 128).many) 0))).feed (be64 (8 * h.taken.toNat))
/-- An id as a value. -/
def idV (x : List UInt8) : Value := .agg (x.map fun b => Value.int .u8 (b.toNat : Int)).toArray
def HS.sum (h : HS) : List UInt8 := (List.range 32).map (stB h.ended.st)

theorem feed_app (h : HS) (l m : List UInt8) : h.feed (l ++ m) = (h.feed l).feed m := by unfold HS.feed; rw [List.foldl_append]
theorem feed_one (h : HS) (l : List UInt8) (x : UInt8) : h.feed (l ++ [x]) = (h.feed l).put x := feed_app h l [x]
theorem put_many_mod (h : HS) (x : UInt8) (hm : h.many < 64) : (h.put x).many = (h.many + 1) % 64 := by
  unfold HS.put; split
  · rename_i h1; rw [h1]
  · rename_i h1; show h.many + 1 = _; rw [Nat.mod_eq_of_lt (by omega)]
theorem feed_many_mod (h : HS) (hm : h.many < 64) : ∀ l : List UInt8, (h.feed l).many = (h.many + l.length) % 64 := by
  intro l
  induction l generalizing h with
  | nil => show h.many = _; rw [List.length_nil, Nat.add_zero, Nat.mod_eq_of_lt hm]
  | cons x l ih =>
    show ((h.put x).feed l).many = _
    rw [ih _ (HS.put_many h x hm), put_many_mod h x hm, List.length_cons]; omega
theorem be64_take (T k : Nat) (hk : k < 8) : (be64 T).take (k + 1) = (be64 T).take k ++ [be8 T k] := by
  have hl : (be64 T).length = 8 := by simp [be64]
  rw [List.take_succ_eq_append_getElem (by omega)]
  congr 1
  simp [be64]
theorem wrap_u8' (n : Int) : IntKind.u8.wrap n = n % 256 := by simp [IntKind.wrap, IntKind.signed, IntKind.bits]
theorem u8_of (n : Nat) : ((UInt8.ofNat n).toNat : Int) = (n : Int) % 256 := by
  rw [UInt8.toNat_ofNat']; omega
theorem run_index_list (t e : TypeId) (len : Nat) (hu : Tryz.prog.underlying t = some (.array len e)) (hs : ∀ w, (sizeOf e).run Tryz.prog w = .ok 1 w) (ha : ∀ w, (isAgg e).run Tryz.prog w = .ok false w)
    (vs : List Value) (w : World) (n : Nat) (hn : n < len) (v : Value) (hv : vs[n]? = some v) : (Instr.index t (.agg vs.toArray) (.int .i64 (n : Int))).run Tryz.prog w = .ok v w := by
  have h1 : (0 : Int) ≤ n ∧ (n : Int) < len := by omega
  have h2 : vs.toArray[n]? = some v := by simpa using hv
  unfold Instr.index
  simp only [Sem.run_bind, asIntOf, Sem.run_pure, Result.andThen_ok, run_underlying hu, if_pos h1, hs w, part, ha w, Int.toNat_natCast, Nat.mul_one, h2]
  rfl
theorem vi64 {a b : Int} (h : a = b) : Value.int .i64 a = .int .i64 b := by rw [h]
def padLeft (c : Nat) (w : World) : Nat := match w.cell? ⟨c, 73, none⟩ with
  | some (.int _ m) => padN m.toNat
  | _ => 0
theorem Arr.ofList (w : World) (vs : List Value) (e : TypeId) : Arr (w.alloc (.cells vs.toArray e)) w.heap.size vs.length (fun k => vs.getD k undef) :=
  ⟨fun k hk => by rw [World.cell?_alloc_new]; simp [hk], fun k hk => by rw [World.frozen?_alloc_new]⟩
def zeroH : HS := { begun := false, st := fun _ => 0, rest := fun _ => 0, many := 0, taken := 0 }
theorem Arr.zeroH (w : World) (e : TypeId) : Arr (w.alloc (.cells ((List.range 75).map zeroH.c).toArray e)) w.heap.size 75 Go.Proofs.YtbmiiiccnoiffaaGreatDoor.zeroH.c := by
  have h := Arr.ofList w ((List.range 75).map Go.Proofs.YtbmiiiccnoiffaaGreatDoor.zeroH.c) e
  rw [List.length_map, List.length_range] at h
  exact h.congr fun k hk => by simp [hk]

def outC (st : Nat → W32) (n k : Nat) : Value := if k < 4 * n then .int .u8 ((stB st k).toNat : Int) else .int .u8 0
theorem outC_zero (st : Nat → W32) : outC st 0 = fun _ => .int .u8 0 := by funext k; unfold outC; rw [if_neg (by omega)]
theorem stB_v (st : Nat → W32) (n i : Nat) (hi : i < 4) : ((stB st (4 * n + i)).toNat : Int) = wn (st n) / ((2 ^ (24 - 8 * i) : Nat) : Int) % 256 := by
  unfold stB wn
  rw [u8_of, show (4 * n + i) / 4 = n from by omega, show (4 * n + i) % 4 = i from by omega]
  rfl
theorem outC_next (st : Nat → W32) (n : Nat) (k : Nat) :
    upd (upd (upd (upd (outC st n) (4 * n) (.int .u8 (wn (st n) / 16777216))) (4 * n + 1) (.int .u8 (wn (st n) / 65536 % 256))) (4 * n + 2) (.int .u8 (wn (st n) / 256 % 256))) (4 * n + 3) (.int .u8 (wn (st n) % 256)) k = outC st (n + 1) k := by
  have h0 : ((stB st (4 * n)).toNat : Int) = wn (st n) / 16777216 := by
    have h : ((stB st (4 * n)).toNat : Int) = wn (st n) / 16777216 % 256 := stB_v st n 0 (by omega)
    have h2 := wn_lt (st n); have h3 := wn_0 (st n)
    omega
  have h1 : ((stB st (4 * n + 1)).toNat : Int) = wn (st n) / 65536 % 256 := stB_v st n 1 (by omega)
  have h2 : ((stB st (4 * n + 2)).toNat : Int) = wn (st n) / 256 % 256 := stB_v st n 2 (by omega)
  have h3 : ((stB st (4 * n + 3)).toNat : Int) = wn (st n) % 256 := by
    have h : ((stB st (4 * n + 3)).toNat : Int) = wn (st n) / 1 % 256 := stB_v st n 3 (by omega)
    rw [Int.ediv_one] at h; exact h
  unfold upd outC
  by_cases e3 : k = 4 * n + 3
  · subst e3; rw [if_pos rfl, if_pos (by omega), h3]
  · rw [if_neg e3]
    by_cases e2 : k = 4 * n + 2
    · subst e2; rw [if_pos rfl, if_pos (by omega), h2]
    · rw [if_neg e2]
      by_cases e1 : k = 4 * n + 1
      · subst e1; rw [if_pos rfl, if_pos (by omega), h1]
      · rw [if_neg e1]
        by_cases e0 : k = 4 * n
        · subst e0; rw [if_pos rfl, if_pos (by omega), h0]
        · rw [if_neg e0]
          by_cases e : k < 4 * n
          · rw [if_pos e, if_pos (by omega)]
          · rw [if_neg e, if_neg (by omega)]
theorem idx8 (st : Nat → W32) (n : Nat) (hn : n < 8) : [Value.int .u32 (wn (st 0)), .int .u32 (wn (st 1)), .int .u32 (wn (st 2)), .int .u32 (wn (st 3)), .int .u32 (wn (st 4)), .int .u32 (wn (st 5)), .int .u32 (wn (st 6)), .int .u32 (wn (st 7))][n]? = some (.int .u32 (wn (st n))) := by
  obtain h | h | h | h | h | h | h | h : n = 0 ∨ n = 1 ∨ n = 2 ∨ n = 3 ∨ n = 4 ∨ n = 5 ∨ n = 6 ∨ n = 7 := by omega
  all_goals subst h; rfl

set_option maxRecDepth 100000 in
set_option maxHeartbeats 800000 in
theorem hsum_any (b : Nat) (h : HS) (w : World) (hA : Arr w b 75 h.c) (hL : Laid w) (hm : h.many < 64) (ht : 0 ≤ h.taken ∧ h.taken ≤ 1000000000) :
    Calls Tryz.prog 142 #[.pointer (some ⟨b, 0, none⟩)] w fun e w' => e = .returned (idV h.sum) ∧ Below w.heap.size w w' := by
  have hbl : b < w.heap.size := hA.lt (by omega)
  have HA := Lib.hid hA
  have HL := Lib.hid hL
  have HM := Lib.hid hm
  have HT := Lib.hid ht
  clear hA hL hm ht
  have hz : Tryz.zeroCells229 = ((List.range 75).map zeroH.c).toArray := by kernel_rfl
  have hR : w.rangeAt b 0 ((List.range 75).map h.c) := HA.out.range
  have hlen : ((List.range 75).map h.c).length = 75 := by simp
  have hone : ∀ v ∈ (List.range 75).map h.c, v.oneCell' = true := by
    intro v hv
    obtain ⟨k, _, rfl⟩ := List.mem_map.1 hv
    unfold HS.c
    repeat' split
    all_goals rfl
  have hget : ∀ k, k < 75 → ((List.range 75).map h.c).getD k undef = h.c k := fun k hk => by simp [hk]
  have hi : (Tryz.prog.info? 229).map (·.size) = some 75 := by kernel_rfl
  generalize (List.range 75).map h.c = vs at hR hlen hone hget
  have hi2 : (Tryz.prog.info? 229).map (·.size) = some vs.length := by rw [hlen]; exact hi
  have hA1 : Arr ((w.alloc (.cells (Array.replicate 32 (.int .u8 0)) 24)).alloc (.cells Tryz.zeroCells229 229)) (w.heap.size + 1) 75 zeroH.c := by
    rw [hz]
    have := Arr.zeroH (w.alloc (.cells (Array.replicate 32 (.int .u8 0)) 24)) 229
    rw [World.size_alloc] at this; exact this
  have hA2 := hA1.setAll vs hlen
  have hA3 := hA2.congr hget
  have hth := hA1.there
  have HA3 := Lib.hid hA3
  have HTH := Lib.hid hth
  have HLN := Lib.hid hlen
  have HON := Lib.hid hone
  clear hA1 hA2 hA3 hth hget hlen hz hone
  go_enter Tryz.func142, Tryz.ntmps142
  go_wp2_with (first | (refine wpList_load_mid rfl 229 _ rfl b 0 rfl vs _ (World.rangeAt_alloc (World.rangeAt_alloc hR _) _) Tryz.underlying229 rfl hi2 ?_) | (refine wpList_store_list rfl 229 _ _ rfl (w.heap.size + 1) 0 vs ?x1 ?x2 75 HLN.out ?x4 hi HON.out ?_) | fail)
  case x4 => exact HTH.out
  generalize hW : World.setCells _ (w.heap.size + 1) 0 vs = W
  have hbW : Below w.heap.size w W := by
    rw [← hW]; exact below_setCells _ (by omega) vs 0 _ (((Below.refl _ _).alloc (Nat.le_refl _) _).alloc (by simp) _)
  have hA4 : Arr W (w.heap.size + 1) 75 h.c := by rw [← hW]; exact HA3.out
  have hO4 : Arr W w.heap.size 32 (fun _ => .int .u8 0) := by
    rw [← hW]
    have h1 := (Arr.new w 32 (.int .u8 0) 24).alloc (by omega) (.cells Tryz.zeroCells229 229)
    exact ⟨fun k hk => by rw [World.cell?_setCells_out (w.heap.size + 1) vs 0 _ ⟨w.heap.size, k, none⟩ (fun hb _ => by simp at hb)]; exact h1.cell k hk, fun k hk => by rw [World.frozen?_setCells]; exact h1.free k hk⟩
  have hsW : w.heap.size + 1 < W.heap.size := hA4.lt (by omega)
  have hL4 := HL.out.below hbW
  clear HA3 HTH hi2 hi hR
  have HBW := Lib.hid hbW
  have HO4 := Lib.hid hO4
  have h8 : 5 ≤ w.heap.size + 1 := by have := HL.out.lt; omega
  clear hbW hO4
  refine (begin_any (w.heap.size + 1) h W hA4 hL4).mono ?_
  rintro e w1 ⟨rfl, hA5, hg5⟩
  have hL5 := hL4.grown hg5 h8
  have HP := put_any (w.heap.size + 1) h.begin 128 w1 hA5 (by rw [HS.begin_many]; exact HM.out) hL5 h8
  rw [show (((128 : UInt8).toNat : Nat) : Int) = 128 from rfl] at HP
  have HPP := Lib.hid HP
  have HG5 := Lib.hid hg5
  clear hA4 hA5 HP hg5 hL4 hL5 hW
  go_wp2_with fail
  refine HPP.out.mono ?_
  rintro e w2 ⟨rfl, hA6, hg6⟩
  have HG6 := Lib.hid (grown_trans HG5.out hg6)
  have hm6 : (h.begin.put 128).many < 64 := HS.put_many _ _ (by rw [HS.begin_many]; exact HM.out)
  have ht6 : (h.begin.put 128).taken = h.taken := by rw [HS.put_taken, HS.begin_taken]
  have HMM := Lib.hid hm6
  have HEN : Hid (h.ended = ((h.begin.put 128).feed (List.replicate (padN (h.begin.put 128).many) 0)).feed (be64 (8 * h.taken.toNat))) := Lib.hid rfl
  generalize h.begin.put 128 = g at hA6 hm6 ht6 HMM HEN
  have HTT := Lib.hid ht6
  have HA6 := Lib.hid hA6
  clear hA6 hg6 HPP hm6 ht6
  go_wp2
  go_loopw [16] (fun _ wr => ∃ i : Nat, i ≤ padN g.many ∧ Arr wr (w.heap.size + 1) 75 (g.feed (List.replicate i 0)).c ∧ W.grownBy wr (some (w.heap.size + 1))) (fun _ wr => padLeft (w.heap.size + 1) wr)
  case atStart => exact ⟨0, Nat.zero_le _, HA6.out, HG6.out⟩
  case round =>
    obtain ⟨wo, rfl⟩ : ∃ wo : World, wo = wr := ⟨_, rfl⟩
    obtain ⟨i, hi, hAo, hgo⟩ := hrel
    have c1 := hAo.cell 73 (by omega)
    rw [HS.c_many] at c1
    have hmo := feed_many_mod g HMM.out (List.replicate i 0)
    rw [List.length_replicate] at hmo
    generalize hq : g.feed (List.replicate i 0) = q at hAo c1 hmo
    by_cases hne : q.many = 56
    · have hd : ((q.many : Int) != 56) = false := by rw [bne_eq_false_iff_eq]; omega
      have hie : i = padN g.many := by unfold padN at hi ⊢; have := HMM.out; omega
      have hA1 := hAo
      rw [hie] at hq
      have HEN2 : Hid (h.ended = q.feed (be64 (8 * h.taken.toNat))) := by
        have := HEN.out; rw [hq] at this; exact this
      have htq : q.taken = h.taken := by rw [← hq, HS.feed_taken]; exact HTT.out
      have hmq : q.many < 64 := by omega
      have HTQ := Lib.hid htq
      have HMQ := Lib.hid hmq
      have HA1 := Lib.hid hA1
      have HGO := Lib.hid hgo
      clear hAo hA1 hgo hmo hne hie hi htq hmq HEN hq
      obtain ⟨T, hT⟩ : ∃ T : Nat, h.taken = T := ⟨h.taken.toNat, by have := HT.out; omega⟩
      have hT2 : T ≤ 1000000000 := by have := HT.out; omega
      have HTT2 := Lib.hid hT
      rw [hT, Int.toNat_natCast] at HEN2
      clear hT
      go_wp2
      go_loopw [4] (fun i wr => ∃ k : Nat, k ≤ 8 ∧ i = .int .i64 (56 - 8 * (k : Int)) ∧ Arr wr (w.heap.size + 1) 75 (q.feed ((be64 (8 * T)).take k)).c ∧ W.grownBy wr (some (w.heap.size + 1))) (fun i _ => (intOf i + 8).toNat)
      case atStart => exact ⟨0, by omega, rfl, HA1.out, HGO.out⟩
      case round =>
        obtain ⟨wi, rfl⟩ : ∃ wi : World, wi = wr := ⟨_, rfl⟩
        obtain ⟨k, hk, rfl, hAi, hgi⟩ := hrel
        by_cases hk8 : k < 8
        · obtain ⟨j, hj⟩ : ∃ j : Nat, (56 - 8 * (k : Int)) = (j : Int) := ⟨(56 - 8 * (k : Int)).toNat, by omega⟩
          have hjk : j = 56 - 8 * k := by omega
          rw [hj]
          have c1 := hAi.cell 74 (by omega)
          rw [HS.c_taken, HS.feed_taken, HTQ.out, HTT2.out] at c1
          have HP := put_any (w.heap.size + 1) _ (be8 (8 * T) k) wi hAi (HS.feed_many _ _ HMQ.out) ((HL.out.below HBW.out).grown hgi h8) h8
          have hb8 : (((be8 (8 * T) k).toNat : Nat) : Int) = 8 * (T : Int) / 2 ^ j % 256 := by
            unfold be8; rw [u8_of, ← hjk]; push_cast; rfl
          rw [hb8] at HP
          have HPP := Lib.hid HP
          have HGI := Lib.hid hgi
          have HTK := Lib.hid (be64_take (8 * T) k hk8)
          have HJ := Lib.hid hj
          have j0 : (0 : Int) ≤ j := by omega
          have j1 : (j : Int) ≤ 56 := by omega
          have t0 : (0 : Int) ≤ T := by omega
          have t1 : (T : Int) ≤ 1000000000 := by omega
          clear HP hgi hAi hb8 hj hjk
          go_wp2_with fail
          refine HPP.out.mono ?_
          rintro e w3 ⟨rfl, hA7, hg7⟩
          have HA7 := Lib.hid hA7
          have HG7 := Lib.hid (grown_trans HGI.out hg7)
          clear hA7 hg7 c1
          go_wp2
          go_roundw
          case rel =>
            have h1 := HJ.out
            exact ⟨k + 1, by omega, vi64 (by push_cast; omega), by rw [HTK.out, feed_one]; exact HA7.out, HG7.out⟩
          case measure => have h1 := HJ.out; simp [intOf]; omega
        · obtain rfl : k = 8 := by omega
          have hf : (be64 (8 * T)).take 8 = be64 (8 * T) := List.take_of_length_le (by simp [be64])
          rw [hf, ← HEN2.out] at hAi
          have cs := fun k (hk : k < 8) => (hAi.cell (1 + k) (by omega)).trans (by rw [HS.c_st _ _ hk])
          have c0 := cs 0 (by omega)
          have c1 := cs 1 (by omega)
          have c2 := cs 2 (by omega)
          have c3 := cs 3 (by omega)
          have c4 := cs 4 (by omega)
          have c5 := cs 5 (by omega)
          have c6 := cs 6 (by omega)
          have c7 := cs 7 (by omega)
          simp only [Nat.reduceAdd] at c0 c1 c2 c3 c4 c5 c6 c7
          clear cs
          have hsi : W.heap.size ≤ wi.heap.size := hgi.size
          have hO : Arr wi w.heap.size 32 (fun _ => .int .u8 0) := ⟨fun k hk => hgi.cell (HO4.out.cell k hk) (by simp), fun k hk => by
            rw [World.frozen?_of_block (w := W) (a := ⟨w.heap.size, k, none⟩) (hgi.block w.heap.size (by omega) (by simp))]; exact HO4.out.free k hk⟩
          have hbi : Below w.heap.size w wi := (HBW.out).grown hgi (by omega) (fun k hk => by cases hk; omega)
          have hlt : w.heap.size + 1 < wi.heap.size := by omega
          have HO := Lib.hid hO
          have HBI := Lib.hid hbi
          clear hO hbi hgi hAi hf HEN2
          generalize hst : h.ended.st = st at c0 c1 c2 c3 c4 c5 c6 c7
          have HST := Lib.hid hst
          have hO2 : Arr (wi.alloc (.cells (Array.replicate 32 (.int .u8 0)) 24)) wi.heap.size 32 (outC st 0) := by rw [outC_zero]; exact Arr.new wi 32 _ _
          have HO2 := Lib.hid hO2
          clear hst hO2
          go_wp2
          go_loopw [32] (fun i wr => ∃ n : Nat, n ≤ 8 ∧ i = .int .i64 n ∧ Arr wr wi.heap.size 32 (outC st n) ∧ Below wi.heap.size wi wr) (fun i _ => (8 - intOf i).toNat)
          case atStart => exact ⟨0, by omega, rfl, HO2.out, (Below.refl _ _).alloc (Nat.le_refl _) _⟩
          case round =>
            obtain ⟨wj, rfl⟩ : ∃ wj : World, wj = wr := ⟨_, rfl⟩
            obtain ⟨n, hn, rfl, hAj, hbj⟩ := hrel
            clear c0 c1 c2 c3 c4 c5 c6 c7
            by_cases hn8 : n < 8
            · have hix := fun w => run_index_list 225 224 8 Tryz.underlying225 (fun _ => by kernel_rfl) (fun _ => by kernel_rfl) _ w n hn8 _ (idx8 st n hn8)
              have c0 := hAj.cell (4 * n) (by omega)
              have c1 := hAj.cell (4 * n + 1) (by omega)
              have c2 := hAj.cell (4 * n + 2) (by omega)
              have c3 := hAj.cell (4 * n + 3) (by omega)
              have f0 := hAj.free (4 * n) (by omega)
              have f1 := hAj.free (4 * n + 1) (by omega)
              have f2 := hAj.free (4 * n + 2) (by omega)
              have f3 := hAj.free (4 * n + 3) (by omega)
              have n0 : (0 : Int) ≤ n := by omega
              have n1 : (n : Int) < 8 := by omega
              have hd3 : decide ((n : Int) < 8) = true := decide_eq_true (by omega)
              have x0 := wn_0 (st n)
              have x1 := wn_lt (st n)
              have HAJ := Lib.hid hAj
              have HBJ := Lib.hid hbj
              clear hAj hbj
              go_wp2
              go_roundw
              case rel =>
                refine ⟨n + 1, by omega, by go_num, ?_, (((HBJ.out.setCell (Nat.le_refl _) _).setCell (Nat.le_refl _) _).setCell (Nat.le_refl _) _).setCell (Nat.le_refl _) _⟩
                exact ((((HAJ.out.set (4 * n) (by omega) _).set (4 * n + 1) (by omega) _).set (4 * n + 2) (by omega) _).set (4 * n + 3) (by omega) _).congr fun k _ => outC_next st n k
              case measure => simp [intOf]; omega
            · obtain rfl : n = 8 := by omega
              have hr := hAj.range
              have e8 : (List.range 32).map (outC st 8) = ((List.range 32).map (stB st)).map fun b => Value.int .u8 (b.toNat : Int) := by
                rw [List.map_map]
                refine List.map_congr_left fun k hk => ?_
                have := List.mem_range.1 hk
                show outC st 8 k = _
                unfold outC; rw [if_pos (by omega)]; rfl
              rw [e8] at hr
              have hO5 : Arr wj w.heap.size 32 (fun _ => .int .u8 0) := HO.out.below hbj (by omega)
              have hlen : (((List.range 32).map (stB st)).map fun b => Value.int .u8 (b.toNat : Int)).length = 32 := by simp
              have hone : ∀ v ∈ ((List.range 32).map (stB st)).map (fun b => Value.int .u8 (b.toNat : Int)), v.oneCell' = true := by
                intro v hv; obtain ⟨x, _, rfl⟩ := List.mem_map.1 hv; rfl
              have hfin : idV h.sum = .agg (((List.range 32).map (stB st)).map fun b => Value.int .u8 (b.toNat : Int)).toArray := by unfold idV HS.sum; rw [HST.out]
              have HF := Lib.hid hfin
              generalize ((List.range 32).map (stB st)).map (fun b => Value.int .u8 (b.toNat : Int)) = us at hr hlen hone HF
              have h32 : (Tryz.prog.info? 24).map (·.size) = some 32 := by kernel_rfl
              have h32u : (Tryz.prog.info? 24).map (·.size) = some us.length := by rw [hlen]; exact h32
              have hth := hO5.there
              have hfr := World.rangeAt_setCells_same wj w.heap.size 0 us (by rw [hlen]; exact hth)
              have HFR := Lib.hid hfr
              have HTH := Lib.hid hth
              have HLN := Lib.hid hlen
              have HON := Lib.hid hone
              have hbf : Below w.heap.size w (wj.setCells w.heap.size 0 us) := below_setCells _ (Nat.le_refl _) us 0 _ (HBI.out.trans (hbj.mono HBI.out.size))
              have HBF := Lib.hid hbf
              clear hAj hbj e8 hfin hth hlen hone hfr hbf hO5
              go_wp2_with (first | (refine wpList_load_mid rfl 24 _ rfl wi.heap.size 0 rfl us _ hr Tryz.underlying24 rfl h32u ?_) | (refine wpList_store_list rfl 24 _ _ rfl w.heap.size 0 us ?y1 ?y2 32 HLN.out ?y4 h32 HON.out ?_))
              case y4 => exact HTH.out
              go_wp2
              refine ret_cell rfl w.heap.size 0 rfl us _ HFR.out Tryz.underlying24 rfl h32u rfl ⟨by rw [HF.out], HBF.out⟩
    · have hd : ((q.many : Int) != 56) = true := by rw [bne_iff_ne]; omega
      have HP := put_any (w.heap.size + 1) q 0 wo hAo (by omega) ((HL.out.below HBW.out).grown hgo h8) h8
      rw [show (((0 : UInt8).toNat : Nat) : Int) = 0 from rfl] at HP
      have HPP := Lib.hid HP
      have HGO := Lib.hid hgo
      have HQ := Lib.hid hq
      have HMQ := Lib.hid hmo
      have HNE := Lib.hid hne
      have HC1 := Lib.hid c1
      clear HP hgo hAo hq hmo hne
      go_wp2_with fail
      refine HPP.out.mono ?_
      rintro e w3 ⟨rfl, hA7, hg7⟩
      have HA7 := Lib.hid hA7
      have HG7 := Lib.hid (grown_trans HGO.out hg7)
      clear hA7 hg7 c1
      go_wp2
      go_roundw
      case rel =>
        refine ⟨i + 1, ?_, ?_, HG7.out⟩
        · have h1 := HMQ.out; have h2 := HNE.out; have h3 := HMM.out
          unfold padN at hi ⊢; omega
        · rw [List.replicate_succ', feed_one, HQ.out]; exact HA7.out
      case measure =>
        have c2 := HA7.out.cell 73 (by omega)
        have h1 := HMQ.out; have h2 := HNE.out
        rw [HS.c_many, put_many_mod _ _ (by omega)] at c2
        unfold padLeft padN
        rw [HC1.out, c2]
        dsimp only
        rw [Int.toNat_natCast, Int.toNat_natCast]
        omega
end Go.Proofs.YtbmiiiccnoiffaaGreatDoor

namespace Go.Proofs.YtbmiiiccnoiffaaGreatDoor
open Go.RowKit

/-- The digest of a text, as the program makes it. -/
def shaP (s : ByteArray) : List UInt8 := (zeroH.w1 s 1).sum
theorem sum_len (h : HS) : h.sum.length = 32 := by simp [HS.sum]
theorem idV_list (x : List UInt8) : (x.map fun b => Value.int .u8 (b.toNat : Int)).length = x.length := by simp

set_option maxRecDepth 100000 in
set_option maxHeartbeats 800000 in
theorem dsum_any (p q cap : Nat) (s : ByteArray) (w : World) (hs : w.cell? ⟨p, q, none⟩ = some (.string s)) (hL : Laid w) (hz : s.size ≤ 1000000000) :
    Calls Tryz.prog 100 #[.slice (some ⟨p, q, none⟩) 1 cap] w fun e w' => e = .returned (idV (shaP s)) ∧ Below w.heap.size w w' := by
  have hpl : p < w.heap.size := World.block_lt_of_cell? w _ hs
  have hzc : Tryz.zeroCells229 = ((List.range 75).map zeroH.c).toArray := by kernel_rfl
  have hb1 : Below w.heap.size w ((w.alloc (.cells (Array.replicate 32 (.int .u8 0)) 24)).alloc (.cells Tryz.zeroCells229 229)) := ((Below.refl _ _).alloc (Nat.le_refl _) _).alloc (by simp) _
  have hA1 : Arr ((w.alloc (.cells (Array.replicate 32 (.int .u8 0)) 24)).alloc (.cells Tryz.zeroCells229 229)) (w.heap.size + 1) 75 zeroH.c := by
    rw [hzc]
    have := Arr.zeroH (w.alloc (.cells (Array.replicate 32 (.int .u8 0)) 24)) 229
    rw [World.size_alloc] at this; exact this
  have hO1 := (Arr.new w 32 (.int .u8 0) 24).alloc (by omega) (.cells Tryz.zeroCells229 229)
  clear hzc
  go_enter Tryz.func100, Tryz.ntmps100
  go_wp2_with fail
  generalize hW : (w.alloc _).alloc _ = W
  have hb2 : Below w.heap.size w W := by rw [← hW]; exact hb1
  have hA2 : Arr W (w.heap.size + 1) 75 zeroH.c := by rw [← hW]; exact hA1
  have hO2 : Arr W w.heap.size 32 (fun _ => .int .u8 0) := by rw [← hW]; exact hO1
  have hL2 := hL.below hb2
  have h8 := hL.lt
  have hsz : w.heap.size + 1 < W.heap.size := hA2.lt (by omega)
  have hs2 := below_load hs hb2 hpl
  have HW1 := write_any (w.heap.size + 1) p q cap zeroH s W hA2 hL2 (by omega) hs2 (by omega) rfl (by show 0 < 64; omega) hz
  have HB2 := Lib.hid hb2
  have HO2 := Lib.hid hO2
  have HL2 := Lib.hid hL2
  clear hb1 hA1 hO1 hW hb2 hA2 hO2 hL2 hs hs2
  refine HW1.mono ?_
  rintro e w1 ⟨rfl, hA3, hg3⟩
  have hm3 : (zeroH.w1 s 1).many < 64 := by
    unfold HS.w1; rw [if_neg (by omega)]
    exact HS.feed_many _ _ (by rw [HS.begin_many]; show 0 < 64; omega)
  have ht3 : (zeroH.w1 s 1).taken = (s.size : Int) := rfl
  have hS := hsum_any (w.heap.size + 1) (zeroH.w1 s 1) w1 hA3 (HL2.out.grown hg3 (by omega)) hm3 (by rw [ht3]; omega)
  have HSS := Lib.hid hS
  have hO3 : Arr w1 w.heap.size 32 (fun _ => .int .u8 0) := ⟨fun k hk => hg3.cell (HO2.out.cell k hk) (by simp), fun k hk => by
    rw [World.frozen?_of_block (w := W) (a := ⟨w.heap.size, k, none⟩) (hg3.block w.heap.size (by omega) (by simp))]; exact HO2.out.free k hk⟩
  have hb3 : Below w.heap.size w w1 := (HB2.out).grown hg3 (by omega) (fun k hk => by cases hk; omega)
  have hsz1 : w.heap.size < w1.heap.size := hO3.lt (by omega)
  have HO3 := Lib.hid hO3
  have HB3 := Lib.hid hb3
  clear hA3 hg3 hS hO3 hb3 hm3 ht3 HW1 HB2 HO2 HL2
  go_wp2_with fail
  refine HSS.out.mono ?_
  rintro e w2 ⟨rfl, hb4⟩
  have hlen : ((shaP s).map fun b => Value.int .u8 (b.toNat : Int)).length = 32 := by rw [idV_list]; exact sum_len _
  have hone : ∀ v ∈ (shaP s).map (fun b => Value.int .u8 (b.toNat : Int)), v.oneCell' = true := by
    intro v hv; obtain ⟨x, _, rfl⟩ := List.mem_map.1 hv; rfl
  have HF : Hid (idV (shaP s) = .agg ((shaP s).map fun b => Value.int .u8 (b.toNat : Int)).toArray) := Lib.hid rfl
  have hV : idV (HS.sum (zeroH.w1 s 1)) = .agg ((shaP s).map fun b => Value.int .u8 (b.toNat : Int)).toArray := rfl
  rw [hV]
  have hth := (HO3.out.below hb4 hsz1).there
  generalize (shaP s).map (fun b => Value.int .u8 (b.toNat : Int)) = us at hlen hone HF
  have h32 : (Tryz.prog.info? 24).map (·.size) = some 32 := by kernel_rfl
  have h32u : (Tryz.prog.info? 24).map (·.size) = some us.length := by rw [hlen]; exact h32
  have HFR := Lib.hid (World.rangeAt_setCells_same w2 w.heap.size 0 us (by rw [hlen]; exact hth))
  have HTH := Lib.hid hth
  have HLN := Lib.hid hlen
  have HON := Lib.hid hone
  have HBF := Lib.hid (below_setCells (B := w.heap.size) (a := w) w.heap.size (Nat.le_refl _) us 0 w2 (HB3.out.trans (hb4.mono HB3.out.size)))
  clear hth hlen hone hb4 hV
  go_wp2_with (refine wpList_store_list rfl 24 _ _ rfl w.heap.size 0 us ?y1 ?y2 32 HLN.out ?y4 h32 HON.out ?_)
  case y1 => rfl
  case y2 => rfl
  case y4 => exact HTH.out
  simp only [Act.put]
  refine ret_cell rfl w.heap.size 0 rfl us _ HFR.out Tryz.underlying24 rfl h32u rfl ⟨by rw [HF.out], HBF.out⟩
end Go.Proofs.YtbmiiiccnoiffaaGreatDoor

namespace Go.Proofs.YtbmiiiccnoiffaaGreatDoor
open Go.RowKit

/-- A text with its end. -/
def lenL (l : List UInt8) : List UInt8 := l ++ (128 :: List.replicate (padN ((l.length + 1) % 64)) 0) ++ be64 (8 * l.length)
def ofB (l : List UInt8) : ByteArray := ⟨l.toArray⟩
theorem ofB_data (l : List UInt8) : (ofB l).data.toList = l := by simp [ofB]
theorem ofB_size (l : List UInt8) : (ofB l).size = l.length := by simp [ofB, ByteArray.size]
theorem ba_eq {p q : ByteArray} (h : p.data.toList = q.data.toList) : p = q := by
  cases p; cases q; simp at h; rw [h]
theorem ba_append (p q : ByteArray) : (p ++ q).data.toList = p.data.toList ++ q.data.toList := by simp
def endC (T n k : Nat) : Value := if 8 ≤ k + n then .int .u8 ((be8 T k).toNat : Int) else .int .u8 0
theorem endC_next (T n k : Nat) (hn : n < 8) (hk : k < 8) : upd (endC T n) (7 - n) (.int .u8 ((T / 2 ^ (8 * n) : Nat) % 256 : Int)) k = endC T (n + 1) k := by
  unfold upd endC
  by_cases e : k = 7 - n
  · subst e
    rw [if_pos rfl, if_pos (by omega)]
    unfold be8
    rw [u8_of, show 56 - 8 * (7 - n) = 8 * n from by omega]
  · rw [if_neg e]
    by_cases h : 8 ≤ k + n
    · rw [if_pos h, if_pos (by omega)]
    · rw [if_neg h, if_neg (by omega)]

set_option maxRecDepth 100000 in
set_option maxHeartbeats 800000 in
theorem lengthened_any (s : ByteArray) (w : World) (hz : s.size ≤ 1000000000) :
    Calls Tryz.prog 143 #[.string s] w fun e w' => e = .returned (.string (ofB (lenL s.data.toList))) ∧ Below w.heap.size w w' := by
  have hsz : s.data.toList.length = s.size := by simp
  have HSZ := Lib.hid hsz
  clear hsz
  go_enter Tryz.func143, Tryz.ntmps143
  go_wp2
  go_loopw [3] (fun v wr => ∃ (i : Nat) (o : ByteArray), i ≤ padN ((s.size + 1) % 64) ∧ v = .string o ∧ o.size = s.size + 1 + i ∧ Hid (o.data.toList = s.data.toList ++ (128 :: List.replicate i 0)) ∧ wr = w) (fun v _ => match v with | .string o => 1000000100 - o.size | _ => 0)
  case atStart => exact ⟨0, _, Nat.zero_le _, rfl, by simp; rfl, by unfold Hid; simp, rfl⟩
  case round =>
    obtain ⟨wo, rfl⟩ : ∃ wo : World, wo = wr := ⟨_, rfl⟩
    obtain ⟨i, o, hi, rfl, hos, hol, rfl⟩ := hrel
    have HOS := Lib.hid hos
    have HP : Hid (padN ((s.size + 1) % 64) = (120 - (s.size + 1) % 64) % 64) := Lib.hid rfl
    have hb1 : o.size ≤ 1000000070 := by unfold padN at hi; omega
    by_cases hne : o.size % 64 = 56
    · have hd : ((o.size : Int) % 64 != 56) = false := by rw [bne_eq_false_iff_eq]; omega
      have hie : i = padN ((s.size + 1) % 64) := by unfold padN at hi ⊢; omega
      have HL := Lib.hid hol.out
      rw [hie] at HL
      have hE0 : Arr (wo.alloc (.cells (Array.replicate 8 (.int .u8 0)) 270)) wo.heap.size 8 (endC (8 * s.size) 0) := by
        have h : endC (8 * s.size) 0 = fun k => if 8 ≤ k then .int .u8 ((be8 (8 * s.size) k).toNat : Int) else .int .u8 0 := rfl
        exact (Arr.new wo 8 (.int .u8 0) _).congr fun k hk => by rw [h]; dsimp only; rw [if_neg (by omega)]
      have HE0 := Lib.hid hE0
      clear hos hol hi hie hE0 hne
      generalize hT : 8 * s.size = T at HE0
      have HT := Lib.hid hT
      have hTb : T ≤ 8000000000 := by omega
      clear hT
      go_wp2
      go_loopw [4, 6] (fun v i wr2 => ∃ n : Nat, n ≤ 8 ∧ i = .int .i64 n ∧ v = .int .u64 ((T / 2 ^ (8 * n) : Nat) : Int) ∧ Arr wr2 wo.heap.size 8 (endC T n) ∧ Below wo.heap.size wo wr2) (fun _ i _ => (8 - intOf i).toNat)
      case atStart => exact ⟨0, by omega, rfl, by rw [← HT.out, Nat.mul_zero, Nat.pow_zero, Nat.div_one]; congr 1; omega, HE0.out, (Below.refl _ _).alloc (Nat.le_refl _) _⟩
      case round =>
        obtain ⟨wi, rfl⟩ : ∃ wi : World, wi = wr := ⟨_, rfl⟩
        obtain ⟨n, hn, rfl, rfl, hAi, hbi⟩ := hrel
        by_cases hn8 : n < 8
        · have c1 := hAi.cell (7 - n) (by omega)
          have f1 := hAi.free (7 - n) (by omega)
          have ec : endC T n (7 - n) = .int .u8 0 := by unfold endC; rw [if_neg (by omega)]
          rw [ec] at c1
          have hd3 : decide ((n : Int) < 8) = true := decide_eq_true (by omega)
          have n0 : (0 : Int) ≤ n := by omega
          have n1 : (n : Int) < 8 := by omega
          have n2 : (n : Int) ≤ 7 := by omega
          have n3 : ((7 : Int) - n).toNat = 7 - n := by omega
          have HN := Lib.hid (hAi.set (7 - n) (by omega) (.int .u8 (((T / 2 ^ (8 * n) : Nat) : Int) % 256)))
          have HBI := Lib.hid hbi
          have hX : (T / 2 ^ (8 * n)) ≤ 8000000000 := Nat.le_trans (Nat.div_le_self _ _) hTb
          have hXn : T / 2 ^ (8 * (n + 1)) = T / 2 ^ (8 * n) / 256 := by
            rw [Nat.div_div_eq_div_mul, show 8 * (n + 1) = 8 * n + 8 from by omega, Nat.pow_add]
          have HXN := Lib.hid hXn
          have HEN := Lib.hid (fun k (hk : k < 8) => endC_next T n k hn8 hk)
          generalize T / 2 ^ (8 * n) = X at hX HXN HN HEN
          clear hAi hbi ec hXn
          go_wp2
          go_roundw
          case rel =>
            refine ⟨n + 1, by omega, by go_num, ?_, ?_, HBI.out.setCell (Nat.le_refl _) _⟩
            · rw [HXN.out]; rfl
            · exact HN.out.congr HEN.out
          case measure => simp [intOf]; omega
        · obtain rfl : n = 8 := by omega
          have hcell : ∀ j (hj : j < (be64 T).length), wi.cell? ((⟨wo.heap.size, 0, none⟩ : Addr).add j) = some (.int .u8 ((be64 T)[j].toNat : Int)) := fun j hj => by
            have h8 : j < 8 := by simpa [be64] using hj
            rw [Addr.add_mid, Nat.zero_add, hAi.cell j h8]
            unfold endC
            rw [if_pos (by omega)]
            simp [be64]
          have hcv := run_convert_bytes_back (P := Tryz.prog) wi 133 9 5 ⟨wo.heap.size, 0, none⟩ 8 (be64 T) Tryz.underlying133 Tryz.underlying5 Tryz.underlying9 hcell
          rw [show (be64 T).length = 8 from by simp [be64]] at hcv
          have HBI := Lib.hid hbi
          have HB64 : Hid ((⟨(be64 T).toArray⟩ : ByteArray).data.toList = be64 T) := by unfold Hid; simp
          have hqs : (⟨(be64 T).toArray⟩ : ByteArray).size ≤ 8 := by show (be64 T).toArray.size ≤ 8; simp [be64]
          generalize (⟨(be64 T).toArray⟩ : ByteArray) = q at hcv HB64 hqs
          clear hcell hAi hbi
          generalize T / 2 ^ (8 * 8) = X
          go_wp2
          go_ret
          refine ⟨?_, HBI.out⟩
          have e : o ++ q = ofB (lenL s.data.toList) := by
            apply ba_eq
            rw [ba_append, ofB_data, HL.out, HB64.out]
            unfold lenL
            rw [HSZ.out, HT.out]
          rw [← e]
          rfl
    · have hd : ((o.size : Int) % 64 != 56) = true := by rw [bne_iff_ne]; omega
      clear hos
      go_wp2
      go_roundw
      case rel =>
        refine ⟨i + 1, _, ?_, rfl, ?_, ?_, trivial⟩
        · have h := HOS.out; have h2 := HP.out; omega
        · have h := HOS.out; have e : (⟨#[0]⟩ : ByteArray).size = 1 := rfl
          rw [ByteArray.size_append, e]; omega
        · unfold Hid; rw [ba_append, hol.out, List.append_assoc]; simp [List.replicate_succ']
      case measure =>
        have e : (⟨#[0]⟩ : ByteArray).size = 1 := rfl
        dsimp only
        rw [ByteArray.size_append, e]; omega
end Go.Proofs.YtbmiiiccnoiffaaGreatDoor

namespace Go.Proofs.YtbmiiiccnoiffaaGreatDoor
open Go.RowKit

theorem ch_or (x y z : W32) : (x &&& y ||| ~~~x &&& z) = (x &&& y ^^^ ~~~x &&& z) := by
  apply BitVec.eq_of_getLsbD_eq; intro i hi
  simp only [BitVec.getLsbD_or, BitVec.getLsbD_and, BitVec.getLsbD_xor, BitVec.getLsbD_not, hi, decide_true, Bool.true_and]
  cases x.getLsbD i <;> cases y.getLsbD i <;> cases z.getLsbD i <;> rfl
theorem maj_or (x y z : W32) : (x &&& y ||| x &&& z ||| y &&& z) = (x &&& y ^^^ x &&& z ^^^ y &&& z) := by
  apply BitVec.eq_of_getLsbD_eq; intro i hi
  simp only [BitVec.getLsbD_or, BitVec.getLsbD_and, BitVec.getLsbD_xor]
  cases x.getLsbD i <;> cases y.getLsbD i <;> cases z.getLsbD i <;> rfl
theorem or_shift (x : W32) (b : UInt8) (hx : wn x < 16777216) : wn (x <<< 8 ||| bw b) = wn x * 256 + wn (bw b) := by
  have hb : (bw b).toNat < 256 := by have := bw_lt b; unfold wn at this; omega
  have hx' : x.toNat < 16777216 := by unfold wn at hx; omega
  unfold wn
  rw [BitVec.toNat_or, BitVec.toNat_shiftLeft, Nat.shiftLeft_eq, Nat.mod_eq_of_lt (by omega), ← Nat.shiftLeft_eq, ← Nat.shiftLeft_add_eq_or_of_lt (by simpa using hb), Nat.shiftLeft_eq, show (2 : Nat) ^ 8 = 256 from rfl]
  omega
theorem word_sum (r : Nat → UInt8) (k : Nat) : wn (bw (r (4 * k))) * 16777216 + wn (bw (r (4 * k + 1))) * 65536 + wn (bw (r (4 * k + 2))) * 256 + wn (bw (r (4 * k + 3))) = wn (wordTo r k 4) := by
  have e0 : wn (wordTo r k 0) = 0 := rfl
  have b0 := bw_lt (r (4 * k)); have b1 := bw_lt (r (4 * k + 1)); have b2 := bw_lt (r (4 * k + 2)); have b3 := bw_lt (r (4 * k + 3))
  have e1 : wn (wordTo r k 1) = wn (bw (r (4 * k))) := by
    show wn (wordTo r k 0 <<< 8 ||| bw (r (4 * k + 0))) = _
    rw [or_shift _ _ (by omega), e0]; simp
  have e2 : wn (wordTo r k 2) = wn (bw (r (4 * k))) * 256 + wn (bw (r (4 * k + 1))) := by
    show wn (wordTo r k 1 <<< 8 ||| bw (r (4 * k + 1))) = _
    rw [or_shift _ _ (by omega), e1]
  have e3 : wn (wordTo r k 3) = (wn (bw (r (4 * k))) * 256 + wn (bw (r (4 * k + 1)))) * 256 + wn (bw (r (4 * k + 2))) := by
    show wn (wordTo r k 2 <<< 8 ||| bw (r (4 * k + 2))) = _
    rw [or_shift _ _ (by omega), e2]
  show _ = wn (wordTo r k 3 <<< 8 ||| bw (r (4 * k + 3)))
  rw [or_shift _ _ (by omega), e3]; omega

set_option maxRecDepth 100000 in
set_option maxHeartbeats 800000 in
theorem rounds_any (w : World) : Calls Tryz.prog 183 #[] w fun e w' => e = .returned (.agg kV.toArray) ∧ Below w.heap.size w w' := by
  have h64 : (Tryz.prog.info? 271).map (·.size) = some 64 := by kernel_rfl
  have hA := Arr.new w 64 (.int .u32 0) 271
  have hone : ∀ v ∈ kV, v.oneCell' = true := by
    intro v hv; obtain ⟨x, _, rfl⟩ := List.mem_map.1 hv; rfl
  have hfr := World.rangeAt_setCells_same _ w.heap.size 0 kV (by rw [kV_len]; exact hA.there)
  have hi : (Tryz.prog.info? 271).map (·.size) = some kV.length := by rw [kV_len]; exact h64
  have hb := below_setCells (B := w.heap.size) (a := w) w.heap.size (Nat.le_refl _) kV 0 _ ((Below.refl _ _).alloc (Nat.le_refl _) (.cells (Array.replicate 64 (.int .u32 0)) 271))
  have HTH := Lib.hid hA.there
  have HON := Lib.hid hone
  have HFR := Lib.hid hfr
  have HB := Lib.hid hb
  clear hA hone hfr hb
  go_enter Tryz.func183, Tryz.ntmps183
  go_wp2_with (refine wpList_store_list rfl 271 _ _ rfl w.heap.size 0 kV ?y1 ?y2 64 kV_len ?y4 h64 HON.out ?_)
  case y1 => rfl
  case y2 => kernel_rfl
  case y4 => exact HTH.out
  simp only [Act.put]
  refine ret_cell rfl w.heap.size 0 rfl kV _ HFR.out Tryz.underlying271 rfl hi rfl ⟨rfl, HB.out⟩
end Go.Proofs.YtbmiiiccnoiffaaGreatDoor
namespace Go.Proofs.YtbmiiiccnoiffaaGreatDoor
open Go.RowKit

/-- A reader. -/
structure Rd where
  s : ByteArray
  pos : Nat
  err : Nat
def Rd.c (r : Rd) (k : Nat) : Value := if k = 0 then .string r.s else if k = 1 then .int .i64 (r.pos : Int) else .int .i64 (r.err : Int)
/-- A reader that stands within its bytes. -/
structure Rd.fine (r : Rd) : Prop where
  pos : r.pos ≤ r.s.size
  size : r.s.size ≤ 1000000
  err : r.err ≤ 100
/-- n bytes. -/
def Rd.raw (r : Rd) (n : Nat) : Rd × ByteArray :=
  if r.err ≠ 0 then (r, ByteArray.empty) else if r.s.size - r.pos < n then ({ r with err := 3 }, ByteArray.empty) else ({ r with pos := r.pos + n }, r.s.extract r.pos (r.pos + n))
theorem Rd.raw_fine (r : Rd) (n : Nat) (h : r.fine) : (r.raw n).1.fine := by
  unfold Rd.raw
  split
  · exact h
  · split
    · exact ⟨h.pos, h.size, by show 3 ≤ 100; omega⟩
    · exact ⟨by show r.pos + n ≤ r.s.size; have := h.pos; omega, h.size, h.err⟩
theorem Rd.upd_err (r : Rd) (e : Nat) : ∀ k, k < 3 → upd r.c 2 (.int .i64 (e : Int)) k = Rd.c { r with err := e } k := by
  intro k hk; unfold upd Rd.c
  obtain h | h | h : k = 0 ∨ k = 1 ∨ k = 2 := by omega
  all_goals subst h; rfl
theorem Rd.upd_pos (r : Rd) (p : Nat) : ∀ k, k < 3 → upd r.c 1 (.int .i64 (p : Int)) k = Rd.c { r with pos := p } k := by
  intro k hk; unfold upd Rd.c
  obtain h | h | h : k = 0 ∨ k = 1 ∨ k = 2 := by omega
  all_goals subst h; rfl
theorem slice_two (o : ByteArray) (m n : Nat) (h : m + n ≤ o.size) (w : World) : (Instr.slice 9 (.string o) (some (.int .i64 (m : Int))) (some (.int .i64 ((m : Int) + n))) none).run Tryz.prog w = .ok (.string (o.extract m (m + n))) w := by
  have h3 : (m : Int) + n ≤ o.size := by omega
  have h4 : ((m : Int) + n).toNat = m + n := by omega
  have h5 : (0 : Int) ≤ (m : Int) + n := by omega
  simp [Instr.slice, run_underlying Tryz.underlying9, Instr.sliceBounds, Instr.sliceBound, asIntOf, h3, h4, h5]

set_option maxRecDepth 100000 in
set_option maxHeartbeats 400000 in
theorem rraw_any (b : Nat) (r : Rd) (n : Nat) (w : World) (hA : Arr w b 3 r.c) (hf : r.fine) (hn : n ≤ 1000000000) :
    Calls Tryz.prog 146 #[.pointer (some ⟨b, 0, none⟩), .int .i64 (n : Int)] w fun e w' => e = .returned (.string (r.raw n).2) ∧ Arr w' b 3 (r.raw n).1.c ∧ w.grownBy w' (some b) := by
  have hbl : b < w.heap.size := hA.lt (by omega)
  have c0 : w.cell? ⟨b, 0, none⟩ = some (.string r.s) := hA.cell 0 (by omega)
  have c1 : w.cell? ⟨b, 1, none⟩ = some (.int .i64 (r.pos : Int)) := hA.cell 1 (by omega)
  have c2 : w.cell? ⟨b, 2, none⟩ = some (.int .i64 (r.err : Int)) := hA.cell 2 (by omega)
  have f1 := hA.free 1 (by omega)
  have f2 := hA.free 2 (by omega)
  have hp := hf.pos
  have hs := hf.size
  have he := hf.err
  have hn0 : decide ((n : Int) < 0) = false := decide_eq_false (by omega)
  have HA := Lib.hid hA
  clear hA
  by_cases h0 : r.err = 0
  · have h0' : ((r.err : Int) != 0) = false := by rw [bne_eq_false_iff_eq]; omega
    by_cases hlt : r.s.size - r.pos < n
    · have HR : Hid (r.raw n = ({ r with err := 3 }, ByteArray.empty)) := by unfold Hid Rd.raw; rw [if_neg (by simp [h0]), if_pos hlt]
      have hd : decide ((r.s.size : Int) - r.pos < n) = true := decide_eq_true (by omega)
      have hw : IntKind.i64.wrap ((r.s.size : Int) - r.pos) = (r.s.size : Int) - r.pos := IntWalk.i64_in _ (by omega)
      have H0 := Lib.hid h0
      clear h0 hlt hf
      go_enter Tryz.func146, Tryz.ntmps146
      go_wp2
      refine wp_region_bq (by kernel_rfl) (by kernel_rfl) ?_
      have LQ0 := fun x : BW (World.heap w).size w => below_load c0 x.hb (by omega)
      have LQ1 := fun x : BW (World.heap w).size w => below_load c1 x.hb (by omega)
      repeat (go_big_quiet_step (fail))
      refine wpQuiet_nil ?_
      intro wq hbq
      clear LQ0 LQ1
      have g2 := below_load c2 hbq hbl
      have k2 : wq.frozen? ⟨b, 2, none⟩ = false := by rw [hbq.frozen (p := ⟨b, 2, none⟩) hbl]; exact f2
      clear c0 c1 c2 f1 f2
      go_wp2
      go_ret
      rw [HR.out]
      exact ⟨rfl, ((HA.out.below hbq hbl).set 2 (by omega) (.int .i64 ((3 : Nat) : Int))).congr (Rd.upd_err r 3), grown_set (grown_of_below hbq _) _⟩
    · have HR : Hid (r.raw n = ({ r with pos := r.pos + n }, r.s.extract r.pos (r.pos + n))) := by unfold Hid Rd.raw; rw [if_neg (by simp [h0]), if_neg hlt]
      have hd : decide ((r.s.size : Int) - r.pos < n) = false := decide_eq_false (by omega)
      have hw : IntKind.i64.wrap ((r.s.size : Int) - r.pos) = (r.s.size : Int) - r.pos := IntWalk.i64_in _ (by omega)
      have hw2 : IntKind.i64.wrap ((r.pos : Int) + n) = (r.pos : Int) + n := IntWalk.i64_in _ (by omega)
      have HSL := fun w => slice_two r.s r.pos n (by omega) w
      have H0 := Lib.hid h0
      clear h0 hlt hf
      go_enter Tryz.func146, Tryz.ntmps146
      go_wp2
      refine wp_region_bq (by kernel_rfl) (by kernel_rfl) ?_
      have LQ0 := fun x : BW (World.heap w).size w => below_load c0 x.hb (by omega)
      have LQ1 := fun x : BW (World.heap w).size w => below_load c1 x.hb (by omega)
      repeat (go_big_quiet_step (fail))
      refine wpQuiet_nil ?_
      intro wq hbq
      clear LQ0 LQ1
      obtain ⟨wa, rfl⟩ : ∃ wa : World, wa = wq := ⟨_, rfl⟩
      have hb1 := hbq
      clear hbq
      have d0 := below_load c0 hb1 hbl
      have d1 := below_load c1 hb1 hbl
      have hbl2 : b < wa.heap.size := by have := hb1.size; omega
      go_wp2
      refine wp_region_bq (by kernel_rfl) (by kernel_rfl) ?_
      have LQ0 := fun x : BW (World.heap wa).size wa => below_load d0 x.hb (by omega)
      have LQ1 := fun x : BW (World.heap wa).size wa => below_load d1 x.hb (by omega)
      repeat (go_big_quiet_step (fail))
      refine wpQuiet_nil ?_
      intro wq hbq
      clear LQ0 LQ1
      have hb2 := hb1.trans (hbq.mono hb1.size)
      have g1 := below_load c1 hb2 hbl
      have k1 : wq.frozen? ⟨b, 1, none⟩ = false := by rw [hb2.frozen (p := ⟨b, 1, none⟩) hbl]; exact f1
      have HB2 := Lib.hid hb2
      clear c0 c1 c2 f1 f2 d0 d1 hb1 hb2 hbq HSL
      go_wp2
      go_ret
      rw [HR.out]
      exact ⟨rfl, ((HA.out.below HB2.out hbl).set 1 (by omega) (.int .i64 ((r.pos + n : Nat) : Int))).congr (Rd.upd_pos r _), grown_set (grown_of_below HB2.out _) _⟩
  · have h0' : ((r.err : Int) != 0) = true := by rw [bne_iff_ne]; omega
    have HR : Hid (r.raw n = (r, ByteArray.empty)) := by unfold Hid Rd.raw; rw [if_pos h0]
    clear h0
    go_enter Tryz.func146, Tryz.ntmps146
    go_wp2
    go_ret
    rw [HR.out]
    exact ⟨rfl, HA.out, grown_of_below (Below.refl _ _) _⟩
end Go.Proofs.YtbmiiiccnoiffaaGreatDoor

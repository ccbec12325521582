/- Tail; S0; S1; S2, in one text. -/
import Derived.Test.YtbmiiiccnoiffaaGreatDoorGen
import Derived.StillTail
import Derived.BigQuiet
import Derived.WalkKit
import Derived.Laws.BitsAllLaws
import Derived.Lib.Hide
import Derived.Test.YtbmiiiccnoiffaaGreatDoorChecked
import Derived.IntWalk
/- Drawn regions whose first n operations are quiet in a class of worlds (calls that make memory among them), and whose last operations stand in one order behind all of these (a store, an append). Of whatever program. -/
namespace Go.Proofs.YtbmiiiccnoiffaaGreatDoor
open Go.RowKit
section
variable {P : Program} {ops : Array Oper} {md : Region.Mode} {C : World → Prop}

/-- Whatever order the first n operations come up in, L holds when they have. -/
def tq (P : Program) (md : Region.Mode) (ops : Array Oper) (C : World → Prop) (n : Nat) (L : Array Bool → Act → Prop) : Nat → Array Bool → Act → Prop
  | 0, ls, a => L ls a
  | f + 1, ls, a => Region.ready md ops ls ≠ [] ∧ ∀ i ∈ Region.ready md ops ls, i < n ∧ qOp P ops C i (tq P md ops C n L f (ls.setIfInBounds i true)) a

theorem tq_out {n g : Nat} {L : Array Bool → Act → Prop} {Q : Exit → Act → World → Prop} (hL : ∀ ls a w, C w → L ls a → wpAny P md ops Q g ls a w) :
    ∀ (f : Nat) (ls : Array Bool) (a : Act) (w : World), C w → tq P md ops C n L f ls a → wpAny P md ops Q (f + g) ls a w := by
  intro f
  induction f with
  | zero => intro ls a w hw h; rw [Nat.zero_add]; exact hL ls a w hw h
  | succ f ih =>
    intro ls a w hw h
    rw [show f + 1 + g = (f + g) + 1 from by omega]
    exact ⟨fun h0 => absurd h0 h.1, fun i hi => wpOp_of_qOp hw (fun a' w' hw' h' => ih _ a' w' hw' h') (h.2 i hi).2⟩

theorem tq_first {n i : Nat} {oi : Oper} {v : Value} {L : Array Bool → Act → Prop} (hi : ops[i]? = some oi) (hsel : ∀ (j : Nat) (o : Oper) cs b, ops[j]? = some o → o.op ≠ .select cs b)
    (hs : Region.sinkB md ops n = true) (hc : Region.chainB md ops n = true) (hn : n < ops.size) (hin : i < n) (hdone : ∀ ls a, L ls a → ∀ j ∈ Region.ready md ops ls, n ≤ j) :
    ∀ (f : Nat) (ls : Array Bool) (a : Act), HeadInv md ops n ls →
      (∀ j oj, ops[j]? = some oj → j ≠ i → ls.getD j true = false → (∀ e ∈ oj.after, Region.binds md e = true → e.on ≠ i) → oi.apart ops oj = true) →
      i ∈ Region.ready md ops ls → YieldsIn P ops C oi v a → tq P md ops C n L f (ls.setIfInBounds i true) (a.put oi.dst v) → tq P md ops C n L (f + 1) ls a := by
  intro f
  induction f with
  | zero =>
    intro ls a inv _ hr hy H
    refine ⟨fun h0 => (by rw [h0] at hr; cases hr), fun j hj => ?_⟩
    have hjn : j < n := Nat.lt_of_not_ge fun h0 => tail_waits hs hc hn inv _ i rfl hin (mem_ready.1 hr).1 j h0 hj
    refine ⟨hjn, ?_⟩
    by_cases e : j = i
    · subst e; exact hy.qOp hi H
    · have := hdone _ _ H j (ready_mono hj e); omega
  | succ f ih =>
    intro ls a inv hfree hr hy H
    have hun := (mem_ready.1 hr).1
    refine ⟨fun h0 => (by rw [h0] at hr; cases hr), fun j hj => ?_⟩
    have hjn : j < n := Nat.lt_of_not_ge fun h0 => tail_waits hs hc hn inv _ i rfl hin hun j h0 hj
    refine ⟨hjn, ?_⟩
    by_cases e : j = i
    · subst e; exact hy.qOp hi H
    · obtain ⟨hjun, oj, hoj, hall⟩ := mem_ready.1 hj
      have hnot : ∀ x ∈ oj.after, Region.binds md x = true → x.on ≠ i := fun x hx hb heq => by
        have h1 := hall x hx hb
        rw [heq, getD_both hun] at h1
        cases h1
      have h2 := qOp_put hoj (hfree j oj hoj e hjun hnot) (fun cs b => hsel i oi cs b hi) (fun cs b => hsel j oj cs b hoj) hy (H.2 j (ready_mono hj e)).2
      refine qOp_mono (fun a' h3 => ih (ls.setIfInBounds j true) a' (inv.set hj hjn) ?_ (ready_mono hr (Ne.symm e)) h3.1 ?_) h2
      · intro k ok hk hki hkun hno
        refine hfree k ok hk hki ?_ hno
        by_cases ejk : j = k
        · subst ejk; exact hjun
        · rwa [getD_set_ne true ejk] at hkun
      · rw [Array.setIfInBounds_comm _ _ e]; exact h3.2

theorem tq_lex {n g : Nat} {Lq : Act → Prop} (hsel : Region.noSelect ops = true) (hs : Region.sinkB md ops n = true) (hc : Region.chainB md ops n = true) (hn : n < ops.size) :
    ∀ (l : List Oper) (k : Nat) (ls : Array Bool) (a : Act), (∀ j, j < l.length → l[j]? = ops[k + j]?) → k + l.length = n → HeadInv md ops n ls →
    Region.lexHead md ops g l.length k ls = true → wpQuiet P ops C Lq l a → tq P md ops C n (fun ls' a' => Region.seqB md ops g n ls' = true ∧ Lq a') l.length ls a := by
  intro l
  induction l with
  | nil =>
    intro k ls a _ hk _ hB h
    obtain rfl : k = n := by simpa using hk
    exact ⟨by simpa [Region.lexHead] using hB, h⟩
  | cons o l ih =>
    intro k ls a hl hk inv hB h
    have h0 : ops[k]? = some o := by simpa using (hl 0 (by simp)).symm
    simp only [List.length_cons, Region.lexHead, Bool.and_eq_true] at hB
    obtain ⟨⟨hr, hf⟩, hB'⟩ := hB
    have hkn : k < n := by simp only [List.length_cons] at hk; omega
    have hr' : k ∈ Region.ready md ops ls := by simpa using hr
    obtain ⟨v, hy, hK⟩ := yieldsIn_of_qOp h0 (show qOp P ops C k (wpQuiet P ops C Lq l) a from by unfold qOp; simp only [h0]; exact h)
    exact tq_first h0 (Region.noSelect_spec hsel) hs hc hn hkn (fun _ _ hL => seqB_ready hL.1) l.length ls a inv (Region.free_spec h0 hf) hr' hy
      (ih (k + 1) _ _ (fun j hj => by have := hl (j + 1) (by simp; omega); simpa [Nat.add_assoc, Nat.add_comm 1 j] using this) (by simp only [List.length_cons] at hk; omega) (inv.set hr' hkn) hB' hK)

/-- A world that is below B as w is. -/
structure BW (B : Nat) (w : World) where
  out : World
  hb : Below B w out
instance (B : Nat) (w : World) : Nonempty (BW B w) := ⟨⟨w, Below.refl _ _⟩⟩
theorem calls_bw {P : Program} {f : FuncId} {args : Array Value} {w : World} {v : Value} {x : BW w.heap.size w} (h : Calls P f args x.out fun e w' => e = .returned v ∧ Below x.out.heap.size x.out w') :
    Calls P f args x.out fun e w'' => e = .returned v ∧ ∃ y : BW w.heap.size w, w'' = y.out :=
  h.mono fun _ w' ⟨he, hb⟩ => ⟨he, ⟨w', x.hb.trans (hb.mono x.hb.size)⟩, rfl⟩
theorem calls_bw_same {P : Program} {f : FuncId} {args : Array Value} {w : World} {v : Value} {x : BW w.heap.size w} (h : Calls P f args x.out fun e w' => e = .returned v ∧ w' = x.out) :
    Calls P f args x.out fun e w'' => e = .returned v ∧ ∃ y : BW w.heap.size w, w'' = y.out :=
  h.mono fun _ _ ⟨he, hw⟩ => ⟨he, x, hw⟩

/-- A drawn region of quiet operations: one pass. -/
theorem wp_region_bq {id : Nat} {Q : Exit → Act → World → Prop} {a : Act} {w : World} {l : List Oper} (hm : P.follows .mixedOrders = true) (hB : Region.lexB .any l.toArray = true)
    (h : wpQuiet P l.toArray (fun w' => ∃ x : BW w.heap.size w, w' = x.out) (fun a' => ∀ w', Below w.heap.size w w' → Q .normal a' w') l a) : (Code.region id l.toArray true).wp P Q a w :=
  wp_region_quiet (C := fun w' => ∃ x : BW w.heap.size w, w' = x.out) hm hB ⟨⟨{ w with drawn := w.drawn + 1 }, ⟨rfl, rfl, rfl, Nat.le_refl _, fun _ _ => rfl⟩⟩, rfl⟩
    (by
      have : (fun a' => ∀ w', (∃ x : BW w.heap.size w, w' = x.out) → Q .normal a' w') = (fun a' => ∀ w', Below w.heap.size w w' → Q .normal a' w') := by
        funext a'; exact propext ⟨fun H w' hb => H w' ⟨⟨w', hb⟩, rfl⟩, fun H w' ⟨x, e⟩ => by subst e; exact H _ x.hb⟩
      rw [this]; simpa using h)

/-- One pass over the first n operations, each quiet; then the others, in the text's order. -/
theorem wp_region_bt {id : Nat} {Q : Exit → Act → World → Prop} {a : Act} {w : World} {l : List Oper} (n : Nat) (hm : P.follows .mixedOrders = true) (hB : Region.lexTailB .any l.toArray n = true)
    (h : wpQuiet P l.toArray (fun w' => ∃ x : BW w.heap.size w, w' = x.out) (fun a' => ∀ w', Below w.heap.size w w' → wpList P l.toArray Q (l.drop n) a' w') (l.take n) a) : (Code.region id l.toArray true).wp P Q a w := by
  simp only [Region.lexTailB, Bool.and_eq_true, decide_eq_true_eq] at hB
  obtain ⟨⟨⟨⟨hsel, hn⟩, hs⟩, hc⟩, hlex⟩ := hB
  have hn' : n < l.length := by simpa using hn
  have htl : (l.take n).length = n := by simp; omega
  have hdl : (l.drop n).length = l.toArray.size - n := by simp
  have inv : HeadInv .any l.toArray n (Array.replicate l.toArray.size false) :=
    ⟨by simp, fun j oj _ hl => (by rw [getD_replicate_false] at hl; cases hl), fun t _ ht => getD_in (by simpa using ht) (getD_replicate_false _ _)⟩
  have H := tq_lex (md := .any) (g := l.toArray.size - n) hsel hs hc hn (l.take n) 0 _ a (fun j hj => by rw [htl] at hj; simp [hj]) (by simpa using htl) inv (by rw [htl]; exact hlex) h
  refine wp_region_any hm ?_
  have := tq_out (Q := Q) (g := l.toArray.size - n) (fun ls a' w' hw' hL => by
    obtain ⟨x, rfl⟩ := hw'
    have := wpAny_of_seq (md := .any) (Q' := Q) (l.drop n) n ls a' x.out (fun j => by simp [List.getElem?_drop]) (by rw [hdl]; exact hL.1) (hL.2 _ x.hb)
    rwa [hdl] at this) _ _ _ { w with drawn := w.drawn + 1 } ⟨⟨{ w with drawn := w.drawn + 1 }, ⟨rfl, rfl, rfl, Nat.le_refl _, fun _ _ => rfl⟩⟩, rfl⟩ H
  rw [htl, show n + (l.toArray.size - n) = l.toArray.size from by omega] at this
  exact this
end
end Go.Proofs.YtbmiiiccnoiffaaGreatDoor

/- Words of 32 bits: what the model's operations on them come to. -/
namespace Go.Proofs.YtbmiiiccnoiffaaGreatDoor
open Go.RowKit

abbrev W32 := BitVec 32
/-- A word's number. -/
def wn (x : W32) : Int := x.toNat
theorem wn_0 (x : W32) : 0 ≤ wn x := by unfold wn; omega
theorem wn_lt (x : W32) : wn x < 4294967296 := by unfold wn; have := x.isLt; omega
theorem b32 (x : W32) : x.toNat < 4294967296 := x.isLt
theorem w_xor (x y : W32) : bits .xor .u32 (wn x) (wn y) = wn (x ^^^ y) := by
  unfold wn; rw [u32_xor_nat _ _ (b32 x) (b32 y), BitVec.toNat_xor]
theorem w_and (x y : W32) : bits .and .u32 (wn x) (wn y) = wn (x &&& y) := by
  unfold wn; rw [u32_and_nat _ _ (b32 x) (b32 y), BitVec.toNat_and]
theorem w_or (x y : W32) : bits .or .u32 (wn x) (wn y) = wn (x ||| y) := by
  unfold wn; rw [u32_or_nat _ _ (b32 x) (b32 y), BitVec.toNat_or]
theorem w_not (x : W32) : bits .xor .u32 4294967295 (wn x) = wn (~~~ x) := by
  have h := w_xor (BitVec.allOnes 32) x
  rw [BitVec.xor_comm, BitVec.xor_allOnes] at h
  have e : wn (BitVec.allOnes 32) = 4294967295 := by decide
  rw [e] at h; exact h
theorem w_not2 (x : W32) : bits .xor .u32 (if IntKind.u32.signed = true then -1 else IntKind.u32.max) (wn x) = wn (~~~ x) := w_not x
theorem e_shr (x : W32) (n : Nat) : wn x / 2 ^ n = wn (x >>> n) := by
  unfold wn
  rw [BitVec.toNat_ushiftRight, Nat.shiftRight_eq_div_pow]; push_cast; rfl
theorem e_shl (x : W32) (n : Nat) : wn x * 2 ^ n % 4294967296 = wn (x <<< n) := by
  unfold wn
  rw [BitVec.toNat_shiftLeft, Nat.shiftLeft_eq, Int.natCast_emod, Int.natCast_mul, Int.natCast_pow]; rfl
theorem e_shl8 (x : W32) : wn x * (256 : Int) % (4294967296 : Int) = wn (x <<< 8) := e_shl x 8
theorem e_add (x y : W32) : (wn x + wn y) % 4294967296 = wn (x + y) := by
  unfold wn; rw [BitVec.toNat_add]; omega
theorem e_add4 (a b c d : W32) : (wn a + wn b + wn c + wn d) % 4294967296 = wn (a + b + c + d) := by
  rw [← e_add, ← e_add, ← e_add]; omega
theorem e_add5 (a b c d e : W32) : (wn a + wn b + wn c + wn d + wn e) % 4294967296 = wn (a + b + c + d + e) := by
  rw [← e_add, ← e_add, ← e_add, ← e_add]; omega
theorem ret_int {k : IntKind} {a b : Int} (h : a = b) : Ending.returned (.int k a) = .returned (.int k b) := by rw [h]
theorem rot_or (x : W32) (a m : Nat) (h : a + m = 32) (ha : 0 < a) (hm : 0 < m) : (x <<< m) ||| (x >>> a) = x.rotateRight a := by
  rw [BitVec.rotateRight_def, Nat.mod_eq_of_lt (by omega), show 32 - a = m from by omega, BitVec.or_comm]
/-- The two functions of SHA-256 that turn a word. -/
def spinW (x : W32) (a b c : Nat) : W32 := x.rotateRight a ^^^ x.rotateRight b ^^^ x.rotateRight c
def turnW (x : W32) (a b c : Nat) : W32 := x.rotateRight a ^^^ x.rotateRight b ^^^ x >>> c
theorem and31 (a : Nat) (h0 : 0 < a) (h1 : a < 32) : bits .and .u64 (IntKind.u64.wrap (-(a : Int))) 31 = ((32 - a : Nat) : Int) := by
  have h : ∀ a : Nat, a < 32 → 0 < a → bits .and .u64 (IntKind.u64.wrap (-(a : Int))) 31 = ((32 - a : Nat) : Int) := by decide +kernel
  exact h a h1 h0
end Go.Proofs.YtbmiiiccnoiffaaGreatDoor

/- Walks: words turned. -/
namespace Go.Proofs.YtbmiiiccnoiffaaGreatDoor
open Go.RowKit

theorem same_below {P : Program} {f : FuncId} {args : Array Value} {w : World} {E : Ending} (h : Calls P f args w fun e w' => e = E ∧ w' = w) : Calls P f args w fun e w' => e = E ∧ Below w.heap.size w w' :=
  h.mono fun e w' ⟨he, hw⟩ => by subst hw; exact ⟨he, Below.refl _ _⟩
set_option maxHeartbeats 400000 in
theorem rotl_any (x : W32) (a : Nat) (k : Int) (hk : k = -(a : Int)) (h0 : 0 < a) (h1 : a < 32) (w : World) :
    Calls Tryz.prog 246 #[.int .u32 (wn x), .int .i64 k] w fun e w' => e = .returned (.int .u32 (wn (x.rotateRight a))) ∧ w' = w := by
  subst hk
  have hx0 := wn_0 x
  have hx1 := wn_lt x
  have HA := and31 a h0 h1
  obtain ⟨m, hm⟩ : ∃ m, m = 32 - a := ⟨_, rfl⟩
  rw [← hm] at HA
  have H3 : IntKind.u64.wrap (32 - (m : Int)) = (a : Int) := by rw [IntKind.wrap_u64]; omega
  have H5 : (32 : Int) - (m : Int) = (a : Int) := by omega
  have H4 := w_or (x <<< m) (x >>> a)
  rw [rot_or x a m (by omega) h0 (by omega)] at H4
  clear hm
  go_enter Tryz.func246, Tryz.ntmps246
  go_wp2
  go_ret
  exact ⟨ret_int (by rw [e_shl, e_shr, H4]), rfl⟩
set_option maxHeartbeats 400000 in
theorem right_any (x : W32) (a : Nat) (k : Int) (hk : k = (a : Int)) (h0 : 0 < a) (h1 : a < 32) (w : World) : 
    Calls Tryz.prog 182 #[.int .u32 (wn x), .int .u64 k] w fun e w' => e = .returned (.int .u32 (wn (x.rotateRight a))) ∧ w' = w := by
  subst hk
  have hx0 := wn_0 x
  have hx1 := wn_lt x
  obtain ⟨m, hm⟩ : ∃ m, m = 32 - a := ⟨_, rfl⟩
  have H3 : IntKind.u64.wrap (32 - (a : Int)) = (m : Int) := by rw [IntKind.wrap_u64]; omega
  have H5 : (32 : Int) - (a : Int) = (m : Int) := by omega
  have H4 := w_or (x >>> a) (x <<< m)
  rw [BitVec.or_comm, rot_or x a m (by omega) h0 (by omega)] at H4
  clear hm
  go_enter Tryz.func182, Tryz.ntmps182
  go_wp2
  go_ret
  exact ⟨ret_int (by rw [e_shl, e_shr, H4]), rfl⟩

set_option maxHeartbeats 1000000 in
theorem turn_any (x : W32) (a b c : Nat) (ha : 0 < a) (ha1 : a < 32) (hb : 0 < b) (hb1 : b < 32) (hc : c < 32) (w : World) :
    Calls Tryz.prog 225 #[.int .u32 (wn x), .int .i64 a, .int .i64 b, .int .i64 c] w fun e w' => e = .returned (.int .u32 (wn (turnW x a b c))) ∧ Below w.heap.size w w' := by
  have H1 := fun w => rotl_any x a (-(a : Int)) rfl ha ha1 w
  have H2 := fun w => rotl_any x b (-(b : Int)) rfl hb hb1 w
  have X := w_xor
  have E := e_shr x c
  have N1 : IntKind.i64.wrap (-(a : Int)) = -(a : Int) := IntWalk.i64_in _ (by omega)
  have N2 : IntKind.i64.wrap (-(b : Int)) = -(b : Int) := IntWalk.i64_in _ (by omega)
  go_enter Tryz.func225, Tryz.ntmps225
  go_wp2
  refine wp_region_bq (by kernel_rfl) (by kernel_rfl) ?_
  repeat (go_big_quiet_step ((first | (go_at_call 246; with_reducible exact calls_bw_same (H1 _)) | (go_at_call 246; with_reducible exact calls_bw_same (H2 _)))))
  refine wpQuiet_nil ?_
  intro wq hbq
  go_wp2
  go_ret
  exact ⟨ret_int rfl, hbq⟩

set_option maxHeartbeats 1000000 in
theorem spin_any (x : W32) (a b c : Nat) (ha : 0 < a) (ha1 : a < 32) (hb : 0 < b) (hb1 : b < 32) (hc : 0 < c) (hc1 : c < 32) (w : World) :
    Calls Tryz.prog 226 #[.int .u32 (wn x), .int .i64 a, .int .i64 b, .int .i64 c] w fun e w' => e = .returned (.int .u32 (wn (spinW x a b c))) ∧ w' = w := by
  have X := w_xor
  go_enter Tryz.func226, Tryz.ntmps226
  go_wp2_with (first | (go_at_call_of 246 (Value.int IntKind.i64 (-(a : Int))); refine (rotl_any x a _ rfl ha ha1 _).mono ?_; rintro e w' ⟨rfl, rfl⟩) | (go_at_call_of 246 (Value.int IntKind.i64 (-(b : Int))); refine (rotl_any x b _ rfl hb hb1 _).mono ?_; rintro e w' ⟨rfl, rfl⟩) | (go_at_call_of 246 (Value.int IntKind.i64 (-(c : Int))); refine (rotl_any x c _ rfl hc hc1 _).mono ?_; rintro e w' ⟨rfl, rfl⟩))
  go_ret
  exact ⟨ret_int rfl, rfl⟩
end Go.Proofs.YtbmiiiccnoiffaaGreatDoor

/- Plain Lean: SHA-256, block by block, in functions of numbers. -/
namespace Go.Proofs.YtbmiiiccnoiffaaGreatDoor

/-- A byte's word. -/
def bw (b : UInt8) : W32 := BitVec.ofNat 32 b.toNat
/-- The first j bytes of word i of a block. -/
def wordTo (r : Nat → UInt8) (i : Nat) : Nat → W32
  | 0 => 0
  | j + 1 => wordTo r i j <<< 8 ||| bw (r (4 * i + j))
/-- The words, as far as i words and j bytes of the next are read. -/
def initW (r : Nat → UInt8) (i j : Nat) : Nat → W32 := fun k => if k < i then wordTo r k 4 else if k = i then wordTo r i j else 0
theorem initW_zero (r : Nat → UInt8) : initW r 0 0 = fun _ => 0 := by
  funext k; unfold initW; rw [if_neg (by omega)]; split <;> rfl
theorem initW_byte (r : Nat → UInt8) (i j : Nat) : upd (initW r i j) i (initW r i j i <<< 8 ||| bw (r (4 * i + j))) = initW r i (j + 1) := by
  funext k; unfold upd initW
  by_cases h : k = i
  · subst h; simp [wordTo]
  · rw [if_neg h, if_neg h, if_neg h]
theorem initW_word (r : Nat → UInt8) (i : Nat) : initW r i 4 = initW r (i + 1) 0 := by
  funext k; unfold initW
  by_cases h : k < i
  · rw [if_pos h, if_pos (by omega)]
  · by_cases h2 : k = i
    · subst h2; rw [if_neg (by omega), if_pos rfl, if_pos (by omega)]
    · rw [if_neg h, if_neg h2, if_neg (by omega)]; split <;> rfl
def nextW (f : Nat → W32) (i : Nat) : W32 := turnW (f (i - 2)) 17 19 10 + f (i - 7) + turnW (f (i - 15)) 7 18 3 + f (i - 16)
/-- The words, the first i made. -/
def schedW (r : Nat → UInt8) : Nat → Nat → W32
  | 0 => initW r 16 0
  | n + 1 => upd (schedW r n) (16 + n) (nextW (schedW r n) (16 + n))
def roundK : List W32 := [0x428a2f98#32, 0x71374491#32, 0xb5c0fbcf#32, 0xe9b5dba5#32, 0x3956c25b#32, 0x59f111f1#32, 0x923f82a4#32, 0xab1c5ed5#32, 0xd807aa98#32, 0x12835b01#32, 0x243185be#32, 0x550c7dc3#32, 0x72be5d74#32, 0x80deb1fe#32, 0x9bdc06a7#32, 0xc19bf174#32, 0xe49b69c1#32, 0xefbe4786#32, 0x0fc19dc6#32, 0x240ca1cc#32, 0x2de92c6f#32, 0x4a7484aa#32, 0x5cb0a9dc#32, 0x76f988da#32, 0x983e5152#32, 0xa831c66d#32, 0xb00327c8#32, 0xbf597fc7#32, 0xc6e00bf3#32, 0xd5a79147#32, 0x06ca6351#32, 0x14292967#32, 0x27b70a85#32, 0x2e1b2138#32, 0x4d2c6dfc#32, 0x53380d13#32, 0x650a7354#32, 0x766a0abb#32, 0x81c2c92e#32, 0x92722c85#32, 0xa2bfe8a1#32, 0xa81a664b#32, 0xc24b8b70#32, 0xc76c51a3#32, 0xd192e819#32, 0xd6990624#32, 0xf40e3585#32, 0x106aa070#32, 0x19a4c116#32, 0x1e376c08#32, 0x2748774c#32, 0x34b0bcb5#32, 0x391c0cb3#32, 0x4ed8aa4a#32, 0x5b9cca4f#32, 0x682e6ff3#32, 0x748f82ee#32, 0x78a5636f#32, 0x84c87814#32, 0x8cc70208#32, 0x90befffa#32, 0xa4506ceb#32, 0xbef9a3f7#32, 0xc67178f2#32]
def rK (i : Nat) : W32 := roundK.getD i 0
theorem roundK_len : roundK.length = 64 := by decide +kernel
/-- One round. -/
def tW (s : Nat → W32) (k w : W32) : W32 := s 7 + spinW (s 4) 6 11 25 + (s 4 &&& s 5 ^^^ ~~~ s 4 &&& s 6) + k + w
def uW (s : Nat → W32) : W32 := spinW (s 0) 2 13 22 + (s 0 &&& s 1 ^^^ s 0 &&& s 2 ^^^ s 1 &&& s 2)
def eight (a b c d e f g h : W32) : Nat → W32 := fun k => if k = 0 then a else if k = 1 then b else if k = 2 then c else if k = 3 then d else if k = 4 then e else if k = 5 then f else if k = 6 then g else h
def stepW (s : Nat → W32) (k w : W32) : Nat → W32 := eight (tW s k w + uW s) (s 0) (s 1) (s 2) (s 3 + tW s k w) (s 4) (s 5) (s 6)
def roundsW (w : Nat → W32) (s : Nat → W32) : Nat → Nat → W32
  | 0 => s
  | n + 1 => stepW (roundsW w s n) (rK n) (w n)
/-- The state behind a block. -/
def blockW (s : Nat → W32) (r : Nat → UInt8) : Nat → W32 := fun k => s k + roundsW (schedW r 48) s 64 k
/-- The state, the first i words of it added up. -/
def partW (s t : Nat → W32) (i : Nat) : Nat → W32 := fun k => if k < i then s k + t k else s k
theorem partW_zero (s t : Nat → W32) : partW s t 0 = s := by funext k; unfold partW; rw [if_neg (by omega)]
theorem partW_next (s t : Nat → W32) (i : Nat) : upd (partW s t i) i (s i + t i) = partW s t (i + 1) := by
  funext k; unfold upd partW
  by_cases h : k = i
  · subst h; rw [if_pos rfl, if_pos (by omega)]
  · rw [if_neg h]
    by_cases h2 : k < i
    · rw [if_pos h2, if_pos (by omega)]
    · rw [if_neg h2, if_neg (by omega)]

theorem wn_bw (b : UInt8) : ((b.toNat : Nat) : Int) = wn (bw b) := by
  unfold wn bw; rw [BitVec.toNat_ofNat, Nat.mod_eq_of_lt (by have := b.toNat_lt; omega)]
theorem bw_lt (b : UInt8) : wn (bw b) < 256 := by rw [← wn_bw]; have := b.toNat_lt; omega
/-- A hash under way. -/
structure HS where
  begun : Bool
  st : Nat → W32
  rest : Nat → UInt8
  many : Nat
  taken : Int
/-- Its cells. -/
def HS.c (h : HS) (k : Nat) : Value :=
  if k = 0 then .bool h.begun else if k < 9 then .int .u32 (wn (h.st (k - 1))) else if k < 73 then .int .u8 ((h.rest (k - 9)).toNat : Int) else if k = 73 then .int .i64 h.many else .int .u64 h.taken
theorem HS.c_st (h : HS) (k : Nat) (hk : k < 8) : h.c (1 + k) = .int .u32 (wn (h.st k)) := by
  unfold HS.c; rw [if_neg (by omega), if_pos (by omega), show 1 + k - 1 = k from by omega]
theorem HS.c_rest (h : HS) (k : Nat) (hk : k < 64) : h.c (9 + k) = .int .u8 ((h.rest k).toNat : Int) := by
  unfold HS.c; rw [if_neg (by omega), if_neg (by omega), if_pos (by omega), show 9 + k - 9 = k from by omega]
theorem HS.c_many (h : HS) : h.c 73 = .int .i64 h.many := rfl
theorem HS.c_taken (h : HS) : h.c 74 = .int .u64 h.taken := rfl
theorem HS.c_begun (h : HS) : h.c 0 = .bool h.begun := rfl
theorem HS.upd_st (h : HS) (k : Nat) (hk : k < 8) (x : W32) : upd h.c (1 + k) (.int .u32 (wn x)) = HS.c { h with st := upd h.st k x } := by
  funext j; unfold upd HS.c
  by_cases e : j = 1 + k
  · subst e; rw [if_pos rfl, if_neg (by omega), if_pos (by omega)]; dsimp only; rw [if_pos (by omega)]
  · rw [if_neg e]
    by_cases h0 : j = 0
    · rw [if_pos h0, if_pos h0]
    · rw [if_neg h0, if_neg h0]
      by_cases h1 : j < 9
      · rw [if_pos h1, if_pos h1]; dsimp only; rw [if_neg (by omega)]
      · rw [if_neg h1, if_neg h1]
theorem HS.upd_rest (h : HS) (k : Nat) (hk : k < 64) (x : UInt8) : upd h.c (9 + k) (.int .u8 (x.toNat : Int)) = HS.c { h with rest := upd h.rest k x } := by
  funext j; unfold upd HS.c
  by_cases e : j = 9 + k
  · subst e; rw [if_pos rfl, if_neg (by omega), if_neg (by omega), if_pos (by omega)]; dsimp only; rw [if_pos (by omega)]
  · rw [if_neg e]
    by_cases h0 : j = 0
    · rw [if_pos h0, if_pos h0]
    · rw [if_neg h0, if_neg h0]
      by_cases h1 : j < 9
      · rw [if_pos h1, if_pos h1]
      · rw [if_neg h1, if_neg h1]
        by_cases h2 : j < 73
        · rw [if_pos h2, if_pos h2]; dsimp only; rw [if_neg (by omega)]
        · rw [if_neg h2, if_neg h2]
theorem HS.upd_many (h : HS) (m : Nat) : upd h.c 73 (.int .i64 (m : Int)) = HS.c { h with many := m } := by
  funext j; unfold upd HS.c
  by_cases e : j = 73
  · subst e; simp
  · rw [if_neg e]
    by_cases h0 : j = 0
    · rw [if_pos h0, if_pos h0]
    · rw [if_neg h0, if_neg h0]
      by_cases h1 : j < 9
      · rw [if_pos h1, if_pos h1]
      · rw [if_neg h1, if_neg h1]
        by_cases h2 : j < 73
        · rw [if_pos h2, if_pos h2]
        · rw [if_neg h2, if_neg h2, if_neg e, if_neg e]
theorem HS.upd_taken (h : HS) (m : Int) : ∀ k, k < 75 → upd h.c 74 (.int .u64 m) k = HS.c { h with taken := m } k := by
  intro j hj; unfold upd HS.c
  by_cases e : j = 74
  · subst e; simp
  · rw [if_neg e]
    by_cases h0 : j = 0
    · rw [if_pos h0, if_pos h0]
    · rw [if_neg h0, if_neg h0]
      by_cases h1 : j < 9
      · rw [if_pos h1, if_pos h1]
      · rw [if_neg h1, if_neg h1]
        by_cases h2 : j < 73
        · rw [if_pos h2, if_pos h2]
        · rw [if_neg h2, if_neg h2, if_pos (by omega), if_pos (by omega)]
end Go.Proofs.YtbmiiiccnoiffaaGreatDoor

/- Plain: the digest by lists, for the kernel; two ids that are apart. -/
import Derived.Test.YtbmiiiccnoiffaaGreatDoorJD
namespace Go.Proofs.YtbmiiiccnoiffaaGreatDoor
/-- A block looks at the first eight words of a state alone. -/
theorem rounds_st {s t : Nat → W32} (h : ∀ k, k < 8 → s k = t k) (w : Nat → W32) : ∀ n, ∀ k, k < 8 → roundsW w s n k = roundsW w t n k
  | 0 => h
  | n + 1 => fun k hk => by
    have ih := rounds_st h w n
    show stepW (roundsW w s n) _ _ k = stepW (roundsW w t n) _ _ k
    generalize roundsW w s n = a at ih ⊢
    generalize roundsW w t n = b at ih ⊢
    unfold stepW tW uW
    rw [ih 0 (by omega), ih 1 (by omega), ih 2 (by omega), ih 3 (by omega), ih 4 (by omega), ih 5 (by omega), ih 6 (by omega), ih 7 (by omega)]
theorem block_st {s t : Nat → W32} (h : ∀ k, k < 8 → s k = t k) (r : Nat → UInt8) (k : Nat) (hk : k < 8) : blockW s r k = blockW t r k := by
  unfold blockW; rw [h k hk, rounds_st h _ _ k hk]
/-- A number, reckoned first. -/
def fN {α : Type} (n : Nat) (k : Nat → α) : α := match n with
  | 0 => k 0
  | m + 1 => k (m + 1)
theorem fN_eq {α : Type} (n : Nat) (k : Nat → α) : fN n k = k n := by cases n <;> rfl
/-- A word, reckoned first. -/
def fW {α : Type} (x : W32) (k : W32 → α) : α := fN x.toNat fun n => k (BitVec.ofNat 32 n)
theorem fW_eq {α : Type} (x : W32) (k : W32 → α) : fW x k = k x := by unfold fW; rw [fN_eq, BitVec.ofNat_toNat, BitVec.setWidth_eq]
/-- The words, the newest first. -/
def schedL : Nat → List W32 → List W32
  | 0, l => l
  | n + 1, l => fW (turnW (l.getD 1 0) 17 19 10 + l.getD 6 0 + turnW (l.getD 14 0) 7 18 3 + l.getD 15 0) fun x => schedL n (x :: l)
structure S8 where
  (a b c d e f g h : W32)
def S8.w (s : S8) : Nat → W32 := eight s.a s.b s.c s.d s.e s.f s.g s.h
def S8.step (s : S8) (k w : W32) : S8 :=
  let t := s.h + spinW s.e 6 11 25 + (s.e &&& s.f ^^^ ~~~ s.e &&& s.g) + k + w
  ⟨t + (spinW s.a 2 13 22 + (s.a &&& s.b ^^^ s.a &&& s.c ^^^ s.b &&& s.c)), s.a, s.b, s.c, s.d + t, s.e, s.f, s.g⟩
def S8.force {α : Type} (s : S8) (k : S8 → α) : α := fW s.a fun a => fW s.b fun b => fW s.c fun c => fW s.d fun d => fW s.e fun e => fW s.f fun f => fW s.g fun g => fW s.h fun h => k ⟨a, b, c, d, e, f, g, h⟩
theorem S8.force_eq {α : Type} (s : S8) (k : S8 → α) : s.force k = k s := by unfold S8.force; simp only [fW_eq]
def roundsL : List W32 → List W32 → S8 → S8
  | k :: ks, w :: ws, s => (s.step k w).force fun s => roundsL ks ws s
  | _, _, s => s
def S8.add (s t : S8) : S8 := ⟨s.a + t.a, s.b + t.b, s.c + t.c, s.d + t.d, s.e + t.e, s.f + t.f, s.g + t.g, s.h + t.h⟩
def wordL (b : List UInt8) (i : Nat) : W32 := (((bw (b.getD (4 * i) 0)) <<< 8 ||| bw (b.getD (4 * i + 1) 0)) <<< 8 ||| bw (b.getD (4 * i + 2) 0)) <<< 8 ||| bw (b.getD (4 * i + 3) 0)
def firstWords (b : List UInt8) : Nat → List W32 → List W32
  | 0, l => l
  | n + 1, l => fW (wordL b (15 - n)) fun x => firstWords b n (x :: l)
/-- A block. -/
def blockL (s : S8) (b : List UInt8) : S8 := (s.add (roundsL roundK (schedL 48 (firstWords b 16 [])).reverse s)).force id

theorem step_w (s : S8) (k w : W32) : (s.step k w).w = stepW s.w k w := rfl
theorem roundsW_cons (ws : Nat → W32) (s : Nat → W32) : ∀ n, n ≤ 64 → ∀ (t : S8), t.w = roundsW ws s (64 - n) → (roundsL (roundK.drop (64 - n)) ((List.range n).map fun i => ws (64 - n + i)) t).w = roundsW ws s 64
  | 0, _, t, ht => by simpa [roundsL] using ht
  | n + 1, hn, t, ht => by
    have hk : roundK.drop (64 - (n + 1)) = rK (64 - (n + 1)) :: roundK.drop (64 - n) := by
      have hl := roundK_len
      rw [List.drop_eq_getElem_cons (by omega)]
      congr 1
      · unfold rK; rw [List.getD_eq_getElem?_getD, List.getElem?_eq_getElem (by omega)]; rfl
      · rw [show 64 - (n + 1) + 1 = 64 - n from by omega]
    rw [hk, List.range_succ_eq_map, List.map_cons, List.map_map]
    unfold roundsL
    rw [S8.force_eq]
    have hm : (List.range n).map ((fun i => ws (64 - (n + 1) + i)) ∘ Nat.succ) = (List.range n).map fun i => ws (64 - n + i) := List.map_congr_left fun i _ => by
      show ws (64 - (n + 1) + (i + 1)) = _; congr 1; omega
    rw [hm]
    refine roundsW_cons ws s n (by omega) _ ?_
    rw [step_w, ht, show 64 - n = (64 - (n + 1)) + 1 from by omega]; rfl
theorem schedW_low (r : Nat → UInt8) : ∀ n k, k < 16 + n → ∀ m, n ≤ m → schedW r m k = schedW r n k := by
  intro n k hk m hm
  induction m with
  | zero =>
    obtain rfl : n = 0 := by omega
    rfl
  | succ m ih =>
    by_cases e : n = m + 1
    · rw [e]
    · rw [← ih (by omega)]
      show upd (schedW r m) (16 + m) _ k = _
      unfold upd; rw [if_neg (by omega)]
/-- The words so far, the newest first. -/
def revW (f : Nat → W32) (n : Nat) : List W32 := ((List.range n).map f).reverse
theorem revW_get (f : Nat → W32) (n i : Nat) (h : i < n) : (revW f n).getD i 0 = f (n - 1 - i) := by
  unfold revW
  rw [List.getD_eq_getElem?_getD, List.getElem?_reverse (by simpa using h)]
  simp [show n - 1 - i < n from by omega]
theorem revW_succ (f : Nat → W32) (n : Nat) : revW f (n + 1) = f n :: revW f n := by unfold revW; rw [List.range_succ]; simp
theorem schedL_eq (r : Nat → UInt8) : ∀ m n, n + m = 48 → schedL m (revW (schedW r 48) (16 + n)) = revW (schedW r 48) 64
  | 0, n, h => by obtain rfl : n = 48 := by omega
                  rfl
  | m + 1, n, h => by
    unfold schedL
    rw [fW_eq, revW_get _ _ _ (by omega), revW_get _ _ _ (by omega), revW_get _ _ _ (by omega), revW_get _ _ _ (by omega)]
    rw [show 16 + n - 1 - 1 = 16 + n - 2 from by omega, show 16 + n - 1 - 6 = 16 + n - 7 from by omega, show 16 + n - 1 - 14 = 16 + n - 15 from by omega, show 16 + n - 1 - 15 = 16 + n - 16 from by omega]
    have e : schedW r 48 (16 + n) = turnW (schedW r 48 (16 + n - 2)) 17 19 10 + schedW r 48 (16 + n - 7) + turnW (schedW r 48 (16 + n - 15)) 7 18 3 + schedW r 48 (16 + n - 16) := by
      rw [schedW_low r (n + 1) (16 + n) (by omega) 48 (by omega), schedW_low r n (16 + n - 2) (by omega) 48 (by omega), schedW_low r n (16 + n - 7) (by omega) 48 (by omega), schedW_low r n (16 + n - 15) (by omega) 48 (by omega), schedW_low r n (16 + n - 16) (by omega) 48 (by omega)]
      show upd (schedW r n) (16 + n) (nextW (schedW r n) (16 + n)) (16 + n) = _
      unfold upd; rw [if_pos rfl]; rfl
    rw [← e, ← revW_succ, show 16 + n + 1 = 16 + (n + 1) from by omega]
    exact schedL_eq r m (n + 1) (by omega)
theorem wordL_eq (b : List UInt8) (i : Nat) : wordL b i = wordTo (fun k => b.getD k 0) i 4 := by
  show _ = ((((0 : W32) <<< 8 ||| bw (b.getD (4 * i + 0) 0)) <<< 8 ||| bw (b.getD (4 * i + 1) 0)) <<< 8 ||| bw (b.getD (4 * i + 2) 0)) <<< 8 ||| bw (b.getD (4 * i + 3) 0)
  have : (0 : W32) <<< 8 ||| bw (b.getD (4 * i + 0) 0) = bw (b.getD (4 * i) 0) := by simp
  rw [this]; rfl
theorem firstWords_eq (b : List UInt8) : ∀ n, n ≤ 16 → firstWords b n (revW (schedW (fun k => b.getD k 0) 48) (16 - n)) = revW (schedW (fun k => b.getD k 0) 48) 16
  | 0, _ => rfl
  | n + 1, h => by
    unfold firstWords
    rw [fW_eq]
    have e : wordL b (15 - n) = schedW (fun k => b.getD k 0) 48 (16 - (n + 1)) := by
      rw [schedW_low _ 0 (16 - (n + 1)) (by omega) 48 (by omega), wordL_eq, show 16 - (n + 1) = 15 - n from by omega]
      show _ = initW _ 16 0 (15 - n)
      unfold initW; rw [if_pos (by omega)]
    rw [e, ← revW_succ, show 16 - (n + 1) + 1 = 16 - n from by omega]
    exact firstWords_eq b n (by omega)
theorem blockL_eq (s : S8) (b : List UInt8) : (blockL s b).w = blockW s.w fun k => b.getD k 0 := by
  unfold blockL
  rw [S8.force_eq]
  have h1 : firstWords b 16 [] = revW (schedW (fun k => b.getD k 0) 48) 16 := firstWords_eq b 16 (Nat.le_refl _)
  have h2 := schedL_eq (fun k => b.getD k 0) 48 0 rfl
  rw [h1, h2]
  have h3 : (revW (schedW (fun k => b.getD k 0) 48) 64).reverse = (List.range 64).map fun i => schedW (fun k => b.getD k 0) 48 (64 - 64 + i) := by
    unfold revW; rw [List.reverse_reverse]; exact List.map_congr_left fun i _ => by rw [Nat.sub_self, Nat.zero_add]
  rw [h3]
  have h4 := roundsW_cons (schedW (fun k => b.getD k 0) 48) s.w 64 (Nat.le_refl _) s rfl
  rw [Nat.sub_self, List.drop_zero] at h4
  generalize hR : roundsL roundK _ s = t at h4
  funext k
  unfold blockW
  rw [← h4]
  show S8.w ⟨_, _, _, _, _, _, _, _⟩ k = S8.w s k + S8.w t k
  unfold S8.w eight
  repeat' split
  all_goals rfl
def blocksL (l : List UInt8) : Nat → S8
  | 0 => ⟨0x6a09e667#32, 0xbb67ae85#32, 0x3c6ef372#32, 0xa54ff53a#32, 0x510e527f#32, 0x9b05688c#32, 0x1f83d9ab#32, 0x5be0cd19#32⟩
  | n + 1 => blockL (blocksL l n) ((l.drop (64 * n)).take 64)
theorem blocksL_eq (l : List UInt8) : ∀ n k, k < 8 → (blocksL l n).w k = blocksW (ofB l) n k
  | 0, k, hk => by
    obtain h | h | h | h | h | h | h | h : k = 0 ∨ k = 1 ∨ k = 2 ∨ k = 3 ∨ k = 4 ∨ k = 5 ∨ k = 6 ∨ k = 7 := by omega
    all_goals subst h; rfl
  | n + 1, k, hk => by
    show (blockL (blocksL l n) ((l.drop (64 * n)).take 64)).w k = blockW (blocksW (ofB l) n) (blk ((ofB l).extract (64 * n) (64 * n + 64))) k
    rw [blockL_eq]
    have e : (fun k => ((l.drop (64 * n)).take 64).getD k 0) = blk ((ofB l).extract (64 * n) (64 * n + 64)) := by
      funext j; unfold blk
      rw [ByteArray.data_extract, Array.toList_extract, List.extract_eq_take_drop]
      simp [ofB]
    rw [e]
    exact block_st (fun k hk => blocksL_eq l n k hk) _ k hk
/-- The digest, for the kernel. -/
def shaL (l : List UInt8) : List UInt8 := (List.range 32).map (stB (blocksL (lenL l) ((lenL l).length / 64)).w)
theorem shaL_eq (s : ByteArray) : shaL s.data.toList = shaR s := by
  unfold shaL shaR shaRst
  refine List.map_congr_left fun j hj => ?_
  unfold stB
  rw [blocksL_eq _ _ _ (by have := List.mem_range.1 hj; omega)]
def sa : List UInt8 := 99 :: 35 :: (List.replicate 32 0 ++ [0, 1, 97])
def sb : List UInt8 := 99 :: 67 :: (List.replicate 32 0 ++ [1] ++ shaL sa ++ [1, 98])
set_option maxRecDepth 100000 in
theorem test1 : shaL sa ≠ shaL sb := by decide +kernel
end Go.Proofs.YtbmiiiccnoiffaaGreatDoor

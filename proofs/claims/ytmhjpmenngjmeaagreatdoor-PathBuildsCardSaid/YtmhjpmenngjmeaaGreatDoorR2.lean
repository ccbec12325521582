/- YtmhjpmenngjmeaaGreatDoorR2: texts SM of this claim, in one. -/
import Derived.Sort.LotA
import Derived.Sort.LotD2
namespace Go.Proofs.YtmhjpmenngjmeaaGreatDoor
open Go.Sort
section
variable {α:Type} [Inhabited α] {lt:α → α → Bool}
def swpR (d:Array α) (a b:Nat):Nat → Array α
 | 0 => d
 | n + 1 => swp (swpR d a b n) (a + n) (b + n)
theorem swpR_size (d:Array α) (a b:Nat):∀ n,(swpR d a b n).size = d.size
 | 0 => rfl
 | n + 1 => by unfold swpR;rw [size_swp,swpR_size d a b n]
theorem swpR_get (d:Array α) (a b:Nat):∀ n,a + n ≤ b → b + n ≤ d.size → ∀ k,(swpR d a b n)[k]! = if a ≤ k ∧ k < a + n then d[k - a + b]! else if b ≤ k ∧ k < b + n then d[k - b + a]! else d[k]!
 | 0,_,_,k => by rw [if_neg (by omega),if_neg (by omega)];rfl
 | n + 1,h1,h2,k => by
  have ih:=swpR_get d a b n (by omega) (by omega)
  unfold swpR
  rw [swp_get _ (by rw [swpR_size];omega) (by rw [swpR_size];omega)]
  split
  ·rename_i e
   rw [ih,if_neg (by omega),if_neg (by omega),if_neg (by omega),if_pos (by omega),e]
   congr 1;omega
  ·split
   ·rename_i e
    rw [ih,if_neg (by omega),if_neg (by omega),if_pos (by omega),e]
    congr 1;omega
   ·rw [ih]
    by_cases c1:a ≤ k ∧ k < a + n
    ·rw [if_pos c1,if_pos (by omega)]
    ·by_cases c2:b ≤ k ∧ k < b + n
     ·rw [if_neg c1,if_pos c2,if_neg (by omega),if_pos (by omega)]
     ·rw [if_neg c1,if_neg c2,if_neg (by omega),if_neg (by omega)]
theorem swpR_perm (d:Array α) (a b lo hi:Nat) (hl:lo ≤ a) (hb:lo ≤ b) (hs:hi ≤ d.size):∀ n,a + n ≤ hi → b + n ≤ hi → PermIn lo hi d (swpR d a b n)
 | 0,_,_ => permIn_refl _ _ _
 | n + 1,h1,h2 => permIn_trans _ _ _ _ _ (swpR_perm d a b lo hi hl hb hs n (by omega) (by omega)) (swp_permIn _ _ _ _ _ (by omega) (by omega) (by omega) (by omega) (by rw [swpR_size];exact hs))
def rotG (d:Array α) (l m h k:Nat):α:=if l ≤ k ∧ k < h then (if k < l + (h - m) then d[k + (m - l)]! else d[k - (h - m)]!) else d[k]!
theorem rot_gt (d:Array α) (m i j:Nat) (hi:i ≤ m) (hij:j < i) (hs:m + j ≤ d.size) (k:Nat) :
  rotG (swpR d (m - i) m j) (m - (i - j)) m (m + j) k = rotG d (m - i) m (m + j) k:=by
 have g:=swpR_get d (m - i) m j (by omega) hs
 unfold rotG
 simp only [g]
 by_cases c1:m - i ≤ k ∧ k < m + j
 ·rw [if_pos c1]
  by_cases c2:k < m - i + (m + j - m)
  ·rw [if_pos c2,if_neg (by omega),if_pos (by omega)]
   congr 1;omega
  ·rw [if_neg c2,if_pos (by omega)]
   by_cases c3:k < m - (i - j) + (m + j - m)
   ·rw [if_pos c3,if_neg (by omega),if_pos (by omega)]
    congr 1;omega
   ·rw [if_neg c3,if_neg (by omega),if_neg (by omega)]
 ·rw [if_neg c1,if_neg (by omega),if_neg (by omega),if_neg (by omega)]
theorem rot_lt (d:Array α) (m i j:Nat) (hi:i ≤ m) (hij:i < j) (hs:m + j ≤ d.size) (k:Nat) :
  rotG (swpR d (m - i) (m + j - i) i) (m - i) m (m + (j - i)) k = rotG d (m - i) m (m + j) k:=by
 have g:=swpR_get d (m - i) (m + j - i) i (by omega) (by omega)
 unfold rotG
 simp only [g]
 by_cases c1:m - i ≤ k ∧ k < m + j
 ·rw [if_pos c1]
  by_cases c2:k < m - i + (m + j - m)
  ·rw [if_pos c2,if_pos (by omega)]
   by_cases c3:k < m - i + (m + (j - i) - m)
   ·rw [if_pos c3,if_neg (by omega),if_neg (by omega)]
   ·rw [if_neg c3,if_pos (by omega)]
    congr 1;omega
  ·rw [if_neg c2,if_neg (by omega),if_neg (by omega),if_pos (by omega)]
   congr 1;omega
 ·rw [if_neg c1,if_neg (by omega),if_neg (by omega),if_neg (by omega)]
theorem rot_eq (d:Array α) (m i:Nat) (hi:i ≤ m) (hs:m + i ≤ d.size) (k:Nat):(swpR d (m - i) m i)[k]! = rotG d (m - i) m (m + i) k:=by
 rw [swpR_get d (m - i) m i (by omega) hs]
 unfold rotG
 by_cases c1:m - i ≤ k ∧ k < m - i + i
 ·rw [if_pos c1,if_pos (by omega),if_pos (by omega)]
  congr 1;omega
 ·rw [if_neg c1]
  by_cases c2:m ≤ k ∧ k < m + i
  ·rw [if_pos c2,if_pos (by omega),if_neg (by omega)]
   congr 1;omega
  ·rw [if_neg c2,if_neg (by omega)]
def upR (d:Array α) (a:Nat):Nat → Array α
 | 0 => d
 | n + 1 => swp (upR d a n) (a + n) (a + n + 1)
theorem upR_size (d:Array α) (a:Nat):∀ n,(upR d a n).size = d.size
 | 0 => rfl
 | n + 1 => by unfold upR;rw [size_swp,upR_size d a n]
theorem upR_get (d:Array α) (a:Nat):∀ n,a + n < d.size → ∀ k,(upR d a n)[k]! = if a ≤ k ∧ k < a + n then d[k + 1]! else if k = a + n then d[a]! else d[k]!
 | 0,_,k => by
  rw [if_neg (by omega)]
  split
  ·rename_i e;rw [e];rfl
  ·rfl
 | n + 1,h,k => by
  have ih:=upR_get d a n (by omega)
  unfold upR
  rw [swp_get _ (by rw [upR_size];omega) (by rw [upR_size];omega)]
  split
  ·rename_i e
   rw [ih,if_neg (by omega),if_pos rfl,if_neg (by omega),if_pos (by omega)]
  ·split
   ·rename_i e
    rw [ih,if_neg (by omega),if_neg (by omega),if_pos (by omega),e]
   ·rw [ih]
    by_cases c1:a ≤ k ∧ k < a + n
    ·rw [if_pos c1,if_pos (by omega)]
    ·rw [if_neg c1,if_neg (by omega),if_neg (by omega),if_neg (by omega)]
theorem upR_perm (d:Array α) (a b:Nat) (hb:b ≤ d.size):∀ n,a + n < b → PermIn a b d (upR d a n)
 | 0,_ => permIn_refl _ _ _
 | n + 1,h => permIn_trans _ _ _ _ _ (upR_perm d a b hb n (by omega)) (swp_permIn _ _ _ _ _ (by omega) (by omega) (by omega) (by omega) (by rw [upR_size];exact hb))
def dnR (d:Array α) (m:Nat):Nat → Array α
 | 0 => d
 | n + 1 => swp (dnR d m n) (m - n) (m - n - 1)
theorem dnR_size (d:Array α) (m:Nat):∀ n,(dnR d m n).size = d.size
 | 0 => rfl
 | n + 1 => by unfold dnR;rw [size_swp,dnR_size d m n]
theorem dnR_get (d:Array α) (m:Nat) (hm:m < d.size):∀ n,n ≤ m → ∀ k,(dnR d m n)[k]! = if m - n < k ∧ k ≤ m then d[k - 1]! else if k = m - n then d[m]! else d[k]!
 | 0,_,k => by
  rw [if_neg (by omega)]
  split
  ·rename_i e;rw [e];rfl
  ·rfl
 | n + 1,h,k => by
  have ih:=dnR_get d m hm n (by omega)
  unfold dnR
  rw [swp_get _ (by rw [dnR_size];omega) (by rw [dnR_size];omega)]
  split
  ·rename_i e
   rw [ih,if_neg (by omega),if_pos rfl,if_neg (by omega),if_pos (by omega)]
  ·split
   ·rename_i e
    rw [ih,if_neg (by omega),if_neg (by omega),if_pos (by omega),e]
   ·rw [ih]
    by_cases c1:m - n < k ∧ k ≤ m
    ·rw [if_pos c1,if_pos (by omega)]
    ·rw [if_neg c1,if_neg (by omega),if_neg (by omega),if_neg (by omega)]
theorem dnR_perm (d:Array α) (a m b:Nat) (hmb:m < b) (hb:b ≤ d.size):∀ n,a + n ≤ m → PermIn a b d (dnR d m n)
 | 0,_ => permIn_refl _ _ _
 | n + 1,h => permIn_trans _ _ _ _ _ (dnR_perm d a m b hmb hb n (by omega)) (swp_permIn _ _ _ _ _ (by omega) (by omega) (by omega) (by omega) (by rw [dnR_size];exact hb))
def Merged (lt:α → α → Bool) (a m b:Nat) (d d':Array α):Prop:=PermIn a b d d' ∧ (SortedIn lt a m d → SortedIn lt m b d → SortedIn lt a b d')
theorem sortedIn_le (hS:SWO lt) {a b:Nat} {d:Array α} (h:SortedIn lt a b d) {i j:Nat} (hi:a ≤ i) (hij:i ≤ j) (hj:j < b):lt d[j]! d[i]! = false:=by
 rcases Nat.lt_or_ge i j with hl | hl
 ·exact h i j hi hl hj
 ·obtain rfl:i = j:=by omega
  exact hS.irrefl _
omit [Inhabited α] in
theorem SWO.lt_le (hS:SWO lt) {x y z:α} (h1:lt x y = true) (h2:lt z y = false):lt x z = true:=by
 cases h:lt x z with
 | true => rfl
 | false => rw [hS.ntrans x z y h h2] at h1;cases h1
omit [Inhabited α] in
theorem SWO.le_lt (hS:SWO lt) {x y z:α} (h1:lt y x = false) (h2:lt y z = true):lt x z = true:=by
 cases h:lt x z with
 | true => rfl
 | false => rw [hS.ntrans y x z h1 h] at h2;cases h2
structure Srch1 (lt:α → α → Bool) (d:Array α) (a m b i j:Nat):Prop where
 mi:m ≤ i
 ij:i ≤ j
 jb:j ≤ b
 lo:SortedIn lt m b d → ∀ k,m ≤ k → k < i → lt d[k]! d[a]! = true
 hi:SortedIn lt m b d → ∀ k,j ≤ k → k < b → lt d[k]! d[a]! = false
theorem srch1_start (d:Array α) (a m b:Nat) (h:m ≤ b):Srch1 lt d a m b m b:=⟨Nat.le_refl _,h,Nat.le_refl _,fun _ k _ _ => by omega,fun _ k _ _ => by omega⟩
theorem srch1_lt (hS:SWO lt) {d:Array α} {a m b i j c:Nat} (h:Srch1 lt d a m b i j) (hi:i ≤ c) (hc:c < j) (hl:lt d[c]! d[a]! = true):Srch1 lt d a m b (c + 1) j :=
 ⟨by have:=h.mi;omega,by omega,h.jb,fun hs k hk hkc => by
  have:=sortedIn_le hS hs hk (show k ≤ c by omega) (by have:=h.jb;omega)
  exact SWO.le_lt hS this hl,h.hi⟩
theorem srch1_ge (hS:SWO lt) {d:Array α} {a m b i j c:Nat} (h:Srch1 lt d a m b i j) (hi:i ≤ c) (hc:c < j) (hl:lt d[c]! d[a]! = false):Srch1 lt d a m b i c :=
 ⟨h.mi,hi,by have:=h.jb;omega,h.lo,fun hs k hk hkb => by
  have:=sortedIn_le hS hs (show m ≤ c by have:=h.mi;omega) hk hkb
  exact hS.ntrans _ _ _ this hl⟩
theorem up_merged (hS:SWO lt) {d:Array α} {a b i:Nat} (h:Srch1 lt d a (a + 1) b i i) (hb:b ≤ d.size):Merged lt a (a + 1) b d (upR d a (i - 1 - a)):=by
 have h1:=h.mi
 have h2:=h.jb
 by_cases hab:a + 1 ≤ b
 ·refine ⟨upR_perm d a b hb _ (by omega),fun _ hs => ?_⟩
  have g:=upR_get d a (i - 1 - a) (by omega)
  intro p q hp hpq hq
  rw [g p,g q]
  by_cases c1:q < i - 1
  ·rw [if_pos (by omega),if_pos (by omega)]
   exact hs _ _ (by omega) (by omega) (by omega)
  ·by_cases c2:q = i - 1
   ·rw [if_neg (by omega),if_pos (by omega),if_pos (by omega)]
    exact hS.asymm (h.lo hs _ (by omega) (by omega))
   ·rw [if_neg (by omega),if_neg (by omega)]
    by_cases c3:p < i - 1
    ·rw [if_pos (by omega)]
     exact hs _ _ (by omega) (by omega) hq
    ·by_cases c4:p = i - 1
     ·rw [if_neg (by omega),if_pos (by omega)]
      exact h.hi hs _ (by omega) hq
     ·rw [if_neg (by omega),if_neg (by omega)]
      exact hs _ _ (by omega) hpq hq
 ·have:=h.ij
  omega
structure Srch2 (lt:α → α → Bool) (d:Array α) (a m i j:Nat):Prop where
 ai:a ≤ i
 ij:i ≤ j
 jm:j ≤ m
 lo:SortedIn lt a m d → ∀ k,a ≤ k → k < i → lt d[m]! d[k]! = false
 hi:SortedIn lt a m d → ∀ k,j ≤ k → k < m → lt d[m]! d[k]! = true
theorem srch2_start (d:Array α) (a m:Nat) (h:a ≤ m):Srch2 lt d a m a m:=⟨Nat.le_refl _,h,Nat.le_refl _,fun _ k _ _ => by omega,fun _ k _ _ => by omega⟩
theorem srch2_ge (hS:SWO lt) {d:Array α} {a m i j c:Nat} (h:Srch2 lt d a m i j) (hi:i ≤ c) (hc:c < j) (hl:lt d[m]! d[c]! = false):Srch2 lt d a m (c + 1) j :=
 ⟨by have:=h.ai;omega,by omega,h.jm,fun hs k hk hkc => by
  have:=sortedIn_le hS hs hk (show k ≤ c by omega) (by have:=h.jm;omega)
  exact hS.ntrans _ _ _ hl this,h.hi⟩
theorem srch2_lt (hS:SWO lt) {d:Array α} {a m i j c:Nat} (h:Srch2 lt d a m i j) (hi:i ≤ c) (hc:c < j) (hl:lt d[m]! d[c]! = true):Srch2 lt d a m i c :=
 ⟨h.ai,hi,by have:=h.jm;omega,h.lo,fun hs k hk hkm => by
  have:=sortedIn_le hS hs (show a ≤ c by have:=h.ai;omega) hk hkm
  exact SWO.lt_le hS hl this⟩
theorem dn_merged (hS:SWO lt) {d:Array α} {a m i:Nat} (h:Srch2 lt d a m i i) (hb:m + 1 ≤ d.size):Merged lt a m (m + 1) d (dnR d m (m - i)):=by
 have h1:=h.ai
 have h2:=h.jm
 refine ⟨dnR_perm d a m (m + 1) (by omega) hb _ (by omega),fun hs _ => ?_⟩
 have g:=dnR_get d m (by omega) (m - i) (by omega)
 intro p q hp hpq hq
 rw [g p,g q]
 by_cases c1:i < q
 ·rw [if_pos (by omega)]
  by_cases c2:i < p
  ·rw [if_pos (by omega)]
   exact hs _ _ (by omega) (by omega) (by omega)
  ·by_cases c3:p = i
   ·rw [if_neg (by omega),if_pos (by omega)]
    exact hS.asymm (h.hi hs _ (by omega) (by omega))
   ·rw [if_neg (by omega),if_neg (by omega)]
    exact hs _ _ (by omega) (by omega) (by omega)
 ·rw [if_neg (by omega),if_neg (show ¬(m - (m - i) < p ∧ p ≤ m) by omega),if_neg (show ¬ p = m - (m - i) by omega)]
  by_cases c2:q = i
  ·rw [if_pos (by omega)]
   exact h.lo hs _ (by omega) (by omega)
  ·rw [if_neg (by omega)]
   exact hs _ _ (by omega) (by omega) (by omega)
def lo3 (mid m a b:Nat):Nat:=if mid < m then mid + m - b else a
def hi3 (mid m:Nat):Nat:=if mid < m then mid else m
structure Srch3 (lt:α → α → Bool) (d:Array α) (a m b s r:Nat):Prop where
 ls:lo3 ((a + b) / 2) m a b ≤ s
 sr:s ≤ r
 rh:r ≤ hi3 ((a + b) / 2) m
 lo:SortedIn lt a m d → SortedIn lt m b d → ∀ c,lo3 ((a + b) / 2) m a b ≤ c → c < s → lt d[(a + b) / 2 + m - 1 - c]! d[c]! = false
 hi:SortedIn lt a m d → SortedIn lt m b d → ∀ c,r ≤ c → c < hi3 ((a + b) / 2) m → lt d[(a + b) / 2 + m - 1 - c]! d[c]! = true
theorem lohi3 {a m b:Nat} (h1:a < m) (h2:m < b):lo3 ((a + b) / 2) m a b ≤ hi3 ((a + b) / 2) m ∧ a ≤ lo3 ((a + b) / 2) m a b ∧ hi3 ((a + b) / 2) m ≤ m ∧ hi3 ((a + b) / 2) m ≤ (a + b) / 2 ∧
  (a + b) / 2 + m ≤ lo3 ((a + b) / 2) m a b + b:=by
 unfold lo3 hi3
 split <;> omega
theorem srch3_start (d:Array α) {a m b:Nat} (h1:a < m) (h2:m < b):Srch3 lt d a m b (lo3 ((a + b) / 2) m a b) (hi3 ((a + b) / 2) m) :=
 ⟨Nat.le_refl _,(lohi3 h1 h2).1,Nat.le_refl _,fun _ _ c _ _ => by omega,fun _ _ c _ _ => by omega⟩
theorem srch3_ge (hS:SWO lt) {d:Array α} {a m b s r c:Nat} (h1:a < m) (h2:m < b) (h:Srch3 lt d a m b s r) (hi:s ≤ c) (hc:c < r) (hl:lt d[(a + b) / 2 + m - 1 - c]! d[c]! = false):Srch3 lt d a m b (c + 1) r:=by
 have hx:=lohi3 h1 h2
 have h3:=h.ls
 have h4:=h.rh
 refine ⟨by omega,by omega,h.rh,fun ha hb k hk hkc => ?_,h.hi⟩
 have e1:=sortedIn_le hS ha (show a ≤ k by omega) (show k ≤ c by omega) (by omega)
 have e2:=sortedIn_le hS hb (show m ≤ (a + b) / 2 + m - 1 - c by omega) (show (a + b) / 2 + m - 1 - c ≤ (a + b) / 2 + m - 1 - k by omega) (by omega)
 exact hS.ntrans _ _ _ e2 (hS.ntrans _ _ _ hl e1)
theorem srch3_lt (hS:SWO lt) {d:Array α} {a m b s r c:Nat} (h1:a < m) (h2:m < b) (h:Srch3 lt d a m b s r) (hi:s ≤ c) (hc:c < r) (hl:lt d[(a + b) / 2 + m - 1 - c]! d[c]! = true):Srch3 lt d a m b s c:=by
 have hx:=lohi3 h1 h2
 have h3:=h.ls
 have h4:=h.rh
 refine ⟨h.ls,hi,by omega,h.lo,fun ha hb k hk hkc => ?_⟩
 have e1:=sortedIn_le hS ha (show a ≤ c by omega) hk (by omega)
 have e2:=sortedIn_le hS hb (show m ≤ (a + b) / 2 + m - 1 - k by omega) (show (a + b) / 2 + m - 1 - k ≤ (a + b) / 2 + m - 1 - c by omega) (by omega)
 exact SWO.le_lt hS e2 (SWO.lt_le hS hl e1)
theorem srch3_end {d:Array α} {a m b s:Nat} (h1:a < m) (h2:m < b) (h:Srch3 lt d a m b s s) :
  a ≤ s ∧ s ≤ m ∧ s ≤ (a + b) / 2 ∧ m ≤ (a + b) / 2 + m - s ∧ (a + b) / 2 + m - s ≤ b:=by
 have hx:=lohi3 h1 h2
 have h3:=h.ls
 have h4:=h.rh
 omega
theorem srch3_cut (hS:SWO lt) {d:Array α} {a m b s:Nat} (h1:a < m) (h2:m < b) (h:Srch3 lt d a m b s s) (ha:SortedIn lt a m d) (hb:SortedIn lt m b d) :
  (∀ i j,a ≤ i → i < s → (a + b) / 2 + m - s ≤ j → j < b → lt d[j]! d[i]! = false) ∧ (∀ i j,s ≤ i → i < m → m ≤ j → j < (a + b) / 2 + m - s → lt d[j]! d[i]! = true):=by
 have hx:=lohi3 h1 h2
 have h3:=h.ls
 have h4:=h.rh
 have hl:=h.lo ha hb
 have hh:=h.hi ha hb
 constructor
 ·intro i j hi his hj hjb
  by_cases c:s = lo3 ((a + b) / 2) m a b
  ·have:b ≤ j ∨ s ≤ a:=by
    revert c;unfold lo3;split <;> omega
   omega
  ·have e0:=hl (s - 1) (by omega) (by omega)
   have e1:=sortedIn_le hS ha hi (show i ≤ s - 1 by omega) (by omega)
   have e2:=sortedIn_le hS hb (show m ≤ (a + b) / 2 + m - 1 - (s - 1) by omega) (show (a + b) / 2 + m - 1 - (s - 1) ≤ j by omega) hjb
   exact hS.ntrans _ _ _ e2 (hS.ntrans _ _ _ e0 e1)
 ·intro i j hi him hj hje
  by_cases c:s = hi3 ((a + b) / 2) m
  ·have:m ≤ i ∨ (a + b) / 2 + m - s ≤ m:=by
    revert c;unfold hi3;split <;> omega
   omega
  ·have e0:=hh s (Nat.le_refl _) (by omega)
   have e1:=sortedIn_le hS ha (show a ≤ s by omega) hi him
   have e2:=sortedIn_le hS hb hj (show j ≤ (a + b) / 2 + m - 1 - s by omega) (by omega)
   exact SWO.le_lt hS e2 (SWO.lt_le hS e0 e1)
theorem rotG_left (d:Array α) (m h k:Nat):rotG d m m h k = d[k]!:=by
 unfold rotG
 by_cases c:m ≤ k ∧ k < h
 ·rw [if_pos c,if_pos (by omega)]
  congr 1;omega
 ·rw [if_neg c]
theorem rotG_right (d:Array α) (l m k:Nat):rotG d l m m k = d[k]!:=by
 unfold rotG
 by_cases c:l ≤ k ∧ k < m
 ·rw [if_pos c,if_neg (by omega)]
  congr 1;omega
 ·rw [if_neg c]
theorem merged_left (a b:Nat) (d:Array α):Merged lt a a b d d:=⟨permIn_refl _ _ _,fun _ h => h⟩
theorem merged_right (a b:Nat) (d:Array α):Merged lt a b b d d:=⟨permIn_refl _ _ _,fun h _ => h⟩
theorem merged_sym (hS:SWO lt) {d d1 d2 d3:Array α} {a m b s mid en:Nat} (h1:a < m) (h2:m < b) (hmid:(a + b) / 2 = mid) (hen:mid + m - s = en) (hb:b ≤ d.size) (h:Srch3 lt d a m b s s)
  (hp:PermIn a b d d1) (hr:∀ q,d1[q]! = rotG d s m en q) (hL:Merged lt a s mid d1 d2) (hR:Merged lt mid en b d2 d3):Merged lt a m b d d3:=by
 subst hmid
 have hx:=srch3_end h1 h2 h
 rw [hen] at hx
 have hs1:d1.size = d.size:=hp.1
 have hs2:d2.size = d.size:=by rw [hL.1.1,hs1]
 refine ⟨permIn_trans _ _ _ _ _ hp (permIn_trans _ _ _ _ _ (permIn_mono _ _ _ _ a b (Nat.le_refl _) (by omega) (by rw [hs1];exact hb) hL.1) (permIn_mono _ _ _ _ a b (by omega) (Nat.le_refl _) (by rw [hs2];exact hb) hR.1)),fun ha hb' => ?_⟩
 obtain ⟨c1,c2⟩:=srch3_cut hS h1 h2 h ha hb'
 rw [hen] at c1 c2
 have g1:∀ q,a ≤ q → q < s → d1[q]! = d[q]!:=fun q h1 h2 => by rw [hr];unfold rotG;rw [if_neg (by omega)]
 have g2:∀ q,s ≤ q → q < (a + b) / 2 → d1[q]! = d[q + (m - s)]!:=fun q h1 h2 => by rw [hr];unfold rotG;rw [if_pos (by omega),if_pos (by omega)]
 have g3:∀ q,(a + b) / 2 ≤ q → q < en → d1[q]! = d[q - (en - m)]!:=fun q h1 h2 => by rw [hr];unfold rotG;rw [if_pos (by omega),if_neg (by omega)]
 have g4:∀ q,en ≤ q → d1[q]! = d[q]!:=fun q h1 => by rw [hr];unfold rotG;rw [if_neg (by omega)]
 have o2:∀ q,(a + b) / 2 ≤ q → d2[q]! = d1[q]!:=fun q h => hL.1.2.1 q (.inr h)
 have o3:∀ q,q < (a + b) / 2 → d3[q]! = d2[q]!:=fun q h => hR.1.2.1 q (.inl h)
 have sL:SortedIn lt a ((a + b) / 2) d2:=hL.2 (fun i j hi hij hj => by rw [g1 i hi (by omega),g1 j (by omega) hj];exact ha i j hi hij (by omega))
  (fun i j hi hij hj => by rw [g2 i hi (by omega),g2 j (by omega) hj];exact hb' _ _ (by omega) (by omega) (by omega))
 have sR:SortedIn lt ((a + b) / 2) b d3:=hR.2 (fun i j hi hij hj => by rw [o2 i (by omega),o2 j (by omega),g3 i hi (by omega),g3 j (by omega) hj];exact ha _ _ (by omega) (by omega) (by omega))
  (fun i j hi hij hj => by rw [o2 i (by omega),o2 j (by omega),g4 i hi,g4 j (by omega)];exact hb' _ _ (by omega) hij hj)
 have P1:∀ i j,a ≤ i → i < (a + b) / 2 → (a + b) / 2 ≤ j → j < b → lt d1[j]! d1[i]! = false:=fun i j hi hi2 hj hjb => by
  by_cases ci:i < s
  ·rw [g1 i hi ci]
   by_cases cj:j < en
   ·rw [g3 j hj cj]
    exact ha _ _ hi (by omega) (by omega)
   ·rw [g4 j (by omega)]
    exact c1 _ _ hi ci (by omega) hjb
  ·rw [g2 i (by omega) hi2]
   by_cases cj:j < en
   ·rw [g3 j hj cj]
    exact hS.asymm (c2 _ _ (by omega) (by omega) (by omega) (by omega))
   ·rw [g4 j (by omega)]
    exact hb' _ _ (by omega) (by omega) hjb
 have P2:∀ i j,a ≤ i → i < (a + b) / 2 → (a + b) / 2 ≤ j → j < b → lt d2[j]! d2[i]! = false:=fun i j hi hi2 hj hjb => by
  rw [o2 j hj]
  exact permIn_all d1 d2 a ((a + b) / 2) (fun x => lt d1[j]! x = false) (by omega) hL.1 (fun i hi hi2 => P1 i j hi hi2 hj hjb) i hi hi2
 have P3:∀ i j,a ≤ i → i < (a + b) / 2 → (a + b) / 2 ≤ j → j < b → lt d3[j]! d3[i]! = false:=fun i j hi hi2 hj hjb => by
  rw [o3 i hi2]
  exact permIn_all d2 d3 ((a + b) / 2) b (fun y => lt y d2[i]! = false) (by omega) hR.1 (fun j hj hjb => P2 i j hi hi2 hj hjb) j hj hjb
 intro i j hi hij hj
 by_cases ci:j < (a + b) / 2
 ·rw [o3 i (by omega),o3 j ci]
  exact sL i j hi hij ci
 ·by_cases ci2:i < (a + b) / 2
  ·exact P3 i j hi ci2 (by omega) hj
  ·exact sR i j (by omega) hij hj
end
end Go.Proofs.YtmhjpmenngjmeaaGreatDoor

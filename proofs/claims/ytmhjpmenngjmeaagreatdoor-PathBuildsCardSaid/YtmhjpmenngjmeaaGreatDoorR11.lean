/- YtmhjpmenngjmeaaGreatDoorR11: texts JE of this claim, in one. -/
import Derived.Lib.SpaceUEq
import Derived.Lib.TrimUEq
import Derived.Shelf.GgClosure.StringsIndexFunc
import Derived.Test.YtmhjpmenngjmeaaGreatDoorR5
import Derived.Test.YtmhjpmenngjmeaaGreatDoorR7
namespace Go.Proofs.YtmhjpmenngjmeaaGreatDoor
def numB (n:Nat):List UInt8:=if n < 128 then [UInt8.ofNat n] else UInt8.ofNat (n % 128 + 128) :: numB (n / 128)
termination_by n
theorem numB_small {n:Nat} (h:n < 128):numB n = [UInt8.ofNat n]:=by rw [numB,if_pos h]
theorem numB_great {n:Nat} (h:128 ≤ n):numB n = UInt8.ofNat (n % 128 + 128) :: numB (n / 128):=by rw [numB,if_neg (by omega)]
theorem u8_eq {b:UInt8} {n:Nat} (h:b.toNat = n):UInt8.ofNat n = b:=by rw [← h];exact UInt8.ofNat_toNat
theorem numGo_canon (l:List UInt8) (most:Nat):∀ f i N n j,numGo l most f i N = .inr (n,j) → ∃ m,n = N + m * 128 ^ i ∧ i < j ∧ l.drop i = numB m ++ l.drop j ∧ (0 < i → 0 < m)
 | 0,i,N,n,j,h => by cases h
 | f + 1,i,N,n,j,h => by
  unfold numGo at h
  cases hl:l[i]? with
  | none => rw [hl] at h;cases h
  | some b =>
   rw [hl] at h;dsimp only at h
   have hi:i < l.length:=(List.getElem?_eq_some_iff.1 hl).1
   have hd:l.drop i = b :: l.drop (i + 1):=by rw [List.drop_eq_getElem_cons hi,(List.getElem?_eq_some_iff.1 hl).2]
   have hb:=b.toNat_lt
   by_cases h1:128 ≤ b.toNat
   ·rw [if_pos h1] at h
    obtain ⟨m,e1,e2,e3,e4⟩:=numGo_canon l most f (i + 1) _ n j h
    have hm:=e4 (by omega)
    refine ⟨b.toNat % 128 + 128 * m,?_,by omega,?_,fun _ => by omega⟩
    ·rw [e1,Nat.pow_succ,Nat.add_mul,Nat.add_assoc];congr 2
     rw [Nat.mul_comm (128 ^ i) 128,← Nat.mul_assoc,Nat.mul_comm m 128]
    ·rw [hd,e3,numB_great (n:=b.toNat % 128 + 128 * m) (by omega)]
     have q1:(b.toNat % 128 + 128 * m) % 128 + 128 = b.toNat:=by omega
     have q2:(b.toNat % 128 + 128 * m) / 128 = m:=by omega
     rw [q1,q2,u8_eq rfl];rfl
   ·rw [if_neg h1] at h
    by_cases h2:b.toNat = 0 ∧ 0 < i
    ·rw [if_pos h2] at h;cases h
    ·rw [if_neg h2] at h
     by_cases h3:1099511627775 < N + b.toNat % 128 * 128 ^ i ∨ most < N + b.toNat % 128 * 128 ^ i
     ·rw [if_pos h3] at h;cases h
     ·rw [if_neg h3] at h
      cases h
      have hm:b.toNat % 128 = b.toNat:=by omega
      refine ⟨b.toNat,by rw [hm],by omega,?_,fun h => by omega⟩
      rw [hd,numB_small (by omega),u8_eq rfl];rfl
theorem Rd.num_sticky (r:Rd) (most:Nat) (h:r.err ≠ 0):r.num most = (r,0):=by unfold Rd.num;rw [if_pos h]
theorem Rd.raw_sticky (r:Rd) (n:Nat) (h:r.err ≠ 0):r.raw n = (r,ByteArray.empty):=by unfold Rd.raw;rw [if_pos h]
theorem Rd.text_sticky (r:Rd) (n:Nat) (h:r.err ≠ 0):r.text n = (r,ByteArray.empty):=by unfold Rd.text;rw [if_pos h]
theorem Rd.num_canon (r:Rd) (most:Nat) (h:(r.num most).1.err = 0):r.err = 0 ∧ r.left = numB (r.num most).2 ++ (r.num most).1.left ∧ r.pos < (r.num most).1.pos:=by
 have h0:r.err = 0:=by
  by_cases h0:r.err = 0
  ·exact h0
  ·rw [Rd.num_sticky _ _ h0] at h;exact absurd h h0
 refine ⟨h0,?_⟩
 unfold Rd.num at h ⊢
 rw [if_neg (by simp [h0])] at h ⊢
 cases e:numGo r.left most 6 0 0 with
 | inl x =>
  rw [e] at h
  have:=((numGo_bounds r.left most 6 0 0).1 x e).2
  exact absurd h (by show x ≠ 0;omega)
 | inr x =>
  dsimp only
  obtain ⟨m,e1,e2,e3,_⟩:=numGo_canon r.left most 6 0 0 x.1 x.2 e
  rw [Nat.pow_zero,Nat.mul_one,Nat.zero_add] at e1
  rw [List.drop_zero] at e3
  refine ⟨?_,by omega⟩
  rw [e1]
  show _ = numB m ++ r.s.data.toList.drop (r.pos + x.2)
  rw [← List.drop_drop];exact e3
theorem Rd.raw_canon (r:Rd) (n:Nat) (hf:r.fine) (h:(r.raw n).1.err = 0):r.err = 0 ∧ r.left = (r.raw n).2.data.toList ++ (r.raw n).1.left ∧ (r.raw n).2.size = n ∧ (r.raw n).1.pos = r.pos + n:=by
 have h0:r.err = 0:=by
  by_cases h0:r.err = 0
  ·exact h0
  ·rw [Rd.raw_sticky _ _ h0] at h;exact absurd h h0
 refine ⟨h0,?_⟩
 unfold Rd.raw at h ⊢
 rw [if_neg (by simp [h0])] at h ⊢
 by_cases h1:r.s.size - r.pos < n
 ·rw [if_pos h1] at h;cases h
 ·rw [if_neg h1]
  have hp:=hf.pos
  refine ⟨?_,?_,rfl⟩
  ·show r.s.data.toList.drop r.pos = (r.s.extract r.pos (r.pos + n)).data.toList ++ r.s.data.toList.drop (r.pos + n)
   rw [ByteArray.data_extract,Array.toList_extract,List.extract_eq_take_drop,← List.drop_drop,Nat.add_sub_cancel_left,List.take_append_drop]
  ·show (r.s.extract r.pos (r.pos + n)).size = n
   rw [ByteArray.size_extract];omega
theorem Rd.text_canon (r:Rd) (most:Nat) (hf:r.fine) (h:(r.text most).1.err = 0):r.err = 0 ∧ r.left = numB (r.text most).2.size ++ ((r.text most).2.data.toList ++ (r.text most).1.left) ∧ (r.text most).2.size ≤ most ∧ r.pos < (r.text most).1.pos:=by
 have h0:r.err = 0:=by
  by_cases h0:r.err = 0
  ·exact h0
  ·rw [Rd.text_sticky _ _ h0] at h;exact absurd h h0
 refine ⟨h0,?_⟩
 unfold Rd.text at h ⊢
 rw [if_neg (by simp [h0])] at h ⊢
 by_cases h1:((r.num most).1.raw (r.num most).2).1.err ≠ 0
 ·rw [if_pos h1] at h;exact absurd h h1
 ·rw [if_neg h1]
  have h2:((r.num most).1.raw (r.num most).2).1.err = 0:=by simpa using h1
  obtain ⟨a1,a2,a3,a4⟩:=Rd.raw_canon _ _ (Rd.num_fine r most hf).1 h2
  obtain ⟨_,b2,b3⟩:=Rd.num_canon r most a1
  refine ⟨?_,by rw [a3];exact (Rd.num_fine r most hf).2,by omega⟩
  rw [b2,a3,a2]
theorem idOf_raw (s:ByteArray) (h:s.size = 32):idOf s = s.data.toList:=by
 unfold idOf
 apply List.ext_getElem
 ·simp;exact h.symm
 ·intro i h1 h2
  have h3:i < s.data.size:=by simpa using h2
  simp [blk,Array.getElem?_eq_getElem h3]
theorem Rd.id_canon (r:Rd) (hf:r.fine) (h:r.id.1.err = 0):r.err = 0 ∧ r.left = r.id.2 ++ r.id.1.left ∧ r.id.1.pos = r.pos + 32:=by
 obtain ⟨h0,h1,h2,h3⟩:=Rd.raw_canon r 32 hf h
 exact ⟨h0,by show _ = idOf _ ++ _;rw [idOf_raw _ h2];exact h1,h3⟩
theorem Rd.id_fine (r:Rd) (h:r.fine):r.id.1.fine:=Rd.raw_fine r 32 h
theorem Rd.fin_zero (r:Rd) (h:r.fin = 0):r.err = 0 ∧ r.left = []:=by
 unfold Rd.fin at h
 by_cases h0:r.err = 0
 ·rw [if_neg (by simp [h0])] at h
  by_cases h1:r.pos < r.s.size
  ·rw [if_pos h1] at h;cases h
  ·exact ⟨h0,by unfold Rd.left;exact List.drop_eq_nil_of_le (by simp;omega)⟩
 ·rw [if_pos h0] at h;exact absurd h h0
theorem Rd.err4_num (r:Rd) (most:Nat) (h:r.err ≤ 4):(r.num most).1.err ≤ 4:=by
 unfold Rd.num;split
 ·exact h
 ·split
  ·rename_i e he;exact ((numGo_bounds r.left most 6 0 0).1 e he).1
  ·exact h
theorem Rd.err4_raw (r:Rd) (n:Nat) (h:r.err ≤ 4):(r.raw n).1.err ≤ 4:=by
 unfold Rd.raw;split
 ·exact h
 ·split
  ·show 3 ≤ 4;omega
  ·exact h
theorem Rd.err4_text (r:Rd) (n:Nat) (h:r.err ≤ 4):(r.text n).1.err ≤ 4:=by
 unfold Rd.text;split
 ·exact h
 ·split
  ·exact Rd.err4_raw _ _ (Rd.err4_num r n h)
  ·exact Rd.err4_raw _ _ (Rd.err4_num r n h)
theorem Rd.err4_id (r:Rd) (h:r.err ≤ 4):r.id.1.err ≤ 4:=Rd.err4_raw r 32 h
theorem Rd.text_s (r:Rd) (n:Nat):(r.text n).1.s = r.s:=by
 unfold Rd.text;split
 ·rfl
 ·split
  ·show ((r.num n).1.raw (r.num n).2).1.s = r.s;rw [Rd.raw_s,Rd.num_s]
  ·rw [Rd.raw_s,Rd.num_s]
theorem Rd.id_s (r:Rd):r.id.1.s = r.s:=Rd.raw_s r 32
end Go.Proofs.YtmhjpmenngjmeaaGreatDoor

namespace Go.Proofs.YtmhjpmenngjmeaaGreatDoor
structure Ent where
 name:ByteArray
 kind:Nat
 id:List UInt8
def Rd.entry (r:Rd):Rd × Ent:=(((r.num 2).1.text 32).1.id.1,⟨((r.num 2).1.text 32).2,(r.num 2).2,((r.num 2).1.text 32).1.id.2⟩)
def Rd.more (r:Rd):Bool:=decide (r.err = 0 ∧ r.pos < r.s.size)
def Rd.ents:Nat → Rd → Rd × List Ent
 | 0,r => (r,[])
 | f + 1,r => if r.more = true then ((Rd.ents f r.entry.1).1,r.entry.2 :: (Rd.ents f r.entry.1).2) else (r,[])
def Ent.bytes (e:Ent):List UInt8:=numB e.kind ++ (numB e.name.size ++ e.name.data.toList) ++ e.id
def treeB (l:List Ent):List UInt8:=(l.map Ent.bytes).flatten
theorem Rd.entry_fine (r:Rd) (h:r.fine):r.entry.1.fine:=Rd.id_fine _ (Rd.text_fine _ _ (Rd.num_fine r 2 h).1)
theorem Rd.entry_err4 (r:Rd) (h:r.err ≤ 4):r.entry.1.err ≤ 4:=Rd.err4_id _ (Rd.err4_text _ _ (Rd.err4_num r 2 h))
theorem Rd.entry_s (r:Rd):r.entry.1.s = r.s:=by
 show ((r.num 2).1.text 32).1.id.1.s = r.s
 rw [Rd.id_s,Rd.text_s,Rd.num_s]
theorem Rd.entry_canon (r:Rd) (hf:r.fine) (h:r.entry.1.err = 0):r.err = 0 ∧ r.left = r.entry.2.bytes ++ r.entry.1.left ∧ r.pos + 32 < r.entry.1.pos ∧ r.entry.2.name.size ≤ 32 ∧ r.entry.2.kind ≤ 2:=by
 have f1:=(Rd.num_fine r 2 hf).1
 have f2:=Rd.text_fine _ 32 f1
 obtain ⟨a0,a1,a2⟩:=Rd.id_canon _ f2 h
 obtain ⟨b0,b1,b2,b3⟩:=Rd.text_canon _ 32 f1 a0
 obtain ⟨c0,c1,c2⟩:=Rd.num_canon r 2 b0
 refine ⟨c0,?_,?_,b2,(Rd.num_fine r 2 hf).2⟩
 ·rw [c1,b1,a1];unfold Ent.bytes;simp only [List.append_assoc];rfl
 ·show r.pos + 32 < ((r.num 2).1.text 32).1.id.1.pos
  rw [a2];omega
theorem Rd.ents_canon:∀ f (r:Rd),r.fine → (r.ents f).1.err = 0 → r.err = 0 ∧ r.left = treeB (r.ents f).2 ++ (r.ents f).1.left
 | 0,r,_,h => ⟨h,by simp [Rd.ents,treeB]⟩
 | f + 1,r,hf,h => by
  unfold Rd.ents at h ⊢
  by_cases hm:r.more = true
  ·rw [if_pos hm] at h ⊢
   obtain ⟨h1,h2⟩:=Rd.ents_canon f _ (r.entry_fine hf) h
   obtain ⟨g0,g1,_⟩:=r.entry_canon hf h1
   refine ⟨g0,?_⟩
   show r.left = treeB (r.entry.2 :: (Rd.ents f r.entry.1).2) ++ _
   rw [g1,h2];simp [treeB]
  ·rw [if_neg hm] at h ⊢
   exact ⟨h,by simp [treeB]⟩
theorem Rd.ents_small:∀ f (r:Rd),r.fine → (r.ents f).1.err = 0 → ∀ e ∈ (r.ents f).2,e.name.size ≤ 32 ∧ e.kind ≤ 2
 | 0,_,_,_,e,he => by cases he
 | f + 1,r,hf,h,e,he => by
  unfold Rd.ents at h he
  by_cases hm:r.more = true
  ·rw [if_pos hm] at h he
   obtain ⟨h1,_⟩:=Rd.ents_canon f _ (r.entry_fine hf) h
   obtain ⟨_,_,_,g3,g4⟩:=r.entry_canon hf h1
   rcases List.mem_cons.1 he with rfl | h2
   ·exact ⟨g3,g4⟩
   ·exact Rd.ents_small f _ (r.entry_fine hf) h e h2
  ·rw [if_neg hm] at he;cases he
def Rd.entsN:Nat → Rd → List Ent → Rd × List Ent
 | 0,r,l => (r,l)
 | f + 1,r,l => if r.more = true then Rd.entsN f r.entry.1 (l ++ [r.entry.2]) else (r,l)
theorem Rd.entsN_eq:∀ f (r:Rd) l,r.entsN f l = ((r.ents f).1,l ++ (r.ents f).2)
 | 0,r,l => by simp [Rd.entsN,Rd.ents]
 | f + 1,r,l => by
  unfold Rd.entsN Rd.ents
  split
  ·rw [Rd.entsN_eq f];simp
  ·simp
theorem Rd.more_of (r:Rd) (h:r.err ≤ 4):r.more = decide (r.fin = 5):=by
 unfold Rd.more Rd.fin
 by_cases h0:r.err = 0
 ·by_cases h1:r.pos < r.s.size
  ·simp [h0,h1]
  ·simp [h0,h1]
 ·have:r.err ≠ 5:=by omega
  simp [h0,this]
def nameB (c:UInt8):Bool:=decide (33 ≤ c.toNat ∧ c.toNat ≤ 126 ∧ c.toNat ≠ 47)
def nameOk (s:ByteArray):Bool:=s.data.toList.all nameB && decide (1 ≤ s.size ∧ s.size ≤ 32)
def entOk (e:Ent):Bool:=nameOk e.name && decide (1 ≤ e.kind ∧ e.kind ≤ 2)
def ltB:List UInt8 → List UInt8 → Bool
 | [],[] => false
 | [],_ :: _ => true
 | _ :: _,[] => false
 | a :: x,b :: y => if a.toNat < b.toNat then true else if b.toNat < a.toNat then false else ltB x y
def entsRise:List Ent → Bool
 | a :: b :: l => ltB a.name.data.toList b.name.data.toList && entsRise (b :: l)
 | _ => true
def treeOk (l:List Ent):Bool:=l.all entOk && entsRise l && decide (l.length ≤ 32)
def rd0 (s:ByteArray):Rd:=⟨s,0,0⟩
def treeRd (s:ByteArray):Rd × List Ent:=(rd0 s).ents (s.size + 1)
def treeOf (s:ByteArray):Option (List Ent):=if (treeRd s).1.fin = 0 ∧ treeOk (treeRd s).2 = true then some (treeRd s).2 else none
theorem rd0_fine (s:ByteArray) (h:s.size ≤ 1000000):(rd0 s).fine:=⟨Nat.zero_le _,h,Nat.zero_le _⟩
theorem treeOf_canon (s:ByteArray) (hs:s.size ≤ 1000000) (h:(treeRd s).1.fin = 0):treeB (treeRd s).2 = s.data.toList:=by
 obtain ⟨h1,h2⟩:=Rd.fin_zero _ h
 have:=(Rd.ents_canon _ _ (rd0_fine s hs) h1).2
 rw [show ((rd0 s).ents (s.size + 1)).1.left = [] from h2,List.append_nil] at this
 exact this.symm
def Rd.ids:Nat → Rd → Rd × List (List UInt8)
 | 0,r => (r,[])
 | n + 1,r => ((Rd.ids n r.id.1).1,r.id.2 :: (Rd.ids n r.id.1).2)
def Rd.commit (r:Rd):Rd × (List UInt8 × List (List UInt8) × ByteArray) :=
 ((((r.id.1.num 4).1.ids (r.id.1.num 4).2).1.text 64).1,r.id.2,((r.id.1.num 4).1.ids (r.id.1.num 4).2).2,(((r.id.1.num 4).1.ids (r.id.1.num 4).2).1.text 64).2)
def commitB (c:List UInt8 × List (List UInt8) × ByteArray):List UInt8:=c.1 ++ (numB c.2.1.length ++ (c.2.1.flatten ++ (numB c.2.2.size ++ c.2.2.data.toList)))
theorem Rd.ids_fine:∀ n (r:Rd),r.fine → (r.ids n).1.fine
 | 0,_,h => h
 | n + 1,r,h => Rd.ids_fine n _ (r.id_fine h)
theorem Rd.ids_len:∀ n (r:Rd),(r.ids n).2.length = n
 | 0,_ => rfl
 | n + 1,r => by show (Rd.ids n r.id.1).2.length + 1 = n + 1;rw [Rd.ids_len n]
theorem Rd.ids_all:∀ n (r:Rd),∀ x ∈ (r.ids n).2,x.length = 32
 | 0,_,x,h => by cases h
 | n + 1,r,x,h => by
  rcases List.mem_cons.1 h with rfl | h2
  ·exact idOf_len _
  ·exact Rd.ids_all n _ x h2
theorem Rd.ids_snoc:∀ n (r:Rd),r.ids (n + 1) = ((r.ids n).1.id.1,(r.ids n).2 ++ [(r.ids n).1.id.2])
 | 0,r => rfl
 | n + 1,r => by
  show ((Rd.ids (n + 1) r.id.1).1,r.id.2 :: (Rd.ids (n + 1) r.id.1).2) = _
  rw [Rd.ids_snoc n];rfl
theorem Rd.ids_canon:∀ n (r:Rd),r.fine → (r.ids n).1.err = 0 → r.err = 0 ∧ r.left = (r.ids n).2.flatten ++ (r.ids n).1.left
 | 0,r,_,h => ⟨h,by simp [Rd.ids]⟩
 | n + 1,r,hf,h => by
  obtain ⟨h1,h2⟩:=Rd.ids_canon n _ (r.id_fine hf) h
  obtain ⟨g0,g1,_⟩:=r.id_canon hf h1
  refine ⟨g0,?_⟩
  show r.left = (r.id.2 :: (Rd.ids n r.id.1).2).flatten ++ (Rd.ids n r.id.1).1.left
  rw [g1,h2];simp
theorem Rd.commit_fine (r:Rd) (h:r.fine):r.commit.1.fine:=Rd.text_fine _ _ (Rd.ids_fine _ _ (Rd.num_fine _ 4 (r.id_fine h)).1)
theorem Rd.commit_canon (r:Rd) (hf:r.fine) (h:r.commit.1.err = 0):r.left = commitB r.commit.2 ++ r.commit.1.left:=by
 have f1:=r.id_fine hf
 have f2:=(Rd.num_fine _ 4 f1).1
 have f3:=Rd.ids_fine (r.id.1.num 4).2 _ f2
 obtain ⟨a0,a1,_⟩:=Rd.text_canon _ 64 f3 h
 obtain ⟨b0,b1⟩:=Rd.ids_canon _ _ f2 a0
 obtain ⟨c0,c1,_⟩:=Rd.num_canon _ 4 b0
 obtain ⟨_,d1,_⟩:=r.id_canon hf c0
 unfold commitB
 show r.left = (r.id.2 ++ (numB ((r.id.1.num 4).1.ids (r.id.1.num 4).2).2.length ++ _)) ++ _
 rw [Rd.ids_len,d1,c1,b1,a1]
 simp only [List.append_assoc];rfl
def parsOk (l:List (List UInt8)):Bool:=decide l.Nodup
def commitOk (c:List UInt8 × List (List UInt8) × ByteArray):Bool:=parsOk c.2.1 && decide (c.2.1.length ≤ 4 ∧ c.2.2.size ≤ 64)
def commitOf (s:ByteArray):Option (List UInt8 × List (List UInt8) × ByteArray):=if (rd0 s).commit.1.fin = 0 ∧ commitOk (rd0 s).commit.2 = true then some (rd0 s).commit.2 else none
theorem commitOf_canon (s:ByteArray) (hs:s.size ≤ 1000000) (h:(rd0 s).commit.1.fin = 0):commitB (rd0 s).commit.2 = s.data.toList:=by
 obtain ⟨h1,h2⟩:=Rd.fin_zero _ h
 have:=(rd0 s).commit_canon (rd0_fine s hs) h1
 rw [h2,List.append_nil] at this
 exact this.symm
structure Ob where
 kind:Int
 body:ByteArray
def rightOb (o:Ob):Bool:=decide (o.body.size ≤ 4096) && (if o.kind = 1 then true else if o.kind = 2 then (treeOf o.body).isSome else if o.kind = 3 then (commitOf o.body).isSome else false)
def letterOf (k:Int):UInt8:=if k = 2 then 116 else if k = 3 then 99 else 98
def frameL (o:Ob):List UInt8:=letterOf o.kind :: (numB o.body.size ++ o.body.data.toList)
end Go.Proofs.YtmhjpmenngjmeaaGreatDoor

namespace Go.Proofs.YtmhjpmenngjmeaaGreatDoor
theorem ltB_irrefl:∀ x,ltB x x = false
 | [] => rfl
 | a :: x => by unfold ltB;rw [if_neg (by omega),if_neg (by omega)];exact ltB_irrefl x
theorem ltB_trans:∀ {x y z},ltB x y = true → ltB y z = true → ltB x z = true
 | [],[],_,h,_ => by cases h
 | [],_ :: _,[],_,h => by cases h
 | [],_ :: _,_ :: _,_,_ => rfl
 | _ :: _,[],_,h,_ => by cases h
 | _ :: _,_ :: _,[],_,h => by cases h
 | a :: x,b :: y,c :: z,h,k => by
  unfold ltB at h k ⊢
  by_cases h1:a.toNat < b.toNat
  ·by_cases k1:b.toNat < c.toNat
   ·rw [if_pos (by omega)]
   ·rw [if_neg k1] at k
    by_cases k2:c.toNat < b.toNat
    ·rw [if_pos k2] at k;cases k
    ·rw [if_pos (by omega)]
  ·rw [if_neg h1] at h
   by_cases h2:b.toNat < a.toNat
   ·rw [if_pos h2] at h;cases h
   ·rw [if_neg h2] at h
    by_cases k1:b.toNat < c.toNat
    ·rw [if_pos (by omega)]
    ·rw [if_neg k1] at k
     by_cases k2:c.toNat < b.toNat
     ·rw [if_pos k2] at k;cases k
     ·rw [if_neg k2] at k
      rw [if_neg (by omega),if_neg (by omega)]
      exact ltB_trans h k
theorem ltB_total:∀ {x y},ltB x y = false → ltB y x = false → x = y
 | [],[],_,_ => rfl
 | [],_ :: _,h,_ => by cases h
 | _ :: _,[],_,h => by cases h
 | a :: x,b :: y,h,k => by
  unfold ltB at h k
  by_cases h1:a.toNat < b.toNat
  ·rw [if_pos h1] at h;cases h
  ·rw [if_neg h1] at h
   by_cases h2:b.toNat < a.toNat
   ·rw [if_pos h2] at k;cases k
   ·rw [if_neg h2] at h k
    rw [if_neg h1] at k
    rw [ltB_total h k,UInt8.toNat_inj.1 (show a.toNat = b.toNat by omega)]
theorem ltB_asymm {x y:List UInt8} (h:ltB x y = true):ltB y x = false:=by
 cases e:ltB y x with
 | false => rfl
 | true => have:=ltB_trans h e;rw [ltB_irrefl] at this;cases this
def AscL (l:List (List UInt8)):Prop:=l.Pairwise fun x y => ltB x y = true
theorem AscL.nodup {l:List (List UInt8)} (h:AscL l):l.Nodup:=h.imp fun {x y} h e => by subst e;rw [ltB_irrefl] at h;cases h
theorem ascL_ext:∀ {l m:List (List UInt8)},AscL l → AscL m → (∀ x,x ∈ l ↔ x ∈ m) → l = m
 | [],[],_,_,_ => rfl
 | [],b :: m,_,_,h => absurd ((h b).2 (by simp)) (by simp)
 | a :: l,[],_,_,h => absurd ((h a).1 (by simp)) (by simp)
 | a :: l,b :: m,hl,hm,h => by
  obtain ⟨hl1,hl2⟩:=List.pairwise_cons.1 hl
  obtain ⟨hm1,hm2⟩:=List.pairwise_cons.1 hm
  have e:a = b:=by
   rcases List.mem_cons.1 ((h a).1 (by simp)) with e | h1
   ·exact e
   ·rcases List.mem_cons.1 ((h b).2 (by simp)) with e | h2
    ·exact e.symm
    ·have:=ltB_trans (hm1 a h1) (hl1 b h2);rw [ltB_irrefl] at this;cases this
  subst e
  rw [ascL_ext hl2 hm2 fun x => ?_]
  constructor
  ·intro hx
   rcases List.mem_cons.1 ((h x).1 (List.mem_cons_of_mem _ hx)) with rfl | h1
   ·have:=hl1 x hx;rw [ltB_irrefl] at this;cases this
   ·exact h1
  ·intro hx
   rcases List.mem_cons.1 ((h x).2 (List.mem_cons_of_mem _ hx)) with rfl | h1
   ·have:=hm1 x hx;rw [ltB_irrefl] at this;cases this
   ·exact h1
def idO (o:Ob):List UInt8:=shaR (ofB (frameL o))
def rights (l:List Ob):List Ob:=l.filter rightOb
def lastS (l:List Ob) (x:List UInt8):Option Ob:=(rights l).reverse.find? fun o => decide (idO o = x)
theorem lastS_snoc (l:List Ob) (o:Ob) (x:List UInt8):lastS (l ++ [o]) x = if rightOb o = true ∧ idO o = x then some o else lastS l x:=by
 unfold lastS rights
 rw [List.filter_append,List.reverse_append]
 by_cases h:rightOb o = true
 ·rw [show [o].filter rightOb = [o] from by simp [h]]
  rw [List.reverse_singleton,List.singleton_append,List.find?_cons]
  by_cases e:idO o = x
  ·rw [decide_eq_true e,if_pos ⟨h,e⟩]
  ·rw [decide_eq_false e,if_neg (fun k => e k.2)]
 ·rw [show [o].filter rightOb = [] from by simp [h],if_neg (fun k => h k.1)];rfl
def obNe (a b:Ob):Bool:=!(decide (a.kind = b.kind) && decide (a.body = b.body))
theorem obNe_no {a b:Ob} (h:obNe a b = false):a = b:=by
 unfold obNe at h
 simp at h
 cases a;cases b;simp at h;rw [h.1,h.2]
def clashB (l:List Ob):Bool:=(List.range l.length).any fun i => (List.range i).any fun k => match l[i]?,l[k]? with
 | some a,some b => obNe a b && rightOb a && rightOb b && decide (idO a = idO b)
 | _,_ => false
theorem clash_no {l:List Ob} (h:clashB l = false) {a b:Ob} (ha:a ∈ rights l) (hb:b ∈ rights l) (e:idO a = idO b):a = b:=by
 obtain ⟨hal,har⟩:=List.mem_filter.1 ha
 obtain ⟨hbl,hbr⟩:=List.mem_filter.1 hb
 obtain ⟨i,hi,ei⟩:=List.getElem_of_mem hal
 obtain ⟨k,hk,ek⟩:=List.getElem_of_mem hbl
 have key:∀ i k (hi:i < l.length) (hk:k < i),rightOb l[i] = true → rightOb l[k] = true → idO l[i] = idO l[k] → l[i] = l[k]:=fun i k hi hk h1 h2 h3 => by
  unfold clashB at h
  have h4:=List.any_eq_false.1 h i (List.mem_range.2 hi)
  have h5:=List.any_eq_false.1 (by simpa using h4) k (List.mem_range.2 hk)
  rw [List.getElem?_eq_getElem hi,List.getElem?_eq_getElem (by omega:k < l.length)] at h5
  simp only [h1,h2,h3,decide_true,Bool.and_true] at h5
  exact obNe_no (by simpa using h5)
 rcases Nat.lt_trichotomy i k with hik | hik | hik
 ·rw [← ei,← ek];exact (key k i hk hik (by rw [ek];exact hbr) (by rw [ei];exact har) (by rw [ei,ek,e])).symm
 ·subst hik;rw [← ei,← ek]
 ·rw [← ei,← ek];exact key i k hi hik (by rw [ei];exact har) (by rw [ek];exact hbr) (by rw [ei,ek,e])
end Go.Proofs.YtmhjpmenngjmeaaGreatDoor

namespace Go.Proofs.YtmhjpmenngjmeaaGreatDoor
def badR (r:Nat):Bool:=decide (r < 33) || (decide (126 < r) || decide (r = 47))
theorem decode_hi (s:ByteArray) (pos:Nat) (h:128 ≤ (s.data.toList.getD pos 0).toNat):badR (Utf8.decode s pos).1 = true:=by
 rw [Lib.decode_N]
 have:128 ≤ (Lib.decodeN (s.data.toList.length - pos) (s.data.toList.getD pos 0).toNat (s.data.toList.getD (pos + 1) 0).toNat (s.data.toList.getD (pos + 2) 0).toNat (s.data.toList.getD (pos + 3) 0).toNat).1:=by
  rcases Lib.decodeN_cases (s.data.toList.length - pos) (s.data.toList.getD pos 0).toNat (s.data.toList.getD (pos + 1) 0).toNat (s.data.toList.getD (pos + 2) 0).toNat (s.data.toList.getD (pos + 3) 0).toNat with ⟨h1,_⟩ | ⟨_,_,_,h1,h2⟩ | ⟨_,_,_,_,h1,h2⟩ | ⟨h1,_⟩ | h2
  ·omega
  ·rw [h2];exact h1
  ·rw [h2];show 128 ≤ _;omega
  ·omega
  ·rw [h2];show 128 ≤ 65533;omega
 unfold badR
 rw [show decide (126 < (Lib.decodeN _ _ _ _ _).1) = true from decide_eq_true (by omega)]
 simp
theorem decode_lo (s:ByteArray) (pos:Nat) (h:(s.data.toList.getD pos 0).toNat < 128):Utf8.decode s pos = ((s.data.toList.getD pos 0).toNat,1):=by
 rw [Lib.decode_N,Lib.decodeN_ascii _ _ _ _ _ h]
theorem badR_byte (b:UInt8):badR b.toNat = !nameB b:=by
 unfold badR nameB
 by_cases h1:b.toNat < 33
 ·have:¬ (33 ≤ b.toNat ∧ b.toNat ≤ 126 ∧ b.toNat ≠ 47):=by omega
  simp only [decide_eq_true h1,decide_eq_false this];rfl
 ·by_cases h2:126 < b.toNat
  ·have:¬ (33 ≤ b.toNat ∧ b.toNat ≤ 126 ∧ b.toNat ≠ 47):=by omega
   simp only [decide_eq_false h1,decide_eq_true h2,decide_eq_false this];rfl
  ·by_cases h3:b.toNat = 47
   ·have:¬ (33 ≤ b.toNat ∧ b.toNat ≤ 126 ∧ b.toNat ≠ 47):=by omega
    simp only [decide_eq_false h1,decide_eq_false h2,decide_eq_true h3,decide_eq_false this];rfl
   ·have:33 ≤ b.toNat ∧ b.toNat ≤ 126 ∧ b.toNat ≠ 47:=by omega
    simp only [decide_eq_false h1,decide_eq_false h2,decide_eq_false h3,decide_eq_true this];rfl
theorem idx_names (s:ByteArray):∀ f pos,s.size - pos ≤ f → decide (0 ≤ Lib.idxFuncFrom badR true s f pos) = !(s.data.toList.drop pos).all nameB
 | 0,pos,h => by
  rw [List.drop_eq_nil_of_le (by simp;omega)];rfl
 | f + 1,pos,h => by
  unfold Lib.idxFuncFrom
  by_cases hp:pos < s.size
  ·have hpl:pos < s.data.toList.length:=by simpa using hp
   rw [if_pos hp,List.drop_eq_getElem_cons hpl,List.all_cons]
   have hg:s.data.toList.getD pos 0 = s.data.toList[pos]:=by rw [List.getD_eq_getElem?_getD,List.getElem?_eq_getElem hpl];rfl
   by_cases hb:(s.data.toList.getD pos 0).toNat < 128
   ·rw [decode_lo s pos hb]
    dsimp only
    rw [badR_byte,hg]
    cases hn:nameB s.data.toList[pos] with
    | true => rw [if_neg (by simp)];exact idx_names s f (pos + 1) (by omega)
    | false => rw [if_pos (by rfl)];rw [decide_eq_true (by omega:(0:Int) ≤ pos)];rfl
   ·rw [if_pos (decode_hi s pos (by omega)),decide_eq_true (by omega:(0:Int) ≤ pos)]
    have:nameB s.data.toList[pos] = false:=by
     unfold nameB;rw [hg] at hb;exact decide_eq_false (by omega)
    rw [this];rfl
  ·rw [if_neg hp,List.drop_eq_nil_of_le (by simp;omega)];rfl
theorem contains_bad (s:ByteArray):decide (0 ≤ Lib.idxFunc badR true s) = !s.data.toList.all nameB:=by
 have:=idx_names s s.size 0 (by omega)
 rw [List.drop_zero] at this
 exact this
def slashL:ByteArray:=⟨#[47]⟩
abbrev Lfs:=List (ByteArray × ByteArray)
def treeG (get:List UInt8 → Option Ob) (x:List UInt8):Option (List Ent):=match get x with
 | some o => if o.kind = 2 then treeOf o.body else none
 | none => none
abbrev FRes:=Sum Nat (Lfs × Nat)
def loopF (get:List UInt8 → Option Ob) (deep:Bool) (rec:List UInt8 → ByteArray → Lfs → Nat → FRes) (ahead:ByteArray):List Ent → Lfs → Nat → FRes
 | [],l,n => .inr (l,n)
 | e :: es,l,n => if deep = true then .inl 11 else if e.kind = 2 then match rec e.id (ahead ++ e.name ++ slashL) l n with
   | .inl x => .inl x
   | .inr y => loopF get deep rec ahead es y.1 y.2
  else match get e.id with
   | some b => if b.kind = 1 then (if l.length = 300 then .inl 4 else loopF get deep rec ahead es (l ++ [(ahead ++ e.name,b.body)]) n) else .inl 13
   | none => .inl 13
def walkG (get:List UInt8 → Option Ob) (deep:Bool) (rec:List UInt8 → ByteArray → Lfs → Nat → FRes) (x:List UInt8) (ahead:ByteArray) (l:Lfs) (n:Nat):FRes :=
 if 300 < n + 1 then .inl 4 else match treeG get x with
  | none => .inl 13
  | some es => loopF get deep rec ahead es l (n + 1)
def walkF (get:List UInt8 → Option Ob):Nat → List UInt8 → ByteArray → Lfs → Nat → FRes
 | 0 => walkG get true fun _ _ _ _ => .inl 4
 | d + 1 => walkG get false (walkF get d)
theorem Rd.ents_ids:∀ f (r:Rd),∀ e ∈ (r.ents f).2,e.id.length = 32
 | 0,_,e,he => by cases he
 | f + 1,r,e,he => by
  unfold Rd.ents at he
  by_cases hm:r.more = true
  ·rw [if_pos hm] at he
   rcases List.mem_cons.1 he with rfl | h2
   ·exact idOf_len _
   ·exact Rd.ents_ids f _ e h2
  ·rw [if_neg hm] at he;cases he
theorem treeOf_some {s:ByteArray} {es:List Ent} (h:treeOf s = some es):es.length ≤ 32 ∧ ∀ e ∈ es,e.id.length = 32 ∧ e.name.size ≤ 32 ∧ (e.kind = 1 ∨ e.kind = 2):=by
 unfold treeOf at h
 split at h
 ·rename_i hc
  have he:(treeRd s).2 = es:=Option.some.inj h
  have h1:=hc.2
  unfold treeOk at h1
  simp only [Bool.and_eq_true,decide_eq_true_eq,List.all_eq_true] at h1
  rw [he] at h1
  refine ⟨h1.2,fun e hm => ?_⟩
  have h2:=h1.1.1 e hm
  unfold entOk nameOk at h2
  simp only [Bool.and_eq_true,decide_eq_true_eq] at h2
  refine ⟨Rd.ents_ids (s.size + 1) (rd0 s) e (by rw [show ((rd0 s).ents (s.size + 1)).2 = es from he];exact hm),by omega,by omega⟩
 ·cases h
def filesF (get:List UInt8 → Option Ob) (x:List UInt8):Sum Nat Lfs:=match walkF get 8 x ByteArray.empty [] 0 with
 | .inl e => .inl e
 | .inr y => .inr y.1
end Go.Proofs.YtmhjpmenngjmeaaGreatDoor

namespace Go.Proofs.YtmhjpmenngjmeaaGreatDoor
end Go.Proofs.YtmhjpmenngjmeaaGreatDoor

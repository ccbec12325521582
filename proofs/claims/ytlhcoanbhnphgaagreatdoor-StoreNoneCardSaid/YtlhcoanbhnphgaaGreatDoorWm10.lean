/- A part of this claim. -/
import Derived.DeepKeys4
import Derived.Laws.Externs
import Derived.Lib.AppendStr
import Derived.Lib.Builder
import Derived.Lib.BytesEntry
import Derived.Lib.LazyBuf
import Derived.Lib.Slices
import Derived.Lib.SpaceUEq
import Derived.Lib.Strings
import Derived.Lib.TrimUEq
import Derived.Lib.UnsafeStr
import Derived.Lib.Walk
import Derived.Shelf.GgClosure.StringsIndexFunc
import Derived.Shelf.Strings.BuilderX
import Derived.Stop.BytesEq
import Derived.Test.YtlhcoanbhnphgaaGreatDoorWm1
import Derived.Test.YtlhcoanbhnphgaaGreatDoorWm6
import Derived.Test.YtlhcoanbhnphgaaGreatDoorWm8
import Derived.WideKeyArr
import Derived.WideKeyEntry
namespace Go.Proofs.YtlhcoanbhnphgaaGreatDoor
open Tryz
set_option maxHeartbeats 64000000
set_option maxRecDepth 100000
section
def numB (n:Nat):List UInt8:=if n < 128 then [UInt8.ofNat n] else UInt8.ofNat (n % 128 + 128) :: numB (n / 128)
termination_by n
theorem fu {n:Nat} (h:n < 128):numB n = [UInt8.ofNat n]:=by rw [numB,if_pos h]
theorem iI {n:Nat} (h:128 ≤ n):numB n = UInt8.ofNat (n % 128 + 128) :: numB (n / 128):=by rw [numB,if_neg (by omega)]
theorem Ki {b:UInt8} {n:Nat} (h:b.toNat = n):UInt8.ofNat n = b:=by rw [← h];exact UInt8.ofNat_toNat
theorem pY (l:List UInt8) (most:Nat):∀ f i N n j,bS l most f i N = .inr (n,j) → ∃ m,n = N + m * 128 ^ i ∧ i < j ∧ l.drop i = numB m ++ l.drop j ∧ (0 < i → 0 < m)
 | 0,i,N,n,j,h => by cases h
 | f + 1,i,N,n,j,h => by
  unfold bS at h
  cases hl:l[i]? with
  | none => rw [hl] at h;cases h
  | some b =>
   rw [hl] at h;dsimp only at h
   have hi:i < l.length:=(List.getElem?_eq_some_iff.1 hl).1
   have hd:l.drop i = b :: l.drop (i + 1):=by rw [List.drop_eq_getElem_cons hi,(List.getElem?_eq_some_iff.1 hl).2]
   have hb:=b.toNat_lt
   by_cases h1:128 ≤ b.toNat
   ·rw [if_pos h1] at h
    obtain ⟨m,e1,e2,e3,e4⟩:=pY l most f (i + 1) _ n j h
    have hm:=e4 (by omega)
    refine ⟨b.toNat % 128 + 128 * m,?_,by omega,?_,fun _ => by omega⟩
    ·rw [e1,Nat.pow_succ,Nat.add_mul,Nat.add_assoc];congr 2
     rw [Nat.mul_comm (128 ^ i) 128,← Nat.mul_assoc,Nat.mul_comm m 128]
    rw [hd,e3,iI (n:=b.toNat % 128 + 128 * m) (by omega)]
    have q1:(b.toNat % 128 + 128 * m) % 128 + 128 = b.toNat:=by omega
    have q2:(b.toNat % 128 + 128 * m) / 128 = m:=by omega
    rw [q1,q2,Ki rfl];rfl
   rw [if_neg h1] at h
   by_cases h2:b.toNat = 0 ∧ 0 < i
   ·rw [if_pos h2] at h;cases h
   rw [if_neg h2] at h
   by_cases h3:1099511627775 < N + b.toNat % 128 * 128 ^ i ∨ most < N + b.toNat % 128 * 128 ^ i
   ·rw [if_pos h3] at h;cases h
   rw [if_neg h3] at h
   cases h
   have hm:b.toNat % 128 = b.toNat:=by omega
   refine ⟨b.toNat,by rw [hm],by omega,?_,fun h => by omega⟩
   rw [hd,fu (by omega),Ki rfl];rfl
theorem Rd.Bc (r:Rd) (most:Nat) (h:r.err ≠ 0):r.num most = (r,0):=by unfold Rd.num;rw [if_pos h]
theorem Rd.AV (r:Rd) (n:Nat) (h:r.err ≠ 0):r.raw n = (r,ByteArray.empty):=by unfold Rd.raw;rw [if_pos h]
theorem Rd.yG (r:Rd) (n:Nat) (h:r.err ≠ 0):r.text n = (r,ByteArray.empty):=by unfold Rd.text;rw [if_pos h]
theorem Rd.vV (r:Rd) (most:Nat) (h:(r.num most).1.err = 0):r.err = 0 ∧ r.left = numB (r.num most).2 ++ (r.num most).1.left ∧ r.pos < (r.num most).1.pos:=by
 have h0:r.err = 0:=by
  by_cases h0:r.err = 0
  ·exact h0
  rw [Rd.Bc _ _ h0] at h;exact absurd h h0
 refine ⟨h0,?_⟩
 unfold Rd.num at h ⊢
 rw [if_neg (by simp [h0])] at h ⊢
 cases e:bS r.left most 6 0 0 with
 | inl x =>
  rw [e] at h
  have:=((fP r.left most 6 0 0).1 x e).2
  exact absurd h (by show x ≠ 0;omega)
 | inr x =>
  dsimp only
  obtain ⟨m,e1,e2,e3,_⟩:=pY r.left most 6 0 0 x.1 x.2 e
  rw [Nat.pow_zero,Nat.mul_one,Nat.zero_add] at e1
  rw [List.drop_zero] at e3
  refine ⟨?_,by omega⟩
  rw [e1]
  show _ = numB m ++ r.s.data.toList.drop (r.pos + x.2)
  rw [← List.drop_drop];exact e3
theorem Rd.vO (r:Rd) (n:Nat) (hf:r.fine) (h:(r.raw n).1.err = 0):r.err = 0 ∧ r.left = (r.raw n).2.data.toList ++ (r.raw n).1.left ∧ (r.raw n).2.size = n ∧ (r.raw n).1.pos = r.pos + n:=by
 have h0:r.err = 0:=by
  by_cases h0:r.err = 0
  ·exact h0
  rw [Rd.AV _ _ h0] at h;exact absurd h h0
 refine ⟨h0,?_⟩
 unfold Rd.raw at h ⊢
 rw [if_neg (by simp [h0])] at h ⊢
 by_cases h1:r.s.size - r.pos < n
 ·rw [if_pos h1] at h;cases h
 rw [if_neg h1]
 have hp:=hf.pos
 refine ⟨?_,?_,rfl⟩
 ·show r.s.data.toList.drop r.pos = (r.s.extract r.pos (r.pos + n)).data.toList ++ r.s.data.toList.drop (r.pos + n)
  rw [ByteArray.data_extract,Array.toList_extract,List.extract_eq_take_drop,← List.drop_drop,Nat.add_sub_cancel_left,List.take_append_drop]
 show (r.s.extract r.pos (r.pos + n)).size = n
 rw [ByteArray.size_extract];omega
theorem Rd.Au (r:Rd) (most:Nat) (hf:r.fine) (h:(r.text most).1.err = 0):r.err = 0 ∧ r.left = numB (r.text most).2.size ++ ((r.text most).2.data.toList ++ (r.text most).1.left) ∧ (r.text most).2.size ≤ most ∧ r.pos < (r.text most).1.pos:=by
 have h0:r.err = 0:=by
  by_cases h0:r.err = 0
  ·exact h0
  rw [Rd.yG _ _ h0] at h;exact absurd h h0
 refine ⟨h0,?_⟩
 unfold Rd.text at h ⊢
 rw [if_neg (by simp [h0])] at h ⊢
 by_cases h1:((r.num most).1.raw (r.num most).2).1.err ≠ 0
 ·rw [if_pos h1] at h;exact absurd h h1
 rw [if_neg h1]
 have h2:((r.num most).1.raw (r.num most).2).1.err = 0:=by simpa using h1
 obtain ⟨a1,a2,a3,a4⟩:=Rd.vO _ _ (Rd.cu r most hf).1 h2
 obtain ⟨_,b2,b3⟩:=Rd.vV r most a1
 refine ⟨?_,by rw [a3];exact (Rd.cu r most hf).2,by omega⟩
 rw [b2,a3,a2]
theorem Ia (s:ByteArray) (h:s.size = 32):idOf s = s.data.toList:=by
 unfold idOf
 apply List.ext_getElem
 ·simp;exact h.symm
 intro i h1 h2
 have h3:i < s.data.size:=by simpa using h2
 simp [blk,Array.getElem?_eq_getElem h3]
theorem Rd.H6 (r:Rd) (hf:r.fine) (h:r.id.1.err = 0):r.err = 0 ∧ r.left = r.id.2 ++ r.id.1.left ∧ r.id.1.pos = r.pos + 32:=by
 obtain ⟨h0,h1,h2,h3⟩:=Rd.vO r 32 hf h
 exact ⟨h0,by show _ = idOf _ ++ _;rw [Ia _ h2];exact h1,h3⟩
theorem Rd.qP (r:Rd) (h:r.fine):r.id.1.fine:=Rd.rZ r 32 h
theorem Rd.Iq (r:Rd) (h:r.fin = 0):r.err = 0 ∧ r.left = []:=by
 unfold Rd.fin at h
 by_cases h0:r.err = 0
 ·rw [if_neg (by simp [h0])] at h
  by_cases h1:r.pos < r.s.size
  ·rw [if_pos h1] at h;cases h
  exact ⟨h0,by unfold Rd.left;exact List.drop_eq_nil_of_le (by simp;omega)⟩
 rw [if_pos h0] at h;exact absurd h h0
theorem Rd.tT (r:Rd) (most:Nat) (h:r.err ≤ 4):(r.num most).1.err ≤ 4:=by
 unfold Rd.num;split
 ·exact h
 split
 ·rename_i e he;exact ((fP r.left most 6 0 0).1 e he).1
 exact h
theorem Rd.tQ (r:Rd) (n:Nat) (h:r.err ≤ 4):(r.raw n).1.err ≤ 4:=by
 unfold Rd.raw;split
 ·exact h
 split
 ·show 3 ≤ 4;omega
 exact h
theorem Rd.E5 (r:Rd) (n:Nat) (h:r.err ≤ 4):(r.text n).1.err ≤ 4:=by
 unfold Rd.text;split
 ·exact h
 split
 ·exact Rd.tQ _ _ (Rd.tT r n h)
 exact Rd.tQ _ _ (Rd.tT r n h)
theorem Rd.JQ (r:Rd) (h:r.err ≤ 4):r.id.1.err ≤ 4:=Rd.tQ r 32 h
theorem Rd.KQ (r:Rd) (n:Nat):(r.text n).1.s = r.s:=by
 unfold Rd.text;split
 ·rfl
 split
 ·show ((r.num n).1.raw (r.num n).2).1.s = r.s;rw [Rd.Cr,Rd.Cx]
 rw [Rd.Cr,Rd.Cx]
theorem Rd.id_s (r:Rd):r.id.1.s = r.s:=Rd.Cr r 32
structure Ent where
 name:ByteArray
 kind:Nat
 id:List UInt8
def Rd.entry (r:Rd):Rd × Ent:=(((r.num 2).1.text 32).1.id.1,⟨((r.num 2).1.text 32).2,(r.num 2).2,((r.num 2).1.text 32).1.id.2⟩)
def Rd.more (r:Rd):Bool:=decide (r.err = 0 ∧ r.pos < r.s.size)
def Rd.ents:Nat → Rd → Rd × List Ent
 | 0,r => (r,[])
 | f + 1,r => if r.more = true then ((Rd.ents f r.entry.1).1,r.entry.2 :: (Rd.ents f r.entry.1).2) else (r,[])
def Ent.bytes (e:Ent):List UInt8:=numB e.kind ++ (numB e.name.size ++ e.name.data.toList) ++ e.id
def yF (l:List Ent):List UInt8:=(l.map Ent.bytes).flatten
theorem Rd.jM (r:Rd) (h:r.fine):r.entry.1.fine:=Rd.qP _ (Rd.bX _ _ (Rd.cu r 2 h).1)
theorem Rd.BN (r:Rd) (h:r.err ≤ 4):r.entry.1.err ≤ 4:=Rd.JQ _ (Rd.E5 _ _ (Rd.tT r 2 h))
theorem Rd.JU (r:Rd):r.entry.1.s = r.s:=by
 show ((r.num 2).1.text 32).1.id.1.s = r.s
 rw [Rd.id_s,Rd.KQ,Rd.Cx]
theorem Rd.iT (r:Rd) (hf:r.fine) (h:r.entry.1.err = 0):r.err = 0 ∧ r.left = r.entry.2.bytes ++ r.entry.1.left ∧ r.pos + 32 < r.entry.1.pos ∧ r.entry.2.name.size ≤ 32 ∧ r.entry.2.kind ≤ 2:=by
 have f1:=(Rd.cu r 2 hf).1
 have f2:=Rd.bX _ 32 f1
 obtain ⟨a0,a1,a2⟩:=Rd.H6 _ f2 h
 obtain ⟨b0,b1,b2,b3⟩:=Rd.Au _ 32 f1 a0
 obtain ⟨c0,c1,c2⟩:=Rd.vV r 2 b0
 refine ⟨c0,?_,?_,b2,(Rd.cu r 2 hf).2⟩
 ·rw [c1,b1,a1];unfold Ent.bytes;simp only [List.append_assoc];rfl
 show r.pos + 32 < ((r.num 2).1.text 32).1.id.1.pos
 rw [a2];omega
theorem Rd.tX:∀ f (r:Rd),r.fine → (r.ents f).1.err = 0 → r.err = 0 ∧ r.left = yF (r.ents f).2 ++ (r.ents f).1.left
 | 0,r,_,h => ⟨h,by simp [Rd.ents,yF]⟩
 | f + 1,r,hf,h => by
  unfold Rd.ents at h ⊢
  by_cases hm:r.more = true
  ·rw [if_pos hm] at h ⊢
   obtain ⟨h1,h2⟩:=Rd.tX f _ (r.jM hf) h
   obtain ⟨g0,g1,_⟩:=r.iT hf h1
   refine ⟨g0,?_⟩
   show r.left = yF (r.entry.2 :: (Rd.ents f r.entry.1).2) ++ _
   rw [g1,h2];simp [yF]
  rw [if_neg hm] at h ⊢
  exact ⟨h,by simp [yF]⟩
theorem Rd.tV:∀ f (r:Rd),r.fine → (r.ents f).1.err = 0 → ∀ e ∈ (r.ents f).2,e.name.size ≤ 32 ∧ e.kind ≤ 2
 | 0,_,_,_,e,he => by cases he
 | f + 1,r,hf,h,e,he => by
  unfold Rd.ents at h he
  by_cases hm:r.more = true
  ·rw [if_pos hm] at h he
   obtain ⟨h1,_⟩:=Rd.tX f _ (r.jM hf) h
   obtain ⟨_,_,_,g3,g4⟩:=r.iT hf h1
   rcases List.mem_cons.1 he with rfl | h2
   ·exact ⟨g3,g4⟩
   exact Rd.tV f _ (r.jM hf) h e h2
  rw [if_neg hm] at he;cases he
def Rd.iR:Nat → Rd → List Ent → Rd × List Ent
 | 0,r,l => (r,l)
 | f + 1,r,l => if r.more = true then Rd.iR f r.entry.1 (l ++ [r.entry.2]) else (r,l)
theorem Rd.zQ:∀ f (r:Rd) l,r.iR f l = ((r.ents f).1,l ++ (r.ents f).2)
 | 0,r,l => by simp [Rd.iR,Rd.ents]
 | f + 1,r,l => by
  unfold Rd.iR Rd.ents
  split
  ·rw [Rd.zQ f];simp
  simp
theorem Rd.JB (r:Rd) (h:r.err ≤ 4):r.more = decide (r.fin = 5):=by
 unfold Rd.more Rd.fin
 by_cases h0:r.err = 0
 ·by_cases h1:r.pos < r.s.size
  ·simp [h0,h1]
  simp [h0,h1]
 have:r.err ≠ 5:=by omega
 simp [h0,this]
def lW (c:UInt8):Bool:=decide (33 ≤ c.toNat ∧ c.toNat ≤ 126 ∧ c.toNat ≠ 47)
def aQ (s:ByteArray):Bool:=s.data.toList.all lW && decide (1 ≤ s.size ∧ s.size ≤ 32)
def dV (e:Ent):Bool:=aQ e.name && decide (1 ≤ e.kind ∧ e.kind ≤ 2)
def ltB:List UInt8 → List UInt8 → Bool
 | [],[] => false
 | [],_ :: _ => true
 | _ :: _,[] => false
 | a :: x,b :: y => if a.toNat < b.toNat then true else if b.toNat < a.toNat then false else ltB x y
def kR:List Ent → Bool
 | a :: b :: l => ltB a.name.data.toList b.name.data.toList && kR (b :: l)
 | _ => true
def gW (l:List Ent):Bool:=l.all dV && kR l && decide (l.length ≤ 32)
def rd0 (s:ByteArray):Rd:=⟨s,0,0⟩
def mo (s:ByteArray):Rd × List Ent:=(rd0 s).ents (s.size + 1)
def dz (s:ByteArray):Option (List Ent):=if (mo s).1.fin = 0 ∧ gW (mo s).2 = true then some (mo s).2 else none
theorem dO (s:ByteArray) (h:s.size ≤ 1000000):(rd0 s).fine:=⟨Nat.zero_le _,h,Nat.zero_le _⟩
def Rd.ids:Nat → Rd → Rd × List (List UInt8)
 | 0,r => (r,[])
 | n + 1,r => ((Rd.ids n r.id.1).1,r.id.2 :: (Rd.ids n r.id.1).2)
def Rd.commit (r:Rd):Rd × (List UInt8 × List (List UInt8) × ByteArray) :=
 ((((r.id.1.num 4).1.ids (r.id.1.num 4).2).1.text 64).1,r.id.2,((r.id.1.num 4).1.ids (r.id.1.num 4).2).2,(((r.id.1.num 4).1.ids (r.id.1.num 4).2).1.text 64).2)
theorem Rd.kP:∀ n (r:Rd),r.fine → (r.ids n).1.fine
 | 0,_,h => h
 | n + 1,r,h => Rd.kP n _ (r.qP h)
theorem Rd.CK:∀ n (r:Rd),(r.ids n).2.length = n
 | 0,_ => rfl
 | n + 1,r => by show (Rd.ids n r.id.1).2.length + 1 = n + 1;rw [Rd.CK n]
theorem Rd.xP:∀ n (r:Rd),∀ x ∈ (r.ids n).2,x.length = 32
 | 0,_,x,h => by cases h
 | n + 1,r,x,h => by
  rcases List.mem_cons.1 h with rfl | h2
  ·exact gU _
  exact Rd.xP n _ x h2
theorem Rd.zH:∀ n (r:Rd),r.ids (n + 1) = ((r.ids n).1.id.1,(r.ids n).2 ++ [(r.ids n).1.id.2])
 | 0,r => rfl
 | n + 1,r => by
  show ((Rd.ids (n + 1) r.id.1).1,r.id.2 :: (Rd.ids (n + 1) r.id.1).2) = _
  rw [Rd.zH n];rfl
theorem Rd.Aa (r:Rd) (h:r.fine):r.commit.1.fine:=Rd.bX _ _ (Rd.kP _ _ (Rd.cu _ 4 (r.qP h)).1)
def Gu (l:List (List UInt8)):Bool:=decide l.Nodup
def dw (c:List UInt8 × List (List UInt8) × ByteArray):Bool:=Gu c.2.1 && decide (c.2.1.length ≤ 4 ∧ c.2.2.size ≤ 64)
def bH (s:ByteArray):Option (List UInt8 × List (List UInt8) × ByteArray):=if (rd0 s).commit.1.fin = 0 ∧ dw (rd0 s).commit.2 = true then some (rd0 s).commit.2 else none
structure Ob where
 kind:Int
 body:ByteArray
def aB (o:Ob):Bool:=decide (o.body.size ≤ 4096) && (if o.kind = 1 then true else if o.kind = 2 then (dz o.body).isSome else if o.kind = 3 then (bH o.body).isSome else false)
def kL (k:Int):UInt8:=if k = 2 then 116 else if k = 3 then 99 else 98
def dh (o:Ob):List UInt8:=kL o.kind :: (numB o.body.size ++ o.body.data.toList)
theorem dS:∀ x,ltB x x = false
 | [] => rfl
 | a :: x => by unfold ltB;rw [if_neg (by omega),if_neg (by omega)];exact dS x
theorem iA:∀ {x y z},ltB x y = true → ltB y z = true → ltB x z = true
 | [],[],_,h,_ => by cases h
 | [],_ :: _,[],_,h => by cases h
 | [],_ :: _,_ :: _,_,_ => rfl
 | _ :: _,[],_,h,_ => by cases h
 | _ :: _,_ :: _,[],_,h => by cases h
 | a :: x,b :: y,c :: z,h,k => by
  unfold ltB at h k ⊢
  by_cases h1:a.toNat < b.toNat
  ·by_cases k1:b.toNat < c.toNat
   ·rw [if_pos (by omega)]
   rw [if_neg k1] at k
   by_cases k2:c.toNat < b.toNat
   ·rw [if_pos k2] at k;cases k
   rw [if_pos (by omega)]
  rw [if_neg h1] at h
  by_cases h2:b.toNat < a.toNat
  ·rw [if_pos h2] at h;cases h
  rw [if_neg h2] at h
  by_cases k1:b.toNat < c.toNat
  ·rw [if_pos (by omega)]
  rw [if_neg k1] at k
  by_cases k2:c.toNat < b.toNat
  ·rw [if_pos k2] at k;cases k
  rw [if_neg k2] at k
  rw [if_neg (by omega),if_neg (by omega)]
  exact iA h k
theorem jA:∀ {x y},ltB x y = false → ltB y x = false → x = y
 | [],[],_,_ => rfl
 | [],_ :: _,h,_ => by cases h
 | _ :: _,[],_,h => by cases h
 | a :: x,b :: y,h,k => by
  unfold ltB at h k
  by_cases h1:a.toNat < b.toNat
  ·rw [if_pos h1] at h;cases h
  rw [if_neg h1] at h
  by_cases h2:b.toNat < a.toNat
  ·rw [if_pos h2] at k;cases k
  rw [if_neg h2] at h k
  rw [if_neg h1] at k
  rw [jA h k,UInt8.toNat_inj.1 (show a.toNat = b.toNat by omega)]
def AscL (l:List (List UInt8)):Prop:=l.Pairwise fun x y => ltB x y = true
theorem AscL.nodup {l:List (List UInt8)} (h:AscL l):l.Nodup:=h.imp fun {x y} h e => by subst e;rw [dS] at h;cases h
theorem Af:∀ {l m:List (List UInt8)},AscL l → AscL m → (∀ x,x ∈ l ↔ x ∈ m) → l = m
 | [],[],_,_,_ => rfl
 | [],b :: m,_,_,h => absurd ((h b).2 (by simp)) (by simp)
 | a :: l,[],_,_,h => absurd ((h a).1 (by simp)) (by simp)
 | a :: l,b :: m,hl,hm,h => by
  obtain ⟨hl1,hl2⟩:=List.pairwise_cons.1 hl
  obtain ⟨hm1,hm2⟩:=List.pairwise_cons.1 hm
  have e:a = b:=by
   rcases List.mem_cons.1 ((h a).1 (by simp)) with e | h1
   ·exact e
   rcases List.mem_cons.1 ((h b).2 (by simp)) with e | h2
   ·exact e.symm
   have:=iA (hm1 a h1) (hl1 b h2);rw [dS] at this;cases this
  subst e
  rw [Af hl2 hm2 fun x => ?_]
  constructor
  ·intro hx
   rcases List.mem_cons.1 ((h x).1 (List.mem_cons_of_mem _ hx)) with rfl | h1
   ·have:=hl1 x hx;rw [dS] at this;cases this
   exact h1
  intro hx
  rcases List.mem_cons.1 ((h x).2 (List.mem_cons_of_mem _ hx)) with rfl | h1
  ·have:=hm1 x hx;rw [dS] at this;cases this
  exact h1
def idO (o:Ob):List UInt8:=shaR (ofB (dh o))
def rights (l:List Ob):List Ob:=l.filter aB
def badR (r:Nat):Bool:=decide (r < 33) || (decide (126 < r) || decide (r = 47))
theorem Fv (s:ByteArray) (pos:Nat) (h:128 ≤ (s.data.toList.getD pos 0).toNat):badR (Utf8.decode s pos).1 = true:=by
 rw [Lib.decode_N]
 have:128 ≤ (Lib.decodeN (s.data.toList.length - pos) (s.data.toList.getD pos 0).toNat (s.data.toList.getD (pos + 1) 0).toNat (s.data.toList.getD (pos + 2) 0).toNat (s.data.toList.getD (pos + 3) 0).toNat).1:=by
  rcases Lib.decodeN_cases (s.data.toList.length - pos) (s.data.toList.getD pos 0).toNat (s.data.toList.getD (pos + 1) 0).toNat (s.data.toList.getD (pos + 2) 0).toNat (s.data.toList.getD (pos + 3) 0).toNat with ⟨h1,_⟩ | ⟨_,_,_,h1,h2⟩ | ⟨_,_,_,_,h1,h2⟩ | ⟨h1,_⟩ | h2
  ·omega
  ·rw [h2];exact h1
  ·rw [h2];show 128 ≤ _;omega
  ·omega
  rw [h2];show 128 ≤ 65533;omega
 unfold badR
 rw [show decide (126 < (Lib.decodeN _ _ _ _ _).1) = true from decide_eq_true (by omega)]
 simp
theorem Fu (s:ByteArray) (pos:Nat) (h:(s.data.toList.getD pos 0).toNat < 128):Utf8.decode s pos = ((s.data.toList.getD pos 0).toNat,1):=by
 rw [Lib.decode_N,Lib.decodeN_ascii _ _ _ _ _ h]
theorem FN (b:UInt8):badR b.toNat = !lW b:=by
 unfold badR lW
 by_cases h1:b.toNat < 33
 ·have:¬ (33 ≤ b.toNat ∧ b.toNat ≤ 126 ∧ b.toNat ≠ 47):=by omega
  simp only [decide_eq_true h1,decide_eq_false this];rfl
 by_cases h2:126 < b.toNat
 ·have:¬ (33 ≤ b.toNat ∧ b.toNat ≤ 126 ∧ b.toNat ≠ 47):=by omega
  simp only [decide_eq_false h1,decide_eq_true h2,decide_eq_false this];rfl
 by_cases h3:b.toNat = 47
 ·have:¬ (33 ≤ b.toNat ∧ b.toNat ≤ 126 ∧ b.toNat ≠ 47):=by omega
  simp only [decide_eq_false h1,decide_eq_false h2,decide_eq_true h3,decide_eq_false this];rfl
 have:33 ≤ b.toNat ∧ b.toNat ≤ 126 ∧ b.toNat ≠ 47:=by omega
 simp only [decide_eq_false h1,decide_eq_false h2,decide_eq_false h3,decide_eq_true this];rfl
theorem wB (s:ByteArray):∀ f pos,s.size - pos ≤ f → decide (0 ≤ Lib.idxFuncFrom badR true s f pos) = !(s.data.toList.drop pos).all lW
 | 0,pos,h => by
  rw [List.drop_eq_nil_of_le (by simp;omega)];rfl
 | f + 1,pos,h => by
  unfold Lib.idxFuncFrom
  by_cases hp:pos < s.size
  ·have hpl:pos < s.data.toList.length:=by simpa using hp
   rw [if_pos hp,List.drop_eq_getElem_cons hpl,List.all_cons]
   have hg:s.data.toList.getD pos 0 = s.data.toList[pos]:=by rw [List.getD_eq_getElem?_getD,List.getElem?_eq_getElem hpl];rfl
   by_cases hb:(s.data.toList.getD pos 0).toNat < 128
   ·rw [Fu s pos hb]
    dsimp only
    rw [FN,hg]
    cases hn:lW s.data.toList[pos] with
    | true => rw [if_neg (by simp)];exact wB s f (pos + 1) (by omega)
    | false => rw [if_pos (by rfl)];rw [decide_eq_true (by omega:(0:Int) ≤ pos)];rfl
   rw [if_pos (Fv s pos (by omega)),decide_eq_true (by omega:(0:Int) ≤ pos)]
   have:lW s.data.toList[pos] = false:=by
    unfold lW;rw [hg] at hb;exact decide_eq_false (by omega)
   rw [this];rfl
  rw [if_neg hp,List.drop_eq_nil_of_le (by simp;omega)];rfl
theorem jN (s:ByteArray):decide (0 ≤ Lib.idxFunc badR true s) = !s.data.toList.all lW:=by
 have:=wB s s.size 0 (by omega)
 rw [List.drop_zero] at this
 exact this
abbrev Lfs:=List (ByteArray × ByteArray)
abbrev FRes:=Sum Nat (Lfs × Nat)
theorem Rd.zP:∀ f (r:Rd),∀ e ∈ (r.ents f).2,e.id.length = 32
 | 0,_,e,he => by cases he
 | f + 1,r,e,he => by
  unfold Rd.ents at he
  by_cases hm:r.more = true
  ·rw [if_pos hm] at he
   rcases List.mem_cons.1 he with rfl | h2
   ·exact gU _
   exact Rd.zP f _ e h2
  rw [if_neg hm] at he;cases he
theorem kC {s:ByteArray} {es:List Ent} (h:dz s = some es):es.length ≤ 32 ∧ ∀ e ∈ es,e.id.length = 32 ∧ e.name.size ≤ 32 ∧ (e.kind = 1 ∨ e.kind = 2):=by
 unfold dz at h
 split at h
 ·rename_i hc
  have he:(mo s).2 = es:=Option.some.inj h
  have h1:=hc.2
  unfold gW at h1
  simp only [Bool.and_eq_true,decide_eq_true_eq,List.all_eq_true] at h1
  rw [he] at h1
  refine ⟨h1.2,fun e hm => ?_⟩
  have h2:=h1.1.1 e hm
  unfold dV aQ at h2
  simp only [Bool.and_eq_true,decide_eq_true_eq] at h2
  refine ⟨Rd.zP (s.size + 1) (rd0 s) e (by rw [show ((rd0 s).ents (s.size + 1)).2 = es from he];exact hm),by omega,by omega⟩
 cases h
end
section
open Go.RowKit
theorem bA {W w2:World} (h:Below W.drew.heap.size W.drew w2):Below W.heap.size W w2:=⟨h.os,h.tape,h.output,h.size,h.block⟩
theorem Jt {a b:ByteArray} (h:a = b):Ending.returned (.string a) = .returned (.string b):=by rw [h]
theorem bE {a b:Bool} (h:a = b):Ending.returned (.bool a) = .returned (.bool b):=by rw [h]
theorem mF (x l:List UInt8):ofB (x ++ l) = ofB x ++ ofB l:=ba_eq (by rw [pF,aX,aX,aX])
theorem Ba (s:ByteArray):ofB s.data.toList = s:=ba_eq (aX _)
theorem nM:∀ k n,n < 128 ^ (k + 1) → (numB n).length ≤ k + 1
 | 0,n,h => by rw [fu (by simpa using h)];simp
 | k + 1,n,h => by
  by_cases h1:n < 128
  ·rw [fu h1];simp
  rw [iI (by omega)]
  have:=nM k (n / 128) (by rw [Nat.pow_succ] at h;omega)
  simp;omega
def idC (x:List UInt8):List Value:=x.map fun b => .int .u8 (b.toNat:Int)
def entC (e:Ent):List Value:=[.string e.name,.int .i64 (e.kind:Int)] ++ idC e.id
def fD (w:World) (v:Value) (l:List Ent):Prop:=aS w v 34 (l.map entC)
theorem fD.below {w w':World} {v:Value} {l:List Ent} (h:fD w v l) (hb:Below w.heap.size w w'):fD w' v l:=aS.below h hb
theorem fD.open {w:World} {v:Value} {l:List Ent} (h:fD w v l):∃ ao cap,v = .slice ao l.length cap ∧ l.length ≤ maxLen ∧ (l ≠ [] → ∃ b off,ao = some ⟨b,off,none⟩ ∧ b < w.heap.size ∧ ∀ k (hk:k < l.length),w.cell? ⟨b,off + k * 34,none⟩ = some (.string l[k].name) ∧ w.cell? ⟨b,off + k * 34 + 1,none⟩ = some (.int .i64 (l[k].kind:Int)) ∧ w.rangeAt b (off + k * 34 + 2) (idC l[k].id)):=by
 obtain ⟨ao,cap,rfl,hm,h⟩:=h
 rw [List.length_map] at hm ⊢
 refine ⟨ao,cap,rfl,hm,fun hne => ?_⟩
 obtain ⟨b,off,e,hl,hc⟩:=h (by simpa using hne)
 refine ⟨b,off,e,hl,fun k hk => ?_⟩
 have:=hc k (by simpa using hk)
 rw [List.getElem_map] at this
 refine ⟨this 0 _ rfl,this 1 _ rfl,fun j u hu => ?_⟩
 have h2:=this (2 + j) u (by unfold entC;rw [List.getElem?_append_right (by simp)];simpa using hu)
 rw [show off + k * 34 + 2 + j = off + k * 34 + (2 + j) from by omega];exact h2
theorem I9:∀ x y:List UInt8,Op.bytesLess x y = ltB x y
 | [],[] => rfl
 | [],_ :: _ => rfl
 | _ :: _,[] => rfl
 | a :: x,b :: y => by
  unfold Op.bytesLess ltB
  rw [I9 x y]
  by_cases h1:a.toNat < b.toNat
  ·rw [if_pos h1,decide_eq_true (show a < b from UInt8.lt_iff_toNat_lt.2 h1)];rfl
  rw [if_neg h1,decide_eq_false (show ¬ a < b from fun h => h1 (UInt8.lt_iff_toNat_lt.1 h))]
  by_cases h2:b.toNat < a.toNat
  ·rw [if_pos h2,show (a == b) = false from beq_eq_false_iff_ne.2 (fun e => by subst e;omega)];rfl
  rw [if_neg h2,UInt8.toNat_inj.1 (show a.toNat = b.toNat by omega)];simp
theorem C8 (x y:ByteArray):Op.bytesLess x.toList y.toList = ltB x.data.toList y.data.toList:=by rw [I9,ByteArray.toList_eq,ByteArray.toList_eq]
def rowOk (l:List Ent) (k:Nat):Bool:=match l[k]? with
 | some e => dV e && (decide (k = 0) || (match l[k - 1]? with
  | some d => ltB d.name.data.toList e.name.data.toList
  | none => false))
 | none => false
theorem yX:∀ l:List Ent,(l.all dV && kR l) = (List.range l.length).all (rowOk l)
 | [] => rfl
 | [a] => by simp [kR,rowOk]
 | a :: b :: l => by
  have ih:=yX (b :: l)
  have e:(List.range (a :: b :: l).length).all (rowOk (a :: b :: l)) = (dV a && (ltB a.name.data.toList b.name.data.toList && (List.range (b :: l).length).all (rowOk (b :: l)))):=by
   rw [List.length_cons,List.range_succ_eq_map,List.all_cons,List.all_map]
   have h0:rowOk (a :: b :: l) 0 = dV a:=by simp [rowOk]
   rw [h0]
   congr 1
   rw [List.length_cons,List.range_succ_eq_map,List.all_cons,List.all_map,List.all_cons,List.all_map]
   have h1:(rowOk (a :: b :: l) ∘ Nat.succ) 0 = (dV b && ltB a.name.data.toList b.name.data.toList):=by simp [rowOk]
   have h2:rowOk (b :: l) 0 = dV b:=by simp [rowOk]
   have h3:(rowOk (a :: b :: l) ∘ Nat.succ) ∘ Nat.succ = rowOk (b :: l) ∘ Nat.succ:=by
    funext k
    show rowOk (a :: b :: l) (k + 1 + 1) = rowOk (b :: l) (k + 1)
    unfold rowOk
    simp only [List.getElem?_cons_succ,Nat.add_sub_cancel]
    simp
   rw [h1,h2,h3]
   cases dV b <;> simp
  rw [e,← ih]
  simp only [List.all_cons,kR]
  cases dV a <;> cases dV b <;> cases ltB a.name.data.toList b.name.data.toList <;> simp
theorem ku (l:List Ent):gW l = ((List.range l.length).all (rowOk l) && decide (l.length ≤ 32)):=by unfold gW;rw [yX]
theorem Aq (l:List Ent) (k:Nat) (h:k < l.length) (hb:rowOk l k = false):gW l = false:=by
 rw [ku]
 have:(List.range l.length).all (rowOk l) = false:=by rw [List.all_eq_false];exact ⟨k,List.mem_range.2 h,by simp [hb]⟩
 rw [this];rfl
theorem DU (l:List Ent) (k:Nat) (h:k < l.length) (hb:dV l[k] = false):rowOk l k = false:=by
 unfold rowOk;rw [List.getElem?_eq_getElem h];simp [hb]
theorem yV (l:List Ent) (h:0 < l.length) (hb:dV l[0] = true):rowOk l 0 = true:=by
 unfold rowOk;rw [List.getElem?_eq_getElem h];simp [hb]
theorem AQ (l:List Ent) (k:Nat) (h:k < l.length) (h0:0 < k) (hb:dV l[k] = true):rowOk l k = ltB l[k - 1].name.data.toList l[k].name.data.toList:=by
 unfold rowOk;rw [List.getElem?_eq_getElem h,List.getElem?_eq_getElem (show k - 1 < l.length by omega)]
 have:k ≠ 0:=by omega
 simp [hb,this]
theorem sO {n:Nat} (h:n ≤ 1099511627775):(numB n).length ≤ 6:=nM 5 n (by omega)
theorem au (x:List UInt8):(idC x).length = x.length:=by simp [idC]
theorem aM (x:List UInt8):∀ v ∈ idC x,v.oneCell' = true:=CO x
def obC (o:Ob):List Value:=[.int .i64 o.kind,.string o.body]
theorem eP (o:Ob):(idO o).length = 32:=by simp [idO,shaR]
theorem dZ {P:Program} {ops:Array Oper} {Q:Act → Prop} {rest:List Oper} {a:Act} {o:Oper} {w:World} {b off:Nat} {cs:List Value} (ty:TypeId) (d:TypeDesc) (x:Operand) (ho:o.op = .load ty x)
  (hw:Region.wanted o (yielded ops a.tmps) = true) (hx:a.eval x = .pointer (some ⟨b,off,none⟩)) (hr:w.rangeAt b off cs) (hb:b < w.heap.size) (hu:P.underlying ty = some d) (hd:d.isRow = true)
  (hi:(P.info? ty).map (·.size) = some cs.length) (hk:wpQuiet P ops (fun w' => ∃ x:BW w.heap.size w,w' = x.out) Q rest (a.put o.dst (.agg cs.toArray))):wpQuiet P ops (fun w' => ∃ x:BW w.heap.size w,w' = x.out) Q (o :: rest) a:=by
 unfold wpQuiet
 rw [if_pos hw]
 refine ⟨_,fun w' hw' => ?_,hk⟩
 obtain ⟨y,rfl⟩:=hw'
 unfold Oper.quietAt
 rw [uU ty d hr hb hu hd hi y.hb x ho hx]
 exact ⟨rfl,rfl⟩
def bB (w:World) (v:Value) (l:List (List UInt8)):Prop:=aS w v 32 (l.map idC)
theorem bB.below {w w':World} {v:Value} {l:List (List UInt8)} (h:bB w v l) (hb:Below w.heap.size w w'):bB w' v l:=aS.below h hb
theorem bB.open {w:World} {v:Value} {l:List (List UInt8)} (h:bB w v l):∃ ao cap,v = .slice ao l.length cap ∧ l.length ≤ maxLen ∧ (l ≠ [] → ∃ b off,ao = some ⟨b,off,none⟩ ∧ b < w.heap.size ∧ ∀ k (hk:k < l.length),w.rangeAt b (off + k * 32) (idC l[k])):=by
 obtain ⟨ao,cap,rfl,hm,h⟩:=h
 rw [List.length_map] at hm ⊢
 refine ⟨ao,cap,rfl,hm,fun hne => ?_⟩
 obtain ⟨b,off,e,hl,hc⟩:=h (by simpa using hne)
 refine ⟨b,off,e,hl,fun k hk => ?_⟩
 have:=hc k (by simpa using hk)
 rw [List.getElem_map] at this
 exact this
theorem mI {us:List Value} (h:us.length = 32):(prog.info? 42).map (·.size) = some us.length:=by rw [h];kernel_rfl
def cmC (t:List UInt8) (v:Value) (x:ByteArray):List Value:=idC t ++ [v,.string x]
theorem jP (t:List UInt8) (v:Value) (x:ByteArray) (h:t.length = 32):(cmC t v x).length = 34:=by simp [cmC,au,h]
theorem LJ (w:World):(sizeOf 5).run prog w = .ok 1 w:=by kernel_rfl
theorem lI (x y:List UInt8) (hx:x.length = 32) (hy:y.length = 32) (w:World):(Op.equalIn 10000 42 (.agg (idC x).toArray) (.agg (idC y).toArray)).run prog w = .ok (x == y) w :=
 run_equalIn_bytes w 9998 42 5 32 underlying42 underlying5 LJ x y hx hy
theorem iO {x y:List UInt8} (hx:x.length = 32) (h:x = y) (w:World):(Op.equalIn 10000 42 (.agg (idC x).toArray) (.agg (idC y).toArray)).run prog w = .ok true w:=by
 subst h;rw [lI x x hx hx w,beq_self_eq_true]
theorem tH {x y:List UInt8} (hx:x.length = 32) (hy:y.length = 32) (h:x ≠ y) (w:World):(Op.equalIn 10000 42 (.agg (idC x).toArray) (.agg (idC y).toArray)).run prog w = .ok false w:=by
 rw [lI x y hx hy w,beq_eq_false_iff_ne.2 h]
theorem Aw {α:Type} {l:List α} {k:Nat} (hk:k < l.length) (h:(l.take k).Nodup) (hn:∀ j (hj:j < k),l[j] ≠ l[k]):(l.take (k + 1)).Nodup:=by
 rw [List.take_succ_eq_append_getElem hk,List.nodup_append]
 refine ⟨h,by simp,fun a ha b hb e => ?_⟩
 obtain ⟨j,hj,ej⟩:=List.getElem_of_mem ha
 have hjk:j < k:=by simp at hj;omega
 rw [List.getElem_take] at ej
 rw [List.mem_singleton.1 hb] at e
 exact hn j hjk (ej.trans e)
theorem Ei {α:Type} {l:List α} {j k:Nat} (hj:j < k) (hk:k < l.length) (h:l[j] = l[k]):¬ l.Nodup:=fun hn => by
 have:=(List.getElem_inj hn).1 h
 omega
end
section
open Go.RowKit Go.Maps Go.WideMaps
theorem mapM_some {α β:Type} (f:α → Option β) (g:α → β):∀ l:List α,(∀ i ∈ l,f i = some (g i)) → l.mapM f = some (l.map g)
 | [],_ => rfl
 | a :: l,h => by
  rw [List.mapM_cons,h a (by simp),mapM_some f g l (fun i hi => h i (List.mem_cons_of_mem _ hi))];rfl
theorem Ib:ArrKey prog 42 5 32:=⟨underlying42,by kernel_rfl,by kernel_rfl,by kernel_rfl⟩
theorem eX:Keyed prog 42:=Keyed.of_law (ArrKey.law Ib)
theorem Ap:∃ m,prog.types.size = m + 1:=⟨prog.types.size - 1,by kernel_rfl⟩
theorem vY (d:Nat) (b:UInt8):Program.keyLits prog (d + 1) 5 [Value.int .u8 (b.toNat:Int)] = some [.int .u8 (b.toNat:Int)]:=by
 have hw:(Lit.int .u8 (b.toNat:Int)).wf = true:=by
  have:=b.toNat_lt
  simp only [Lit.wf,Bool.and_eq_true,decide_eq_true_eq]
  have e1:IntKind.u8.min = 0:=by decide
  have e2:IntKind.u8.max = 255:=by decide
  rw [e1,e2];omega
 unfold Program.keyLits
 rw [underlying5]
 simp [hw]
theorem Ht (x:List UInt8) (hx:x.length = 32):∃ l,keyOf prog 42 (.agg (idC x).toArray) = some l:=by
 have hkt:=Ib.keyType Ap
 obtain ⟨m,hm⟩:=Ap
 have hl:(idC x).length = 32:=by rw [au,hx]
 have hc32:Program.cellsOf prog 42 = 32:=by kernel_rfl
 have hc1:Program.cellsOf prog 5 = 1:=by kernel_rfl
 have hform:Value.formed prog 42 (.agg (idC x).toArray) = true:=by
  unfold Value.formed
  rw [underlying42]
  simp [hl,hc32]
 obtain ⟨mm,rfl⟩:∃ mm,m = mm + 1:=⟨m - 1,by
  have:1 < prog.types.size:=of_decide_eq_true (by kernel_rfl)
  omega⟩
 have hlits:∃ ls,Program.keyLits prog (prog.types.size + 1) 42 (idC x) = some ls:=by
  rw [hm]
  unfold Program.keyLits
  rw [underlying42]
  dsimp only
  rw [if_pos (by rw [hl,hc32]),hc1]
  rw [mapM_some _ (fun i => [Lit.int .u8 ((x.getD i 0).toNat:Int)])]
  ·exact ⟨_,rfl⟩
  intro i hi
  have hi:=List.mem_range.1 hi
  have e:((idC x).drop (i * 1)).take 1 = [Value.int .u8 ((x.getD i 0).toNat:Int)]:=by
   rw [Nat.mul_one]
   have hix:i < x.length:=by omega
   have hic:i < (idC x).length:=by omega
   rw [List.drop_eq_getElem_cons hic]
   simp [idC,hix]
  rw [e];exact vY _ _
 obtain ⟨ls,hls⟩:=hlits
 unfold keyOf
 rw [underlying42]
 dsimp only
 rw [if_pos (by rw [hkt,hform];rfl)]
 exact ⟨_,by show ((Program.keyLits prog _ _ (idC x).toArray.toList).map _) = _;rw [List.toList_toArray,hls];rfl⟩
noncomputable def keyI (x:List UInt8):Lit:=(keyOf prog 42 (.agg (idC x).toArray)).getD .nil
theorem gN {x:List UInt8} (hx:x.length = 32):keyOf prog 42 (.agg (idC x).toArray) = some (keyI x):=by
 obtain ⟨l,hl⟩:=Ht x hx
 unfold keyI;rw [hl];rfl
theorem CP:∀ {x y:List UInt8},idC x = idC y → x = y
 | [],[],_ => rfl
 | [],_ :: _,h => by simp [idC] at h
 | _ :: _,[],h => by simp [idC] at h
 | a :: x,b :: y,h => by
  unfold idC at h
  simp only [List.map_cons,List.cons.injEq] at h
  obtain ⟨h1,h2⟩:=h
  injection h1 with _ h3
  rw [CP (x:=x) (y:=y) h2,UInt8.toNat_inj.1 (show a.toNat = b.toNat by omega)]
theorem sZ {x y:List UInt8} (hx:x.length = 32) (hy:y.length = 32) (h:keyI x = keyI y):x = y:=by
 have h2:=eX.inj ((gN hx).trans (congrArg some h)) (gN hy)
 injection h2 with h3
 exact CP (by injection h3)
def cZ (v:Value):Option (DataW Value × List MemPlace):=some (.held v,[])
end
section
open Go.RowKit
def Hf (b:Nat) (w:World):Nat:=match w.cell? ⟨b,1,none⟩,w.cell? ⟨b,2,none⟩ with
 | some (.int _ p),some (.int _ e) => if e = 0 then 1000001 - p.toNat else 0
 | _,_ => 0
theorem zF {b:Nat} {w:World} {r:Rd} (h:Arr w b 3 r.c):Hf b w = if r.err = 0 then 1000001 - r.pos else 0:=by
 unfold Hf
 have c1:w.cell? ⟨b,1,none⟩ = some (.int .i64 (r.pos:Int)):=h.cell 1 (by omega)
 have c2:w.cell? ⟨b,2,none⟩ = some (.int .i64 (r.err:Int)):=h.cell 2 (by omega)
 rw [c1,c2]
 by_cases h0:r.err = 0
 ·simp [h0]
 simp [h0]
theorem Cq (w:World) (s:ByteArray) (e:TypeId):Arr (w.alloc (.cells #[.string s,.int .i64 0,.int .i64 0] e)) w.heap.size 3 (rd0 s).c :=
 (Arr.ofList w [.string s,.int .i64 0,.int .i64 0] e).congr fun k hk => by
  obtain h | h | h:k = 0 ∨ k = 1 ∨ k = 2:=by simp at hk;omega
  all_goals subst h;rfl
def entZ (k:Nat):Value:=if k = 0 then .string ByteArray.empty else if k = 1 then .int .i64 0 else .int .u8 0
theorem Fa:#[.string ⟨#[]⟩,.int .i64 0,.int .u8 0,.int .u8 0,.int .u8 0,.int .u8 0,.int .u8 0,.int .u8 0,.int .u8 0,.int .u8 0,.int .u8 0,.int .u8 0,.int .u8 0,.int .u8 0,.int .u8 0,.int .u8 0,.int .u8 0,.int .u8 0,.int .u8 0,.int .u8 0,.int .u8 0,.int .u8 0,.int .u8 0,.int .u8 0,.int .u8 0,.int .u8 0,.int .u8 0,.int .u8 0,.int .u8 0,.int .u8 0,.int .u8 0,.int .u8 0,.int .u8 0,.int .u8 0] = ((List.range 34).map entZ).toArray:=by kernel_rfl
theorem zR:∃ (zs:Array Value) (i0:TypeInfo),prog.info? 217 = some i0 ∧ i0.zero = some (.agg zs) ∧ i0.size = 34 ∧ i0.bytes = 56 ∧ (∀ w,(zeroValue 217).run prog w = .ok (.agg zs) w) ∧ (∀ w,(Instr.build 217 #[]).run prog w = .ok (.agg zs) w) ∧ zs = ((List.range 34).map entZ).toArray:=by
 have h:(prog.info? 217).map (fun i => (i.zero,i.size,i.bytes)) = some (some (.agg #[.string ⟨#[]⟩,.int .i64 0,.int .u8 0,.int .u8 0,.int .u8 0,.int .u8 0,.int .u8 0,.int .u8 0,.int .u8 0,.int .u8 0,.int .u8 0,.int .u8 0,.int .u8 0,.int .u8 0,.int .u8 0,.int .u8 0,.int .u8 0,.int .u8 0,.int .u8 0,.int .u8 0,.int .u8 0,.int .u8 0,.int .u8 0,.int .u8 0,.int .u8 0,.int .u8 0,.int .u8 0,.int .u8 0,.int .u8 0,.int .u8 0,.int .u8 0,.int .u8 0,.int .u8 0,.int .u8 0]),34,56):=by kernel_rfl
 obtain ⟨i0,hi,hz0,hz1,hz2⟩:=info_parts h
 exact ⟨#[.string ⟨#[]⟩,.int .i64 0,.int .u8 0,.int .u8 0,.int .u8 0,.int .u8 0,.int .u8 0,.int .u8 0,.int .u8 0,.int .u8 0,.int .u8 0,.int .u8 0,.int .u8 0,.int .u8 0,.int .u8 0,.int .u8 0,.int .u8 0,.int .u8 0,.int .u8 0,.int .u8 0,.int .u8 0,.int .u8 0,.int .u8 0,.int .u8 0,.int .u8 0,.int .u8 0,.int .u8 0,.int .u8 0,.int .u8 0,.int .u8 0,.int .u8 0,.int .u8 0,.int .u8 0,.int .u8 0],i0,hi,hz0,hz1,hz2,fun w => by kernel_rfl,fun w => run_build w 217 #[] _ (by kernel_rfl),Fa⟩
def entF (e:Ent) (k:Nat):Value:=(entC e).getD k undef
theorem Iy (e:Ent) (h:e.id.length = 32) (k:Nat) (hk:k < 34):(if 2 ≤ k ∧ k < 2 + (idC e.id).length then (idC e.id).getD (k - 2) undef else upd (upd entZ 1 (.int .i64 (e.kind:Int))) 0 (.string e.name) k) = entF e k:=by
 have hl:(idC e.id).length = 32:=by rw [au,h]
 rw [hl]
 unfold upd entF entC
 obtain h0 | h0 | h0:k = 0 ∨ k = 1 ∨ 2 ≤ k:=by omega
 ·subst h0;rfl
 ·subst h0;rfl
 rw [if_pos ⟨h0,by omega⟩]
 rw [List.getD_eq_getElem?_getD,List.getD_eq_getElem?_getD,List.getElem?_append_right (by simpa using h0)];rfl
theorem tY (e:Ent):∀ v ∈ entC e,v.oneCell' = true:=by
 intro v hv
 unfold entC at hv
 rcases List.mem_append.1 hv with h | h
 ·simp at h;rcases h with rfl | rfl <;> rfl
 exact aM _ v h
theorem mQ (w:World) (cs:List Value) (e:TypeId) (j:Nat) (u:Value) (h:cs[j]? = some u):(w.alloc (.cells cs.toArray e)).cell? ((⟨w.heap.size,0,none⟩:Addr).add j) = some u:=by
 rw [Addr.add_mid,Nat.zero_add,World.cell?_alloc_new];simpa using h
theorem Fb (e:Ent) (h:e.id.length = 32):(List.range 34).map (entF e) = entC e:=by
 have hl:(entC e).length = 34:=by simp [entC,au,h]
 apply List.ext_getElem
 ·simp [hl]
 intro i h1 h2
 simp [entF,h2]
def l6 (l:List Ent):List Value:=(l.map entC).flatten
theorem BL (l:List Ent) (e:Ent):l6 (l ++ [e]) = l6 l ++ entC e:=by simp [l6]
theorem E8 (r:Rd):∀ (f:Nat) (es:List Ent),r.more = false → r.iR f es = (r,es)
 | 0,_,_ => rfl
 | _ + 1,_,h => by unfold Rd.iR;rw [h];rfl
theorem JR (r : Rd) : ∀ (f : Nat) (es : List Ent), r.more = true → 0 < f → r.iR f es = r.entry.1.iR (f - 1) (es ++ [r.entry.2])
  | 0, _, _, h => by omega
  | f + 1, es, h, _ => by conv => lhs; unfold Rd.iR
                          rw [if_pos h]; rfl
theorem own_below {w w':World} {B:Nat} {e:TypeId} {sz:Nat} {v:Value} {n:Nat} {xs:List Value} (h:w.ownsRow B e sz v n xs) (hb:Below w.heap.size w w'):w'.ownsRow B e sz v n xs :=
 h.kept (aU hb none) (by cases hv:v.ownBlock <;> simp)
theorem jy {w w':World} {B b:Nat} {e:TypeId} {sz:Nat} {v:Value} {n:Nat} {xs:List Value} (h:w.ownsRow B e sz v n xs) (hg:w.grownBy w' (some b)) (hb:b < B):w'.ownsRow B e sz v n xs :=
 h.kept hg (by
  cases hv:v.ownBlock with
  | none => exact .inl rfl
  | some g => right;intro e;cases e;have:=(h.lt b hv).1;omega)
theorem own_ne {w:World} {B b:Nat} {e:TypeId} {sz:Nat} {v:Value} {n:Nat} {xs:List Value} (h:w.ownsRow B e sz v n xs) (hb:b < B):v.ownBlock = none ∨ v.ownBlock ≠ some b:=by
 cases hv:v.ownBlock with
 | none => exact .inl rfl
 | some g => right;intro e;cases e;have:=(h.lt b hv).1;omega
theorem qN {w:World} {B:Nat} {e:TypeId} {sz:Nat} {v:Value} {n:Nat} {xs:List Value} (h:w.ownsRow B e sz v n xs):v.ownBlock = none ∨ v.ownBlock ≠ some w.heap.size:=by
 cases hv:v.ownBlock with
 | none => exact .inl rfl
 | some g => right;intro e;cases e;have:=(h.lt _ hv).2;omega
theorem fO {w:World} {B b o:Nat} {e:TypeId} {sz:Nat} {v u:Value} {n:Nat} {xs:List Value} (h:w.ownsRow B e sz v n xs) (hne:v.ownBlock = none ∨ v.ownBlock ≠ some b):(w.setCell ⟨b,o,none⟩ u).ownsRow B e sz v n xs :=
 h.kept (bg (World.grownBy.refl w (some b)) u) hne
theorem sH {w:World} {B b o:Nat} {e:TypeId} {sz:Nat} {v:Value} {n:Nat} {xs us:List Value} (h:w.ownsRow B e sz v n xs) (hne:v.ownBlock = none ∨ v.ownBlock ≠ some b):(w.setCells b o us).ownsRow B e sz v n xs :=
 h.kept (aY us o w (World.grownBy.refl w (some b))) hne
theorem Arr.mJ {w w':World} {b n:Nat} {c:Nat → Value} (h:Arr w b n c) {row:Option Nat} (hg:w.grownBy w' row) (hne:row ≠ some b):Arr w' b n c :=
 ⟨fun k hk => hg.cell (h.cell k hk) (fun e => hne e.symm),fun k hk => by
  rw [World.frozen?_of_block (w:=w) (a:=⟨b,k,none⟩) (hg.block b (h.lt (by omega)) (fun e => hne e.symm))];exact h.free k hk⟩
theorem Arr.iQ {w:World} {b n B:Nat} {c:Nat → Value} (h:Arr w b n c) (hne:B ≠ b):∀ (us:List Value) (o:Nat),Arr (w.setCells B o us) b n c:=fun us o =>
 h.mJ (aY us o w (World.grownBy.refl w (some B))) (fun e => hne (Option.some.inj e))
theorem BM (r:Rd) (hf:r.fine):(if r.entry.1.err = 0 then 1000001 - r.entry.1.pos else 0) < 1000001 - r.pos:=by
 have h1:=hf.pos
 have h2:=hf.size
 split
 ·rename_i h
  obtain ⟨_,_,h3,_⟩:=r.iT hf h
  omega
 omega
def zid:List UInt8:=List.replicate 32 0
theorem aV:zid.length = 32:=by simp [zid]
theorem IV:#[.int .u8 0,.int .u8 0,.int .u8 0,.int .u8 0,.int .u8 0,.int .u8 0,.int .u8 0,.int .u8 0,.int .u8 0,.int .u8 0,.int .u8 0,.int .u8 0,.int .u8 0,.int .u8 0,.int .u8 0,.int .u8 0,.int .u8 0,.int .u8 0,.int .u8 0,.int .u8 0,.int .u8 0,.int .u8 0,.int .u8 0,.int .u8 0,.int .u8 0,.int .u8 0,.int .u8 0,.int .u8 0,.int .u8 0,.int .u8 0,.int .u8 0,.int .u8 0,.slice none 0 0,.string ⟨#[]⟩] = (cmC zid (.slice none 0 0) ⟨#[]⟩).toArray:=by kernel_rfl
theorem JZ:∃ zs:Array Value,(∀ w,(zeroValue 141).run prog w = .ok (.agg zs) w) ∧ (∀ w,(Instr.build 141 #[]).run prog w = .ok (.agg zs) w) ∧ zs = (cmC zid (.slice none 0 0) ⟨#[]⟩).toArray :=
 ⟨#[.int .u8 0,.int .u8 0,.int .u8 0,.int .u8 0,.int .u8 0,.int .u8 0,.int .u8 0,.int .u8 0,.int .u8 0,.int .u8 0,.int .u8 0,.int .u8 0,.int .u8 0,.int .u8 0,.int .u8 0,.int .u8 0,.int .u8 0,.int .u8 0,.int .u8 0,.int .u8 0,.int .u8 0,.int .u8 0,.int .u8 0,.int .u8 0,.int .u8 0,.int .u8 0,.int .u8 0,.int .u8 0,.int .u8 0,.int .u8 0,.int .u8 0,.int .u8 0,.slice none 0 0,.string ⟨#[]⟩],fun w => by kernel_rfl,fun w => run_build w 141 #[] _ (by kernel_rfl),IV⟩
theorem dH:∃ (zs:Array Value) (i0:TypeInfo),prog.info? 42 = some i0 ∧ i0.zero = some (.agg zs) ∧ i0.size = 32 ∧ i0.bytes = 32 ∧ (∀ w,(zeroValue 42).run prog w = .ok (.agg zs) w) ∧ zs.size = 32:=by
 have h:(prog.info? 42).map (fun i => (i.zero,i.size,i.bytes)) = some (some (.agg #[.int .u8 0,.int .u8 0,.int .u8 0,.int .u8 0,.int .u8 0,.int .u8 0,.int .u8 0,.int .u8 0,.int .u8 0,.int .u8 0,.int .u8 0,.int .u8 0,.int .u8 0,.int .u8 0,.int .u8 0,.int .u8 0,.int .u8 0,.int .u8 0,.int .u8 0,.int .u8 0,.int .u8 0,.int .u8 0,.int .u8 0,.int .u8 0,.int .u8 0,.int .u8 0,.int .u8 0,.int .u8 0,.int .u8 0,.int .u8 0,.int .u8 0,.int .u8 0]),32,32):=by kernel_rfl
 obtain ⟨i0,hi,hz0,hz1,hz2⟩:=info_parts h
 exact ⟨#[.int .u8 0,.int .u8 0,.int .u8 0,.int .u8 0,.int .u8 0,.int .u8 0,.int .u8 0,.int .u8 0,.int .u8 0,.int .u8 0,.int .u8 0,.int .u8 0,.int .u8 0,.int .u8 0,.int .u8 0,.int .u8 0,.int .u8 0,.int .u8 0,.int .u8 0,.int .u8 0,.int .u8 0,.int .u8 0,.int .u8 0,.int .u8 0,.int .u8 0,.int .u8 0,.int .u8 0,.int .u8 0,.int .u8 0,.int .u8 0,.int .u8 0,.int .u8 0],i0,hi,hz0,hz1,hz2,fun w => by kernel_rfl,rfl⟩
def cmF (t:List UInt8) (v:Value) (x:ByteArray) (k:Nat):Value:=(cmC t v x).getD k undef
theorem um {t:List UInt8} (h:t.length = 32) (v:Value) (x:ByteArray) {k:Nat} (hk:k < 32):cmF t v x k = (idC t).getD k undef:=by
 unfold cmF cmC
 rw [List.getD_eq_getElem?_getD,List.getD_eq_getElem?_getD,List.getElem?_append_left (by rw [au,h];exact hk)]
theorem mO {t:List UInt8} (h:t.length = 32) (v:Value) (x:ByteArray):cmF t v x 32 = v:=by
 unfold cmF cmC
 rw [List.getD_eq_getElem?_getD,List.getElem?_append_right (by rw [au,h];exact Nat.le_refl _),au,h];rfl
theorem pz {t:List UInt8} (h:t.length = 32) (v:Value) (x:ByteArray):cmF t v x 33 = .string x:=by
 unfold cmF cmC
 rw [List.getD_eq_getElem?_getD,List.getElem?_append_right (by rw [au,h];omega),au,h];rfl
theorem L8 {t:List UInt8} (h:t.length = 32) (v u:Value) (x:ByteArray):∀ k,k < 34 → upd (cmF t v x) 32 u k = cmF t u x k:=by
 intro k hk
 unfold upd
 by_cases e:k = 32
 ·subst e;rw [if_pos rfl,mO h]
 rw [if_neg e]
 by_cases hl:k < 32
 ·rw [um h _ _ hl,um h _ _ hl]
 obtain rfl:k = 33:=by omega
 rw [pz h,pz h]
theorem LZ {t:List UInt8} (h:t.length = 32) (v:Value) (x y:ByteArray):∀ k,k < 34 → upd (cmF t v x) 33 (.string y) k = cmF t v y k:=by
 intro k hk
 unfold upd
 by_cases e:k = 33
 ·subst e;rw [if_pos rfl,pz h]
 rw [if_neg e]
 by_cases hl:k < 32
 ·rw [um h _ _ hl,um h _ _ hl]
 obtain rfl:k = 32:=by omega
 rw [mO h,mO h]
theorem L9 {t d:List UInt8} (h:t.length = 32) (hd:d.length = 32) (v:Value) (x:ByteArray):∀ k,k < 34 → (if 0 ≤ k ∧ k < 0 + (idC d).length then (idC d).getD (k - 0) undef else cmF t v x k) = cmF d v x k:=by
 intro k hk
 have hl:(idC d).length = 32:=by rw [au,hd]
 rw [hl]
 by_cases hlo:k < 32
 ·rw [if_pos ⟨by omega,by omega⟩,um hd _ _ hlo,Nat.sub_zero]
 rw [if_neg (by omega)]
 obtain e | e:k = 32 ∨ k = 33:=by omega
 ·subst e;rw [mO h,mO hd]
 subst e;rw [pz h,pz hd]
theorem IW {t:List UInt8} (h:t.length = 32) (v:Value) (x:ByteArray):(List.range 34).map (cmF t v x) = cmC t v x:=by
 have hl:(cmC t v x).length = 34:=jP t v x h
 apply List.ext_getElem
 ·simp [hl]
 intro i h1 h2
 simp [cmF,h2]
theorem J2 (w:World) {t:List UInt8} (h:t.length = 32) (v:Value) (x:ByteArray) (e:TypeId):Arr (w.alloc (.cells (cmC t v x).toArray e)) w.heap.size 34 (cmF t v x):=by
 have:=Arr.ofList w (cmC t v x) e
 rw [jP t v x h] at this
 exact this
theorem CW (t:List UInt8) (a:Option Addr) (n c:Nat) (x:ByteArray):∀ v ∈ cmC t (.slice a n c) x,v.oneCell' = true:=by
 intro v hv
 unfold cmC at hv
 rcases List.mem_append.1 hv with h | h
 ·exact aM _ v h
 simp at h;rcases h with rfl | rfl <;> rfl
def idsF (l:List (List UInt8)):List Value:=(l.map idC).flatten
theorem lG (l:List (List UInt8)) (x:List UInt8):idsF (l ++ [x]) = idsF l ++ idC x:=by simp [idsF]
end
section
open Go.RowKit Go.Maps Go.WideMaps
theorem zx {α β:Type} (f:α → Option β):∀ (l:List α) (r:List β),l.mapM f = some r → ∀ a ∈ l,∃ y,f a = some y
 | [],_,_,a,ha => by cases ha
 | b :: l,r,h,a,ha => by
  rw [List.mapM_cons] at h
  cases hb:f b with
  | none => rw [hb] at h;cases h
  | some y =>
   rw [hb] at h
   rcases List.mem_cons.1 ha with rfl | ha
   ·exact ⟨y,hb⟩
   cases hl:l.mapM f with
   | none => rw [hl] at h;cases h
   | some r' => exact zx f l r' hl a ha
theorem I4 {d:Nat} {v:Value} {ls:List Lit} (h:Program.keyLits prog (d + 1) 5 [v] = some ls):∃ b:UInt8,v = .int .u8 (b.toNat:Int):=by
 unfold Program.keyLits at h
 rw [underlying5] at h
 cases v with
 | int q n =>
  dsimp only at h
  by_cases hc:q = .u8 ∧ (Lit.int .u8 n).wf = true
  ·obtain ⟨rfl,hw⟩:=hc
   simp only [Lit.wf,Bool.and_eq_true,decide_eq_true_eq] at hw
   have e1:IntKind.u8.min = 0:=by decide
   have e2:IntKind.u8.max = 255:=by decide
   rw [e1,e2] at hw
   refine ⟨UInt8.ofNat n.toNat,?_⟩
   have:(UInt8.ofNat n.toNat).toNat = n.toNat:=by
    rw [UInt8.toNat_ofNat'];omega
   rw [this]
   congr 1
   omega
  rw [if_neg hc] at h;cases h
 | _ => cases h
theorem Ic:∀ cs:List Value,(∀ v ∈ cs,∃ b:UInt8,v = .int .u8 (b.toNat:Int)) → ∃ x,idC x = cs
 | [],_ => ⟨[],rfl⟩
 | v :: cs,h => by
  obtain ⟨b,rfl⟩:=h v (by simp)
  obtain ⟨x,hx⟩:=Ic cs fun v hv => h v (List.mem_cons_of_mem _ hv)
  exact ⟨b :: x,by rw [← hx];rfl⟩
theorem xL {v:Value} {kl:Lit} (h:keyOf prog 42 v = some kl):∃ x:List UInt8,x.length = 32 ∧ v = .agg (idC x).toArray:=by
 have hc32:Program.cellsOf prog 42 = 32:=by kernel_rfl
 have hc1:Program.cellsOf prog 5 = 1:=by kernel_rfl
 obtain ⟨m,hm⟩:=Ap
 obtain ⟨mm,rfl⟩:∃ mm,m = mm + 1:=⟨m - 1,by
  have:1 < prog.types.size:=of_decide_eq_true (by kernel_rfl)
  omega⟩
 unfold keyOf at h
 rw [underlying42] at h
 dsimp only at h
 split at h
 ·rename_i hf
  rw [Bool.and_eq_true] at hf
  have hf2:=hf.2
  unfold Value.formed at hf2
  rw [underlying42] at hf2
  cases v with
  | agg cs =>
   dsimp only at hf2
   have hs:cs.size = 32:=by rw [hc32] at hf2;simpa using hf2
   cases hk:Program.keyLits prog (prog.types.size + 1) 42 (Value.agg cs).cells.toList with
   | none => rw [hk] at h;cases h
   | some ls =>
    rw [hm] at hk
    unfold Program.keyLits at hk
    rw [underlying42] at hk
    dsimp only at hk
    have hl:(Value.agg cs).cells.toList.length = 32:=by show cs.toList.length = 32;simpa using hs
    rw [if_pos (by rw [hl,hc32]),hc1] at hk
    cases hmm:(List.range 32).mapM fun i => Program.keyLits prog (mm + 1 + 1) 5 (((Value.agg cs).cells.toList.drop (i * 1)).take 1) with
    | none => rw [hmm] at hk;cases hk
    | some r =>
     have key:∀ v ∈ cs.toList,∃ b:UInt8,v = .int .u8 (b.toNat:Int):=fun v hv => by
      obtain ⟨i,hi,rfl⟩:=List.getElem_of_mem hv
      obtain ⟨y,hy⟩:=zx _ _ _ hmm i (List.mem_range.2 (by simpa [hs] using hi))
      have e:((Value.agg cs).cells.toList.drop (i * 1)).take 1 = [cs.toList[i]]:=by
       show (cs.toList.drop (i * 1)).take 1 = _
       rw [Nat.mul_one,List.drop_eq_getElem_cons hi];rfl
      rw [e] at hy
      exact I4 hy
     obtain ⟨x,hx⟩:=Ic _ key
     refine ⟨x,?_,?_⟩
     ·rw [← au x,hx];simpa using hs
     rw [hx]
  | _ => cases hf2
 cases h
section
variable {α:Type} {enc:α → Value}
def uJ (enc:α → Value) (D:DataW Value) (f:Idl → Option α):Prop :=
 ∀ x,x.length = 32 → Maps.has D (keyI x) = (f x).isSome ∧ ∀ o,f x = some o → ∀ zd,D.atKey (keyI x) zd = .held (enc o)
def MapG (enc:α → Value) (w:World) (b n:Nat) (f:Idl → Option α):Prop:=∃ D:DataW Value,w.ownsMap prog 42 cZ b n D ∧ uJ enc D f
theorem rR:uJ enc (.map []) fun _ => none:=fun _ _ => ⟨rfl,fun _ h => by cases h⟩
theorem oV {D:DataW Value} {f:Idl → Option α} (h:uJ enc D f) (hm:IsMap D) (p:Idl) (hp:p.length = 32) (o:α):uJ enc (D.put (keyI p) (.held (enc o))) fun q => if q = p then some o else f q:=by
 intro q hq
 show has _ _ = (if q = p then some o else f q).isSome ∧ ∀ t,(if q = p then some o else f q) = some t → ∀ zd,_ = _
 have hk:=eX.key (gN hp)
 by_cases e:q = p
 ·subst e
  rw [if_pos rfl]
  exact ⟨by rw [has_put_same hm hk];rfl,fun t ht zd => by cases ht;exact atKey_put_same hm hk _ _⟩
 rw [if_neg e]
 have hne:keyI q ≠ keyI p:=fun h => e (sZ hq hp h)
 exact ⟨by rw [has_put_other hne];exact (h q hq).1,fun t ht zd => by rw [atKey_put_other hne];exact (h q hq).2 t ht zd⟩
theorem DT {D:DataW Value} {f:Idl → Option α} (h:uJ enc D f) (p:Idl) (hp:p.length = 32):uJ enc (D.del (keyI p)) fun q => if q = p then none else f q:=by
 intro q hq
 show has _ _ = (if q = p then none else f q).isSome ∧ ∀ t,(if q = p then none else f q) = some t → ∀ zd,_ = _
 by_cases e:q = p
 ·subst e
  rw [if_pos rfl]
  exact ⟨has_del_same,fun t ht => by cases ht⟩
 rw [if_neg e]
 have hne:keyI q ≠ keyI p:=fun h => e (sZ hq hp h)
 exact ⟨by rw [has_del_other hne];exact (h q hq).1,fun t ht zd => by rw [atKey_del_other hne];exact (h q hq).2 t ht zd⟩
theorem MapG.lt {w:World} {b n:Nat} {f:Idl → Option α} (h:MapG enc w b n f):b < w.heap.size:=by obtain ⟨D,h,_⟩:=h;exact h.lt
theorem MapG.heap {w w':World} {b n:Nat} {f:Idl → Option α} (h:MapG enc w b n f) (hb:w'.heap[b]? = w.heap[b]?):MapG enc w' b n f:=by
 obtain ⟨D,⟨es,clock,h1,h2⟩,h3⟩:=h
 exact ⟨D,⟨es,clock,hb.trans h1,h2⟩,h3⟩
theorem MapG.below {w w':World} {b n B:Nat} {f:Idl → Option α} (h:MapG enc w b n f) (hb:Below B w w') (hB:b < B):MapG enc w' b n f:=h.heap (hb.block b hB)
theorem MapG.on {w w':World} {b n:Nat} {f:Idl → Option α} (h:MapG enc w b n f) (hb:Below w.heap.size w w'):MapG enc w' b n f:=h.below hb h.lt
theorem MapG.grown {w w':World} {b n:Nat} {f:Idl → Option α} {row:Option Nat} (h:MapG enc w b n f) (hg:w.grownBy w' row) (hne:some b ≠ row):MapG enc w' b n f:=h.heap (hg.block b h.lt hne)
theorem Et (w:World):MapG enc (w.alloc (.map #[] 0)) w.heap.size 0 fun _ => none:=⟨_,World.ownsMap_made _ _ _ _,rR⟩
theorem MapG.ext {w:World} {b n:Nat} {f g:Idl → Option α} (h:MapG enc w b n f) (hfg:∀ x,x.length = 32 → f x = g x):MapG enc w b n g:=by
 obtain ⟨D,h1,h2⟩:=h
 exact ⟨D,h1,fun x hx => by rw [← hfg x hx];exact h2 x hx⟩
theorem MapG.look_ok {w:World} {t e:TypeId} (ht:prog.underlying t = some (.map 42 e)) {z:Value} (hz:(zeroValue e).run prog w = .ok z w) {b n:Nat} {f:Idl → Option α} (h:MapG enc w b n f) {x:Idl} (hx:x.length = 32) :
  (Instr.lookup t (.map (some b)) (.agg (idC x).toArray) true).run prog w = .ok (.tuple #[((f x).map enc).getD z,.bool (f x).isSome]) w:=by
 obtain ⟨D,hown,hs⟩:=h
 obtain ⟨v,ps,hrun,hv⟩:=hown.look_ok eX ht hz (zd:=.held z) (zp:=[]) rfl (gN hx)
 rw [hrun]
 obtain ⟨h1,h2⟩:=hs x hx
 have hv2:D.atKey (keyI x) (.held z) = .held v:=by
  unfold cZ at hv
  injection hv with hv
  exact (congrArg Prod.fst hv).symm
 rw [h1]
 cases e:f x with
 | none =>
  rw [e] at h1
  rw [atKey_of_not_has h1] at hv2
  injection hv2 with h
  rw [← h];rfl
 | some o =>
  rw [h2 o e] at hv2
  injection hv2 with h
  rw [← h];rfl
theorem MapG.look {w:World} {t e:TypeId} (ht:prog.underlying t = some (.map 42 e)) {z:Value} (hz:(zeroValue e).run prog w = .ok z w) {b n:Nat} {f:Idl → Option α} (h:MapG enc w b n f) {x:Idl} (hx:x.length = 32) :
  (Instr.lookup t (.map (some b)) (.agg (idC x).toArray) false).run prog w = .ok (((f x).map enc).getD z) w:=by
 obtain ⟨D,hown,hs⟩:=h
 obtain ⟨v,ps,hrun,hv⟩:=hown.lookup eX ht hz (zd:=.held z) (zp:=[]) rfl (gN hx)
 rw [hrun]
 obtain ⟨h1,h2⟩:=hs x hx
 have hv2:D.atKey (keyI x) (.held z) = .held v:=by
  unfold cZ at hv
  injection hv with hv
  exact (congrArg Prod.fst hv).symm
 cases e:f x with
 | none =>
  rw [e] at h1
  rw [atKey_of_not_has h1] at hv2
  injection hv2 with h
  rw [← h];rfl
 | some o =>
  rw [h2 o e] at hv2
  injection hv2 with h
  rw [← h];rfl
theorem bR {w:World} {ops:Array Oper} {rest:List Oper} {o:Oper} {a:Act} {Q:Exit → Act → World → Prop} (hg:o.guard = none) (m x v:Operand) (t e:TypeId) (hop:o.op = Op.mapUpdate t m x v)
  (ht:prog.underlying t = some (.map 42 e)) (b n:Nat) (f:Idl → Option α) (hm:a.eval m = .map (some b)) (hown:MapG enc w b n f) (p:Idl) (hp:p.length = 32) (c:α) (hx:a.eval x = .agg (idC p).toArray) (hv:a.eval v = enc c) (hn:n < maxLen)
  (hK:∀ w',MapG enc w' b (n + 1) (fun q => if q = p then some c else f q) → w.grownBy w' (some b) → wpList prog ops Q rest (a.put o.dst undef) w'):wpList prog ops Q (o :: rest) a w:=by
 obtain ⟨D,hown,hD⟩:=hown
 exact wpList_mapUpdate_own w hg m x v t hop 42 e eX ht cZ b n D hm hown hn (.agg (idC p).toArray) (enc c) (keyI p) hx hv (gN hp) _ [] rfl fun w' h1 h2 => hK w' ⟨_,h1,oV hD hown.isMap p hp c⟩ h2
theorem qG {w:World} {ops:Array Oper} {rest:List Oper} {o:Oper} {a:Act} {Q:Exit → Act → World → Prop} (hg:o.guard = none) (m x:Operand) (t e:TypeId) (hop:o.op = Op.call { callee:=Callee.builtin Builtin.delete,args:=#[m,x],argTypes:=#[t,42] })
  (ht:prog.underlying t = some (.map 42 e)) (b n:Nat) (f:Idl → Option α) (hm:a.eval m = .map (some b)) (hown:MapG enc w b n f) (p:Idl) (hp:p.length = 32) (hx:a.eval x = .agg (idC p).toArray)
  (hK:∀ w',MapG enc w' b n (fun q => if q = p then none else f q) → w.grownBy w' (some b) → wpList prog ops Q rest (a.put o.dst (.tuple #[])) w'):wpList prog ops Q (o :: rest) a w:=by
 obtain ⟨D,hown,hD⟩:=hown
 exact wpList_delete_own w hg m x t 42 hop e eX ht cZ b n D hm hown (.agg (idC p).toArray) (keyI p) hx (gN hp) fun w' h1 h2 => hK w' ⟨_,h1,DT hD p hp⟩ h2.grown
structure bJ (enc:α → Value) (w:World) (b r n:Nat) (f:Idl → Option α) (L:List Idl):Prop where
 run:∃ (D:DataW Value) (left:Lit → Bool) (cnt:Nat),w.ranges prog 42 cZ b r n D left cnt ∧ uJ enc D f ∧ ∀ x,x.length = 32 → (left (keyI x) = true ↔ x ∈ L)
 nodup:L.Nodup
 len:∀ x ∈ L,x.length = 32
 there:∀ x ∈ L,(f x).isSome = true
theorem bJ.map {w:World} {b r n:Nat} {f:Idl → Option α} {L:List Idl} (h:bJ enc w b r n f L):MapG enc w b n f:=by
 obtain ⟨D,left,cnt,h1,h2,_⟩:=h.run
 exact ⟨D,h1.owns,h2⟩
theorem bJ.ne {w:World} {b r n:Nat} {f:Idl → Option α} {L:List Idl} (h:bJ enc w b r n f L):r ≠ b:=by
 obtain ⟨D,left,cnt,h1,_⟩:=h.run;exact h1.ne
theorem bJ.lt {w:World} {b r n:Nat} {f:Idl → Option α} {L:List Idl} (h:bJ enc w b r n f L):r < w.heap.size:=by
 obtain ⟨D,left,cnt,h1,_⟩:=h.run;exact h1.lt
theorem bJ.heap {w w':World} {b r n:Nat} {f:Idl → Option α} {L:List Idl} (h:bJ enc w b r n f L) (hb:w'.heap[b]? = w.heap[b]?) (hr:w'.heap[r]? = w.heap[r]?):bJ enc w' b r n f L:=by
 obtain ⟨⟨D,left,cnt,⟨es,clock,since,seen,c0,h1,F,hs,hD,h2,rest⟩,h3,h4⟩,k1,k2,k3⟩:=h
 exact ⟨⟨D,left,cnt,⟨es,clock,since,seen,c0,hb.trans h1,F,hs,hD,hr.trans h2,rest⟩,h3,h4⟩,k1,k2,k3⟩
theorem bJ.on {w w':World} {b r n:Nat} {f:Idl → Option α} {L:List Idl} (h:bJ enc w b r n f L) (hb:Below w.heap.size w w'):bJ enc w' b r n f L:=h.heap (hb.block b h.map.lt) (hb.block r h.lt)
theorem bJ.grown {w w':World} {b r n:Nat} {f:Idl → Option α} {L:List Idl} {row:Option Nat} (h:bJ enc w b r n f L) (hg:w.grownBy w' row) (hb:some b ≠ row) (hr:some r ≠ row):bJ enc w' b r n f L:=h.heap (hg.block b h.map.lt hb) (hg.block r h.lt hr)
theorem kH {w w':World} {b r:Nat} (hb:w'.heap[b]? = w.heap[b]?) (hr:w'.heap[r]? = w.heap[r]?):w'.rangeLeft b r = w.rangeLeft b r:=by unfold World.rangeLeft;rw [hb,hr]
end
end
section
open Go.RowKit Go.Maps Go.WideMaps Go.WideElems Go.ChangeMaps
theorem wC:KeyLaw prog 42:=ArrKey.law Ib
section
variable {α:Type} {enc:α → Value}
theorem sK {β:Type} {p q:β} {w v:World} (h:(Result.ok p w:Result β) = .ok q v):p = q ∧ w = v:=by cases h;exact ⟨rfl,rfl⟩
theorem jD {w:World} {b:Nat} {es:Array MapEntry} {clock:Nat} (hb:w.heap[b]? = some (.map es clock)) (o:Obj):w.grownBy (setBlock w b o) (some b) :=
 ⟨rfl,rfl,rfl,by simp [setBlock],fun i _ hi => heap_setBlock_other hb _ (fun e => hi (by rw [e]))⟩
theorem MapG.entry {w:World} {t e:TypeId} (ht:prog.underlying t = some (.map 42 e)) {z:Value} (hz:∀ u,(zeroValue e).run prog u = .ok z u) {b n:Nat} {f:Idl → Option α} (h:MapG enc w b n f) (hn:n < maxLen) (c0:α) (hc0:enc c0 = z) {x:Idl} (hx:x.length = 32) :
  ∃ (v0:Value) (st:Nat) (w1:World),(Instr.mapEntry t (.map (some b)) (.agg (idC x).toArray)).run prog w = .ok (.tuple #[v0,goInt st]) w1 ∧ w.grownBy w1 (some b) ∧
   (∀ W,W.heap[b]? = w1.heap[b]? → (Instr.lookup t (.map (some b)) (.agg (idC x).toArray) false).run prog W = .ok (((f x).map enc).getD z) W) ∧
   ∀ (w2:World) (c:α),w2.heap[b]? = w1.heap[b]? → ∃ w3,(Instr.entryStore t (.map (some b)) (goInt st) (enc c)).run prog w2 = .ok () w3 ∧ w2.grownBy w3 (some b) ∧ MapG enc w3 b (n + 1) (fun q => if q = x then some c else f q):=by
 have hM:=h
 obtain ⟨D,hown,hD⟩:=h
 have hown':=hown
 obtain ⟨es,clock,hb,F,hs,hDe⟩:=hown'
 have hkey:=gN hx
 obtain ⟨v0,st,es1,clock1,hrun,hv,hst⟩:=entry_then_store wC ht hz hb F hkey
 have hbl:=hM.lt
 have h1:(setBlock w b (.map es1 clock1)).heap[b]? = some (.map es1 clock1):=heap_setBlock_same hb _
 refine ⟨v0,st,_,hrun,jD hb _,fun W hW => ?_,fun w2 c hw2 => ?_⟩
 ·rcases wC.find w hkey es.toList F.keys with ⟨g1,g2⟩ | ⟨j,e0,g1,g2,g3⟩
  ·have hrun2:(Instr.mapEntry t (.map (some b)) (.agg (idC x).toArray)).run prog w = .ok (.tuple #[z,goInt clock]) (setBlock w b (.map (es.push ⟨.agg (idC x).toArray,z,clock⟩) (clock + 1))):=by
    simp [Instr.mapEntry,run_underlying ht,MapKept.run_getObj_map hb,wC.check w false hkey,g1,hz,MapKept.run_setObj_map _ hb,Result.andThen,setBlock]
   have hupd:(Instr.mapUpdate t (.map (some b)) (.agg (idC x).toArray) z).run prog w = .ok () (setBlock w b (.map (es.push ⟨.agg (idC x).toArray,z,clock⟩) (clock + 1))):=by
    simp [Instr.mapUpdate,run_underlying ht,MapKept.run_getObj_map hb,wC.check w false hkey,g1,MapKept.run_setObj_map _ hb,Result.andThen,setBlock]
   obtain ⟨w',hu,ho,_⟩:=hown.update eX ht hn (val:=z) (d:=.held z) (ps:=[]) hkey rfl
   obtain ⟨_,hw⟩:=sK (hupd.symm.trans hu)
   obtain ⟨_,hw3⟩:=sK (hrun2.symm.trans hrun)
   have hMW:MapG enc W b (n + 1) (fun q => if q = x then some c0 else f q):=by
    have hM1:MapG enc w' b (n + 1) (fun q => if q = x then some c0 else f q):=⟨_,ho,by
     have:=oV hD hown.isMap x hx c0
     rwa [hc0] at this⟩
    exact hM1.heap (by rw [hW,← hw3,hw])
   have hl:=hMW.look ht (hz W) hx
   rw [hl,if_pos rfl]
   have hfx:f x = none:=by
    cases e:f x with
    | none => rfl
    | some c =>
     have h2:=hM.look_ok ht (hz w) hx
     rcases fit_look true eX ht (hz w) hb F hkey with ⟨k1,_,_⟩ | ⟨e0,_,k1,k2,_⟩
     ·obtain ⟨k3,_⟩:=sK (h2.symm.trans k1)
      rw [e] at k3
      simp at k3
     exact absurd k2 (g2 e0 k1)
   rw [hfx]
   show Result.ok (enc c0) W = .ok z W
   rw [hc0]
  have hj:es[j]? = some e0:=by simpa using g2
  have hsame:es.modify j (fun e => { e with key:=.agg (idC x).toArray }) = es:=by
   apply Array.ext'
   rw [Array.toList_modify,modify_eq_set _ _ _ _ g2]
   have:({ e0 with key:=.agg (idC x).toArray }:MapEntry) = e0:=by rw [← g3]
   rw [this]
   exact set_self _ _ _ g2
  have hrun2:(Instr.mapEntry t (.map (some b)) (.agg (idC x).toArray)).run prog w = .ok (.tuple #[e0.val,goInt e0.born]) (setBlock w b (.map es clock)):=by
   simp [Instr.mapEntry,run_underlying ht,MapKept.run_getObj_map hb,wC.check w false hkey,g1,hj,g3,wC.stays w hkey,hsame,MapKept.run_setObj_map _ hb,Result.andThen,setBlock]
  obtain ⟨_,hw3⟩:=sK (hrun2.symm.trans hrun)
  exact (hM.heap (by rw [hW,← hw3,heap_setBlock_same hb,hb])).look ht (hz W) hx
 rw [h1] at hw2
 obtain ⟨es',clock',k1,k2⟩:=hst w2 (enc c) hw2
 obtain ⟨w',hu,ho,_⟩:=hown.update eX ht hn (val:=enc c) (d:=.held (enc c)) (ps:=[]) hkey rfl
 obtain ⟨_,hw⟩:=sK (k2.symm.trans hu)
 have hM1:MapG enc w' b (n + 1) (fun q => if q = x then some c else f q):=⟨_,ho,oV hD hown.isMap x hx c⟩
 exact ⟨_,k1,jD hw2 _,hM1.heap (by rw [← hw,heap_setBlock_same hw2,heap_setBlock_same hb])⟩
end
end
section
open Go.RowKit
theorem xW {s:ByteArray} {c:List UInt8 × List (List UInt8) × ByteArray} (h:bH s = some c):c.1.length = 32 ∧ (∀ x ∈ c.2.1,x.length = 32) ∧ c.2.1.length ≤ 4 ∧ c.2.2.size ≤ 64 ∧ c.2.1.Nodup:=by
 unfold bH at h
 split at h
 ·rename_i hc
  cases h
  obtain ⟨_,hok⟩:=hc
  unfold dw Gu at hok
  simp only [Bool.and_eq_true,decide_eq_true_eq] at hok
  exact ⟨gU _,Rd.xP _ _,hok.2.1,hok.2.2,hok.1⟩
 cases h
def qy (w:World) (v:Value) (l:List Ob):Prop:=aS w v 2 (l.map obC)
theorem qy.below {w w':World} {v:Value} {l:List Ob} (h:qy w v l) (hb:Below w.heap.size w w'):qy w' v l:=aS.below h hb
theorem qy.open {w:World} {v:Value} {l:List Ob} (h:qy w v l):∃ ao cap,v = .slice ao l.length cap ∧ l.length ≤ maxLen ∧ (l ≠ [] → ∃ b off,ao = some ⟨b,off,none⟩ ∧ b < w.heap.size ∧ ∀ k (hk:k < l.length),w.rangeAt b (off + k * 2) (obC l[k])):=by
 obtain ⟨ao,cap,rfl,hm,h⟩:=h
 rw [List.length_map] at hm ⊢
 refine ⟨ao,cap,rfl,hm,fun hne => ?_⟩
 obtain ⟨b,off,e,hl,hc⟩:=h (by simpa using hne)
 refine ⟨b,off,e,hl,fun k hk => ?_⟩
 have:=hc k (by simpa using hk)
 rw [List.getElem_map] at this
 exact this
def obsF (l:List Ob):List Value:=(l.map obC).flatten
def ob0:Ob:=⟨0,⟨#[]⟩⟩
def Cg (w:World) (v:Value) (l:List Ob):Prop:=∃ vl vi,v = .agg [vl,vi].toArray ∧ qy w vl (rights l) ∧ bB w vi ((rights l).map idO)
theorem Cg.below {w w':World} {v:Value} {l:List Ob} (h:Cg w v l) (hb:Below w.heap.size w w'):Cg w' v l:=by
 obtain ⟨vl,vi,rfl,h1,h2⟩:=h
 exact ⟨vl,vi,rfl,h1.below hb,h2.below hb⟩
end
section
theorem Bfs.congr {cm:Idl → Option Cmt} {id:Idl} {V W:Idl → Prop} {Q:List Idl} (h:Bfs cm id V Q) (hVW:∀ y,V y ↔ W y):Bfs cm id W Q:=by
 have:V = W:=funext fun y => propext (hVW y)
 rwa [this] at h
theorem yg.sub {cm:Idl → Option Cmt} {id x:Idl} {S:List Idl} (h:yg cm id S) (hx:x ∈ S):∃ T,yg cm x T:=by
 classical
 refine ⟨S.filter fun y => decide (Reach cm x y),List.Pairwise.filter _ h.nodup,fun y => ?_,fun y hy => h.there y (List.mem_filter.1 hy).1⟩
 rw [List.mem_filter]
 constructor
 ·rintro ⟨_,h2⟩;exact of_decide_eq_true h2
 intro hr;exact ⟨(h.mem y).2 (((h.mem x).1 hx).trans hr),decide_eq_true hr⟩
end
section
open Go.RowKit Go.Maps
section
variable {P:Program} {w:World} {ops:Array Oper} {rest:List Oper} {o:Oper} {a:Act} {Q:Exit → Act → World → Prop}
theorem aO (hg:o.guard = none) (v:Value) (h:(execOp a.eval o).run P w = .ok (.value v) w) (hK:wpList P ops Q rest (a.put o.dst v) w):wpList P ops Q (o :: rest) a w:=by
 refine wpList_plain hg fun K hK' => ?_
 unfold Oper.wp
 rw [h]
 exact hK' _ _ hK
theorem oH (hg:o.guard = none) (t:TypeId) (x lo:Operand) (hop:o.op = .slice t x (some lo) none none) (xv lv:Value) (hx:a.eval x = xv) (hl:a.eval lo = lv) (v:Value) (h:(Instr.sliceAt t xv (some lv) none none).run P w = .ok v w) (hK:wpList P ops Q rest (a.put o.dst v) w):wpList P ops Q (o :: rest) a w:=by
 refine aO hg v ?_ hK
 unfold execOp
 simp only [hop,hx,Option.map_some,Option.map_none,hl,Sem.run_bind,h,Result.andThen_ok]
 rfl
end
theorem JJ (w:World):bB w (.slice none 0 0) []:=⟨none,0,rfl,by simp,fun h => absurd rfl h⟩
theorem lH (x:Idl) (l:List Idl):idsF (x :: l) = idC x ++ idsF l:=by simp [idsF]
theorem tC (l:List Idl) (h:∀ x ∈ l,x.length = 32):(idsF l).length = l.length * 32:=by
 induction l with
 | nil => rfl
 | cons a l ih =>
  rw [lH,List.length_append,au,h a (by simp),ih (fun x hx => h x (List.mem_cons_of_mem _ hx)),List.length_cons];omega
theorem Hy (l:List Idl):∀ v ∈ idsF l,v.oneCell' = true:=fun v hv => by
 unfold idsF at hv
 obtain ⟨r,hr,hv⟩:=List.mem_flatten.1 hv
 obtain ⟨x,_,rfl⟩:=List.mem_map.1 hr
 exact aM x v hv
theorem JK (l:List Idl) (h:∀ x ∈ l,x.length = 32) {w:World} {b off:Nat} (hc:∀ k (hk:k < l.length),w.rangeAt b (off + k * 32) (idC l[k])):∀ j u,(idsF l)[j]? = some u → w.cell? ⟨b,off + j,none⟩ = some u:=by
 induction l generalizing off with
 | nil => intro j u hu;simp [idsF] at hu
 | cons a l ih =>
  intro j u hu
  rw [lH] at hu
  have ha:(idC a).length = 32:=by rw [au];exact h a (by simp)
  by_cases hj:j < 32
  ·rw [List.getElem?_append_left (by omega)] at hu
   have:=hc 0 (by simp) j u hu
   simpa using this
  rw [List.getElem?_append_right (by omega),ha] at hu
  have:=ih (off:=off + 32) (fun x hx => h x (List.mem_cons_of_mem _ hx)) (fun k hk => by
   have:=hc (k + 1) (by simp;omega)
   rw [show off + (k + 1) * 32 = off + 32 + k * 32 from by omega] at this
   exact this) (j - 32) u hu
  rwa [show off + 32 + (j - 32) = off + j from by omega] at this
theorem bB.flat {w:World} {v:Value} {l:List Idl} (h:bB w v l) (hl:∀ x ∈ l,x.length = 32):∃ ao cap,v = .slice ao l.length cap ∧ (0 < l.length → ∃ ad,ao = some ad ∧ ∀ j u,(idsF l)[j]? = some u → w.cell? (ad.add j) = some u):=by
 obtain ⟨ao,cap,rfl,_,h⟩:=h.open
 refine ⟨ao,cap,rfl,fun hp => ?_⟩
 obtain ⟨b,off,rfl,_,hc⟩:=h (fun e => by rw [e] at hp;simp at hp)
 exact ⟨_,rfl,fun j u hu => by rw [Addr.add_mid];exact JK l hl hc j u hu⟩
theorem OwnQ.row {w:World} {B:Nat} {v:Value} {l:List Idl} (h:OwnQ w B 32 v l.length (idsF l)) (hl:∀ x ∈ l,x.length = 32):bB w v l:=by
 have hlen:=h.1
 rcases h.2 with ⟨rfl,h0⟩ | ⟨g,off,cap,rfl,_,hg,hn,hcm,_,hr⟩
 ·obtain rfl:l = []:=List.eq_nil_of_length_eq_zero h0
  exact JJ w
 refine ⟨some ⟨g,off,none⟩,cap,by rw [List.length_map],by rw [List.length_map];omega,fun _ => ⟨g,off,rfl,hg,fun i hi j u hu => ?_⟩⟩
 rw [List.length_map] at hi
 rw [List.getElem_map] at hu
 have hj:j < 32:=by
  have:=(List.getElem?_eq_some_iff.1 hu).1
  rwa [au,hl _ (List.getElem_mem hi)] at this
 have key:∀ (m:List Idl) (i:Nat) (hi:i < m.length),(∀ x ∈ m,x.length = 32) → (idC m[i])[j]? = some u → (idsF m)[i * 32 + j]? = some u:=by
  intro m
  induction m with
  | nil => intro i hi;simp at hi
  | cons a m ih =>
   intro i hi hm h2
   have ha:(idC a).length = 32:=by rw [au];exact hm a (by simp)
   rw [lH]
   cases i with
   | zero => rw [List.getElem?_append_left (by omega)];simpa using h2
   | succ i =>
    rw [List.getElem?_append_right (by omega),ha,show (i + 1) * 32 + j - 32 = i * 32 + j from by omega]
    exact ih i (by simpa using hi) (fun x hx => hm x (List.mem_cons_of_mem _ hx)) (by simpa using h2)
 have:=hr _ u (key l i hi hl hu)
 rwa [Nat.add_assoc]
theorem bB.grown {w w':World} {v:Value} {l:List Idl} {r:Option Nat} (h:bB w v l) (hg:w.grownBy w' r) (hne:l = [] ∨ ∀ k,v.ownBlock = some k → r ≠ some k):bB w' v l:=by
 obtain ⟨ao,cap,rfl,hm,h⟩:=h
 refine ⟨ao,cap,rfl,hm,fun hn => ?_⟩
 obtain ⟨b,off,rfl,hl,hc⟩:=h hn
 rcases hne with rfl | hne
 ·exact absurd rfl hn
 exact ⟨b,off,rfl,Nat.lt_of_lt_of_le hl hg.size,fun i hi => gP (hc i hi) hg (hne b rfl)⟩
theorem bB.lt {w:World} {v:Value} {l:List Idl} (h:bB w v l):l = [] ∨ ∀ k,v.ownBlock = some k → k < w.heap.size:=by
 obtain ⟨ao,cap,rfl,hm,h⟩:=h
 by_cases hl:l = []
 ·exact .inl hl
 obtain ⟨b,off,rfl,hlt,_⟩:=h (by simpa using hl)
 exact .inr fun k hk => by cases hk;exact hlt
def vlV (v:Value):Value:=v
def gu (cm:Idl → Option Cmt) (w:World) (b n:Nat) (S:List Idl) (q:Option Nat):Prop :=
 ∃ g:Idl → Option Value,MapG vlV w b n g ∧ (∀ x,x.length = 32 → ((g x).isSome = true ↔ x ∈ S)) ∧ ∀ x v,g x = some v → ∃ c pv,cm x = some c ∧ v = .agg (cmC c.tree pv c.text).toArray ∧ bB w pv c.pars ∧ (c.pars = [] ∨ ∀ k,pv.ownBlock = some k → q ≠ some k)
variable {cm:Idl → Option Cmt}
theorem gu.map {w:World} {b n:Nat} {S:List Idl} {q:Option Nat} (h:gu cm w b n S q):∃ g,MapG vlV w b n g:=by obtain ⟨g,h,_⟩:=h;exact ⟨g,h⟩
theorem gu.lt {w:World} {b n:Nat} {S:List Idl} {q:Option Nat} (h:gu cm w b n S q):b < w.heap.size:=by obtain ⟨g,h,_⟩:=h;exact h.lt
theorem gu.on {w w':World} {b n:Nat} {S:List Idl} {q:Option Nat} (h:gu cm w b n S q) (hb:Below w.heap.size w w'):gu cm w' b n S q:=by
 obtain ⟨g,h1,h2,h3⟩:=h
 exact ⟨g,h1.on hb,h2,fun x v hx => by
  obtain ⟨c,pv,k1,k2,k3,k4⟩:=h3 x v hx
  exact ⟨c,pv,k1,k2,k3.below hb,k4⟩⟩
theorem gu.grown {w w':World} {b n:Nat} {S:List Idl} {q q':Option Nat} (h:gu cm w b n S q) (hg:w.grownBy w' q) (hb:some b ≠ q) (hq:q' = q ∨ ∀ k,q' = some k → w.heap.size ≤ k):gu cm w' b n S q':=by
 obtain ⟨g,h1,h2,h3⟩:=h
 refine ⟨g,h1.grown hg hb,h2,fun x v hx => ?_⟩
 obtain ⟨c,pv,k1,k2,k3,k4⟩:=h3 x v hx
 refine ⟨c,pv,k1,k2,k3.grown hg k4,?_⟩
 rcases hq with rfl | hq
 ·exact k4
 rcases k3.lt with h0 | hl
 ·exact .inl h0
 exact .inr fun k hk e => by have:=hl k hk;have:=hq k e;omega
theorem gu.none {w:World} {b n:Nat} {S:List Idl} {q:Option Nat} (h:gu cm w b n S q):gu cm w b n S none:=by
 obtain ⟨g,h1,h2,h3⟩:=h
 refine ⟨g,h1,h2,fun x v hx => ?_⟩
 obtain ⟨c,pv,k1,k2,k3,_⟩:=h3 x v hx
 exact ⟨c,pv,k1,k2,k3,.inr fun k _ e => by cases e⟩
theorem gu.mem {w:World} {b n:Nat} {S T:List Idl} {q:Option Nat} (h:gu cm w b n S q) (hST:∀ x,x.length = 32 → (x ∈ S ↔ x ∈ T)):gu cm w b n T q:=by
 obtain ⟨g,h1,h2,h3⟩:=h
 exact ⟨g,h1,fun x hx => (h2 x hx).trans (hST x hx),h3⟩
theorem gu.look {w:World} {b n:Nat} {S:List Idl} {q:Option Nat} (h:gu cm w b n S q) {t:TypeId} (ht:prog.underlying t = some (.map 42 141)) {y:Idl} (hy:y.length = 32) (htl:∀ c,cm y = some c → c.tree.length = 32) :
  ∃ cs:List Value,cs.length = 34 ∧ (∀ v ∈ cs,v.oneCell' = true) ∧ (∀ W,Below w.heap.size w W → (Instr.lookup t (.map (some b)) (.agg (idC y).toArray) true).run prog W = .ok (.tuple #[.agg cs.toArray,.bool (decide (y ∈ S))]) W) ∧
   (∀ W,Below w.heap.size w W → (Instr.lookup t (.map (some b)) (.agg (idC y).toArray) false).run prog W = .ok (.agg cs.toArray) W) ∧ (y ∈ S → ∃ c pv,cm y = some c ∧ cs = cmC c.tree pv c.text ∧ bB w pv c.pars ∧ (c.pars = [] ∨ ∀ k,pv.ownBlock = some k → q ≠ some k)):=by
 obtain ⟨g,h1,h2,h3⟩:=h
 obtain ⟨zs,hz,_,rfl⟩:=JZ
 have h2':=h2 y hy
 cases e:g y with
 | none =>
  rw [e] at h2'
  have hn:y ∉ S:=fun h => by have:=h2'.2 h;cases this
  refine ⟨cmC zid (.slice Option.none 0 0) ⟨#[]⟩,jP _ _ _ aV,CW _ _ _ _ _,fun W hb => ?_,fun W hb => ?_,fun h => absurd h hn⟩
  ·rw [(h1.on hb).look_ok ht (hz W) hy,e,decide_eq_false hn];rfl
  rw [(h1.on hb).look ht (hz W) hy,e];rfl
 | some v =>
  rw [e] at h2'
  have hn:y ∈ S:=h2'.1 rfl
  obtain ⟨c,pv,k1,rfl,k3,k4⟩:=h3 y v e
  obtain ⟨ao,cap,rfl,_⟩:=k3.open
  refine ⟨cmC c.tree (.slice ao c.pars.length cap) c.text,jP _ _ _ (htl c k1),CW _ _ _ _ _,fun W hb => ?_,fun W hb => ?_,fun _ => ⟨c,_,k1,rfl,k3,k4⟩⟩
  ·rw [(h1.on hb).look_ok ht (hz W) hy,e,decide_eq_true hn];rfl
  rw [(h1.on hb).look ht (hz W) hy,e];rfl
theorem MapG.Lb {α:Type} {enc:α → Value} {w:World} {b n:Nat} {f:Idl → Option α} (h:MapG enc w b n f) (o:Nat):w.cell? ⟨b,o,Option.none⟩ = Option.none:=by
 obtain ⟨D,⟨es,clock,h1,_⟩,_⟩:=h
 simp [World.cell?,h1]
theorem bB.off {α:Type} {enc:α → Value} {w:World} {v:Value} {l:List Idl} {b n:Nat} {f:Idl → Option α} (h:bB w v l) (hl:∀ x ∈ l,x.length = 32) (hm:MapG enc w b n f):l = [] ∨ ∀ k,v.ownBlock = some k → some b ≠ some k:=by
 by_cases h0:l = []
 ·exact .inl h0
 obtain ⟨ao,cap,rfl,_,h⟩:=h.open
 obtain ⟨g,off,rfl,_,hc⟩:=h h0
 refine .inr fun k hk e => ?_
 have hk':g = k:=by simpa [Value.ownBlock] using hk
 have hb':b = k:=Option.some.inj e
 subst hk';subst hb'
 have hp:0 < l.length:=List.length_pos_iff.2 h0
 have hx:(idC l[0]).length = 32:=by rw [au];exact hl _ (List.getElem_mem hp)
 have:=hc 0 hp 0 ((idC l[0])[0]'(by omega)) (by simp)
 rw [hm.Lb] at this
 cases this
end
section
open Go.RowKit
theorem infoByte:(prog.info? 5).map (fun i => (i.zero,i.size,i.bytes)) = some (some (.int .u8 0),1,1):=by kernel_rfl
theorem sizeBuilder:(prog.info? 191).map (·.size) = some 2:=by kernel_rfl
theorem liesBuilder:liesAt prog prog.depth 193 (2 / prog.cellsOf 193) 0 191 1 = true:=by kernel_rfl
def Wr (B b:Nat) (L:List UInt8) (w:World):Prop:=Lib.IsBuilder 193 5 B b (Lib.byteCells L) w
theorem uq (b:Nat) (w:World) (h0:w.cell? ⟨b,0,none⟩ = some (.pointer (some ⟨b,0,none⟩))) :
  Calls prog 235 #[.pointer (some ⟨b,0,none⟩)] w fun e w' => e = .returned (.tuple #[]) ∧ w' = w:=by
 obtain ⟨j,hj,_⟩:=Option.map_eq_some_iff.1 sizeBuilder
 go_enter func235,ntmps235
 go_wp2
 rw [Lib.run_neq_ptr_same w _ underlying189 hj]
 go_wp2
 go_end0
 exact ⟨rfl,rfl⟩
theorem qj (b:Nat) (w:World) (h0:w.cell? ⟨b,0,none⟩ = some (.pointer none)) (hsh:w.shape? b = some (193,2)) (hfz:w.frozen? ⟨b,0,none⟩ = false) :
  Calls prog 235 #[.pointer (some ⟨b,0,none⟩)] w fun e w' => e = .returned (.tuple #[]) ∧ w' = w.setCell ⟨b,0,none⟩ (.pointer (some ⟨b,0,none⟩)):=by
 obtain ⟨j,hj,hjs⟩:=Option.map_eq_some_iff.1 sizeBuilder
 go_enter func235,ntmps235
 go_wp2
 rw [Lib.run_to_unsafe w ⟨b,0,none⟩ underlying189 underlying336 hj (by rw [hjs];decide) hsh (Nat.zero_lt_succ 1)]
 simp only [Result.andThen]
 rw [Oper.upon_value]
 go_wp2
 rw [run_callFunc_extern func263 (by kernel_rfl) (by kernel_rfl) (by kernel_rfl) (e:=Extern.AbiNoEscape.same) (by kernel_rfl)]
 rw [Lib.run_noEscape]
 simp only [Result.andThen]
 rw [Oper.upon_value]
 go_wp2
 rw [Lib.run_from_unsafe w ⟨b,0,none⟩ underlying336 underlying189 hj hsh liesBuilder]
 simp only [Result.andThen]
 rw [Oper.upon_value]
 go_wp2
 go_end0
 exact ⟨rfl,rfl⟩
theorem wJ (B b:Nat) (bs:List Value) (w:World) (h:Lib.IsBuilder 193 5 B b bs w) :
  Calls prog 235 #[.pointer (some ⟨b,0,none⟩)] w fun e w' => e = .returned (.tuple #[]) ∧ (Lib.BuilderAt 193 5 B b (.pointer (some ⟨b,0,none⟩)) bs w' ∧ Below B w w'):=by
 rcases h with h | h
 ·refine (qj b w h.cell0 h.shape h.frozen0).mono ?_
  rintro e w' ⟨rfl,rfl⟩
  exact ⟨rfl,h.used _,(Below.refl B w).setCell (p:=⟨b,0,none⟩) h.1 _⟩
 refine (uq b w h.cell0).mono ?_
 rintro e w' ⟨rfl,rfl⟩
 exact ⟨rfl,h,Below.refl B _⟩
theorem vv (B b:Nat) (L:List UInt8) (c:UInt8) (w:World) (h:Wr B b L w) (hlen:L.length + 1 ≤ 140737488355328) (hBw:B ≤ w.heap.size) :
  Calls prog 192 #[.pointer (some ⟨b,0,none⟩),.int .u8 (c.toNat:Int)] w fun e w' => e = .returned .nilIface ∧ Wr B b (L ++ [c]) w' ∧ Below B w w':=by
 obtain ⟨i0,hi,hz0,hz1,hz2⟩:=info_parts infoByte
 have hcl:=Lib.byteCells_length L
 have eb:Lib.byteCells (L ++ [c]) = Lib.byteCells L ++ [.int .u8 (c.toNat:Int)]:=by simp [Lib.byteCells]
 unfold Wr at h ⊢
 rw [eb]
 rw [← hcl] at hlen
 generalize Lib.byteCells L = bs at h hcl hlen
 clear hcl
 generalize (c.toNat:Int) = c
 have HB:=ah h
 clear h eb
 go_enter func192,ntmps192
 go_wp2_with (go_at_call 235;refine (wJ B b bs _ HB.out).mono ?_)
 rintro e w1 ⟨rfl,h1,hb1⟩
 obtain ⟨hB,v,hbk,hown,hne⟩:=h1
 have c0:w1.cell? ⟨b,0,none⟩ = some (.pointer (some ⟨b,0,none⟩)):=by rw [Lib.cell_of_heap hbk];rfl
 have c1:w1.cell? ⟨b,1,none⟩ = some v:=by rw [Lib.cell_of_heap hbk];rfl
 go_wp2_with (at_builtin;refine wpList_append_own _ rfl _ _ 96 rfl B 5 i0 (.int .u8 0) 1 1 underlying96 hi hz0 hz1 hz2 rfl (by decide) _ _ _ rfl (hown.alloc _) ⟨w1.heap.size,0,none⟩ 1 1 [.int .u8 c] rfl rfl ?c1 ?c2 ?c3 ?c4 ?c5 ?_)
 case c1 =>
  intro j u hj
  match j,hj with
  | 0,hj => simp at hj;subst hj;simp [Addr.add]
 case c2 => intro u hu;simp at hu;subst hu;rfl
 case c3 => unfold maxLen;omega
 case c4 => omega
 case c5 => have:=hb1.size;simp;omega
 intro v' w2 hown' hgrow _
 have hlt:b < w1.heap.size:=by
  rcases Nat.lt_or_ge b w1.heap.size with h' | h'
  ·exact h'
  simp [Array.getElem?_eq_none h'] at hbk
 have hb2:w2.heap[b]? = some (.cells #[.pointer (some ⟨b,0,none⟩),v] 193 (0,0)):=by
  rw [hgrow.block b (by simp;omega) (fun e => hne e.symm),Lib.alloc_old w1 _ b hlt]
  exact hbk
 have d0:w2.cell? ⟨b,0,none⟩ = some (.pointer (some ⟨b,0,none⟩)):=by rw [Lib.cell_of_heap hb2];rfl
 have d1:w2.cell? ⟨b,1,none⟩ = some v:=by rw [Lib.cell_of_heap hb2];rfl
 have f1:w2.frozen? ⟨b,1,none⟩ = false:=Lib.frozen_of_heap hb2 1
 obtain ⟨g,cap,rfl⟩:∃ g cap,v' = .slice (some ⟨g,0,none⟩) (bs.length + 1) cap:=by
  rcases hown'.2 with ⟨_,h0⟩ | ⟨g,cap,cur,hv,_⟩
  ·omega
  exact ⟨g,cap,hv⟩
 go_wp2
 go_ret
 refine ⟨rfl,.inr ?_,?_⟩
 ·exact Lib.BuilderAt.put (T:=193) (e:=5) hB hb2 (bs':=bs ++ [.int .u8 c]) (by simpa using hown') (by decide)
 exact ((hb1.alloc (by have:=hb1.size;omega) _).grown hgrow (by have:=hb1.size;simp;omega) (fun k hk => (hown.lt k hk).1)).setCell (p:=⟨b,1,none⟩) hB _
theorem yh (B b:Nat) (L:List UInt8) (s:ByteArray) (w:World) (h:Wr B b L w) (hlen:L.length + s.size ≤ 140737488355328) (hBw:B ≤ w.heap.size) :
  Calls prog 191 #[.pointer (some ⟨b,0,none⟩),.string s] w fun e w' => e = .returned (.tuple #[.int .i64 s.size,.nilIface]) ∧ Wr B b (L ++ s.data.toList) w' ∧ Below B w w':=by
 obtain ⟨i0,hi,hz0,hz1,hz2⟩:=info_parts infoByte
 have hcl:=Lib.byteCells_length L
 have eb:Lib.byteCells (L ++ s.data.toList) = Lib.byteCells L ++ Lib.strCells s:=by simp [Lib.byteCells,Lib.strCells]
 unfold Wr at h ⊢
 rw [eb]
 rw [← hcl] at hlen
 generalize Lib.byteCells L = bs at h hcl hlen
 clear hcl
 have HB:=ah h
 clear h eb
 go_enter func191,ntmps191
 go_wp2_with (go_at_call 235;refine (wJ B b bs _ HB.out).mono ?_)
 rintro e w1 ⟨rfl,h1,hb1⟩
 obtain ⟨hB,v,hbk,hown,hne⟩:=h1
 have c0:w1.cell? ⟨b,0,none⟩ = some (.pointer (some ⟨b,0,none⟩)):=by rw [Lib.cell_of_heap hbk];rfl
 have c1:w1.cell? ⟨b,1,none⟩ = some v:=by rw [Lib.cell_of_heap hbk];rfl
 go_wp2_with (at_builtin;refine Lib.wpList_append_own_string _ rfl _ _ 96 9 rfl B 5 i0 underlying96 underlying9 hi hz0 hz1 hz2 _ _ _ rfl hown s rfl ?c3 ?c4 ?c5 ?_)
 case c3 => unfold maxLen;omega
 case c4 => omega
 case c5 => have:=hb1.size;omega
 intro v' w2 hown' hgrow _
 have hlt:b < w1.heap.size:=by
  rcases Nat.lt_or_ge b w1.heap.size with h' | h'
  ·exact h'
  simp [Array.getElem?_eq_none h'] at hbk
 have hb2:w2.heap[b]? = some (.cells #[.pointer (some ⟨b,0,none⟩),v] 193 (0,0)):=by
  rw [hgrow.block b hlt (fun e => hne e.symm)]
  exact hbk
 have d0:w2.cell? ⟨b,0,none⟩ = some (.pointer (some ⟨b,0,none⟩)):=by rw [Lib.cell_of_heap hb2];rfl
 have d1:w2.cell? ⟨b,1,none⟩ = some v:=by rw [Lib.cell_of_heap hb2];rfl
 have f1:w2.frozen? ⟨b,1,none⟩ = false:=Lib.frozen_of_heap hb2 1
 obtain ⟨ao,n',cap,rfl⟩:∃ ao n' cap,v' = .slice ao n' cap:=by
  rcases hown'.2 with ⟨hv,_⟩ | ⟨g,cap,cur,hv,_⟩
  ·exact ⟨_,_,_,hv⟩
  exact ⟨_,_,_,hv⟩
 go_wp2
 go_ret2
 refine ⟨rfl,.inr ?_,?_⟩
 ·exact Lib.BuilderAt.put (T:=193) (e:=5) hB hb2 (bs':=bs ++ Lib.strCells s) (by simpa [Lib.strCells_length] using hown') (by decide)
 exact (hb1.grown hgrow (by have:=hb1.size;omega) (fun k hk => (hown.lt k hk).1)).setCell (p:=⟨b,1,none⟩) hB _
theorem Ac (B b:Nat) (l:List UInt8) (w:World) (h:Wr B b l w) (h0:l ≠ []) :
  Calls prog 215 #[.pointer (some ⟨b,0,none⟩)] w fun e w' => e = .returned (.string (ofB l)) ∧ Below B w w':=by
 obtain ⟨p,hB,v,hbk,hown,hne⟩:∃ p,Lib.BuilderAt 193 5 B b p (Lib.byteCells l) w:=by
  rcases h with h | h
  ·exact ⟨_,h⟩
  exact ⟨_,h⟩
 have hl0:l.length ≠ 0:=by simpa using h0
 rw [Lib.byteCells_length] at hown
 obtain ⟨g,cap,cur,rfl,hbg,hg,hnc,hcm,hcs,htake⟩:∃ g cap cur,v = .slice (some ⟨g,0,none⟩) l.length cap ∧ B ≤ g ∧ w.heap[g]? = some (.cells cur 5 (0,0)) ∧ l.length ≤ cap ∧ cap ≤ maxLen ∧ cur.size = cap * 1 ∧ cur.toList.take (l.length * 1) = Lib.byteCells l:=by
  rcases hown.2 with ⟨_,hz⟩ | ⟨g,cap,cur,hv,r⟩
  ·exact absurd hz hl0
  exact ⟨g,cap,cur,hv,r⟩
 have c1:w.drew.cell? ⟨b,1,none⟩ = some (.slice (some ⟨g,0,none⟩) l.length cap):=by
  have:w.drew.heap[b]? = some (.cells #[p,.slice (some ⟨g,0,none⟩) l.length cap] 193 (0,0)):=hbk
  rw [Lib.cell_of_heap this];rfl
 have hSD:(Builtin.unsafeSliceData_ #[96] 321 #[.slice (some ⟨g,0,none⟩) l.length cap]).run prog w.drew = .ok (.pointer (some ⟨g,0,none⟩)) w.drew :=
  Lib.run_unsafeSliceData_row _ _ _ _ _ _ (by omega)
 have hUS:(Builtin.unsafeString_ #[321,3] 9 #[.pointer (some ⟨g,0,none⟩),.int .i64 l.length]).run prog w.drew = .ok (.string ⟨l.toArray⟩) (w.drew.freeze ⟨g,0,none⟩ l.length):=by
  refine Lib.run_unsafeString_row w.drew 321 3 9 5 underlying321 (by kernel_rfl) g cur.size (by have hg':w.drew.heap[g]? = some (.cells cur 5 (0,0)):=hg;simp [World.shape?,hg']) l h0 (by omega) (by unfold maxLen at hcm;omega) ?_
  intro j x hx
  have:=hown.cells (g:=g) rfl j (.int .u8 x.toNat) (by simp [Lib.byteCells,hx])
  exact this
 go_enter func215,ntmps215
 go_wp2
 go_region
 all_goals (go_wp2;go_ret;exact ⟨rfl,Lib.below_freeze (Below.drew (Below.refl B w)) (p:=⟨g,0,none⟩) hbg _⟩)
theorem Kj (n:Nat):bits .or .u8 ((n % 128:Nat):Int) 128 = ((n % 128 + 128:Nat):Int):=by
 have h:=(bits_nat .u8 8 (by decide) (fun x h0 h1 => by rw [IntKind.wrap_u8];omega) (n % 128) 128 (by omega) (by omega)).2
 rw [show (128:Int) = ((128:Nat):Int) from rfl,h]
 congr 1
 have h2:=Nat.two_pow_add_eq_or_of_lt (i:=7) (b:=n % 128) (by omega) 1
 rw [Nat.or_comm]
 rw [show (2:Nat) ^ 7 * 1 = 128 from by decide] at h2
 rw [← h2,Nat.add_comm]
theorem pJ (B b:Nat) (L:List UInt8) (g:Nat) (n:Nat) (w:World) (h:Wr B b L w) (hc:w.cell? ⟨g,0,none⟩ = some (.int .i64 (n:Int))) (hn:n ≤ 1000000) (hlen:L.length ≤ 1000000) (hBw:B ≤ w.heap.size) :
  Calls prog 122 #[.pointer (some ⟨b,0,none⟩),.slice (some ⟨g,0,none⟩) 1 1] w fun e w' => e = .returned (.tuple #[]) ∧ Wr B b (L ++ numB n) w' ∧ Below B w w':=by
 have HW:=ah h
 clear h
 go_enter func122,ntmps122
 go_wp2_with fail
 go_loopw [10] (fun i wr => (i = .int .i64 0 ∧ w = wr) ∨ (i = .int .i64 1 ∧ Wr B b (L ++ numB n) wr ∧ Below B w wr)) (fun i _ => (1 - intOf i).toNat)
 case atStart => exact .inl ⟨rfl,rfl⟩
 rcases hrel with ⟨rfl,rfl⟩ | ⟨rfl,hW2,hB2⟩
 ·have n0:(0:Int) ≤ n:=by omega
  have m1:min (n:Int) 1099511627775 = n:=by omega
  have m2:max (0:Int) n = n:=by omega
  go_wp2_with fail
  go_loopw [5] (fun v wr => ∃ (m:Nat) (K:List UInt8),v = .int .i64 m ∧ m ≤ n ∧ Hid (K ++ numB m = L ++ numB n) ∧ Wr B b K wr ∧ Below B w wr) (fun v _ => (intOf v).toNat)
  case atStart => exact ⟨n,L,rfl,by omega,ah rfl,HW.out,Below.refl _ _⟩
  obtain ⟨wo,rfl⟩:∃ wo:World,wo = wr:=⟨_,rfl⟩
  obtain ⟨m,K,rfl,hm,hK,hWo,hbo⟩:=hrel
  have HK:Hid (K.length ≤ 1000010):=by
   have h1:=congrArg List.length hK.out
   rw [List.length_append,List.length_append] at h1
   have h2:=nM 3 n (by omega)
   unfold Hid;omega
  have hsz:=hbo.size
  by_cases h128:128 ≤ m
  ·have d1:decide ((128:Int) ≤ m) = true:=decide_eq_true (by omega)
   have HN:=iI h128
   have hlt:m % 128 + 128 < 256:=by omega
   have hcv:bits .or .u8 ((m:Int) % 128) 128 = ((UInt8.ofNat (m % 128 + 128)).toNat:Int):=by
    rw [show (m:Int) % 128 = ((m % 128:Nat):Int) by omega,Kj,UInt8.toNat_ofNat',Nat.mod_eq_of_lt hlt]
   have hrm:((m:Int).tmod 128) = (m:Int) % 128:=by rw [Int.tmod_eq_emod_of_nonneg (by omega)]
   have hdv:((m:Int).tdiv 128) = ((m / 128:Nat):Int):=by rw [Int.tdiv_eq_ediv_of_nonneg (by omega)];omega
   have hdv2:(m:Int) / 128 = ((m / 128:Nat):Int):=by omega
   have hw8:IntKind.u8.wrap ((m:Int) % 128) = (m:Int) % 128:=by rw [IntKind.wrap_u8];omega
   have hqm:m / 128 < m:=by omega
   have hw64:IntKind.i64.wrap ((m / 128:Nat):Int) = ((m / 128:Nat):Int):=IntWalk.i64_in _ (by omega)
   have HK2:Hid ((K ++ [UInt8.ofNat (m % 128 + 128)]) ++ numB (m / 128) = L ++ numB n):=by
    unfold Hid;rw [← hK.out,HN,List.append_assoc];rfl
   generalize UInt8.ofNat (m % 128 + 128) = x at hcv HK2
   generalize m / 128 = q at hdv hdv2 hqm hw64 HK2
   have HWB:=ah (fun W (hW:Wr B b K W) (hBW:B ≤ W.heap.size) => vv B b K x W hW (by have:=HK.out;omega) hBW)
   have HWO:=ah hWo
   have HBO:=ah hbo
   clear hWo hbo hK HN hlt
   go_wp2_with fail
   refine (HWB.out _ HWO.out (by omega)).mono ?_
   rintro e w1 ⟨rfl,h1,hb1⟩
   have H1:=ah h1
   have HB1:=ah (HBO.out.trans (hb1.mono (Nat.le_refl _)))
   clear h1 hb1
   go_wp2
   go_roundw
   case rel => exact ⟨q,K ++ [x],rfl,by omega,HK2,H1.out,HB1.out⟩
   case measure => simp [intOf];omega
  have d1:decide ((128:Int) ≤ m) = false:=decide_eq_false (by omega)
  have HN:=ah (fu (n:=m) (by omega))
  have hw8:IntKind.u8.wrap (m:Int) = (m:Int):=by rw [IntKind.wrap_u8];omega
  have hcv:((UInt8.ofNat m).toNat:Int) = (m:Int):=by rw [UInt8.toNat_ofNat',Nat.mod_eq_of_lt (by omega)]
  have HWB:=ah (fun W (hW:Wr B b K W) (hBW:B ≤ W.heap.size) => by have:=vv B b K (UInt8.ofNat m) W hW (by have:=HK.out;omega) hBW;rw [hcv] at this;exact this)
  have HK2:Hid (K ++ [UInt8.ofNat m] = L ++ numB n):=by unfold Hid;rw [← hK.out,HN.out]
  have HWO:=ah hWo
  have HBO:=ah hbo
  clear hWo hbo hK HN hcv
  go_wp2_with fail
  refine (HWB.out _ HWO.out (by omega)).mono ?_
  rintro e w1 ⟨rfl,h1,hb1⟩
  have H1:=ah h1
  have HB1:=ah (HBO.out.trans (hb1.mono (Nat.le_refl _)))
  clear h1 hb1
  go_wp2
  rw [HK2.out] at H1
  go_roundw
  case rel => exact .inr ⟨rfl,H1.out,HB1.out⟩
  case measure => simp [intOf]
 have HW2:=ah hW2
 have HB2:=ah hB2
 clear hW2 hB2
 go_wp2
 go_end0
 exact ⟨rfl,HW2.out,HB2.out⟩
theorem Wr.lt {B b:Nat} {L:List UInt8} {w:World} (h:Wr B b L w):b < w.heap.size:=by
 rcases h with h | h
 ·exact h.lt
 exact h.lt
theorem Wr.ge {B b:Nat} {L:List UInt8} {w:World} (h:Wr B b L w):B ≤ b:=by
 rcases h with h | h
 ·exact h.1
 exact h.1
theorem Wr.below {B b:Nat} {L:List UInt8} {w w':World} (h:Wr B b L w) (hb:Below w.heap.size w w'):Wr B b L w':=by
 have key:∀ p,Lib.BuilderAt 193 5 B b p (Lib.byteCells L) w → Lib.BuilderAt 193 5 B b p (Lib.byteCells L) w':=by
  intro p hp
  have hlt:=hp.lt
  obtain ⟨hB,v,hbk,hown,hne⟩:=hp
  exact ⟨hB,v,by rw [hb.block b hlt];exact hbk,own_below hown hb,hne⟩
 rcases h with h | h
 ·exact .inl (key _ h)
 exact .inr (key _ h)
theorem jh (B b:Nat) (L:List UInt8) (g:Nat) (s:ByteArray) (w:World) (h:Wr B b L w) (hc:w.cell? ⟨g,0,none⟩ = some (.string s)) (hlen:L.length + s.size ≤ 10000000) (hBw:B ≤ w.heap.size) :
  Calls prog 121 #[.pointer (some ⟨b,0,none⟩),.slice (some ⟨g,0,none⟩) 1 1] w fun e w' => e = .returned (.tuple #[]) ∧ Wr B b (L ++ s.data.toList) w' ∧ Below B w w':=by
 have HW:=ah h
 clear h
 go_enter func121,ntmps121
 go_wp2_with fail
 go_loopw [10] (fun i wr => (i = .int .i64 0 ∧ w = wr) ∨ (i = .int .i64 1 ∧ Wr B b (L ++ s.data.toList) wr ∧ Below B w wr)) (fun i _ => (1 - intOf i).toNat)
 case atStart => exact .inl ⟨rfl,rfl⟩
 rcases hrel with ⟨rfl,rfl⟩ | ⟨rfl,hW2,hB2⟩
 ·go_wp2_with fail
  refine (yh B b L s _ HW.out (by omega) hBw).mono ?_
  rintro e w1 ⟨rfl,h1,hb1⟩
  have H1:=ah h1
  have HB1:=ah hb1
  clear h1 hb1
  go_wp2
  go_roundw
  case rel => exact .inr ⟨by go_num,H1.out,HB1.out⟩
  case measure => simp [intOf]
 have HW2:=ah hW2
 have HB2:=ah hB2
 clear hW2 hB2
 go_wp2
 go_end0
 exact ⟨rfl,HW2.out,HB2.out⟩
theorem mg (B b:Nat) (L:List UInt8) (g:Nat) (s:ByteArray) (w:World) (h:Wr B b L w) (hc:w.cell? ⟨g,0,none⟩ = some (.string s)) (hs:s.size ≤ 1000000) (hlen:L.length ≤ 1000000) (hBw:B ≤ w.heap.size) :
  Calls prog 123 #[.pointer (some ⟨b,0,none⟩),.slice (some ⟨g,0,none⟩) 1 1] w fun e w' => e = .returned (.tuple #[]) ∧ Wr B b (L ++ (numB s.size ++ s.data.toList)) w' ∧ Below B w w':=by
 have HW:=ah h
 clear h
 have hsz:=HW.out.lt
 have hgb:=HW.out.ge
 have hnl:=sO (n:=s.size) (by omega)
 go_enter func123,ntmps123
 go_wp2_with fail
 go_loopw [8] (fun i wr => (i = .int .i64 0 ∧ w = wr) ∨ (i = .int .i64 1 ∧ Wr B b (L ++ (numB s.size ++ s.data.toList)) wr ∧ Below B w wr)) (fun i _ => (1 - intOf i).toNat)
 case atStart => exact .inl ⟨rfl,rfl⟩
 rcases hrel with ⟨rfl,rfl⟩ | ⟨rfl,hW2,hB2⟩
 ·go_wp2_with fail
  have hba:∀ (W:World) (o:Obj),Below W.heap.size W (W.alloc o):=fun W o => bal
  refine (pJ B b L w.heap.size s.size _ (HW.out.below (hba _ _)) (by rw [World.cell?_alloc_new];rfl) (by omega) hlen (by simp;omega)).mono ?_
  rintro e w1 ⟨rfl,h1,hb1⟩
  have H1:=ah h1
  have HB1:=ah (((Below.refl B w).alloc hBw _).trans hb1)
  have hsz1:=HB1.out.size
  clear h1 hb1
  go_wp2_with fail
  refine (jh B b (L ++ numB s.size) w1.heap.size s _ (H1.out.below (hba _ _)) (by rw [World.cell?_alloc_new];rfl) (by rw [List.length_append];omega) (by simp;omega)).mono ?_
  rintro e w2 ⟨rfl,h2,hb2⟩
  rw [List.append_assoc] at h2
  have H2:=ah h2
  have HB2:=ah ((HB1.out.alloc (by omega) _).trans hb2)
  clear h2 hb2
  go_wp2
  go_roundw
  case rel => exact .inr ⟨by go_num,H2.out,HB2.out⟩
  case measure => simp [intOf]
 have HW2:=ah hW2
 have HB2:=ah hB2
 clear hW2 hB2
 go_wp2
 go_end0
 exact ⟨rfl,HW2.out,HB2.out⟩
theorem uY (B b:Nat) (l:List UInt8) (w:World) (h:Wr B b l w) (h0:l ≠ []) :
  Calls prog 165 #[.pointer (some ⟨b,0,none⟩)] w fun e w' => e = .returned (.string (ofB l)) ∧ Below B w w':=by
 have HS:=ah (Ac B b l w h h0)
 clear h
 go_enter func165,ntmps165
 go_wp2_with fail
 refine HS.out.mono ?_
 rintro e w1 ⟨rfl,hb⟩
 go_wp2
 go_ret
 exact ⟨rfl,hb⟩
section
variable {get:List UInt8 → Option Ob} {rec:List UInt8 → ByteArray → Lfs → Nat → FRes} {ahead:ByteArray} {e:Ent} {es:List Ent} {l:Lfs} {n:Nat}
end
theorem BD {W w2:World} {r:Option Nat} (h:W.drew.grownBy w2 r):W.grownBy w2 r:=⟨h.os,h.tape,h.output,h.size,h.block⟩
theorem oJ {P:Program} (w:World) {ops:Array Oper} {rest:List Oper} {o:Oper} {a:Act} {Q:Exit → Act → World → Prop} (hg:o.guard = none) (d x:Operand) (dT sT:TypeId)
  (hop:o.op = Op.call { callee:=Callee.builtin Builtin.copy,args:=#[d,x],argTypes:=#[dT,sT] }) (elem:TypeId) (hu:P.underlying dT = some (.slice elem)) (hz:∀ w,(Go.sizeOf elem).run P w = .ok 1 w)
  (b off dLen dCap:Nat) (hd:a.eval d = .slice (some ⟨b,off,none⟩) dLen dCap) (t:ByteArray) (hx:a.eval x = .string t) (hle:t.size ≤ dLen)
  (hc:∀ j,j < t.size → (w.cell? ⟨b,off + j,none⟩).isSome = true) (hf:∀ j,j < t.size → w.frozen? ⟨b,off + j,none⟩ = false)
  (hK:wpList P ops Q rest (a.put o.dst (goInt t.size)) (w.setCells b off (t.data.toList.map fun x => Value.int .u8 (x.toNat:Int)))):wpList P ops Q (o :: rest) a w:=by
 refine wpList_plain hg fun K hK' => ?_
 have hrun:=Go.run_copy_string (P:=P) w dT sT o.type elem b off dLen dCap t hu hz hle hc hf
 unfold Oper.wp
 simp [execOp,hop,resolve,invoke,builtin,hd,hx,hrun,Result.andThen]
 exact hK' _ _ hK
theorem qJ (b:Nat) (r:Rd) (w:World) (hA:Arr w b 3 r.c) (hf:r.fine) :
  Calls prog 197 #[.pointer (some ⟨b,0,none⟩)] w fun e w' => e = .returned (idV r.id.2) ∧ Arr w' b 3 r.id.1.c ∧ w.grownBy w' (some b):=by
 have hbl:b < w.heap.size:=hA.lt (by omega)
 have HR:=ah (fun W (hA:Arr W b 3 r.c) => qW b r 32 W hA hf (by omega))
 have hs:=Rd.nH r 32
 have HF:Hid (idV r.id.2 = .agg ((idOf (r.raw 32).2).map fun b => Value.int .u8 (b.toNat:Int)).toArray):=ah rfl
 have HG:Hid (r.id.1 = (r.raw 32).1):=ah rfl
 have HA:=ah hA
 have HO:=ah (Arr.new w 32 (.int .u8 0) 42)
 generalize r.raw 32 = x at HR hs HF HG
 obtain ⟨r1,s⟩:=x
 dsimp only at HR hs HF HG
 clear hA hf
 go_enter func197,ntmps197
 go_wp2_with fail
 have h32:(prog.info? 42).map (·.size) = some 32:=by kernel_rfl
 have hT:True:=trivial
 have HAX:=ah ((HA.out.alloc (by omega) (.cells (Array.replicate 32 (.int .u8 0)) 42)).alloc (by omega) (.cells (Array.replicate 32 (.int .u8 0)) 42))
 have hX:=Arr.new (w.alloc (.cells (Array.replicate 32 (.int .u8 0)) 42)) 32 (.int .u8 0) 42
 rw [World.size_alloc] at hX
 have HX:=ah hX
 have HO2:=ah (HO.out.alloc (by omega) (.cells (Array.replicate 32 (.int .u8 0)) 42))
 have HBW:=ah ((((Below.refl w.heap.size w).alloc (Nat.le_refl _) (.cells (Array.replicate 32 (.int .u8 0)) 42))).alloc (by simp) (.cells (Array.replicate 32 (.int .u8 0)) 42))
 clear hX
 refine wrL 3 (fun _ => True) ?_
 refine WL.tk 0 hT ?_
 refine WL.tk 1 hT ?_
 refine WL.on 2 ?_
 go_wp2_with fail
 refine (HR.out _ HAX.out.drew).mono ?_
 rintro e w1 ⟨rfl,hA1,hg1⟩
 have HA1:=ah hA1
 have hg1':=BD hg1
 have HX1:=ah (HX.out.grown hg1' (by omega))
 have HO1:=ah (HO2.out.grown hg1' (by omega))
 have HG1:=ah (xZ HBW.out hg1')
 clear hA1 hg1 hg1'
 go_wp2
 refine ⟨trivial,?_⟩
 refine WL.la 3 ?_
 refine oJ _ rfl (.tmp 4) (.tmp 6) 96 9 rfl 5 underlying96 (fun w => by kernel_rfl) (w.heap.size + 1) 0 32 32 rfl s rfl hs (fun j hj => by rw [Nat.zero_add,HX1.out.cell j (by omega)];rfl) (fun j hj => by rw [Nat.zero_add];exact HX1.out.free j (by omega)) ?_
 have hln:(s.data.toList.map fun x => Value.int .u8 (x.toNat:Int)).length = s.size:=by rw [List.length_map];simp
 have hX2:=(HX1.out.setCells 0 (s.data.toList.map fun x => Value.int .u8 (x.toNat:Int)) (by omega)).congr (d:=idB s s.size) (fun k hk => by
  unfold idB
  rw [hln,Nat.zero_add,Nat.sub_zero]
  by_cases h:k < s.size
  ·rw [if_pos ⟨by omega,h⟩,if_pos h]
   unfold blk
   have hl:k < s.data.toList.length:=by simpa using h
   rw [List.getD_eq_getElem?_getD,List.getElem?_map,List.getElem?_eq_getElem hl,List.getD_eq_getElem?_getD,List.getElem?_eq_getElem hl];rfl
  rw [if_neg (fun h' => h h'.2),if_neg h])
 have hb2:Below w1.heap.size w1 w1:=Below.refl _ _
 have HO2':=ah (HO1.out.iQ (show w.heap.size + 1 ≠ w.heap.size by omega) (s.data.toList.map fun x => Value.int .u8 (x.toNat:Int)) 0)
 have HA2:=ah (HA1.out.iQ (show w.heap.size + 1 ≠ b by omega) (s.data.toList.map fun x => Value.int .u8 (x.toNat:Int)) 0)
 have HG2:Hid (w.grownBy (w1.setCells (w.heap.size + 1) 0 (s.data.toList.map fun x => Value.int .u8 (x.toNat:Int))) (some b)):=ah (qd (Below.refl _ _) HG1.out (below_setCells (B:=w.heap.size) (a:=w1) (w.heap.size + 1) (by omega) _ 0 w1 (Below.refl _ _)))
 clear hb2
 generalize w1.setCells (w.heap.size + 1) 0 (s.data.toList.map fun x => Value.int .u8 (x.toNat:Int)) = wo at hX2 HO2' HA2 HG2
 have hr:=hX2.range
 have e8:(List.range 32).map (idB s s.size) = (idOf s).map fun b => Value.int .u8 (b.toNat:Int):=by
  unfold idOf;rw [List.map_map]
  exact List.map_congr_left fun k _ => JL s k
 rw [e8] at hr
 have hlen:((idOf s).map fun b => Value.int .u8 (b.toNat:Int)).length = 32:=by rw [List.length_map];exact gU s
 have hone:=CO (idOf s)
 generalize (idOf s).map (fun b => Value.int .u8 (b.toNat:Int)) = us at hr hlen hone HF
 have h32u:(prog.info? 42).map (·.size) = some us.length:=by rw [hlen];exact h32
 have hth:=HO2'.out.there
 have HFR:=ah (World.rangeAt_setCells_same wo w.heap.size 0 us (by rw [hlen];exact hth))
 have HTH:=ah hth
 have HLN:=ah hlen
 have HON:=ah hone
 have HFIN:=ah (qd (Below.refl _ _) HG2.out (below_setCells (B:=w.heap.size) (a:=wo) w.heap.size (Nat.le_refl _) us 0 wo (Below.refl _ _)))
 have HAF:=ah (HA2.out.iQ (show w.heap.size ≠ b by omega) us 0)
 clear hX2 e8 hth hlen hone hln
 go_wp2_with (first | (refine wpList_load_mid rfl 42 _ rfl (w.heap.size + 1) 0 rfl us _ hr underlying42 rfl h32u ?_) | (refine aj rfl 42 _ _ rfl w.heap.size 0 us rfl rfl 32 HLN.out HTH.out h32 HON.out ?_))
 refine dI rfl w.heap.size 0 rfl us _ HFR.out underlying42 rfl h32u rfl ⟨by rw [HF.out],by rw [HG.out];exact HAF.out,HFIN.out⟩
theorem Dw (s:ByteArray) {k:Nat} (h:k < s.size):s.data.toList.take (k + 1) = s.data.toList.take k ++ [s[k]]:=by
 rw [List.take_succ_eq_append_getElem (by simpa using h)];rfl
theorem FC (n:W32):wn n % 256 = ((gV n 0).toNat:Int) ∧ wn n / 256 % 256 = ((gV n 1).toNat:Int) ∧ wn n / 65536 % 256 = ((gV n 2).toNat:Int) ∧ wn n / 16777216 = ((gV n 3).toNat:Int):=by
 have h:=n.isLt
 unfold wn gV
 simp only [UInt8.toNat_ofNat']
 refine ⟨?_,?_,?_,?_⟩ <;> omega
theorem Fy (W:World) (a b c d:UInt8) (e:TypeId) :
  (convert 96 9 (.slice (some ⟨W.heap.size,0,none⟩) 4 4)).run prog (W.alloc (.cells #[.int .u8 (a.toNat:Int),.int .u8 (b.toNat:Int),.int .u8 (c.toNat:Int),.int .u8 (d.toNat:Int)] e)) = .ok (.string (ofB [a,b,c,d])) (W.alloc (.cells #[.int .u8 (a.toNat:Int),.int .u8 (b.toNat:Int),.int .u8 (c.toNat:Int),.int .u8 (d.toNat:Int)] e)) :=
 run_convert_bytes_back (P:=prog) _ 96 9 5 ⟨W.heap.size,0,none⟩ 4 [a,b,c,d] underlying96 underlying5 underlying9 fun j hj => by
  have hj4:j < 4:=by simpa using hj
  rw [Addr.add_mid,Nat.zero_add,World.cell?_alloc_new]
  rcases (show j = 0 ∨ j = 1 ∨ j = 2 ∨ j = 3 by omega) with rfl | rfl | rfl | rfl <;> rfl
theorem Gp (s:ByteArray):s ++ ofB (Cm s.data.toList) = ofB (dN s.data.toList):=by unfold dN;rw [mF,Ba]
def unS (s:ByteArray):ByteArray:=ofB ((eG s.data.toList).getD [])
def unOk (s:ByteArray):Bool:=(eG s.data.toList).isSome
theorem wR {s:ByteArray} (h:s.size < 4):unS s = ⟨#[]⟩ ∧ unOk s = false:=by
 have:eG s.data.toList = none:=by unfold eG;rw [if_neg (by simp;intro h2;exact absurd h2 (by have:s.data.size = s.size:=rfl;omega))]
 unfold unS unOk
 rw [this]
 exact ⟨rfl,rfl⟩
theorem yC {s:ByteArray} (h:4 ≤ s.size):eG s.data.toList = if dN (s.data.toList.take (s.size - 4)) = s.data.toList then some (s.data.toList.take (s.size - 4)) else none:=by
 have hl:s.data.toList.length = s.size:=by simp
 unfold eG
 rw [hl]
 by_cases hc:dN (s.data.toList.take (s.size - 4)) = s.data.toList
 ·rw [if_pos ⟨h,hc⟩,if_pos hc]
 rw [if_neg (fun x => hc x.2),if_neg hc]
theorem xS (s:ByteArray) (n:Nat):(s.extract 0 n).data.toList = s.data.toList.take n:=by
 rw [ByteArray.data_extract];simp
theorem sN (l:List UInt8) (s:ByteArray):ofB l = s ↔ l = s.data.toList:=⟨fun h => by rw [← h,aX],fun h => by rw [h,Ba]⟩
structure Crc (w:World):Prop where
 row:w.rangeAt 4 0 (fT.map fun x => Value.int .u32 (wn x))
 lt:4 < w.heap.size
theorem Crc.below {w w':World} (h:Crc w) (hb:Below w.heap.size w w'):Crc w':=⟨aF h.row hb h.lt,Nat.lt_of_lt_of_le h.lt hb.size⟩
theorem Crc.cell {w:World} (h:Crc w) {j:Nat} (hj:j < 16):w.cell? ⟨4,j,none⟩ = some (.int .u32 (wn (fT.getD j 0#32))):=by
 have h1:=h.row j (.int .u32 (wn (fT.getD j 0#32))) (by
  have hl:j < fT.length:=hj
  rw [List.getElem?_map,List.getElem?_eq_getElem hl,List.getD_eq_getElem?_getD,List.getElem?_eq_getElem hl];rfl)
 rw [Nat.zero_add] at h1
 exact h1
def nibN:Nat → W32 → W32
 | 0,n => n
 | k + 1,n => nibC (nibN k n)
theorem BK (n:W32) (b:UInt8):zO n b = nibN 2 (n ^^^ bw b):=by unfold zO nibN nibN nibN;rw [GK,GK]
theorem Ir (n:W32) (b:UInt8) (w:World) (hc:Crc w):Calls prog 280 #[.int .u32 (wn n),.int .u8 (b.toNat:Int)] w fun e w' => e = .returned (.int .u32 (wn (zO n b))) ∧ w' = w:=by
 have hb:((b.toNat:Nat):Int) < 256:=by have:=b.toNat_lt;omega
 have wb:IntKind.u32.wrap ((b.toNat:Nat):Int) = ((b.toNat:Nat):Int):=by rw [IntKind.wrap_u32];omega
 have hx:bits .xor .u32 (wn n) ((b.toNat:Nat):Int) = wn (n ^^^ bw b):=by rw [q9,vw]
 have HF:=ah (BK n b)
 have HC:=ah (fun j (hj:j < 16) => hc.cell hj)
 clear hc
 generalize n ^^^ bw b = m at hx HF
 go_enter func280,ntmps280
 go_wp2_with fail
 go_loopw [0,9] (fun v i wr => ∃ k:Nat,v = .int .u32 (wn (nibN k m)) ∧ i = .int .i64 (k:Int) ∧ k ≤ 2 ∧ wr = w) (fun _ i _ => (2 - intOf i).toNat)
 case atStart => exact ⟨0,rfl,rfl,by omega,rfl⟩
 obtain ⟨k,rfl,rfl,hk,rfl⟩:=hrel
 by_cases hlt:k < 2
 ·have d1:decide ((k:Int) < 2) = true:=decide_eq_true (by omega)
  obtain ⟨q,hq⟩:∃ q,nibN k m = q:=⟨_,rfl⟩
  have HN:Hid (nibN (k + 1) m = nibC q):=ah (by rw [← hq];rfl)
  rw [hq]
  clear hq
  obtain ⟨j,hj⟩:∃ j,(q &&& 15#32).toNat = j:=⟨_,rfl⟩
  have hj16:j < 16:=by rw [← hj,KC];omega
  have ha:bits .and .u32 (wn q) 15 = (j:Int):=by rw [← hj];exact Kg q 15#32
  have hs:wn q / (16:Int) = wn (q >>> 4):=IB q 4
  have hy:bits .xor .u32 (wn (q >>> 4)) (wn (fT.getD j 0#32)) = wn (nibC q):=by rw [vw,← hj];rfl
  have hcell:=HC.out j hj16
  have hj16z:(j:Int) < 16:=by omega
  generalize fT.getD j 0#32 = z at hcell hy
  generalize q >>> 4 = q4 at hs hy
  generalize nibC q = q5 at hy HN
  have h0:=wn_0 q
  have h1:=vg q
  clear hj
  go_wp2_with fail
  exact ⟨⟨k + 1,by rw [HN.out],by go_num,by omega,by first | rfl | trivial⟩,by simp [intOf];omega⟩
 obtain rfl:k = 2:=by omega
 go_wp2_with fail
 go_ret
 exact ⟨by rw [HF.out];rfl,by first | rfl | trivial⟩
theorem Ke (m:W32) (s:ByteArray) (w:World) (hc:Crc w) (hs:s.size ≤ 1000000000):Calls prog 245 #[.int .u32 (wn m),.string s] w fun e w' => e = .returned (.int .u32 (wn (~~~ sumC (~~~ m) s.data.toList))) ∧ w' = w:=by
 have HS:=ah (fun m b => Ir m b w hc)
 have hn:=Am m
 clear hc
 go_enter func245,ntmps245
 go_wp2_with fail
 go_loopw [5,6,11] (fun v _ i wr => ∃ k:Nat,v = .int .u32 (wn (sumC (~~~ m) (s.data.toList.take k))) ∧ i = .int .i64 (k:Int) ∧ k ≤ s.size ∧ wr = w) (fun _ _ i _ => (s.size - intOf i).toNat)
 case atStart => exact ⟨0,rfl,rfl,by omega,rfl⟩
 obtain ⟨k,rfl,rfl,hk,rfl⟩:=hrel
 by_cases hlt:k < s.size
 ·have d1:decide ((k:Int) < s.size) = true:=decide_eq_true (by omega)
  have HN:=ah (Dx (~~~ m) (s.data.toList.take k) s[k])
  have HT:=ah (Dw s hlt)
  have HC:=ah (HS.out (sumC (~~~ m) (s.data.toList.take k)) s[k])
  rw [← HT.out] at HN
  generalize sumC (~~~ m) (s.data.toList.take k) = q at HN HC ⊢
  go_wp2_with fail
  refine HC.out.mono ?_
  rintro e w2 ⟨rfl,rfl⟩
  rw [← HN.out]
  go_wp2_with fail
  go_roundw
  case rel => exact ⟨k + 1,rfl,by go_num,by omega,by first | rfl | trivial⟩
  case measure => simp [intOf];omega
 obtain rfl:k = s.size:=by omega
 have HTK:Hid (sumC (~~~ m) s.data.toList = sumC (~~~ m) (s.data.toList.take s.size)):=ah (by rw [List.take_of_length_le (l:=s.data.toList) (by simp)])
 generalize sumC (~~~ m) (s.data.toList.take s.size) = q at HTK ⊢
 have hq:=Am q
 go_wp2_with fail
 go_ret
 exact ⟨by rw [HTK.out];rfl,by first | rfl | trivial⟩
theorem yL (b:Nat) (s:ByteArray) (w:World) (hc:Crc w) (hb:w.cell? ⟨b,0,none⟩ = some (.string s)) (hs:s.size ≤ 1000000000):Calls prog 218 #[.slice (some ⟨b,0,none⟩) 1 1] w fun e w' => e = .returned (.int .u32 (wn (crcC s.data.toList))) ∧ w' = w:=by
 have HS:Hid (Calls prog 245 #[.int .u32 0,.string s] w fun e w' => e = .returned (.int .u32 (wn (crcC s.data.toList))) ∧ w' = w):=ah (Ke 0#32 s w hc hs)
 clear hc
 go_enter func218,ntmps218
 go_wp2_with fail
 refine wp_loop_rounds 2 ?_
 rw [rounds_succ]
 go_wp2_with fail
 refine HS.out.mono ?_
 rintro e w2 ⟨rfl,rfl⟩
 go_wp2_with fail
 rw [rounds_succ]
 go_wp2_with fail
 go_ret
 exact ⟨rfl,by first | rfl | trivial⟩
theorem rP (s:ByteArray) (w:World) (hc:Crc w) (hs:s.size ≤ 1000000000):Calls prog 168 #[.string s] w fun e w' => e = .returned (.string (ofB (dN s.data.toList))) ∧ Below w.heap.size w w':=by
 obtain ⟨W,hW⟩:∃ W,w.alloc (.cells #[.string s] 9) = W:=⟨_,rfl⟩
 have hbW:Below w.heap.size w W:=by rw [← hW];exact bal
 have hcell:W.cell? ⟨w.heap.size,0,none⟩ = some (.string s):=by rw [← hW,World.cell?_alloc_new];rfl
 have HS:=ah (yL w.heap.size s W (hc.below hbW) hcell hs)
 have HW:=ah hW
 have HBW:=ah hbW
 clear hW hbW hcell hc
 obtain ⟨h0,h1,h2,h3⟩:=FC (crcC s.data.toList)
 have g0:=wn_0 (crcC s.data.toList)
 have g1:=vg (crcC s.data.toList)
 have HX:=ah (Gp s)
 unfold Cm at HX
 have hsz:(ofB [gV (crcC s.data.toList) 0,gV (crcC s.data.toList) 1,gV (crcC s.data.toList) 2,gV (crcC s.data.toList) 3]).size = 4:=by rw [bq];rfl
 obtain ⟨x,hx⟩:∃ x,wn (crcC s.data.toList) = x:=⟨_,rfl⟩
 obtain ⟨b0,hb0⟩:∃ b,gV (crcC s.data.toList) 0 = b:=⟨_,rfl⟩
 obtain ⟨b1,hb1⟩:∃ b,gV (crcC s.data.toList) 1 = b:=⟨_,rfl⟩
 obtain ⟨b2,hb2⟩:∃ b,gV (crcC s.data.toList) 2 = b:=⟨_,rfl⟩
 obtain ⟨b3,hb3⟩:∃ b,gV (crcC s.data.toList) 3 = b:=⟨_,rfl⟩
 rw [hb0,hb1,hb2,hb3] at HX hsz
 rw [hx] at h0 h1 h2 h3 g0 g1 HS
 rw [hb0] at h0
 rw [hb1] at h1
 rw [hb2] at h2
 rw [hb3] at h3
 have h4:x / 16777216 % 256 = (b3.toNat:Int):=by omega
 have hcv:=Fy W b0 b1 b2 b3 296
 clear hx hb0 hb1 hb2 hb3
 go_enter func168,ntmps168
 go_wp2_with fail
 rw [HW.out]
 refine HS.out.mono ?_
 rintro e w2 ⟨rfl,rfl⟩
 go_wp2_with fail
 refine wp_loop_rounds 5 ?_
 rw [rounds_succ]
 go_wp2_with fail
 rw [rounds_succ]
 go_wp2_with fail
 rw [rounds_succ]
 go_wp2_with fail
 rw [rounds_succ]
 go_wp2_with fail
 rw [rounds_succ]
 go_wp2_with fail
 go_ret
 exact ⟨Jt HX.out,HBW.out.trans (bal.mono HBW.out.size)⟩
theorem rD (s:ByteArray) (w:World) (hcr:Crc w) (hs:s.size ≤ 1000000000):Calls prog 134 #[.string s] w fun e w' => e = .returned (.tuple #[.string (unS s),.bool (unOk s)]) ∧ Below w.heap.size w w':=by
 have HCR:=ah hcr
 clear hcr
 by_cases h4:s.size < 4
 ·obtain ⟨e1,e2⟩:=wR h4
  rw [e1,e2]
  have d1:decide ((s.size:Int) < 4) = true:=decide_eq_true (by omega)
  clear e1 e2
  go_enter func134,ntmps134
  go_wp2
  go_ret2
  exact ⟨rfl,Below.refl _ _⟩
 have d1:decide ((s.size:Int) < 4) = false:=decide_eq_false (by omega)
 have w1:IntKind.i64.wrap ((s.size:Int) - 4) = ((s.size - 4:Nat):Int):=by rw [IntKind.wrap_i64];omega
 have HU:=yC (s:=s) (by omega)
 have hle:s.size - 4 ≤ s.size:=by omega
 obtain ⟨t,ht⟩:∃ t,s.extract 0 (s.size - 4) = t:=⟨_,rfl⟩
 have htl:t.data.toList = s.data.toList.take (s.size - 4):=by rw [← ht,xS]
 have hts:t.size ≤ 1000000000:=by
  have:t.size = t.data.toList.length:=by simp
  rw [this,htl,List.length_take]
  have:s.data.toList.length = s.size:=by simp
  omega
 have HSL:=ah (rP t w HCR.out hts)
 rw [← htl] at HU
 have HT:=ah htl
 clear htl hts
 by_cases hc:dN t.data.toList = s.data.toList
 ·have hne:((ofB (dN t.data.toList)).toList == s.toList) = true:=by rw [uF];exact decide_eq_true ((sN _ _).2 hc)
  rw [if_pos hc] at HU
  have e1:unS s = t:=by unfold unS;rw [HU];exact Ba t
  have e2:unOk s = true:=by unfold unOk;rw [HU];rfl
  rw [e1,e2]
  clear hc HU e1 e2
  go_enter func134,ntmps134
  go_wp2_with fail
  refine HSL.out.mono ?_
  rintro e w2 ⟨rfl,hb2⟩
  go_wp2_with fail
  go_ret2
  exact ⟨rfl,hb2⟩
 have hne:((ofB (dN t.data.toList)).toList == s.toList) = false:=by rw [uF];exact decide_eq_false fun h => hc ((sN _ _).1 h)
 rw [if_neg hc] at HU
 have e1:unS s = ⟨#[]⟩:=by unfold unS;rw [HU];rfl
 have e2:unOk s = false:=by unfold unOk;rw [HU];rfl
 rw [e1,e2]
 clear hc HU e1 e2
 go_enter func134,ntmps134
 go_wp2_with fail
 refine HSL.out.mono ?_
 rintro e w2 ⟨rfl,hb2⟩
 go_wp2_with fail
 go_ret2
 exact ⟨rfl,hb2⟩
end
section
theorem kS (s:ByteArray):s.data.toList.length = s.size:=Array.length_toList
theorem G9 (r:Rd):r.left.length = r.s.size - r.pos:=by unfold Rd.left;rw [List.length_drop];rfl
theorem EJ (r:Rd) (n:Nat) {x rest:List UInt8} (hl:r.left = x ++ rest) (hx:x.length = n):({ r with pos:=r.pos + n }:Rd).left = rest:=by
 show r.s.data.toList.drop (r.pos + n) = rest
 rw [← List.drop_drop]
 show r.left.drop n = rest
 rw [hl,← hx,List.drop_left]
theorem Rd.Gt (r:Rd) (x rest:List UInt8) (h0:r.err = 0) (hl:r.left = x ++ rest):∃ b,r.raw x.length = ({ r with pos:=r.pos + x.length },b) ∧ b.data.toList = x:=by
 have hlen:=G9 r
 rw [hl,List.length_append] at hlen
 refine ⟨r.s.extract r.pos (r.pos + x.length),?_,?_⟩
 ·unfold Rd.raw
  rw [if_neg (by simp [h0]),if_neg (by omega)]
 rw [ByteArray.data_extract,Array.toList_extract,List.extract_eq_take_drop,Nat.add_sub_cancel_left]
 show r.left.take x.length = x
 rw [hl,List.take_left]
end
section
open Go.RowKit
def baL (x:Idl):ByteArray:=⟨x.toArray⟩
def cmpL (x y:Idl):Int:=Extern.BytealgCompare.cmp (baL x) (baL y)
theorem iV (x:Idl) (i:Nat) (h:i < x.length):(baL x)[i]! = x[i]:=by
 have hs:i < (baL x).size:=by simpa [baL,ByteArray.size] using h
 rw [getElem!_pos (baL x) i hs]
 rfl
theorem Ae (x:Idl):(baL x).size = x.length:=by simp [baL,ByteArray.size]
theorem GU:∀ {x y:Idl} {i:Nat} (hx:i < x.length) (hy:i < y.length),x.take i = y.take i → x[i] ≠ y[i] → ltB x y = decide (x[i].toNat < y[i].toNat)
 | [],_,_,hx,_,_,_ => by simp at hx
 | _ :: _,[],_,_,hy,_,_ => by simp at hy
 | a :: x,b :: y,0,_,_,_,hne => by
  simp only [List.getElem_cons_zero] at hne ⊢
  have:a.toNat ≠ b.toNat:=fun e => hne (UInt8.toNat_inj.1 e)
  unfold ltB
  by_cases h:a.toNat < b.toNat
  ·rw [if_pos h,decide_eq_true h]
  rw [if_neg h,if_pos (by omega),decide_eq_false h]
 | a :: x,b :: y,i + 1,hx,hy,ht,hne => by
  simp only [List.take_succ_cons,List.cons.injEq] at ht
  obtain ⟨rfl,ht⟩:=ht
  simp only [List.getElem_cons_succ] at hne ⊢
  unfold ltB
  rw [if_neg (by omega),if_neg (by omega)]
  exact GU (by simpa using hx) (by simpa using hy) ht hne
theorem JY {x y:Idl} (hl:x.length = y.length):decide (cmpL x y < 0) = ltB x y:=by
 unfold cmpL Extern.BytealgCompare.cmp
 rw [Ae,Ae,← hl,Nat.min_self]
 cases hf:(List.range x.length).find? fun i => (baL x)[i]! != (baL y)[i]! with
 | none =>
  have he:x = y:=by
   apply List.ext_getElem hl
   intro i h1 h2
   have:=List.find?_eq_none.1 hf i (List.mem_range.2 h1)
   rw [iV x i h1,iV y i h2] at this
   simpa using this
  subst he
  rw [dS]
  simp
 | some i =>
  have hm:=List.mem_of_find?_eq_some hf
  have h1:i < x.length:=List.mem_range.1 hm
  have h2:i < y.length:=by omega
  have hp:=List.find?_some hf
  rw [iV x i h1,iV y i h2] at hp
  have hne:x[i] ≠ y[i]:=by simpa using hp
  have ht:x.take i = y.take i:=by
   apply List.ext_getElem
   ·simp;omega
   intro j k1 k2
   have hj:j < i:=by simp at k1;omega
   rw [List.getElem_take,List.getElem_take]
   have hjn:=List.find?_range_eq_some.1 hf
   have:=hjn.2.2 j hj
   rw [iV x j (by omega),iV y j (by omega)] at this
   simpa using this
  show decide ((if (baL x)[i]! < (baL y)[i]! then (-1:Int) else 1) < 0) = ltB x y
  rw [iV x i h1,iV y i h2,GU h1 h2 ht hne]
  by_cases h:x[i] < y[i]
  ·rw [if_pos h,decide_eq_true (show x[i].toNat < y[i].toNat from h)];rfl
  rw [if_neg h,decide_eq_false (show ¬ x[i].toNat < y[i].toNat from h)];rfl
def vU (l:Idl):List Int:=l.map fun x => (x.toNat:Int)
theorem xH (l:Idl):(vU l).length = l.length:=by simp [vU]
theorem uX (l:Idl):Lib.bytesOf (vU l) = l:=by
 unfold Lib.bytesOf vU
 rw [List.map_map]
 conv => rhs;rw [← List.map_id l]
 apply List.map_congr_left
 intro x _
 show UInt8.ofNat ((x.toNat:Int)).toNat = x
 rw [Int.toNat_natCast]
 exact UInt8.toNat_inj.1 (by rw [UInt8.toNat_ofNat',Nat.mod_eq_of_lt x.toNat_lt])
theorem pR (w:World) (x:Idl) (b o:Nat) (h:w.rangeAt b o (idC x)):(Extern.Bytes.bytesOf (.slice (some ⟨b,o,none⟩) x.length x.length)).run prog w = .ok (baL x) w:=by
 have hl:=Lib.run_loadBytesX (P:=prog) w (vU x) ⟨b,o,none⟩ .empty (fun j u hj => by
  rw [Addr.add_mid]
  refine h j _ ?_
  unfold vU at hj
  unfold idC
  rw [List.getElem?_map] at hj ⊢
  cases hx:x[j]? with
  | none => rw [hx] at hj;cases hj
  | some c => rw [hx] at hj;cases hj;rfl)
 rw [xH,uX] at hl
 have he:(⟨ByteArray.empty.data ++ x.toArray⟩:ByteArray) = baL x:=by
  apply ByteArray.ext
  show (#[]:Array UInt8) ++ x.toArray = x.toArray
  simp
 rw [he] at hl
 exact hl
theorem qH (w:World) (x y:Idl) (b1 o1 b2 o2:Nat) (h1:w.rangeAt b1 o1 (idC x)) (h2:w.rangeAt b2 o2 (idC y)) :
  (Extern.BytealgCompare.compare #[.slice (some ⟨b1,o1,none⟩) x.length x.length,.slice (some ⟨b2,o2,none⟩) y.length y.length]).run prog w = .ok (.int .i64 (cmpL x y)) w:=by
 have e:Extern.BytealgCompare.compare #[.slice (some ⟨b1,o1,none⟩) x.length x.length,.slice (some ⟨b2,o2,none⟩) y.length y.length] = (do pure (goInt (Extern.BytealgCompare.cmp (← Extern.Bytes.bytesOf (.slice (some ⟨b1,o1,none⟩) x.length x.length)) (← Extern.Bytes.bytesOf (.slice (some ⟨b2,o2,none⟩) y.length y.length)))):Sem Value):=rfl
 rw [e]
 simp only [Sem.run_bind,pR w x b1 o1 h1,pR w y b2 o2 h2,Result.andThen_ok,Sem.run_pure]
 rfl
theorem ou (w:World) (x y:Idl) (b1 o1 b2 o2:Nat) (hx:x.length = 32) (hy:y.length = 32) (h1:w.rangeAt b1 o1 (idC x)) (h2:w.rangeAt b2 o2 (idC y)) :
  Calls prog 48 #[.slice (some ⟨b1,o1,none⟩) 32 32,.slice (some ⟨b2,o2,none⟩) 32 32] w fun e w' => e = .returned (.int .i64 (cmpL x y)) ∧ w = w':=by
 have hr:=qH w x y b1 o1 b2 o2 h1 h2
 rw [hx,hy] at hr
 generalize cmpL x y = c at hr
 clear h1 h2 hx hy
 go_enter func48,ntmps48
 go_wp2
 rw [run_callFunc_extern func91 (by kernel_rfl) (by kernel_rfl) (by kernel_rfl) (e:=Extern.BytealgCompare.compare) (by kernel_rfl),hr]
 simp only [Result.andThen]
 rw [Oper.upon_value]
 go_wp2
 go_ret
 exact ⟨rfl,rfl⟩
structure Pc where
 pos:Nat
 n:Nat
 t:ByteArray
def Rd.pc (r:Rd):Rd × Pc:=if (r.num 8199).2 % 2 = 1 then (((r.num 8199).1.num 4099).1,⟨((r.num 8199).1.num 4099).2,(r.num 8199).2 / 2,ByteArray.empty⟩)
 else (((r.num 8199).1.raw ((r.num 8199).2 / 2)).1,⟨0,0,((r.num 8199).1.raw ((r.num 8199).2 / 2)).2⟩)
structure Pt where
 delta:Bool
 base:Int
 text:ByteArray
def digB (n:Nat):UInt8:=if n < 10 then UInt8.ofNat (48 + n) else UInt8.ofNat (87 + n)
def hexL (x:List UInt8):List UInt8:=x.flatMap fun b => [digB (b.toNat / 16),digB (b.toNat % 16)]
def jE (b:UInt8):Option Nat:=if 48 ≤ b.toNat ∧ b.toNat ≤ 57 then some (b.toNat - 48) else if 97 ≤ b.toNat ∧ b.toNat ≤ 102 then some (b.toNat - 87) else none
def digV (s:List UInt8) (i:Nat):Nat:=(jE (s.getD i 0)).getD 0
def gy (s:List UInt8):Option (List UInt8):=if s.length = 64 ∧ s.all (fun b => (jE b).isSome) = true then some ((List.range 32).map fun i => UInt8.ofNat (16 * digV s (2 * i) + digV s (2 * i + 1))) else none
def lX (b:UInt8):Nat:=if b = 98 then 1 else if b = 116 then 2 else if b = 99 then 3 else 0
def bV (s:List UInt8):Option Ob:=match s with
 | [] => none
 | c :: l => if lX c = 0 then none else
   if ((Rd.mk (ofB l) 0 0).text 4096).1.fin ≠ 0 then none else
    if aB ⟨(lX c:Int),((Rd.mk (ofB l) 0 0).text 4096).2⟩ = true then some ⟨(lX c:Int),((Rd.mk (ofB l) 0 0).text 4096).2⟩ else none
def Rd.part (r:Rd) (i:Nat):Rd × Pt:=(((r.num 200).1.text 65536).1,⟨decide (0 < (r.num 200).2),if 0 < (r.num 200).2 then (i:Int) - ((r.num 200).2:Int) else 0,((r.num 200).1.text 65536).2⟩)
def Rd.parts:Nat → Nat → Rd → Rd × List (Pt × Nat)
 | 0,_,r => (r,[])
 | n + 1,i,r => if (r.part i).1.err ≠ 0 then ((r.part i).1,[]) else ((Rd.parts n (i + 1) (r.part i).1).1,((r.part i).2,r.pos) :: (Rd.parts n (i + 1) (r.part i).1).2)
structure Pk where
 parts:List (Pt × Nat)
 obs:List Ob
def fM:ByteArray:=⟨#[108,111,111,115,101]⟩
def jZ:ByteArray:=⟨#[112,97,99,107]⟩
def sRef:ByteArray:=⟨#[114,101,102]⟩
def bI (s:ByteArray):Option Nat:=if s = fM then some 0 else if s = jZ then some 1 else if s = sRef then some 2 else none
def nU (b:UInt8):Bool:=decide (33 ≤ b.toNat ∧ b.toNat ≤ 126 ∧ b.toNat ≠ 47)
def aN (s:ByteArray):Bool:=s.data.toList.all nU && decide (1 ≤ s.size) && decide (s.size ≤ 80)
def putT (x:ByteArray):List ByteArray → List ByteArray
 | [] => [x]
 | y :: l => if y = x then y :: l else if ltB x.data.toList y.data.toList = true then x :: y :: l else y :: putT x l
def AscT (l:List ByteArray):Prop:=l.Pairwise fun x y => ltB x.data.toList y.data.toList = true
theorem iU {a b:ByteArray} (h:a.data.toList = b.data.toList):a = b:=by
 cases a;cases b
 congr 1
 exact Array.toList_inj.1 h
theorem sD (x y:ByteArray):∀ l:List ByteArray,y ∈ putT x l ↔ y = x ∨ y ∈ l
 | [] => by simp [putT]
 | z :: l => by
  unfold putT
  split
  ·rename_i h;subst h;simp
  split
  ·simp
  rw [List.mem_cons,sD x y l,List.mem_cons]
  exact ⟨fun h => h.elim (.inr ∘ .inl) (fun h => h.elim .inl (.inr ∘ .inr)),fun h => h.elim (.inr ∘ .inl) (fun h => h.elim .inl (.inr ∘ .inr))⟩
theorem zf (x:ByteArray):∀ l:List ByteArray,AscT l → AscT (putT x l)
 | [],_ => by simp [putT,AscT]
 | z :: l,h => by
  unfold AscT at h
  rw [List.pairwise_cons] at h
  unfold putT
  split
  ·unfold AscT;rw [List.pairwise_cons];exact h
  rename_i hne
  split
  ·rename_i hlt
   unfold AscT
   rw [List.pairwise_cons,List.pairwise_cons]
   exact ⟨fun y hy => (List.mem_cons.1 hy).elim (fun e => e ▸ hlt) (fun hy => iA hlt (h.1 y hy)),h⟩
  rename_i hlt
  unfold AscT
  rw [List.pairwise_cons]
  refine ⟨fun y hy => ?_,zf x l h.2⟩
  rcases (sD x y l).1 hy with rfl | hy
  ·cases h2:ltB z.data.toList y.data.toList with
   | true => rfl
   | false => exact absurd (iU (jA h2 (by simpa using hlt))) hne
  exact h.1 y hy
theorem K9 (r:Rd) (most:Nat):(r.num most).2 ≤ most:=by
 unfold Rd.num
 split
 ·exact Nat.zero_le _
 cases h:bS r.left most 6 0 0 with
 | inl e => exact Nat.zero_le _
 | inr x => exact ((fP _ _ 6 0 0).2 x h).2.1
theorem Cy (r:Rd) (most:Nat) (h:r.err ≠ 0):(r.num most).1 = r:=by unfold Rd.num;rw [if_pos h]
end
section
open Go.RowKit Go.Maps Go.WideMaps
def small (k:Nat):Prop:=k < 1000000000
def keyN (k:Nat):Lit:=.int .i64 (k:Int)
theorem Hu:Keyed prog 3:=int_keyed underlying3
theorem JE {k:Nat} (hk:small k):(Lit.int .i64 (k:Int)).wf = true:=by
 have h1:IntKind.min .i64 = -9223372036854775808:=by decide
 have h2:IntKind.max .i64 = 9223372036854775807:=by decide
 unfold small at hk
 show (decide (IntKind.min .i64 ≤ (k:Int)) && decide ((k:Int) ≤ IntKind.max .i64)) = true
 rw [h1,h2,Bool.and_eq_true,decide_eq_true_eq,decide_eq_true_eq]
 omega
theorem JF {k:Nat} (hk:small k):keyOf prog 3 (.int .i64 (k:Int)) = some (keyN k):=keyOf_int_mk underlying3 (JE hk)
section
variable {α:Type} {enc:α → Value}
def Mf (enc:α → Value) (D:DataW Value) (f:Nat → Option α):Prop :=
 ∀ x,small x → Maps.has D (keyN x) = (f x).isSome ∧ ∀ o,f x = some o → ∀ zd,D.atKey (keyN x) zd = .held (enc o)
def MapN (enc:α → Value) (w:World) (b n:Nat) (f:Nat → Option α):Prop:=∃ D:DataW Value,w.ownsMap prog 3 cZ b n D ∧ Mf enc D f
theorem MapN.lt {w:World} {b n:Nat} {f:Nat → Option α} (h:MapN enc w b n f):b < w.heap.size:=by obtain ⟨D,h,_⟩:=h;exact h.lt
theorem MapN.heap {w w':World} {b n:Nat} {f:Nat → Option α} (h:MapN enc w b n f) (hb:w'.heap[b]? = w.heap[b]?):MapN enc w' b n f:=by
 obtain ⟨D,⟨es,clock,h1,h2⟩,h3⟩:=h
 exact ⟨D,⟨es,clock,hb.trans h1,h2⟩,h3⟩
theorem MapN.below {w w':World} {b n B:Nat} {f:Nat → Option α} (h:MapN enc w b n f) (hb:Below B w w') (hB:b < B):MapN enc w' b n f:=h.heap (hb.block b hB)
theorem MapN.on {w w':World} {b n:Nat} {f:Nat → Option α} (h:MapN enc w b n f) (hb:Below w.heap.size w w'):MapN enc w' b n f:=h.below hb h.lt
theorem MapN.grown {w w':World} {b n:Nat} {f:Nat → Option α} {row:Option Nat} (h:MapN enc w b n f) (hg:w.grownBy w' row) (hne:some b ≠ row):MapN enc w' b n f:=h.heap (hg.block b h.lt hne)
theorem MapN.look {w:World} {t e:TypeId} (ht:prog.underlying t = some (.map 3 e)) {z:Value} (hz:(zeroValue e).run prog w = .ok z w) {b n:Nat} {f:Nat → Option α} (h:MapN enc w b n f) {x:Nat} (hx:small x) :
  (Instr.lookup t (.map (some b)) (.int .i64 (x:Int)) false).run prog w = .ok (((f x).map enc).getD z) w:=by
 obtain ⟨D,hown,hs⟩:=h
 obtain ⟨v,ps,hrun,hv⟩:=hown.lookup Hu ht hz (zd:=.held z) (zp:=[]) rfl (JF hx)
 rw [hrun]
 obtain ⟨h1,h2⟩:=hs x hx
 have hv2:D.atKey (keyN x) (.held z) = .held v:=by
  unfold cZ at hv
  injection hv with hv
  exact (congrArg Prod.fst hv).symm
 cases e:f x with
 | none =>
  rw [e] at h1
  rw [atKey_of_not_has h1] at hv2
  injection hv2 with h
  rw [← h];rfl
 | some o =>
  rw [h2 o e] at hv2
  injection hv2 with h
  rw [← h];rfl
end
end
section
open Go.RowKit
def slo1:List UInt8:=[83,76,79,49]
def loOb (b:ByteArray):Option Ob:=match eG b.data.toList with
 | none => none
 | some s => if s.take 4 = slo1 then bV (s.drop 4) else none
def rdLo (nm b:ByteArray):Option Ob:=match loOb b with
 | none => none
 | some o => if ofB (hexL (idO o)) = nm then some o else none
abbrev Dk:=Nat → ByteArray → Option ByteArray
def dY (d:Dk) (x:List UInt8):Sum Nat Ob:=match d 0 (ofB (hexL x)) with
 | none => .inl 6
 | some b => match rdLo (ofB (hexL x)) b with
  | none => .inl 17
  | some o => .inr o
structure Sp where
 stem:ByteArray
 bytes:ByteArray
 pk:Pk
theorem JW:∀ i:Fin 16,jE (digB i.val) = some i.val:=by decide +kernel
theorem nZ {n:Nat} (h:n < 16):jE (digB n) = some n:=JW ⟨n,h⟩
theorem nP:∀ x:List UInt8,(hexL x).length = 2 * x.length
 | [] => rfl
 | b :: x => by
  have:=nP x
  unfold hexL at this ⊢
  rw [List.flatMap_cons,List.length_append,this]
  show 2 + 2 * x.length = 2 * (x.length + 1)
  omega
theorem lJ (b:UInt8) (x:List UInt8):hexL (b :: x) = digB (b.toNat / 16) :: digB (b.toNat % 16) :: hexL x:=rfl
theorem zJ:∀ x:List UInt8,(hexL x).all (fun b => (jE b).isSome) = true
 | [] => rfl
 | b :: x => by
  have:=b.toNat_lt
  rw [lJ,List.all_cons,List.all_cons,nZ (by omega),nZ (by omega),zJ x];rfl
theorem tJ:∀ (x:List UInt8) (k:Nat),k < x.length → digV (hexL x) (2 * k) = (x.getD k 0).toNat / 16 ∧ digV (hexL x) (2 * k + 1) = (x.getD k 0).toNat % 16
 | [],k,h => by cases h
 | b :: x,0,_ => by
  have:=b.toNat_lt
  rw [lJ]
  unfold digV
  exact ⟨by show (jE (digB _)).getD 0 = _;rw [nZ (by omega)];rfl,by show (jE (digB _)).getD 0 = _;rw [nZ (by omega)];rfl⟩
 | b :: x,k + 1,h => by
  have h2:=tJ x k (by simpa using h)
  rw [lJ]
  unfold digV at h2 ⊢
  rw [show 2 * (k + 1) = 2 * k + 1 + 1 from by omega,List.getD_cons_succ,List.getD_cons_succ,List.getD_cons_succ,List.getD_cons_succ,List.getD_cons_succ]
  exact h2
theorem vC {x:List UInt8} (h:x.length = 32):gy (hexL x) = some x:=by
 unfold gy
 rw [if_pos ⟨by rw [nP,h],zJ x⟩]
 congr 1
 refine List.ext_getElem (by simp [h]) fun k h1 h2 => ?_
 rw [List.getElem_map,List.getElem_range,(tJ x k h2).1,(tJ x k h2).2,List.getD_eq_getElem?_getD,List.getElem?_eq_getElem h2]
 show UInt8.ofNat (16 * (x[k].toNat / 16) + x[k].toNat % 16) = x[k]
 rw [Nat.div_add_mod]
 exact UInt8.ofNat_toNat
theorem Ih {x:List UInt8} (h:x.length = 32):aN (ofB (hexL x)) = true:=by
 have hd:∀ i:Fin 16,nU (digB i.val) = true:=by decide +kernel
 have ha:∀ x:List UInt8,(hexL x).all nU = true:=by
  intro x
  induction x with
  | nil => rfl
  | cons b x ih =>
   have:=b.toNat_lt
   rw [lJ,List.all_cons,List.all_cons,ih,hd ⟨_,(by omega:b.toNat / 16 < 16)⟩,hd ⟨_,(by omega:b.toNat % 16 < 16)⟩];rfl
 unfold aN
 rw [aX,ha,bq,nP,h];rfl
end
section
theorem Bd (l:List UInt8) (most:Nat) (rest:List UInt8):∀ f i N m,l.drop i = numB m ++ rest → N + m * 128 ^ i ≤ most → N + m * 128 ^ i ≤ 1099511627775 → (0 < i → 0 < m) → m < 128 ^ (f + 1) → bS l most (f + 1) i N = .inr (N + m * 128 ^ i,i + (numB m).length):=by
 intro f
 induction f with
 | zero =>
  intro i N m hd h1 h2 h3 h4
  have hm:m < 128:=by simpa using h4
  rw [fu hm] at hd ⊢
  have hl:l[i]? = some (UInt8.ofNat m):=by
   have:=congrArg (fun x => x[0]?) hd
   simpa [List.getElem?_drop] using this
  have e1:(UInt8.ofNat m).toNat = m:=by rw [UInt8.toNat_ofNat'];omega
  have e2:m % 128 = m:=Nat.mod_eq_of_lt hm
  unfold bS
  rw [hl]
  dsimp only
  rw [e1,if_neg (by omega),if_neg (fun h => by have:=h3 h.2;omega),e2,if_neg (by omega)]
  rfl
 | succ f ih =>
  intro i N m hd h1 h2 h3 h4
  by_cases hm:m < 128
  ·rw [fu hm] at hd ⊢
   have hl:l[i]? = some (UInt8.ofNat m):=by
    have:=congrArg (fun x => x[0]?) hd
    simpa [List.getElem?_drop] using this
   have e1:(UInt8.ofNat m).toNat = m:=by rw [UInt8.toNat_ofNat'];omega
   have e2:m % 128 = m:=Nat.mod_eq_of_lt hm
   unfold bS
   rw [hl]
   dsimp only
   rw [e1,if_neg (by omega),if_neg (fun h => by have:=h3 h.2;omega),e2,if_neg (by omega)]
   rfl
  have hm:128 ≤ m:=by omega
  rw [iI hm] at hd ⊢
  have hl:l[i]? = some (UInt8.ofNat (m % 128 + 128)):=by
   have:=congrArg (fun x => x[0]?) hd
   simpa [List.getElem?_drop] using this
  have hd2:l.drop (i + 1) = numB (m / 128) ++ rest:=by
   have:=congrArg List.tail hd
   simpa [List.tail_drop] using this
  have e1:(UInt8.ofNat (m % 128 + 128)).toNat = m % 128 + 128:=by rw [UInt8.toNat_ofNat'];omega
  have e2:(m % 128 + 128) % 128 = m % 128:=by omega
  have e3:N + m % 128 * 128 ^ i + m / 128 * 128 ^ (i + 1) = N + m * 128 ^ i:=by
   rw [Nat.pow_succ,Nat.add_assoc,Nat.mul_comm (128 ^ i) 128,← Nat.mul_assoc,← Nat.add_mul]
   congr 2
   omega
  unfold bS
  rw [hl]
  dsimp only
  rw [e1,if_pos (by omega),e2,ih (i + 1) _ (m / 128) hd2 (by rw [e3];exact h1) (by rw [e3];exact h2) (fun _ => by omega) (by
   rw [Nat.pow_succ] at h4
   exact Nat.div_lt_of_lt_mul (by rw [Nat.mul_comm];exact h4)),e3,List.length_cons]
  congr 2
  omega
theorem Rd.GH (r:Rd) (most n:Nat) (rest:List UInt8) (h0:r.err = 0) (hm:n ≤ most) (hn:n ≤ 1099511627775) (hl:r.left = numB n ++ rest):r.num most = ({ r with pos:=r.pos + (numB n).length },n):=by
 have h:=Bd r.left most rest 5 0 0 n (by rw [List.drop_zero];exact hl) (by omega) (by omega) (fun h => by omega) (by omega)
 unfold Rd.num
 rw [if_neg (by simp [h0]),h]
 simp
theorem Rd.Dv (r:Rd) (most:Nat) (x:ByteArray) (rest:List UInt8) (h0:r.err = 0) (hm:x.size ≤ most) (hx:x.size ≤ 1099511627775) (hl:r.left = numB x.size ++ (x.data.toList ++ rest)):r.text most = ({ r with pos:=r.pos + (numB x.size).length + x.size },x):=by
 have h1:=r.GH most x.size _ h0 hm hx hl
 have hl2:({ r with pos:=r.pos + (numB x.size).length }:Rd).left = x.data.toList ++ rest:=EJ r _ hl rfl
 obtain ⟨b,hb,hbx⟩:=Rd.Gt { r with pos:=r.pos + (numB x.size).length } x.data.toList rest h0 hl2
 have hxl:=kS x
 rw [hxl] at hb
 have e:b = x:=Ca hbx
 subst e
 unfold Rd.text
 rw [if_neg (by simp [h0]),h1]
 dsimp only
 rw [hb,if_neg (by show ¬ r.err ≠ 0;simp [h0])]
theorem xu {o:Ob} (h:aB o = true):bV (dh o) = some o:=by
 have hb:o.body.size ≤ 4096:=by
  unfold aB at h
  rw [Bool.and_eq_true,decide_eq_true_eq] at h
  exact h.1
 have hk:o.kind = 1 ∨ o.kind = 2 ∨ o.kind = 3:=by
  unfold aB at h
  rw [Bool.and_eq_true] at h
  by_cases h1:o.kind = 1
  ·exact .inl h1
  by_cases h2:o.kind = 2
  ·exact .inr (.inl h2)
  by_cases h3:o.kind = 3
  ·exact .inr (.inr h3)
  rw [if_neg h1,if_neg h2,if_neg h3] at h;exact absurd h.2 (by decide)
 have hl:ofB (numB o.body.size ++ o.body.data.toList) = ofB (numB o.body.size ++ o.body.data.toList):=rfl
 have ht:=Rd.Dv (Rd.mk (ofB (numB o.body.size ++ o.body.data.toList)) 0 0) 4096 o.body [] rfl hb (by omega) (by unfold Rd.left;rw [List.drop_zero,aX,List.append_nil])
 have hs:(ofB (numB o.body.size ++ o.body.data.toList)).size = (numB o.body.size).length + o.body.size:=by rw [bq,List.length_append,kS]
 have hc:(lX (kL o.kind):Int) = o.kind ∧ lX (kL o.kind) ≠ 0:=by
  rcases hk with h | h | h <;> rw [h] <;> decide
 unfold bV dh
 dsimp only
 rw [if_neg hc.2,ht]
 dsimp only
 rw [if_neg (by
  unfold Rd.fin
  dsimp only
  rw [if_neg (by simp),hs,if_neg (by omega)];simp),hc.1]
 exact if_pos h
theorem yB (l:List UInt8):eG (dN l) = some l:=by
 have h:=jr l
 have ht:(dN l).take ((dN l).length - 4) = l:=by
  rw [h,Nat.add_sub_cancel]
  unfold dN
  exact List.take_left
 unfold eG
 rw [ht,if_pos ⟨by omega,rfl⟩]
def looB (o:Ob):ByteArray:=ofB (dN (slo1 ++ dh o))
theorem vX {o:Ob} (h:o.body.size < 128 ^ 3):(looB o).size ≤ o.body.size + 12:=by
 have hn:(numB o.body.size).length ≤ 3:=by
  rw [numB]
  split
  ·simp
  rw [numB]
  split
  ·simp
  rw [numB]
  split
  ·simp
  exfalso;omega
 unfold looB dh
 rw [bq,jr,List.length_append,List.length_cons,List.length_append,kS]
 show 4 + ((numB o.body.size).length + o.body.size + 1) + 4 ≤ _
 omega
theorem EG {o:Ob} (h:aB o = true):loOb (looB o) = some o:=by
 unfold loOb looB
 rw [aX,yB]
 dsimp only
 rw [if_pos (by show (slo1 ++ dh o).take slo1.length = slo1;exact List.take_left)]
 show bV ((slo1 ++ dh o).drop slo1.length) = _
 rw [List.drop_left]
 exact xu h
theorem DX {o:Ob} (h:aB o = true):rdLo (ofB (hexL (idO o))) (looB o) = some o:=by
 unfold rdLo
 rw [EG h]
 dsimp only
 exact if_pos rfl
theorem BG {o:Ob} {d:Dk} (h:aB o = true) (hd:d 0 (ofB (hexL (idO o))) = some (looB o)):dY d (idO o) = .inr o:=by
 unfold dY
 rw [hd]
 dsimp only
 rw [DX h]
end
section
open Go.RowKit Go.Maps Go.WideMaps
theorem Fz:laidOutB prog = true:=by kernel_rfl
theorem IX:(259:TypeId) < prog.types.size:=of_decide_eq_true (by kernel_rfl)
theorem mP:Keyed prog 259:=Keyed.of_law (deep_law_laid Fz (m:=3) (by omega) IX (by kernel_rfl) (by kernel_rfl))
def chC (c:Idl × Int):List Value:=idC c.1 ++ [.int .i64 c.2]
theorem G6 (d:Nat) {x:Idl} (hx:x.length = 32):∃ ls,Program.keyLits prog (d + 2) 42 (idC x) = some ls:=by
 have hl:(idC x).length = 32:=by rw [au,hx]
 have hc32:Program.cellsOf prog 42 = 32:=by kernel_rfl
 have hc1:Program.cellsOf prog 5 = 1:=by kernel_rfl
 unfold Program.keyLits
 rw [underlying42]
 dsimp only
 rw [if_pos (by rw [hl,hc32]),hc1]
 rw [mapM_some _ (fun i => [Lit.int .u8 ((x.getD i 0).toNat:Int)])]
 ·exact ⟨_,rfl⟩
 intro i hi
 have hi:=List.mem_range.1 hi
 have e:((idC x).drop (i * 1)).take 1 = [Value.int .u8 ((x.getD i 0).toNat:Int)]:=by
  rw [Nat.mul_one]
  have hix:i < x.length:=by omega
  have hic:i < (idC x).length:=by omega
  rw [List.drop_eq_getElem_cons hic]
  simp [idC,hix]
 rw [e];exact vY _ _
theorem qb {x:Idl} {k:Int} (hx:x.length = 32) (h0:0 ≤ k) (hk:k ≤ 100):∃ l,keyOf prog 259 (.agg (chC (x,k)).toArray) = some l:=by
 have hkt:prog.keyType 259 = true:=by kernel_rfl
 obtain ⟨m,hm⟩:∃ m,prog.types.size = m + 3:=⟨prog.types.size - 3,by kernel_rfl⟩
 have hl:(idC x).length = 32:=by rw [au,hx]
 have hc:Program.cellsOf prog 259 = 33:=by kernel_rfl
 have hc32:Program.cellsOf prog 42 = 32:=by kernel_rfl
 have hc1:Program.cellsOf prog 3 = 1:=by kernel_rfl
 have hform:Value.formed prog 259 (.agg (chC (x,k)).toArray) = true:=by
  unfold Value.formed chC
  rw [underlying259]
  simp [hl,hc]
 obtain ⟨ls,hls⟩:=G6 (m + 1) hx
 have hint:Program.keyLits prog (m + 3) 3 [Value.int .i64 k] = some [.int .i64 k]:=by
  have hw:(Lit.int .i64 k).wf = true:=by
   simp only [Lit.wf,Bool.and_eq_true,decide_eq_true_eq]
   have e1:IntKind.i64.min = -9223372036854775808:=by decide
   have e2:IntKind.i64.max = 9223372036854775807:=by decide
   rw [e1,e2];omega
  unfold Program.keyLits
  rw [underlying3]
  simp [hw]
 have hlits:∃ ls,Program.keyLits prog (prog.types.size + 1) 259 (chC (x,k)) = some ls:=by
  rw [hm]
  unfold Program.keyLits chC
  rw [underlying259]
  dsimp only
  rw [if_pos ⟨by rw [List.length_append,hl,hc];rfl,by kernel_rfl⟩]
  have e1:((idC x ++ [Value.int .i64 k]).drop 0).take 32 = idC x:=by rw [List.drop_zero,← hl,List.take_left]
  have e2:((idC x ++ [Value.int .i64 k]).drop 32).take 1 = [Value.int .i64 k]:=by rw [← hl,List.drop_left];rfl
  simp only [List.mapM_cons,List.mapM_nil,hc32,hc1,e1,e2,hls,hint]
  exact ⟨_,rfl⟩
 obtain ⟨ls2,hls2⟩:=hlits
 unfold keyOf
 rw [underlying259]
 dsimp only
 rw [if_pos (by rw [hkt,hform];rfl)]
 exact ⟨_,by show ((Program.keyLits prog _ _ (chC (x,k)).toArray.toList).map _) = _;rw [List.toList_toArray,hls2];rfl⟩
def MapW (w:World) (b n:Nat):Prop:=∃ D:DataW Value,w.ownsMap prog 259 cZ b n D ∧ ∀ kl c,∃ c',D.atKey kl (.held (.bool c)) = .held (.bool c')
theorem MapW.lt {w:World} {b n:Nat} (h:MapW w b n):b < w.heap.size:=by obtain ⟨D,h,_⟩:=h;exact h.lt
theorem MapW.heap {w w':World} {b n:Nat} (h:MapW w b n) (hb:w'.heap[b]? = w.heap[b]?):MapW w' b n:=by
 obtain ⟨D,⟨es,clock,h1,h2⟩,h3⟩:=h
 exact ⟨D,⟨es,clock,hb.trans h1,h2⟩,h3⟩
theorem MapW.on {w w':World} {b n:Nat} (h:MapW w b n) (hb:Below w.heap.size w w'):MapW w' b n:=h.heap (hb.block b h.lt)
theorem MapW.grown {w w':World} {b n:Nat} {row:Option Nat} (h:MapW w b n) (hg:w.grownBy w' row) (hne:some b ≠ row):MapW w' b n:=h.heap (hg.block b h.lt hne)
theorem Es (w:World):MapW (w.alloc (.map #[] 0)) w.heap.size 0:=⟨_,World.ownsMap_made _ _ _ _,fun _ c => ⟨c,rfl⟩⟩
theorem MapW.look {w:World} {t e:TypeId} (ht:prog.underlying t = some (.map 259 e)) (hz:(zeroValue e).run prog w = .ok (.bool false) w) {b n:Nat} (h:MapW w b n) {x:Idl} {k:Int} (hx:x.length = 32) (h0:0 ≤ k) (hk:k ≤ 100) :
  ∃ c,(Instr.lookup t (.map (some b)) (.agg (chC (x,k)).toArray) false).run prog w = .ok (.bool c) w:=by
 obtain ⟨D,hown,hs⟩:=h
 obtain ⟨kl,hkl⟩:=qb hx h0 hk
 obtain ⟨v,ps,hrun,hv⟩:=hown.lookup mP ht hz (zd:=.held (.bool false)) (zp:=[]) rfl hkl
 obtain ⟨c,hc⟩:=hs kl false
 have hv2:D.atKey kl (.held (.bool false)) = .held v:=by
  unfold cZ at hv
  injection hv with hv
  exact (congrArg Prod.fst hv).symm
 rw [hc] at hv2
 injection hv2 with hv2
 exact ⟨c,by rw [hrun,hv2]⟩
theorem qD {w:World} {ops:Array Oper} {rest:List Oper} {o:Oper} {a:Act} {Q:Exit → Act → World → Prop} (hg:o.guard = none) (m x v:Operand) (t e:TypeId) (hop:o.op = Op.mapUpdate t m x v)
  (ht:prog.underlying t = some (.map 259 e)) (b n:Nat) (hm:a.eval m = .map (some b)) (hown:MapW w b n) (p:Idl) (k:Int) (hp:p.length = 32) (h0:0 ≤ k) (hk:k ≤ 100) (c:Bool) (hx:a.eval x = .agg (chC (p,k)).toArray) (hv:a.eval v = .bool c) (hn:n < maxLen)
  (hK:∀ w',MapW w' b (n + 1) → w.grownBy w' (some b) → wpList prog ops Q rest (a.put o.dst undef) w'):wpList prog ops Q (o :: rest) a w:=by
 obtain ⟨D,hown,hD⟩:=hown
 obtain ⟨kl,hkl⟩:=qb hp h0 hk
 refine wpList_mapUpdate_own w hg m x v t hop 259 e mP ht cZ b n D hm hown hn (.agg (chC (p,k)).toArray) (.bool c) kl hx hv hkl _ [] rfl fun w' h1 h2 => hK w' ⟨_,h1,fun kl2 d => ?_⟩ h2
 by_cases e:kl2 = kl
 ·subst e
  exact ⟨c,atKey_put_same hown.isMap (mP.key hkl) _ _⟩
 obtain ⟨c',hc'⟩:=hD kl2 d
 exact ⟨c',by rw [atKey_put_other e];exact hc'⟩
def encB (b:Bool):Value:=.bool b
def setF (l:List Idl) (x:Idl):Option Bool:=if x ∈ l then some true else none
def SetI (w:World) (b n:Nat) (l:List Idl):Prop:=MapG encB w b n (setF l) ∧ l.Nodup ∧ ∀ x ∈ l,x.length = 32
theorem vJ {l:List Idl} {x:Idl}:(setF l x).isSome = true ↔ x ∈ l:=by
 unfold setF;split <;> simp_all
theorem SetI.lt {w:World} {b n:Nat} {l:List Idl} (h:SetI w b n l):b < w.heap.size:=h.1.lt
theorem SetI.heap {w w':World} {b n:Nat} {l:List Idl} (h:SetI w b n l) (hb:w'.heap[b]? = w.heap[b]?):SetI w' b n l:=⟨h.1.heap hb,h.2⟩
theorem SetI.on {w w':World} {b n:Nat} {l:List Idl} (h:SetI w b n l) (hb:Below w.heap.size w w'):SetI w' b n l:=⟨h.1.on hb,h.2⟩
theorem SetI.mono {w:World} {b n n':Nat} {l:List Idl} (h:SetI w b n l) (hn:n ≤ n'):SetI w b n' l:=by obtain ⟨⟨D,h1,h2⟩,h3⟩:=h;exact ⟨⟨D,h1.mono hn,h2⟩,h3⟩
theorem iy (w:World):SetI (w.alloc (.map #[] 0)) w.heap.size 0 []:=⟨(Et w).ext fun x _ => by unfold setF;simp,List.nodup_nil,fun _ h => by cases h⟩
def addI (l:List Idl) (x:Idl):List Idl:=if x ∈ l then l else x :: l
theorem dW {l:List Idl} {x y:Idl}:y ∈ addI l x ↔ y = x ∨ y ∈ l:=by
 unfold addI
 split
 ·rename_i h
  exact ⟨.inr,fun h2 => h2.elim (fun e => e ▸ h) id⟩
 exact List.mem_cons
theorem SetI.add {w w':World} {b n n':Nat} {l:List Idl} (h:SetI w b n l) {x:Idl} (hx:x.length = 32) (hm:MapG encB w' b n' fun q => if q = x then some true else setF l q):SetI w' b n' (addI l x):=by
 refine ⟨hm.ext fun y _ => ?_,?_,fun y hy => ?_⟩
 ·by_cases e:y = x
  ·rw [if_pos e];unfold setF;rw [if_pos (dW.2 (.inl e))]
  rw [if_neg e]
  unfold setF
  by_cases h2:y ∈ l
  ·rw [if_pos h2,if_pos (dW.2 (.inr h2))]
  rw [if_neg h2,if_neg fun h3 => (dW.1 h3).elim e h2]
 ·unfold addI
  split
  ·exact h.2.1
  rename_i hn;exact List.nodup_cons.2 ⟨hn,h.2.1⟩
 rcases dW.1 hy with rfl | hy
 ·exact hx
 exact h.2.2 y hy
theorem SetI.del {w w':World} {b n n':Nat} {l:List Idl} (h:SetI w b n l) {x:Idl} (hm:MapG encB w' b n' fun q => if q = x then none else setF l q):SetI w' b n' (l.filter fun y => decide (y ≠ x)):=by
 refine ⟨hm.ext fun y _ => ?_,h.2.1.filter _,fun y hy => h.2.2 y (List.mem_filter.1 hy).1⟩
 unfold setF
 by_cases e:y = x
 ·rw [if_pos e,if_neg (by simp [e])]
 rw [if_neg e]
 by_cases h2:y ∈ l
 ·rw [if_pos h2,if_pos (by simp [e,h2])]
 rw [if_neg h2,if_neg (by simp [h2])]
end
end Go.Proofs.YtlhcoanbhnphgaaGreatDoor

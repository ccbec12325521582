/- A part of this claim. -/
import Derived.Lib.SpaceUEq
import Derived.Lib.TrimUEq
import Derived.Shelf.GgClosure.StringsIndexFunc
import Derived.Test.YtijhemdnajlfnaaGreatDoorR7
import Derived.Test.YtijhemdnajlfnaaGreatDoorR9
namespace Go.Proofs.YtijhemdnajlfnaaGreatDoor
set_option maxHeartbeats 64000000
set_option maxRecDepth 100000
section
def numB (n:Nat):List UInt8:=if n < 128 then [UInt8.ofNat n] else UInt8.ofNat (n % 128 + 128) :: numB (n / 128)
termination_by n
theorem iO {n:Nat} (h:n < 128):numB n = [UInt8.ofNat n]:=by rw [numB,if_pos h]
theorem lD {n:Nat} (h:128 ≤ n):numB n = UInt8.ofNat (n % 128 + 128) :: numB (n / 128):=by rw [numB,if_neg (by omega)]
theorem Oq {b:UInt8} {n:Nat} (h:b.toNat = n):UInt8.ofNat n = b:=by rw [← h];exact UInt8.ofNat_toNat
theorem rY (l:List UInt8) (most:Nat):∀ f i N n j,bG l most f i N = .inr (n,j) → ∃ m,n = N + m * 128 ^ i ∧ i < j ∧ l.drop i = numB m ++ l.drop j ∧ (0 < i → 0 < m)
 | 0,i,N,n,j,h => by cases h
 | f + 1,i,N,n,j,h => by
  unfold bG at h
  cases hl:l[i]? with
  | none => rw [hl] at h;cases h
  | some b =>
   rw [hl] at h;dsimp only at h
   have hi:i < l.length:=(List.getElem?_eq_some_iff.1 hl).1
   have hd:l.drop i = b :: l.drop (i + 1):=by rw [List.drop_eq_getElem_cons hi,(List.getElem?_eq_some_iff.1 hl).2]
   have hb:=b.toNat_lt
   by_cases h1:128 ≤ b.toNat
   ·rw [if_pos h1] at h
    obtain ⟨m,e1,e2,e3,e4⟩:=rY l most f (i + 1) _ n j h
    have hm:=e4 (by omega)
    refine ⟨b.toNat % 128 + 128 * m,?_,by omega,?_,fun _ => by omega⟩
    ·rw [e1,Nat.pow_succ,Nat.add_mul,Nat.add_assoc];congr 2
     rw [Nat.mul_comm (128 ^ i) 128,← Nat.mul_assoc,Nat.mul_comm m 128]
    rw [hd,e3,lD (n:=b.toNat % 128 + 128 * m) (by omega)]
    have q1:(b.toNat % 128 + 128 * m) % 128 + 128 = b.toNat:=by omega
    have q2:(b.toNat % 128 + 128 * m) / 128 = m:=by omega
    rw [q1,q2,Oq rfl];rfl
   rw [if_neg h1] at h
   by_cases h2:b.toNat = 0 ∧ 0 < i
   ·rw [if_pos h2] at h;cases h
   rw [if_neg h2] at h
   by_cases h3:1099511627775 < N + b.toNat % 128 * 128 ^ i ∨ most < N + b.toNat % 128 * 128 ^ i
   ·rw [if_pos h3] at h;cases h
   rw [if_neg h3] at h
   cases h
   have hm:b.toNat % 128 = b.toNat:=by omega
   refine ⟨b.toNat,by rw [hm],by omega,?_,fun h => by omega⟩
   rw [hd,iO (by omega),Oq rfl];rfl
theorem Rd.E9 (r:Rd) (most:Nat) (h:r.err ≠ 0):r.num most = (r,0):=by unfold Rd.num;rw [if_pos h]
theorem Rd.EJ (r:Rd) (n:Nat) (h:r.err ≠ 0):r.raw n = (r,ByteArray.empty):=by unfold Rd.raw;rw [if_pos h]
theorem Rd.Bw (r:Rd) (n:Nat) (h:r.err ≠ 0):r.text n = (r,ByteArray.empty):=by unfold Rd.text;rw [if_pos h]
theorem Rd.qU (r:Rd) (most:Nat) (h:(r.num most).1.err = 0):r.err = 0 ∧ r.left = numB (r.num most).2 ++ (r.num most).1.left ∧ r.pos < (r.num most).1.pos:=by
 have h0:r.err = 0:=by
  by_cases h0:r.err = 0
  ·exact h0
  rw [Rd.E9 _ _ h0] at h;exact absurd h h0
 refine ⟨h0,?_⟩
 unfold Rd.num at h ⊢
 rw [if_neg (by simp [h0])] at h ⊢
 cases e:bG r.left most 6 0 0 with
 | inl x =>
  rw [e] at h
  have:=((eD r.left most 6 0 0).1 x e).2
  exact absurd h (by show x ≠ 0;omega)
 | inr x =>
  dsimp only
  obtain ⟨m,e1,e2,e3,_⟩:=rY r.left most 6 0 0 x.1 x.2 e
  rw [Nat.pow_zero,Nat.mul_one,Nat.zero_add] at e1
  rw [List.drop_zero] at e3
  refine ⟨?_,by omega⟩
  rw [e1]
  show _ = numB m ++ r.s.data.toList.drop (r.pos + x.2)
  rw [← List.drop_drop];exact e3
theorem Rd.yG (r:Rd) (n:Nat) (hf:r.fine) (h:(r.raw n).1.err = 0):r.err = 0 ∧ r.left = (r.raw n).2.data.toList ++ (r.raw n).1.left ∧ (r.raw n).2.size = n ∧ (r.raw n).1.pos = r.pos + n:=by
 have h0:r.err = 0:=by
  by_cases h0:r.err = 0
  ·exact h0
  rw [Rd.EJ _ _ h0] at h;exact absurd h h0
 refine ⟨h0,?_⟩
 unfold Rd.raw at h ⊢
 rw [if_neg (by simp [h0])] at h ⊢
 by_cases h1:r.s.size - r.pos < n
 ·rw [if_pos h1] at h;cases h
 rw [if_neg h1]
 have hp:=hf.pos
 refine ⟨?_,?_,rfl⟩
 ·show r.s.data.toList.drop r.pos = (r.s.extract r.pos (r.pos + n)).data.toList ++ r.s.data.toList.drop (r.pos + n)
  rw [ByteArray.data_extract,Array.toList_extract,List.extract_eq_take_drop,← List.drop_drop,Nat.add_sub_cancel_left,List.take_append_drop]
 show (r.s.extract r.pos (r.pos + n)).size = n
 rw [ByteArray.size_extract];omega
theorem Rd.tY (r:Rd) (most:Nat) (hf:r.fine) (h:(r.text most).1.err = 0):r.err = 0 ∧ r.left = numB (r.text most).2.size ++ ((r.text most).2.data.toList ++ (r.text most).1.left) ∧ (r.text most).2.size ≤ most ∧ r.pos < (r.text most).1.pos:=by
 have h0:r.err = 0:=by
  by_cases h0:r.err = 0
  ·exact h0
  rw [Rd.Bw _ _ h0] at h;exact absurd h h0
 refine ⟨h0,?_⟩
 unfold Rd.text at h ⊢
 rw [if_neg (by simp [h0])] at h ⊢
 by_cases h1:((r.num most).1.raw (r.num most).2).1.err ≠ 0
 ·rw [if_pos h1] at h;exact absurd h h1
 rw [if_neg h1]
 have h2:((r.num most).1.raw (r.num most).2).1.err = 0:=by simpa using h1
 obtain ⟨a1,a2,a3,a4⟩:=Rd.yG _ _ (Rd.aT r most hf).1 h2
 obtain ⟨_,b2,b3⟩:=Rd.qU r most a1
 refine ⟨?_,by rw [a3];exact (Rd.aT r most hf).2,by omega⟩
 rw [b2,a3,a2]
theorem Mh (s:ByteArray) (h:s.size = 32):idOf s = s.data.toList:=by
 unfold idOf
 apply List.ext_getElem
 ·simp;exact h.symm
 intro i h1 h2
 have h3:i < s.data.size:=by simpa using h2
 simp [blk,Array.getElem?_eq_getElem h3]
theorem Rd.vU (r:Rd) (hf:r.fine) (h:r.id.1.err = 0):r.err = 0 ∧ r.left = r.id.2 ++ r.id.1.left ∧ r.id.1.pos = r.pos + 32:=by
 obtain ⟨h0,h1,h2,h3⟩:=Rd.yG r 32 hf h
 exact ⟨h0,by show _ = idOf _ ++ _;rw [Mh _ h2];exact h1,h3⟩
theorem Rd.lH (r:Rd) (h:r.fine):r.id.1.fine:=Rd.jE r 32 h
theorem Rd.wE (r:Rd) (h:r.fin = 0):r.err = 0 ∧ r.left = []:=by
 unfold Rd.fin at h
 by_cases h0:r.err = 0
 ·rw [if_neg (by simp [h0])] at h
  by_cases h1:r.pos < r.s.size
  ·rw [if_pos h1] at h;cases h
  exact ⟨h0,by unfold Rd.left;exact List.drop_eq_nil_of_le (by simp;omega)⟩
 rw [if_pos h0] at h;exact absurd h h0
theorem Rd.wJ (r:Rd) (most:Nat) (h:r.err ≤ 4):(r.num most).1.err ≤ 4:=by
 unfold Rd.num;split
 ·exact h
 split
 ·rename_i e he;exact ((eD r.left most 6 0 0).1 e he).1
 exact h
theorem Rd.wI (r:Rd) (n:Nat) (h:r.err ≤ 4):(r.raw n).1.err ≤ 4:=by
 unfold Rd.raw;split
 ·exact h
 split
 ·show 3 ≤ 4;omega
 exact h
theorem Rd.J3 (r:Rd) (n:Nat) (h:r.err ≤ 4):(r.text n).1.err ≤ 4:=by
 unfold Rd.text;split
 ·exact h
 split
 ·exact Rd.wI _ _ (Rd.wJ r n h)
 exact Rd.wI _ _ (Rd.wJ r n h)
theorem Rd.N9 (r:Rd) (h:r.err ≤ 4):r.id.1.err ≤ 4:=Rd.wI r 32 h
theorem Rd.OI (r:Rd) (n:Nat):(r.text n).1.s = r.s:=by
 unfold Rd.text;split
 ·rfl
 split
 ·show ((r.num n).1.raw (r.num n).2).1.s = r.s;rw [Rd.uQ,Rd.kL]
 rw [Rd.uQ,Rd.kL]
theorem Rd.id_s (r:Rd):r.id.1.s = r.s:=Rd.uQ r 32
structure Ent where
 name:ByteArray
 kind:Nat
 id:List UInt8
def Rd.entry (r:Rd):Rd × Ent:=(((r.num 2).1.text 32).1.id.1,⟨((r.num 2).1.text 32).2,(r.num 2).2,((r.num 2).1.text 32).1.id.2⟩)
def Rd.more (r:Rd):Bool:=decide (r.err = 0 ∧ r.pos < r.s.size)
def Rd.ents:Nat → Rd → Rd × List Ent
 | 0,r => (r,[])
 | f + 1,r => if r.more = true then ((Rd.ents f r.entry.1).1,r.entry.2 :: (Rd.ents f r.entry.1).2) else (r,[])
def Ent.bytes (e:Ent):List UInt8:=numB e.kind ++ (numB e.name.size ++ e.name.data.toList) ++ e.id
def l8 (l:List Ent):List UInt8:=(l.map Ent.bytes).flatten
theorem Rd.jH (r:Rd) (h:r.fine):r.entry.1.fine:=Rd.lH _ (Rd.dK _ _ (Rd.aT r 2 h).1)
theorem Rd.wN (r:Rd) (h:r.err ≤ 4):r.entry.1.err ≤ 4:=Rd.N9 _ (Rd.J3 _ _ (Rd.wJ r 2 h))
theorem Rd.GX (r:Rd):r.entry.1.s = r.s:=by
 show ((r.num 2).1.text 32).1.id.1.s = r.s
 rw [Rd.id_s,Rd.OI,Rd.kL]
theorem Rd.iY (r:Rd) (hf:r.fine) (h:r.entry.1.err = 0):r.err = 0 ∧ r.left = r.entry.2.bytes ++ r.entry.1.left ∧ r.pos + 32 < r.entry.1.pos ∧ r.entry.2.name.size ≤ 32 ∧ r.entry.2.kind ≤ 2:=by
 have f1:=(Rd.aT r 2 hf).1
 have f2:=Rd.dK _ 32 f1
 obtain ⟨a0,a1,a2⟩:=Rd.vU _ f2 h
 obtain ⟨b0,b1,b2,b3⟩:=Rd.tY _ 32 f1 a0
 obtain ⟨c0,c1,c2⟩:=Rd.qU r 2 b0
 refine ⟨c0,?_,?_,b2,(Rd.aT r 2 hf).2⟩
 ·rw [c1,b1,a1];unfold Ent.bytes;simp only [List.append_assoc];rfl
 show r.pos + 32 < ((r.num 2).1.text 32).1.id.1.pos
 rw [a2];omega
theorem Rd.oM:∀ f (r:Rd),r.fine → (r.ents f).1.err = 0 → r.err = 0 ∧ r.left = l8 (r.ents f).2 ++ (r.ents f).1.left
 | 0,r,_,h => ⟨h,by simp [Rd.ents,l8]⟩
 | f + 1,r,hf,h => by
  unfold Rd.ents at h ⊢
  by_cases hm:r.more = true
  ·rw [if_pos hm] at h ⊢
   obtain ⟨h1,h2⟩:=Rd.oM f _ (r.jH hf) h
   obtain ⟨g0,g1,_⟩:=r.iY hf h1
   refine ⟨g0,?_⟩
   show r.left = l8 (r.entry.2 :: (Rd.ents f r.entry.1).2) ++ _
   rw [g1,h2];simp [l8]
  rw [if_neg hm] at h ⊢
  exact ⟨h,by simp [l8]⟩
theorem Rd.oL:∀ f (r:Rd),r.fine → (r.ents f).1.err = 0 → ∀ e ∈ (r.ents f).2,e.name.size ≤ 32 ∧ e.kind ≤ 2
 | 0,_,_,_,e,he => by cases he
 | f + 1,r,hf,h,e,he => by
  unfold Rd.ents at h he
  by_cases hm:r.more = true
  ·rw [if_pos hm] at h he
   obtain ⟨h1,_⟩:=Rd.oM f _ (r.jH hf) h
   obtain ⟨_,_,_,g3,g4⟩:=r.iY hf h1
   rcases List.mem_cons.1 he with rfl | h2
   ·exact ⟨g3,g4⟩
   exact Rd.oL f _ (r.jH hf) h e h2
  rw [if_neg hm] at he;cases he
def Rd.iC:Nat → Rd → List Ent → Rd × List Ent
 | 0,r,l => (r,l)
 | f + 1,r,l => if r.more = true then Rd.iC f r.entry.1 (l ++ [r.entry.2]) else (r,l)
theorem Rd.wK:∀ f (r:Rd) l,r.iC f l = ((r.ents f).1,l ++ (r.ents f).2)
 | 0,r,l => by simp [Rd.iC,Rd.ents]
 | f + 1,r,l => by
  unfold Rd.iC Rd.ents
  split
  ·rw [Rd.wK f];simp
  simp
theorem Rd.NI (r:Rd) (h:r.err ≤ 4):r.more = decide (r.fin = 5):=by
 unfold Rd.more Rd.fin
 by_cases h0:r.err = 0
 ·by_cases h1:r.pos < r.s.size
  ·simp [h0,h1]
  simp [h0,h1]
 have:r.err ≠ 5:=by omega
 simp [h0,this]
def iI (c:UInt8):Bool:=decide (33 ≤ c.toNat ∧ c.toNat ≤ 126 ∧ c.toNat ≠ 47)
def dV (s:ByteArray):Bool:=s.data.toList.all iI && decide (1 ≤ s.size ∧ s.size ≤ 32)
def dP (e:Ent):Bool:=dV e.name && decide (1 ≤ e.kind ∧ e.kind ≤ 2)
def ltB:List UInt8 → List UInt8 → Bool
 | [],[] => false
 | [],_ :: _ => true
 | _ :: _,[] => false
 | a :: x,b :: y => if a.toNat < b.toNat then true else if b.toNat < a.toNat then false else ltB x y
def mR:List Ent → Bool
 | a :: b :: l => ltB a.name.data.toList b.name.data.toList && mR (b :: l)
 | _ => true
def eY (l:List Ent):Bool:=l.all dP && mR l && decide (l.length ≤ 32)
def rd0 (s:ByteArray):Rd:=⟨s,0,0⟩
def jA (s:ByteArray):Rd × List Ent:=(rd0 s).ents (s.size + 1)
def bQ (s:ByteArray):Option (List Ent):=if (jA s).1.fin = 0 ∧ eY (jA s).2 = true then some (jA s).2 else none
theorem gW (s:ByteArray) (h:s.size ≤ 1000000):(rd0 s).fine:=⟨Nat.zero_le _,h,Nat.zero_le _⟩
theorem Ac (s:ByteArray) (hs:s.size ≤ 1000000) (h:(jA s).1.fin = 0):l8 (jA s).2 = s.data.toList:=by
 obtain ⟨h1,h2⟩:=Rd.wE _ h
 have:=(Rd.oM _ _ (gW s hs) h1).2
 rw [show ((rd0 s).ents (s.size + 1)).1.left = [] from h2,List.append_nil] at this
 exact this.symm
def Rd.ids:Nat → Rd → Rd × List (List UInt8)
 | 0,r => (r,[])
 | n + 1,r => ((Rd.ids n r.id.1).1,r.id.2 :: (Rd.ids n r.id.1).2)
def Rd.commit (r:Rd):Rd × (List UInt8 × List (List UInt8) × ByteArray) :=
 ((((r.id.1.num 4).1.ids (r.id.1.num 4).2).1.text 64).1,r.id.2,((r.id.1.num 4).1.ids (r.id.1.num 4).2).2,(((r.id.1.num 4).1.ids (r.id.1.num 4).2).1.text 64).2)
def nK (c:List UInt8 × List (List UInt8) × ByteArray):List UInt8:=c.1 ++ (numB c.2.1.length ++ (c.2.1.flatten ++ (numB c.2.2.size ++ c.2.2.data.toList)))
theorem Rd.iy:∀ n (r:Rd),r.fine → (r.ids n).1.fine
 | 0,_,h => h
 | n + 1,r,h => Rd.iy n _ (r.lH h)
theorem Rd.sZ:∀ n (r:Rd),(r.ids n).2.length = n
 | 0,_ => rfl
 | n + 1,r => by show (Rd.ids n r.id.1).2.length + 1 = n + 1;rw [Rd.sZ n]
theorem Rd.tu:∀ n (r:Rd),∀ x ∈ (r.ids n).2,x.length = 32
 | 0,_,x,h => by cases h
 | n + 1,r,x,h => by
  rcases List.mem_cons.1 h with rfl | h2
  ·exact gF _
  exact Rd.tu n _ x h2
theorem Rd.vT:∀ n (r:Rd),r.ids (n + 1) = ((r.ids n).1.id.1,(r.ids n).2 ++ [(r.ids n).1.id.2])
 | 0,r => rfl
 | n + 1,r => by
  show ((Rd.ids (n + 1) r.id.1).1,r.id.2 :: (Rd.ids (n + 1) r.id.1).2) = _
  rw [Rd.vT n];rfl
theorem Rd.zn:∀ n (r:Rd),r.fine → (r.ids n).1.err = 0 → r.err = 0 ∧ r.left = (r.ids n).2.flatten ++ (r.ids n).1.left
 | 0,r,_,h => ⟨h,by simp [Rd.ids]⟩
 | n + 1,r,hf,h => by
  obtain ⟨h1,h2⟩:=Rd.zn n _ (r.lH hf) h
  obtain ⟨g0,g1,_⟩:=r.vU hf h1
  refine ⟨g0,?_⟩
  show r.left = (r.id.2 :: (Rd.ids n r.id.1).2).flatten ++ (Rd.ids n r.id.1).1.left
  rw [g1,h2];simp
theorem Rd.sD (r:Rd) (h:r.fine):r.commit.1.fine:=Rd.dK _ _ (Rd.iy _ _ (Rd.aT _ 4 (r.lH h)).1)
theorem Rd.AZ (r:Rd) (hf:r.fine) (h:r.commit.1.err = 0):r.left = nK r.commit.2 ++ r.commit.1.left:=by
 have f1:=r.lH hf
 have f2:=(Rd.aT _ 4 f1).1
 have f3:=Rd.iy (r.id.1.num 4).2 _ f2
 obtain ⟨a0,a1,_⟩:=Rd.tY _ 64 f3 h
 obtain ⟨b0,b1⟩:=Rd.zn _ _ f2 a0
 obtain ⟨c0,c1,_⟩:=Rd.qU _ 4 b0
 obtain ⟨_,d1,_⟩:=r.vU hf c0
 unfold nK
 show r.left = (r.id.2 ++ (numB ((r.id.1.num 4).1.ids (r.id.1.num 4).2).2.length ++ _)) ++ _
 rw [Rd.sZ,d1,c1,b1,a1]
 simp only [List.append_assoc];rfl
def Lu (l:List (List UInt8)):Bool:=decide l.Nodup
def aZ (c:List UInt8 × List (List UInt8) × ByteArray):Bool:=Lu c.2.1 && decide (c.2.1.length ≤ 4 ∧ c.2.2.size ≤ 64)
def aJ (s:ByteArray):Option (List UInt8 × List (List UInt8) × ByteArray):=if (rd0 s).commit.1.fin = 0 ∧ aZ (rd0 s).commit.2 = true then some (rd0 s).commit.2 else none
theorem wZ (s:ByteArray) (hs:s.size ≤ 1000000) (h:(rd0 s).commit.1.fin = 0):nK (rd0 s).commit.2 = s.data.toList:=by
 obtain ⟨h1,h2⟩:=Rd.wE _ h
 have:=(rd0 s).AZ (gW s hs) h1
 rw [h2,List.append_nil] at this
 exact this.symm
structure Ob where
 kind:Int
 body:ByteArray
def aC (o:Ob):Bool:=decide (o.body.size ≤ 4096) && (if o.kind = 1 then true else if o.kind = 2 then (bQ o.body).isSome else if o.kind = 3 then (aJ o.body).isSome else false)
def gD (k:Int):UInt8:=if k = 2 then 116 else if k = 3 then 99 else 98
def fI (o:Ob):List UInt8:=gD o.kind :: (numB o.body.size ++ o.body.data.toList)
theorem bS:∀ x,ltB x x = false
 | [] => rfl
 | a :: x => by unfold ltB;rw [if_neg (by omega),if_neg (by omega)];exact bS x
theorem kN:∀ {x y z},ltB x y = true → ltB y z = true → ltB x z = true
 | [],[],_,h,_ => by cases h
 | [],_ :: _,[],_,h => by cases h
 | [],_ :: _,_ :: _,_,_ => rfl
 | _ :: _,[],_,h,_ => by cases h
 | _ :: _,_ :: _,[],_,h => by cases h
 | a :: x,b :: y,c :: z,h,k => by
  unfold ltB at h k ⊢
  by_cases h1:a.toNat < b.toNat
  ·by_cases k1:b.toNat < c.toNat
   ·rw [if_pos (by omega)]
   rw [if_neg k1] at k
   by_cases k2:c.toNat < b.toNat
   ·rw [if_pos k2] at k;cases k
   rw [if_pos (by omega)]
  rw [if_neg h1] at h
  by_cases h2:b.toNat < a.toNat
  ·rw [if_pos h2] at h;cases h
  rw [if_neg h2] at h
  by_cases k1:b.toNat < c.toNat
  ·rw [if_pos (by omega)]
  rw [if_neg k1] at k
  by_cases k2:c.toNat < b.toNat
  ·rw [if_pos k2] at k;cases k
  rw [if_neg k2] at k
  rw [if_neg (by omega),if_neg (by omega)]
  exact kN h k
theorem kP:∀ {x y},ltB x y = false → ltB y x = false → x = y
 | [],[],_,_ => rfl
 | [],_ :: _,h,_ => by cases h
 | _ :: _,[],_,h => by cases h
 | a :: x,b :: y,h,k => by
  unfold ltB at h k
  by_cases h1:a.toNat < b.toNat
  ·rw [if_pos h1] at h;cases h
  rw [if_neg h1] at h
  by_cases h2:b.toNat < a.toNat
  ·rw [if_pos h2] at k;cases k
  rw [if_neg h2] at h k
  rw [if_neg h1] at k
  rw [kP h k,UInt8.toNat_inj.1 (show a.toNat = b.toNat by omega)]
theorem y8 {x y:List UInt8} (h:ltB x y = true):ltB y x = false:=by
 cases e:ltB y x with
 | false => rfl
 | true => have:=kN h e;rw [bS] at this;cases this
def AscL (l:List (List UInt8)):Prop:=l.Pairwise fun x y => ltB x y = true
theorem AscL.nodup {l:List (List UInt8)} (h:AscL l):l.Nodup:=h.imp fun {x y} h e => by subst e;rw [bS] at h;cases h
theorem DW:∀ {l m:List (List UInt8)},AscL l → AscL m → (∀ x,x ∈ l ↔ x ∈ m) → l = m
 | [],[],_,_,_ => rfl
 | [],b :: m,_,_,h => absurd ((h b).2 (by simp)) (by simp)
 | a :: l,[],_,_,h => absurd ((h a).1 (by simp)) (by simp)
 | a :: l,b :: m,hl,hm,h => by
  obtain ⟨hl1,hl2⟩:=List.pairwise_cons.1 hl
  obtain ⟨hm1,hm2⟩:=List.pairwise_cons.1 hm
  have e:a = b:=by
   rcases List.mem_cons.1 ((h a).1 (by simp)) with e | h1
   ·exact e
   rcases List.mem_cons.1 ((h b).2 (by simp)) with e | h2
   ·exact e.symm
   have:=kN (hm1 a h1) (hl1 b h2);rw [bS] at this;cases this
  subst e
  rw [DW hl2 hm2 fun x => ?_]
  constructor
  ·intro hx
   rcases List.mem_cons.1 ((h x).1 (List.mem_cons_of_mem _ hx)) with rfl | h1
   ·have:=hl1 x hx;rw [bS] at this;cases this
   exact h1
  intro hx
  rcases List.mem_cons.1 ((h x).2 (List.mem_cons_of_mem _ hx)) with rfl | h1
  ·have:=hm1 x hx;rw [bS] at this;cases this
  exact h1
def EM (l:List (List UInt8)) (x:List UInt8):Nat:=(l.takeWhile fun y => ltB y x).length
def putL (l:List (List UInt8)) (x:List UInt8):List (List UInt8):=if l[EM l x]? = some x then l else l.take (EM l x) ++ [x] ++ l.drop (EM l x)
def idO (o:Ob):List UInt8:=shaR (ofB (fI o))
def rights (l:List Ob):List Ob:=l.filter aC
def getS (l:List Ob) (x:List UInt8):Option Ob:=(rights l).find? fun o => decide (idO o = x)
def badR (r:Nat):Bool:=decide (r < 33) || (decide (126 < r) || decide (r = 47))
theorem Kc (s:ByteArray) (pos:Nat) (h:128 ≤ (s.data.toList.getD pos 0).toNat):badR (Utf8.decode s pos).1 = true:=by
 rw [Lib.decode_N]
 have:128 ≤ (Lib.decodeN (s.data.toList.length - pos) (s.data.toList.getD pos 0).toNat (s.data.toList.getD (pos + 1) 0).toNat (s.data.toList.getD (pos + 2) 0).toNat (s.data.toList.getD (pos + 3) 0).toNat).1:=by
  rcases Lib.decodeN_cases (s.data.toList.length - pos) (s.data.toList.getD pos 0).toNat (s.data.toList.getD (pos + 1) 0).toNat (s.data.toList.getD (pos + 2) 0).toNat (s.data.toList.getD (pos + 3) 0).toNat with ⟨h1,_⟩ | ⟨_,_,_,h1,h2⟩ | ⟨_,_,_,_,h1,h2⟩ | ⟨h1,_⟩ | h2
  ·omega
  ·rw [h2];exact h1
  ·rw [h2];show 128 ≤ _;omega
  ·omega
  rw [h2];show 128 ≤ 65533;omega
 unfold badR
 rw [show decide (126 < (Lib.decodeN _ _ _ _ _).1) = true from decide_eq_true (by omega)]
 simp
theorem Ka (s:ByteArray) (pos:Nat) (h:(s.data.toList.getD pos 0).toNat < 128):Utf8.decode s pos = ((s.data.toList.getD pos 0).toNat,1):=by
 rw [Lib.decode_N,Lib.decodeN_ascii _ _ _ _ _ h]
theorem Km (b:UInt8):badR b.toNat = !iI b:=by
 unfold badR iI
 by_cases h1:b.toNat < 33
 ·have:¬ (33 ≤ b.toNat ∧ b.toNat ≤ 126 ∧ b.toNat ≠ 47):=by omega
  simp only [decide_eq_true h1,decide_eq_false this];rfl
 by_cases h2:126 < b.toNat
 ·have:¬ (33 ≤ b.toNat ∧ b.toNat ≤ 126 ∧ b.toNat ≠ 47):=by omega
  simp only [decide_eq_false h1,decide_eq_true h2,decide_eq_false this];rfl
 by_cases h3:b.toNat = 47
 ·have:¬ (33 ≤ b.toNat ∧ b.toNat ≤ 126 ∧ b.toNat ≠ 47):=by omega
  simp only [decide_eq_false h1,decide_eq_false h2,decide_eq_true h3,decide_eq_false this];rfl
 have:33 ≤ b.toNat ∧ b.toNat ≤ 126 ∧ b.toNat ≠ 47:=by omega
 simp only [decide_eq_false h1,decide_eq_false h2,decide_eq_false h3,decide_eq_true this];rfl
theorem zm (s:ByteArray):∀ f pos,s.size - pos ≤ f → decide (0 ≤ Lib.idxFuncFrom badR true s f pos) = !(s.data.toList.drop pos).all iI
 | 0,pos,h => by
  rw [List.drop_eq_nil_of_le (by simp;omega)];rfl
 | f + 1,pos,h => by
  unfold Lib.idxFuncFrom
  by_cases hp:pos < s.size
  ·have hpl:pos < s.data.toList.length:=by simpa using hp
   rw [if_pos hp,List.drop_eq_getElem_cons hpl,List.all_cons]
   have hg:s.data.toList.getD pos 0 = s.data.toList[pos]:=by rw [List.getD_eq_getElem?_getD,List.getElem?_eq_getElem hpl];rfl
   by_cases hb:(s.data.toList.getD pos 0).toNat < 128
   ·rw [Ka s pos hb]
    dsimp only
    rw [Km,hg]
    cases hn:iI s.data.toList[pos] with
    | true => rw [if_neg (by simp)];exact zm s f (pos + 1) (by omega)
    | false => rw [if_pos (by rfl)];rw [decide_eq_true (by omega:(0:Int) ≤ pos)];rfl
   rw [if_pos (Kc s pos (by omega)),decide_eq_true (by omega:(0:Int) ≤ pos)]
   have:iI s.data.toList[pos] = false:=by
    unfold iI;rw [hg] at hb;exact decide_eq_false (by omega)
   rw [this];rfl
  rw [if_neg hp,List.drop_eq_nil_of_le (by simp;omega)];rfl
theorem qp (s:ByteArray):decide (0 ≤ Lib.idxFunc badR true s) = !s.data.toList.all iI:=by
 have:=zm s s.size 0 (by omega)
 rw [List.drop_zero] at this
 exact this
abbrev Lfs:=List (ByteArray × ByteArray)
abbrev FRes:=Sum Nat (Lfs × Nat)
end
section
open Go.RowKit
structure Pc where
 pos:Nat
 n:Nat
 t:ByteArray
def aN (b:Nat) (p:Pc):Option (Nat × Nat):=if 1 ≤ p.n ∧ p.n ≤ 4099 ∧ p.t.size = 0 ∧ p.n ≤ b ∧ p.pos ≤ b - p.n then some (p.pos,p.n) else none
def lenP (b:Nat) (p:Pc):Nat:=if p.pos = 0 ∧ p.n = 0 ∧ p.t.size ≤ 4099 then p.t.size else match aN b p with
 | some x => x.2
 | none => 0
def bI (b:Nat) (p:Pc):Bool:=if p.pos = 0 ∧ p.n = 0 then decide (1 ≤ p.t.size ∧ p.t.size ≤ 4099) else (aN b p).isSome
theorem fU {b:Nat} {p:Pc} {x:Nat × Nat} (h:aN b p = some x):x = (p.pos,p.n) ∧ 1 ≤ p.n ∧ p.n ≤ 4099 ∧ p.t.size = 0 ∧ p.pos + p.n ≤ b:=by
 unfold aN at h
 split at h
 ·rename_i hc
  cases h
  exact ⟨rfl,by omega,by omega,by omega,by omega⟩
 cases h
theorem uK (b:Nat) (p:Pc):bI b p = decide (0 < lenP b p):=by
 unfold bI lenP
 by_cases h:p.pos = 0 ∧ p.n = 0
 ·rw [if_pos h]
  by_cases h2:p.t.size ≤ 4099
  ·rw [if_pos ⟨h.1,h.2,h2⟩]
   exact decide_eq_decide.2 ⟨fun x => by omega,fun x => ⟨by omega,h2⟩⟩
  have hc:aN b p = none:=by unfold aN;rw [if_neg (by omega)]
  rw [if_neg (fun x => h2 x.2.2),hc]
  rw [decide_eq_false (fun x => h2 x.2)];rfl
 rw [if_neg h,if_neg (fun x => h ⟨x.1,x.2.1⟩)]
 cases hc:aN b p with
 | none => rfl
 | some x =>
  obtain ⟨rfl,h1,_⟩:=fU hc
  exact (decide_eq_true (show 0 < p.n by omega)).symm
def wQ (b:Nat) (p:Pc):Nat:=match aN b p with
 | some x => x.2
 | none => p.t.size
theorem zG {b:Nat} {p:Pc} (h:bI b p = true):wQ b p = lenP b p:=by
 unfold bI at h
 unfold wQ lenP
 by_cases h0:p.pos = 0 ∧ p.n = 0
 ·rw [if_pos h0] at h
  have:=of_decide_eq_true h
  have hc:aN b p = none:=by unfold aN;rw [if_neg (by omega)]
  rw [hc,if_pos ⟨h0.1,h0.2,this.2⟩]
 rw [if_neg h0] at h
 rw [if_neg (fun x => h0 ⟨x.1,x.2.1⟩)]
 obtain ⟨x,hx⟩:=Option.isSome_iff_exists.1 h
 rw [hx]
def sumP (b:Nat) (l:List Pc):Nat:=(l.map (lenP b)).sum
def bA (b:Nat) (l:List Pc):Sum Nat Nat:=if 4099 < b then .inl 1 else if l.all (bI b) = false then .inl 1 else if 4099 < sumP b l then .inl 19 else .inr (sumP b l)
def cO (base:ByteArray) (p:Pc):List UInt8:=match aN base.size p with
 | some x => (base.data.toList.drop x.1).take x.2
 | none => p.t.data.toList
def iZ (base:ByteArray) (l:List Pc):Sum Nat (List UInt8):=match bA base.size l with
 | .inl e => .inl e
 | .inr _ => .inr (l.flatMap (cO base))
theorem yj (b:Nat) (p:Pc) (l:List Pc):sumP b (p :: l) = lenP b p + sumP b l:=by unfold sumP;rw [List.map_cons,List.sum_cons]
theorem yh (b:Nat) (l:List Pc) (p:Pc):sumP b (l ++ [p]) = sumP b l + lenP b p:=by unfold sumP;rw [List.map_append,List.sum_append];simp
theorem Gi (b:Nat):∀ l:List Pc,l.all (bI b) = true → l.length ≤ sumP b l
 | [],_ => Nat.zero_le _
 | p :: l,h => by
  rw [List.all_cons,Bool.and_eq_true,uK] at h
  have h1:=of_decide_eq_true h.1
  have h2:=Gi b l h.2
  rw [yj,List.length_cons]
  omega
theorem DT {b:Nat} {l:List Pc} (h:4099 < l.length):∃ e,bA b l = .inl e:=by
 unfold bA
 split
 ·exact ⟨_,rfl⟩
 split
 ·exact ⟨_,rfl⟩
 rename_i h2
 have:=Gi b l (by simpa using h2)
 rw [if_pos (by omega)]
 exact ⟨_,rfl⟩
def Rd.pc (r:Rd):Rd × Pc:=if (r.num 8199).2 % 2 = 1 then (((r.num 8199).1.num 4099).1,⟨((r.num 8199).1.num 4099).2,(r.num 8199).2 / 2,ByteArray.empty⟩)
 else (((r.num 8199).1.raw ((r.num 8199).2 / 2)).1,⟨0,0,((r.num 8199).1.raw ((r.num 8199).2 / 2)).2⟩)
def Rd.pcs:Nat → Rd → List Pc → Rd × List Pc
 | 0,r,l => (r,l)
 | f + 1,r,l => if r.more = true then Rd.pcs f r.pc.1 (l ++ [r.pc.2]) else (r,l)
def dU (d:ByteArray):Option (Nat × List Pc) :=
 if (Rd.pcs (d.size + 1) (((Rd.mk d 0 0).num 4099).1.num 4099).1 []).1.fin ≠ 0 then none else
  match bA ((Rd.mk d 0 0).num 4099).2 (Rd.pcs (d.size + 1) (((Rd.mk d 0 0).num 4099).1.num 4099).1 []).2 with
  | .inl _ => none
  | .inr n => if n = (((Rd.mk d 0 0).num 4099).1.num 4099).2 then some (((Rd.mk d 0 0).num 4099).2,(Rd.pcs (d.size + 1) (((Rd.mk d 0 0).num 4099).1.num 4099).1 []).2) else none
def dH (base d:ByteArray):Sum Nat (List UInt8):=match dU d with
 | none => .inl 2
 | some x => if x.1 ≠ base.size then .inl 19 else iZ base x.2
structure Pt where
 delta:Bool
 base:Int
 text:ByteArray
def cZ (l:List Pt):Nat → Nat → Sum Nat (List Nat)
 | 0,_ => .inl 11
 | f + 1,k => match l[k]? with
  | none => .inl 1
  | some p => if p.delta = true then (if p.base < 0 ∨ (k:Int) ≤ p.base then .inl 2 else match cZ l f p.base.toNat with
    | .inl e => .inl e
    | .inr ks => .inr (k :: ks))
   else if p.base ≠ 0 then .inl 2 else .inr [k]
def bM (l:List Pt) (k:Nat):Sum Nat (List Nat):=if 200 < l.length ∨ l.length ≤ k then .inl 1 else cZ l 5 k
def textOf (p:Pt) (base:ByteArray):Sum Nat ByteArray:=if p.delta = true then (match dH base p.text with
  | .inl e => .inl e
  | .inr t => .inr (ofB t)) else if 4099 < p.text.size then .inl 19 else .inr p.text
def gI (l:List Pt):List Nat → Sum Nat ByteArray
 | [] => .inr ByteArray.empty
 | k :: ks => match gI l ks with
  | .inl e => .inl e
  | .inr s => textOf (l.getD k ⟨false,0,ByteArray.empty⟩) s
def bq (l:List Pt) (k:Nat):Sum Nat ByteArray:=match bM l k with
 | .inl e => .inl e
 | .inr ks => gI l ks
def bJ (l:List Pt) (i:Nat):Nat → Sum Nat (List ByteArray)
 | 0 => .inr []
 | n + 1 => match bq l i with
  | .inl e => .inl e
  | .inr s => match bJ l (i + 1) n with
   | .inl e => .inl e
   | .inr ss => .inr (s :: ss)
def cu (l:List Pt):Sum Nat (List ByteArray):=if 200 < l.length then .inl 1 else bJ l 0 l.length
def jd (b many:Nat) (x:Rd × List Pc):Option (Nat × List Pc):=if x.1.fin ≠ 0 then none else match bA b x.2 with
 | .inl _ => none
 | .inr n => if n = many then some (b,x.2) else none
def bOf (d:ByteArray):Nat:=((Rd.mk d 0 0).num 4099).2
def fF (d:ByteArray):Nat:=(((Rd.mk d 0 0).num 4099).1.num 4099).2
def rdOf (d:ByteArray):Rd:=(((Rd.mk d 0 0).num 4099).1.num 4099).1
theorem Ci (d:ByteArray):dU d = jd (bOf d) (fF d) (Rd.pcs (d.size + 1) (rdOf d) []):=rfl
theorem Lm (f:Nat) {r:Rd} (l:List Pc) (h:r.more = false):Rd.pcs f r l = (r,l):=by
 cases f with
 | zero => rfl
 | succ f => unfold Rd.pcs;rw [if_neg (by rw [h];decide)]
theorem OM (f:Nat) {r:Rd} (l:List Pc) (h:r.more = true):Rd.pcs (f + 1) r l = Rd.pcs f r.pc.1 (l ++ [r.pc.2]):=by
 conv => lhs;unfold Rd.pcs
 rw [if_pos h]
theorem Gs:∀ (f:Nat) (r:Rd) (l:List Pc),l.length ≤ (Rd.pcs f r l).2.length
 | 0,_,_ => Nat.le_refl _
 | f + 1,r,l => by
  unfold Rd.pcs
  split
  ·have:=Gs f r.pc.1 (l ++ [r.pc.2])
   rw [List.length_append] at this
   simp only [List.length_cons,List.length_nil] at this
   omega
  exact Nat.le_refl _
theorem gY (r:Rd) (most:Nat):(r.num most).2 ≤ most:=by
 unfold Rd.num
 split
 ·exact Nat.zero_le _
 cases h:bG r.left most 6 0 0 with
 | inl e => exact Nat.zero_le _
 | inr x => exact ((eD _ _ 6 0 0).2 x h).2.1
theorem Ay (r:Rd) (most:Nat) (h:r.err = 0) (h2:(r.num most).1.err = 0):r.pos < (r.num most).1.pos:=by
 unfold Rd.num at h2 ⊢
 rw [if_neg (by omega)] at h2 ⊢
 cases hg:bG r.left most 6 0 0 with
 | inl e =>
  rw [hg] at h2
  have h3:e = 0:=h2
  have:=((eD _ _ 6 0 0).1 e hg).2
  omega
 | inr x =>
  have:=((eD _ _ 6 0 0).2 x hg).2.2.1
  show r.pos < r.pos + x.2
  omega
theorem fQ (r:Rd) (most:Nat) (h:r.err ≠ 0):(r.num most).1 = r:=by unfold Rd.num;rw [if_pos h]
theorem Gq (r:Rd) (n:Nat) (h:r.err ≠ 0):(r.raw n).1 = r:=by unfold Rd.raw;rw [if_pos h]
theorem Nt (r:Rd) (n:Nat):r.pos ≤ (r.raw n).1.pos:=by
 unfold Rd.raw
 split
 ·exact Nat.le_refl _
 split
 ·exact Nat.le_refl _
 show r.pos ≤ r.pos + n;omega
theorem pG (r:Rd):(r.pc.1 = ((r.num 8199).1.num 4099).1 ∨ r.pc.1 = ((r.num 8199).1.raw ((r.num 8199).2 / 2)).1):=by
 unfold Rd.pc
 split
 ·exact .inl rfl
 exact .inr rfl
theorem NA (r:Rd) (h:r.fine):r.pc.1.fine:=by
 have h1:=(Rd.aT r 8199 h).1
 rcases pG r with e | e
 ·rw [e];exact (Rd.aT _ 4099 h1).1
 rw [e];exact Rd.jE _ _ h1
theorem pc_s (r:Rd):r.pc.1.s = r.s:=by
 rcases pG r with e | e
 ·rw [e,Rd.kL,Rd.kL]
 rw [e,Rd.uQ,Rd.kL]
theorem Ls (r:Rd) (h:r.err ≠ 0):r.pc.1 = r:=by
 rcases pG r with e | e
 ·rw [e,fQ r _ h,fQ r _ h]
 rw [e,fQ r _ h,Gq r _ h]
theorem LB (r:Rd) (most:Nat) (h:(r.num most).1.err = 0):r.err = 0:=by
 rcases Nat.eq_zero_or_pos r.err with h0 | h0
 ·exact h0
 rw [fQ r most (by omega)] at h;exact h
theorem K8 (r:Rd) (n:Nat) (h:(r.raw n).1.err = 0):r.err = 0:=by
 rcases Nat.eq_zero_or_pos r.err with h0 | h0
 ·exact h0
 rw [Gq r n (by omega)] at h;exact h
theorem Lp (r:Rd) (h:r.err = 0) (h2:r.pc.1.err = 0):r.pos < r.pc.1.pos:=by
 rcases pG r with e | e
 ·rw [e] at h2 ⊢
  have h3:=LB _ _ h2
  have h4:=Ay _ _ h h3
  have h5:=Ay _ _ h3 h2
  omega
 rw [e] at h2 ⊢
 have h3:=K8 _ _ h2
 have h4:=Ay _ _ h h3
 have h5:=Nt (r.num 8199).1 ((r.num 8199).2 / 2)
 omega
theorem Ot (r:Rd):r.pc.2.pos ≤ 4099 ∧ r.pc.2.n ≤ 4099 ∧ r.pc.2.t.size ≤ 4099:=by
 have h1:=gY r 8199
 unfold Rd.pc
 split
 ·refine ⟨gY _ _,by show (r.num 8199).2 / 2 ≤ 4099;omega,Nat.zero_le _⟩
 refine ⟨Nat.zero_le _,Nat.zero_le _,?_⟩
 have:=Rd.jD (r.num 8199).1 ((r.num 8199).2 / 2)
 show ((r.num 8199).1.raw ((r.num 8199).2 / 2)).2.size ≤ 4099
 omega
structure Pend (d:ByteArray) (r:Rd) (l:List Pc):Prop where
 rest:∃ f,dU d = jd (bOf d) (fF d) (Rd.pcs f r l) ∧ (r.err = 0 → r.s.size + 1 ≤ f + r.pos)
 s:r.s = d
 fine:r.fine
 ok:∀ p ∈ l,p.pos ≤ 100000 ∧ p.n ≤ 100000 ∧ p.t.size ≤ 1000000
 len:l.length ≤ d.size + 1
 at0:r.err = 0 → l.length ≤ r.pos
theorem oG {d:ByteArray} (h:d.size ≤ 1000000):Pend d (rdOf d) []:=by
 have hf:(Rd.mk d 0 0).fine:=⟨Nat.zero_le _,h,Nat.zero_le _⟩
 have hs:(rdOf d).s = d:=by unfold rdOf;rw [Rd.kL,Rd.kL]
 exact ⟨⟨d.size + 1,Ci d,fun _ => by rw [hs];omega⟩,hs,(Rd.aT _ _ (Rd.aT _ _ hf).1).1,fun p hp => (by cases hp),Nat.zero_le _,fun _ => Nat.zero_le _⟩
theorem MH {r:Rd} (h:r.fin = 0):r.more = false:=by
 unfold Rd.fin at h
 unfold Rd.more
 split at h
 ·omega
 split at h
 ·omega
 exact decide_eq_false (by omega)
theorem vE {r:Rd} (h0:r.err = 0) (h:r.fin ≠ 0):r.more = true:=by
 unfold Rd.fin at h
 unfold Rd.more
 rw [if_neg (by omega)] at h
 split at h
 ·exact decide_eq_true ⟨h0,by omega⟩
 omega
theorem GU {r:Rd} (h:r.err ≠ 0):r.fin ≠ 0:=by unfold Rd.fin;rw [if_pos h];exact h
theorem DC {r:Rd} (h:r.err ≠ 0):r.more = false:=decide_eq_false (fun x => h x.1)
theorem CR {r:Rd} (h:r.more = true):r.err = 0 ∧ r.pos < r.s.size:=of_decide_eq_true h
theorem nA {d:ByteArray} {r:Rd} {l:List Pc} (h:Pend d r l) (hm:r.more = true):Pend d r.pc.1 (l ++ [r.pc.2]):=by
 obtain ⟨h0,hp⟩:=CR hm
 obtain ⟨f,h1,h2⟩:=h.rest
 have h3:=h2 h0
 obtain ⟨g,rfl⟩:∃ g,f = g + 1:=⟨f - 1,by omega⟩
 rw [OM g l hm] at h1
 have hl:=h.at0 h0
 have hs:=h.s
 have hps:=pc_s r
 refine ⟨⟨g,h1,fun e => ?_⟩,hps.trans hs,NA r h.fine,fun p hp => ?_,?_,fun e => ?_⟩
 ·have:=Lp r h0 e
  rw [hps];omega
 ·rcases List.mem_append.1 hp with hp | hp
  ·exact h.ok p hp
  rcases List.mem_singleton.1 hp with rfl
  have:=Ot r
  omega
 ·rw [List.length_append]
  rw [hs] at hp
  simp only [List.length_cons,List.length_nil]
  omega
 have:=Lp r h0 e
 rw [List.length_append]
 simp only [List.length_cons,List.length_nil]
 omega
theorem ny {d:ByteArray} {r:Rd} {l:List Pc} (h:Pend d r l) (hm:r.more = false):dU d = jd (bOf d) (fF d) (r,l):=by
 obtain ⟨f,h1,_⟩:=h.rest
 rw [Lm f l hm] at h1
 exact h1
theorem lg {d:ByteArray} {r:Rd} {l:List Pc} (h:Pend d r l) (hf:r.fin ≠ 0) (hw:r.pc.1.err ≠ 0 ∨ 4099 < l.length + 1):dU d = none:=by
 by_cases h0:r.err = 0
 ·have hm:=vE h0 hf
  rcases hw with hw | hw
  ·rw [ny (nA h hm) (DC hw)]
   unfold jd
   rw [if_pos (GU hw)]
  obtain ⟨f,h1,_⟩:=(nA h hm).rest
  rw [h1]
  have hl:=Gs f r.pc.1 (l ++ [r.pc.2])
  unfold jd
  split
  ·rfl
  obtain ⟨e,he⟩:=DT (b:=bOf d) (l:=(Rd.pcs f r.pc.1 (l ++ [r.pc.2])).2) (by rw [List.length_append] at hl;simp only [List.length_cons,List.length_nil] at hl;omega)
  rw [he]
 rw [ny h (DC h0)]
 unfold jd
 rw [if_pos hf]
end
end Go.Proofs.YtijhemdnajlfnaaGreatDoor

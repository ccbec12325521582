/- A part of this claim. -/
import Derived.DeepKeys4
import Derived.Laws.Externs
import Derived.Lib.BytesEntry
import Derived.Lib.SpaceUEq
import Derived.Lib.TrimUEq
import Derived.Shelf.GgClosure.StringsIndexFunc
import Derived.Stop.BytesEq
import Derived.Test.YtlhcoanbhnphgaaGreatDoorXm1
import Derived.Test.YtlhcoanbhnphgaaGreatDoorXm6
import Derived.Test.YtlhcoanbhnphgaaGreatDoorXm8
import Derived.WideKeyArr
import Derived.WideKeyEntry
namespace Go.Proofs.YtlhcoanbhnphgaaGreatDoor
open Tryz
set_option maxHeartbeats 64000000
set_option maxRecDepth 100000
set_option linter.all false
section
def aQ (n:Nat):List UInt8:=if n<128 then [UInt8.ofNat n] else UInt8.ofNat (n%128+128)::aQ (n/128)
termination_by n
theorem fu {n:Nat} (h:n<128):aQ n=[UInt8.ofNat n]:=by rw [aQ,if_pos h]
theorem je {n:Nat} (h:128≤n):aQ n=UInt8.ofNat (n%128+128)::aQ (n/128):=by rw [aQ,if_neg (by omega)]
theorem Pp {b:UInt8} {n:Nat} (h:b.toNat=n):UInt8.ofNat n=b:=by rw [←h];exact UInt8.ofNat_toNat
theorem uD (l:List UInt8) (a:Nat):∀f i N n j,bI l a f i N= .inr (n,j)→ ∃m,n=N+m*128^i∧i<j∧l.drop i=aQ m++l.drop j∧(0<i→0<m)
 | 0,i,N,n,j,h=>by cases h
 | f+1,i,N,n,j,h=>by
  unfold bI at h
  cases d:l[i]? with
  | none=>rw [d] at h;cases h
  | some b =>
   rw [d] at h;dsimp only at h
   have hi:i<l.length:=(List.getElem?_eq_some_iff.1 d).1
   have hd:l.drop i=b::l.drop (i+1):=by rw [List.drop_eq_getElem_cons hi,(List.getElem?_eq_some_iff.1 d).2]
   have hb:=b.toNat_lt
   by_cases h1:128≤b.toNat
   ·rw [if_pos h1] at h
    obtain ⟨m,p,q,o,k⟩:=uD l a f (i+1) _ n j h
    have hm:=k (by omega)
    refine ⟨b.toNat%128+128*m,?_,by omega,?_,fun _=>by omega⟩
    ·rw [p,Nat.pow_succ,Nat.add_mul,Nat.add_assoc];congr 2
     rw [Nat.mul_comm (128^i) 128,←Nat.mul_assoc,Nat.mul_comm m 128]
    rw [hd,o,je (n:=b.toNat%128+128*m) (by omega)]
    have q1:(b.toNat%128+128*m)%128+128=b.toNat:=by omega
    have q2:(b.toNat%128+128*m)/128=m:=by omega
    rw [q1,q2,Pp rfl];rfl
   rw [if_neg h1] at h
   by_cases e:b.toNat=0∧0<i
   ·rw [if_pos e] at h;cases h
   rw [if_neg e] at h
   by_cases g:1099511627775<N+b.toNat%128*128^i∨a<N+b.toNat%128*128^i
   ·rw [if_pos g] at h;cases h
   rw [if_neg g] at h
   cases h
   have hm:b.toNat%128=b.toNat:=by omega
   refine ⟨b.toNat,by rw [hm],by omega,?_,fun h=>by omega⟩
   rw [hd,fu (by omega),Pp rfl];rfl
theorem Rd.FR (r:Rd) (a:Nat) (h:r.err≠0):r.num a=(r,0):=by unfold Rd.num;rw [if_pos h]
theorem Rd.FJ (r:Rd) (n:Nat) (h:r.err≠0):r.raw n=(r,ByteArray.empty):=by unfold Rd.raw;rw [if_pos h]
theorem Rd.CX (r:Rd) (n:Nat) (h:r.err≠0):r.text n=(r,ByteArray.empty):=by unfold Rd.text;rw [if_pos h]
theorem Rd.sW (r:Rd) (a:Nat) (h:(r.num a).1.err=0):r.err=0∧r.left=aQ (r.num a).2++(r.num a).1.left∧r.pos<(r.num a).1.pos:=by
 have b:r.err=0:=by
  by_cases b:r.err=0
  ·exact b
  rw [Rd.FR _ _ b] at h;exact absurd h b
 refine ⟨b,?_⟩
 unfold Rd.num at h ⊢
 rw [if_neg (by simp [b])] at h ⊢
 cases e:bI r.left a 6 0 0 with
 | inl x =>
  rw [e] at h
  have:=((iF r.left a 6 0 0).1 x e).2
  exact absurd h (by show x≠0;omega)
 | inr x =>
  dsimp only
  obtain ⟨m,f,g,d,_⟩:=uD r.left a 6 0 0 x.1 x.2 e
  rw [Nat.pow_zero,Nat.mul_one,Nat.zero_add] at f
  rw [List.drop_zero] at d
  refine ⟨?_,by omega⟩
  rw [f]
  show _=aQ m++r.s.data.toList.drop (r.pos+x.2)
  rw [←List.drop_drop];exact d
theorem Rd.Ag (r:Rd) (n:Nat) (b:r.fine) (h:(r.raw n).1.err=0):r.err=0∧r.left=(r.raw n).2.data.toList++(r.raw n).1.left∧(r.raw n).2.size=n∧(r.raw n).1.pos=r.pos+n:=by
 have a:r.err=0:=by
  by_cases a:r.err=0
  ·exact a
  rw [Rd.FJ _ _ a] at h;exact absurd h a
 refine ⟨a,?_⟩
 unfold Rd.raw at h ⊢
 rw [if_neg (by simp [a])] at h ⊢
 by_cases h1:r.s.size-r.pos<n
 ·rw [if_pos h1] at h;cases h
 rw [if_neg h1]
 have d:=b.pos
 refine ⟨?_,?_,rfl⟩
 ·show r.s.data.toList.drop r.pos=(r.s.extract r.pos (r.pos+n)).data.toList++r.s.data.toList.drop (r.pos+n)
  rw [ByteArray.data_extract,Array.toList_extract,List.extract_eq_take_drop,←List.drop_drop,Nat.add_sub_cancel_left,List.take_append_drop]
 show (r.s.extract r.pos (r.pos+n)).size=n
 rw [ByteArray.size_extract];omega
theorem Rd.wK (r:Rd) (a:Nat) (d:r.fine) (h:(r.text a).1.err=0):r.err=0∧r.left=aQ (r.text a).2.size++((r.text a).2.data.toList++(r.text a).1.left)∧(r.text a).2.size≤a∧r.pos<(r.text a).1.pos:=by
 have b:r.err=0:=by
  by_cases b:r.err=0
  ·exact b
  rw [Rd.CX _ _ b] at h;exact absurd h b
 refine ⟨b,?_⟩
 unfold Rd.text at h ⊢
 rw [if_neg (by simp [b])] at h ⊢
 by_cases h1:((r.num a).1.raw (r.num a).2).1.err≠0
 ·rw [if_pos h1] at h;exact absurd h h1
 rw [if_neg h1]
 have e:((r.num a).1.raw (r.num a).2).1.err=0:=by simpa using h1
 obtain ⟨a1,a2,a3,a4⟩:=Rd.Ag _ _ (Rd.cB r a d).1 e
 obtain ⟨_,f,g⟩:=Rd.sW r a a1
 refine ⟨?_,by rw [a3];exact (Rd.cB r a d).2,by omega⟩
 rw [f,a3,a2]
theorem MZ (s:ByteArray) (h:s.size=32):mP s=s.data.toList:=by
 unfold mP
 apply List.ext_getElem
 ·simp;exact h.symm
 intro i h1 a
 have b:i<s.data.size:=by simpa using a
 simp [blk,Array.getElem?_eq_getElem b]
theorem Rd.yh (r:Rd) (b:r.fine) (h:r.id.1.err=0):r.err=0∧r.left=r.id.2++r.id.1.left∧r.id.1.pos=r.pos+32:=by
 obtain ⟨d,h1,a,e⟩:=Rd.Ag r 32 b h
 exact ⟨d,by show _=mP _++_;rw [MZ _ a];exact h1,e⟩
theorem Rd.lW (r:Rd) (h:r.fine):r.id.1.fine:=Rd.xB r 32 h
theorem Rd.yA (r:Rd) (h:r.fin=0):r.err=0∧r.left=[]:=by
 unfold Rd.fin at h
 by_cases a:r.err=0
 ·rw [if_neg (by simp [a])] at h
  by_cases h1:r.pos<r.s.size
  ·rw [if_pos h1] at h;cases h
  exact ⟨a,by unfold Rd.left;exact List.drop_eq_nil_of_le (by simp;omega)⟩
 rw [if_pos a] at h;exact absurd h a
theorem Rd.yC (r:Rd) (a:Nat) (h:r.err≤4):(r.num a).1.err≤4:=by
 unfold Rd.num;split
 ·exact h
 split
 ·rename_i e b;exact ((iF r.left a 6 0 0).1 e b).1
 exact h
theorem Rd.yB (r:Rd) (n:Nat) (h:r.err≤4):(r.raw n).1.err≤4:=by
 unfold Rd.raw;split
 ·exact h
 split
 ·show 3≤4;omega
 exact h
theorem Rd.Ko (r:Rd) (n:Nat) (h:r.err≤4):(r.text n).1.err≤4:=by
 unfold Rd.text;split
 ·exact h
 split
 ·exact Rd.yB _ _ (Rd.yC r n h)
 exact Rd.yB _ _ (Rd.yC r n h)
theorem Rd.OV (r:Rd) (h:r.err≤4):r.id.1.err≤4:=Rd.yB r 32 h
theorem Rd.PZ (r:Rd) (n:Nat):(r.text n).1.s=r.s:=by
 unfold Rd.text;split
 ·rfl
 split
 ·show ((r.num n).1.raw (r.num n).2).1.s=r.s;rw [Rd.He,Rd.Hr]
 rw [Rd.He,Rd.Hr]
theorem Rd.QO (r:Rd):r.id.1.s=r.s:=Rd.He r 32
structure Ent where
 name:ByteArray
 kind:Nat
 id:List UInt8
def Rd.entry (r:Rd):Rd×Ent:=(((r.num 2).1.text 32).1.id.1,⟨((r.num 2).1.text 32).2,(r.num 2).2,((r.num 2).1.text 32).1.id.2⟩)
def Rd.more (r:Rd):Bool:=decide (r.err=0∧r.pos<r.s.size)
def Rd.ents:Nat→Rd→Rd×List Ent
 | 0,r=>(r,[])
 | f+1,r=>if r.more=true then ((Rd.ents f r.entry.1).1,r.entry.2::(Rd.ents f r.entry.1).2) else (r,[])
def Ent.bytes (e:Ent):List UInt8:=aQ e.kind++(aQ e.name.size++e.name.data.toList)++e.id
def mZ (l:List Ent):List UInt8:=(l.map Ent.bytes).flatten
theorem Rd.jg (r:Rd) (h:r.fine):r.entry.1.fine:=Rd.lW _ (Rd.dI _ _ (Rd.cB r 2 h).1)
theorem Rd.yG (r:Rd) (h:r.err≤4):r.entry.1.err≤4:=Rd.OV _ (Rd.Ko _ _ (Rd.yC r 2 h))
theorem Rd.Ie (r:Rd):r.entry.1.s=r.s:=by
 show ((r.num 2).1.text 32).1.id.1.s=r.s
 rw [Rd.QO,Rd.PZ,Rd.Hr]
theorem Rd.jB (r:Rd) (b:r.fine) (h:r.entry.1.err=0):r.err=0∧r.left=r.entry.2.bytes++r.entry.1.left∧r.pos+32<r.entry.1.pos∧r.entry.2.name.size≤32∧r.entry.2.kind≤2:=by
 have a:=(Rd.cB r 2 b).1
 have j:=Rd.dI _ 32 a
 obtain ⟨g,a1,a2⟩:=Rd.yh _ j h
 obtain ⟨e,d,i,k⟩:=Rd.wK _ 32 a g
 obtain ⟨f,c1,c2⟩:=Rd.sW r 2 e
 refine ⟨f,?_,?_,i,(Rd.cB r 2 b).2⟩
 ·rw [c1,d,a1];unfold Ent.bytes;simp only [List.append_assoc];rfl
 show r.pos+32<((r.num 2).1.text 32).1.id.1.pos
 rw [a2];omega
theorem Rd.Kq:∀f (r:Rd),r.fine→(r.ents f).1.fine
 | 0,_,h=>h
 | f+1,r,h=>by
  unfold Rd.ents;split
  ·exact Rd.Kq f _ (r.jg h)
  exact h
theorem Rd.pY:∀f (r:Rd),r.fine→(r.ents f).1.err=0→r.err=0∧r.left=mZ (r.ents f).2++(r.ents f).1.left
 | 0,r,_,h=>⟨h,by simp [Rd.ents,mZ]⟩
 | f+1,r,hf,h=>by
  unfold Rd.ents at h ⊢
  by_cases hm:r.more=true
  ·rw [if_pos hm] at h ⊢
   obtain ⟨h1,b⟩:=Rd.pY f _ (r.jg hf) h
   obtain ⟨a,g1,_⟩:=r.jB hf h1
   refine ⟨a,?_⟩
   show r.left=mZ (r.entry.2::(Rd.ents f r.entry.1).2)++_
   rw [g1,b];simp [mZ]
  rw [if_neg hm] at h ⊢
  exact ⟨h,by simp [mZ]⟩
theorem Rd.pX:∀f (r:Rd),r.fine→(r.ents f).1.err=0→ ∀e∈(r.ents f).2,e.name.size≤32∧e.kind≤2
 | 0,_,_,_,e,he=>by cases he
 | f+1,r,hf,h,e,he=>by
  unfold Rd.ents at h he
  by_cases hm:r.more=true
  ·rw [if_pos hm] at h he
   obtain ⟨h1,_⟩:=Rd.pY f _ (r.jg hf) h
   obtain ⟨_,_,_,g3,b⟩:=r.jB hf h1
   rcases List.mem_cons.1 he with rfl|a
   ·exact ⟨g3,b⟩
   exact Rd.pX f _ (r.jg hf) h e a
  rw [if_neg hm] at he;cases he
def Rd.iM:Nat→Rd→List Ent→Rd×List Ent
 | 0,r,l=>(r,l)
 | f+1,r,l=>if r.more=true then Rd.iM f r.entry.1 (l++[r.entry.2]) else (r,l)
theorem Rd.yD:∀f (r:Rd) l,r.iM f l=((r.ents f).1,l++(r.ents f).2)
 | 0,r,l=>by simp [Rd.iM,Rd.ents]
 | f+1,r,l=>by
  unfold Rd.iM Rd.ents
  split
  ·rw [Rd.yD f];simp
  simp
theorem Rd.OE (r:Rd) (h:r.err≤4):r.more=decide (r.fin=5):=by
 unfold Rd.more Rd.fin
 by_cases a:r.err=0
 ·by_cases h1:r.pos<r.s.size
  ·simp [a,h1]
  simp [a,h1]
 have:r.err≠5:=by omega
 simp [a,this]
def iT (c:UInt8):Bool:=decide (33≤c.toNat∧c.toNat≤126∧c.toNat≠47)
def aN (s:ByteArray):Bool:=s.data.toList.all iT&&decide (1≤s.size∧s.size≤32)
def dS (e:Ent):Bool:=aN e.name&&decide (1≤e.kind∧e.kind≤2)
def ltB:List UInt8→List UInt8→Bool
 | [],[]=>false
 | [],_::_=>true
 | _::_,[]=>false
 | a::x,b::y=>if a.toNat<b.toNat then true else if b.toNat<a.toNat then false else ltB x y
def nM:List Ent→Bool
 | a::b::l=>ltB a.name.data.toList b.name.data.toList&&nM (b::l)
 | _=>true
def eZ (l:List Ent):Bool:=l.all dS&&nM l&&decide (l.length≤32)
def rd0 (s:ByteArray):Rd:=⟨s,0,0⟩
def jD (s:ByteArray):Rd×List Ent:=(rd0 s).ents (s.size+1)
def bJ (s:ByteArray):Option (List Ent):=if (jD s).1.fin=0∧eZ (jD s).2=true then some (jD s).2 else none
theorem dG (s:ByteArray) (h:s.size≤1000000):(rd0 s).fine:=⟨Nat.zero_le _,h,Nat.zero_le _⟩
theorem Bp (s:ByteArray) (b:s.size≤1000000) (h:(jD s).1.fin=0):mZ (jD s).2=s.data.toList:=by
 obtain ⟨h1,a⟩:=Rd.yA _ h
 have:=(Rd.pY _ _ (dG s b) h1).2
 rw [show ((rd0 s).ents (s.size+1)).1.left=[] from a,List.append_nil] at this
 exact this.symm
def Rd.ids:Nat→Rd→Rd×List (List UInt8)
 | 0,r=>(r,[])
 | n+1,r=>((Rd.ids n r.id.1).1,r.id.2::(Rd.ids n r.id.1).2)
def Rd.commit (r:Rd):Rd×(List UInt8×List (List UInt8)×ByteArray) :=
 ((((r.id.1.num 4).1.ids (r.id.1.num 4).2).1.text 64).1,r.id.2,((r.id.1.num 4).1.ids (r.id.1.num 4).2).2,(((r.id.1.num 4).1.ids (r.id.1.num 4).2).1.text 64).2)
def oz (c:List UInt8×List (List UInt8)×ByteArray):List UInt8:=c.1++(aQ c.2.1.length++(c.2.1.flatten++(aQ c.2.2.size++c.2.2.data.toList)))
theorem Rd.iH:∀n (r:Rd),r.fine→(r.ids n).1.fine
 | 0,_,h=>h
 | n+1,r,h=>Rd.iH n _ (r.lW h)
theorem Rd.QN:∀n (r:Rd),(r.ids n).1.s=r.s
 | 0,_=>rfl
 | n+1,r=>(Rd.QN n _).trans r.QO
theorem Rd.vL:∀n (r:Rd),(r.ids n).2.length=n
 | 0,_=>rfl
 | n+1,r=>by show (Rd.ids n r.id.1).2.length+1=n+1;rw [Rd.vL n]
theorem Rd.vM:∀n (r:Rd),∀x∈(r.ids n).2,x.length=32
 | 0,_,x,h=>by cases h
 | n+1,r,x,h=>by
  rcases List.mem_cons.1 h with rfl|a
  ·exact fE _
  exact Rd.vM n _ x a
theorem Rd.yg:∀n (r:Rd),r.ids (n+1)=((r.ids n).1.id.1,(r.ids n).2++[(r.ids n).1.id.2])
 | 0,r=>rfl
 | n+1,r=>by
  show ((Rd.ids (n+1) r.id.1).1,r.id.2::(Rd.ids (n+1) r.id.1).2)=_
  rw [Rd.yg n];rfl
theorem Rd.AJ:∀n (r:Rd),r.fine→(r.ids n).1.err=0→r.err=0∧r.left=(r.ids n).2.flatten++(r.ids n).1.left
 | 0,r,_,h=>⟨h,by simp [Rd.ids]⟩
 | n+1,r,hf,h=>by
  obtain ⟨h1,b⟩:=Rd.AJ n _ (r.lW hf) h
  obtain ⟨a,g1,_⟩:=r.yh hf h1
  refine ⟨a,?_⟩
  show r.left=(r.id.2::(Rd.ids n r.id.1).2).flatten++(Rd.ids n r.id.1).1.left
  rw [g1,b];simp
theorem Rd.uJ (r:Rd) (h:r.fine):r.commit.1.fine:=Rd.dI _ _ (Rd.iH _ _ (Rd.cB _ 4 (r.lW h)).1)
theorem Rd.Cr (r:Rd) (a:r.fine) (h:r.commit.1.err=0):r.left=oz r.commit.2++r.commit.1.left:=by
 have d:=r.lW a
 have b:=(Rd.cB _ 4 d).1
 have k:=Rd.iH (r.id.1.num 4).2 _ b
 obtain ⟨j,a1,_⟩:=Rd.wK _ 64 k h
 obtain ⟨f,e⟩:=Rd.AJ _ _ b j
 obtain ⟨i,c1,_⟩:=Rd.sW _ 4 f
 obtain ⟨_,g,_⟩:=r.yh a i
 unfold oz
 show r.left=(r.id.2++(aQ ((r.id.1.num 4).1.ids (r.id.1.num 4).2).2.length++_))++_
 rw [Rd.vL,g,c1,e,a1]
 simp only [List.append_assoc];rfl
def Me (l:List (List UInt8)):Bool:=decide l.Nodup
def bH (c:List UInt8×List (List UInt8)×ByteArray):Bool:=Me c.2.1&&decide (c.2.1.length≤4∧c.2.2.size≤64)
def aL (s:ByteArray):Option (List UInt8×List (List UInt8)×ByteArray):=if (rd0 s).commit.1.fin=0∧bH (rd0 s).commit.2=true then some (rd0 s).commit.2 else none
theorem yN (s:ByteArray) (b:s.size≤1000000) (h:(rd0 s).commit.1.fin=0):oz (rd0 s).commit.2=s.data.toList:=by
 obtain ⟨h1,a⟩:=Rd.yA _ h
 have:=(rd0 s).Cr (dG s b) h1
 rw [a,List.append_nil] at this
 exact this.symm
structure Ob where
 kind:Int
 body:ByteArray
def aB (o:Ob):Bool:=decide (o.body.size≤4096)&&(if o.kind=1 then true else if o.kind=2 then (bJ o.body).isSome else if o.kind=3 then (aL o.body).isSome else false)
def fD (k:Int):UInt8:=if k=2 then 116 else if k=3 then 99 else 98
def bV (o:Ob):List UInt8:=fD o.kind::(aQ o.body.size++o.body.data.toList)
theorem bU:∀x,ltB x x=false
 | []=>rfl
 | a::x=>by unfold ltB;rw [if_neg (by omega),if_neg (by omega)];exact bU x
theorem fH:∀ {x y z},ltB x y=true→ltB y z=true→ltB x z=true
 | [],[],_,h,_=>by cases h
 | [],_::_,[],_,h=>by cases h
 | [],_::_,_::_,_,_=>rfl
 | _::_,[],_,h,_=>by cases h
 | _::_,_::_,[],_,h=>by cases h
 | a::x,b::y,c::z,h,k=>by
  unfold ltB at h k ⊢
  by_cases h1:a.toNat<b.toNat
  ·by_cases k1:b.toNat<c.toNat
   ·rw [if_pos (by omega)]
   rw [if_neg k1] at k
   by_cases k2:c.toNat<b.toNat
   ·rw [if_pos k2] at k;cases k
   rw [if_pos (by omega)]
  rw [if_neg h1] at h
  by_cases d:b.toNat<a.toNat
  ·rw [if_pos d] at h;cases h
  rw [if_neg d] at h
  by_cases k1:b.toNat<c.toNat
  ·rw [if_pos (by omega)]
  rw [if_neg k1] at k
  by_cases k2:c.toNat<b.toNat
  ·rw [if_pos k2] at k;cases k
  rw [if_neg k2] at k
  rw [if_neg (by omega),if_neg (by omega)]
  exact fH h k
theorem gq:∀ {x y},ltB x y=false→ltB y x=false→x=y
 | [],[],_,_=>rfl
 | [],_::_,h,_=>by cases h
 | _::_,[],_,h=>by cases h
 | a::x,b::y,h,k=>by
  unfold ltB at h k
  by_cases h1:a.toNat<b.toNat
  ·rw [if_pos h1] at h;cases h
  rw [if_neg h1] at h
  by_cases d:b.toNat<a.toNat
  ·rw [if_pos d] at k;cases k
  rw [if_neg d] at h k
  rw [if_neg h1] at k
  rw [gq h k,UInt8.toNat_inj.1 (show a.toNat=b.toNat by omega)]
theorem JO {x y:List UInt8} (h:ltB x y=true):ltB y x=false:=by
 cases e:ltB y x with
 | false=>rfl
 | true=>have:=fH h e;rw [bU] at this;cases this
def Oc (l:List (List UInt8)):Prop:=l.Pairwise fun x y=>ltB x y=true
theorem EL:∀ {l m:List (List UInt8)},Oc l→Oc m→(∀x,x∈l↔x∈m)→l=m
 | [],[],_,_,_=>rfl
 | [],b::m,_,_,h=>absurd ((h b).2 (by simp)) (by simp)
 | a::l,[],_,_,h=>absurd ((h a).1 (by simp)) (by simp)
 | a::l,b::m,hl,hm,h=>by
  obtain ⟨d,i⟩:=List.pairwise_cons.1 hl
  obtain ⟨f,g⟩:=List.pairwise_cons.1 hm
  have e:a=b:=by
   rcases List.mem_cons.1 ((h a).1 (by simp)) with e|h1
   ·exact e
   rcases List.mem_cons.1 ((h b).2 (by simp)) with e|j
   ·exact e.symm
   have:=fH (f a h1) (d b j);rw [bU] at this;cases this
  subst e
  rw [EL i g fun x=> ?_]
  constructor
  ·intro hx
   rcases List.mem_cons.1 ((h x).1 (List.mem_cons_of_mem _ hx)) with rfl|h1
   ·have:=d x hx;rw [bU] at this;cases this
   exact h1
  intro hx
  rcases List.mem_cons.1 ((h x).2 (List.mem_cons_of_mem _ hx)) with rfl|h1
  ·have:=f x hx;rw [bU] at this;cases this
  exact h1
def idO (o:Ob):List UInt8:=wQ (ofB (bV o))
def DL (a b:Ob):Bool:=!(decide (a.kind=b.kind)&&decide (a.body=b.body))
theorem OD {a b:Ob} (h:DL a b=false):a=b:=by
 unfold DL at h
 simp at h
 cases a;cases b;simp at h;rw [h.1,h.2]
def kQ (r:Nat):Bool:=decide (r<33) || (decide (126<r) || decide (r=47))
theorem KE (s:ByteArray) (pos:Nat) (h:128≤(s.data.toList.getD pos 0).toNat):kQ (Utf8.decode s pos).1=true:=by
 rw [Lib.decode_N]
 have:128≤(Lib.decodeN (s.data.toList.length-pos) (s.data.toList.getD pos 0).toNat (s.data.toList.getD (pos+1) 0).toNat (s.data.toList.getD (pos+2) 0).toNat (s.data.toList.getD (pos+3) 0).toNat).1:=by
  rcases Lib.decodeN_cases (s.data.toList.length-pos) (s.data.toList.getD pos 0).toNat (s.data.toList.getD (pos+1) 0).toNat (s.data.toList.getD (pos+2) 0).toNat (s.data.toList.getD (pos+3) 0).toNat with ⟨h1,_⟩|⟨_,_,_,h1,a⟩|⟨_,_,_,_,h1,a⟩|⟨h1,_⟩|a
  ·omega
  ·rw [a];exact h1
  ·rw [a];show 128≤_;omega
  ·omega
  rw [a];show 128≤65533;omega
 unfold kQ
 rw [show decide (126<(Lib.decodeN _ _ _ _ _).1)=true from decide_eq_true (by omega)]
 simp
theorem KD (s:ByteArray) (pos:Nat) (h:(s.data.toList.getD pos 0).toNat<128):Utf8.decode s pos=((s.data.toList.getD pos 0).toNat,1):=by
 rw [Lib.decode_N,Lib.decodeN_ascii _ _ _ _ _ h]
theorem KW (b:UInt8):kQ b.toNat= !iT b:=by
 unfold kQ iT
 by_cases h1:b.toNat<33
 ·have:¬(33≤b.toNat∧b.toNat≤126∧b.toNat≠47):=by omega
  simp only [decide_eq_true h1,decide_eq_false this];rfl
 by_cases a:126<b.toNat
 ·have:¬(33≤b.toNat∧b.toNat≤126∧b.toNat≠47):=by omega
  simp only [decide_eq_false h1,decide_eq_true a,decide_eq_false this];rfl
 by_cases d:b.toNat=47
 ·have:¬(33≤b.toNat∧b.toNat≤126∧b.toNat≠47):=by omega
  simp only [decide_eq_false h1,decide_eq_false a,decide_eq_true d,decide_eq_false this];rfl
 have:33≤b.toNat∧b.toNat≤126∧b.toNat≠47:=by omega
 simp only [decide_eq_false h1,decide_eq_false a,decide_eq_false d,decide_eq_true this];rfl
theorem AB (s:ByteArray):∀f pos,s.size-pos≤f→decide (0≤Lib.idxFuncFrom kQ true s f pos)= !(s.data.toList.drop pos).all iT
 | 0,pos,h=>by
  rw [List.drop_eq_nil_of_le (by simp;omega)];rfl
 | f+1,pos,h=>by
  unfold Lib.idxFuncFrom
  by_cases b:pos<s.size
  ·have a:pos<s.data.toList.length:=by simpa using b
   rw [if_pos b,List.drop_eq_getElem_cons a,List.all_cons]
   have d:s.data.toList.getD pos 0=s.data.toList[pos]:=by rw [List.getD_eq_getElem?_getD,List.getElem?_eq_getElem a];rfl
   by_cases hb:(s.data.toList.getD pos 0).toNat<128
   ·rw [KD s pos hb]
    dsimp only
    rw [KW,d]
    cases e:iT s.data.toList[pos] with
    | true=>rw [if_neg (by simp)];exact AB s f (pos+1) (by omega)
    | false=>rw [if_pos (by rfl)];rw [decide_eq_true (by omega:(0:Int)≤pos)];rfl
   rw [if_pos (KE s pos (by omega)),decide_eq_true (by omega:(0:Int)≤pos)]
   have:iT s.data.toList[pos]=false:=by
    unfold iT;rw [d] at hb;exact decide_eq_false (by omega)
   rw [this];rfl
  rw [if_neg b,List.drop_eq_nil_of_le (by simp;omega)];rfl
theorem l6 (s:ByteArray):decide (0≤Lib.idxFunc kQ true s)= !s.data.toList.all iT:=by
 have:=AB s s.size 0 (by omega)
 rw [List.drop_zero] at this
 exact this
abbrev Lfs:=List (ByteArray×ByteArray)
abbrev Ru:=Sum Nat (Lfs×Nat)
theorem Rd.Ei:∀f (r:Rd),∀e∈(r.ents f).2,e.id.length=32
 | 0,_,e,he=>by cases he
 | f+1,r,e,he=>by
  unfold Rd.ents at he
  by_cases hm:r.more=true
  ·rw [if_pos hm] at he
   rcases List.mem_cons.1 he with rfl|a
   ·exact fE _
   exact Rd.Ei f _ e a
  rw [if_neg hm] at he;cases he
theorem mY {s:ByteArray} {es:List Ent} (h:bJ s=some es):es.length≤32∧ ∀e∈es,e.id.length=32∧e.name.size≤32∧(e.kind=1∨e.kind=2):=by
 unfold bJ at h
 split at h
 ·rename_i d
  have b:(jD s).2=es:=Option.some.inj h
  have h1:=d.2
  unfold eZ at h1
  simp only [Bool.and_eq_true,decide_eq_true_eq,List.all_eq_true] at h1
  rw [b] at h1
  refine ⟨h1.2,fun e hm=> ?_⟩
  have a:=h1.1.1 e hm
  unfold dS aN at a
  simp only [Bool.and_eq_true,decide_eq_true_eq] at a
  refine ⟨Rd.Ei (s.size+1) (rd0 s) e (by rw [show ((rd0 s).ents (s.size+1)).2=es from b];exact hm),by omega,by omega⟩
 cases h
end
section
open Go.RowKit
theorem yM (W a:World) (x:UInt8) (e:TypeId) (hb:Below (W.alloc (.cells #[.int .u8 (x.toNat:Int)] e)).heap.size (W.alloc (.cells #[.int .u8 (x.toNat:Int)] e)) a) :
  (convert 96 9 (.slice (some ⟨W.heap.size,0,none⟩) 1 1)).run prog a= .ok (.string (ofB [x])) a :=
 run_convert_bytes_back (P:=prog) a 96 9 5 ⟨W.heap.size,0,none⟩ 1 [x] underlying96 underlying5 underlying9 fun j b=>by
  obtain rfl:j=0:=by simpa using b
  rw [Addr.add_mid,Nat.zero_add,hb.cell (p:=⟨W.heap.size,0,none⟩) (by rw [World.size_alloc];exact Nat.lt_succ_self _),World.cell?_alloc_new];rfl
theorem bC {W a:World} (h:Below W.drew.heap.size W.drew a):Below W.heap.size W a:=⟨h.os,h.tape,h.output,h.size,h.block⟩
theorem jl {a b:ByteArray} (h:a=b):Ending.returned (.string a)= .returned (.string b):=by rw [h]
theorem aK {a b:Bool} (h:a=b):Ending.returned (.bool a)= .returned (.bool b):=by rw [h]
theorem Ll (n:Nat) (h:n<256):((UInt8.ofNat n).toNat:Int)=n:=by rw [UInt8.toNat_ofNat'];omega
theorem DI (x:UInt8) (l:List UInt8):ofB (x::l)=ofB [x]++ofB l:=ba_eq (by rw [jK,bq,bq,bq];rfl)
theorem dX (x l:List UInt8):ofB (x++l)=ofB x++ofB l:=ba_eq (by rw [jK,bq,bq,bq])
theorem sV (s:ByteArray):ofB s.data.toList=s:=ba_eq (bq _)
theorem nG:∀k n,n<128^(k+1)→(aQ n).length≤k+1
 | 0,n,h=>by rw [fu (by simpa using h)];simp
 | k+1,n,h=>by
  by_cases h1:n<128
  ·rw [fu h1];simp
  rw [je (by omega)]
  have:=nG k (n/128) (by rw [Nat.pow_succ] at h;omega)
  simp;omega
theorem ny (k:Nat):∀(n:Nat) (w:World),n≤k→n≤1099511627775 →
  Calls prog 204 #[.int .i64 (n:Int)] w fun e w'=>e= .returned (.string (ofB (aQ n)))∧Below w.heap.size w w':=by
 induction k with
 | zero =>
  intro n w z _
  obtain rfl:n=0:=by omega
  have s:aQ 0=[0]:=fu (by omega)
  have g:=ah s
  have r:=yM w (w.alloc (.cells #[.int .u8 0] 5)) 0 5 (Below.refl _ _)
  clear s
  go_enter func204,ntmps204
  go_wp2_with fail
  go_ret
  rw [g.out]
  exact ⟨rfl,bal⟩
 | succ k ih =>
  intro n w z s
  have y:(0:Int)≤n:=by omega
  have n1:decide ((n:Int)<0)=false:=decide_eq_false (by omega)
  have n2:decide ((1099511627775:Int)<n)=false:=decide_eq_false (by omega)
  by_cases h:n<128
  ·have g:=ah (fu h)
   have hx:=Ll n (by omega)
   have r:=yM w (w.alloc (.cells #[.int .u8 (n:Int)] 5)) (UInt8.ofNat n) 5 (by rw [hx];exact Below.refl _ _)
   have h1:decide ((n:Int)<128)=true:=decide_eq_true (by omega)
   have t:IntKind.u8.wrap (n:Int)=n:=by rw [wrap_u8'];omega
   clear hx
   go_enter func204,ntmps204
   go_wp2_with fail
   go_ret
   rw [g.out]
   exact ⟨rfl,bal⟩
  have g:=ah (je (n:=n) (by omega))
  have hx:=Ll (n%128+128) (by omega)
  have d:=ah (fun W i=>yM W i (UInt8.ofNat (n%128+128)) 5)
  have h1:decide ((n:Int)<128)=false:=decide_eq_false (by omega)
  have B:(n:Int).tmod 128=(n:Int)%128:=Int.tmod_eq_emod_of_nonneg y
  have E:IntKind.i64.wrap ((n:Int)%128+128)=(n:Int)%128+128:=IntWalk.i64_in _ (by omega)
  have t:IntKind.u8.wrap ((n:Int)%128+128)=((UInt8.ofNat (n%128+128)).toNat:Int):=by rw [wrap_u8',hx];omega
  have A:IntKind.i64.wrap ((n:Int)/128)=((n/128:Nat):Int):=by rw [IntWalk.i64_in _ (by omega)];omega
  have q:=ah (fun w=>ih (n/128) w (by omega) (by omega))
  have o:(ofB [UInt8.ofNat (n%128+128)]).size≤1:=by rw [aR];exact Nat.le_refl _
  have l:(ofB (aQ (n/128))).size≤6:=by rw [aR];exact nG 5 _ (by omega)
  generalize UInt8.ofNat (n%128+128)=x at d t g hx o
  have C:=ah hx
  generalize hm:n/128=m at q g A l
  have D:=ah hm
  have p:Hid (ofB (aQ n)=ofB [x]++ofB (aQ m)):=by unfold Hid;rw [g.out,DI]
  generalize ofB [x]=q1 at d o p
  generalize ofB (aQ m)=q2 at q l p
  have u:∀W,(Op.stringOp .add q1 q2).run prog W= .ok (.string (q1++q2)) W:=fun W=>run_string_add W _ _ (by omega) (by omega)
  clear ih hx hm g
  go_enter func204,ntmps204
  go_wp2_with fail
  have hS:Below w.heap.size w w.drew:=(Below.refl _ _).drew
  have b:=((Below.refl w.heap.size w).alloc (Nat.le_refl _) (.cells #[.int .u8 (x.toNat:Int)] 5)).drew
  have v:=d.out w _ (Below.refl _ _).drew
  refine wrL 10 (Below w.heap.size w) ?_
  refine WL.tk 0 hS ?_
  refine WL.tk 1 hS ?_
  refine WL.tk 2 hS ?_
  refine WL.tk 3 hS ?_
  refine WL.tk 6 hS ?_
  refine WL.tk 7 hS ?_
  refine WL.tw 4 8 ?_ ?_
  focus
   go_wp2_with fail
   refine ⟨b,?_⟩
   refine WL.tw 5 8 ?_ ?_
   focus
    go_wp2_with fail
    refine ⟨b,?_⟩
    refine WL.on 8 ?_
    go_wp2_with fail
    refine (q.out _).mono ?_
    rintro e i ⟨rfl,a⟩
    have a:=b.trans (a.mono b.size)
    go_wp2
    refine ⟨a,?_⟩
    refine WL.on 9 ?_
    go_wp2
    refine ⟨a,?_⟩
    refine WL.la 10 ?_
    go_wp2
    go_ret
    exact ⟨jl p.out.symm,a⟩
   focus
    go_wp2_with fail
    refine (q.out _).mono ?_
    rintro e i ⟨rfl,a⟩
    have j:=d.out w i (bC a)
    have a:=b.trans (a.mono b.size)
    go_wp2
    refine ⟨a,?_⟩
    refine WL.on 5 ?_
    go_wp2
    refine ⟨a,?_⟩
    refine WL.on 9 ?_
    go_wp2
    refine ⟨a,?_⟩
    refine WL.la 10 ?_
    go_wp2
    go_ret
    exact ⟨jl p.out.symm,a⟩
  focus
   go_wp2_with fail
   refine (q.out _).mono ?_
   rintro e i ⟨rfl,a⟩
   have j:=d.out i _ (Below.refl _ _)
   have a:=hS.trans (a.mono hS.size)
   go_wp2
   refine ⟨a,?_⟩
   refine WL.on 4 ?_
   go_wp2
   have f:=a.alloc a.size (.cells #[.int .u8 (x.toNat:Int)] 5)
   refine ⟨f,?_⟩
   refine WL.on 5 ?_
   go_wp2
   refine ⟨f,?_⟩
   refine WL.on 9 ?_
   go_wp2
   refine ⟨f,?_⟩
   refine WL.la 10 ?_
   go_wp2
   go_ret
   exact ⟨jl p.out.symm,f⟩
theorem Io (s:ByteArray) (k:Nat) (h:k<s.size):s.data.toList[k]? = some (blk s k):=by
 unfold blk
 have a:k<s.data.toList.length:=by simpa using h
 rw [List.getD_eq_getElem?_getD,List.getElem?_eq_getElem a];rfl
theorem Lx (s:ByteArray) (k:Nat) (h:k<s.size):s.data.toList.take (k+1)=s.data.toList.take k++[blk s k]:=by
 have a:k<s.data.toList.length:=by simpa using h
 rw [List.take_succ_eq_append_getElem a]
 have:=Io s k h
 rw [List.getElem?_eq_getElem a] at this
 rw [Option.some.inj this]
theorem FV (s:ByteArray) (k:Nat) (h:k<s.size) (hb:iT (blk s k)=false):aN s=false:=by
 unfold aN
 have:s.data.toList.all iT=false:=by
  rw [List.all_eq_false]
  exact ⟨blk s k,List.mem_of_getElem? (Io s k h),by simp [hb]⟩
 rw [this];rfl
theorem Mv {x:UInt8} (h:(x.toNat:Int)<33):iT x=false:=decide_eq_false (by omega)
theorem Mw {x:UInt8} (h:126<(x.toNat:Int)):iT x=false:=decide_eq_false (by omega)
theorem Mt {x:UInt8} (h:(x.toNat:Int)=47):iT x=false:=decide_eq_false (by omega)
theorem Jl (s:ByteArray) (w:World) (u:s.size≤1000000000) :
  Calls prog 203 #[.string s] w fun e w'=>e= .returned (.bool (aN s))∧w'=w:=by
 go_enter func203,ntmps203
 go_wp2
 go_loop [3] (fun i=> ∃k:Nat,k≤s.size∧i= .int .i64 k∧Hid ((s.data.toList.take k).all iT=true)) (fun i=>(s.size-intOf i).toNat)
 case atStart=>exact ⟨0,by omega,rfl,rfl⟩
 obtain ⟨k,v,rfl,f⟩:=hrel
 by_cases g:k<s.size
 ·have r:∀w,(Instr.index 9 (.string s) (.int .i64 (k:Int))).run prog w= .ok (.int .u8 ((blk s k).toNat:Int)) w:=fun w=>by rw [dV s w k g,oI]
  have a:=ah (FV s k g)
  have p:=ah (Lx s k g)
  have o:=(blk s k).toNat_lt
  generalize blk s k=x at r a p o
  have x0:(0:Int)≤x.toNat:=by omega
  have x1:(x.toNat:Int)<256:=by omega
  by_cases h1:(x.toNat:Int)<33
  ·have b:=ah (a.out (Mv h1))
   have n:decide ((x.toNat:Int)<33)=true:=decide_eq_true h1
   clear h1
   go_wp2
   go_ret
   exact ⟨aK b.out.symm,rfl⟩
  have n:decide ((x.toNat:Int)<33)=false:=decide_eq_false h1
  by_cases d:(126:Int)<x.toNat
  ·have b:=ah (a.out (Mw d))
   have l:decide ((126:Int)<x.toNat)=true:=decide_eq_true d
   clear h1 d
   go_wp2
   go_ret
   exact ⟨aK b.out.symm,rfl⟩
  have l:decide ((126:Int)<x.toNat)=false:=decide_eq_false d
  by_cases j:(x.toNat:Int)=47
  ·have b:=ah (a.out (Mt j))
   have t:((x.toNat:Int)==47)=true:=by rw [beq_iff_eq];exact j
   clear h1 d j
   go_wp2
   go_ret
   exact ⟨aK b.out.symm,rfl⟩
  have t:((x.toNat:Int)==47)=false:=by rw [beq_eq_false_iff_ne];exact j
  have b:Hid (iT x=true):=ah (decide_eq_true (by omega))
  clear h1 d j
  go_wp2
  go_round
  case rel=>exact ⟨k+1,by omega,by go_num,by unfold Hid;rw [p.out,List.all_append,f.out];simp [b.out]⟩
  case measure=>simp [intOf];omega
 obtain rfl:k=s.size:=by omega
 have q:s.data.toList.all iT=true:=by
  have:=f.out
  rwa [List.take_of_length_le (by simp)] at this
 have m:=ah q
 clear f q
 by_cases h1:1≤s.size
 ·have n:decide ((1:Int)≤s.size)=true:=decide_eq_true (by omega)
  by_cases d:s.size≤32
  ·have l:decide ((s.size:Int)≤32)=true:=decide_eq_true (by omega)
   have b:Hid (aN s=true):=by unfold Hid aN;rw [m.out,decide_eq_true ⟨h1,d⟩];rfl
   clear d
   go_wp2
   go_ret
   exact ⟨aK b.out.symm,rfl⟩
  have l:decide ((s.size:Int)≤32)=false:=decide_eq_false (by omega)
  have b:Hid (aN s=false):=by unfold Hid aN;rw [m.out,decide_eq_false (fun h=>d h.2)];rfl
  clear d
  go_wp2
  go_ret
  exact ⟨aK b.out.symm,rfl⟩
 have n:decide ((1:Int)≤s.size)=false:=decide_eq_false (by omega)
 have b:Hid (aN s=false):=by unfold Hid aN;rw [m.out,decide_eq_false (fun h=>h1 h.1)];rfl
 go_wp2
 go_ret
 exact ⟨aK b.out.symm,rfl⟩
def idC (x:List UInt8):List Value:=x.map fun b=> .int .u8 (b.toNat:Int)
def dz (e:Ent):List Value:=[.string e.name,.int .i64 (e.kind:Int)]++idC e.id
def fT (w:World) (v:Value) (l:List Ent):Prop:=bM w v 34 (l.map dz)
theorem fT.open {w:World} {v:Value} {l:List Ent} (h:fT w v l):∃a cap,v= .slice a l.length cap∧l.length≤maxLen∧(l≠[]→ ∃b off,a=some ⟨b,off,none⟩∧b<w.heap.size∧ ∀k (f:k<l.length),w.cell? ⟨b,off+k*34,none⟩=some (.string l[k].name)∧w.cell? ⟨b,off+k*34+1,none⟩=some (.int .i64 (l[k].kind:Int))∧w.rangeAt b (off+k*34+2) (idC l[k].id)):=by
 obtain ⟨a,cap,rfl,hm,h⟩:=h
 rw [List.length_map] at hm ⊢
 refine ⟨a,cap,rfl,hm,fun d=> ?_⟩
 obtain ⟨b,off,e,m,g⟩:=h (by simpa using d)
 refine ⟨b,off,e,m,fun k f=> ?_⟩
 have:=g k (by simpa using f)
 rw [List.getElem_map] at this
 refine ⟨this 0 _ rfl,this 1 _ rfl,fun j u hu=> ?_⟩
 have i:=this (2+j) u (by unfold dz;rw [List.getElem?_append_right (by simp)];simpa using hu)
 rw [show off+k*34+2+j=off+k*34+(2+j) from by omega];exact i
theorem NV:∀x y:List UInt8,Op.bytesLess x y=ltB x y
 | [],[]=>rfl
 | [],_::_=>rfl
 | _::_,[]=>rfl
 | a::x,b::y=>by
  unfold Op.bytesLess ltB
  rw [NV x y]
  by_cases h1:a.toNat<b.toNat
  ·rw [if_pos h1,decide_eq_true (show a<b from UInt8.lt_iff_toNat_lt.2 h1)];rfl
  rw [if_neg h1,decide_eq_false (show ¬a<b from fun h=>h1 (UInt8.lt_iff_toNat_lt.1 h))]
  by_cases d:b.toNat<a.toNat
  ·rw [if_pos d,show (a==b)=false from beq_eq_false_iff_ne.2 (fun e=>by subst e;omega)];rfl
  rw [if_neg d,UInt8.toNat_inj.1 (show a.toNat=b.toNat by omega)];simp
theorem rP (x y:ByteArray):Op.bytesLess x.toList y.toList=ltB x.data.toList y.data.toList:=by rw [NV,ByteArray.toList_eq,ByteArray.toList_eq]
theorem EJ (x y:ByteArray):(x.toList==y.toList)=decide (x.data.toList=y.data.toList):=by
 rw [ByteArray.toList_eq,ByteArray.toList_eq]
 by_cases h:x.data.toList=y.data.toList
 ·rw [decide_eq_true h,h];simp
 rw [decide_eq_false h,beq_eq_false_iff_ne];exact h
def rowOk (l:List Ent) (k:Nat):Bool:=match l[k]? with
 | some e=>dS e&&(decide (k=0) || (match l[k-1]? with
  | some d=>ltB d.name.data.toList e.name.data.toList
  | none=>false))
 | none=>false
theorem Dl:∀l:List Ent,(l.all dS&&nM l)=(List.range l.length).all (rowOk l)
 | []=>rfl
 | [a]=>by simp [nM,rowOk]
 | a::b::l=>by
  have f:=Dl (b::l)
  have e:(List.range (a::b::l).length).all (rowOk (a::b::l))=(dS a&&(ltB a.name.data.toList b.name.data.toList&&(List.range (b::l).length).all (rowOk (b::l)))):=by
   rw [List.length_cons,List.range_succ_eq_map,List.all_cons,List.all_map]
   have g:rowOk (a::b::l) 0=dS a:=by simp [rowOk]
   rw [g]
   congr 1
   rw [List.length_cons,List.range_succ_eq_map,List.all_cons,List.all_map,List.all_cons,List.all_map]
   have h1:(rowOk (a::b::l) ∘ Nat.succ) 0=(dS b&&ltB a.name.data.toList b.name.data.toList):=by simp [rowOk]
   have d:rowOk (b::l) 0=dS b:=by simp [rowOk]
   have h:(rowOk (a::b::l) ∘ Nat.succ) ∘ Nat.succ=rowOk (b::l) ∘ Nat.succ:=by
    funext k
    show rowOk (a::b::l) (k+1+1)=rowOk (b::l) (k+1)
    unfold rowOk
    simp only [List.getElem?_cons_succ,Nat.add_sub_cancel]
    simp
   rw [h1,d,h]
   cases dS b<;>simp
  rw [e,←f]
  simp only [List.all_cons,nM]
  cases dS a<;>cases dS b<;>cases ltB a.name.data.toList b.name.data.toList<;>simp
theorem gW (l:List Ent):eZ l=((List.range l.length).all (rowOk l)&&decide (l.length≤32)):=by unfold eZ;rw [Dl]
theorem wI (l:List Ent) (k:Nat) (h:k<l.length) (hb:rowOk l k=false):eZ l=false:=by
 rw [gW]
 have:(List.range l.length).all (rowOk l)=false:=by rw [List.all_eq_false];exact ⟨k,List.mem_range.2 h,by simp [hb]⟩
 rw [this];rfl
theorem Ad (l:List Ent) (k:Nat) (h:k<l.length) (hb:dS l[k]=false):rowOk l k=false:=by
 unfold rowOk;rw [List.getElem?_eq_getElem h];simp [hb]
theorem ug (l:List Ent) (h:0<l.length) (hb:dS l[0]=true):rowOk l 0=true:=by
 unfold rowOk;rw [List.getElem?_eq_getElem h];simp [hb]
theorem wY (l:List Ent) (k:Nat) (h:k<l.length) (a:0<k) (hb:dS l[k]=true):rowOk l k=ltB l[k-1].name.data.toList l[k].name.data.toList:=by
 unfold rowOk;rw [List.getElem?_eq_getElem h,List.getElem?_eq_getElem (show k-1<l.length by omega)]
 have:k≠0:=by omega
 simp [hb,this]
theorem wX (v:Value) (l:List Ent) (w:World) (R:fT w v l) (V:∀e∈l,e.name.size≤1000000∧e.kind≤2) :
  Calls prog 144 #[v] w fun e w'=>e= .returned (.bool (eZ l))∧Below w.heap.size w w':=by
 obtain ⟨ao,cap,rfl,L,R⟩:=R.open
 unfold maxLen at L
 have Z:=ah V
 have HV:=ah R
 clear R V
 by_cases O:32<l.length
 ·have o:Hid (eZ l=false):=by unfold Hid;rw [gW,decide_eq_false (show ¬l.length≤32 by omega),Bool.and_false]
  have d1:decide ((32:Int)<l.length)=true:=decide_eq_true (by omega)
  go_enter func144,ntmps144
  go_wp2
  go_ret
  exact ⟨aK o.out.symm,Below.refl _ _⟩
 have d1:decide ((32:Int)<l.length)=false:=decide_eq_false (by omega)
 have U:=ah O
 clear O
 go_enter func144,ntmps144
 go_wp2
 go_loopw [3] (fun i wr=> ∃k:Nat,k≤l.length∧i= .int .i64 k∧Hid (∀j,j<k→rowOk l j=true)∧Below w.heap.size w wr) (fun i _=>(l.length-intOf i).toNat)
 case atStart=>exact ⟨0,by omega,rfl,fun j N=>absurd N (by omega),Below.refl _ _⟩
 obtain ⟨S,rfl⟩:∃S:World,S=wr:=⟨_,rfl⟩
 obtain ⟨k,hk,rfl,r,hb⟩:=hrel
 by_cases g:k<l.length
 ·obtain ⟨b,off,rfl,J,a⟩:=HV.out (by intro e;rw [e] at g;simp at g)
  have c1:=au (a k g).1 hb J
  have c2:=au (a k g).2.1 hb J
  obtain ⟨C,E⟩:=Z.out l[k] (List.getElem_mem g)
  have p:=ah (fun w=>Jl l[k].name w (by omega))
  have s:=ah (wI l k g)
  have X:=ah (Ad l k g)
  have k0:(0:Int)≤k:=by omega
  have k1:(k:Int)<l.length:=by omega
  by_cases D:aN l[k].name=true
  ·by_cases H:l[k].kind<1
   ·have B:dS l[k]=false:=by unfold dS;rw [D,decide_eq_false (by omega)];rfl
    have o:=ah (s.out (X.out B))
    rw [D] at p
    have P:decide ((l[k].kind:Int)<1)=true:=decide_eq_true (by omega)
    clear D B a C
    generalize l[k].name=x at c1 p
    generalize l[k].kind=y at c2 P E H
    go_wp2_with fail
    refine (p.out _).mono ?_
    rintro e w' ⟨rfl,rfl⟩
    go_wp2
    go_ret
    exact ⟨aK o.out.symm,hb⟩
   have B:dS l[k]=true:=by unfold dS;rw [D,decide_eq_true (by omega)];rfl
   have P:decide ((l[k].kind:Int)<1)=false:=decide_eq_false (by omega)
   have W:decide ((2:Int)<l[k].kind)=false:=decide_eq_false (by omega)
   rw [D] at p
   rcases Nat.eq_zero_or_pos k with A|A
   ·have j5:decide ((0:Int)<k)=false:=decide_eq_false (by omega)
    have Y:decide (0<k)=false:=decide_eq_false (by omega)
    have o:Hid (rowOk l k=true):=by
     subst A
     exact ah (ug l g B)
    have HK:=ah A
    have I:=ah r
    clear D B a C r A
    generalize l[k].name=x at c1 p
    generalize l[k].kind=y at c2 P W E H
    go_wp2_with fail
    refine (p.out _).mono ?_
    rintro e w' ⟨rfl,rfl⟩
    go_wp2
    refine wbq ?_
    repeat (go_big_quiet_step (fail))
    refine wpQuiet_nil ?_
    intro T f
    have K:=ah (hb.trans (f.mono hb.size))
    clear hb f c1 c2
    go_wp2
    go_roundw
    case rel=>exact ⟨k+1,by omega,by go_num,fun j N=>by
     rcases Nat.lt_or_ge j k with h|h
     ·exact I.out j h
     obtain rfl:j=k:=by omega
     exact o.out,K.out⟩
    case measure=>simp [intOf];omega
   have Q:=ah (wY l k g A B)
   have F:=au (a (k-1) (by omega)).1 hb J
   have aa:b<S.heap.size:=by have:=hb.size;omega
   have j1:IntKind.i64.wrap ((k:Int)-1)=(k:Int)-1:=IntWalk.i64_in _ (by omega)
   have j2:((k:Int)-1).toNat=k-1:=by omega
   have j3:(0:Int)≤(k:Int)-1:=by omega
   have j4:(k:Int)-1<l.length:=by omega
   have j5:decide ((0:Int)<k)=true:=decide_eq_true (by omega)
   have Y:decide (0<k)=true:=decide_eq_true (by omega)
   have j7:(1:Int)≤k:=by omega
   have I:=ah r
   clear D B a C r
   have d:=rP l[k].name l[k-1].name
   have n:=EJ l[k].name l[k-1].name
   generalize l[k].name=x at c1 p d n Q
   generalize l[k].kind=y at c2 P W E H
   generalize l[k-1].name=z at F d n Q
   cases m:ltB z.data.toList x.data.toList with
   | true =>
    have o:Hid (rowOk l k=true):=by unfold Hid;rw [Q.out,m]
    rw [JO m] at d
    rw [decide_eq_false (fun e=>by rw [e,bU] at m;cases m)] at n
    clear m
    go_wp2_with fail
    refine (p.out _).mono ?_
    rintro e w' ⟨rfl,rfl⟩
    go_wp2
    refine wbq ?_
    have u:=blq c1
    have t:=blq F
    repeat (go_big_quiet_step (fail))
    refine wpQuiet_nil ?_
    intro T f
    clear u t
    have K:=ah (hb.trans (f.mono hb.size))
    clear hb f c1 c2 F
    go_wp2
    go_roundw
    case rel=>exact ⟨k+1,by omega,by go_num,fun j N=>by
     rcases Nat.lt_or_ge j k with h|h
     ·exact I.out j h
     obtain rfl:j=k:=by omega
     exact o.out,K.out⟩
    case measure=>simp [intOf];omega
   | false =>
    have o:Hid (eZ l=false):=ah (s.out (by rw [Q.out,m]))
    by_cases q:x.data.toList=z.data.toList
    ·rw [decide_eq_true q] at n
     have M:Op.bytesLess x.toList z.toList=false:=by rw [d,q,bU]
     clear m q d
     go_wp2_with fail
     refine (p.out _).mono ?_
     rintro e w' ⟨rfl,rfl⟩
     go_wp2
     refine wbq ?_
     have u:=blq c1
     have t:=blq F
     repeat (go_big_quiet_step (fail))
     refine wpQuiet_nil ?_
     intro T f
     clear u t
     have K:=ah (hb.trans (f.mono hb.size))
     clear hb f c1 c2 F
     go_wp2
     go_ret
     exact ⟨aK o.out.symm,K.out⟩
    rw [decide_eq_false q] at n
    have M:Op.bytesLess x.toList z.toList=true:=by
     rw [d]
     cases e:ltB x.data.toList z.data.toList with
     | true=>rfl
     | false=>exact absurd (gq e m) q
    clear m q d
    go_wp2_with fail
    refine (p.out _).mono ?_
    rintro e w' ⟨rfl,rfl⟩
    go_wp2
    refine wbq ?_
    have u:=blq c1
    have t:=blq F
    repeat (go_big_quiet_step (fail))
    refine wpQuiet_nil ?_
    intro T f
    clear u t
    have K:=ah (hb.trans (f.mono hb.size))
    clear hb f c1 c2 F
    go_wp2
    go_ret
    exact ⟨aK o.out.symm,K.out⟩
  have G:aN l[k].name=false:=by simpa using D
  have B:dS l[k]=false:=by unfold dS;rw [G];rfl
  have o:=ah (s.out (X.out B))
  rw [G] at p
  clear D G B a C E c2
  generalize l[k].name=x at c1 p
  go_wp2_with fail
  refine (p.out _).mono ?_
  rintro e w' ⟨rfl,rfl⟩
  go_wp2
  go_ret
  exact ⟨aK o.out.symm,hb⟩
 obtain rfl:k=l.length:=by omega
 have o:Hid (eZ l=true):=by
  unfold Hid
  rw [gW,decide_eq_true (show l.length≤32 by have:=U.out;omega),Bool.and_true,List.all_eq_true]
  exact fun j N=>r.out j (List.mem_range.1 N)
 clear r
 go_wp2
 go_ret
 exact ⟨aK o.out.symm,hb⟩
theorem gG {n:Nat} (h:n≤1099511627775):(aQ n).length≤6:=nG 5 n (by omega)
theorem av (x:List UInt8):(idC x).length=x.length:=by simp [idC]
theorem aJ (x:List UInt8):∀v∈idC x,v.oneCell'=true:=Cg x
theorem pz (s:ByteArray) (w:World) (f:s.size≤1000000000) :
  Calls prog 150 #[.string s] w fun e w'=>e= .returned (.string (ofB (aQ s.size++s.data.toList)))∧Below w.heap.size w w':=by
 have a:=ah (ny s.size s.size w (Nat.le_refl _) (by omega))
 have d:(ofB (aQ s.size)).size≤6:=by rw [aR];exact gG (by omega)
 have b:Hid (ofB (aQ s.size++s.data.toList)=ofB (aQ s.size)++s):=by unfold Hid;rw [dX,sV]
 generalize ofB (aQ s.size)=q at a d b
 go_enter func150,ntmps150
 go_wp2_with fail
 refine a.out.mono ?_
 rintro e w1 ⟨rfl,hb⟩
 go_wp2
 go_ret
 exact ⟨jl b.out.symm,hb⟩
theorem NH (w a:World) (x:List UInt8) (t:TypeId) (hb:Below (w.heap.size+1) (w.alloc (.cells (idC x).toArray t)) a) (c:Nat) :
  (convert 96 9 (.slice (some ⟨w.heap.size,0,none⟩) x.length c)).run prog a= .ok (.string (ofB x)) a :=
 run_convert_bytes_back (P:=prog) a 96 9 5 ⟨w.heap.size,0,none⟩ c x underlying96 underlying5 underlying9 fun j b=>by
  rw [Addr.add_mid,Nat.zero_add,hb.cell (p:=⟨w.heap.size,j,none⟩) (Nat.lt_succ_self _),World.cell?_alloc_new]
  simp [idC,b]
theorem xk (x:List UInt8) (w:World) (hx:x.length=32) :
  Calls prog 205 #[.agg (idC x).toArray] w fun e w'=>e= .returned (.string (ofB x))∧Below w.heap.size w w':=by
 have a:=NH w (w.alloc (.cells (idC x).toArray 42)) x 42 (Below.refl _ _) 32
 rw [hx] at a
 have b:=ah hx
 clear hx
 generalize idC x=us at a
 go_enter func205,ntmps205
 go_wp2
 go_ret
 exact ⟨rfl,bal⟩
def obC (o:Ob):List Value:=[.int .i64 o.kind,.string o.body]
theorem FC (k:Int) (s:ByteArray) (w:World) (l:s.size≤1000000) :
  Calls prog 83 #[.agg #[.int .i64 k,.string s]] w fun e w'=>e= .returned (.string (ofB (bV ⟨k,s⟩)))∧Below w.heap.size w w':=by
 have f:=ah (fun w=>pz s w (by omega))
 have j:(ofB (aQ s.size++s.data.toList)).size≤1000006:=by
  rw [aR,List.length_append]
  have h1:=gG (n:=s.size) (by omega)
  have a:s.data.toList.length=s.size:=by simp
  omega
 have g:Hid (ofB (bV ⟨k,s⟩)=ofB [fD k]++ofB (aQ s.size++s.data.toList)):=by unfold Hid bV;rw [DI]
 generalize ofB (aQ s.size++s.data.toList)=q at f j g
 by_cases a:k=2
 ·have i:(k==2)=true:=by rw [beq_iff_eq];exact a
  have h:(k==3)=false:=by rw [beq_eq_false_iff_ne];omega
  have d:Hid (ofB [fD k]=⟨#[116]⟩):=by unfold Hid fD;rw [if_pos a];rfl
  clear a
  go_enter func83,ntmps83
  go_wp2_with fail
  refine (f.out _).mono ?_
  rintro e w1 ⟨rfl,hb⟩
  go_wp2
  go_ret
  exact ⟨jl (by rw [g.out,d.out]),bal.trans (hb.mono (by simp))⟩
 have i:(k==2)=false:=by rw [beq_eq_false_iff_ne];exact a
 by_cases b:k=3
 ·have h:(k==3)=true:=by rw [beq_iff_eq];exact b
  have d:Hid (ofB [fD k]=⟨#[99]⟩):=by unfold Hid fD;rw [if_neg a,if_pos b];rfl
  clear a b
  go_enter func83,ntmps83
  go_wp2_with fail
  refine (f.out _).mono ?_
  rintro e w1 ⟨rfl,hb⟩
  go_wp2
  go_ret
  exact ⟨jl (by rw [g.out,d.out]),bal.trans (hb.mono (by simp))⟩
 have h:(k==3)=false:=by rw [beq_eq_false_iff_ne];exact b
 have d:Hid (ofB [fD k]=⟨#[98]⟩):=by unfold Hid fD;rw [if_neg a,if_neg b];rfl
 clear a b
 go_enter func83,ntmps83
 go_wp2_with fail
 refine (f.out _).mono ?_
 rintro e w1 ⟨rfl,hb⟩
 go_wp2
 go_ret
 exact ⟨jl (by rw [g.out,d.out]),bal.trans (hb.mono (by simp))⟩
theorem fC (o:Ob):(idO o).length=32:=by simp [idO,wQ]
theorem LY (k:Int) (s:ByteArray) (w:World) (D:s.size≤100000) :
  Calls prog 40 #[.agg #[.int .i64 k,.string s]] w fun e w'=>e= .returned (.agg (idC (idO ⟨k,s⟩)).toArray)∧Below w.heap.size w w':=by
 have A:=ah (fun w=>FC k s w (by omega))
 have z:(ofB (bV ⟨k,s⟩)).size≤1000000:=by
  rw [aR];unfold bV
  have h1:=gG (n:=s.size) (by omega)
  have E:s.data.toList.length=s.size:=by simp
  simp;omega
 have HS:=ah (fun w=>LW (ofB (bV ⟨k,s⟩)) w z)
 have p:Hid (idV (wQ (ofB (bV ⟨k,s⟩)))= .agg (idC (idO ⟨k,s⟩)).toArray):=ah rfl
 have b:(idC (idO ⟨k,s⟩)).length=32:=by rw [av,fC]
 have g:=aJ (idO ⟨k,s⟩)
 have q:=(Arr.new (w.alloc (.cells #[.int .i64 k,.string s] 33)) 32 (.int .u8 0) 42)
 generalize idC (idO ⟨k,s⟩)=us at p b g
 generalize idV (wQ (ofB (bV ⟨k,s⟩)))=r at HS p
 generalize ofB (bV ⟨k,s⟩)=f at A z HS
 obtain rfl:r= .agg us.toArray:=p.out
 rw [World.size_alloc] at q
 have C:=ah q
 have m:=ah b
 have x:=ah g
 have o:(prog.info? 42).map (·.size)=some 32:=by kernel_rfl
 have j:(prog.info? 42).map (·.size)=some us.length:=by rw [b];exact o
 clear q b g p
 go_enter func40,ntmps40
 go_wp2_with fail
 refine (A.out _).mono ?_
 rintro e w1 ⟨rfl,i⟩
 go_wp2_with fail
 refine (HS.out _).mono ?_
 rintro e v ⟨rfl,l⟩
 have d:Below ((w.alloc (.cells #[.int .i64 k,.string s] 33)).alloc (.cells (Array.replicate 32 (.int .u8 0)) 42)).heap.size ((w.alloc (.cells #[.int .i64 k,.string s] 33)).alloc (.cells (Array.replicate 32 (.int .u8 0)) 42)) v:=i.trans (l.mono i.size)
 have h:=C.out.below d (by simp)
 have u:=ah h.there
 have t:=ah (World.rangeAt_setCells_same v (w.heap.size+1) 0 us (by rw [m.out];exact h.there))
 have y:=ah (below_setCells (B:=w.heap.size) (a:=w) (w.heap.size+1) (by omega) us 0 v ((bal.alloc (by simp) _).trans (d.mono (by simp;omega))))
 clear i l d h
 go_wp2_with (refine aj rfl 42 _ _ rfl (w.heap.size+1) 0 us ?y1 ?y2 32 m.out ?y4 o x.out ?_)
 try case y1=>rfl
 try case y2=>rfl
 case y4=>exact u.out
 simp only [Act.put]
 refine bK rfl (w.heap.size+1) 0 (by simp) us _ t.out underlying42 rfl j rfl ⟨rfl,y.out⟩
theorem aY {P:Program} {ops:Array Oper} {Q:Act→Prop} {rest:List Oper} {a:Act} {o:Oper} {w:World} {b off:Nat} {cs:List Value} (ty:TypeId) (d:TypeDesc) (x:Operand) (f:o.op= .load ty x)
  (e:Region.wanted o (yielded ops a.tmps)=true) (hx:a.eval x= .pointer (some ⟨b,off,none⟩)) (g:w.rangeAt b off cs) (hb:b<w.heap.size) (hu:P.underlying ty=some d) (hd:d.isRow=true)
  (hi:(P.info? ty).map (·.size)=some cs.length) (h:wpQuiet P ops (fun w'=> ∃x:BW w.heap.size w,w'=x.out) Q rest (a.put o.dst (.agg cs.toArray))):wpQuiet P ops (fun w'=> ∃x:BW w.heap.size w,w'=x.out) Q (o::rest) a:=by
 unfold wpQuiet
 rw [if_pos e]
 refine ⟨_,fun w' hw'=> ?_,h⟩
 obtain ⟨y,rfl⟩:=hw'
 unfold Oper.quietAt
 rw [zH ty d g hb hu hd hi y.hb x f hx]
 exact ⟨rfl,rfl⟩
def dF (w:World) (v:Value) (l:List (List UInt8)):Prop:=bM w v 32 (l.map idC)
theorem dF.open {w:World} {v:Value} {l:List (List UInt8)} (h:dF w v l):∃a cap,v= .slice a l.length cap∧l.length≤maxLen∧(l≠[]→ ∃b off,a=some ⟨b,off,none⟩∧b<w.heap.size∧ ∀k (f:k<l.length),w.rangeAt b (off+k*32) (idC l[k])):=by
 obtain ⟨a,cap,rfl,hm,h⟩:=h
 rw [List.length_map] at hm ⊢
 refine ⟨a,cap,rfl,hm,fun d=> ?_⟩
 obtain ⟨b,off,e,i,g⟩:=h (by simpa using d)
 refine ⟨b,off,e,i,fun k f=> ?_⟩
 have:=g k (by simpa using f)
 rw [List.getElem_map] at this
 exact this
theorem dZ {us:List Value} (h:us.length=32):(prog.info? 42).map (·.size)=some us.length:=by rw [h];kernel_rfl
theorem E8 (l:List Ent) (k:Nat) (h:k<l.length):mZ (l.take (k+1))=mZ (l.take k)++l[k].bytes:=by
 unfold mZ;rw [List.take_succ_eq_append_getElem h,List.map_append,List.flatten_append];simp [-List.map_take]
theorem OC (o:ByteArray) (L:List UInt8) (h:o=ofB L) (e:Ent):o++ofB (aQ e.kind)++ofB (aQ e.name.size++e.name.data.toList)++ofB e.id=ofB (L++e.bytes):=by
 subst h
 rw [←dX,←dX,←dX]
 unfold Ent.bytes;simp only [List.append_assoc]
theorem zx (v:Value) (l:List Ent) (w:World) (z:fT w v l) (J:∀e∈l,e.name.size≤1000∧e.kind≤2∧e.id.length=32) (X:l.length≤1000) :
  Calls prog 145 #[v] w fun e w'=>e= .returned (.string (ofB (mZ l)))∧Below w.heap.size w w':=by
 obtain ⟨V,cap,rfl,L,z⟩:=z.open
 have M:=ah J
 have P:=ah z
 clear z J
 go_enter func145,ntmps145
 go_wp2
 go_loopw [3,4] (fun s i wr=> ∃(k:Nat) (o:ByteArray),k≤l.length∧i= .int .i64 k∧s= .string o∧o.size≤k*1100∧Hid (o=ofB (mZ (l.take k)))∧Below w.heap.size w wr) (fun _ i _=>(l.length-intOf i).toNat)
 case atStart=>exact ⟨0,_,by omega,rfl,rfl,by simp;rfl,rfl,Below.refl _ _⟩
 obtain ⟨H,rfl⟩:∃H:World,H=wr:=⟨_,rfl⟩
 obtain ⟨k,o,S,rfl,rfl,N,f,hb⟩:=hrel
 by_cases d:k<l.length
 ·obtain ⟨b,off,rfl,j,a⟩:=P.out (by intro e;rw [e] at d;simp at d)
  have c1:=au (a k d).1 hb j
  have c2:=au (a k d).2.1 hb j
  have c3:=ay (a k d).2.2 hb j
  have O:b<H.heap.size:=by have:=hb.size;omega
  obtain ⟨E,I,h⟩:=M.out l[k] (List.getElem_mem d)
  have q:=ah (fun w=>ny l[k].kind l[k].kind w (Nat.le_refl _) (by omega))
  have u:=ah (fun w=>pz l[k].name w (by omega))
  have t:=ah (fun w=>xk l[k].id w h)
  have B:(ofB (aQ l[k].kind)).size≤6:=by rw [aR];exact gG (by omega)
  have A:(ofB (aQ l[k].name.size++l[k].name.data.toList)).size≤1006:=by
   rw [aR,List.length_append]
   have h1:=gG (n:=l[k].name.size) (by omega)
   have T:l[k].name.data.toList.length=l[k].name.size:=by simp
   omega
  have G:(ofB l[k].id).size≤32:=by rw [aR];omega
  have r:=ah (OC o _ f.out l[k])
  have C:=ah (E8 l k d)
  have g:(idC l[k].id).length=32:=by rw [av,h]
  have p:=dZ g
  clear a f g E I h
  generalize idC l[k].id=us at c3 t p
  generalize ofB (aQ l[k].name.size++l[k].name.data.toList)=q2 at u A r
  generalize ofB (aQ l[k].kind)=q1 at q B r
  generalize ofB l[k].id=U at t G r
  generalize l[k].name=x at c1 u
  generalize l[k].kind=y at c2 q
  have R:(0:Int)≤k:=by omega
  have k1:(k:Int)<l.length:=by omega
  go_wp2
  refine wbq ?_
  have F:=blq c1
  have D:=blq c2
  repeat (go_big_quiet_step ((first|(go_at_call 204;with_reducible exact aA (q.out _))|(go_at_call 150;with_reducible exact aA (u.out _))|(go_at_call 205;with_reducible exact aA (t.out _)))))
  refine aY 42 _ _ rfl rfl rfl c3 (by omega) underlying42 rfl p ?_
  simp only [Act.put,nz]
  repeat (go_big_quiet_step ((first|(go_at_call 204;with_reducible exact aA (q.out _))|(go_at_call 150;with_reducible exact aA (u.out _))|(go_at_call 205;with_reducible exact aA (t.out _)))))
  refine wpQuiet_nil ?_
  intro W m
  clear F D
  have Q:=ah (hb.trans (m.mono hb.size))
  clear hb m c1 c2 c3
  go_wp2
  go_roundw
  case rel=>exact ⟨k+1,_,by omega,by go_num,rfl,by simp only [ByteArray.size_append];omega,by unfold Hid;rw [C.out,←r.out],Q.out⟩
  case measure=>simp [intOf];omega
 obtain rfl:k=l.length:=by omega
 have K:=ah f.out
 rw [List.take_length] at K
 clear f
 go_wp2
 go_ret
 exact ⟨jl K.out,hb⟩
def cmC (t:List UInt8) (v:Value) (x:ByteArray):List Value:=idC t++[v,.string x]
theorem jv (t:List UInt8) (v:Value) (x:ByteArray) (h:t.length=32):(cmC t v x).length=34:=by simp [cmC,av,h]
theorem EB (w:World) (t:List UInt8) (v:Value) (x:ByteArray) (ty:TypeId) (h:t.length=32) :
  (w.alloc (.cells (cmC t v x).toArray ty)).rangeAt w.heap.size 0 (idC t)∧(w.alloc (.cells (cmC t v x).toArray ty)).cell? ⟨w.heap.size,32,none⟩=some v∧(w.alloc (.cells (cmC t v x).toArray ty)).cell? ⟨w.heap.size,33,none⟩=some (.string x):=by
 have a:(idC t).length=32:=by rw [av,h]
 refine ⟨fun j u hu=> ?_,?_,?_⟩
 ·rw [World.cell?_alloc_new,Nat.zero_add]
  have b:=(List.getElem?_eq_some_iff.1 hu).1
  simp only [cmC,List.getElem?_toArray]
  rw [List.getElem?_append_left b];exact hu
 ·rw [World.cell?_alloc_new]
  simp only [cmC,List.getElem?_toArray]
  rw [List.getElem?_append_right (by omega),a];rfl
 rw [World.cell?_alloc_new]
 simp only [cmC,List.getElem?_toArray]
 rw [List.getElem?_append_right (by omega),a];rfl
theorem Kl (l:List (List UInt8)) (k:Nat) (h:k<l.length):(l.take (k+1)).flatten=(l.take k).flatten++l[k]:=by
 rw [List.take_succ_eq_append_getElem h,List.flatten_append];simp
theorem vg (t:List UInt8) (v:Value) (l:List (List UInt8)) (x:ByteArray) (w:World) (K:dF w v l) (G:t.length=32) (hl:∀y∈l,y.length=32) (hn:l.length≤1000) (hx:x.size≤1000) :
  Calls prog 147 #[.agg (cmC t v x).toArray] w fun e w'=>e= .returned (.string (ofB (oz (t,l,x))))∧Below w.heap.size w w':=by
 obtain ⟨H,cap,rfl,aa,K⟩:=K.open
 obtain ⟨E,c1,c2⟩:=EB w t (.slice H l.length cap) x 141 G
 have D:Below w.heap.size w (w.alloc (.cells (cmC t (.slice H l.length cap) x).toArray 141)):=bal
 have p:=ah D
 have d:w.heap.size<(w.alloc (.cells (cmC t (.slice H l.length cap) x).toArray 141)).heap.size:=by simp
 have HZ:=ah hl
 have HV:=ah K
 have a:(idC t).length=32:=by rw [av,G]
 have F:=dZ a
 have I:=ah (fun w=>xk t w G)
 have M:=ah (fun w=>ny l.length l.length w (Nat.le_refl _) (by omega))
 have HT:=ah (fun w=>pz x w (by omega))
 have O:(ofB t).size≤32:=by rw [aR];omega
 have N:(ofB (aQ l.length)).size≤6:=by rw [aR];exact gG (by omega)
 have Q:(ofB (aQ x.size++x.data.toList)).size≤1006:=by
  rw [aR,List.length_append]
  have h1:=gG (n:=x.size) (by omega)
  have h2:x.data.toList.length=x.size:=by simp
  omega
 have Z:Hid (∀o:ByteArray,o=ofB (t++(aQ l.length++l.flatten))→o++ofB (aQ x.size++x.data.toList)=ofB (oz (t,l,x))):=ah (fun o h=>by
  subst h;rw [←dX];unfold oz;simp only [List.append_assoc])
 have A:Hid (ofB t++ofB (aQ l.length)=ofB (t++(aQ l.length++(l.take 0).flatten))):=ah (by rw [←dX];simp)
 clear K hl G a D
 generalize ofB (aQ x.size++x.data.toList)=q3 at HT Q Z
 generalize C:idC t=us at E I F
 have ab:=ah C
 clear C
 generalize cmC t (.slice H l.length cap) x=cs at E c1 c2 p d
 go_enter func147,ntmps147
 go_wp2
 obtain ⟨W,Y⟩:∃W,W=w.alloc (.cells cs.toArray 141):=⟨_,rfl⟩
 rw [←Y] at E c1 c2 p d ⊢
 clear Y
 generalize ofB (aQ l.length)=q2 at M N A
 generalize ofB t=q1 at I O A
 refine wbq ?_
 have P:=blq c1
 repeat (go_big_quiet_step ((first|(go_at_call 205;with_reducible exact aA (I.out _))|(go_at_call 204;with_reducible exact aA (M.out _)))))
 refine aY 42 _ _ rfl rfl rfl E (by omega) underlying42 rfl F ?_
 simp only [Act.put,nz]
 repeat (go_big_quiet_step ((first|(go_at_call 205;with_reducible exact aA (I.out _))|(go_at_call 204;with_reducible exact aA (M.out _)))))
 refine wpQuiet_nil ?_
 intro T g
 clear P
 have J:=bth p g
 have d1:=au c1 g d
 have X:=au c2 g d
 have u:w.heap.size<T.heap.size:=by have:=g.size;omega
 clear E c1 c2 g p d
 go_wp2
 go_loopw [3,4] (fun s i wr=> ∃(k:Nat) (o:ByteArray),k≤l.length∧i= .int .i64 k∧s= .string o∧o.size≤40+k*32∧Hid (o=ofB (t++(aQ l.length++(l.take k).flatten)))∧Below T.heap.size T wr) (fun _ i _=>(l.length-intOf i).toNat)
 case atStart=>exact ⟨0,_,by omega,rfl,rfl,by simp only [ByteArray.size_append];omega,A.out,Below.refl _ _⟩
 obtain ⟨wo,rfl⟩:∃wo:World,wo=wr:=⟨_,rfl⟩
 obtain ⟨k,o,hk,rfl,rfl,ac,m,hb⟩:=hrel
 have e1:=au d1 hb u
 have e2:=au X hb u
 by_cases f:k<l.length
 ·obtain ⟨b,off,rfl,U,j⟩:=HV.out (by intro e;rw [e] at f;simp at f)
  have c3:=ay (j k f) (J.out.trans (hb.mono J.out.size)) U
  have L:=HZ.out l[k] (List.getElem_mem f)
  have a:(idC l[k]).length=32:=by rw [av,L]
  have z:=dZ a
  have B:=ah (fun w=>xk l[k] w L)
  have hq:(ofB l[k]).size≤32:=by rw [aR];omega
  have HS:Hid (o++ofB l[k]=ofB (t++(aQ l.length++(l.take (k+1)).flatten))):=ah (by
   rw [Kl l k f,m.out,←dX];simp only [List.append_assoc])
  clear j m a L
  generalize idC l[k]=uk at c3 B z
  generalize ofB l[k]=q at B hq HS
  have k0:(0:Int)≤k:=by omega
  have k1:(k:Int)<l.length:=by omega
  go_wp2_with (refine wpList_load_mid rfl 42 _ rfl b (off+k*32) rfl uk _ c3 underlying42 rfl z ?_)
  refine (B.out _).mono ?_
  rintro e w1 ⟨rfl,r⟩
  have R:=ah (hb.trans (r.mono hb.size))
  clear hb r e1 e2 d1 X c3
  go_wp2
  go_roundw
  case rel=>exact ⟨k+1,_,by omega,by go_num,rfl,by simp only [ByteArray.size_append];omega,HS.out,R.out⟩
  case measure=>simp [intOf];omega
 obtain rfl:k=l.length:=by omega
 have V:=ah m.out
 rw [List.take_length] at V
 clear m
 go_wp2_with fail
 refine (HT.out _).mono ?_
 rintro e w1 ⟨rfl,r⟩
 go_wp2
 go_ret
 have S:=hb.trans (r.mono hb.size)
 exact ⟨jl (Z.out _ V.out),J.out.trans (S.mono J.out.size)⟩
theorem QI (w:World):(sizeOf 5).run prog w= .ok 1 w:=by kernel_rfl
theorem gM (x y:List UInt8) (hx:x.length=32) (hy:y.length=32) (w:World):(Op.equalIn 10000 42 (.agg (idC x).toArray) (.agg (idC y).toArray)).run prog w= .ok (x==y) w :=
 run_equalIn_bytes w 9998 42 5 32 underlying42 underlying5 QI x y hx hy
theorem kG {x y:List UInt8} (hx:x.length=32) (h:x=y) (w:World):(Op.equalIn 10000 42 (.agg (idC x).toArray) (.agg (idC y).toArray)).run prog w= .ok true w:=by
 subst h;rw [gM x x hx hx w,beq_self_eq_true]
theorem pR {x y:List UInt8} (hx:x.length=32) (hy:y.length=32) (h:x≠y) (w:World):(Op.equalIn 10000 42 (.agg (idC x).toArray) (.agg (idC y).toArray)).run prog w= .ok false w:=by
 rw [gM x y hx hy w,beq_eq_false_iff_ne.2 h]
theorem wL {α:Type} {l:List α} {k:Nat} (n:k<l.length) (h:(l.take k).Nodup) (i:∀j (g:j<k),l[j]≠l[k]):(l.take (k+1)).Nodup:=by
 rw [List.take_succ_eq_append_getElem n,List.nodup_append]
 refine ⟨h,by simp,fun a m b hb e=> ?_⟩
 obtain ⟨j,g,f⟩:=List.getElem_of_mem m
 have d:j<k:=by simp at g;omega
 rw [List.getElem_take] at f
 rw [List.mem_singleton.1 hb] at e
 exact i j d (f.trans e)
theorem Aq {α:Type} {l:List α} {j k:Nat} (b:j<k) (d:k<l.length) (h:l[j]=l[k]):¬l.Nodup:=fun a=>by
 have:=(List.getElem_inj a).1 h
 omega
theorem sQ (t:List UInt8) (v:Value) (l:List (List UInt8)) (x:ByteArray) (w:World) (Q:dF w v l) (ht:t.length=32) (hl:∀y∈l,y.length=32) (hn:l.length≤1000) :
  Calls prog 146 #[.agg (cmC t v x).toArray] w fun e w'=>e= .returned (.bool (bH (t,l,x)))∧Below w.heap.size w w':=by
 obtain ⟨P,cap,rfl,ae,Q⟩:=Q.open
 obtain ⟨_,c1,c2⟩:=EB w t (.slice P l.length cap) x 141 ht
 have I:Below w.heap.size w (w.alloc (.cells (cmC t (.slice P l.length cap) x).toArray 141)):=bal
 have a:=ah I
 have r:w.heap.size<(w.alloc (.cells (cmC t (.slice P l.length cap) x).toArray 141)).heap.size:=by simp
 have HZ:=ah hl
 have HV:=ah Q
 have X:Hid (bH (t,l,x)=(decide l.Nodup&&decide (l.length≤4∧x.size≤64))):=ah rfl
 clear Q hl I
 generalize cmC t (.slice P l.length cap) x=cs at c1 c2 a r
 by_cases h4:4<l.length
 ·have F:Hid (bH (t,l,x)=false):=by unfold Hid;rw [X.out,decide_eq_false (show ¬(l.length≤4∧x.size≤64) by omega),Bool.and_false]
  have d1:decide ((4:Int)<l.length)=true:=decide_eq_true (by omega)
  go_enter func146,ntmps146
  go_wp2
  go_ret
  exact ⟨aK F.out.symm,a.out⟩
 have d1:decide ((4:Int)<l.length)=false:=decide_eq_false (by omega)
 by_cases T:64<x.size
 ·have F:Hid (bH (t,l,x)=false):=by unfold Hid;rw [X.out,decide_eq_false (show ¬(l.length≤4∧x.size≤64) by omega),Bool.and_false]
  have d2:decide ((64:Int)<x.size)=true:=decide_eq_true (by omega)
  go_enter func146,ntmps146
  go_wp2
  go_ret
  exact ⟨aK F.out.symm,a.out⟩
 have d2:decide ((64:Int)<x.size)=false:=decide_eq_false (by omega)
 have L:Hid (bH (t,l,x)=decide l.Nodup):=by unfold Hid;rw [X.out,decide_eq_true (show l.length≤4∧x.size≤64 by omega),Bool.and_true]
 clear h4 T
 go_enter func146,ntmps146
 go_wp2
 obtain ⟨W,hW⟩:∃W,W=w.alloc (.cells cs.toArray 141):=⟨_,rfl⟩
 rw [←hW] at c1 c2 a r ⊢
 clear hW
 go_loopw [3,4] (fun i j wr=> ∃k:Nat,k≤l.length∧i= .int .i64 k∧Hid ((l.take k).Nodup)∧Below W.heap.size W wr) (fun i _ _=>(l.length-intOf i).toNat)
 case atStart=>exact ⟨0,by omega,rfl,List.nodup_nil,Below.refl _ _⟩
 obtain ⟨G,rfl⟩:∃G:World,G=wr:=⟨_,rfl⟩
 obtain ⟨k,hk,rfl,u,hb⟩:=hrel
 have e1:=au c1 hb r
 by_cases o:k<l.length
 ·obtain ⟨b,off,rfl,N,f⟩:=HV.out (by intro e;rw [e] at o;simp at o)
  have c3:=ay (f k o) (a.out.trans (hb.mono a.out.size)) N
  have q:=HZ.out l[k] (List.getElem_mem o)
  have S:=ah (fun j (E:j<l.length) w' (aa:Below w.heap.size w w')=>ay (f j E) aa N)
  have Y:b<G.heap.size:=by have:=a.out.size;have:=hb.size;omega
  have O:w.heap.size<G.heap.size:=by have:=hb.size;omega
  have s:=ah hb
  have V:=ah u.out
  clear f u hb
  go_wp2
  go_loopw [4] (fun j wr=> ∃m:Nat,m≤k∧j= .int .i64 m∧Hid (∀j (E:j<m) (hm:m≤k),l[j]≠l[k])∧Below G.heap.size G wr) (fun j _=>(k-intOf j).toNat)
  case atStart=>exact ⟨0,by omega,rfl,fun j E _=>absurd E (by omega),Below.refl _ _⟩
  obtain ⟨wi,rfl⟩:∃wi:World,wi=wr:=⟨_,rfl⟩
  obtain ⟨m,hm,rfl,z,d⟩:=hrel
  by_cases Z:m<k
  ·have U:=au e1 d O
   have J:=ay c3 d Y
   have ac:w.heap.size<wi.heap.size:=by have:=d.size;omega
   have ad:b<wi.heap.size:=by have:=d.size;omega
   have M:Below w.heap.size w wi:=(a.out.trans (s.out.mono a.out.size)).trans (d.mono (by have:=a.out.size;have:=s.out.size;omega))
   have K:=S.out m (by omega) wi M
   have A:=HZ.out l[m] (List.getElem_mem (show m<l.length by omega))
   have n:=dZ (us:=idC l[k]) (by rw [av,q])
   have g:=dZ (us:=idC l[m]) (by rw [av,A])
   have k0:(0:Int)≤k:=by omega
   have k1:(k:Int)<l.length:=by omega
   have m0:(0:Int)≤m:=by omega
   have m1:(m:Int)<l.length:=by omega
   have m2:decide ((m:Int)<k)=true:=decide_eq_true (by omega)
   have ab:=ah z.out
   clear z M
   by_cases H:l[k]=l[m]
   ·have p:=fun w=>kG q H w
    have F:Hid (bH (t,l,x)=false):=by unfold Hid;rw [L.out];exact decide_eq_false (Aq Z o H.symm)
    clear H q A
    generalize idC l[k]=uk at J n p
    generalize idC l[m]=um at K g p
    go_wp2
    refine wbq ?_
    have C:=blq U
    repeat (go_big_quiet_step (fail))
    refine aY 42 _ _ rfl rfl rfl J (by omega) underlying42 rfl n ?_
    simp only [Act.put,nz]
    repeat (go_big_quiet_step (fail))
    refine aY 42 _ _ rfl rfl rfl K (by omega) underlying42 rfl g ?_
    simp only [Act.put,nz]
    repeat (go_big_quiet_step (fail))
    refine wpQuiet_nil ?_
    intro wq B
    clear C
    go_wp2
    go_ret
    exact ⟨aK F.out.symm,(a.out.trans (s.out.mono a.out.size)).trans ((d.trans (B.mono d.size)).mono (by have:=a.out.size;have:=s.out.size;omega))⟩
   have p:=fun w=>pR q A H w
   have HE:=ah H
   clear H q A
   generalize idC l[k]=uk at J n p
   generalize idC l[m]=um at K g p
   go_wp2
   refine wbq ?_
   have C:=blq U
   repeat (go_big_quiet_step (fail))
   refine aY 42 _ _ rfl rfl rfl J (by omega) underlying42 rfl n ?_
   simp only [Act.put,nz]
   repeat (go_big_quiet_step (fail))
   refine aY 42 _ _ rfl rfl rfl K (by omega) underlying42 rfl g ?_
   simp only [Act.put,nz]
   repeat (go_big_quiet_step (fail))
   refine wpQuiet_nil ?_
   intro wq B
   clear C
   have D:=ah (d.trans (B.mono d.size))
   clear d B U J K
   go_wp2
   go_roundw
   case rel=>exact ⟨m+1,by omega,by go_num,fun j E af=>by
    rcases Nat.lt_or_ge j m with h|h
    ·exact ab.out j h hm
    obtain rfl:j=m:=by omega
    exact fun e=>HE.out e.symm,D.out⟩
   case measure=>simp [intOf];omega
  obtain rfl:m=k:=by omega
  have m2:decide ((m:Int)<m)=false:=decide_eq_false (by omega)
  have R:=ah (wL o V.out (fun j E=>z.out j E (Nat.le_refl _)))
  have D:=bth s d
  clear z d
  go_wp2
  go_roundw
  case rel=>exact ⟨m+1,by omega,by go_num,R.out,D.out⟩
  case measure=>simp [intOf];omega
 obtain rfl:k=l.length:=by omega
 have F:Hid (bH (t,l,x)=true):=by
  unfold Hid;rw [L.out]
  have:=u.out
  rw [List.take_length] at this
  exact decide_eq_true this
 clear u
 go_wp2
 go_ret
 exact ⟨aK F.out.symm,a.out.trans (hb.mono a.out.size)⟩
end
section
open Go.RowKit Go.Maps Go.WideMaps
theorem mapM_some {α β:Type} (f:α→Option β) (g:α→β):∀l:List α,(∀i∈l,f i=some (g i))→l.mapM f=some (l.map g)
 | [],_=>rfl
 | a::l,h=>by
  rw [List.mapM_cons,h a (by simp),mapM_some f g l (fun i hi=>h i (List.mem_cons_of_mem _ hi))];rfl
theorem Pw:ArrKey prog 42 5 32:=⟨underlying42,by kernel_rfl,by kernel_rfl,by kernel_rfl⟩
theorem iI:Keyed prog 42:=Keyed.of_law (ArrKey.law Pw)
theorem E5:∃m,prog.types.size=m+1:=⟨prog.types.size-1,by kernel_rfl⟩
theorem Av (d:Nat) (b:UInt8):Program.keyLits prog (d+1) 5 [Value.int .u8 (b.toNat:Int)]=some [.int .u8 (b.toNat:Int)]:=by
 have a:(Lit.int .u8 (b.toNat:Int)).wf=true:=by
  have:=b.toNat_lt
  simp only [Lit.wf,Bool.and_eq_true,decide_eq_true_eq]
  have f:IntKind.u8.min=0:=by decide
  have e:IntKind.u8.max=255:=by decide
  rw [f,e];omega
 unfold Program.keyLits
 rw [underlying5]
 simp [a]
theorem MS (x:List UInt8) (hx:x.length=32):∃l,keyOf prog 42 (.agg (idC x).toArray)=some l:=by
 have h:=Pw.keyType E5
 obtain ⟨m,hm⟩:=E5
 have o:(idC x).length=32:=by rw [av,hx]
 have a:Program.cellsOf prog 42=32:=by kernel_rfl
 have k:Program.cellsOf prog 5=1:=by kernel_rfl
 have d:Value.formed prog 42 (.agg (idC x).toArray)=true:=by
  unfold Value.formed
  rw [underlying42]
  simp [o,a]
 obtain ⟨n,rfl⟩:∃n,m=n+1:=⟨m-1,by
  have:1<prog.types.size:=of_decide_eq_true (by kernel_rfl)
  omega⟩
 have b:∃ls,Program.keyLits prog (prog.types.size+1) 42 (idC x)=some ls:=by
  rw [hm]
  unfold Program.keyLits
  rw [underlying42]
  dsimp only
  rw [if_pos (by rw [o,a]),k]
  rw [mapM_some _ (fun i=>[Lit.int .u8 ((x.getD i 0).toNat:Int)])]
  ·exact ⟨_,rfl⟩
  intro i hi
  have hi:=List.mem_range.1 hi
  have e:((idC x).drop (i*1)).take 1=[Value.int .u8 ((x.getD i 0).toNat:Int)]:=by
   rw [Nat.mul_one]
   have g:i<x.length:=by omega
   have j:i<(idC x).length:=by omega
   rw [List.drop_eq_getElem_cons j]
   simp [idC,g]
  rw [e];exact Av _ _
 obtain ⟨ls,f⟩:=b
 unfold keyOf
 rw [underlying42]
 dsimp only
 rw [if_pos (by rw [h,d];rfl)]
 exact ⟨_,by show ((Program.keyLits prog _ _ (idC x).toArray.toList).map _)=_;rw [List.toList_toArray,f];rfl⟩
noncomputable def kg (x:List UInt8):Lit:=(keyOf prog 42 (.agg (idC x).toArray)).getD .nil
theorem jr {x:List UInt8} (hx:x.length=32):keyOf prog 42 (.agg (idC x).toArray)=some (kg x):=by
 obtain ⟨l,a⟩:=MS x hx
 unfold kg;rw [a];rfl
theorem H9:∀ {x y:List UInt8},idC x=idC y→x=y
 | [],[],_=>rfl
 | [],_::_,h=>by simp [idC] at h
 | _::_,[],h=>by simp [idC] at h
 | a::x,b::y,h=>by
  unfold idC at h
  simp only [List.map_cons,List.cons.injEq] at h
  obtain ⟨h1,d⟩:=h
  injection h1 with _ h3
  rw [H9 (x:=x) (y:=y) d,UInt8.toNat_inj.1 (show a.toNat=b.toNat by omega)]
theorem qV {x y:List UInt8} (hx:x.length=32) (hy:y.length=32) (h:kg x=kg y):x=y:=by
 have a:=iI.inj ((jr hx).trans (congrArg some h)) (jr hy)
 injection a with h3
 exact H9 (by injection h3)
def eO (v:Value):Option (DataW Value×List MemPlace):=some (.held v,[])
end
section
open Go.RowKit
def Hz (b:Nat) (w:World):Nat:=match w.cell? ⟨b,1,none⟩,w.cell? ⟨b,2,none⟩ with
 | some (.int _ p),some (.int _ e)=>if e=0 then 1000001-p.toNat else 0
 | _,_=>0
theorem qQ {b:Nat} {w:World} {r:Rd} (h:Arr w b 3 r.c):Hz b w=if r.err=0 then 1000001-r.pos else 0:=by
 unfold Hz
 have c1:w.cell? ⟨b,1,none⟩=some (.int .i64 (r.pos:Int)):=h.cell 1 (by omega)
 have c2:w.cell? ⟨b,2,none⟩=some (.int .i64 (r.err:Int)):=h.cell 2 (by omega)
 rw [c1,c2]
 by_cases a:r.err=0
 ·simp [a]
 simp [a]
theorem vG (w:World) (s:ByteArray) (e:TypeId):Arr (w.alloc (.cells #[.string s,.int .i64 0,.int .i64 0] e)) w.heap.size 3 (rd0 s).c :=
 (Arr.ofList w [.string s,.int .i64 0,.int .i64 0] e).congr fun k a=>by
  obtain h|h|h:k=0∨k=1∨k=2:=by simp at a;omega
  all_goals subst h;rfl
def vw (k:Nat):Value:=if k=0 then .string ByteArray.empty else if k=1 then .int .i64 0 else .int .u8 0
theorem Kt:#[.string ⟨#[]⟩,.int .i64 0,.int .u8 0,.int .u8 0,.int .u8 0,.int .u8 0,.int .u8 0,.int .u8 0,.int .u8 0,.int .u8 0,.int .u8 0,.int .u8 0,.int .u8 0,.int .u8 0,.int .u8 0,.int .u8 0,.int .u8 0,.int .u8 0,.int .u8 0,.int .u8 0,.int .u8 0,.int .u8 0,.int .u8 0,.int .u8 0,.int .u8 0,.int .u8 0,.int .u8 0,.int .u8 0,.int .u8 0,.int .u8 0,.int .u8 0,.int .u8 0,.int .u8 0,.int .u8 0]=((List.range 34).map vw).toArray:=by kernel_rfl
theorem yH:∃(b:Array Value) (a:TypeInfo),prog.info? 217=some a∧a.zero=some (.agg b)∧a.size=34∧a.bytes=56∧(∀w,(zeroValue 217).run prog w= .ok (.agg b) w)∧(∀w,(Instr.build 217 #[]).run prog w= .ok (.agg b) w)∧b=((List.range 34).map vw).toArray:=by
 have h:(prog.info? 217).map (fun i=>(i.zero,i.size,i.bytes))=some (some (.agg #[.string ⟨#[]⟩,.int .i64 0,.int .u8 0,.int .u8 0,.int .u8 0,.int .u8 0,.int .u8 0,.int .u8 0,.int .u8 0,.int .u8 0,.int .u8 0,.int .u8 0,.int .u8 0,.int .u8 0,.int .u8 0,.int .u8 0,.int .u8 0,.int .u8 0,.int .u8 0,.int .u8 0,.int .u8 0,.int .u8 0,.int .u8 0,.int .u8 0,.int .u8 0,.int .u8 0,.int .u8 0,.int .u8 0,.int .u8 0,.int .u8 0,.int .u8 0,.int .u8 0,.int .u8 0,.int .u8 0]),34,56):=by kernel_rfl
 obtain ⟨a,hi,f,d,e⟩:=info_parts h
 exact ⟨#[.string ⟨#[]⟩,.int .i64 0,.int .u8 0,.int .u8 0,.int .u8 0,.int .u8 0,.int .u8 0,.int .u8 0,.int .u8 0,.int .u8 0,.int .u8 0,.int .u8 0,.int .u8 0,.int .u8 0,.int .u8 0,.int .u8 0,.int .u8 0,.int .u8 0,.int .u8 0,.int .u8 0,.int .u8 0,.int .u8 0,.int .u8 0,.int .u8 0,.int .u8 0,.int .u8 0,.int .u8 0,.int .u8 0,.int .u8 0,.int .u8 0,.int .u8 0,.int .u8 0,.int .u8 0,.int .u8 0],a,hi,f,d,e,fun w=>by kernel_rfl,fun w=>run_build w 217 #[] _ (by kernel_rfl),Kt⟩
theorem Np:∀v∈(List.range 34).map vw,v.oneCell'=true:=by
 intro v a
 obtain ⟨k,_,rfl⟩:=List.mem_map.1 a
 unfold vw;split
 ·rfl
 split<;>rfl
def Em (e:Ent) (k:Nat):Value:=(dz e).getD k undef
theorem El (e:Ent) (h:e.id.length=32) (k:Nat) (d:k<34):(if 2≤k∧k<2+(idC e.id).length then (idC e.id).getD (k-2) undef else upd (upd vw 1 (.int .i64 (e.kind:Int))) 0 (.string e.name) k)=Em e k:=by
 have b:(idC e.id).length=32:=by rw [av,h]
 rw [b]
 unfold upd Em dz
 obtain a|a|a:k=0∨k=1∨2≤k:=by omega
 ·subst a;rfl
 ·subst a;rfl
 rw [if_pos ⟨a,by omega⟩]
 rw [List.getD_eq_getElem?_getD,List.getD_eq_getElem?_getD,List.getElem?_append_right (by simpa using a)];rfl
theorem rD (e:Ent):∀v∈dz e,v.oneCell'=true:=by
 intro v a
 unfold dz at a
 rcases List.mem_append.1 a with h|h
 ·simp at h;rcases h with rfl|rfl<;>rfl
 exact aJ _ v h
theorem jW (w:World) (cs:List Value) (e:TypeId) (j:Nat) (u:Value) (h:cs[j]? = some u):(w.alloc (.cells cs.toArray e)).cell? ((⟨w.heap.size,0,none⟩:Addr).add j)=some u:=by
 rw [Addr.add_mid,Nat.zero_add,World.cell?_alloc_new];simpa using h
theorem AU (e:Ent) (h:e.id.length=32):(List.range 34).map (Em e)=dz e:=by
 have b:(dz e).length=34:=by simp [dz,av,h]
 apply List.ext_getElem
 ·simp [b]
 intro i h1 a
 simp [Em,a]
def mI (l:List Ent):List Value:=(l.map dz).flatten
theorem yE (l:List Ent) (e:Ent):mI (l++[e])=mI l++dz e:=by simp [mI]
theorem AR (r:Rd):∀(f:Nat) (es:List Ent),r.more=false→r.iM f es=(r,es)
 | 0,_,_=>rfl
 | _+1,_,h=>by unfold Rd.iM;rw [h];rfl
theorem Ic (r : Rd) : ∀ (f : Nat) (es : List Ent), r.more = true → 0 < f → r.iM f es = r.entry.1.iM (f - 1) (es ++ [r.entry.2])
  | 0, _, _, h => by omega
  | f + 1, es, h, _ => by conv => lhs; unfold Rd.iM
                          rw [if_pos h]; rfl
theorem own_below {w w':World} {B:Nat} {e:TypeId} {sz:Nat} {v:Value} {n:Nat} {xs:List Value} (h:w.ownsRow B e sz v n xs) (hb:Below w.heap.size w w'):w'.ownsRow B e sz v n xs :=
 h.kept (aC hb none) (by cases a:v.ownBlock<;>simp)
theorem jd {w w':World} {B b:Nat} {e:TypeId} {sz:Nat} {v:Value} {n:Nat} {xs:List Value} (h:w.ownsRow B e sz v n xs) (a:w.grownBy w' (some b)) (hb:b<B):w'.ownsRow B e sz v n xs :=
 h.kept a (by
  cases d:v.ownBlock with
  | none=>exact .inl rfl
  | some g=>right;intro e;cases e;have:=(h.lt b d).1;omega)
theorem own_ne {w:World} {B b:Nat} {e:TypeId} {sz:Nat} {v:Value} {n:Nat} {xs:List Value} (h:w.ownsRow B e sz v n xs) (hb:b<B):v.ownBlock=none∨v.ownBlock≠some b:=by
 cases a:v.ownBlock with
 | none=>exact .inl rfl
 | some g=>right;intro e;cases e;have:=(h.lt b a).1;omega
theorem qK {w:World} {B:Nat} {e:TypeId} {sz:Nat} {v:Value} {n:Nat} {xs:List Value} (h:w.ownsRow B e sz v n xs):v.ownBlock=none∨v.ownBlock≠some w.heap.size:=by
 cases a:v.ownBlock with
 | none=>exact .inl rfl
 | some g=>right;intro e;cases e;have:=(h.lt _ a).2;omega
theorem lU {w:World} {B b o:Nat} {e:TypeId} {sz:Nat} {v u:Value} {n:Nat} {xs:List Value} (h:w.ownsRow B e sz v n xs) (a:v.ownBlock=none∨v.ownBlock≠some b):(w.setCell ⟨b,o,none⟩ u).ownsRow B e sz v n xs :=
 h.kept (aS (World.grownBy.refl w (some b)) u) a
theorem DC {w:World} {B b o:Nat} {e:TypeId} {sz:Nat} {v:Value} {n:Nat} {xs us:List Value} (h:w.ownsRow B e sz v n xs) (a:v.ownBlock=none∨v.ownBlock≠some b):(w.setCells b o us).ownsRow B e sz v n xs :=
 h.kept (bA us o w (World.grownBy.refl w (some b))) a
theorem Arr.jS {w w':World} {b n:Nat} {c:Nat→Value} (h:Arr w b n c) {row:Option Nat} (g:w.grownBy w' row) (d:row≠some b):Arr w' b n c :=
 ⟨fun k f=>g.cell (h.cell k f) (fun e=>d e.symm),fun k f=>by
  rw [World.frozen?_of_block (w:=w) (a:=⟨b,k,none⟩) (g.block b (h.lt (by omega)) (fun e=>d e.symm))];exact h.free k f⟩
theorem Arr.iL {w:World} {b n B:Nat} {c:Nat→Value} (h:Arr w b n c) (a:B≠b):∀(us:List Value) (o:Nat),Arr (w.setCells B o us) b n c:=fun us o =>
 h.jS (bA us o w (World.grownBy.refl w (some B))) (fun e=>a (Option.some.inj e))
theorem yF (r:Rd) (a:r.fine):(if r.entry.1.err=0 then 1000001-r.entry.1.pos else 0)<1000001-r.pos:=by
 have h1:=a.pos
 have b:=a.size
 split
 ·rename_i h
  obtain ⟨_,_,d,_⟩:=r.jB a h
  omega
 omega
theorem BG (s:ByteArray) (w:World) (hs:s.size≤100000) :
  Calls prog 80 #[.string s] w fun e w'=> ∃v,e= .returned (.tuple #[v,.bool (bJ s).isSome])∧(fT w' v ((bJ s).getD [])∧w'.ownsRow (w.heap.size+1) 217 34 v ((bJ s).getD []).length (((bJ s).getD []).map dz).flatten)∧Below w.heap.size w w':=by
 obtain ⟨D,i0,hi,cx,b5,cq,cz,cM,aE⟩:=yH
 have bz:D.size=34:=by rw [aE];simp
 have H:=ah bz
 have aw:=ah aE
 clear bz aE
 have cy:=ah (vG w s 215)
 have bd:Below w.heap.size w (w.alloc (.cells #[.string s,.int .i64 0,.int .i64 0] 215)):=bal
 have ch:=ah bd
 clear bd
 go_enter func80,ntmps80
 go_wp2
 go_loopw [5,6] (fun v _ wr=> ∃(r:Rd) (es:List Ent) (f:Nat),Arr wr w.heap.size 3 r.c∧Hid r.fine∧r.err≤4∧Hid (r.s=s)∧Hid (r.iM f es=(rd0 s).iM (s.size+1) [])∧Hid (r.err=0→r.s.size-r.pos<f∧es.length≤r.pos)∧Hid (∀e∈es,e.id.length=32)∧es.length≤100001∧wr.ownsRow (w.heap.size+1) 217 34 v es.length (mI es)∧Below w.heap.size w wr) (fun _ _ wr=>Hz w.heap.size wr)
 case atStart=>exact ⟨rd0 s,[],s.size+1,cy.out,dG s (by omega),by show 0≤4;omega,rfl,rfl,(fun _=>⟨by show s.size-0<s.size+1;omega,Nat.zero_le _⟩),(fun e O=>by cases O),by simp,World.ownsRow_nil _ _ _ _,ch.out⟩
 obtain ⟨b,rfl⟩:∃b:World,b=wr:=⟨_,rfl⟩
 obtain ⟨r,es,f,hA,hf,h4,J,hN,cF,hid,cI,l,hb⟩:=hrel
 have c1:b.cell? ⟨w.heap.size,1,none⟩=some (.int .i64 (r.pos:Int)):=hA.cell 1 (by omega)
 have c2:b.cell? ⟨w.heap.size,2,none⟩=some (.int .i64 (r.err:Int)):=hA.cell 2 (by omega)
 have b0:=hA.lt (by omega)
 obtain ⟨co,cc,rfl⟩:=bO l
 by_cases hm:r.more=true
 ·obtain ⟨a7,G⟩:=of_decide_eq_true hm
  obtain ⟨cK,cG⟩:=cF.out a7
  have d1:((r.err:Int)==0)=true:=by rw [beq_iff_eq];omega
  have d2:decide ((r.pos:Int)<s.size)=true:=decide_eq_true (by rw [J.out] at G;omega)
  have d3:decide (r.pos<s.size)=true:=decide_eq_true (by rw [J.out] at G;omega)
  have ce:=ah (qQ hA)
  have cn:=ah a7
  have HM:=ah hm
  have ap:=ah (yF r hf.out)
  have a:Hid (r.entry=(((r.num 2).1.text 32).1.id.1,⟨((r.num 2).1.text 32).2,(r.num 2).2,((r.num 2).1.text 32).1.id.2⟩)):=ah rfl
  have T:=ah (Rd.cB r 2 hf.out)
  have L:=ah (Rd.dI _ 32 T.out.1)
  have HA:=ah hA
  have HN:=ah (fun W (hA:Arr W w.heap.size 3 r.c)=>wZ w.heap.size r 2 W hA hf.out (by omega))
  have HT:=ah (fun W (hA:Arr W w.heap.size 3 (r.num 2).1.c)=>Ab w.heap.size _ 32 W hA T.out.1 (by omega))
  have HI:=ah (fun W (hA:Arr W w.heap.size 3 ((r.num 2).1.text 32).1.c)=>BD w.heap.size _ W hA L.out)
  have m:Hid ((((r.num 2).1.text 32).1.id.2).length=32):=ah (fE _)
  have a0:=ah (r.jg hf.out)
  have al:=ah (r.yG h4)
  have X:=ah (r.Ie)
  have F:=ah (r.jB hf.out)
  have ax:Hid (r.iM f es=r.entry.1.iM (f-1) (es++[r.entry.2])):=ah (Ic r f es hm (by omega))
  clear hA hm a7
  generalize r.entry=en at a ap a0 al X F ax
  obtain ⟨r',e⟩:=en
  generalize r.num 2=x1 at a HN HT T HI m L
  obtain ⟨r1,E⟩:=x1
  dsimp only at a HN HT T HI m L
  generalize r1.text 32=x2 at a HT HI m L
  obtain ⟨r2,nm⟩:=x2
  dsimp only at a HT HI m L
  generalize r2.id=x3 at a HI m
  obtain ⟨r3,d⟩:=x3
  dsimp only at a HI m a0 al X ap F ax
  obtain ⟨rfl,rfl⟩:r'=r3∧e=⟨nm,E,d⟩:=by have:=a.out;injection this with h1 h2;exact ⟨h1,h2⟩
  clear a
  have az:Arr (b.alloc (.cells D 217)) b.heap.size 34 vw:=by
   rw [aw.out]
   exact (Arr.ofList b ((List.range 34).map vw) 217).congr fun k C=>by simp at C;simp [C]
  have ag:=ah az
  have hE:Arr ((b.alloc (.cells D 217)).setCells b.heap.size 0 D.toList) b.heap.size 34 vw :=
   (az.setCells 0 D.toList (by rw [Array.length_toList,H.out];exact Nat.le_refl _)).congr fun k C=>by
    rw [Array.length_toList,H.out,if_pos ⟨by omega,by omega⟩,aw.out];simp [C]
  have bu:Below b.heap.size b ((b.alloc (.cells D 217)).setCells b.heap.size 0 D.toList):=below_setCells _ (Nat.le_refl _) _ _ _ bal
  have HE:=ah hE
  have K:=ah bu
  clear az hE bu
  go_wp2_with (refine wpList_store_mid rfl 217 _ _ rfl b.heap.size 0 D rfl rfl ?g1 ?g2 ?g3 ?_)
  case g1=>rw [H.out];exact ag.out.there
  case g2=>exact H.out.symm
  case g3 =>
   intro i cL
   have hm:D[i]∈D.toList:=by simp
   have h2:D.toList=(List.range 34).map vw:=by rw [aw.out]
   exact Np _ (h2▸hm)
  generalize hW:(b.alloc _).setCells _ _ _=W
  rw [hW] at HE K
  have ck:=HA.out.below K.out b0
  have cw:=ah (own_below l K.out)
  have M:=ah l.lt
  have ba:=ah (qK l)
  have cN:=ah (own_ne l (Nat.lt_succ_self w.heap.size))
  have cH:b.heap.size<W.heap.size:=HE.out.lt (by omega)
  clear hW l c1 c2 ag
  refine (HN.out W ck).mono ?_
  rintro e w1 ⟨rfl,bt,U⟩
  have aa:=HE.out.grown U (by omega)
  have bi:=jd cw.out U (by omega)
  have c1:=aa.cell 1 (by omega)
  have f1:=aa.free 1 (by omega)
  have cg:=ah (bt.far (p:=⟨b.heap.size,1,none⟩) (by show b.heap.size≠_;omega) (.int .i64 (E:Int)))
  have cb:=ah (aa.set 1 (by omega) (.int .i64 (E:Int)))
  have cf:=ah (lU (o:=1) (u:=.int .i64 (E:Int)) bi ba.out)
  have an:=ah U
  clear bt aa bi U
  go_wp2_with fail
  refine (HT.out _ cg.out).mono ?_
  rintro e w2 ⟨rfl,bs,P⟩
  have R:=cb.out.grown P (by omega)
  have bj:=jd cf.out P (by omega)
  have c2:=R.cell 0 (by omega)
  have f2:=R.free 0 (by omega)
  have cv:=ah (bs.far (p:=⟨b.heap.size,0,none⟩) (by show b.heap.size≠_;omega) (.string nm))
  have cD:=ah (R.set 0 (by omega) (.string nm))
  have cd:=ah (lU (o:=0) (u:=.string nm) bj ba.out)
  have b6:=ah P
  clear bs R bj P c1 f1
  go_wp2_with fail
  refine (HI.out _ cv.out).mono ?_
  rintro e w3 ⟨rfl,bh,Y⟩
  have bc:(idC d).length=32:=by rw [av,m.out]
  have ab:=cD.out.grown Y (by omega)
  have b1:=jd cd.out Y (by omega)
  have b2:=ah (bh.iL (B:=b.heap.size) (by omega) (idC d) 2)
  have a6:=ah ((ab.setCells 2 (idC d) (by omega)).congr (fun k C=>El ⟨nm,E,d⟩ m.out k C))
  have bp:=ah (DC (o:=2) (us:=idC d) b1 ba.out)
  have bo:w3.there b.heap.size 2 32:=fun j hj=>⟨by rw [ab.cell _ (by omega)];rfl,ab.free _ (by omega)⟩
  have cp:=ah bo
  have cj:=ah Y
  have b4:=ah bc
  have bk:=ah (aJ d)
  have ca:(prog.info? 42).map (·.size)=some 32:=by kernel_rfl
  have z:(dz ⟨nm,E,d⟩).length=34:=by simp [dz,av,m.out]
  have b3:(prog.info? 217).map (·.size)=some (dz ⟨nm,E,d⟩).length:=by
   rw [z,hi];exact congrArg some b5
  have n:=ah z
  have bb:=ah (rD ⟨nm,E,d⟩)
  clear z
  clear bh ab b1 Y c2 f2 bo bc
  have b8:idV d= .agg (idC d).toArray:=rfl
  rw [b8]
  clear b8
  generalize am:dz ⟨nm,E,d⟩=cs at b3 n bb
  have ac:=a6.out.range
  rw [AU ⟨nm,E,d⟩ m.out,am] at ac
  have cm:=ah am
  clear am
  have br:Hid (∀w,(sizeOf 217).run prog w= .ok cs.length w):=ah (fun w=>by rw [n.out];kernel_rfl)
  have ci:=ah (show 0<cs.length by rw [n.out];omega)
  have cE:=ah (show cs.length≤1000 by rw [n.out];omega)
  generalize cA:idC d=us at b2 a6 bp b4 bk ac
  clear cA
  have ct:=ah ac
  have ai:b.heap.size<(w3.setCells b.heap.size 2 us).heap.size:=a6.out.lt (show 0<34 by omega)
  have bm:=ah ai
  clear ac ai
  go_wp2_with (first|(refine aj rfl 42 _ _ rfl b.heap.size 2 us ?y1 ?y2 32 b4.out ?y4 ca bk.out ?_)|(refine wpList_load_mid rfl 217 _ rfl b.heap.size 0 rfl cs _ ct.out underlying217 rfl b3 ?_)|(refine aG rfl (.tmp 35) 137 217 rfl cs D rfl underlying137 br.out cz ci.out cE.out ?_)|(at_builtin;refine wpList_append_own _ rfl (.tmp 34) (.tmp 36) 137 rfl (w.heap.size+1) 217 i0 (.agg D) 34 56 underlying137 hi cx b5 cq H.out (by decide) _ es.length (mI es) rfl (bp.out.alloc _) ⟨(w3.setCells b.heap.size 2 us).heap.size,0,none⟩ 1 1 cs ?a1 n.out ?a2 bb.out ?a3 ?a4 ?a5 ?_))
  try case y1=>rfl
  try case y2=>rfl
  try case y4=>exact cp.out
  case a2=>exact fun j u hj=>jW _ cs _ j u hj
  case a3=>unfold maxLen;omega
  case a4=>omega
  case a5=>rw [World.size_alloc];have:=bm.out;omega
  intro v' w5 A ar _
  have Q:Below w.heap.size w (w3.setCells b.heap.size 2 us):=by
   refine below_setCells _ (by omega) _ _ _ ?_
   have q1:=(hb.trans (K.out.mono hb.size)).grown an.out (by have:=K.out.size;omega) (fun k C=>by cases C;exact Nat.le_refl _)
   have q2:=(q1.setCell (p:=⟨b.heap.size,1,none⟩) (by show w.heap.size≤b.heap.size;omega) (.int .i64 (E:Int))).grown b6.out (by have:=an.out.size;simp;omega) (fun k C=>by cases C;exact Nat.le_refl _)
   exact (q2.setCell (p:=⟨b.heap.size,0,none⟩) (by show w.heap.size≤b.heap.size;omega) (.string nm)).grown cj.out (by have:=b6.out.size;have:=an.out.size;simp at *;omega) (fun k C=>by cases C;exact Nat.le_refl _)
  have b7:Below w.heap.size w w5:=(Q.alloc Q.size _).grown ar (by rw [World.size_alloc];have:=Q.size;omega) (fun k C=>by have:=(M.out k C).1;omega)
  have bv:Arr w5 w.heap.size 3 r'.c:=(b2.out.alloc (by omega) _).jS ar (fun e=>by have:=(M.out _ e).1;omega)
  have be:=ah bv
  have cr:=ah b7
  rw [←cm.out,←yE] at A
  have cl:=ah A
  have cJ:=hf.out.pos
  have b9:r.s.size=s.size:=by rw [J.out]
  clear bv b7 Q A ar
  go_wp2
  go_roundw
  case rel =>
   refine ⟨r',es++[⟨nm,E,d⟩],f-1,be.out,a0.out,al.out,X.out.trans J.out,ah (ax.out.symm.trans hN.out),fun h0=> ?_,fun e O=> ?_,by simp;omega,by rw [List.length_append];exact cl.out,cr.out⟩
   ·obtain ⟨_,_,q3,_⟩:=F.out h0
    rw [X.out,List.length_append,List.length_singleton]
    omega
   rcases List.mem_append.1 O with h|h
   ·exact hid.out e h
   rw [List.mem_singleton.1 h];exact m.out
  rw [qQ be.out,ce.out,if_pos cn.out];exact ap.out
 have ae:r.more=false:=by simpa using hm
 have ad:(rd0 s).iM (s.size+1) []=(r,es):=by rw [←hN.out];exact AR r f es ae
 rw [Rd.yD] at ad
 have e1:(jD s).1=r:=congrArg Prod.fst ad
 have e2:(jD s).2=es:=congrArg Prod.snd ad
 have ao:Hid (bJ s=if r.fin=0∧eZ es=true then some es else none):=by unfold Hid bJ;rw [e1,e2]
 have y:=ah (fun W (hA:Arr W w.heap.size 3 r.c)=>Dq w.heap.size r W hA hf.out)
 have a8:=ah hA
 have af:=ah l
 clear ad hN hA l hm
 by_cases h0:r.err=0
 ·have G:¬r.pos<r.s.size:=fun h=>by have:=of_decide_eq_false ae;exact this ⟨h0,h⟩
  have b9:r.s.size=s.size:=by rw [J.out]
  have d1:((r.err:Int)==0)=true:=by rw [beq_iff_eq];omega
  have d2:decide ((r.pos:Int)<s.size)=false:=decide_eq_false (by omega)
  have d3:decide (r.pos<s.size)=false:=decide_eq_false (by omega)
  have g:r.fin=0:=by unfold Rd.fin;rw [if_neg (by simp [h0]),if_neg G]
  have aq:Hid (∀W,Below b.heap.size b W→fT W (.slice co es.length cc) es):=ah (fun W I=>(bM.iE (B:=w.heap.size+1) (e:=217) (sz:=34) (rows:=es.map dz) (fun r hr=>by
   obtain ⟨e,O,rfl⟩:=List.mem_map.1 hr
   simp [dz,av,hid.out e O]) (by rw [List.length_map];exact af.out)).below I)
  have e0:(jD s).1.err=0:=by rw [e1];exact h0
  have Z:=Rd.pX (s.size+1) (rd0 s) (dG s (by omega)) e0
  have e3:((rd0 s).ents (s.size+1)).2=es:=e2
  rw [e3] at Z
  have V:=ah (fun W (I:Below b.heap.size b W)=>wX (.slice co es.length cc) es W (aq.out W I) (fun e O=>by have:=Z e O;omega))
  have cC:Hid (eZ es=true→ ∀W,Below b.heap.size b W→Calls prog 145 #[.slice co es.length cc] W fun e w'=>e= .returned (.string s)∧Below W.heap.size W w'):=ah (fun q W I=>by
   have ca:es.length≤32:=by
    rw [gW] at q
    simp only [Bool.and_eq_true,decide_eq_true_eq] at q
    exact q.2
   have:=zx (.slice co es.length cc) es W (aq.out W I) (fun e O=>by have h1:=Z e O;exact ⟨by omega,by omega,hid.out e O⟩) (by omega)
   have hc:=Bp s (by omega) (by rw [e1];exact g)
   rw [e2] at hc
   rw [hc,sV] at this
   exact this)
  rw [g] at y
  clear Z e0 e1 e2 e3 G h0 ae
  have bf:=ah g
  clear g
  cases q:eZ es with
  | false =>
   have HR:Hid (bJ s=none):=by unfold Hid;rw [ao.out,if_neg (by rw [q];simp)]
   rw [q] at V
   clear q
   go_wp2_with fail
   refine (y.out _ a8.out).mono ?_
   rintro e w1 ⟨rfl,x⟩
   have t:=ah x
   clear x
   go_wp2_with fail
   refine (V.out _ t.out).mono ?_
   rintro e w2 ⟨rfl,N⟩
   have S:=ah (hb.trans ((t.out.trans (N.mono t.out.size)).mono hb.size))
   clear N
   go_wp2
   go_ret2
   exact ⟨.slice none 0 0,by rw [HR.out];rfl,by rw [HR.out];exact ⟨⟨none,0,rfl,by simp,fun h=>absurd rfl h⟩,World.ownsRow_nil _ _ _ _⟩,S.out⟩
  | true =>
   have HR:Hid (bJ s=some es):=by unfold Hid;rw [ao.out,if_pos ⟨bf.out,q⟩]
   have bn:=ah (cC.out q)
   rw [q] at V
   clear q
   go_wp2_with fail
   refine (y.out _ a8.out).mono ?_
   rintro e w1 ⟨rfl,x⟩
   have t:=ah x
   clear x
   go_wp2_with fail
   refine (V.out _ t.out).mono ?_
   rintro e w2 ⟨rfl,N⟩
   have S:=bth t N
   clear N
   go_wp2_with fail
   refine (bn.out _ S.out).mono ?_
   rintro e w3 ⟨rfl,bx⟩
   have a9:=bth S bx
   clear bx
   go_wp2
   go_ret2
   exact ⟨.slice co es.length cc,by rw [HR.out];rfl,by rw [HR.out];exact ⟨aq.out _ a9.out,own_below af.out a9.out⟩,hb.trans (a9.out.mono hb.size)⟩
 have d1:((r.err:Int)==0)=false:=by rw [beq_eq_false_iff_ne];omega
 have g:r.fin=r.err:=by unfold Rd.fin;rw [if_pos h0]
 have d2:((r.err:Int) != 0)=true:=by rw [bne_iff_ne];omega
 have HR:Hid (bJ s=none):=by unfold Hid;rw [ao.out,if_neg (by rw [g];exact fun h=>h0 h.1)]
 rw [g] at y
 clear g h0 ae e1 e2
 go_wp2_with fail
 refine (y.out _ a8.out).mono ?_
 rintro e w1 ⟨rfl,x⟩
 have t:=ah (hb.trans (x.mono hb.size))
 clear x
 go_wp2
 go_ret2
 exact ⟨.slice none 0 0,by rw [HR.out];rfl,by rw [HR.out];exact ⟨⟨none,0,rfl,by simp,fun h=>absurd rfl h⟩,World.ownsRow_nil _ _ _ _⟩,t.out⟩
theorem BH (s:ByteArray) (w:World) (b:s.size≤100000) :
  Calls prog 80 #[.string s] w fun e w'=> ∃v,e= .returned (.tuple #[v,.bool (bJ s).isSome])∧fT w' v ((bJ s).getD [])∧Below w.heap.size w w' :=
 (BG s w b).mono fun _ _ ⟨v,h1,a,d⟩=>⟨v,h1,a.1,d⟩
def zid:List UInt8:=List.replicate 32 0
theorem aV:zid.length=32:=by simp [zid]
theorem NJ:#[.int .u8 0,.int .u8 0,.int .u8 0,.int .u8 0,.int .u8 0,.int .u8 0,.int .u8 0,.int .u8 0,.int .u8 0,.int .u8 0,.int .u8 0,.int .u8 0,.int .u8 0,.int .u8 0,.int .u8 0,.int .u8 0,.int .u8 0,.int .u8 0,.int .u8 0,.int .u8 0,.int .u8 0,.int .u8 0,.int .u8 0,.int .u8 0,.int .u8 0,.int .u8 0,.int .u8 0,.int .u8 0,.int .u8 0,.int .u8 0,.int .u8 0,.int .u8 0,.slice none 0 0,.string ⟨#[]⟩]=(cmC zid (.slice none 0 0) ⟨#[]⟩).toArray:=by kernel_rfl
theorem Ij:∃a:Array Value,(∀w,(zeroValue 141).run prog w= .ok (.agg a) w)∧(∀w,(Instr.build 141 #[]).run prog w= .ok (.agg a) w)∧a=(cmC zid (.slice none 0 0) ⟨#[]⟩).toArray :=
 ⟨#[.int .u8 0,.int .u8 0,.int .u8 0,.int .u8 0,.int .u8 0,.int .u8 0,.int .u8 0,.int .u8 0,.int .u8 0,.int .u8 0,.int .u8 0,.int .u8 0,.int .u8 0,.int .u8 0,.int .u8 0,.int .u8 0,.int .u8 0,.int .u8 0,.int .u8 0,.int .u8 0,.int .u8 0,.int .u8 0,.int .u8 0,.int .u8 0,.int .u8 0,.int .u8 0,.int .u8 0,.int .u8 0,.int .u8 0,.int .u8 0,.int .u8 0,.int .u8 0,.slice none 0 0,.string ⟨#[]⟩],fun w=>by kernel_rfl,fun w=>run_build w 141 #[] _ (by kernel_rfl),NJ⟩
theorem eu:∃(b:Array Value) (a:TypeInfo),prog.info? 42=some a∧a.zero=some (.agg b)∧a.size=32∧a.bytes=32∧(∀w,(zeroValue 42).run prog w= .ok (.agg b) w)∧b.size=32:=by
 have h:(prog.info? 42).map (fun i=>(i.zero,i.size,i.bytes))=some (some (.agg #[.int .u8 0,.int .u8 0,.int .u8 0,.int .u8 0,.int .u8 0,.int .u8 0,.int .u8 0,.int .u8 0,.int .u8 0,.int .u8 0,.int .u8 0,.int .u8 0,.int .u8 0,.int .u8 0,.int .u8 0,.int .u8 0,.int .u8 0,.int .u8 0,.int .u8 0,.int .u8 0,.int .u8 0,.int .u8 0,.int .u8 0,.int .u8 0,.int .u8 0,.int .u8 0,.int .u8 0,.int .u8 0,.int .u8 0,.int .u8 0,.int .u8 0,.int .u8 0]),32,32):=by kernel_rfl
 obtain ⟨a,hi,f,d,e⟩:=info_parts h
 exact ⟨#[.int .u8 0,.int .u8 0,.int .u8 0,.int .u8 0,.int .u8 0,.int .u8 0,.int .u8 0,.int .u8 0,.int .u8 0,.int .u8 0,.int .u8 0,.int .u8 0,.int .u8 0,.int .u8 0,.int .u8 0,.int .u8 0,.int .u8 0,.int .u8 0,.int .u8 0,.int .u8 0,.int .u8 0,.int .u8 0,.int .u8 0,.int .u8 0,.int .u8 0,.int .u8 0,.int .u8 0,.int .u8 0,.int .u8 0,.int .u8 0,.int .u8 0,.int .u8 0],a,hi,f,d,e,fun w=>by kernel_rfl,rfl⟩
def cmF (t:List UInt8) (v:Value) (x:ByteArray) (k:Nat):Value:=(cmC t v x).getD k undef
theorem yO {t:List UInt8} (h:t.length=32) (v:Value) (x:ByteArray) {k:Nat} (a:k<32):cmF t v x k=(idC t).getD k undef:=by
 unfold cmF cmC
 rw [List.getD_eq_getElem?_getD,List.getD_eq_getElem?_getD,List.getElem?_append_left (by rw [av,h];exact a)]
theorem kP {t:List UInt8} (h:t.length=32) (v:Value) (x:ByteArray):cmF t v x 32=v:=by
 unfold cmF cmC
 rw [List.getD_eq_getElem?_getD,List.getElem?_append_right (by rw [av,h];exact Nat.le_refl _),av,h];rfl
theorem tJ {t:List UInt8} (h:t.length=32) (v:Value) (x:ByteArray):cmF t v x 33= .string x:=by
 unfold cmF cmC
 rw [List.getD_eq_getElem?_getD,List.getElem?_append_right (by rw [av,h];omega),av,h];rfl
theorem Pz {t:List UInt8} (h:t.length=32) (v u:Value) (x:ByteArray):∀k,k<34→upd (cmF t v x) 32 u k=cmF t u x k:=by
 intro k b
 unfold upd
 by_cases e:k=32
 ·subst e;rw [if_pos rfl,kP h]
 rw [if_neg e]
 by_cases a:k<32
 ·rw [yO h _ _ a,yO h _ _ a]
 obtain rfl:k=33:=by omega
 rw [tJ h,tJ h]
theorem Py {t:List UInt8} (h:t.length=32) (v:Value) (x y:ByteArray):∀k,k<34→upd (cmF t v x) 33 (.string y) k=cmF t v y k:=by
 intro k b
 unfold upd
 by_cases e:k=33
 ·subst e;rw [if_pos rfl,tJ h]
 rw [if_neg e]
 by_cases a:k<32
 ·rw [yO h _ _ a,yO h _ _ a]
 obtain rfl:k=32:=by omega
 rw [kP h,kP h]
theorem PD {t d:List UInt8} (h:t.length=32) (hd:d.length=32) (v:Value) (x:ByteArray):∀k,k<34→(if 0≤k∧k<0+(idC d).length then (idC d).getD (k-0) undef else cmF t v x k)=cmF d v x k:=by
 intro k f
 have b:(idC d).length=32:=by rw [av,hd]
 rw [b]
 by_cases a:k<32
 ·rw [if_pos ⟨by omega,by omega⟩,yO hd _ _ a,Nat.sub_zero]
 rw [if_neg (by omega)]
 obtain e|e:k=32∨k=33:=by omega
 ·subst e;rw [kP h,kP hd]
 subst e;rw [tJ h,tJ hd]
theorem ED {t:List UInt8} (h:t.length=32) (v:Value) (x:ByteArray):(List.range 34).map (cmF t v x)=cmC t v x:=by
 have b:(cmC t v x).length=34:=jv t v x h
 apply List.ext_getElem
 ·simp [b]
 intro i h1 a
 simp [cmF,a]
theorem vQ (w:World) {t:List UInt8} (h:t.length=32) (v:Value) (x:ByteArray) (e:TypeId):Arr (w.alloc (.cells (cmC t v x).toArray e)) w.heap.size 34 (cmF t v x):=by
 have:=Arr.ofList w (cmC t v x) e
 rw [jv t v x h] at this
 exact this
theorem Ct (t:List UInt8) (a:Option Addr) (n c:Nat) (x:ByteArray):∀v∈cmC t (.slice a n c) x,v.oneCell'=true:=by
 intro v b
 unfold cmC at b
 rcases List.mem_append.1 b with h|h
 ·exact aJ _ v h
 simp at h;rcases h with rfl|rfl<;>rfl
theorem yQ (w:World) (o:Obj) (p:Addr) (h:p.block<w.heap.size):(w.alloc o).cell? p=w.cell? p:=World.cell?_alloc_lt _ _ _ h
def dx (l:List (List UInt8)):List Value:=(l.map idC).flatten
theorem nZ (l:List (List UInt8)) (x:List UInt8):dx (l++[x])=dx l++idC x:=by simp [dx]
theorem FI (s:ByteArray) (w:World) (hs:s.size≤100000) :
  Calls prog 81 #[.string s] w fun e w'=> ∃v,e= .returned (.tuple #[.agg (cmC ((aL s).getD (zid,[],⟨#[]⟩)).1 v ((aL s).getD (zid,[],⟨#[]⟩)).2.2).toArray,.bool (aL s).isSome])∧dF w' v ((aL s).getD (zid,[],⟨#[]⟩)).2.1∧(∀g,v.ownBlock=some g→w.heap.size≤g)∧(∀ao n c,v= .slice ao n c→n≤c)∧Below w.heap.size w w':=by
 obtain ⟨R,dm,dj,V⟩:=Ij
 obtain ⟨zi,i0,hi,c4,c7,cV,cq,bi⟩:=eu
 have cX:=ah bi
 clear bi
 have cs:Arr (w.alloc (.cells R 141)) w.heap.size 34 (cmF zid (.slice none 0 0) ⟨#[]⟩):=by rw [V];exact vQ w aV _ _ _
 have bs:=vG (w.alloc (.cells R 141)) s 215
 rw [World.size_alloc] at bs
 have cr:Arr (((w.alloc (.cells R 141)).alloc (.cells #[.string s,.int .i64 0,.int .i64 0] 215)).alloc (.cells R 141)) (w.heap.size+1+1) 34 (cmF zid (.slice none 0 0) ⟨#[]⟩):=by
  have:=vQ ((w.alloc (.cells R 141)).alloc (.cells #[.string s,.int .i64 0,.int .i64 0] 215)) aV (.slice none 0 0) ⟨#[]⟩ 141
  rw [World.size_alloc,World.size_alloc,←V] at this
  exact this
 have cA:R.size=34:=by rw [V,List.size_toArray,jv _ _ _ aV]
 have cv:R.toList=cmC zid (.slice none 0 0) ⟨#[]⟩:=by rw [V]
 have bx:Hid (R.all (·.oneCell')=true):=by unfold Hid;rw [V];exact all_oneCell_toArray (Ct _ _ _ _ _)
 have X:(prog.info? 141).map (·.size)=some 34:=by kernel_rfl
 have cC:=ah cs
 have b9:=ah bs
 have bt:=ah cr
 have K:=ah cA
 have cf:=ah cv
 clear cs bs cr cA cv V
 go_enter func81,ntmps81
 go_wp2_with (refine wpList_store_mid rfl 141 _ _ rfl (w.heap.size+1+1) 0 R rfl rfl ?g1 ?g2 ?g3 ?_)
 case g1=>rw [K.out];exact bt.out.there
 case g2=>rw [K.out];exact X
 case g3=>exact bx.out
 generalize hW:(((w.alloc (.cells R 141)).alloc _).alloc _).setCells _ _ _=W
 have cI:Below w.heap.size w W:=by
  rw [←hW]
  exact below_setCells _ (by omega) _ _ _ ((bal.alloc (by simp) _).alloc (by simp;omega) _)
 have hR:Arr W w.heap.size 34 (cmF zid (.slice none 0 0) ⟨#[]⟩):=by
  rw [←hW];exact ((cC.out.alloc (by omega) _).alloc (by omega) _).iL (by omega) _ _
 have hB:Arr W (w.heap.size+1) 3 (rd0 s).c:=by
  rw [←hW];exact (b9.out.alloc (by omega) _).iL (by omega) _ _
 have hC:Arr W (w.heap.size+1+1) 34 (cmF zid (.slice none 0 0) ⟨#[]⟩):=by
  rw [←hW]
  exact (bt.out.setCells 0 R.toList (by rw [Array.length_toList,K.out];exact Nat.le_refl _)).congr fun k hk=>by
   rw [Array.length_toList,K.out,if_pos ⟨by omega,by omega⟩,cf.out];rfl
 have de:w.heap.size+1+1<W.heap.size:=hC.lt (by omega)
 have aa:=ah cI
 have HR:=ah hR
 clear hW cC b9 bt cI hR
 have br:=ah (dG s (show s.size≤1000000 by omega))
 have a5:=ah (BD (w.heap.size+1) (rd0 s) W hB br.out)
 have aE:=ah ((rd0 s).lW br.out)
 have d:Hid ((rd0 s).id.2.length=32):=ah (fE _)
 have D:Hid ((rd0 s).commit=((((((rd0 s).id.1.num 4).1.ids ((rd0 s).id.1.num 4).2).1.text 64).1,(rd0 s).id.2,(((rd0 s).id.1.num 4).1.ids ((rd0 s).id.1.num 4).2).2,((((rd0 s).id.1.num 4).1.ids ((rd0 s).id.1.num 4).2).1.text 64).2))):=ah rfl
 have af:Hid (aL s=if (rd0 s).commit.1.fin=0∧bH (rd0 s).commit.2=true then some (rd0 s).commit.2 else none):=ah rfl
 have b1:=ah (yN s (by omega))
 have bn:=ah ((rd0 s).uJ br.out)
 generalize (rd0 s).commit=cm at D af b1 bn
 generalize (rd0 s).id=x0 at a5 aE d D
 obtain ⟨r0,t⟩:=x0
 dsimp only at a5 aE d D
 have HC:=ah hC
 clear hB hC
 refine a5.out.mono ?_
 rintro e w1 ⟨rfl,cy,a6⟩
 have b4:(idC t).length=32:=by rw [av,d.out]
 have ci:=HR.out.grown a6 (by omega)
 have a7:=HC.out.grown a6 (by omega)
 have cj:w1.there (w.heap.size+1+1) 0 32:=fun j hj=>⟨by rw [a7.cell _ (by omega)];rfl,a7.free _ (by omega)⟩
 have cl:=ah cj
 have bu:=ah (cy.iL (B:=w.heap.size+1+1) (by omega) (idC t) 0)
 have bk:=ah (ci.iL (B:=w.heap.size+1+1) (by omega) (idC t) 0)
 have bv:=ah ((a7.setCells 0 (idC t) (by omega)).congr (PD aV d.out _ _))
 have S:=ah (below_setCells (B:=w.heap.size) (a:=w) (w.heap.size+1+1) (by omega) (idC t) 0 w1 (aa.out.grown a6 (by have:=aa.out.size;omega) (fun k hk=>by cases hk;omega)))
 have cF:=ah b4
 have cg:=ah (aJ t)
 have c9:(prog.info? 42).map (·.size)=some 32:=by kernel_rfl
 clear cy ci a7 a6 cj b4 HR HC aa a5
 have ax:idV t= .agg (idC t).toArray:=rfl
 rw [ax]
 clear ax
 generalize cD:idC t=us at bu bk bv S cF cg
 have di:=ah cD
 clear cD
 go_wp2_with (first|(refine aj rfl 42 _ _ rfl (w.heap.size+1+1) 0 us ?y1 ?y2 32 cF.out ?y4 c9 cg.out ?_)|fail)
 try case y1=>rfl
 try case y2=>rfl
 try case y4=>exact cl.out
 have a1:=ah (wZ (w.heap.size+1) r0 4 (w1.setCells (w.heap.size+1+1) 0 us) bu.out aE.out (by omega))
 have Z:=ah (Rd.cB r0 4 aE.out)
 generalize r0.num 4=x1 at a1 Z D
 obtain ⟨C,n⟩:=x1
 dsimp only at a1 Z D
 have dl:n≤4:=Z.out.2
 have bp:=ah Z.out.1
 refine a1.out.mono ?_
 rintro e w2 ⟨rfl,cw,a3⟩
 have aa:=ah cw
 have cS:=ah (bk.out.grown a3 (by omega))
 have c8:=ah (bv.out.grown a3 (by omega))
 have cG:=ah (S.out.grown a3 (by have:=S.out.size;omega) (fun k hk=>by cases hk;omega))
 clear cw a3 bu bk bv S a1 Z cl
 go_wp2
 have HL:Hid (∀k,((C.ids k).2).length=k):=ah (fun k=>Rd.vL k C)
 go_loopw [7] (fun i wr=> ∃(k:Nat) (v:Value),k≤n∧i= .int .i64 k∧Arr wr (w.heap.size+1) 3 (C.ids k).1.c∧Arr wr (w.heap.size+1+1) 34 (cmF t v ⟨#[]⟩)∧wr.ownsRow (w.heap.size+1+1+1) 42 32 v k (dx (C.ids k).2)∧Arr wr w.heap.size 34 (cmF zid (.slice none 0 0) ⟨#[]⟩)∧Below w.heap.size w wr) (fun i _=>(n-intOf i).toNat)
 case atStart=>exact ⟨0,.slice none 0 0,by omega,rfl,aa.out,c8.out,World.ownsRow_nil _ _ _ _,cS.out,cG.out⟩
 obtain ⟨wo,rfl⟩:∃wo:World,wo=wr:=⟨_,rfl⟩
 obtain ⟨k,v,hk,rfl,hB,hC,A,hR,hb⟩:=hrel
 obtain ⟨H,F,rfl⟩:=bO A
 have c2:=hC.lt (by omega)
 by_cases cQ:k<n
 ·have d1:decide ((k:Int)<n)=true:=decide_eq_true (by omega)
  have d2:decide (k<n)=true:=decide_eq_true cQ
  have bo:wo.drew.cell? ⟨w.heap.size+1+1,32,none⟩=some (.slice H k F):=by
   show wo.cell? ⟨w.heap.size+1+1,32,none⟩=_
   rw [hC.cell 32 (by omega),kP d.out]
  have HI:=ah (BD (w.heap.size+1) (C.ids k).1 wo.drew ⟨hB.cell,hB.free⟩ (Rd.iH k C bp.out))
  have b0:=ah (Rd.yg k C)
  have ac:Below wo.heap.size wo wo.drew:=(Below.refl _ _).drew
  have ca:=ah (hC.below ac c2)
  have b7:=ah (hR.below ac (by omega))
  have cE:=ah (own_below A ac)
  have an:=ah (hb.trans (ac.mono hb.size))
  clear hB hC hR A hb ac
  go_wp2
  refine wrL 7 (fun w'=>w'.cell? ⟨w.heap.size+1+1,32,none⟩=some (.slice H k F)) ?_
  refine WL.tk 0 bo ?_
  refine WL.tk 1 bo ?_
  refine WL.tk 2 bo ?_
  refine WL.on 3 ?_
  go_wp2_with fail
  refine HI.out.mono ?_
  rintro e w3 ⟨rfl,ap,m⟩
  have G:=ca.out.grown m (by omega)
  have b6:w3.cell? ⟨w.heap.size+1+1,32,none⟩=some (.slice H k F):=by rw [G.cell 32 (by omega),kP d.out]
  have b2:(idC (C.ids k).1.id.2).length=32:=by rw [av];exact fE _
  have aw:=aJ (C.ids k).1.id.2
  have ax:idV (C.ids k).1.id.2= .agg (idC (C.ids k).1.id.2).toArray:=rfl
  rw [ax]
  clear ax
  have ch:Hid (dx (C.ids (k+1)).2=dx (C.ids k).2++idC (C.ids k).1.id.2):=by unfold Hid;rw [b0.out];exact nZ _ _
  have c3:Hid ((C.ids (k+1)).1=(C.ids k).1.id.1):=by unfold Hid;rw [b0.out]
  have ad:=ah (jd cE.out m (by omega))
  have c6:=ah G
  have dc:=ah ap
  have cU:=ah (b7.out.grown m (by omega))
  have Y:=ah (an.out.grown m (by have:=an.out.size;omega) (fun k hk=>by cases hk;omega))
  have bf:=ah (show w.heap.size+1+1<w3.heap.size from G.lt (by omega))
  have b8:=ah b6
  clear G ap m b6 HI b0 ca b7 cE an
  generalize idC (C.ids k).1.id.2=uk at b2 aw ch
  have a8:=ah b2
  have ai:=ah aw
  have cp:Hid (∀w,(sizeOf 42).run prog w= .ok uk.length w):=ah (fun w=>by rw [a8.out];kernel_rfl)
  clear b2 aw
  go_wp2
  refine ⟨b8.out,?_⟩
  refine WL.on 4 ?_
  refine aG rfl (.tmp 25) 44 42 rfl uk zi rfl underlying44 cp.out cq (by rw [a8.out];omega) (by rw [a8.out];omega) ?_
  simp only [Act.put]
  refine ⟨(yQ w3 _ _ bf.out).trans b8.out,?_⟩
  refine WL.on 5 ?_
  refine wpList_append_own _ rfl (.tmp 23) (.tmp 26) 44 rfl (w.heap.size+1+1+1) 42 i0 (.agg zi) 32 32 underlying44 hi c4 c7 cV cX.out (by decide) _ k (dx (C.ids k).2) rfl (ad.out.alloc _) ⟨w3.heap.size,0,none⟩ 1 1 uk rfl a8.out (fun j u hj=>jW _ uk _ j u hj) ai.out (by unfold maxLen;omega) (by omega) (by rw [World.size_alloc];have:=bf.out;omega) ?_
  intro v' w5 I ab _
  obtain ⟨db,cM,rfl⟩:=bO I
  have bj:(Value.slice H k F).ownBlock≠some (w.heap.size+1+1):=fun e=>by have:=(ad.out.lt _ e).1;omega
  have ba:=(c6.out.alloc (by omega) (.cells uk.toArray 42)).jS ab bj
  have b5:=(dc.out.alloc (by omega) (.cells uk.toArray 42)).jS ab (fun e=>by have:=(ad.out.lt _ e).1;omega)
  have cz:=(cU.out.alloc (by omega) (.cells uk.toArray 42)).jS ab (fun e=>by have:=(ad.out.lt _ e).1;omega)
  have bh:=(Y.out.alloc Y.out.size (.cells uk.toArray 42)).grown ab (by rw [World.size_alloc];have:=Y.out.size;omega) (fun j hj=>by have:=(ad.out.lt j hj).1;omega)
  have c5:=ba.cell 32 (by omega)
  rw [kP d.out] at c5
  have f5:=ba.free 32 (by omega)
  have cO:=ah ba
  have Q:=ah b5
  have da:=ah cz
  have cK:=ah bh
  have cR:=ah I
  have cb:=ah (own_ne I (show w.heap.size+1+1<w.heap.size+1+1+1 by omega))
  clear ba b5 cz bh I ab bj
  simp only [Act.put]
  refine ⟨c5,?_⟩
  refine WL.on 6 ?_
  go_wp2
  refine ⟨c5,?_⟩
  refine WL.la 7 ?_
  go_wp2
  go_roundw
  case rel =>
   refine ⟨k+1,.slice db (k+1) cM,by omega,by go_num,?_,?_,?_,da.out.far (by show w.heap.size+1+1≠w.heap.size;omega) _,cK.out.setCell (by show w.heap.size≤w.heap.size+1+1;omega) _⟩
   ·rw [c3.out];exact Q.out.far (by show w.heap.size+1+1≠w.heap.size+1;omega) _
   ·exact (cO.out.set 32 (by omega) _).congr (Pz d.out _ _ _)
   rw [ch.out];exact lU cR.out cb.out
  case measure=>simp [intOf];omega
 obtain rfl:k=n:=by omega
 have ae:=ah (Rd.dI _ 64 (Rd.iH k C bp.out))
 have HT:=ah (Ab (w.heap.size+1) (C.ids k).1 64 wo hB (Rd.iH k C bp.out) (by omega))
 have N:=ah (Rd.vM k C)
 have bd:=HL.out k
 generalize dd:C.ids k=x2 at HT D ae A N bd
 obtain ⟨r2,l⟩:=x2
 dsimp only at HT D ae A N bd
 clear hB dd
 generalize r2.text 64=x3 at HT D ae
 obtain ⟨r3,x⟩:=x3
 dsimp only at HT D ae
 obtain rfl:cm=(r3,t,l,x):=D.out
 dsimp only at af b1 bn
 clear D ae
 have HR:=ah hR
 have HC:=ah hC
 have HO:=ah A
 have HB:=ah hb
 have cd:=ah bd
 clear hR hC A hb bd
 go_wp2_with fail
 refine HT.out.mono ?_
 rintro e w3 ⟨rfl,ap,m⟩
 have G:=HC.out.grown m (by omega)
 have cT:=G.cell 33 (by omega)
 have cP:=G.free 33 (by omega)
 have cx:=(G.set 33 (by omega) (.string x)).congr (Py d.out _ _ x)
 have bb:=ah (ap.far (p:=⟨w.heap.size+1+1,33,none⟩) (by show w.heap.size+1+1≠w.heap.size+1;omega) (.string x))
 have a4:=ah ((HR.out.grown m (by omega)).far (p:=⟨w.heap.size+1+1,33,none⟩) (by show w.heap.size+1+1≠w.heap.size;omega) (.string x))
 have al:=ah (lU (o:=33) (u:=.string x) (jd HO.out m (by omega)) (own_ne (jd HO.out m (by omega)) (show w.heap.size+1+1<w.heap.size+1+1+1 by omega)))
 have O:=ah ((HB.out.grown m (by have:=HB.out.size;omega) (fun k hk=>by cases hk;omega)).setCell (p:=⟨w.heap.size+1+1,33,none⟩) (by show w.heap.size≤w.heap.size+1+1;omega) (.string x))
 have bm:=ah cx
 have T:=ah (fun W hA=>Dq (w.heap.size+1) r3 W hA bn.out)
 clear ap G cx m HR HC HO HB HT
 go_wp2_with fail
 generalize cH:w3.setCell _ _=W4
 rw [cH] at bb a4 al O bm
 clear cH cT cP
 have az:(cmC t (.slice H k F) x).length=34:=jv _ _ _ d.out
 have bz:=bm.out.range
 rw [ED d.out] at bz
 have M:(prog.info? 141).map (·.size)=some (cmC t (.slice H k F) x).length:=by rw [az];exact X
 have P:(cmC zid (.slice none 0 0) ⟨#[]⟩).length=34:=jv _ _ _ aV
 have be:(prog.info? 141).map (·.size)=some (cmC zid (.slice none 0 0) ⟨#[]⟩).length:=by rw [P];exact X
 have ag:Hid (∀W,Below W4.heap.size W4 W→dF W (.slice H k F) l):=ah (fun W L=>(bM.iE (B:=w.heap.size+1+1+1) (e:=42) (sz:=32) (rows:=l.map idC) (fun r hr=>by
  obtain ⟨y,hy,rfl⟩:=List.mem_map.1 hr
  rw [av];exact N.out y hy) (by rw [List.length_map,cd.out];exact al.out)).below L)
 have a9:=ah bz
 have cJ:=ah (a4.out.lt (show 0<34 by omega))
 have bc:=ah (bm.out.lt (show 0<34 by omega))
 have dg:l.length≤4:=by rw [cd.out];omega
 have U:Hid (∀(W:World),Below W4.heap.size W4 W→W.there w.heap.size 0 34∧(W.setCells w.heap.size 0 R.toList).rangeAt w.heap.size 0 (cmC zid (.slice none 0 0) ⟨#[]⟩)∧Below w.heap.size w (W.setCells w.heap.size 0 R.toList)):=ah (fun W L=>by
  have hr:=a4.out.below L cJ.out
  refine ⟨hr.there,?_,below_setCells _ (Nat.le_refl _) _ _ _ (O.out.trans (L.mono O.out.size))⟩
  rw [cf.out]
  exact World.rangeAt_setCells_same W w.heap.size 0 _ (by rw [P];exact hr.there))
 clear bz az P
 by_cases q:r3.fin=0
 ·rw [q] at T
  have a0:=ah (fun W (L:Below W4.heap.size W4 W)=>sQ t (.slice H k F) l x W (ag.out W L) d.out N.out (by omega))
  cases J:bH (t,l,x) with
  | false =>
   have f:Hid (aL s=none):=by unfold Hid;rw [af.out,if_neg (by rw [J];simp)]
   rw [J] at a0
   clear J q
   refine (T.out W4 bb.out).mono ?_
   rintro e w4 ⟨rfl,E⟩
   have Q:=ah E
   have ar:=ah (ay a9.out E bc.out)
   clear E
   go_wp2_with (refine aX rfl 141 _ rfl (w.heap.size+1+1) 0 rfl _ _ ar.out underlying141 rfl M ?_)
   refine (a0.out _ Q.out).mono ?_
   rintro e w5 ⟨rfl,aq⟩
   have z:=bth Q aq
   clear aq
   go_wp2_with (refine wpList_store_mid rfl 141 _ _ rfl w.heap.size 0 R rfl rfl ?k1 ?k2 ?k3 ?_)
   case k1=>rw [K.out];exact (U.out _ z.out).1
   case k2=>rw [K.out];exact X
   case k3=>exact bx.out
   refine aP rfl w.heap.size 0 rfl _ _ (U.out _ z.out).2.1 underlying141 rfl be rfl _ rfl ⟨.slice none 0 0,?_,?_,fun g hg=>(by cases hg),fun _ _ _ e=>(by cases e;exact Nat.le_refl _),(U.out _ z.out).2.2⟩
   ·rw [f.out];rfl
   rw [f.out];exact ⟨none,0,rfl,by simp,fun h=>absurd rfl h⟩
  | true =>
   have f:Hid (aL s=some (t,l,x)):=by unfold Hid;rw [af.out,if_pos ⟨q,J⟩]
   have df:x.size≤64:=by
    unfold bH at J
    simp only [Bool.and_eq_true,decide_eq_true_eq] at J
    exact J.2.2
   have ck:=b1.out q
   have an:Hid (∀W,Below W4.heap.size W4 W→Calls prog 147 #[.agg (cmC t (.slice H k F) x).toArray] W fun e w'=>e= .returned (.string s)∧Below W.heap.size W w'):=ah (fun W L=>by
    have:=vg t (.slice H k F) l x W (ag.out W L) d.out N.out (by omega) (by omega)
    rw [ck,sV] at this
    exact this)
   rw [J] at a0
   clear J q ck
   refine (T.out W4 bb.out).mono ?_
   rintro e w4 ⟨rfl,E⟩
   have Q:=ah E
   have ar:=ah (ay a9.out E bc.out)
   clear E
   go_wp2_with (refine aX rfl 141 _ rfl (w.heap.size+1+1) 0 rfl _ _ ar.out underlying141 rfl M ?_)
   refine (a0.out _ Q.out).mono ?_
   rintro e w5 ⟨rfl,aq⟩
   have z:=bth Q aq
   have cn:=ah (ay a9.out z.out bc.out)
   clear aq
   go_wp2_with (refine aX rfl 141 _ rfl (w.heap.size+1+1) 0 rfl _ _ cn.out underlying141 rfl M ?_)
   refine (an.out _ z.out).mono ?_
   rintro e w6 ⟨rfl,cL⟩
   have a2:=bth z cL
   have ct:=ah (ay a9.out a2.out bc.out)
   have b3:=ah (a4.out.below a2.out cJ.out)
   have c0:=ah (below_setCells (B:=w.heap.size) (a:=w) w.heap.size (Nat.le_refl _) (cmC t (.slice H k F) x) 0 w6 (O.out.trans (a2.out.mono O.out.size)))
   have am:(cmC t (.slice H k F) x).length=34:=jv _ _ _ d.out
   have cY:=ah (World.rangeAt_setCells_same w6 w.heap.size 0 (cmC t (.slice H k F) x) (by rw [am];exact b3.out.there))
   have ai:=ah (Ct t H k F x)
   have ce:=ah am
   clear cL am
   go_wp2_with (first|(refine wpList_load_mid rfl 141 _ rfl (w.heap.size+1+1) 0 rfl _ _ ct.out underlying141 rfl M ?_)|(refine aj rfl 141 _ _ rfl w.heap.size 0 (cmC t (.slice H k F) x) ?z1 ?z2 34 ce.out ?z4 X ai.out ?_))
   try case z1=>rfl
   try case z2=>rfl
   try case z4=>exact b3.out.there
   try simp only [Act.put]
   have cN:Hid (dF (w6.setCells w.heap.size 0 (cmC t (.slice H k F) x)) (.slice H k F) l):=ah (by
    have h:=ag.out w6 a2.out
    obtain ⟨ao,cap,e,hm,h2⟩:=h
    refine ⟨ao,cap,e,hm,fun cW=> ?_⟩
    obtain ⟨b,off,e1,dn,hc⟩:=h2 cW
    have c1:b≠w.heap.size:=fun e2=>by
     injection e with q1 q2 q3
     have:=(al.out.lt b (by rw [←q1] at e1;rw [e1];rfl)).1
     omega
    refine ⟨b,off,e1,by have:=(bA (cmC t (.slice H k F) x) 0 w6 (World.grownBy.refl w6 (some w.heap.size))).size;omega,fun i hi j u hu=> ?_⟩
    rw [World.cell?_setCells_out w.heap.size _ 0 w6 ⟨b,_,none⟩ (fun e3 _=>absurd e3 c1)]
    exact hc i hi j u hu)
   refine aP rfl w.heap.size 0 rfl _ _ cY.out underlying141 rfl M rfl _ rfl ⟨.slice H k F,?_,?_,fun g hg=>(by have:=(al.out.lt g hg).1;omega),fun _ _ _ e=>(by cases e;rcases al.out.2 with ⟨h1,h2⟩|⟨_,_,_,h1,_,_,h2,_⟩<;>cases h1<;>omega),c0.out⟩
   ·rw [f.out];rfl
   rw [f.out];exact cN.out
 have f:Hid (aL s=none):=by unfold Hid;rw [af.out,if_neg (fun h=>q h.1)]
 have d2:((r3.fin:Int) != 0)=true:=by rw [bne_iff_ne];omega
 clear q
 refine (T.out W4 bb.out).mono ?_
 rintro e w4 ⟨rfl,E⟩
 have z:=ah E
 clear E
 go_wp2_with (refine wpList_store_mid rfl 141 _ _ rfl w.heap.size 0 R rfl rfl ?n1 ?n2 ?n3 ?_)
 case n1=>rw [K.out];exact (U.out _ z.out).1
 case n2=>rw [K.out];exact X
 case n3=>exact bx.out
 refine aP rfl w.heap.size 0 rfl _ _ (U.out _ z.out).2.1 underlying141 rfl be rfl _ rfl ⟨.slice none 0 0,?_,?_,fun g hg=>(by cases hg),fun _ _ _ e=>(by cases e;exact Nat.le_refl _),(U.out _ z.out).2.2⟩
 ·rw [f.out];rfl
 rw [f.out];exact ⟨none,0,rfl,by simp,fun h=>absurd rfl h⟩
theorem FH (s:ByteArray) (w:World) (d:s.size≤100000) :
  Calls prog 81 #[.string s] w fun e w'=> ∃v,e= .returned (.tuple #[.agg (cmC ((aL s).getD (zid,[],⟨#[]⟩)).1 v ((aL s).getD (zid,[],⟨#[]⟩)).2.2).toArray,.bool (aL s).isSome])∧dF w' v ((aL s).getD (zid,[],⟨#[]⟩)).2.1∧(∀g,v.ownBlock=some g→w.heap.size≤g)∧Below w.heap.size w w' :=
 (FI s w d).mono fun _ _ ⟨v,h1,a,b,_,f⟩=>⟨v,h1,a,b,f⟩
theorem Dv (s:ByteArray) (w:World) (b:s.size≤100000) :
  Calls prog 81 #[.string s] w fun e w'=> ∃v,e= .returned (.tuple #[.agg (cmC ((aL s).getD (zid,[],⟨#[]⟩)).1 v ((aL s).getD (zid,[],⟨#[]⟩)).2.2).toArray,.bool (aL s).isSome])∧dF w' v ((aL s).getD (zid,[],⟨#[]⟩)).2.1∧Below w.heap.size w w' :=
 (FH s w b).mono fun _ _ ⟨v,h1,a,_,d⟩=>⟨v,h1,a,d⟩
end
section
open Go.RowKit Go.Maps Go.WideMaps
theorem DU {α β:Type} (f:α→Option β):∀(l:List α) (r:List β),l.mapM f=some r→ ∀a∈l,∃y,f a=some y
 | [],_,_,a,d=>by cases d
 | b::l,r,h,a,d=>by
  rw [List.mapM_cons] at h
  cases hb:f b with
  | none=>rw [hb] at h;cases h
  | some y =>
   rw [hb] at h
   rcases List.mem_cons.1 d with rfl|d
   ·exact ⟨y,hb⟩
   cases e:l.mapM f with
   | none=>rw [e] at h;cases h
   | some r'=>exact DU f l r' e a d
theorem NQ {d:Nat} {v:Value} {ls:List Lit} (h:Program.keyLits prog (d+1) 5 [v]=some ls):∃b:UInt8,v= .int .u8 (b.toNat:Int):=by
 unfold Program.keyLits at h
 rw [underlying5] at h
 cases v with
 | int q n =>
  dsimp only at h
  by_cases a:q= .u8∧(Lit.int .u8 n).wf=true
  ·obtain ⟨rfl,e⟩:=a
   simp only [Lit.wf,Bool.and_eq_true,decide_eq_true_eq] at e
   have f:IntKind.u8.min=0:=by decide
   have g:IntKind.u8.max=255:=by decide
   rw [f,g] at e
   refine ⟨UInt8.ofNat n.toNat,?_⟩
   have:(UInt8.ofNat n.toNat).toNat=n.toNat:=by
    rw [UInt8.toNat_ofNat'];omega
   rw [this]
   congr 1
   omega
  rw [if_neg a] at h;cases h
 | _=>cases h
theorem M0:∀cs:List Value,(∀v∈cs,∃b:UInt8,v= .int .u8 (b.toNat:Int))→ ∃x,idC x=cs
 | [],_=>⟨[],rfl⟩
 | v::cs,h=>by
  obtain ⟨b,rfl⟩:=h v (by simp)
  obtain ⟨x,hx⟩:=M0 cs fun v a=>h v (List.mem_cons_of_mem _ a)
  exact ⟨b::x,by rw [←hx];rfl⟩
theorem qU {v:Value} {o:Lit} (h:keyOf prog 42 v=some o):∃x:List UInt8,x.length=32∧v= .agg (idC x).toArray:=by
 have d:Program.cellsOf prog 42=32:=by kernel_rfl
 have l:Program.cellsOf prog 5=1:=by kernel_rfl
 obtain ⟨m,hm⟩:=E5
 obtain ⟨k,rfl⟩:∃k,m=k+1:=⟨m-1,by
  have:1<prog.types.size:=of_decide_eq_true (by kernel_rfl)
  omega⟩
 unfold keyOf at h
 rw [underlying42] at h
 dsimp only at h
 split at h
 ·rename_i n
  rw [Bool.and_eq_true] at n
  have a:=n.2
  unfold Value.formed at a
  rw [underlying42] at a
  cases v with
  | agg cs =>
   dsimp only at a
   have j:cs.size=32:=by rw [d] at a;simpa using a
   cases f:Program.keyLits prog (prog.types.size+1) 42 (Value.agg cs).cells.toList with
   | none=>rw [f] at h;cases h
   | some ls =>
    rw [hm] at f
    unfold Program.keyLits at f
    rw [underlying42] at f
    dsimp only at f
    have q:(Value.agg cs).cells.toList.length=32:=by show cs.toList.length=32;simpa using j
    rw [if_pos (by rw [q,d]),l] at f
    cases g:(List.range 32).mapM fun i=>Program.keyLits prog (k+1+1) 5 (((Value.agg cs).cells.toList.drop (i*1)).take 1) with
    | none=>rw [g] at f;cases f
    | some r =>
     have key:∀v∈cs.toList,∃b:UInt8,v= .int .u8 (b.toNat:Int):=fun v p=>by
      obtain ⟨i,hi,rfl⟩:=List.getElem_of_mem p
      obtain ⟨y,hy⟩:=DU _ _ _ g i (List.mem_range.2 (by simpa [j] using hi))
      have e:((Value.agg cs).cells.toList.drop (i*1)).take 1=[cs.toList[i]]:=by
       show (cs.toList.drop (i*1)).take 1=_
       rw [Nat.mul_one,List.drop_eq_getElem_cons hi];rfl
      rw [e] at hy
      exact NQ hy
     obtain ⟨x,hx⟩:=M0 _ key
     refine ⟨x,?_,?_⟩
     ·rw [←av x,hx];simpa using j
     rw [hx]
  | _=>cases a
 cases h
section
variable {α:Type} {enc:α → Value}
def y9 (enc:α→Value) (D:DataW Value) (f:Idl→Option α):Prop :=
 ∀x,x.length=32→Maps.has D (kg x)=(f x).isSome∧ ∀o,f x=some o→ ∀zd,D.atKey (kg x) zd= .held (enc o)
def gu (enc:α→Value) (w:World) (b n:Nat) (f:Idl→Option α):Prop:=∃D:DataW Value,w.ownsMap prog 42 eO b n D∧y9 enc D f
theorem wU:y9 enc (.map []) fun _=>none:=fun _ _=>⟨rfl,fun _ h=>by cases h⟩
theorem Ji {D:DataW Value} {f:Idl→Option α} (h:y9 enc D f) (hm:IsMap D) (p:Idl) (g:p.length=32) (o:α):y9 enc (D.put (kg p) (.held (enc o))) fun q=>if q=p then some o else f q:=by
 intro q b
 show has _ _=(if q=p then some o else f q).isSome∧ ∀t,(if q=p then some o else f q)=some t→ ∀zd,_=_
 have i:=iI.key (jr g)
 by_cases e:q=p
 ·subst e
  rw [if_pos rfl]
  exact ⟨by rw [has_put_same hm i];rfl,fun t d zd=>by cases d;exact atKey_put_same hm i _ _⟩
 rw [if_neg e]
 have a:kg q≠kg p:=fun h=>e (qV b g h)
 exact ⟨by rw [has_put_other a];exact (h q b).1,fun t d zd=>by rw [atKey_put_other a];exact (h q b).2 t d zd⟩
theorem Jj {D:DataW Value} {f:Idl→Option α} (h:y9 enc D f) (p:Idl) (g:p.length=32):y9 enc (D.del (kg p)) fun q=>if q=p then none else f q:=by
 intro q d
 show has _ _=(if q=p then none else f q).isSome∧ ∀t,(if q=p then none else f q)=some t→ ∀zd,_=_
 by_cases e:q=p
 ·subst e
  rw [if_pos rfl]
  exact ⟨has_del_same,fun t b=>by cases b⟩
 rw [if_neg e]
 have a:kg q≠kg p:=fun h=>e (qV d g h)
 exact ⟨by rw [has_del_other a];exact (h q d).1,fun t b zd=>by rw [atKey_del_other a];exact (h q d).2 t b zd⟩
theorem gu.lt {w:World} {b n:Nat} {f:Idl→Option α} (h:gu enc w b n f):b<w.heap.size:=by obtain ⟨D,h,_⟩:=h;exact h.lt
theorem gu.heap {w w':World} {b n:Nat} {f:Idl→Option α} (h:gu enc w b n f) (hb:w'.heap[b]? = w.heap[b]?):gu enc w' b n f:=by
 obtain ⟨D,⟨es,a,h1,d⟩,e⟩:=h
 exact ⟨D,⟨es,a,hb.trans h1,d⟩,e⟩
theorem gu.below {w w':World} {b n B:Nat} {f:Idl→Option α} (h:gu enc w b n f) (hb:Below B w w') (a:b<B):gu enc w' b n f:=h.heap (hb.block b a)
theorem gu.on {w w':World} {b n:Nat} {f:Idl→Option α} (h:gu enc w b n f) (hb:Below w.heap.size w w'):gu enc w' b n f:=h.below hb h.lt
theorem JM (w:World):gu enc (w.alloc (.map #[] 0)) w.heap.size 0 fun _=>none:=⟨_,World.ownsMap_made _ _ _ _,wU⟩
theorem gu.ext {w:World} {b n:Nat} {f g:Idl→Option α} (h:gu enc w b n f) (a:∀x,x.length=32→f x=g x):gu enc w b n g:=by
 obtain ⟨D,h1,d⟩:=h
 exact ⟨D,h1,fun x hx=>by rw [←a x hx];exact d x hx⟩
theorem gu.look {w:World} {t e:TypeId} (m:prog.underlying t=some (.map 42 e)) {z:Value} (k:(zeroValue e).run prog w= .ok z w) {b n:Nat} {f:Idl→Option α} (h:gu enc w b n f) {x:Idl} (hx:x.length=32) :
  (Instr.lookup t (.map (some b)) (.agg (idC x).toArray) false).run prog w= .ok (((f x).map enc).getD z) w:=by
 obtain ⟨D,d,j⟩:=h
 obtain ⟨v,ps,g,i⟩:=d.lookup iI m k (zd:=.held z) (zp:=[]) rfl (jr hx)
 rw [g]
 obtain ⟨h1,l⟩:=j x hx
 have a:D.atKey (kg x) (.held z)= .held v:=by
  unfold eO at i
  injection i with i
  exact (congrArg Prod.fst i).symm
 cases e:f x with
 | none =>
  rw [e] at h1
  rw [atKey_of_not_has h1] at a
  injection a with h
  rw [←h];rfl
 | some o =>
  rw [l o e] at a
  injection a with h
  rw [←h];rfl
theorem bZ {w:World} {ops:Array Oper} {rest:List Oper} {o:Oper} {a:Act} {Q:Exit→Act→World→Prop} (u:o.guard=none) (m x v:Operand) (t e:TypeId) (g:o.op=Op.mapUpdate t m x v)
  (s:prog.underlying t=some (.map 42 e)) (b n:Nat) (f:Idl→Option α) (hm:a.eval m= .map (some b)) (d:gu enc w b n f) (p:Idl) (h:p.length=32) (c:α) (hx:a.eval x= .agg (idC p).toArray) (l:a.eval v=enc c) (i:n<maxLen)
  (k:∀w',gu enc w' b (n+1) (fun q=>if q=p then some c else f q)→w.grownBy w' (some b)→wpList prog ops Q rest (a.put o.dst undef) w'):wpList prog ops Q (o::rest) a w:=by
 obtain ⟨D,d,r⟩:=d
 exact wpList_mapUpdate_own w u m x v t g 42 e iI s eO b n D hm d i (.agg (idC p).toArray) (enc c) (kg p) hx l (jr h) _ [] rfl fun w' h1 j=>k w' ⟨_,h1,Ji r d.isMap p h c⟩ j
theorem uZ {w:World} {ops:Array Oper} {rest:List Oper} {o:Oper} {a:Act} {Q:Exit→Act→World→Prop} (r:o.guard=none) (m x:Operand) (t e:TypeId) (g:o.op=Op.call { callee:=Callee.builtin Builtin.delete,args:=#[m,x],argTypes:=#[t,42] })
  (l:prog.underlying t=some (.map 42 e)) (b n:Nat) (f:Idl→Option α) (hm:a.eval m= .map (some b)) (d:gu enc w b n f) (p:Idl) (h:p.length=32) (hx:a.eval x= .agg (idC p).toArray)
  (j:∀w',gu enc w' b n (fun q=>if q=p then none else f q)→w.grownBy w' (some b)→wpList prog ops Q rest (a.put o.dst (.tuple #[])) w'):wpList prog ops Q (o::rest) a w:=by
 obtain ⟨D,d,k⟩:=d
 exact wpList_delete_own w r m x t 42 g e iI l eO b n D hm d (.agg (idC p).toArray) (kg p) hx (jr h) fun w' h1 i=>j w' ⟨_,h1,Jj k p h⟩ i.grown
structure bX (enc:α → Value) (w:World) (b r n:Nat) (f:Idl → Option α) (L:List Idl):Prop where
 run:∃ (D:DataW Value) (left:Lit → Bool) (cnt:Nat),w.ranges prog 42 eO b r n D left cnt ∧ y9 enc D f ∧ ∀ x,x.length = 32 → (left (kg x) = true ↔ x ∈ L)
 nodup:L.Nodup
 len:∀ x ∈ L,x.length = 32
 there:∀ x ∈ L,(f x).isSome = true
theorem bX.map {w:World} {b r n:Nat} {f:Idl→Option α} {L:List Idl} (h:bX enc w b r n f L):gu enc w b n f:=by
 obtain ⟨D,left,cnt,h1,a,_⟩:=h.run
 exact ⟨D,h1.owns,a⟩
theorem bX.lt {w:World} {b r n:Nat} {f:Idl→Option α} {L:List Idl} (h:bX enc w b r n f L):r<w.heap.size:=by
 obtain ⟨D,left,cnt,h1,_⟩:=h.run;exact h1.lt
theorem bX.heap {w w':World} {b r n:Nat} {f:Idl→Option α} {L:List Idl} (h:bX enc w b r n f L) (hb:w'.heap[b]? = w.heap[b]?) (i:w'.heap[r]? = w.heap[r]?):bX enc w' b r n f L:=by
 obtain ⟨⟨D,left,cnt,⟨es,a,d,seen,k,h1,F,e,l,g,rest⟩,m,j⟩,k1,k2,k3⟩:=h
 exact ⟨⟨D,left,cnt,⟨es,a,d,seen,k,hb.trans h1,F,e,l,i.trans g,rest⟩,m,j⟩,k1,k2,k3⟩
theorem bX.on {w w':World} {b r n:Nat} {f:Idl→Option α} {L:List Idl} (h:bX enc w b r n f L) (hb:Below w.heap.size w w'):bX enc w' b r n f L:=h.heap (hb.block b h.map.lt) (hb.block r h.lt)
theorem bX.grown {w w':World} {b r n:Nat} {f:Idl→Option α} {L:List Idl} {row:Option Nat} (h:bX enc w b r n f L) (a:w.grownBy w' row) (hb:some b≠row) (d:some r≠row):bX enc w' b r n f L:=h.heap (a.block b h.map.lt hb) (a.block r h.lt d)
theorem iC {w w':World} {b r:Nat} (hb:w'.heap[b]? = w.heap[b]?) (a:w'.heap[r]? = w.heap[r]?):w'.rangeLeft b r=w.rangeLeft b r:=by unfold World.rangeLeft;rw [hb,a]
theorem vX {w:World} {ops:Array Oper} {rest:List Oper} {o:Oper} {a:Act} {Q:Exit→Act→World→Prop} (r:o.guard=none) (m:Operand) (t e:TypeId) (g:o.op=Op.range t m) (q:prog.underlying t=some (.map 42 e))
  (b n:Nat) (f:Idl→Option α) (L:List Idl) (hm:a.eval m= .map (some b)) (d:gu enc w b n f) (k:L.Nodup) (j:∀x∈L,x.length=32) (h:∀x,x.length=32→((f x).isSome=true↔x∈L))
  (p:∀w',bX enc w' b w.heap.size n f L→w.grownBy w' none→w'.heap.size=w.heap.size+1→wpList prog ops Q rest (a.put o.dst (.pointer (some ⟨w.heap.size,0,none⟩))) w') :
  wpList prog ops Q (o::rest) a w:=by
 obtain ⟨D,d,i⟩:=d
 exact wpList_range_own w r m t g 42 e iI q eO b n D hm d fun w' h1 l s=>p w' ⟨⟨D,_,_,h1,i,fun x hx=>by rw [(i x hx).1];exact h x hx⟩,k,j,fun x hx=>(h x (j x hx)).2 hx⟩ l s
theorem zm {w:World} {ops:Array Oper} {rest:List Oper} {o:Oper} {a:Act} {Q:Exit→Act→World→Prop} (S:o.guard=none) (I:Operand) (G:o.op=Op.next I false) (b r n:Nat) (f:Idl→Option α) (L:List Idl)
  (K:a.eval I= .pointer (some ⟨r,0,none⟩)) (h:bX enc w b r n f L)
  (m:L=[]→wpList prog ops Q rest (a.put o.dst (.tuple #[.bool false])) w)
  (p:∀(x:Idl) (c:α) (w':World),x∈L→x.length=32→f x=some c→bX enc w' b r n f (L.erase x)→w'.rangeLeft b r<w.rangeLeft b r→w.grownBy w' (some r)→w'.heap.size=w.heap.size →
   (Instr.entry (.pointer (some ⟨r,0,none⟩))).run prog w'= .ok (.tuple #[.agg (idC x).toArray,enc c]) w'→wpList prog ops Q rest (a.put o.dst (.tuple #[.bool true,.agg (idC x).toArray,enc c])) w') :
  wpList prog ops Q (o::rest) a w:=by
 obtain ⟨⟨D,left,cnt,q,N,d⟩,P,j,g⟩:=h
 refine wpList_next_ranges (α:={ x:Idl // x.length=32 }) (β:=Value) w S I G 42 iI eO (fun x=> .agg (idC x.1).toArray) id (fun key R E=>by
  obtain ⟨x,hx,e⟩:=qU E
  exact ⟨⟨x,hx⟩,e⟩) (fun v _ _=>⟨v,rfl⟩) b r n D left cnt K q ?_ ?_
 ·intro _ T
  refine m (List.eq_nil_iff_forall_not_mem.2 fun x hx=> ?_)
  have h1:=(d x (j x hx)).2 hx
  rw [T] at h1;cases h1
 rintro ⟨x,hx⟩ c R y w' s i M B H k C F J u
 dsimp only at i u ⊢
 obtain rfl:kg x=R:=Option.some.inj ((jr hx).symm.trans i)
 have t:=(d x hx).1 M
 obtain ⟨o,O⟩:=Option.isSome_iff_exists.1 (g x t)
 have U:c=enc o:=by
  have h1:=H (.held (.bool false))
  rw [(N x hx).2 o O] at h1
  unfold eO at B
  injection B with B
  rw [←B] at h1
  exact (DataW.held.inj h1).symm
 subst U
 refine p x o w' t hx O ⟨⟨D,_,s,k,N,fun z l=> ?_⟩,P.erase x,fun z l=>j z (List.mem_of_mem_erase l),fun z l=>g z (List.mem_of_mem_erase l)⟩ (by rw [k.left_eq,q.left_eq];exact C) F J u
 rw [P.mem_erase_iff,Bool.and_eq_true,d z l]
 constructor
 ·rintro ⟨h1,A⟩
  refine ⟨fun e=> ?_,h1⟩
  subst e
  have E:=iI.key (jr l)
  rw [show (kg z).sameKey (kg z)=true from WideAt.sameKey_self E] at A
  cases A
 rintro ⟨h1,A⟩
 exact ⟨A,by rw [sameKey_ne (fun e=>h1 (qV l hx e))];rfl⟩
end
end
section
open Go.RowKit
theorem rH {s:ByteArray} {c:List UInt8×List (List UInt8)×ByteArray} (h:aL s=some c):c.1.length=32∧(∀x∈c.2.1,x.length=32)∧c.2.1.length≤4∧c.2.2.size≤64∧c.2.1.Nodup:=by
 unfold aL at h
 split at h
 ·rename_i b
  cases h
  obtain ⟨_,a⟩:=b
  unfold bH Me at a
  simp only [Bool.and_eq_true,decide_eq_true_eq] at a
  exact ⟨fE _,Rd.vM _ _,a.2.1,a.2.2,a.1⟩
 cases h
theorem Ey (s:ByteArray):((aL s).getD (zid,[],⟨#[]⟩)).1.length=32:=by
 cases h:aL s with
 | none=>exact aV
 | some c=>exact (rH h).1
theorem Fy (k:Int) (s:ByteArray) (w:World) :
  Calls prog 39 #[.agg #[.int .i64 k,.string s]] w fun e w'=>e= .returned (.bool (aB ⟨k,s⟩))∧Below w.heap.size w w':=by
 have l:Below w.heap.size w (w.alloc (.cells #[.int .i64 k,.string s] 33)):=bal
 have d:=ah l
 clear l
 by_cases L:4096<s.size
 ·have g:Hid (aB ⟨k,s⟩=false):=by unfold Hid aB;rw [decide_eq_false (show ¬s.size≤4096 by omega)];rfl
  have J:decide ((4096:Int)<s.size)=true:=decide_eq_true (by omega)
  go_enter func39,ntmps39
  go_wp2_with fail
  go_ret
  exact ⟨aK g.out.symm,d.out⟩
 have J:decide ((4096:Int)<s.size)=false:=decide_eq_false (by omega)
 have i:Hid (aB ⟨k,s⟩=if k=1 then true else if k=2 then (bJ s).isSome else if k=3 then (aL s).isSome else false):=by
  unfold Hid aB;rw [decide_eq_true (show s.size≤4096 by omega)];rfl
 by_cases h:k=2
 ·have H:(k==2)=true:=by rw [beq_iff_eq];exact h
  have g:Hid (aB ⟨k,s⟩=(bJ s).isSome):=by unfold Hid;rw [i.out,if_neg (by omega),if_pos h]
  have C:=ah (fun w=>BH s w (by omega))
  generalize (bJ s).isSome=b at g C
  clear h
  go_enter func39,ntmps39
  go_wp2_with fail
  refine (C.out _).mono ?_
  rintro e w1 ⟨v,rfl,_,f⟩
  go_wp2
  go_ret
  exact ⟨aK g.out.symm,d.out.trans (f.mono d.out.size)⟩
 have H:(k==2)=false:=by rw [beq_eq_false_iff_ne];exact h
 by_cases j:k=3
 ·have G:(k==3)=true:=by rw [beq_iff_eq];exact j
  have g:Hid (aB ⟨k,s⟩=(aL s).isSome):=by unfold Hid;rw [i.out,if_neg (by omega),if_neg h,if_pos j]
  have x:=ah (fun w=>Dv s w (by omega))
  have z:=Ey s
  generalize (aL s).getD (zid,[],⟨#[]⟩)=c at x z
  generalize (aL s).isSome=b at g x
  have K:=ah z
  clear h j z
  obtain ⟨E,F,I,o⟩:=Ij
  have u:=ah o
  clear o
  have t:(prog.info? 141).map (·.size)=some 34:=by kernel_rfl
  go_enter func39,ntmps39
  go_wp2_with fail
  refine (x.out _).mono ?_
  rintro e w1 ⟨v,rfl,q,f⟩
  obtain ⟨r,cap,rfl,_⟩:=q
  generalize (c.2.1.map idC).length=n
  have m:(w1.alloc (.cells E 141)).there w1.heap.size 0 34:=by
   rw [u.out];exact (vQ w1 aV _ _ _).there
  have y:=ah m
  have A:=ah (jv c.1 (.slice r n cap) c.2.2 K.out)
  have D:=ah (Ct c.1 r n cap c.2.2)
  have p:=ah (below_setCells (B:=w.heap.size) (a:=w) w1.heap.size (by have:=d.out.size;have:=f.size;omega) (cmC c.1 (.slice r n cap) c.2.2) 0 _ ((d.out.trans (f.mono d.out.size)).alloc (by have:=d.out.size;have:=f.size;omega) (.cells E 141)))
  clear m f
  generalize cmC c.1 (.slice r n cap) c.2.2=cs at A D p
  go_wp2_with (refine aj rfl 141 _ _ rfl w1.heap.size 0 cs ?z1 ?z2 34 A.out ?z4 t D.out ?_)
  try case z1=>rfl
  try case z2=>rfl
  try case z4=>exact y.out
  try simp only [Act.put]
  go_wp2
  go_ret
  exact ⟨aK g.out.symm,p.out⟩
 have G:(k==3)=false:=by rw [beq_eq_false_iff_ne];exact j
 have g:Hid (aB ⟨k,s⟩=(k==1)):=by
  unfold Hid;rw [i.out,if_neg h,if_neg j]
  by_cases h1:k=1
  ·rw [if_pos h1];exact (beq_iff_eq.2 h1).symm
  rw [if_neg h1];exact (beq_eq_false_iff_ne.2 h1).symm
 clear h j
 go_enter func39,ntmps39
 go_wp2_with fail
 go_ret
 exact ⟨aK g.out.symm,d.out⟩
theorem G7 (v:Value) (l:List (List UInt8)) (x:List UInt8) (w:World) (E:dF w v l) (J:∀y∈l,y.length=32) (hx:x.length=32) :
  Calls prog 15 #[v,.agg (idC x).toArray] w fun e w'=>e= .returned (.bool (l.contains x))∧Below w.heap.size w w':=by
 obtain ⟨X,cap,rfl,A,E⟩:=E.open
 unfold maxLen at A
 have z:Below w.heap.size w (w.alloc (.cells (idC x).toArray 42)):=bal
 have a:=ah z
 have B:(idC x).length=32:=by rw [av,hx]
 have r:(w.alloc (.cells (idC x).toArray 42)).rangeAt w.heap.size 0 (idC x):=fun j u hu=>by rw [World.cell?_alloc_new,Nat.zero_add];simpa using hu
 have m:=dZ B
 have Q:=ah E
 have K:=ah J
 have f:w.heap.size<(w.alloc (.cells (idC x).toArray 42)).heap.size:=by simp
 have t:=ah (fun (y:List UInt8) (hy:y.length=32)=>gM y x hy hx)
 clear E J z B
 generalize C:idC x=S at r m a f t
 have N:=ah C
 clear C
 go_enter func15,ntmps15
 go_wp2
 obtain ⟨W,I⟩:∃W,W=w.alloc (.cells S.toArray 42):=⟨_,rfl⟩
 rw [←I] at r a f ⊢
 clear I
 go_loopw [5] (fun i wr=> ∃k:Nat,k≤l.length∧i= .int .i64 k∧Hid (x∉l.take k)∧Below W.heap.size W wr) (fun i _=>(l.length-intOf i).toNat)
 case atStart=>exact ⟨0,by omega,rfl,(by unfold Hid;simp),Below.refl _ _⟩
 obtain ⟨D,rfl⟩:∃D:World,D=wr:=⟨_,rfl⟩
 obtain ⟨k,V,rfl,g,hb⟩:=hrel
 by_cases d:k<l.length
 ·obtain ⟨b,off,rfl,G,n⟩:=Q.out (by intro e;rw [e] at d;simp at d)
  have c1:=ay (n k d) (a.out.trans (hb.mono a.out.size)) G
  have c2:=ay r hb f
  have F:=K.out l[k] (List.getElem_mem d)
  have q:=dZ (us:=idC l[k]) (by rw [av,F])
  have P:b<D.heap.size:=by have:=a.out.size;have:=hb.size;omega
  have O:w.heap.size<D.heap.size:=by have:=hb.size;omega
  have o:=t.out l[k] F
  have U:(0:Int)≤k:=by omega
  have k1:(k:Int)<l.length:=by omega
  clear n F
  by_cases s:l[k]=x
  ·have H:Hid (l.contains x=true):=by unfold Hid;rw [List.contains_iff_mem,←s];exact List.getElem_mem d
   rw [show (l[k]==x)=true from beq_iff_eq.2 s] at o
   clear s g
   generalize idC l[k]=M at c1 q o
   go_wp2
   refine wbq ?_
   repeat (go_big_quiet_step (fail))
   refine aY 42 _ _ rfl rfl rfl c1 (by omega) underlying42 rfl q ?_
   simp only [Act.put,nz]
   repeat (go_big_quiet_step (fail))
   refine aY 42 _ _ rfl rfl rfl c2 (by omega) underlying42 rfl m ?_
   simp only [Act.put,nz]
   repeat (go_big_quiet_step (fail))
   refine wpQuiet_nil ?_
   intro R p
   go_wp2
   go_ret
   exact ⟨aK H.out.symm,a.out.trans ((hb.trans (p.mono hb.size)).mono a.out.size)⟩
  have L:Hid (x∉l.take (k+1)):=by
   unfold Hid
   rw [List.take_succ_eq_append_getElem d]
   intro h
   rcases List.mem_append.1 h with h|h
   ·exact g.out h
   exact s (List.mem_singleton.1 h).symm
  rw [show (l[k]==x)=false from beq_eq_false_iff_ne.2 s] at o
  clear s g
  generalize idC l[k]=M at c1 q o
  go_wp2
  refine wbq ?_
  repeat (go_big_quiet_step (fail))
  refine aY 42 _ _ rfl rfl rfl c1 (by omega) underlying42 rfl q ?_
  simp only [Act.put,nz]
  repeat (go_big_quiet_step (fail))
  refine aY 42 _ _ rfl rfl rfl c2 (by omega) underlying42 rfl m ?_
  simp only [Act.put,nz]
  repeat (go_big_quiet_step (fail))
  refine wpQuiet_nil ?_
  intro R p
  have T:=ah (hb.trans (p.mono hb.size))
  clear hb p c1 c2
  go_wp2
  go_roundw
  case rel=>exact ⟨k+1,by omega,by go_num,L,T.out⟩
  case measure=>simp [intOf];omega
 obtain rfl:k=l.length:=by omega
 have H:Hid (l.contains x=false):=by
  unfold Hid
  have:=g.out
  rw [List.take_length] at this
  simpa using this
 clear g
 go_wp2
 go_ret
 exact ⟨aK H.out.symm,a.out.trans (hb.mono a.out.size)⟩
theorem Hq (a b:Int) (s t:ByteArray) (w:World):(Op.equalIn 10000 33 (.agg #[.int .i64 a,.string s]) (.agg #[.int .i64 b,.string t])).run prog w= .ok (a==b&&s.toList==t.toList) w:=by
 have u3:=underlying3
 have u9:=underlying9
 have a3:=Tryz.isAgg3
 have e:=Tryz.isAgg9
 have z3:=Tryz.sizeOf3
 have f:=Tryz.sizeOf9
 have hS:prog.underlying 33=some (.struct (prog.fieldsOf 33)):=by kernel_rfl
 rw [show (10000:Nat)=9999+1 from rfl,run_equalIn_agg w 9999 33 _ _ hS (by kernel_rfl)]
 simp only [Program.fieldsOf,underlying33]
 go_simp
 by_cases h1:a=b<;>by_cases d:s.toList=t.toList<;>simp [h1,d]
theorem JF {a b:Ob} (h:DL a b=false) (w:World):(Op.equalIn 10000 33 (.agg #[.int .i64 a.kind,.string a.body]) (.agg #[.int .i64 b.kind,.string b.body])).run prog w= .ok true w:=by
 rw [OD h,Hq];simp
theorem Ml {a b:Ob} (h:DL a b=true) (w:World):(Op.equalIn 10000 33 (.agg #[.int .i64 a.kind,.string a.body]) (.agg #[.int .i64 b.kind,.string b.body])).run prog w= .ok false w:=by
 rw [Hq,EJ]
 unfold DL at h
 simp only [Bool.not_eq_true',Bool.and_eq_false_iff,decide_eq_false_iff_not] at h
 congr 1
 rw [Bool.and_eq_false_iff]
 rcases h with h|h
 ·exact .inl (beq_eq_false_iff_ne.2 h)
 exact .inr (decide_eq_false fun e=>h (ba_eq e))
def ob0:Ob:=⟨0,⟨#[]⟩⟩
end
section
open Go.RowKit Go.Maps
section
variable {P:Program} {w:World} {ops:Array Oper} {rest:List Oper} {o:Oper} {a:Act} {Q:Exit → Act → World → Prop}
theorem aW (e:o.guard=none) (v:Value) (h:(execOp a.eval o).run P w= .ok (.value v) w) (d:wpList P ops Q rest (a.put o.dst v) w):wpList P ops Q (o::rest) a w:=by
 refine wpList_plain e fun K b=> ?_
 unfold Oper.wp
 rw [h]
 exact b _ _ d
theorem iW (f:o.guard=none) (t:TypeId) (x lo:Operand) (b:o.op= .slice t x (some lo) none none) (d lv:Value) (hx:a.eval x=d) (g:a.eval lo=lv) (v:Value) (h:(Instr.sliceAt t d (some lv) none none).run P w= .ok v w) (e:wpList P ops Q rest (a.put o.dst v) w):wpList P ops Q (o::rest) a w:=by
 refine aW f v ?_ e
 unfold execOp
 simp only [b,hx,Option.map_some,Option.map_none,g,Sem.run_bind,h,Result.andThen_ok]
 rfl
end
theorem vP:prog.underlying 44=some (.slice (prog.elem 44)):=by kernel_rfl
theorem OP (w:World):dF w (.slice none 0 0) []:=⟨none,0,rfl,by simp,fun h=>absurd rfl h⟩
theorem og (x:Idl) (l:List Idl):dx (x::l)=idC x++dx l:=by simp [dx]
theorem nJ (l:List Idl) (h:∀x∈l,x.length=32):(dx l).length=l.length*32:=by
 induction l with
 | nil=>rfl
 | cons a l ih =>
  rw [og,List.length_append,av,h a (by simp),ih (fun x hx=>h x (List.mem_cons_of_mem _ hx)),List.length_cons];omega
theorem MW (l:List Idl):∀v∈dx l,v.oneCell'=true:=fun v a=>by
 unfold dx at a
 obtain ⟨r,b,a⟩:=List.mem_flatten.1 a
 obtain ⟨x,_,rfl⟩:=List.mem_map.1 b
 exact aJ x v a
theorem H6 (l:List Idl) (h:∀x∈l,x.length=32) {w:World} {b off:Nat} (d:∀k (f:k<l.length),w.rangeAt b (off+k*32) (idC l[k])):∀j u,(dx l)[j]? = some u→w.cell? ⟨b,off+j,none⟩=some u:=by
 induction l generalizing off with
 | nil=>intro j u hu;simp [dx] at hu
 | cons a l ih =>
  intro j u hu
  rw [og] at hu
  have e:(idC a).length=32:=by rw [av];exact h a (by simp)
  by_cases g:j<32
  ·rw [List.getElem?_append_left (by omega)] at hu
   have:=d 0 (by simp) j u hu
   simpa using this
  rw [List.getElem?_append_right (by omega),e] at hu
  have:=ih (off:=off+32) (fun x hx=>h x (List.mem_cons_of_mem _ hx)) (fun k f=>by
   have:=d (k+1) (by simp;omega)
   rw [show off+(k+1)*32=off+32+k*32 from by omega] at this
   exact this) (j-32) u hu
  rwa [show off+32+(j-32)=off+j from by omega] at this
theorem dF.flat {w:World} {v:Value} {l:List Idl} (h:dF w v l) (i:∀x∈l,x.length=32):∃a cap,v= .slice a l.length cap∧(0<l.length→ ∃d,a=some d∧ ∀j u,(dx l)[j]? = some u→w.cell? (d.add j)=some u):=by
 obtain ⟨a,cap,rfl,_,h⟩:=h.open
 refine ⟨a,cap,rfl,fun f=> ?_⟩
 obtain ⟨b,off,rfl,_,g⟩:=h (fun e=>by rw [e] at f;simp at f)
 exact ⟨_,rfl,fun j u hu=>by rw [Addr.add_mid];exact H6 l i g j u hu⟩
theorem bQ.row {w:World} {B:Nat} {v:Value} {l:List Idl} (h:bQ w B 32 v l.length (dx l)) (d:∀x∈l,x.length=32):dF w v l:=by
 have e:=h.1
 rcases h.2 with ⟨rfl,o⟩|⟨g,off,cap,rfl,_,p,q,f,_,k⟩
 ·obtain rfl:l=[]:=List.eq_nil_of_length_eq_zero o
  exact OP w
 refine ⟨some ⟨g,off,none⟩,cap,by rw [List.length_map],by rw [List.length_map];omega,fun _=>⟨g,off,rfl,p,fun i hi j u hu=> ?_⟩⟩
 rw [List.length_map] at hi
 rw [List.getElem_map] at hu
 have r:j<32:=by
  have:=(List.getElem?_eq_some_iff.1 hu).1
  rwa [av,d _ (List.getElem_mem hi)] at this
 have key:∀(m:List Idl) (i:Nat) (hi:i<m.length),(∀x∈m,x.length=32)→(idC m[i])[j]? = some u→(dx m)[i*32+j]? = some u:=by
  intro m
  induction m with
  | nil=>intro i hi;simp at hi
  | cons a m ih =>
   intro i hi hm b
   have n:(idC a).length=32:=by rw [av];exact hm a (by simp)
   rw [og]
   cases i with
   | zero=>rw [List.getElem?_append_left (by omega)];simpa using b
   | succ i =>
    rw [List.getElem?_append_right (by omega),n,show (i+1)*32+j-32=i*32+j from by omega]
    exact ih i (by simpa using hi) (fun x hx=>hm x (List.mem_cons_of_mem _ hx)) (by simpa using b)
 have:=k _ u (key l i hi d hu)
 rwa [Nat.add_assoc]
variable {cm:Idl → Option Cmt}
end
section
open Go.RowKit
def baL (x:Idl):ByteArray:=⟨x.toArray⟩
def cmpL (x y:Idl):Int:=Extern.BytealgCompare.cmp (baL x) (baL y)
theorem kI (x:Idl) (i:Nat) (h:i<x.length):(baL x)[i]! = x[i]:=by
 have a:i<(baL x).size:=by simpa [baL,ByteArray.size] using h
 rw [getElem!_pos (baL x) i a]
 rfl
theorem EK (x:Idl):(baL x).size=x.length:=by simp [baL,ByteArray.size]
theorem ME:∀ {x y:Idl} {i:Nat} (hx:i<x.length) (hy:i<y.length),x.take i=y.take i→x[i]≠y[i]→ltB x y=decide (x[i].toNat<y[i].toNat)
 | [],_,_,hx,_,_,_=>by simp at hx
 | _::_,[],_,_,hy,_,_=>by simp at hy
 | a::x,b::y,0,_,_,_,hne=>by
  simp only [List.getElem_cons_zero] at hne ⊢
  have:a.toNat≠b.toNat:=fun e=>hne (UInt8.toNat_inj.1 e)
  unfold ltB
  by_cases h:a.toNat<b.toNat
  ·rw [if_pos h,decide_eq_true h]
  rw [if_neg h,if_pos (by omega),decide_eq_false h]
 | a::x,b::y,i+1,hx,hy,d,hne=>by
  simp only [List.take_succ_cons,List.cons.injEq] at d
  obtain ⟨rfl,d⟩:=d
  simp only [List.getElem_cons_succ] at hne ⊢
  unfold ltB
  rw [if_neg (by omega),if_neg (by omega)]
  exact ME (by simpa using hx) (by simpa using hy) d hne
theorem O3 {x y:Idl} (g:x.length=y.length):decide (cmpL x y<0)=ltB x y:=by
 unfold cmpL Extern.BytealgCompare.cmp
 rw [EK,EK,←g,Nat.min_self]
 cases b:(List.range x.length).find? fun i=>(baL x)[i]! != (baL y)[i]! with
 | none =>
  have k:x=y:=by
   apply List.ext_getElem g
   intro i h1 a
   have:=List.find?_eq_none.1 b i (List.mem_range.2 h1)
   rw [kI x i h1,kI y i a] at this
   simpa using this
  subst k
  rw [bU]
  simp
 | some i =>
  have hm:=List.mem_of_find?_eq_some b
  have h1:i<x.length:=List.mem_range.1 hm
  have a:i<y.length:=by omega
  have f:=List.find?_some b
  rw [kI x i h1,kI y i a] at f
  have d:x[i]≠y[i]:=by simpa using f
  have m:x.take i=y.take i:=by
   apply List.ext_getElem
   ·simp;omega
   intro j k1 k2
   have l:j<i:=by simp at k1;omega
   rw [List.getElem_take,List.getElem_take]
   have e:=List.find?_range_eq_some.1 b
   have:=e.2.2 j l
   rw [kI x j (by omega),kI y j (by omega)] at this
   simpa using this
  show decide ((if (baL x)[i]! < (baL y)[i]! then (-1:Int) else 1)<0)=ltB x y
  rw [kI x i h1,kI y i a,ME h1 a m d]
  by_cases h:x[i]<y[i]
  ·rw [if_pos h,decide_eq_true (show x[i].toNat<y[i].toNat from h)];rfl
  rw [if_neg h,decide_eq_false (show ¬x[i].toNat<y[i].toNat from h)];rfl
def Ao (l:Idl):List Int:=l.map fun x=>(x.toNat:Int)
theorem BS (l:Idl):(Ao l).length=l.length:=by simp [Ao]
theorem zJ (l:Idl):Lib.bytesOf (Ao l)=l:=by
 unfold Lib.bytesOf Ao
 rw [List.map_map]
 conv=>rhs;rw [←List.map_id l]
 apply List.map_congr_left
 intro x _
 show UInt8.ofNat ((x.toNat:Int)).toNat=x
 rw [Int.toNat_natCast]
 exact UInt8.toNat_inj.1 (by rw [UInt8.toNat_ofNat',Nat.mod_eq_of_lt x.toNat_lt])
theorem tZ (w:World) (x:Idl) (b o:Nat) (h:w.rangeAt b o (idC x)):(Extern.Bytes.bytesOf (.slice (some ⟨b,o,none⟩) x.length x.length)).run prog w= .ok (baL x) w:=by
 have d:=Lib.run_loadBytesX (P:=prog) w (Ao x) ⟨b,o,none⟩ .empty (fun j u a=>by
  rw [Addr.add_mid]
  refine h j _ ?_
  unfold Ao at a
  unfold idC
  rw [List.getElem?_map] at a ⊢
  cases hx:x[j]? with
  | none=>rw [hx] at a;cases a
  | some c=>rw [hx] at a;cases a;rfl)
 rw [BS,zJ] at d
 have e:(⟨ByteArray.empty.data++x.toArray⟩:ByteArray)=baL x:=by
  apply ByteArray.ext
  show (#[]:Array UInt8)++x.toArray=x.toArray
  simp
 rw [e] at d
 exact d
theorem u6 (w:World) (x y:Idl) (a b f d:Nat) (h1:w.rangeAt a b (idC x)) (g:w.rangeAt f d (idC y)) :
  (Extern.BytealgCompare.compare #[.slice (some ⟨a,b,none⟩) x.length x.length,.slice (some ⟨f,d,none⟩) y.length y.length]).run prog w= .ok (.int .i64 (cmpL x y)) w:=by
 have e:Extern.BytealgCompare.compare #[.slice (some ⟨a,b,none⟩) x.length x.length,.slice (some ⟨f,d,none⟩) y.length y.length]=(do pure (goInt (Extern.BytealgCompare.cmp (←Extern.Bytes.bytesOf (.slice (some ⟨a,b,none⟩) x.length x.length)) (←Extern.Bytes.bytesOf (.slice (some ⟨f,d,none⟩) y.length y.length)))):Sem Value):=rfl
 rw [e]
 simp only [Sem.run_bind,tZ w x a b h1,tZ w y f d g,Result.andThen_ok,Sem.run_pure]
 rfl
theorem l8 (w:World) (x y:Idl) (a d g f:Nat) (hx:x.length=32) (hy:y.length=32) (h1:w.rangeAt a d (idC x)) (h:w.rangeAt g f (idC y)) :
  Calls prog 48 #[.slice (some ⟨a,d,none⟩) 32 32,.slice (some ⟨g,f,none⟩) 32 32] w fun e w'=>e= .returned (.int .i64 (cmpL x y))∧w=w':=by
 have b:=u6 w x y a d g f h1 h
 rw [hx,hy] at b
 generalize cmpL x y=c at b
 clear h1 h hx hy
 go_enter func48,ntmps48
 go_wp2
 rw [run_callFunc_extern func91 (by kernel_rfl) (by kernel_rfl) (by kernel_rfl) (e:=Extern.BytealgCompare.compare) (by kernel_rfl),b]
 simp only [Result.andThen]
 rw [Oper.upon_value]
 go_wp2
 go_ret
 exact ⟨rfl,rfl⟩
end
section
open Go.RowKit Go.Maps Go.WideMaps
theorem KJ:laidOutB prog=true:=by kernel_rfl
theorem NK:(259:TypeId)<prog.types.size:=of_decide_eq_true (by kernel_rfl)
theorem p9:Keyed prog 259:=Keyed.of_law (deep_law_laid KJ (m:=3) (by omega) NK (by kernel_rfl) (by kernel_rfl))
def chC (c:Idl×Int):List Value:=idC c.1++[.int .i64 c.2]
theorem ML (d:Nat) {x:Idl} (hx:x.length=32):∃ls,Program.keyLits prog (d+2) 42 (idC x)=some ls:=by
 have h:(idC x).length=32:=by rw [av,hx]
 have a:Program.cellsOf prog 42=32:=by kernel_rfl
 have g:Program.cellsOf prog 5=1:=by kernel_rfl
 unfold Program.keyLits
 rw [underlying42]
 dsimp only
 rw [if_pos (by rw [h,a]),g]
 rw [mapM_some _ (fun i=>[Lit.int .u8 ((x.getD i 0).toNat:Int)])]
 ·exact ⟨_,rfl⟩
 intro i hi
 have hi:=List.mem_range.1 hi
 have e:((idC x).drop (i*1)).take 1=[Value.int .u8 ((x.getD i 0).toNat:Int)]:=by
  rw [Nat.mul_one]
  have b:i<x.length:=by omega
  have f:i<(idC x).length:=by omega
  rw [List.drop_eq_getElem_cons f]
  simp [idC,b]
 rw [e];exact Av _ _
theorem uG {x:Idl} {k:Int} (hx:x.length=32) (s:0≤k) (t:k≤100):∃l,keyOf prog 259 (.agg (chC (x,k)).toArray)=some l:=by
 have j:prog.keyType 259=true:=by kernel_rfl
 obtain ⟨m,hm⟩:∃m,prog.types.size=m+3:=⟨prog.types.size-3,by kernel_rfl⟩
 have g:(idC x).length=32:=by rw [av,hx]
 have p:Program.cellsOf prog 259=33:=by kernel_rfl
 have d:Program.cellsOf prog 42=32:=by kernel_rfl
 have n:Program.cellsOf prog 3=1:=by kernel_rfl
 have b:Value.formed prog 259 (.agg (chC (x,k)).toArray)=true:=by
  unfold Value.formed chC
  rw [underlying259]
  simp [g,p]
 obtain ⟨ls,h⟩:=ML (m+1) hx
 have f:Program.keyLits prog (m+3) 3 [Value.int .i64 k]=some [.int .i64 k]:=by
  have q:(Lit.int .i64 k).wf=true:=by
   simp only [Lit.wf,Bool.and_eq_true,decide_eq_true_eq]
   have i:IntKind.i64.min= -9223372036854775808:=by decide
   have o:IntKind.i64.max=9223372036854775807:=by decide
   rw [i,o];omega
  unfold Program.keyLits
  rw [underlying3]
  simp [q]
 have a:∃ls,Program.keyLits prog (prog.types.size+1) 259 (chC (x,k))=some ls:=by
  rw [hm]
  unfold Program.keyLits chC
  rw [underlying259]
  dsimp only
  rw [if_pos ⟨by rw [List.length_append,g,p];rfl,by kernel_rfl⟩]
  have i:((idC x++[Value.int .i64 k]).drop 0).take 32=idC x:=by rw [List.drop_zero,←g,List.take_left]
  have o:((idC x++[Value.int .i64 k]).drop 32).take 1=[Value.int .i64 k]:=by rw [←g,List.drop_left];rfl
  simp only [List.mapM_cons,List.mapM_nil,d,n,i,o,h,f]
  exact ⟨_,rfl⟩
 obtain ⟨r,e⟩:=a
 unfold keyOf
 rw [underlying259]
 dsimp only
 rw [if_pos (by rw [j,b];rfl)]
 exact ⟨_,by show ((Program.keyLits prog _ _ (chC (x,k)).toArray.toList).map _)=_;rw [List.toList_toArray,e];rfl⟩
def jY (w:World) (b n:Nat):Prop:=∃D:DataW Value,w.ownsMap prog 259 eO b n D∧ ∀a c,∃c',D.atKey a (.held (.bool c))= .held (.bool c')
theorem jY.lt {w:World} {b n:Nat} (h:jY w b n):b<w.heap.size:=by obtain ⟨D,h,_⟩:=h;exact h.lt
theorem jY.heap {w w':World} {b n:Nat} (h:jY w b n) (hb:w'.heap[b]? = w.heap[b]?):jY w' b n:=by
 obtain ⟨D,⟨es,a,h1,d⟩,e⟩:=h
 exact ⟨D,⟨es,a,hb.trans h1,d⟩,e⟩
theorem jY.on {w w':World} {b n:Nat} (h:jY w b n) (hb:Below w.heap.size w w'):jY w' b n:=h.heap (hb.block b h.lt)
theorem JL (w:World):jY (w.alloc (.map #[] 0)) w.heap.size 0:=⟨_,World.ownsMap_made _ _ _ _,fun _ c=>⟨c,rfl⟩⟩
theorem jY.look {w:World} {t e:TypeId} (q:prog.underlying t=some (.map 259 e)) (o:(zeroValue e).run prog w= .ok (.bool false) w) {b n:Nat} (h:jY w b n) {x:Idl} {k:Int} (hx:x.length=32) (p:0≤k) (r:k≤100) :
  ∃c,(Instr.lookup t (.map (some b)) (.agg (chC (x,k)).toArray) false).run prog w= .ok (.bool c) w:=by
 obtain ⟨D,d,m⟩:=h
 obtain ⟨j,i⟩:=uG hx p r
 obtain ⟨v,ps,f,g⟩:=d.lookup p9 q o (zd:=.held (.bool false)) (zp:=[]) rfl i
 obtain ⟨c,l⟩:=m j false
 have a:D.atKey j (.held (.bool false))= .held v:=by
  unfold eO at g
  injection g with g
  exact (congrArg Prod.fst g).symm
 rw [l] at a
 injection a with a
 exact ⟨c,by rw [f,a]⟩
theorem uV {w:World} {ops:Array Oper} {rest:List Oper} {o:Oper} {a:Act} {Q:Exit→Act→World→Prop} (C:o.guard=none) (m x v:Operand) (t e:TypeId) (j:o.op=Op.mapUpdate t m x v)
  (B:prog.underlying t=some (.map 259 e)) (b n:Nat) (hm:a.eval m= .map (some b)) (f:jY w b n) (p:Idl) (k:Int) (r:p.length=32) (A:0≤k) (E:k≤100) (c:Bool) (hx:a.eval x= .agg (chC (p,k)).toArray) (y:a.eval v= .bool c) (q:n<maxLen)
  (u:∀w',jY w' b (n+1)→w.grownBy w' (some b)→wpList prog ops Q rest (a.put o.dst undef) w'):wpList prog ops Q (o::rest) a w:=by
 obtain ⟨D,f,z⟩:=f
 obtain ⟨l,g⟩:=uG r A E
 refine wpList_mapUpdate_own w C m x v t j 259 e p9 B eO b n D hm f q (.agg (chC (p,k)).toArray) (.bool c) l hx y g _ [] rfl fun w' h1 s=>u w' ⟨_,h1,fun h d=> ?_⟩ s
 by_cases e:h=l
 ·subst e
  exact ⟨c,atKey_put_same f.isMap (p9.key g) _ _⟩
 obtain ⟨c',i⟩:=z h d
 exact ⟨c',by rw [atKey_put_other e];exact i⟩
def vB (b:Bool):Value:=.bool b
def gZ (l:List Idl) (x:Idl):Option Bool:=if x∈l then some true else none
def bW (w:World) (b n:Nat) (l:List Idl):Prop:=gu vB w b n (gZ l)∧l.Nodup∧ ∀x∈l,x.length=32
theorem sJ {l:List Idl} {x:Idl}:(gZ l x).isSome=true↔x∈l:=by
 unfold gZ;split<;>simp_all
theorem bW.lt {w:World} {b n:Nat} {l:List Idl} (h:bW w b n l):b<w.heap.size:=h.1.lt
theorem bW.heap {w w':World} {b n:Nat} {l:List Idl} (h:bW w b n l) (hb:w'.heap[b]? = w.heap[b]?):bW w' b n l:=⟨h.1.heap hb,h.2⟩
theorem bW.on {w w':World} {b n:Nat} {l:List Idl} (h:bW w b n l) (hb:Below w.heap.size w w'):bW w' b n l:=⟨h.1.on hb,h.2⟩
theorem bW.mono {w:World} {b n n':Nat} {l:List Idl} (h:bW w b n l) (d:n≤n'):bW w b n' l:=by obtain ⟨⟨D,h1,a⟩,e⟩:=h;exact ⟨⟨D,h1.mono d,a⟩,e⟩
theorem iY (w:World):bW (w.alloc (.map #[] 0)) w.heap.size 0 []:=⟨(JM w).ext fun x _=>by unfold gZ;simp,List.nodup_nil,fun _ h=>by cases h⟩
def gJ (l:List Idl) (x:Idl):List Idl:=if x∈l then l else x::l
theorem dU {l:List Idl} {x y:Idl}:y∈gJ l x↔y=x∨y∈l:=by
 unfold gJ
 split
 ·rename_i h
  exact ⟨.inr,fun a=>a.elim (fun e=>e▸h) id⟩
 exact List.mem_cons
theorem bW.add {w w':World} {b n n':Nat} {l:List Idl} (h:bW w b n l) {x:Idl} (hx:x.length=32) (hm:gu vB w' b n' fun q=>if q=x then some true else gZ l q):bW w' b n' (gJ l x):=by
 refine ⟨hm.ext fun y _=> ?_,?_,fun y hy=> ?_⟩
 ·by_cases e:y=x
  ·rw [if_pos e];unfold gZ;rw [if_pos (dU.2 (.inl e))]
  rw [if_neg e]
  unfold gZ
  by_cases a:y∈l
  ·rw [if_pos a,if_pos (dU.2 (.inr a))]
  rw [if_neg a,if_neg fun f=>(dU.1 f).elim e a]
 ·unfold gJ
  split
  ·exact h.2.1
  rename_i d;exact List.nodup_cons.2 ⟨d,h.2.1⟩
 rcases dU.1 hy with rfl|hy
 ·exact hx
 exact h.2.2 y hy
theorem bW.del {w w':World} {b n n':Nat} {l:List Idl} (h:bW w b n l) {x:Idl} (hm:gu vB w' b n' fun q=>if q=x then none else gZ l q):bW w' b n' (l.filter fun y=>decide (y≠x)):=by
 refine ⟨hm.ext fun y _=> ?_,h.2.1.filter _,fun y hy=>h.2.2 y (List.mem_filter.1 hy).1⟩
 unfold gZ
 by_cases e:y=x
 ·rw [if_pos e,if_neg (by simp [e])]
 rw [if_neg e]
 by_cases a:y∈l
 ·rw [if_pos a,if_pos (by simp [e,a])]
 rw [if_neg a,if_neg (by simp [a])]
end
end Go.Proofs.YtlhcoanbhnphgaaGreatDoor

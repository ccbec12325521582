/- A part of this claim. -/
import Derived.Laws.Concat
import Derived.Laws.Cover1
import Derived.Laws.Externs
import Derived.Laws.Strings2
import Derived.Lib.AppendStr
import Derived.Lib.Builder
import Derived.Lib.Slices
import Derived.Lib.SpaceUEq
import Derived.Lib.Strings
import Derived.Lib.TrimUEq
import Derived.Lib.UnsafeStr
import Derived.Lib.Walk
import Derived.Shelf.GgClosure.StringsIndexFunc
import Derived.Shelf.Strings.BuilderX
import Derived.Stop.BytesEq
import Derived.Test.YtejamhkgjkhjdaaGreatDoorXn6
namespace Go.Proofs.YtejamhkgjkhjdaaGreatDoor
open Tryz
set_option maxHeartbeats 64000000
set_option maxRecDepth 100000
set_option linter.all false
section
def aM (n:Nat):List UInt8:=if n<128 then [UInt8.ofNat n] else UInt8.ofNat (n%128+128)::aM (n/128)
termination_by n
theorem dw {n:Nat} (h:n<128):aM n=[UInt8.ofNat n]:=by rw [aM,if_pos h]
theorem gu {n:Nat} (h:128≤n):aM n=UInt8.ofNat (n%128+128)::aM (n/128):=by rw [aM,if_neg (by omega)]
theorem LY {b:UInt8} {n:Nat} (h:b.toNat=n):UInt8.ofNat n=b:=by rw [←h];exact UInt8.ofNat_toNat
theorem qE (l:List UInt8) (a:Nat):∀f i N n j,bD l a f i N= .inr (n,j)→ ∃m,n=N+m*128^i∧i<j∧l.drop i=aM m++l.drop j∧(0<i→0<m)
 | 0,i,N,n,j,h=>by cases h
 | f+1,i,N,n,j,h=>by
  unfold bD at h
  cases d:l[i]? with
  | none=>rw [d] at h;cases h
  | some b =>
   rw [d] at h;dsimp only at h
   have hi:i<l.length:=(List.getElem?_eq_some_iff.1 d).1
   have hd:l.drop i=b::l.drop (i+1):=by rw [List.drop_eq_getElem_cons hi,(List.getElem?_eq_some_iff.1 d).2]
   have hb:=b.toNat_lt
   by_cases h1:128≤b.toNat
   ·rw [if_pos h1] at h
    obtain ⟨m,p,q,o,k⟩:=qE l a f (i+1) _ n j h
    have hm:=k (by omega)
    refine ⟨b.toNat%128+128*m,?_,by omega,?_,fun _=>by omega⟩
    ·rw [p,Nat.pow_succ,Nat.add_mul,Nat.add_assoc];congr 2
     rw [Nat.mul_comm (128^i) 128,←Nat.mul_assoc,Nat.mul_comm m 128]
    rw [hd,o,gu (n:=b.toNat%128+128*m) (by omega)]
    have q1:(b.toNat%128+128*m)%128+128=b.toNat:=by omega
    have q2:(b.toNat%128+128*m)/128=m:=by omega
    rw [q1,q2,LY rfl];rfl
   rw [if_neg h1] at h
   by_cases g:b.toNat=0∧0<i
   ·rw [if_pos g] at h;cases h
   rw [if_neg g] at h
   by_cases e:1099511627775<N+b.toNat%128*128^i∨a<N+b.toNat%128*128^i
   ·rw [if_pos e] at h;cases h
   rw [if_neg e] at h
   cases h
   have hm:b.toNat%128=b.toNat:=by omega
   refine ⟨b.toNat,by rw [hm],by omega,?_,fun h=>by omega⟩
   rw [hd,dw (by omega),LY rfl];rfl
theorem Rd.Da (r:Rd) (a:Nat) (h:r.err≠0):r.num a=(r,0):=by unfold Rd.num;rw [if_pos h]
theorem Rd.CV (r:Rd) (n:Nat) (h:r.err≠0):r.raw n=(r,ByteArray.empty):=by unfold Rd.raw;rw [if_pos h]
theorem Rd.zT (r:Rd) (n:Nat) (h:r.err≠0):r.text n=(r,ByteArray.empty):=by unfold Rd.text;rw [if_pos h]
theorem Rd.pR (r:Rd) (a:Nat) (h:(r.num a).1.err=0):r.err=0∧r.left=aM (r.num a).2++(r.num a).1.left∧r.pos<(r.num a).1.pos:=by
 have b:r.err=0:=by
  by_cases b:r.err=0
  ·exact b
  rw [Rd.Da _ _ b] at h;exact absurd h b
 refine ⟨b,?_⟩
 unfold Rd.num at h ⊢
 rw [if_neg (by simp [b])] at h ⊢
 cases e:bD r.left a 6 0 0 with
 | inl x =>
  rw [e] at h
  have:=((fB r.left a 6 0 0).1 x e).2
  exact absurd h (by show x≠0;omega)
 | inr x =>
  dsimp only
  obtain ⟨m,f,g,d,_⟩:=qE r.left a 6 0 0 x.1 x.2 e
  rw [Nat.pow_zero,Nat.mul_one,Nat.zero_add] at f
  rw [List.drop_zero] at d
  refine ⟨?_,by omega⟩
  rw [f]
  show _=aM m++r.s.data.toList.drop (r.pos+x.2)
  rw [←List.drop_drop];exact d
theorem Rd.wP (r:Rd) (n:Nat) (b:r.fine) (h:(r.raw n).1.err=0):r.err=0∧r.left=(r.raw n).2.data.toList++(r.raw n).1.left∧(r.raw n).2.size=n∧(r.raw n).1.pos=r.pos+n:=by
 have a:r.err=0:=by
  by_cases a:r.err=0
  ·exact a
  rw [Rd.CV _ _ a] at h;exact absurd h a
 refine ⟨a,?_⟩
 unfold Rd.raw at h ⊢
 rw [if_neg (by simp [a])] at h ⊢
 by_cases h1:r.s.size-r.pos<n
 ·rw [if_pos h1] at h;cases h
 rw [if_neg h1]
 have d:=b.pos
 refine ⟨?_,?_,rfl⟩
 ·show r.s.data.toList.drop r.pos=(r.s.extract r.pos (r.pos+n)).data.toList++r.s.data.toList.drop (r.pos+n)
  rw [ByteArray.data_extract,Array.toList_extract,List.extract_eq_take_drop,←List.drop_drop,Nat.add_sub_cancel_left,List.take_append_drop]
 show (r.s.extract r.pos (r.pos+n)).size=n
 rw [ByteArray.size_extract];omega
theorem Rd.mK (r:Rd) (a:Nat) (d:r.fine) (h:(r.text a).1.err=0):r.err=0∧r.left=aM (r.text a).2.size++((r.text a).2.data.toList++(r.text a).1.left)∧(r.text a).2.size≤a∧r.pos<(r.text a).1.pos:=by
 have b:r.err=0:=by
  by_cases b:r.err=0
  ·exact b
  rw [Rd.zT _ _ b] at h;exact absurd h b
 refine ⟨b,?_⟩
 unfold Rd.text at h ⊢
 rw [if_neg (by simp [b])] at h ⊢
 by_cases h1:((r.num a).1.raw (r.num a).2).1.err≠0
 ·rw [if_pos h1] at h;exact absurd h h1
 rw [if_neg h1]
 have f:((r.num a).1.raw (r.num a).2).1.err=0:=by simpa using h1
 obtain ⟨a1,a2,a3,a4⟩:=Rd.wP _ _ (Rd.bK r a d).1 f
 obtain ⟨_,e,g⟩:=Rd.pR r a a1
 refine ⟨?_,by rw [a3];exact (Rd.bK r a d).2,by omega⟩
 rw [e,a3,a2]
theorem JO (s:ByteArray) (h:s.size=32):kM s=s.data.toList:=by
 unfold kM
 apply List.ext_getElem
 ·simp;exact h.symm
 intro i h1 b
 have a:i<s.data.size:=by simpa using b
 simp [blk,Array.getElem?_eq_getElem a]
theorem Rd.uj (r:Rd) (a:r.fine) (h:r.id.1.err=0):r.err=0∧r.left=r.id.2++r.id.1.left∧r.id.1.pos=r.pos+32:=by
 obtain ⟨e,h1,d,b⟩:=Rd.wP r 32 a h
 exact ⟨e,by show _=kM _++_;rw [JO _ d];exact h1,b⟩
theorem Rd.jW (r:Rd) (h:r.fine):r.id.1.fine:=Rd.sW r 32 h
theorem Rd.uE (r:Rd) (h:r.fin=0):r.err=0∧r.left=[]:=by
 unfold Rd.fin at h
 by_cases a:r.err=0
 ·rw [if_neg (by simp [a])] at h
  by_cases h1:r.pos<r.s.size
  ·rw [if_pos h1] at h;cases h
  exact ⟨a,by unfold Rd.left;exact List.drop_eq_nil_of_le (by simp;omega)⟩
 rw [if_pos a] at h;exact absurd h a
theorem Rd.uI (r:Rd) (a:Nat) (h:r.err≤4):(r.num a).1.err≤4:=by
 unfold Rd.num;split
 ·exact h
 split
 ·rename_i e b;exact ((fB r.left a 6 0 0).1 e b).1
 exact h
theorem Rd.uH (r:Rd) (n:Nat) (h:r.err≤4):(r.raw n).1.err≤4:=by
 unfold Rd.raw;split
 ·exact h
 split
 ·show 3≤4;omega
 exact h
theorem Rd.Hr (r:Rd) (n:Nat) (h:r.err≤4):(r.text n).1.err≤4:=by
 unfold Rd.text;split
 ·exact h
 split
 ·exact Rd.uH _ _ (Rd.uI r n h)
 exact Rd.uH _ _ (Rd.uI r n h)
theorem Rd.Lv (r:Rd) (h:r.err≤4):r.id.1.err≤4:=Rd.uH r 32 h
theorem Rd.Mv (r:Rd) (n:Nat):(r.text n).1.s=r.s:=by
 unfold Rd.text;split
 ·rfl
 split
 ·show ((r.num n).1.raw (r.num n).2).1.s=r.s;rw [Rd.Ez,Rd.EI]
 rw [Rd.Ez,Rd.EI]
theorem Rd.Nl (r:Rd):r.id.1.s=r.s:=Rd.Ez r 32
structure Ent where
 name:ByteArray
 kind:Nat
 id:List UInt8
def Rd.entry (r:Rd):Rd×Ent:=(((r.num 2).1.text 32).1.id.1,⟨((r.num 2).1.text 32).2,(r.num 2).2,((r.num 2).1.text 32).1.id.2⟩)
def Rd.more (r:Rd):Bool:=decide (r.err=0∧r.pos<r.s.size)
def Rd.ents:Nat→Rd→Rd×List Ent
 | 0,r=>(r,[])
 | f+1,r=>if r.more=true then ((Rd.ents f r.entry.1).1,r.entry.2::(Rd.ents f r.entry.1).2) else (r,[])
def Ent.bytes (e:Ent):List UInt8:=aM e.kind++(aM e.name.size++e.name.data.toList)++e.id
def kQ (l:List Ent):List UInt8:=(l.map Ent.bytes).flatten
theorem Rd.gD (r:Rd) (h:r.fine):r.entry.1.fine:=Rd.jW _ (Rd.dG _ _ (Rd.bK r 2 h).1)
theorem Rd.uM (r:Rd) (h:r.err≤4):r.entry.1.err≤4:=Rd.Lv _ (Rd.Hr _ _ (Rd.uI r 2 h))
theorem Rd.EZ (r:Rd):r.entry.1.s=r.s:=by
 show ((r.num 2).1.text 32).1.id.1.s=r.s
 rw [Rd.Nl,Rd.Mv,Rd.EI]
theorem Rd.gX (r:Rd) (a:r.fine) (h:r.entry.1.err=0):r.err=0∧r.left=r.entry.2.bytes++r.entry.1.left∧r.pos+32<r.entry.1.pos∧r.entry.2.name.size≤32∧r.entry.2.kind≤2:=by
 have b:=(Rd.bK r 2 a).1
 have f:=Rd.dG _ 32 b
 obtain ⟨e,a1,a2⟩:=Rd.uj _ f h
 obtain ⟨i,j,d,k⟩:=Rd.mK _ 32 b e
 obtain ⟨g,c1,c2⟩:=Rd.pR r 2 i
 refine ⟨g,?_,?_,d,(Rd.bK r 2 a).2⟩
 ·rw [c1,j,a1];unfold Ent.bytes;simp only [List.append_assoc];rfl
 show r.pos+32<((r.num 2).1.text 32).1.id.1.pos
 rw [a2];omega
theorem Rd.Ht:∀f (r:Rd),r.fine→(r.ents f).1.fine
 | 0,_,h=>h
 | f+1,r,h=>by
  unfold Rd.ents;split
  ·exact Rd.Ht f _ (r.gD h)
  exact h
theorem Rd.ny:∀f (r:Rd),r.fine→(r.ents f).1.err=0→r.err=0∧r.left=kQ (r.ents f).2++(r.ents f).1.left
 | 0,r,_,h=>⟨h,by simp [Rd.ents,kQ]⟩
 | f+1,r,hf,h=>by
  unfold Rd.ents at h ⊢
  by_cases hm:r.more=true
  ·rw [if_pos hm] at h ⊢
   obtain ⟨h1,b⟩:=Rd.ny f _ (r.gD hf) h
   obtain ⟨a,g1,_⟩:=r.gX hf h1
   refine ⟨a,?_⟩
   show r.left=kQ (r.entry.2::(Rd.ents f r.entry.1).2)++_
   rw [g1,b];simp [kQ]
  rw [if_neg hm] at h ⊢
  exact ⟨h,by simp [kQ]⟩
theorem Rd.nu:∀f (r:Rd),r.fine→(r.ents f).1.err=0→ ∀e∈(r.ents f).2,e.name.size≤32∧e.kind≤2
 | 0,_,_,_,e,he=>by cases he
 | f+1,r,hf,h,e,he=>by
  unfold Rd.ents at h he
  by_cases hm:r.more=true
  ·rw [if_pos hm] at h he
   obtain ⟨h1,_⟩:=Rd.ny f _ (r.gD hf) h
   obtain ⟨_,_,_,g3,a⟩:=r.gX hf h1
   rcases List.mem_cons.1 he with rfl|b
   ·exact ⟨g3,a⟩
   exact Rd.nu f _ (r.gD hf) h e b
  rw [if_neg hm] at he;cases he
def Rd.fH:Nat→Rd→List Ent→Rd×List Ent
 | 0,r,l=>(r,l)
 | f+1,r,l=>if r.more=true then Rd.fH f r.entry.1 (l++[r.entry.2]) else (r,l)
theorem Rd.uJ:∀f (r:Rd) l,r.fH f l=((r.ents f).1,l++(r.ents f).2)
 | 0,r,l=>by simp [Rd.fH,Rd.ents]
 | f+1,r,l=>by
  unfold Rd.fH Rd.ents
  split
  ·rw [Rd.uJ f];simp
  simp
theorem Rd.K6 (r:Rd) (h:r.err≤4):r.more=decide (r.fin=5):=by
 unfold Rd.more Rd.fin
 by_cases a:r.err=0
 ·by_cases h1:r.pos<r.s.size
  ·simp [a,h1]
  simp [a,h1]
 have:r.err≠5:=by omega
 simp [a,this]
def fO (c:UInt8):Bool:=decide (33≤c.toNat∧c.toNat≤126∧c.toNat≠47)
def aY (s:ByteArray):Bool:=s.data.toList.all fO&&decide (1≤s.size∧s.size≤32)
def bX (e:Ent):Bool:=aY e.name&&decide (1≤e.kind∧e.kind≤2)
def ltB:List UInt8→List UInt8→Bool
 | [],[]=>false
 | [],_::_=>true
 | _::_,[]=>false
 | a::x,b::y=>if a.toNat<b.toNat then true else if b.toNat<a.toNat then false else ltB x y
def lJ:List Ent→Bool
 | a::b::l=>ltB a.name.data.toList b.name.data.toList&&lJ (b::l)
 | _=>true
def dH (l:List Ent):Bool:=l.all bX&&lJ l&&decide (l.length≤32)
def rd0 (s:ByteArray):Rd:=⟨s,0,0⟩
def iG (s:ByteArray):Rd×List Ent:=(rd0 s).ents (s.size+1)
def bE (s:ByteArray):Option (List Ent):=if (iG s).1.fin=0∧dH (iG s).2=true then some (iG s).2 else none
theorem dz (s:ByteArray) (h:s.size≤1000000):(rd0 s).fine:=⟨Nat.zero_le _,h,Nat.zero_le _⟩
theorem x9 (s:ByteArray) (a:s.size≤1000000) (h:(iG s).1.fin=0):kQ (iG s).2=s.data.toList:=by
 obtain ⟨h1,b⟩:=Rd.uE _ h
 have:=(Rd.ny _ _ (dz s a) h1).2
 rw [show ((rd0 s).ents (s.size+1)).1.left=[] from b,List.append_nil] at this
 exact this.symm
def Rd.ids:Nat→Rd→Rd×List (List UInt8)
 | 0,r=>(r,[])
 | n+1,r=>((Rd.ids n r.id.1).1,r.id.2::(Rd.ids n r.id.1).2)
def Rd.commit (r:Rd):Rd×(List UInt8×List (List UInt8)×ByteArray) :=
 ((((r.id.1.num 4).1.ids (r.id.1.num 4).2).1.text 64).1,r.id.2,((r.id.1.num 4).1.ids (r.id.1.num 4).2).2,(((r.id.1.num 4).1.ids (r.id.1.num 4).2).1.text 64).2)
def l6 (c:List UInt8×List (List UInt8)×ByteArray):List UInt8:=c.1++(aM c.2.1.length++(c.2.1.flatten++(aM c.2.2.size++c.2.2.data.toList)))
theorem Rd.fE:∀n (r:Rd),r.fine→(r.ids n).1.fine
 | 0,_,h=>h
 | n+1,r,h=>Rd.fE n _ (r.jW h)
theorem Rd.Nk:∀n (r:Rd),(r.ids n).1.s=r.s
 | 0,_=>rfl
 | n+1,r=>(Rd.Nk n _).trans r.Nl
theorem Rd.rO:∀n (r:Rd),(r.ids n).2.length=n
 | 0,_=>rfl
 | n+1,r=>by show (Rd.ids n r.id.1).2.length+1=n+1;rw [Rd.rO n]
theorem Rd.rP:∀n (r:Rd),∀x∈(r.ids n).2,x.length=32
 | 0,_,x,h=>by cases h
 | n+1,r,x,h=>by
  rcases List.mem_cons.1 h with rfl|a
  ·exact dX _
  exact Rd.rP n _ x a
theorem Rd.ug:∀n (r:Rd),r.ids (n+1)=((r.ids n).1.id.1,(r.ids n).2++[(r.ids n).1.id.2])
 | 0,r=>rfl
 | n+1,r=>by
  show ((Rd.ids (n+1) r.id.1).1,r.id.2::(Rd.ids (n+1) r.id.1).2)=_
  rw [Rd.ug n];rfl
theorem Rd.xB:∀n (r:Rd),r.fine→(r.ids n).1.err=0→r.err=0∧r.left=(r.ids n).2.flatten++(r.ids n).1.left
 | 0,r,_,h=>⟨h,by simp [Rd.ids]⟩
 | n+1,r,hf,h=>by
  obtain ⟨h1,b⟩:=Rd.xB n _ (r.jW hf) h
  obtain ⟨a,g1,_⟩:=r.uj hf h1
  refine ⟨a,?_⟩
  show r.left=(r.id.2::(Rd.ids n r.id.1).2).flatten++(Rd.ids n r.id.1).1.left
  rw [g1,b];simp
theorem Rd.qL (r:Rd) (h:r.fine):r.commit.1.fine:=Rd.dG _ _ (Rd.fE _ _ (Rd.bK _ 4 (r.jW h)).1)
theorem Rd.zl (r:Rd) (a:r.fine) (h:r.commit.1.err=0):r.left=l6 r.commit.2++r.commit.1.left:=by
 have j:=r.jW a
 have b:=(Rd.bK _ 4 j).1
 have d:=Rd.fE (r.id.1.num 4).2 _ b
 obtain ⟨f,a1,_⟩:=Rd.mK _ 64 d h
 obtain ⟨i,k⟩:=Rd.xB _ _ b f
 obtain ⟨g,c1,_⟩:=Rd.pR _ 4 i
 obtain ⟨_,e,_⟩:=r.uj a g
 unfold l6
 show r.left=(r.id.2++(aM ((r.id.1.num 4).1.ids (r.id.1.num 4).2).2.length++_))++_
 rw [Rd.rO,e,c1,k,a1]
 simp only [List.append_assoc];rfl
def Je (l:List (List UInt8)):Bool:=decide l.Nodup
def bB (c:List UInt8×List (List UInt8)×ByteArray):Bool:=Je c.2.1&&decide (c.2.1.length≤4∧c.2.2.size≤64)
def aH (s:ByteArray):Option (List UInt8×List (List UInt8)×ByteArray):=if (rd0 s).commit.1.fin=0∧bB (rd0 s).commit.2=true then some (rd0 s).commit.2 else none
theorem uT (s:ByteArray) (a:s.size≤1000000) (h:(rd0 s).commit.1.fin=0):l6 (rd0 s).commit.2=s.data.toList:=by
 obtain ⟨h1,b⟩:=Rd.uE _ h
 have:=(rd0 s).zl (dz s a) h1
 rw [b,List.append_nil] at this
 exact this.symm
structure Ob where
 kind:Int
 body:ByteArray
def av (o:Ob):Bool:=decide (o.body.size≤4096)&&(if o.kind=1 then true else if o.kind=2 then (bE o.body).isSome else if o.kind=3 then (aH o.body).isSome else false)
def dB (k:Int):UInt8:=if k=2 then 116 else if k=3 then 99 else 98
def bA (o:Ob):List UInt8:=dB o.kind::(aM o.body.size++o.body.data.toList)
theorem bQ:∀x,ltB x x=false
 | []=>rfl
 | a::x=>by unfold ltB;rw [if_neg (by omega),if_neg (by omega)];exact bQ x
theorem gy:∀ {x y z},ltB x y=true→ltB y z=true→ltB x z=true
 | [],[],_,h,_=>by cases h
 | [],_::_,[],_,h=>by cases h
 | [],_::_,_::_,_,_=>rfl
 | _::_,[],_,h,_=>by cases h
 | _::_,_::_,[],_,h=>by cases h
 | a::x,b::y,c::z,h,k=>by
  unfold ltB at h k ⊢
  by_cases h1:a.toNat<b.toNat
  ·by_cases k1:b.toNat<c.toNat
   ·rw [if_pos (by omega)]
   rw [if_neg k1] at k
   by_cases k2:c.toNat<b.toNat
   ·rw [if_pos k2] at k;cases k
   rw [if_pos (by omega)]
  rw [if_neg h1] at h
  by_cases d:b.toNat<a.toNat
  ·rw [if_pos d] at h;cases h
  rw [if_neg d] at h
  by_cases k1:b.toNat<c.toNat
  ·rw [if_pos (by omega)]
  rw [if_neg k1] at k
  by_cases k2:c.toNat<b.toNat
  ·rw [if_pos k2] at k;cases k
  rw [if_neg k2] at k
  rw [if_neg (by omega),if_neg (by omega)]
  exact gy h k
theorem iC:∀ {x y},ltB x y=false→ltB y x=false→x=y
 | [],[],_,_=>rfl
 | [],_::_,h,_=>by cases h
 | _::_,[],_,h=>by cases h
 | a::x,b::y,h,k=>by
  unfold ltB at h k
  by_cases h1:a.toNat<b.toNat
  ·rw [if_pos h1] at h;cases h
  rw [if_neg h1] at h
  by_cases d:b.toNat<a.toNat
  ·rw [if_pos d] at k;cases k
  rw [if_neg d] at h k
  rw [if_neg h1] at k
  rw [iC h k,UInt8.toNat_inj.1 (show a.toNat=b.toNat by omega)]
theorem GH {x y:List UInt8} (h:ltB x y=true):ltB y x=false:=by
 cases e:ltB y x with
 | false=>rfl
 | true=>have:=gy h e;rw [bQ] at this;cases this
def KN (l:List (List UInt8)):Prop:=l.Pairwise fun x y=>ltB x y=true
theorem Cb:∀ {l m:List (List UInt8)},KN l→KN m→(∀x,x∈l↔x∈m)→l=m
 | [],[],_,_,_=>rfl
 | [],b::m,_,_,h=>absurd ((h b).2 (by simp)) (by simp)
 | a::l,[],_,_,h=>absurd ((h a).1 (by simp)) (by simp)
 | a::l,b::m,hl,hm,h=>by
  obtain ⟨f,g⟩:=List.pairwise_cons.1 hl
  obtain ⟨d,i⟩:=List.pairwise_cons.1 hm
  have e:a=b:=by
   rcases List.mem_cons.1 ((h a).1 (by simp)) with e|h1
   ·exact e
   rcases List.mem_cons.1 ((h b).2 (by simp)) with e|j
   ·exact e.symm
   have:=gy (d a h1) (f b j);rw [bQ] at this;cases this
  subst e
  rw [Cb g i fun x=> ?_]
  constructor
  ·intro hx
   rcases List.mem_cons.1 ((h x).1 (List.mem_cons_of_mem _ hx)) with rfl|h1
   ·have:=f x hx;rw [bQ] at this;cases this
   exact h1
  intro hx
  rcases List.mem_cons.1 ((h x).2 (List.mem_cons_of_mem _ hx)) with rfl|h1
  ·have:=d x hx;rw [bQ] at this;cases this
  exact h1
def idO (o:Ob):List UInt8:=FX (ofB (bA o))
def jv (r:Nat):Bool:=decide (r<33) || (decide (126<r) || decide (r=47))
theorem Ib (s:ByteArray) (pos:Nat) (h:128≤(s.data.toList.getD pos 0).toNat):jv (Utf8.decode s pos).1=true:=by
 rw [Lib.decode_N]
 have:128≤(Lib.decodeN (s.data.toList.length-pos) (s.data.toList.getD pos 0).toNat (s.data.toList.getD (pos+1) 0).toNat (s.data.toList.getD (pos+2) 0).toNat (s.data.toList.getD (pos+3) 0).toNat).1:=by
  rcases Lib.decodeN_cases (s.data.toList.length-pos) (s.data.toList.getD pos 0).toNat (s.data.toList.getD (pos+1) 0).toNat (s.data.toList.getD (pos+2) 0).toNat (s.data.toList.getD (pos+3) 0).toNat with ⟨h1,_⟩|⟨_,_,_,h1,a⟩|⟨_,_,_,_,h1,a⟩|⟨h1,_⟩|a
  ·omega
  ·rw [a];exact h1
  ·rw [a];show 128≤_;omega
  ·omega
  rw [a];show 128≤65533;omega
 unfold jv
 rw [show decide (126<(Lib.decodeN _ _ _ _ _).1)=true from decide_eq_true (by omega)]
 simp
theorem Ia (s:ByteArray) (pos:Nat) (h:(s.data.toList.getD pos 0).toNat<128):Utf8.decode s pos=((s.data.toList.getD pos 0).toNat,1):=by
 rw [Lib.decode_N,Lib.decodeN_ascii _ _ _ _ _ h]
theorem Ip (b:UInt8):jv b.toNat= !fO b:=by
 unfold jv fO
 by_cases h1:b.toNat<33
 ·have:¬(33≤b.toNat∧b.toNat≤126∧b.toNat≠47):=by omega
  simp only [decide_eq_true h1,decide_eq_false this];rfl
 by_cases a:126<b.toNat
 ·have:¬(33≤b.toNat∧b.toNat≤126∧b.toNat≠47):=by omega
  simp only [decide_eq_false h1,decide_eq_true a,decide_eq_false this];rfl
 by_cases d:b.toNat=47
 ·have:¬(33≤b.toNat∧b.toNat≤126∧b.toNat≠47):=by omega
  simp only [decide_eq_false h1,decide_eq_false a,decide_eq_true d,decide_eq_false this];rfl
 have:33≤b.toNat∧b.toNat≤126∧b.toNat≠47:=by omega
 simp only [decide_eq_false h1,decide_eq_false a,decide_eq_false d,decide_eq_true this];rfl
theorem xw (s:ByteArray):∀f pos,s.size-pos≤f→decide (0≤Lib.idxFuncFrom jv true s f pos)= !(s.data.toList.drop pos).all fO
 | 0,pos,h=>by
  rw [List.drop_eq_nil_of_le (by simp;omega)];rfl
 | f+1,pos,h=>by
  unfold Lib.idxFuncFrom
  by_cases b:pos<s.size
  ·have a:pos<s.data.toList.length:=by simpa using b
   rw [if_pos b,List.drop_eq_getElem_cons a,List.all_cons]
   have d:s.data.toList.getD pos 0=s.data.toList[pos]:=by rw [List.getD_eq_getElem?_getD,List.getElem?_eq_getElem a];rfl
   by_cases hb:(s.data.toList.getD pos 0).toNat<128
   ·rw [Ia s pos hb]
    dsimp only
    rw [Ip,d]
    cases e:fO s.data.toList[pos] with
    | true=>rw [if_neg (by simp)];exact xw s f (pos+1) (by omega)
    | false=>rw [if_pos (by rfl)];rw [decide_eq_true (by omega:(0:Int)≤pos)];rfl
   rw [if_pos (Ib s pos (by omega)),decide_eq_true (by omega:(0:Int)≤pos)]
   have:fO s.data.toList[pos]=false:=by
    unfold fO;rw [d] at hb;exact decide_eq_false (by omega)
   rw [this];rfl
  rw [if_neg b,List.drop_eq_nil_of_le (by simp;omega)];rfl
theorem kr (s:ByteArray):decide (0≤Lib.idxFunc jv true s)= !s.data.toList.all fO:=by
 have:=xw s s.size 0 (by omega)
 rw [List.drop_zero] at this
 exact this
abbrev Lfs:=List (ByteArray×ByteArray)
abbrev NR:=Sum Nat (Lfs×Nat)
end
section
open Go.RowKit
theorem uS (W a:World) (x:UInt8) (e:TypeId) (hb:Below (W.alloc (.cells #[.int .u8 (x.toNat:Int)] e)).heap.size (W.alloc (.cells #[.int .u8 (x.toNat:Int)] e)) a) :
  (convert 89 9 (.slice (some ⟨W.heap.size,0,none⟩) 1 1)).run prog a= .ok (.string (ofB [x])) a :=
 run_convert_bytes_back (P:=prog) a 89 9 5 ⟨W.heap.size,0,none⟩ 1 [x] underlying89 underlying5 underlying9 fun j b=>by
  obtain rfl:j=0:=by simpa using b
  rw [Addr.add_mid,Nat.zero_add,hb.cell (p:=⟨W.heap.size,0,none⟩) (by rw [World.size_alloc];exact Nat.lt_succ_self _),World.cell?_alloc_new];rfl
theorem nA {W a:World} (h:Below W.drew.heap.size W.drew a):Below W.heap.size W a:=⟨h.os,h.tape,h.output,h.size,h.block⟩
theorem fA {a b:ByteArray} (h:a=b):Ending.returned (.string a)= .returned (.string b):=by rw [h]
theorem aI {a b:Bool} (h:a=b):Ending.returned (.bool a)= .returned (.bool b):=by rw [h]
theorem IJ (n:Nat) (h:n<256):((UInt8.ofNat n).toNat:Int)=n:=by rw [UInt8.toNat_ofNat'];omega
theorem AB (x:UInt8) (l:List UInt8):ofB (x::l)=ofB [x]++ofB l:=ba_eq (by rw [jN,aS,aS,aS];rfl)
theorem dh (x l:List UInt8):ofB (x++l)=ofB x++ofB l:=ba_eq (by rw [jN,aS,aS,aS])
theorem mY (s:ByteArray):ofB s.data.toList=s:=ba_eq (aS _)
theorem lu:∀k n,n<128^(k+1)→(aM n).length≤k+1
 | 0,n,h=>by rw [dw (by simpa using h)];simp
 | k+1,n,h=>by
  by_cases h1:n<128
  ·rw [dw h1];simp
  rw [gu (by omega)]
  have:=lu k (n/128) (by rw [Nat.pow_succ] at h;omega)
  simp;omega
theorem kU (k:Nat):∀(n:Nat) (w:World),n≤k→n≤1099511627775 →
  Calls prog 98 #[.int .i64 (n:Int)] w fun e w'=>e= .returned (.string (ofB (aM n)))∧Below w.heap.size w w':=by
 induction k with
 | zero =>
  intro n w y _
  obtain rfl:n=0:=by omega
  have s:aM 0=[0]:=dw (by omega)
  have g:=ah s
  have r:=uS w (w.alloc (.cells #[.int .u8 0] 5)) 0 5 (Below.refl _ _)
  clear s
  go_enter func98,ntmps98
  go_wp2_with fail
  go_ret
  rw [g.out]
  exact ⟨rfl,bal⟩
 | succ k ih =>
  intro n w y s
  have z:(0:Int)≤n:=by omega
  have n1:decide ((n:Int)<0)=false:=decide_eq_false (by omega)
  have n2:decide ((1099511627775:Int)<n)=false:=decide_eq_false (by omega)
  by_cases h:n<128
  ·have g:=ah (dw h)
   have hx:=IJ n (by omega)
   have r:=uS w (w.alloc (.cells #[.int .u8 (n:Int)] 5)) (UInt8.ofNat n) 5 (by rw [hx];exact Below.refl _ _)
   have h1:decide ((n:Int)<128)=true:=decide_eq_true (by omega)
   have v:IntKind.u8.wrap (n:Int)=n:=by rw [wrap_u8'];omega
   clear hx
   go_enter func98,ntmps98
   go_wp2_with fail
   go_ret
   rw [g.out]
   exact ⟨rfl,bal⟩
  have g:=ah (gu (n:=n) (by omega))
  have hx:=IJ (n%128+128) (by omega)
  have d:=ah (fun W i=>uS W i (UInt8.ofNat (n%128+128)) 5)
  have h1:decide ((n:Int)<128)=false:=decide_eq_false (by omega)
  have C:(n:Int).tmod 128=(n:Int)%128:=Int.tmod_eq_emod_of_nonneg z
  have B:IntKind.i64.wrap ((n:Int)%128+128)=(n:Int)%128+128:=IntWalk.i64_in _ (by omega)
  have v:IntKind.u8.wrap ((n:Int)%128+128)=((UInt8.ofNat (n%128+128)).toNat:Int):=by rw [wrap_u8',hx];omega
  have A:IntKind.i64.wrap ((n:Int)/128)=((n/128:Nat):Int):=by rw [IntWalk.i64_in _ (by omega)];omega
  have p:=ah (fun w=>ih (n/128) w (by omega) (by omega))
  have o:(ofB [UInt8.ofNat (n%128+128)]).size≤1:=by rw [aK];exact Nat.le_refl _
  have q:(ofB (aM (n/128))).size≤6:=by rw [aK];exact lu 5 _ (by omega)
  generalize UInt8.ofNat (n%128+128)=x at d v g hx o
  have E:=ah hx
  generalize hm:n/128=m at p g A q
  have D:=ah hm
  have j:Hid (ofB (aM n)=ofB [x]++ofB (aM m)):=by unfold Hid;rw [g.out,AB]
  generalize ofB [x]=q1 at d o j
  generalize ofB (aM m)=q2 at p q j
  have t:∀W,(Op.stringOp .add q1 q2).run prog W= .ok (.string (q1++q2)) W:=fun W=>run_string_add W _ _ (by omega) (by omega)
  clear ih hx hm g
  go_enter func98,ntmps98
  go_wp2_with fail
  have hS:Below w.heap.size w w.drew:=(Below.refl _ _).drew
  have b:=((Below.refl w.heap.size w).alloc (Nat.le_refl _) (.cells #[.int .u8 (x.toNat:Int)] 5)).drew
  have u:=d.out w _ (Below.refl _ _).drew
  refine wrL 10 (Below w.heap.size w) ?_
  refine WL.tk 0 hS ?_
  refine WL.tk 1 hS ?_
  refine WL.tk 2 hS ?_
  refine WL.tk 3 hS ?_
  refine WL.tk 6 hS ?_
  refine WL.tk 7 hS ?_
  refine WL.tw 4 8 ?_ ?_
  focus
   go_wp2_with fail
   refine ⟨b,?_⟩
   refine WL.tw 5 8 ?_ ?_
   focus
    go_wp2_with fail
    refine ⟨b,?_⟩
    refine WL.on 8 ?_
    go_wp2_with fail
    refine (p.out _).mono ?_
    rintro e i ⟨rfl,a⟩
    have a:=b.trans (a.mono b.size)
    go_wp2
    refine ⟨a,?_⟩
    refine WL.on 9 ?_
    go_wp2
    refine ⟨a,?_⟩
    refine WL.la 10 ?_
    go_wp2
    go_ret
    exact ⟨fA j.out.symm,a⟩
   focus
    go_wp2_with fail
    refine (p.out _).mono ?_
    rintro e i ⟨rfl,a⟩
    have l:=d.out w i (nA a)
    have a:=b.trans (a.mono b.size)
    go_wp2
    refine ⟨a,?_⟩
    refine WL.on 5 ?_
    go_wp2
    refine ⟨a,?_⟩
    refine WL.on 9 ?_
    go_wp2
    refine ⟨a,?_⟩
    refine WL.la 10 ?_
    go_wp2
    go_ret
    exact ⟨fA j.out.symm,a⟩
  focus
   go_wp2_with fail
   refine (p.out _).mono ?_
   rintro e i ⟨rfl,a⟩
   have l:=d.out i _ (Below.refl _ _)
   have a:=hS.trans (a.mono hS.size)
   go_wp2
   refine ⟨a,?_⟩
   refine WL.on 4 ?_
   go_wp2
   have f:=a.alloc a.size (.cells #[.int .u8 (x.toNat:Int)] 5)
   refine ⟨f,?_⟩
   refine WL.on 5 ?_
   go_wp2
   refine ⟨f,?_⟩
   refine WL.on 9 ?_
   go_wp2
   refine ⟨f,?_⟩
   refine WL.la 10 ?_
   go_wp2
   go_ret
   exact ⟨fA j.out.symm,f⟩
theorem Fj (s:ByteArray) (k:Nat) (h:k<s.size):s.data.toList[k]? = some (blk s k):=by
 unfold blk
 have a:k<s.data.toList.length:=by simpa using h
 rw [List.getD_eq_getElem?_getD,List.getElem?_eq_getElem a];rfl
theorem IV (s:ByteArray) (k:Nat) (h:k<s.size):s.data.toList.take (k+1)=s.data.toList.take k++[blk s k]:=by
 have a:k<s.data.toList.length:=by simpa using h
 rw [List.take_succ_eq_append_getElem a]
 have:=Fj s k h
 rw [List.getElem?_eq_getElem a] at this
 rw [Option.some.inj this]
theorem Df (s:ByteArray) (k:Nat) (h:k<s.size) (hb:fO (blk s k)=false):aY s=false:=by
 unfold aY
 have:s.data.toList.all fO=false:=by
  rw [List.all_eq_false]
  exact ⟨blk s k,List.mem_of_getElem? (Fj s k h),by simp [hb]⟩
 rw [this];rfl
theorem Jq {x:UInt8} (h:(x.toNat:Int)<33):fO x=false:=decide_eq_false (by omega)
theorem Jr {x:UInt8} (h:126<(x.toNat:Int)):fO x=false:=decide_eq_false (by omega)
theorem Jp {x:UInt8} (h:(x.toNat:Int)=47):fO x=false:=decide_eq_false (by omega)
theorem F5 (s:ByteArray) (w:World) (u:s.size≤1000000000) :
  Calls prog 227 #[.string s] w fun e w'=>e= .returned (.bool (aY s))∧w'=w:=by
 go_enter func227,ntmps227
 go_wp2
 go_loop [3] (fun i=> ∃k:Nat,k≤s.size∧i= .int .i64 k∧Hid ((s.data.toList.take k).all fO=true)) (fun i=>(s.size-intOf i).toNat)
 case atStart=>exact ⟨0,by omega,rfl,rfl⟩
 obtain ⟨k,v,rfl,d⟩:=hrel
 by_cases g:k<s.size
 ·have t:∀w,(Instr.index 9 (.string s) (.int .i64 (k:Int))).run prog w= .ok (.int .u8 ((blk s k).toNat:Int)) w:=fun w=>by rw [bV s w k g,kH]
  have a:=ah (Df s k g)
  have p:=ah (IV s k g)
  have l:=(blk s k).toNat_lt
  generalize blk s k=x at t a p l
  have y:(0:Int)≤x.toNat:=by omega
  have x1:(x.toNat:Int)<256:=by omega
  by_cases h1:(x.toNat:Int)<33
  ·have b:=ah (a.out (Jq h1))
   have n:decide ((x.toNat:Int)<33)=true:=decide_eq_true h1
   clear h1
   go_wp2
   go_ret
   exact ⟨aI b.out.symm,rfl⟩
  have n:decide ((x.toNat:Int)<33)=false:=decide_eq_false h1
  by_cases f:(126:Int)<x.toNat
  ·have b:=ah (a.out (Jr f))
   have m:decide ((126:Int)<x.toNat)=true:=decide_eq_true f
   clear h1 f
   go_wp2
   go_ret
   exact ⟨aI b.out.symm,rfl⟩
  have m:decide ((126:Int)<x.toNat)=false:=decide_eq_false f
  by_cases j:(x.toNat:Int)=47
  ·have b:=ah (a.out (Jp j))
   have r:((x.toNat:Int)==47)=true:=by rw [beq_iff_eq];exact j
   clear h1 f j
   go_wp2
   go_ret
   exact ⟨aI b.out.symm,rfl⟩
  have r:((x.toNat:Int)==47)=false:=by rw [beq_eq_false_iff_ne];exact j
  have b:Hid (fO x=true):=ah (decide_eq_true (by omega))
  clear h1 f j
  go_wp2
  go_round
  case rel=>exact ⟨k+1,by omega,by go_num,by unfold Hid;rw [p.out,List.all_append,d.out];simp [b.out]⟩
  case measure=>simp [intOf];omega
 obtain rfl:k=s.size:=by omega
 have q:s.data.toList.all fO=true:=by
  have:=d.out
  rwa [List.take_of_length_le (by simp)] at this
 have o:=ah q
 clear d q
 by_cases h1:1≤s.size
 ·have n:decide ((1:Int)≤s.size)=true:=decide_eq_true (by omega)
  by_cases f:s.size≤32
  ·have m:decide ((s.size:Int)≤32)=true:=decide_eq_true (by omega)
   have b:Hid (aY s=true):=by unfold Hid aY;rw [o.out,decide_eq_true ⟨h1,f⟩];rfl
   clear f
   go_wp2
   go_ret
   exact ⟨aI b.out.symm,rfl⟩
  have m:decide ((s.size:Int)≤32)=false:=decide_eq_false (by omega)
  have b:Hid (aY s=false):=by unfold Hid aY;rw [o.out,decide_eq_false (fun h=>f h.2)];rfl
  clear f
  go_wp2
  go_ret
  exact ⟨aI b.out.symm,rfl⟩
 have n:decide ((1:Int)≤s.size)=false:=decide_eq_false (by omega)
 have b:Hid (aY s=false):=by unfold Hid aY;rw [o.out,decide_eq_false (fun h=>h1 h.1)];rfl
 go_wp2
 go_ret
 exact ⟨aI b.out.symm,rfl⟩
def idC (x:List UInt8):List Value:=x.map fun b=> .int .u8 (b.toNat:Int)
def bW (e:Ent):List Value:=[.string e.name,.int .i64 (e.kind:Int)]++idC e.id
def eG (w:World) (v:Value) (l:List Ent):Prop:=dF w v 34 (l.map bW)
theorem eG.open {w:World} {v:Value} {l:List Ent} (h:eG w v l):∃d a,v= .slice d l.length a∧l.length≤maxLen∧(l≠[]→ ∃b off,d=some ⟨b,off,none⟩∧b<w.heap.size∧ ∀k (g:k<l.length),w.cell? ⟨b,off+k*34,none⟩=some (.string l[k].name)∧w.cell? ⟨b,off+k*34+1,none⟩=some (.int .i64 (l[k].kind:Int))∧w.rangeAt b (off+k*34+2) (idC l[k].id)):=by
 obtain ⟨d,a,rfl,hm,h⟩:=h
 rw [List.length_map] at hm ⊢
 refine ⟨d,a,rfl,hm,fun f=> ?_⟩
 obtain ⟨b,off,e,n,i⟩:=h (by simpa using f)
 refine ⟨b,off,e,n,fun k g=> ?_⟩
 have:=i k (by simpa using g)
 rw [List.getElem_map] at this
 refine ⟨this 0 _ rfl,this 1 _ rfl,fun j u hu=> ?_⟩
 have m:=this (2+j) u (by unfold bW;rw [List.getElem?_append_right (by simp)];simpa using hu)
 rw [show off+k*34+2+j=off+k*34+(2+j) from by omega];exact m
theorem KE:∀x y:List UInt8,Op.bytesLess x y=ltB x y
 | [],[]=>rfl
 | [],_::_=>rfl
 | _::_,[]=>rfl
 | a::x,b::y=>by
  unfold Op.bytesLess ltB
  rw [KE x y]
  by_cases h1:a.toNat<b.toNat
  ·rw [if_pos h1,decide_eq_true (show a<b from UInt8.lt_iff_toNat_lt.2 h1)];rfl
  rw [if_neg h1,decide_eq_false (show ¬a<b from fun h=>h1 (UInt8.lt_iff_toNat_lt.1 h))]
  by_cases d:b.toNat<a.toNat
  ·rw [if_pos d,show (a==b)=false from beq_eq_false_iff_ne.2 (fun e=>by subst e;omega)];rfl
  rw [if_neg d,UInt8.toNat_inj.1 (show a.toNat=b.toNat by omega)];simp
theorem zu (x y:ByteArray):Op.bytesLess x.toList y.toList=ltB x.data.toList y.data.toList:=by rw [KE,ByteArray.toList_eq,ByteArray.toList_eq]
theorem KF (x y:ByteArray):(x.toList==y.toList)=decide (x.data.toList=y.data.toList):=by
 rw [ByteArray.toList_eq,ByteArray.toList_eq]
 by_cases h:x.data.toList=y.data.toList
 ·rw [decide_eq_true h,h];simp
 rw [decide_eq_false h,beq_eq_false_iff_ne];exact h
def rowOk (l:List Ent) (k:Nat):Bool:=match l[k]? with
 | some e=>bX e&&(decide (k=0) || (match l[k-1]? with
  | some d=>ltB d.name.data.toList e.name.data.toList
  | none=>false))
 | none=>false
theorem Al:∀l:List Ent,(l.all bX&&lJ l)=(List.range l.length).all (rowOk l)
 | []=>rfl
 | [a]=>by simp [lJ,rowOk]
 | a::b::l=>by
  have d:=Al (b::l)
  have e:(List.range (a::b::l).length).all (rowOk (a::b::l))=(bX a&&(ltB a.name.data.toList b.name.data.toList&&(List.range (b::l).length).all (rowOk (b::l)))):=by
   rw [List.length_cons,List.range_succ_eq_map,List.all_cons,List.all_map]
   have g:rowOk (a::b::l) 0=bX a:=by simp [rowOk]
   rw [g]
   congr 1
   rw [List.length_cons,List.range_succ_eq_map,List.all_cons,List.all_map,List.all_cons,List.all_map]
   have h1:(rowOk (a::b::l) ∘ Nat.succ) 0=(bX b&&ltB a.name.data.toList b.name.data.toList):=by simp [rowOk]
   have f:rowOk (b::l) 0=bX b:=by simp [rowOk]
   have h:(rowOk (a::b::l) ∘ Nat.succ) ∘ Nat.succ=rowOk (b::l) ∘ Nat.succ:=by
    funext k
    show rowOk (a::b::l) (k+1+1)=rowOk (b::l) (k+1)
    unfold rowOk
    simp only [List.getElem?_cons_succ,Nat.add_sub_cancel]
    simp
   rw [h1,f,h]
   cases bX b<;>simp
  rw [e,←d]
  simp only [List.all_cons,lJ]
  cases bX a<;>cases bX b<;>cases ltB a.name.data.toList b.name.data.toList<;>simp
theorem eP (l:List Ent):dH l=((List.range l.length).all (rowOk l)&&decide (l.length≤32)):=by unfold dH;rw [Al]
theorem sF (l:List Ent) (k:Nat) (h:k<l.length) (hb:rowOk l k=false):dH l=false:=by
 rw [eP]
 have:(List.range l.length).all (rowOk l)=false:=by rw [List.all_eq_false];exact ⟨k,List.mem_range.2 h,by simp [hb]⟩
 rw [this];rfl
theorem wM (l:List Ent) (k:Nat) (h:k<l.length) (hb:bX l[k]=false):rowOk l k=false:=by
 unfold rowOk;rw [List.getElem?_eq_getElem h];simp [hb]
theorem qz (l:List Ent) (h:0<l.length) (hb:bX l[0]=true):rowOk l 0=true:=by
 unfold rowOk;rw [List.getElem?_eq_getElem h];simp [hb]
theorem sN (l:List Ent) (k:Nat) (h:k<l.length) (a:0<k) (hb:bX l[k]=true):rowOk l k=ltB l[k-1].name.data.toList l[k].name.data.toList:=by
 unfold rowOk;rw [List.getElem?_eq_getElem h,List.getElem?_eq_getElem (show k-1<l.length by omega)]
 have:k≠0:=by omega
 simp [hb,this]
theorem sM (v:Value) (l:List Ent) (w:World) (P:eG w v l) (V:∀e∈l,e.name.size≤1000000∧e.kind≤2) :
  Calls prog 164 #[v] w fun e w'=>e= .returned (.bool (dH l))∧Below w.heap.size w w':=by
 obtain ⟨ao,aa,rfl,M,P⟩:=P.open
 unfold maxLen at M
 have HZ:=ah V
 have HV:=ah P
 clear P V
 by_cases O:32<l.length
 ·have o:Hid (dH l=false):=by unfold Hid;rw [eP,decide_eq_false (show ¬l.length≤32 by omega),Bool.and_false]
  have Y:decide ((32:Int)<l.length)=true:=decide_eq_true (by omega)
  go_enter func164,ntmps164
  go_wp2
  go_ret
  exact ⟨aI o.out.symm,Below.refl _ _⟩
 have Y:decide ((32:Int)<l.length)=false:=decide_eq_false (by omega)
 have S:=ah O
 clear O
 go_enter func164,ntmps164
 go_wp2
 go_loopw [3] (fun i wr=> ∃k:Nat,k≤l.length∧i= .int .i64 k∧Hid (∀j,j<k→rowOk l j=true)∧Below w.heap.size w wr) (fun i _=>(l.length-intOf i).toNat)
 case atStart=>exact ⟨0,by omega,rfl,fun j L=>absurd L (by omega),Below.refl _ _⟩
 obtain ⟨T,rfl⟩:∃T:World,T=wr:=⟨_,rfl⟩
 obtain ⟨k,hk,rfl,r,hb⟩:=hrel
 by_cases m:k<l.length
 ·obtain ⟨b,off,rfl,H,a⟩:=HV.out (by intro e;rw [e] at m;simp at m)
  have c1:=au (a k m).1 hb H
  have c2:=au (a k m).2.1 hb H
  obtain ⟨D,C⟩:=HZ.out l[k] (List.getElem_mem m)
  have q:=ah (fun w=>F5 l[k].name w (by omega))
  have A:=ah (sF l k m)
  have W:=ah (wM l k m)
  have k0:(0:Int)≤k:=by omega
  have k1:(k:Int)<l.length:=by omega
  by_cases E:aY l[k].name=true
  ·by_cases I:l[k].kind<1
   ·have B:bX l[k]=false:=by unfold bX;rw [E,decide_eq_false (by omega)];rfl
    have o:=ah (A.out (W.out B))
    rw [E] at q
    have R:decide ((l[k].kind:Int)<1)=true:=decide_eq_true (by omega)
    clear E B a D
    generalize l[k].name=x at c1 q
    generalize l[k].kind=y at c2 R C I
    go_wp2_with fail
    refine (q.out _).mono ?_
    rintro e w' ⟨rfl,rfl⟩
    go_wp2
    go_ret
    exact ⟨aI o.out.symm,hb⟩
   have B:bX l[k]=true:=by unfold bX;rw [E,decide_eq_true (by omega)];rfl
   have R:decide ((l[k].kind:Int)<1)=false:=decide_eq_false (by omega)
   have X:decide ((2:Int)<l[k].kind)=false:=decide_eq_false (by omega)
   rw [E] at q
   rcases Nat.eq_zero_or_pos k with u|u
   ·have Z:decide ((0:Int)<k)=false:=decide_eq_false (by omega)
    have j6:decide (0<k)=false:=decide_eq_false (by omega)
    have o:Hid (rowOk l k=true):=by
     subst u
     exact ah (qz l m B)
    have HK:=ah u
    have F:=ah r
    clear E B a D r u
    generalize l[k].name=x at c1 q
    generalize l[k].kind=y at c2 R X C I
    go_wp2_with fail
    refine (q.out _).mono ?_
    rintro e w' ⟨rfl,rfl⟩
    go_wp2
    refine wbq ?_
    repeat (go_big_quiet_step (fail))
    refine wpQuiet_nil ?_
    intro U d
    have G:=ah (hb.trans (d.mono hb.size))
    clear hb d c1 c2
    go_wp2
    go_roundw
    case rel=>exact ⟨k+1,by omega,by go_num,fun j L=>by
     rcases Nat.lt_or_ge j k with h|h
     ·exact F.out j h
     obtain rfl:j=k:=by omega
     exact o.out,G.out⟩
    case measure=>simp [intOf];omega
   have Q:=ah (sN l k m u B)
   have J:=au (a (k-1) (by omega)).1 hb H
   have ab:b<T.heap.size:=by have:=hb.size;omega
   have j1:IntKind.i64.wrap ((k:Int)-1)=(k:Int)-1:=IntWalk.i64_in _ (by omega)
   have j2:((k:Int)-1).toNat=k-1:=by omega
   have j3:(0:Int)≤(k:Int)-1:=by omega
   have j4:(k:Int)-1<l.length:=by omega
   have Z:decide ((0:Int)<k)=true:=decide_eq_true (by omega)
   have j6:decide (0<k)=true:=decide_eq_true (by omega)
   have j7:(1:Int)≤k:=by omega
   have F:=ah r
   clear E B a D r
   have f:=zu l[k].name l[k-1].name
   have n:=KF l[k].name l[k-1].name
   generalize l[k].name=x at c1 q f n Q
   generalize l[k].kind=y at c2 R X C I
   generalize l[k-1].name=z at J f n Q
   cases g:ltB z.data.toList x.data.toList with
   | true =>
    have o:Hid (rowOk l k=true):=by unfold Hid;rw [Q.out,g]
    rw [GH g] at f
    rw [decide_eq_false (fun e=>by rw [e,bQ] at g;cases g)] at n
    clear g
    go_wp2_with fail
    refine (q.out _).mono ?_
    rintro e w' ⟨rfl,rfl⟩
    go_wp2
    refine wbq ?_
    have t:=blq c1
    have s:=blq J
    repeat (go_big_quiet_step (fail))
    refine wpQuiet_nil ?_
    intro U d
    clear t s
    have G:=ah (hb.trans (d.mono hb.size))
    clear hb d c1 c2 J
    go_wp2
    go_roundw
    case rel=>exact ⟨k+1,by omega,by go_num,fun j L=>by
     rcases Nat.lt_or_ge j k with h|h
     ·exact F.out j h
     obtain rfl:j=k:=by omega
     exact o.out,G.out⟩
    case measure=>simp [intOf];omega
   | false =>
    have o:Hid (dH l=false):=ah (A.out (by rw [Q.out,g]))
    by_cases p:x.data.toList=z.data.toList
    ·rw [decide_eq_true p] at n
     have N:Op.bytesLess x.toList z.toList=false:=by rw [f,p,bQ]
     clear g p f
     go_wp2_with fail
     refine (q.out _).mono ?_
     rintro e w' ⟨rfl,rfl⟩
     go_wp2
     refine wbq ?_
     have t:=blq c1
     have s:=blq J
     repeat (go_big_quiet_step (fail))
     refine wpQuiet_nil ?_
     intro U d
     clear t s
     have G:=ah (hb.trans (d.mono hb.size))
     clear hb d c1 c2 J
     go_wp2
     go_ret
     exact ⟨aI o.out.symm,G.out⟩
    rw [decide_eq_false p] at n
    have N:Op.bytesLess x.toList z.toList=true:=by
     rw [f]
     cases e:ltB x.data.toList z.data.toList with
     | true=>rfl
     | false=>exact absurd (iC e g) p
    clear g p f
    go_wp2_with fail
    refine (q.out _).mono ?_
    rintro e w' ⟨rfl,rfl⟩
    go_wp2
    refine wbq ?_
    have t:=blq c1
    have s:=blq J
    repeat (go_big_quiet_step (fail))
    refine wpQuiet_nil ?_
    intro U d
    clear t s
    have G:=ah (hb.trans (d.mono hb.size))
    clear hb d c1 c2 J
    go_wp2
    go_ret
    exact ⟨aI o.out.symm,G.out⟩
  have K:aY l[k].name=false:=by simpa using E
  have B:bX l[k]=false:=by unfold bX;rw [K];rfl
  have o:=ah (A.out (W.out B))
  rw [K] at q
  clear E K B a D C c2
  generalize l[k].name=x at c1 q
  go_wp2_with fail
  refine (q.out _).mono ?_
  rintro e w' ⟨rfl,rfl⟩
  go_wp2
  go_ret
  exact ⟨aI o.out.symm,hb⟩
 obtain rfl:k=l.length:=by omega
 have o:Hid (dH l=true):=by
  unfold Hid
  rw [eP,decide_eq_true (show l.length≤32 by have:=S.out;omega),Bool.and_true,List.all_eq_true]
  exact fun j L=>r.out j (List.mem_range.1 L)
 clear r
 go_wp2
 go_ret
 exact ⟨aI o.out.symm,hb⟩
theorem fC {n:Nat} (h:n≤1099511627775):(aM n).length≤6:=lu 5 n (by omega)
theorem aA (x:List UInt8):(idC x).length=x.length:=by simp [idC]
theorem bC (x:List UInt8):∀v∈idC x,v.oneCell'=true:=yX x
theorem mO (s:ByteArray) (w:World) (f:s.size≤1000000000) :
  Calls prog 48 #[.string s] w fun e w'=>e= .returned (.string (ofB (aM s.size++s.data.toList)))∧Below w.heap.size w w':=by
 have a:=ah (kU s.size s.size w (Nat.le_refl _) (by omega))
 have d:(ofB (aM s.size)).size≤6:=by rw [aK];exact fC (by omega)
 have b:Hid (ofB (aM s.size++s.data.toList)=ofB (aM s.size)++s):=by unfold Hid;rw [dh,mY]
 generalize ofB (aM s.size)=q at a d b
 go_enter func48,ntmps48
 go_wp2_with fail
 refine a.out.mono ?_
 rintro e w1 ⟨rfl,hb⟩
 go_wp2
 go_ret
 exact ⟨fA b.out.symm,hb⟩
theorem Ku (w a:World) (x:List UInt8) (t:TypeId) (hb:Below (w.heap.size+1) (w.alloc (.cells (idC x).toArray t)) a) (c:Nat) :
  (convert 89 9 (.slice (some ⟨w.heap.size,0,none⟩) x.length c)).run prog a= .ok (.string (ofB x)) a :=
 run_convert_bytes_back (P:=prog) a 89 9 5 ⟨w.heap.size,0,none⟩ c x underlying89 underlying5 underlying9 fun j b=>by
  rw [Addr.add_mid,Nat.zero_add,hb.cell (p:=⟨w.heap.size,j,none⟩) (Nat.lt_succ_self _),World.cell?_alloc_new]
  simp [idC,b]
theorem sQ (x:List UInt8) (w:World) (hx:x.length=32) :
  Calls prog 228 #[.agg (idC x).toArray] w fun e w'=>e= .returned (.string (ofB x))∧Below w.heap.size w w':=by
 have a:=Ku w (w.alloc (.cells (idC x).toArray 143)) x 143 (Below.refl _ _) 32
 rw [hx] at a
 have b:=ah hx
 clear hx
 generalize idC x=us at a
 go_enter func228,ntmps228
 go_wp2
 go_ret
 exact ⟨rfl,bal⟩
def obC (o:Ob):List Value:=[.int .i64 o.kind,.string o.body]
theorem CP (k:Int) (s:ByteArray) (w:World) (l:s.size≤1000000) :
  Calls prog 20 #[.agg #[.int .i64 k,.string s]] w fun e w'=>e= .returned (.string (ofB (bA ⟨k,s⟩)))∧Below w.heap.size w w':=by
 have f:=ah (fun w=>mO s w (by omega))
 have i:(ofB (aM s.size++s.data.toList)).size≤1000006:=by
  rw [aK,List.length_append]
  have h1:=fC (n:=s.size) (by omega)
  have a:s.data.toList.length=s.size:=by simp
  omega
 have g:Hid (ofB (bA ⟨k,s⟩)=ofB [dB k]++ofB (aM s.size++s.data.toList)):=by unfold Hid bA;rw [AB]
 generalize ofB (aM s.size++s.data.toList)=q at f i g
 by_cases a:k=2
 ·have j:(k==2)=true:=by rw [beq_iff_eq];exact a
  have h:(k==3)=false:=by rw [beq_eq_false_iff_ne];omega
  have d:Hid (ofB [dB k]=⟨#[116]⟩):=by unfold Hid dB;rw [if_pos a];rfl
  clear a
  go_enter func20,ntmps20
  go_wp2_with fail
  refine (f.out _).mono ?_
  rintro e w1 ⟨rfl,hb⟩
  go_wp2
  go_ret
  exact ⟨fA (by rw [g.out,d.out]),bal.trans (hb.mono (by simp))⟩
 have j:(k==2)=false:=by rw [beq_eq_false_iff_ne];exact a
 by_cases b:k=3
 ·have h:(k==3)=true:=by rw [beq_iff_eq];exact b
  have d:Hid (ofB [dB k]=⟨#[99]⟩):=by unfold Hid dB;rw [if_neg a,if_pos b];rfl
  clear a b
  go_enter func20,ntmps20
  go_wp2_with fail
  refine (f.out _).mono ?_
  rintro e w1 ⟨rfl,hb⟩
  go_wp2
  go_ret
  exact ⟨fA (by rw [g.out,d.out]),bal.trans (hb.mono (by simp))⟩
 have h:(k==3)=false:=by rw [beq_eq_false_iff_ne];exact b
 have d:Hid (ofB [dB k]=⟨#[98]⟩):=by unfold Hid dB;rw [if_neg a,if_neg b];rfl
 clear a b
 go_enter func20,ntmps20
 go_wp2_with fail
 refine (f.out _).mono ?_
 rintro e w1 ⟨rfl,hb⟩
 go_wp2
 go_ret
 exact ⟨fA (by rw [g.out,d.out]),bal.trans (hb.mono (by simp))⟩
theorem rQ (o:Ob):(idO o).length=32:=by simp [idO,FX]
theorem fI {P:Program} {ops:Array Oper} {Q:Act→Prop} {rest:List Oper} {a:Act} {o:Oper} {w:World} {b off:Nat} {cs:List Value} (ty:TypeId) (d:TypeDesc) (x:Operand) (g:o.op= .load ty x)
  (f:Region.wanted o (yielded ops a.tmps)=true) (hx:a.eval x= .pointer (some ⟨b,off,none⟩)) (e:w.rangeAt b off cs) (hb:b<w.heap.size) (hu:P.underlying ty=some d) (hd:d.isRow=true)
  (hi:(P.info? ty).map (·.size)=some cs.length) (h:wpQuiet P ops (fun w'=> ∃x:BW w.heap.size w,w'=x.out) Q rest (a.put o.dst (.agg cs.toArray))):wpQuiet P ops (fun w'=> ∃x:BW w.heap.size w,w'=x.out) Q (o::rest) a:=by
 unfold wpQuiet
 rw [if_pos f]
 refine ⟨_,fun w' hw'=> ?_,h⟩
 obtain ⟨y,rfl⟩:=hw'
 unfold Oper.quietAt
 rw [vO ty d e hb hu hd hi y.hb x g hx]
 exact ⟨rfl,rfl⟩
def dY (w:World) (v:Value) (l:List (List UInt8)):Prop:=dF w v 32 (l.map idC)
theorem dY.open {w:World} {v:Value} {l:List (List UInt8)} (h:dY w v l):∃d a,v= .slice d l.length a∧l.length≤maxLen∧(l≠[]→ ∃b off,d=some ⟨b,off,none⟩∧b<w.heap.size∧ ∀k (g:k<l.length),w.rangeAt b (off+k*32) (idC l[k])):=by
 obtain ⟨d,a,rfl,hm,h⟩:=h
 rw [List.length_map] at hm ⊢
 refine ⟨d,a,rfl,hm,fun f=> ?_⟩
 obtain ⟨b,off,e,j,i⟩:=h (by simpa using f)
 refine ⟨b,off,e,j,fun k g=> ?_⟩
 have:=i k (by simpa using g)
 rw [List.getElem_map] at this
 exact this
theorem jm {us:List Value} (h:us.length=32):(prog.info? 143).map (·.size)=some us.length:=by rw [h];kernel_rfl
theorem Cu (l:List Ent) (k:Nat) (h:k<l.length):kQ (l.take (k+1))=kQ (l.take k)++l[k].bytes:=by
 unfold kQ;rw [List.take_succ_eq_append_getElem h,List.map_append,List.flatten_append];simp [-List.map_take]
theorem K4 (o:ByteArray) (L:List UInt8) (h:o=ofB L) (e:Ent):o++ofB (aM e.kind)++ofB (aM e.name.size++e.name.data.toList)++ofB e.id=ofB (L++e.bytes):=by
 subst h
 rw [←dh,←dh,←dh]
 unfold Ent.bytes;simp only [List.append_assoc]
theorem vI (v:Value) (l:List Ent) (w:World) (r:eG w v l) (J:∀e∈l,e.name.size≤1000∧e.kind≤2∧e.id.length=32) (V:l.length≤1000) :
  Calls prog 165 #[v] w fun e w'=>e= .returned (.string (ofB (kQ l)))∧Below w.heap.size w w':=by
 obtain ⟨W,N,rfl,K,r⟩:=r.open
 have M:=ah J
 have R:=ah r
 clear r J
 go_enter func165,ntmps165
 go_wp2
 go_loopw [3,4] (fun s i wr=> ∃(k:Nat) (o:ByteArray),k≤l.length∧i= .int .i64 k∧s= .string o∧o.size≤k*1100∧Hid (o=ofB (kQ (l.take k)))∧Below w.heap.size w wr) (fun _ i _=>(l.length-intOf i).toNat)
 case atStart=>exact ⟨0,_,by omega,rfl,rfl,by simp;rfl,rfl,Below.refl _ _⟩
 obtain ⟨B,rfl⟩:∃B:World,B=wr:=⟨_,rfl⟩
 obtain ⟨k,o,S,rfl,rfl,O,f,hb⟩:=hrel
 by_cases d:k<l.length
 ·obtain ⟨b,off,rfl,j,a⟩:=R.out (by intro e;rw [e] at d;simp at d)
  have c1:=au (a k d).1 hb j
  have c2:=au (a k d).2.1 hb j
  have c3:=ay (a k d).2.2 hb j
  have Q:b<B.heap.size:=by have:=hb.size;omega
  obtain ⟨F,D,h⟩:=M.out l[k] (List.getElem_mem d)
  have z:=ah (fun w=>kU l[k].kind l[k].kind w (Nat.le_refl _) (by omega))
  have t:=ah (fun w=>mO l[k].name w (by omega))
  have u:=ah (fun w=>sQ l[k].id w h)
  have E:(ofB (aM l[k].kind)).size≤6:=by rw [aK];exact fC (by omega)
  have I:(ofB (aM l[k].name.size++l[k].name.data.toList)).size≤1006:=by
   rw [aK,List.length_append]
   have h1:=fC (n:=l[k].name.size) (by omega)
   have U:l[k].name.data.toList.length=l[k].name.size:=by simp
   omega
  have G:(ofB l[k].id).size≤32:=by rw [aK];omega
  have q:=ah (K4 o _ f.out l[k])
  have H:=ah (Cu l k d)
  have g:(idC l[k].id).length=32:=by rw [aA,h]
  have p:=jm g
  clear a f g F D h
  generalize idC l[k].id=us at c3 u p
  generalize ofB (aM l[k].name.size++l[k].name.data.toList)=q2 at t I q
  generalize ofB (aM l[k].kind)=q1 at z E q
  generalize ofB l[k].id=Y at u G q
  generalize l[k].name=x at c1 t
  generalize l[k].kind=y at c2 z
  have X:(0:Int)≤k:=by omega
  have k1:(k:Int)<l.length:=by omega
  go_wp2
  refine wbq ?_
  have C:=blq c1
  have A:=blq c2
  repeat (go_big_quiet_step ((first|(go_at_call 98;with_reducible exact aF (z.out _))|(go_at_call 48;with_reducible exact aF (t.out _))|(go_at_call 228;with_reducible exact aF (u.out _)))))
  refine fI 143 _ _ rfl rfl rfl c3 (by omega) underlying143 rfl p ?_
  simp only [Act.put,nz]
  repeat (go_big_quiet_step ((first|(go_at_call 98;with_reducible exact aF (z.out _))|(go_at_call 48;with_reducible exact aF (t.out _))|(go_at_call 228;with_reducible exact aF (u.out _)))))
  refine wpQuiet_nil ?_
  intro T m
  clear C A
  have P:=ah (hb.trans (m.mono hb.size))
  clear hb m c1 c2 c3
  go_wp2
  go_roundw
  case rel=>exact ⟨k+1,_,by omega,by go_num,rfl,by simp only [ByteArray.size_append];omega,by unfold Hid;rw [H.out,←q.out],P.out⟩
  case measure=>simp [intOf];omega
 obtain rfl:k=l.length:=by omega
 have L:=ah f.out
 rw [List.take_length] at L
 clear f
 go_wp2
 go_ret
 exact ⟨fA L.out,hb⟩
def cmC (t:List UInt8) (v:Value) (x:ByteArray):List Value:=idC t++[v,.string x]
theorem gP (t:List UInt8) (v:Value) (x:ByteArray) (h:t.length=32):(cmC t v x).length=34:=by simp [cmC,aA,h]
theorem BP (w:World) (t:List UInt8) (v:Value) (x:ByteArray) (ty:TypeId) (h:t.length=32) :
  (w.alloc (.cells (cmC t v x).toArray ty)).rangeAt w.heap.size 0 (idC t)∧(w.alloc (.cells (cmC t v x).toArray ty)).cell? ⟨w.heap.size,32,none⟩=some v∧(w.alloc (.cells (cmC t v x).toArray ty)).cell? ⟨w.heap.size,33,none⟩=some (.string x):=by
 have a:(idC t).length=32:=by rw [aA,h]
 refine ⟨fun j u hu=> ?_,?_,?_⟩
 ·rw [World.cell?_alloc_new,Nat.zero_add]
  have b:=(List.getElem?_eq_some_iff.1 hu).1
  simp only [cmC,List.getElem?_toArray]
  rw [List.getElem?_append_left b];exact hu
 ·rw [World.cell?_alloc_new]
  simp only [cmC,List.getElem?_toArray]
  rw [List.getElem?_append_right (by omega),a];rfl
 rw [World.cell?_alloc_new]
 simp only [cmC,List.getElem?_toArray]
 rw [List.getElem?_append_right (by omega),a];rfl
theorem Ho (l:List (List UInt8)) (k:Nat) (h:k<l.length):(l.take (k+1)).flatten=(l.take k).flatten++l[k]:=by
 rw [List.take_succ_eq_append_getElem h,List.flatten_append];simp
theorem rz (t:List UInt8) (v:Value) (l:List (List UInt8)) (x:ByteArray) (w:World) (H:dY w v l) (J:t.length=32) (hl:∀y∈l,y.length=32) (hn:l.length≤1000) (hx:x.size≤1000) :
  Calls prog 167 #[.agg (cmC t v x).toArray] w fun e w'=>e= .returned (.string (ofB (l6 (t,l,x))))∧Below w.heap.size w w':=by
 obtain ⟨L,r,rfl,aa,H⟩:=H.open
 obtain ⟨D,c1,c2⟩:=BP w t (.slice L l.length r) x 145 J
 have E:Below w.heap.size w (w.alloc (.cells (cmC t (.slice L l.length r) x).toArray 145)):=bal
 have p:=ah E
 have a:w.heap.size<(w.alloc (.cells (cmC t (.slice L l.length r) x).toArray 145)).heap.size:=by simp
 have HZ:=ah hl
 have HV:=ah H
 have d:(idC t).length=32:=by rw [aA,J]
 have G:=jm d
 have K:=ah (fun w=>sQ t w J)
 have U:=ah (fun w=>kU l.length l.length w (Nat.le_refl _) (by omega))
 have HT:=ah (fun w=>mO x w (by omega))
 have Q:(ofB t).size≤32:=by rw [aK];omega
 have V:(ofB (aM l.length)).size≤6:=by rw [aK];exact fC (by omega)
 have R:(ofB (aM x.size++x.data.toList)).size≤1006:=by
  rw [aK,List.length_append]
  have h1:=fC (n:=x.size) (by omega)
  have h2:x.data.toList.length=x.size:=by simp
  omega
 have X:Hid (∀o:ByteArray,o=ofB (t++(aM l.length++l.flatten))→o++ofB (aM x.size++x.data.toList)=ofB (l6 (t,l,x))):=ah (fun o h=>by
  subst h;rw [←dh];unfold l6;simp only [List.append_assoc])
 have C:Hid (ofB t++ofB (aM l.length)=ofB (t++(aM l.length++(l.take 0).flatten))):=ah (by rw [←dh];simp)
 clear H hl J d E
 generalize ofB (aM x.size++x.data.toList)=q3 at HT R X
 generalize F:idC t=us at D K G
 have ac:=ah F
 clear F
 generalize cmC t (.slice L l.length r) x=cs at D c1 c2 p a
 go_enter func167,ntmps167
 go_wp2
 obtain ⟨W,hW⟩:∃W,W=w.alloc (.cells cs.toArray 145):=⟨_,rfl⟩
 rw [←hW] at D c1 c2 p a ⊢
 clear hW
 generalize ofB (aM l.length)=q2 at U V C
 generalize ofB t=q1 at K Q C
 refine wbq ?_
 have N:=blq c1
 repeat (go_big_quiet_step ((first|(go_at_call 228;with_reducible exact aF (K.out _))|(go_at_call 98;with_reducible exact aF (U.out _)))))
 refine fI 143 _ _ rfl rfl rfl D (by omega) underlying143 rfl G ?_
 simp only [Act.put,nz]
 repeat (go_big_quiet_step ((first|(go_at_call 228;with_reducible exact aF (K.out _))|(go_at_call 98;with_reducible exact aF (U.out _)))))
 refine wpQuiet_nil ?_
 intro P f
 clear N
 have I:=bth p f
 have Y:=au c1 f a
 have d2:=au c2 f a
 have A:w.heap.size<P.heap.size:=by have:=f.size;omega
 clear D c1 c2 f p a
 go_wp2
 go_loopw [3,4] (fun s i wr=> ∃(k:Nat) (o:ByteArray),k≤l.length∧i= .int .i64 k∧s= .string o∧o.size≤40+k*32∧Hid (o=ofB (t++(aM l.length++(l.take k).flatten)))∧Below P.heap.size P wr) (fun _ i _=>(l.length-intOf i).toNat)
 case atStart=>exact ⟨0,_,by omega,rfl,rfl,by simp only [ByteArray.size_append];omega,C.out,Below.refl _ _⟩
 obtain ⟨Z,rfl⟩:∃Z:World,Z=wr:=⟨_,rfl⟩
 obtain ⟨k,o,hk,rfl,rfl,ab,m,hb⟩:=hrel
 have e1:=au Y hb A
 have e2:=au d2 hb A
 by_cases j:k<l.length
 ·obtain ⟨b,off,rfl,T,g⟩:=HV.out (by intro e;rw [e] at j;simp at j)
  have c3:=ay (g k j) (I.out.trans (hb.mono I.out.size)) T
  have M:=HZ.out l[k] (List.getElem_mem j)
  have d:(idC l[k]).length=32:=by rw [aA,M]
  have z:=jm d
  have B:=ah (fun w=>sQ l[k] w M)
  have hq:(ofB l[k]).size≤32:=by rw [aK];omega
  have HS:Hid (o++ofB l[k]=ofB (t++(aM l.length++(l.take (k+1)).flatten))):=ah (by
   rw [Ho l k j,m.out,←dh];simp only [List.append_assoc])
  clear g m d M
  generalize idC l[k]=uk at c3 B z
  generalize ofB l[k]=q at B hq HS
  have k0:(0:Int)≤k:=by omega
  have k1:(k:Int)<l.length:=by omega
  go_wp2_with (refine wpList_load_mid rfl 143 _ rfl b (off+k*32) rfl uk _ c3 underlying143 rfl z ?_)
  refine (B.out _).mono ?_
  rintro e w1 ⟨rfl,u⟩
  have O:=ah (hb.trans (u.mono hb.size))
  clear hb u e1 e2 Y d2 c3
  go_wp2
  go_roundw
  case rel=>exact ⟨k+1,_,by omega,by go_num,rfl,by simp only [ByteArray.size_append];omega,HS.out,O.out⟩
  case measure=>simp [intOf];omega
 obtain rfl:k=l.length:=by omega
 have HE:=ah m.out
 rw [List.take_length] at HE
 clear m
 go_wp2_with fail
 refine (HT.out _).mono ?_
 rintro e w1 ⟨rfl,u⟩
 go_wp2
 go_ret
 have S:=hb.trans (u.mono hb.size)
 exact ⟨fA (X.out _ HE.out),I.out.trans (S.mono I.out.size)⟩
theorem Na (w:World):(sizeOf 5).run prog w= .ok 1 w:=by kernel_rfl
theorem yV (x y:List UInt8) (hx:x.length=32) (hy:y.length=32) (w:World):(Op.equalIn 10000 143 (.agg (idC x).toArray) (.agg (idC y).toArray)).run prog w= .ok (x==y) w :=
 run_equalIn_bytes w 9998 143 5 32 underlying143 underlying5 Na x y hx hy
theorem lG {x y:List UInt8} (hx:x.length=32) (h:x=y) (w:World):(Op.equalIn 10000 143 (.agg (idC x).toArray) (.agg (idC y).toArray)).run prog w= .ok true w:=by
 subst h;rw [yV x x hx hx w,beq_self_eq_true]
theorem ng {x y:List UInt8} (hx:x.length=32) (hy:y.length=32) (h:x≠y) (w:World):(Op.equalIn 10000 143 (.agg (idC x).toArray) (.agg (idC y).toArray)).run prog w= .ok false w:=by
 rw [yV x y hx hy w,beq_eq_false_iff_ne.2 h]
theorem sH {α:Type} {l:List α} {k:Nat} (i:k<l.length) (h:(l.take k).Nodup) (m:∀j (g:j<k),l[j]≠l[k]):(l.take (k+1)).Nodup:=by
 rw [List.take_succ_eq_append_getElem i,List.nodup_append]
 refine ⟨h,by simp,fun a n b hb e=> ?_⟩
 obtain ⟨j,g,f⟩:=List.getElem_of_mem n
 have d:j<k:=by simp at g;omega
 rw [List.getElem_take] at f
 rw [List.mem_singleton.1 hb] at e
 exact m j d (f.trans e)
theorem wZ {α:Type} {l:List α} {j k:Nat} (d:j<k) (b:k<l.length) (h:l[j]=l[k]):¬l.Nodup:=fun a=>by
 have:=(List.getElem_inj a).1 h
 omega
theorem pQ (t:List UInt8) (v:Value) (l:List (List UInt8)) (x:ByteArray) (w:World) (Q:dY w v l) (ht:t.length=32) (hl:∀y∈l,y.length=32) (hn:l.length≤1000) :
  Calls prog 166 #[.agg (cmC t v x).toArray] w fun e w'=>e= .returned (.bool (bB (t,l,x)))∧Below w.heap.size w w':=by
 obtain ⟨R,B,rfl,ac,Q⟩:=Q.open
 obtain ⟨_,c1,c2⟩:=BP w t (.slice R l.length B) x 145 ht
 have M:Below w.heap.size w (w.alloc (.cells (cmC t (.slice R l.length B) x).toArray 145)):=bal
 have a:=ah M
 have p:w.heap.size<(w.alloc (.cells (cmC t (.slice R l.length B) x).toArray 145)).heap.size:=by simp
 have HZ:=ah hl
 have HV:=ah Q
 have S:Hid (bB (t,l,x)=(decide l.Nodup&&decide (l.length≤4∧x.size≤64))):=ah rfl
 clear Q hl M
 generalize cmC t (.slice R l.length B) x=cs at c1 c2 a p
 by_cases h4:4<l.length
 ·have G:Hid (bB (t,l,x)=false):=by unfold Hid;rw [S.out,decide_eq_false (show ¬(l.length≤4∧x.size≤64) by omega),Bool.and_false]
  have d1:decide ((4:Int)<l.length)=true:=decide_eq_true (by omega)
  go_enter func166,ntmps166
  go_wp2
  go_ret
  exact ⟨aI G.out.symm,a.out⟩
 have d1:decide ((4:Int)<l.length)=false:=decide_eq_false (by omega)
 by_cases V:64<x.size
 ·have G:Hid (bB (t,l,x)=false):=by unfold Hid;rw [S.out,decide_eq_false (show ¬(l.length≤4∧x.size≤64) by omega),Bool.and_false]
  have d2:decide ((64:Int)<x.size)=true:=decide_eq_true (by omega)
  go_enter func166,ntmps166
  go_wp2
  go_ret
  exact ⟨aI G.out.symm,a.out⟩
 have d2:decide ((64:Int)<x.size)=false:=decide_eq_false (by omega)
 have N:Hid (bB (t,l,x)=decide l.Nodup):=by unfold Hid;rw [S.out,decide_eq_true (show l.length≤4∧x.size≤64 by omega),Bool.and_true]
 clear h4 V
 go_enter func166,ntmps166
 go_wp2
 obtain ⟨W,hW⟩:∃W,W=w.alloc (.cells cs.toArray 145):=⟨_,rfl⟩
 rw [←hW] at c1 c2 a p ⊢
 clear hW
 go_loopw [3,4] (fun i j wr=> ∃k:Nat,k≤l.length∧i= .int .i64 k∧Hid ((l.take k).Nodup)∧Below W.heap.size W wr) (fun i _ _=>(l.length-intOf i).toNat)
 case atStart=>exact ⟨0,by omega,rfl,List.nodup_nil,Below.refl _ _⟩
 obtain ⟨I,rfl⟩:∃I:World,I=wr:=⟨_,rfl⟩
 obtain ⟨k,hk,rfl,z,hb⟩:=hrel
 have e1:=au c1 hb p
 by_cases o:k<l.length
 ·obtain ⟨b,off,rfl,O,f⟩:=HV.out (by intro e;rw [e] at o;simp at o)
  have c3:=ay (f k o) (a.out.trans (hb.mono a.out.size)) O
  have q:=HZ.out l[k] (List.getElem_mem o)
  have Z:=ah (fun j (D:j<l.length) w' (Y:Below w.heap.size w w')=>ay (f j D) Y O)
  have aa:b<I.heap.size:=by have:=a.out.size;have:=hb.size;omega
  have P:w.heap.size<I.heap.size:=by have:=hb.size;omega
  have s:=ah hb
  have T:=ah z.out
  clear f z hb
  go_wp2
  go_loopw [4] (fun j wr=> ∃m:Nat,m≤k∧j= .int .i64 m∧Hid (∀j (D:j<m) (hm:m≤k),l[j]≠l[k])∧Below I.heap.size I wr) (fun j _=>(k-intOf j).toNat)
  case atStart=>exact ⟨0,by omega,rfl,fun j D _=>absurd D (by omega),Below.refl _ _⟩
  obtain ⟨wi,rfl⟩:∃wi:World,wi=wr:=⟨_,rfl⟩
  obtain ⟨m,hm,rfl,u,d⟩:=hrel
  by_cases U:m<k
  ·have f1:=au e1 d P
   have J:=ay c3 d aa
   have ad:w.heap.size<wi.heap.size:=by have:=d.size;omega
   have ae:b<wi.heap.size:=by have:=d.size;omega
   have L:Below w.heap.size w wi:=(a.out.trans (s.out.mono a.out.size)).trans (d.mono (by have:=a.out.size;have:=s.out.size;omega))
   have K:=Z.out m (by omega) wi L
   have C:=HZ.out l[m] (List.getElem_mem (show m<l.length by omega))
   have g:=jm (us:=idC l[k]) (by rw [aA,q])
   have n:=jm (us:=idC l[m]) (by rw [aA,C])
   have k0:(0:Int)≤k:=by omega
   have k1:(k:Int)<l.length:=by omega
   have m0:(0:Int)≤m:=by omega
   have m1:(m:Int)<l.length:=by omega
   have m2:decide ((m:Int)<k)=true:=decide_eq_true (by omega)
   have X:=ah u.out
   clear u L
   by_cases H:l[k]=l[m]
   ·have r:=fun w=>lG q H w
    have G:Hid (bB (t,l,x)=false):=by unfold Hid;rw [N.out];exact decide_eq_false (wZ U o H.symm)
    clear H q C
    generalize idC l[k]=uk at J g r
    generalize idC l[m]=um at K n r
    go_wp2
    refine wbq ?_
    have E:=blq f1
    repeat (go_big_quiet_step (fail))
    refine fI 143 _ _ rfl rfl rfl J (by omega) underlying143 rfl g ?_
    simp only [Act.put,nz]
    repeat (go_big_quiet_step (fail))
    refine fI 143 _ _ rfl rfl rfl K (by omega) underlying143 rfl n ?_
    simp only [Act.put,nz]
    repeat (go_big_quiet_step (fail))
    refine wpQuiet_nil ?_
    intro wq A
    clear E
    go_wp2
    go_ret
    exact ⟨aI G.out.symm,(a.out.trans (s.out.mono a.out.size)).trans ((d.trans (A.mono d.size)).mono (by have:=a.out.size;have:=s.out.size;omega))⟩
   have r:=fun w=>ng q C H w
   have HE:=ah H
   clear H q C
   generalize idC l[k]=uk at J g r
   generalize idC l[m]=um at K n r
   go_wp2
   refine wbq ?_
   have E:=blq f1
   repeat (go_big_quiet_step (fail))
   refine fI 143 _ _ rfl rfl rfl J (by omega) underlying143 rfl g ?_
   simp only [Act.put,nz]
   repeat (go_big_quiet_step (fail))
   refine fI 143 _ _ rfl rfl rfl K (by omega) underlying143 rfl n ?_
   simp only [Act.put,nz]
   repeat (go_big_quiet_step (fail))
   refine wpQuiet_nil ?_
   intro wq A
   clear E
   have F:=ah (d.trans (A.mono d.size))
   clear d A f1 J K
   go_wp2
   go_roundw
   case rel=>exact ⟨m+1,by omega,by go_num,fun j D af=>by
    rcases Nat.lt_or_ge j m with h|h
    ·exact X.out j h hm
    obtain rfl:j=m:=by omega
    exact fun e=>HE.out e.symm,F.out⟩
   case measure=>simp [intOf];omega
  obtain rfl:m=k:=by omega
  have m2:decide ((m:Int)<m)=false:=decide_eq_false (by omega)
  have ab:=ah (sH o T.out (fun j D=>u.out j D (Nat.le_refl _)))
  have F:=bth s d
  clear u d
  go_wp2
  go_roundw
  case rel=>exact ⟨m+1,by omega,by go_num,ab.out,F.out⟩
  case measure=>simp [intOf];omega
 obtain rfl:k=l.length:=by omega
 have G:Hid (bB (t,l,x)=true):=by
  unfold Hid;rw [N.out]
  have:=z.out
  rw [List.take_length] at this
  exact decide_eq_true this
 clear z
 go_wp2
 go_ret
 exact ⟨aI G.out.symm,a.out.trans (hb.mono a.out.size)⟩
def EP (b:Nat) (w:World):Nat:=match w.cell? ⟨b,1,none⟩,w.cell? ⟨b,2,none⟩ with
 | some (.int _ p),some (.int _ e)=>if e=0 then 1000001-p.toNat else 0
 | _,_=>0
theorem oH {b:Nat} {w:World} {r:Rd} (h:Arr w b 3 r.c):EP b w=if r.err=0 then 1000001-r.pos else 0:=by
 unfold EP
 have c1:w.cell? ⟨b,1,none⟩=some (.int .i64 (r.pos:Int)):=h.cell 1 (by omega)
 have c2:w.cell? ⟨b,2,none⟩=some (.int .i64 (r.err:Int)):=h.cell 2 (by omega)
 rw [c1,c2]
 by_cases a:r.err=0
 ·simp [a]
 simp [a]
theorem rF (w:World) (s:ByteArray) (e:TypeId):Arr (w.alloc (.cells #[.string s,.int .i64 0,.int .i64 0] e)) w.heap.size 3 (rd0 s).c :=
 (Arr.ofList w [.string s,.int .i64 0,.int .i64 0] e).congr fun k a=>by
  obtain h|h|h:k=0∨k=1∨k=2:=by simp at a;omega
  all_goals subst h;rfl
def rC (k:Nat):Value:=if k=0 then .string ByteArray.empty else if k=1 then .int .i64 0 else .int .u8 0
theorem Hw:#[.string ⟨#[]⟩,.int .i64 0,.int .u8 0,.int .u8 0,.int .u8 0,.int .u8 0,.int .u8 0,.int .u8 0,.int .u8 0,.int .u8 0,.int .u8 0,.int .u8 0,.int .u8 0,.int .u8 0,.int .u8 0,.int .u8 0,.int .u8 0,.int .u8 0,.int .u8 0,.int .u8 0,.int .u8 0,.int .u8 0,.int .u8 0,.int .u8 0,.int .u8 0,.int .u8 0,.int .u8 0,.int .u8 0,.int .u8 0,.int .u8 0,.int .u8 0,.int .u8 0,.int .u8 0,.int .u8 0]=((List.range 34).map rC).toArray:=by kernel_rfl
theorem uN:∃(b:Array Value) (a:TypeInfo),prog.info? 228=some a∧a.zero=some (.agg b)∧a.size=34∧a.bytes=56∧(∀w,(zeroValue 228).run prog w= .ok (.agg b) w)∧(∀w,(Instr.build 228 #[]).run prog w= .ok (.agg b) w)∧b=((List.range 34).map rC).toArray:=by
 have h:(prog.info? 228).map (fun i=>(i.zero,i.size,i.bytes))=some (some (.agg #[.string ⟨#[]⟩,.int .i64 0,.int .u8 0,.int .u8 0,.int .u8 0,.int .u8 0,.int .u8 0,.int .u8 0,.int .u8 0,.int .u8 0,.int .u8 0,.int .u8 0,.int .u8 0,.int .u8 0,.int .u8 0,.int .u8 0,.int .u8 0,.int .u8 0,.int .u8 0,.int .u8 0,.int .u8 0,.int .u8 0,.int .u8 0,.int .u8 0,.int .u8 0,.int .u8 0,.int .u8 0,.int .u8 0,.int .u8 0,.int .u8 0,.int .u8 0,.int .u8 0,.int .u8 0,.int .u8 0]),34,56):=by kernel_rfl
 obtain ⟨a,hi,f,d,e⟩:=info_parts h
 exact ⟨#[.string ⟨#[]⟩,.int .i64 0,.int .u8 0,.int .u8 0,.int .u8 0,.int .u8 0,.int .u8 0,.int .u8 0,.int .u8 0,.int .u8 0,.int .u8 0,.int .u8 0,.int .u8 0,.int .u8 0,.int .u8 0,.int .u8 0,.int .u8 0,.int .u8 0,.int .u8 0,.int .u8 0,.int .u8 0,.int .u8 0,.int .u8 0,.int .u8 0,.int .u8 0,.int .u8 0,.int .u8 0,.int .u8 0,.int .u8 0,.int .u8 0,.int .u8 0,.int .u8 0,.int .u8 0,.int .u8 0],a,hi,f,d,e,fun w=>by kernel_rfl,fun w=>run_build w 228 #[] _ (by kernel_rfl),Hw⟩
theorem Ka:∀v∈(List.range 34).map rC,v.oneCell'=true:=by
 intro v a
 obtain ⟨k,_,rfl⟩:=List.mem_map.1 a
 unfold rC;split
 ·rfl
 split<;>rfl
def Bv (e:Ent) (k:Nat):Value:=(bW e).getD k undef
theorem Bu (e:Ent) (h:e.id.length=32) (k:Nat) (d:k<34):(if 2≤k∧k<2+(idC e.id).length then (idC e.id).getD (k-2) undef else upd (upd rC 1 (.int .i64 (e.kind:Int))) 0 (.string e.name) k)=Bv e k:=by
 have b:(idC e.id).length=32:=by rw [aA,h]
 rw [b]
 unfold upd Bv bW
 obtain a|a|a:k=0∨k=1∨2≤k:=by omega
 ·subst a;rfl
 ·subst a;rfl
 rw [if_pos ⟨a,by omega⟩]
 rw [List.getD_eq_getElem?_getD,List.getD_eq_getElem?_getD,List.getElem?_append_right (by simpa using a)];rfl
theorem oV (e:Ent):∀v∈bW e,v.oneCell'=true:=by
 intro v a
 unfold bW at a
 rcases List.mem_append.1 a with h|h
 ·simp at h;rcases h with rfl|rfl<;>rfl
 exact bC _ v h
theorem iP (w:World) (cs:List Value) (e:TypeId) (j:Nat) (u:Value) (h:cs[j]? = some u):(w.alloc (.cells cs.toArray e)).cell? ((⟨w.heap.size,0,none⟩:Addr).add j)=some u:=by
 rw [Addr.add_mid,Nat.zero_add,World.cell?_alloc_new];simpa using h
theorem xI (e:Ent) (h:e.id.length=32):(List.range 34).map (Bv e)=bW e:=by
 have a:(bW e).length=34:=by simp [bW,aA,h]
 apply List.ext_getElem
 ·simp [a]
 intro i h1 b
 simp [Bv,b]
def kL (l:List Ent):List Value:=(l.map bW).flatten
theorem uK (l:List Ent) (e:Ent):kL (l++[e])=kL l++bW e:=by simp [kL]
theorem xH (r:Rd):∀(f:Nat) (es:List Ent),r.more=false→r.fH f es=(r,es)
 | 0,_,_=>rfl
 | _+1,_,h=>by unfold Rd.fH;rw [h];rfl
theorem EY (r : Rd) : ∀ (f : Nat) (es : List Ent), r.more = true → 0 < f → r.fH f es = r.entry.1.fH (f - 1) (es ++ [r.entry.2])
  | 0, _, _, h => by omega
  | f + 1, es, h, _ => by conv => lhs; unfold Rd.fH
                          rw [if_pos h]; rfl
theorem own_below {w w':World} {B:Nat} {e:TypeId} {sz:Nat} {v:Value} {n:Nat} {xs:List Value} (h:w.ownsRow B e sz v n xs) (hb:Below w.heap.size w w'):w'.ownsRow B e sz v n xs :=
 h.kept (aB hb none) (by cases a:v.ownBlock<;>simp)
theorem fZ {w w':World} {B b:Nat} {e:TypeId} {sz:Nat} {v:Value} {n:Nat} {xs:List Value} (h:w.ownsRow B e sz v n xs) (a:w.grownBy w' (some b)) (hb:b<B):w'.ownsRow B e sz v n xs :=
 h.kept a (by
  cases d:v.ownBlock with
  | none=>exact .inl rfl
  | some g=>right;intro e;cases e;have:=(h.lt b d).1;omega)
theorem own_ne {w:World} {B b:Nat} {e:TypeId} {sz:Nat} {v:Value} {n:Nat} {xs:List Value} (h:w.ownsRow B e sz v n xs) (hb:b<B):v.ownBlock=none∨v.ownBlock≠some b:=by
 cases a:v.ownBlock with
 | none=>exact .inl rfl
 | some g=>right;intro e;cases e;have:=(h.lt b a).1;omega
theorem oz {w:World} {B:Nat} {e:TypeId} {sz:Nat} {v:Value} {n:Nat} {xs:List Value} (h:w.ownsRow B e sz v n xs):v.ownBlock=none∨v.ownBlock≠some w.heap.size:=by
 cases a:v.ownBlock with
 | none=>exact .inl rfl
 | some g=>right;intro e;cases e;have:=(h.lt _ a).2;omega
theorem jR {w:World} {B b o:Nat} {e:TypeId} {sz:Nat} {v u:Value} {n:Nat} {xs:List Value} (h:w.ownsRow B e sz v n xs) (a:v.ownBlock=none∨v.ownBlock≠some b):(w.setCell ⟨b,o,none⟩ u).ownsRow B e sz v n xs :=
 h.kept (aN (World.grownBy.refl w (some b)) u) a
theorem AA {w:World} {B b o:Nat} {e:TypeId} {sz:Nat} {v:Value} {n:Nat} {xs us:List Value} (h:w.ownsRow B e sz v n xs) (a:v.ownBlock=none∨v.ownBlock≠some b):(w.setCells b o us).ownsRow B e sz v n xs :=
 h.kept (dO us o w (World.grownBy.refl w (some b))) a
theorem Arr.jZ {w w':World} {b n:Nat} {c:Nat→Value} (h:Arr w b n c) {row:Option Nat} (g:w.grownBy w' row) (d:row≠some b):Arr w' b n c :=
 ⟨fun k f=>g.cell (h.cell k f) (fun e=>d e.symm),fun k f=>by
  rw [World.frozen?_of_block (w:=w) (a:=⟨b,k,none⟩) (g.block b (h.lt (by omega)) (fun e=>d e.symm))];exact h.free k f⟩
theorem Arr.fG {w:World} {b n B:Nat} {c:Nat→Value} (h:Arr w b n c) (a:B≠b):∀(us:List Value) (o:Nat),Arr (w.setCells B o us) b n c:=fun us o =>
 h.jZ (dO us o w (World.grownBy.refl w (some B))) (fun e=>a (Option.some.inj e))
theorem uL (r:Rd) (a:r.fine):(if r.entry.1.err=0 then 1000001-r.entry.1.pos else 0)<1000001-r.pos:=by
 have h1:=a.pos
 have d:=a.size
 split
 ·rename_i h
  obtain ⟨_,_,b,_⟩:=r.gX a h
  omega
 omega
theorem yC (s:ByteArray) (w:World) (hs:s.size≤100000) :
  Calls prog 94 #[.string s] w fun e w'=> ∃v,e= .returned (.tuple #[v,.bool (bE s).isSome])∧(eG w' v ((bE s).getD [])∧w'.ownsRow (w.heap.size+1) 228 34 v ((bE s).getD []).length (((bE s).getD []).map bW).flatten)∧Below w.heap.size w w':=by
 obtain ⟨D,i0,hi,cy,bu,ci,cx,cN,aw⟩:=uN
 have b7:D.size=34:=by rw [aw];simp
 have J:=ah b7
 have a9:=ah aw
 clear b7 aw
 have ct:=ah (rF w s 81)
 have bm:Below w.heap.size w (w.alloc (.cells #[.string s,.int .i64 0,.int .i64 0] 81)):=bal
 have cA:=ah bm
 clear bm
 go_enter func94,ntmps94
 go_wp2
 go_loopw [5,6] (fun v _ wr=> ∃(r:Rd) (es:List Ent) (f:Nat),Arr wr w.heap.size 3 r.c∧Hid r.fine∧r.err≤4∧Hid (r.s=s)∧Hid (r.fH f es=(rd0 s).fH (s.size+1) [])∧Hid (r.err=0→r.s.size-r.pos<f∧es.length≤r.pos)∧Hid (∀e∈es,e.id.length=32)∧es.length≤100001∧wr.ownsRow (w.heap.size+1) 228 34 v es.length (kL es)∧Below w.heap.size w wr) (fun _ _ wr=>EP w.heap.size wr)
 case atStart=>exact ⟨rd0 s,[],s.size+1,ct.out,dz s (by omega),by show 0≤4;omega,rfl,rfl,(fun _=>⟨by show s.size-0<s.size+1;omega,Nat.zero_le _⟩),(fun e O=>by cases O),by simp,World.ownsRow_nil _ _ _ _,cA.out⟩
 obtain ⟨b,rfl⟩:∃b:World,b=wr:=⟨_,rfl⟩
 obtain ⟨r,es,f,hA,hf,h4,M,hN,cf,az,cH,g,hb⟩:=hrel
 have c1:b.cell? ⟨w.heap.size,1,none⟩=some (.int .i64 (r.pos:Int)):=hA.cell 1 (by omega)
 have c2:b.cell? ⟨w.heap.size,2,none⟩=some (.int .i64 (r.err:Int)):=hA.cell 2 (by omega)
 have bi:=hA.lt (by omega)
 obtain ⟨co,cc,rfl⟩:=dL g
 by_cases hm:r.more=true
 ·obtain ⟨ax,L⟩:=of_decide_eq_true hm
  obtain ⟨cJ,cG⟩:=cf.out ax
  have d1:((r.err:Int)==0)=true:=by rw [beq_iff_eq];omega
  have d2:decide ((r.pos:Int)<s.size)=true:=decide_eq_true (by rw [M.out] at L;omega)
  have d3:decide (r.pos<s.size)=true:=decide_eq_true (by rw [M.out] at L;omega)
  have cd:=ah (oH hA)
  have cp:=ah ax
  have HM:=ah hm
  have a0:=ah (uL r hf.out)
  have a:Hid (r.entry=(((r.num 2).1.text 32).1.id.1,⟨((r.num 2).1.text 32).2,(r.num 2).2,((r.num 2).1.text 32).1.id.2⟩)):=ah rfl
  have aa:=ah (Rd.bK r 2 hf.out)
  have N:=ah (Rd.dG _ 32 aa.out.1)
  have HA:=ah hA
  have HN:=ah (fun W (hA:Arr W w.heap.size 3 r.c)=>sO w.heap.size r 2 W hA hf.out (by omega))
  have HT:=ah (fun W (hA:Arr W w.heap.size 3 (r.num 2).1.c)=>jH w.heap.size _ 32 W hA aa.out.1 (by omega))
  have HI:=ah (fun W (hA:Arr W w.heap.size 3 ((r.num 2).1.text 32).1.c)=>yB w.heap.size _ W hA N.out)
  have m:Hid ((((r.num 2).1.text 32).1.id.2).length=32):=ah (dX _)
  have ar:=ah (r.gD hf.out)
  have aE:=ah (r.uM h4)
  have S:=ah (r.EZ)
  have G:=ah (r.gX hf.out)
  have a6:Hid (r.fH f es=r.entry.1.fH (f-1) (es++[r.entry.2])):=ah (EY r f es hm (by omega))
  clear hA hm ax
  generalize r.entry=en at a a0 ar aE S G a6
  obtain ⟨r',e⟩:=en
  generalize r.num 2=x1 at a HN HT aa HI m N
  obtain ⟨r1,E⟩:=x1
  dsimp only at a HN HT aa HI m N
  generalize r1.text 32=x2 at a HT HI m N
  obtain ⟨r2,nm⟩:=x2
  dsimp only at a HT HI m N
  generalize r2.id=x3 at a HI m
  obtain ⟨r3,d⟩:=x3
  dsimp only at a HI m ar aE S a0 G a6
  obtain ⟨rfl,rfl⟩:r'=r3∧e=⟨nm,E,d⟩:=by have:=a.out;injection this with h1 h2;exact ⟨h1,h2⟩
  clear a
  have ba:Arr (b.alloc (.cells D 228)) b.heap.size 34 rC:=by
   rw [a9.out]
   exact (Arr.ofList b ((List.range 34).map rC) 228).congr fun k C=>by simp at C;simp [C]
  have ag:=ah ba
  have hE:Arr ((b.alloc (.cells D 228)).setCells b.heap.size 0 D.toList) b.heap.size 34 rC :=
   (ba.setCells 0 D.toList (by rw [Array.length_toList,J.out];exact Nat.le_refl _)).congr fun k C=>by
    rw [Array.length_toList,J.out,if_pos ⟨by omega,by omega⟩,a9.out];simp [C]
  have bt:Below b.heap.size b ((b.alloc (.cells D 228)).setCells b.heap.size 0 D.toList):=below_setCells _ (Nat.le_refl _) _ _ _ bal
  have HE:=ah hE
  have H:=ah bt
  clear ba hE bt
  go_wp2_with (refine wpList_store_mid rfl 228 _ _ rfl b.heap.size 0 D rfl rfl ?g1 ?g2 ?g3 ?_)
  case g1=>rw [J.out];exact ag.out.there
  case g2=>exact J.out.symm
  case g3 =>
   intro i cM
   have hm:D[i]∈D.toList:=by simp
   have h2:D.toList=(List.range 34).map rC:=by rw [a9.out]
   exact Ka _ (h2▸hm)
  generalize hW:(b.alloc _).setCells _ _ _=W
  rw [hW] at HE H
  have ch:=HA.out.below H.out bi
  have cb:=ah (own_below g H.out)
  have F:=ah g.lt
  have am:=ah (oz g)
  have cP:=ah (own_ne g (Nat.lt_succ_self w.heap.size))
  have cL:b.heap.size<W.heap.size:=HE.out.lt (by omega)
  clear hW g c1 c2 ag
  refine (HN.out W ch).mono ?_
  rintro e w1 ⟨rfl,bj,P⟩
  have Y:=HE.out.grown P (by omega)
  have bp:=fZ cb.out P (by omega)
  have c1:=Y.cell 1 (by omega)
  have f1:=Y.free 1 (by omega)
  have cj:=ah (bj.far (p:=⟨b.heap.size,1,none⟩) (by show b.heap.size≠_;omega) (.int .i64 (E:Int)))
  have cw:=ah (Y.set 1 (by omega) (.int .i64 (E:Int)))
  have cv:=ah (jR (o:=1) (u:=.int .i64 (E:Int)) bp am.out)
  have aq:=ah P
  clear bj Y bp P
  go_wp2_with fail
  refine (HT.out _ cj.out).mono ?_
  rintro e w2 ⟨rfl,b9,T⟩
  have X:=cw.out.grown T (by omega)
  have bk:=fZ cv.out T (by omega)
  have c2:=X.cell 0 (by omega)
  have f2:=X.free 0 (by omega)
  have cl:=ah (b9.far (p:=⟨b.heap.size,0,none⟩) (by show b.heap.size≠_;omega) (.string nm))
  have ce:=ah (X.set 0 (by omega) (.string nm))
  have cD:=ah (jR (o:=0) (u:=.string nm) bk am.out)
  have bo:=ah T
  clear b9 X bk T c1 f1
  go_wp2_with fail
  refine (HI.out _ cl.out).mono ?_
  rintro e w3 ⟨rfl,b0,R⟩
  have bh:(idC d).length=32:=by rw [aA,m.out]
  have Q:=ce.out.grown R (by omega)
  have b2:=fZ cD.out R (by omega)
  have b5:=ah (b0.fG (B:=b.heap.size) (by omega) (idC d) 2)
  have a7:=ah ((Q.setCells 2 (idC d) (by omega)).congr (fun k C=>Bu ⟨nm,E,d⟩ m.out k C))
  have bc:=ah (AA (o:=2) (us:=idC d) b2 am.out)
  have bd:w3.there b.heap.size 2 32:=fun j hj=>⟨by rw [Q.cell _ (by omega)];rfl,Q.free _ (by omega)⟩
  have ck:=ah bd
  have cq:=ah R
  have bl:=ah bh
  have bz:=ah (bC d)
  have ca:(prog.info? 143).map (·.size)=some 32:=by kernel_rfl
  have A:(bW ⟨nm,E,d⟩).length=34:=by simp [bW,aA,m.out]
  have b3:(prog.info? 228).map (·.size)=some (bW ⟨nm,E,d⟩).length:=by
   rw [A,hi];exact congrArg some bu
  have n:=ah A
  have bn:=ah (oV ⟨nm,E,d⟩)
  clear A
  clear b0 Q b2 R c2 f2 bd bh
  have b8:idV d= .agg (idC d).toArray:=rfl
  rw [b8]
  clear b8
  generalize al:bW ⟨nm,E,d⟩=cs at b3 n bn
  have ae:=a7.out.range
  rw [xI ⟨nm,E,d⟩ m.out,al] at ae
  have cm:=ah al
  clear al
  have bv:Hid (∀w,(sizeOf 228).run prog w= .ok cs.length w):=ah (fun w=>by rw [n.out];kernel_rfl)
  have cr:=ah (show 0<cs.length by rw [n.out];omega)
  have cz:=ah (show cs.length≤1000 by rw [n.out];omega)
  generalize cE:idC d=us at b5 a7 bc bl bz ae
  clear cE
  have cF:=ah ae
  have af:b.heap.size<(w3.setCells b.heap.size 2 us).heap.size:=a7.out.lt (show 0<34 by omega)
  have bx:=ah af
  clear ae af
  go_wp2_with (first|(refine aj rfl 143 _ _ rfl b.heap.size 2 us ?y1 ?y2 32 bl.out ?y4 ca bz.out ?_)|(refine wpList_load_mid rfl 228 _ rfl b.heap.size 0 rfl cs _ cF.out underlying228 rfl b3 ?_)|(refine aO rfl (.tmp 35) 139 228 rfl cs D rfl underlying139 bv.out cx cr.out cz.out ?_)|(at_builtin;refine wpList_append_own _ rfl (.tmp 34) (.tmp 36) 139 rfl (w.heap.size+1) 228 i0 (.agg D) 34 56 underlying139 hi cy bu ci J.out (by decide) _ es.length (kL es) rfl (bc.out.alloc _) ⟨(w3.setCells b.heap.size 2 us).heap.size,0,none⟩ 1 1 cs ?a1 n.out ?a2 bn.out ?a3 ?a4 ?a5 ?_))
  try case y1=>rfl
  try case y2=>rfl
  try case y4=>exact ck.out
  case a2=>exact fun j u hj=>iP _ cs _ j u hj
  case a3=>unfold maxLen;omega
  case a4=>omega
  case a5=>rw [World.size_alloc];have:=bx.out;omega
  intro v' w5 z bb _
  have V:Below w.heap.size w (w3.setCells b.heap.size 2 us):=by
   refine below_setCells _ (by omega) _ _ _ ?_
   have q1:=(hb.trans (H.out.mono hb.size)).grown aq.out (by have:=H.out.size;omega) (fun k C=>by cases C;exact Nat.le_refl _)
   have q2:=(q1.setCell (p:=⟨b.heap.size,1,none⟩) (by show w.heap.size≤b.heap.size;omega) (.int .i64 (E:Int))).grown bo.out (by have:=aq.out.size;simp;omega) (fun k C=>by cases C;exact Nat.le_refl _)
   exact (q2.setCell (p:=⟨b.heap.size,0,none⟩) (by show w.heap.size≤b.heap.size;omega) (.string nm)).grown cq.out (by have:=bo.out.size;have:=aq.out.size;simp at *;omega) (fun k C=>by cases C;exact Nat.le_refl _)
  have b4:Below w.heap.size w w5:=(V.alloc V.size _).grown bb (by rw [World.size_alloc];have:=V.size;omega) (fun k C=>by have:=(F.out k C).1;omega)
  have bf:Arr w5 w.heap.size 3 r'.c:=(b5.out.alloc (by omega) _).jZ bb (fun e=>by have:=(F.out _ e).1;omega)
  have br:=ah bf
  have cn:=ah b4
  rw [←cm.out,←uK] at z
  have cg:=ah z
  have cI:=hf.out.pos
  have be:r.s.size=s.size:=by rw [M.out]
  clear bf b4 V z bb
  go_wp2
  go_roundw
  case rel =>
   refine ⟨r',es++[⟨nm,E,d⟩],f-1,br.out,ar.out,aE.out,S.out.trans M.out,ah (a6.out.symm.trans hN.out),fun h0=> ?_,fun e O=> ?_,by simp;omega,by rw [List.length_append];exact cg.out,cn.out⟩
   ·obtain ⟨_,_,q3,_⟩:=G.out h0
    rw [S.out,List.length_append,List.length_singleton]
    omega
   rcases List.mem_append.1 O with h|h
   ·exact az.out e h
   rw [List.mem_singleton.1 h];exact m.out
  rw [oH br.out,cd.out,if_pos cp.out];exact a0.out
 have ac:r.more=false:=by simpa using hm
 have ad:(rd0 s).fH (s.size+1) []=(r,es):=by rw [←hN.out];exact xH r f es ac
 rw [Rd.uJ] at ad
 have e1:(iG s).1=r:=congrArg Prod.fst ad
 have e2:(iG s).2=es:=congrArg Prod.snd ad
 have a8:Hid (bE s=if r.fin=0∧dH es=true then some es else none):=by unfold Hid bE;rw [e1,e2]
 have x:=ah (fun W (hA:Arr W w.heap.size 3 r.c)=>kX w.heap.size r W hA hf.out)
 have ao:=ah hA
 have ai:=ah g
 clear ad hN hA g hm
 by_cases h0:r.err=0
 ·have L:¬r.pos<r.s.size:=fun h=>by have:=of_decide_eq_false ac;exact this ⟨h0,h⟩
  have be:r.s.size=s.size:=by rw [M.out]
  have d1:((r.err:Int)==0)=true:=by rw [beq_iff_eq];omega
  have d2:decide ((r.pos:Int)<s.size)=false:=decide_eq_false (by omega)
  have d3:decide (r.pos<s.size)=false:=decide_eq_false (by omega)
  have l:r.fin=0:=by unfold Rd.fin;rw [if_neg (by simp [h0]),if_neg L]
  have an:Hid (∀W,Below b.heap.size b W→eG W (.slice co es.length cc) es):=ah (fun W K=>(dF.gq (B:=w.heap.size+1) (e:=228) (sz:=34) (rows:=es.map bW) (fun r hr=>by
   obtain ⟨e,O,rfl⟩:=List.mem_map.1 hr
   simp [bW,aA,az.out e O]) (by rw [List.length_map];exact ai.out)).below K)
  have e0:(iG s).1.err=0:=by rw [e1];exact h0
  have Z:=Rd.nu (s.size+1) (rd0 s) (dz s (by omega)) e0
  have e3:((rd0 s).ents (s.size+1)).2=es:=e2
  rw [e3] at Z
  have U:=ah (fun W (K:Below b.heap.size b W)=>sM (.slice co es.length cc) es W (an.out W K) (fun e O=>by have:=Z e O;omega))
  have cC:Hid (dH es=true→ ∀W,Below b.heap.size b W→Calls prog 165 #[.slice co es.length cc] W fun e w'=>e= .returned (.string s)∧Below W.heap.size W w'):=ah (fun q W K=>by
   have ca:es.length≤32:=by
    rw [eP] at q
    simp only [Bool.and_eq_true,decide_eq_true_eq] at q
    exact q.2
   have:=vI (.slice co es.length cc) es W (an.out W K) (fun e O=>by have h1:=Z e O;exact ⟨by omega,by omega,az.out e O⟩) (by omega)
   have hc:=x9 s (by omega) (by rw [e1];exact l)
   rw [e2] at hc
   rw [hc,mY] at this
   exact this)
  rw [l] at x
  clear Z e0 e1 e2 e3 L h0 ac
  have b6:=ah l
  clear l
  cases q:dH es with
  | false =>
   have HR:Hid (bE s=none):=by unfold Hid;rw [a8.out,if_neg (by rw [q];simp)]
   rw [q] at U
   clear q
   go_wp2_with fail
   refine (x.out _ ao.out).mono ?_
   rintro e w1 ⟨rfl,y⟩
   have t:=ah y
   clear y
   go_wp2_with fail
   refine (U.out _ t.out).mono ?_
   rintro e w2 ⟨rfl,I⟩
   have ab:=ah (hb.trans ((t.out.trans (I.mono t.out.size)).mono hb.size))
   clear I
   go_wp2
   go_ret2
   exact ⟨.slice none 0 0,by rw [HR.out];rfl,by rw [HR.out];exact ⟨⟨none,0,rfl,by simp,fun h=>absurd rfl h⟩,World.ownsRow_nil _ _ _ _⟩,ab.out⟩
  | true =>
   have HR:Hid (bE s=some es):=by unfold Hid;rw [a8.out,if_pos ⟨b6.out,q⟩]
   have bs:=ah (cC.out q)
   rw [q] at U
   clear q
   go_wp2_with fail
   refine (x.out _ ao.out).mono ?_
   rintro e w1 ⟨rfl,y⟩
   have t:=ah y
   clear y
   go_wp2_with fail
   refine (U.out _ t.out).mono ?_
   rintro e w2 ⟨rfl,I⟩
   have ab:=bth t I
   clear I
   go_wp2_with fail
   refine (bs.out _ ab.out).mono ?_
   rintro e w3 ⟨rfl,b1⟩
   have ap:=bth ab b1
   clear b1
   go_wp2
   go_ret2
   exact ⟨.slice co es.length cc,by rw [HR.out];rfl,by rw [HR.out];exact ⟨an.out _ ap.out,own_below ai.out ap.out⟩,hb.trans (ap.out.mono hb.size)⟩
 have d1:((r.err:Int)==0)=false:=by rw [beq_eq_false_iff_ne];omega
 have l:r.fin=r.err:=by unfold Rd.fin;rw [if_pos h0]
 have d2:((r.err:Int) != 0)=true:=by rw [bne_iff_ne];omega
 have HR:Hid (bE s=none):=by unfold Hid;rw [a8.out,if_neg (by rw [l];exact fun h=>h0 h.1)]
 rw [l] at x
 clear l h0 ac e1 e2
 go_wp2_with fail
 refine (x.out _ ao.out).mono ?_
 rintro e w1 ⟨rfl,y⟩
 have t:=ah (hb.trans (y.mono hb.size))
 clear y
 go_wp2
 go_ret2
 exact ⟨.slice none 0 0,by rw [HR.out];rfl,by rw [HR.out];exact ⟨⟨none,0,rfl,by simp,fun h=>absurd rfl h⟩,World.ownsRow_nil _ _ _ _⟩,t.out⟩
theorem yD (s:ByteArray) (w:World) (a:s.size≤100000) :
  Calls prog 94 #[.string s] w fun e w'=> ∃v,e= .returned (.tuple #[v,.bool (bE s).isSome])∧eG w' v ((bE s).getD [])∧Below w.heap.size w w' :=
 (yC s w a).mono fun _ _ ⟨v,h1,d,b⟩=>⟨v,h1,d.1,b⟩
def zid:List UInt8:=List.replicate 32 0
theorem bR:zid.length=32:=by simp [zid]
theorem Kw:#[.int .u8 0,.int .u8 0,.int .u8 0,.int .u8 0,.int .u8 0,.int .u8 0,.int .u8 0,.int .u8 0,.int .u8 0,.int .u8 0,.int .u8 0,.int .u8 0,.int .u8 0,.int .u8 0,.int .u8 0,.int .u8 0,.int .u8 0,.int .u8 0,.int .u8 0,.int .u8 0,.int .u8 0,.int .u8 0,.int .u8 0,.int .u8 0,.int .u8 0,.int .u8 0,.int .u8 0,.int .u8 0,.int .u8 0,.int .u8 0,.int .u8 0,.int .u8 0,.slice none 0 0,.string ⟨#[]⟩]=(cmC zid (.slice none 0 0) ⟨#[]⟩).toArray:=by kernel_rfl
theorem Fb:∃a:Array Value,(∀w,(zeroValue 145).run prog w= .ok (.agg a) w)∧(∀w,(Instr.build 145 #[]).run prog w= .ok (.agg a) w)∧a=(cmC zid (.slice none 0 0) ⟨#[]⟩).toArray :=
 ⟨#[.int .u8 0,.int .u8 0,.int .u8 0,.int .u8 0,.int .u8 0,.int .u8 0,.int .u8 0,.int .u8 0,.int .u8 0,.int .u8 0,.int .u8 0,.int .u8 0,.int .u8 0,.int .u8 0,.int .u8 0,.int .u8 0,.int .u8 0,.int .u8 0,.int .u8 0,.int .u8 0,.int .u8 0,.int .u8 0,.int .u8 0,.int .u8 0,.int .u8 0,.int .u8 0,.int .u8 0,.int .u8 0,.int .u8 0,.int .u8 0,.int .u8 0,.int .u8 0,.slice none 0 0,.string ⟨#[]⟩],fun w=>by kernel_rfl,fun w=>run_build w 145 #[] _ (by kernel_rfl),Kw⟩
theorem gL:∃(e:Array Value) (a:TypeInfo),prog.info? 143=some a∧a.zero=some (.agg e)∧a.size=32∧a.bytes=32∧(∀w,(zeroValue 143).run prog w= .ok (.agg e) w)∧e.size=32:=by
 have h:(prog.info? 143).map (fun i=>(i.zero,i.size,i.bytes))=some (some (.agg #[.int .u8 0,.int .u8 0,.int .u8 0,.int .u8 0,.int .u8 0,.int .u8 0,.int .u8 0,.int .u8 0,.int .u8 0,.int .u8 0,.int .u8 0,.int .u8 0,.int .u8 0,.int .u8 0,.int .u8 0,.int .u8 0,.int .u8 0,.int .u8 0,.int .u8 0,.int .u8 0,.int .u8 0,.int .u8 0,.int .u8 0,.int .u8 0,.int .u8 0,.int .u8 0,.int .u8 0,.int .u8 0,.int .u8 0,.int .u8 0,.int .u8 0,.int .u8 0]),32,32):=by kernel_rfl
 obtain ⟨a,hi,f,b,d⟩:=info_parts h
 exact ⟨#[.int .u8 0,.int .u8 0,.int .u8 0,.int .u8 0,.int .u8 0,.int .u8 0,.int .u8 0,.int .u8 0,.int .u8 0,.int .u8 0,.int .u8 0,.int .u8 0,.int .u8 0,.int .u8 0,.int .u8 0,.int .u8 0,.int .u8 0,.int .u8 0,.int .u8 0,.int .u8 0,.int .u8 0,.int .u8 0,.int .u8 0,.int .u8 0,.int .u8 0,.int .u8 0,.int .u8 0,.int .u8 0,.int .u8 0,.int .u8 0,.int .u8 0,.int .u8 0],a,hi,f,b,d,fun w=>by kernel_rfl,rfl⟩
def cmF (t:List UInt8) (v:Value) (x:ByteArray) (k:Nat):Value:=(cmC t v x).getD k undef
theorem uU {t:List UInt8} (h:t.length=32) (v:Value) (x:ByteArray) {k:Nat} (a:k<32):cmF t v x k=(idC t).getD k undef:=by
 unfold cmF cmC
 rw [List.getD_eq_getElem?_getD,List.getD_eq_getElem?_getD,List.getElem?_append_left (by rw [aA,h];exact a)]
theorem jr {t:List UInt8} (h:t.length=32) (v:Value) (x:ByteArray):cmF t v x 32=v:=by
 unfold cmF cmC
 rw [List.getD_eq_getElem?_getD,List.getElem?_append_right (by rw [aA,h];exact Nat.le_refl _),aA,h];rfl
theorem qc {t:List UInt8} (h:t.length=32) (v:Value) (x:ByteArray):cmF t v x 33= .string x:=by
 unfold cmF cmC
 rw [List.getD_eq_getElem?_getD,List.getElem?_append_right (by rw [aA,h];omega),aA,h];rfl
theorem Mc {t:List UInt8} (h:t.length=32) (v u:Value) (x:ByteArray):∀k,k<34→upd (cmF t v x) 32 u k=cmF t u x k:=by
 intro k b
 unfold upd
 by_cases e:k=32
 ·subst e;rw [if_pos rfl,jr h]
 rw [if_neg e]
 by_cases a:k<32
 ·rw [uU h _ _ a,uU h _ _ a]
 obtain rfl:k=33:=by omega
 rw [qc h,qc h]
theorem Ma {t:List UInt8} (h:t.length=32) (v:Value) (x y:ByteArray):∀k,k<34→upd (cmF t v x) 33 (.string y) k=cmF t v y k:=by
 intro k b
 unfold upd
 by_cases e:k=33
 ·subst e;rw [if_pos rfl,qc h]
 rw [if_neg e]
 by_cases a:k<32
 ·rw [uU h _ _ a,uU h _ _ a]
 obtain rfl:k=32:=by omega
 rw [jr h,jr h]
theorem Md {t d:List UInt8} (h:t.length=32) (hd:d.length=32) (v:Value) (x:ByteArray):∀k,k<34→(if 0≤k∧k<0+(idC d).length then (idC d).getD (k-0) undef else cmF t v x k)=cmF d v x k:=by
 intro k f
 have b:(idC d).length=32:=by rw [aA,hd]
 rw [b]
 by_cases a:k<32
 ·rw [if_pos ⟨by omega,by omega⟩,uU hd _ _ a,Nat.sub_zero]
 rw [if_neg (by omega)]
 obtain e|e:k=32∨k=33:=by omega
 ·subst e;rw [jr h,jr hd]
 subst e;rw [qc h,qc hd]
theorem BQ {t:List UInt8} (h:t.length=32) (v:Value) (x:ByteArray):(List.range 34).map (cmF t v x)=cmC t v x:=by
 have a:(cmC t v x).length=34:=gP t v x h
 apply List.ext_getElem
 ·simp [a]
 intro i h1 b
 simp [cmF,b]
theorem rT (w:World) {t:List UInt8} (h:t.length=32) (v:Value) (x:ByteArray) (e:TypeId):Arr (w.alloc (.cells (cmC t v x).toArray e)) w.heap.size 34 (cmF t v x):=by
 have:=Arr.ofList w (cmC t v x) e
 rw [gP t v x h] at this
 exact this
theorem zn (t:List UInt8) (a:Option Addr) (n c:Nat) (x:ByteArray):∀v∈cmC t (.slice a n c) x,v.oneCell'=true:=by
 intro v b
 unfold cmC at b
 rcases List.mem_append.1 b with h|h
 ·exact bC _ v h
 simp at h;rcases h with rfl|rfl<;>rfl
theorem uY (w:World) (o:Obj) (p:Addr) (h:p.block<w.heap.size):(w.alloc o).cell? p=w.cell? p:=World.cell?_alloc_lt _ _ _ h
def dx (l:List (List UInt8)):List Value:=(l.map idC).flatten
theorem lY (l:List (List UInt8)) (x:List UInt8):dx (l++[x])=dx l++idC x:=by simp [dx]
theorem CU (s:ByteArray) (w:World) (hs:s.size≤100000) :
  Calls prog 95 #[.string s] w fun e w'=> ∃v,e= .returned (.tuple #[.agg (cmC ((aH s).getD (zid,[],⟨#[]⟩)).1 v ((aH s).getD (zid,[],⟨#[]⟩)).2.2).toArray,.bool (aH s).isSome])∧dY w' v ((aH s).getD (zid,[],⟨#[]⟩)).2.1∧(∀g,v.ownBlock=some g→w.heap.size≤g)∧(∀ao n c,v= .slice ao n c→n≤c)∧Below w.heap.size w w':=by
 obtain ⟨R,dn,dm,U⟩:=Fb
 obtain ⟨zi,i0,hi,c9,c4,cV,b8,be⟩:=gL
 have de:=ah be
 clear be
 have b2:Arr (w.alloc (.cells R 145)) w.heap.size 34 (cmF zid (.slice none 0 0) ⟨#[]⟩):=by rw [U];exact rT w bR _ _ _
 have bp:=rF (w.alloc (.cells R 145)) s 81
 rw [World.size_alloc] at bp
 have cL:Arr (((w.alloc (.cells R 145)).alloc (.cells #[.string s,.int .i64 0,.int .i64 0] 81)).alloc (.cells R 145)) (w.heap.size+1+1) 34 (cmF zid (.slice none 0 0) ⟨#[]⟩):=by
  have:=rT ((w.alloc (.cells R 145)).alloc (.cells #[.string s,.int .i64 0,.int .i64 0] 81)) bR (.slice none 0 0) ⟨#[]⟩ 145
  rw [World.size_alloc,World.size_alloc,←U] at this
  exact this
 have cJ:R.size=34:=by rw [U,List.size_toArray,gP _ _ _ bR]
 have cF:R.toList=cmC zid (.slice none 0 0) ⟨#[]⟩:=by rw [U]
 have bz:Hid (R.all (·.oneCell')=true):=by unfold Hid;rw [U];exact all_oneCell_toArray (zn _ _ _ _ _)
 have X:(prog.info? 145).map (·.size)=some 34:=by kernel_rfl
 have cs:=ah b2
 have ch:=ah bp
 have bs:=ah cL
 have M:=ah cJ
 have cy:=ah cF
 clear b2 bp cL cJ cF U
 go_enter func95,ntmps95
 go_wp2_with (refine wpList_store_mid rfl 145 _ _ rfl (w.heap.size+1+1) 0 R rfl rfl ?g1 ?g2 ?g3 ?_)
 case g1=>rw [M.out];exact bs.out.there
 case g2=>rw [M.out];exact X
 case g3=>exact bz.out
 generalize hW:(((w.alloc (.cells R 145)).alloc _).alloc _).setCells _ _ _=W
 have ci:Below w.heap.size w W:=by
  rw [←hW]
  exact below_setCells _ (by omega) _ _ _ ((bal.alloc (by simp) _).alloc (by simp;omega) _)
 have hR:Arr W w.heap.size 34 (cmF zid (.slice none 0 0) ⟨#[]⟩):=by
  rw [←hW];exact ((cs.out.alloc (by omega) _).alloc (by omega) _).fG (by omega) _ _
 have hB:Arr W (w.heap.size+1) 3 (rd0 s).c:=by
  rw [←hW];exact (ch.out.alloc (by omega) _).fG (by omega) _ _
 have hC:Arr W (w.heap.size+1+1) 34 (cmF zid (.slice none 0 0) ⟨#[]⟩):=by
  rw [←hW]
  exact (bs.out.setCells 0 R.toList (by rw [Array.length_toList,M.out];exact Nat.le_refl _)).congr fun k hk=>by
   rw [Array.length_toList,M.out,if_pos ⟨by omega,by omega⟩,cy.out];rfl
 have di:w.heap.size+1+1<W.heap.size:=hC.lt (by omega)
 have ap:=ah ci
 have HR:=ah hR
 clear hW cs ch bs ci hR
 have bn:=ah (dz s (show s.size≤1000000 by omega))
 have a4:=ah (yB (w.heap.size+1) (rd0 s) W hB bn.out)
 have aE:=ah ((rd0 s).jW bn.out)
 have d:Hid ((rd0 s).id.2.length=32):=ah (dX _)
 have q:Hid ((rd0 s).commit=((((((rd0 s).id.1.num 4).1.ids ((rd0 s).id.1.num 4).2).1.text 64).1,(rd0 s).id.2,(((rd0 s).id.1.num 4).1.ids ((rd0 s).id.1.num 4).2).2,((((rd0 s).id.1.num 4).1.ids ((rd0 s).id.1.num 4).2).1.text 64).2))):=ah rfl
 have an:Hid (aH s=if (rd0 s).commit.1.fin=0∧bB (rd0 s).commit.2=true then some (rd0 s).commit.2 else none):=ah rfl
 have bk:=ah (uT s (by omega))
 have bm:=ah ((rd0 s).qL bn.out)
 generalize (rd0 s).commit=cm at q an bk bm
 generalize (rd0 s).id=x0 at a4 aE d q
 obtain ⟨r0,t⟩:=x0
 dsimp only at a4 aE d q
 have HC:=ah hC
 clear hB hC
 refine a4.out.mono ?_
 rintro e w1 ⟨rfl,cq,a1⟩
 have b7:(idC t).length=32:=by rw [aA,d.out]
 have cz:=HR.out.grown a1 (by omega)
 have a7:=HC.out.grown a1 (by omega)
 have b4:w1.there (w.heap.size+1+1) 0 32:=fun j hj=>⟨by rw [a7.cell _ (by omega)];rfl,a7.free _ (by omega)⟩
 have cj:=ah b4
 have b0:=ah (cq.fG (B:=w.heap.size+1+1) (by omega) (idC t) 0)
 have bo:=ah (cz.fG (B:=w.heap.size+1+1) (by omega) (idC t) 0)
 have bt:=ah ((a7.setCells 0 (idC t) (by omega)).congr (Md bR d.out _ _))
 have S:=ah (below_setCells (B:=w.heap.size) (a:=w) (w.heap.size+1+1) (by omega) (idC t) 0 w1 (ap.out.grown a1 (by have:=ap.out.size;omega) (fun k hk=>by cases hk;omega)))
 have cf:=ah b7
 have cw:=ah (bC t)
 have df:(prog.info? 143).map (·.size)=some 32:=by kernel_rfl
 clear cq cz a7 a1 b4 b7 HR HC ap a4
 have ax:idV t= .agg (idC t).toArray:=rfl
 rw [ax]
 clear ax
 generalize cI:idC t=us at b0 bo bt S cf cw
 have dj:=ah cI
 clear cI
 go_wp2_with (first|(refine aj rfl 143 _ _ rfl (w.heap.size+1+1) 0 us ?y1 ?y2 32 cf.out ?y4 df cw.out ?_)|fail)
 try case y1=>rfl
 try case y2=>rfl
 try case y4=>exact cj.out
 have ba:=ah (sO (w.heap.size+1) r0 4 (w1.setCells (w.heap.size+1+1) 0 us) b0.out aE.out (by omega))
 have ab:=ah (Rd.bK r0 4 aE.out)
 generalize r0.num 4=x1 at ba ab q
 obtain ⟨C,n⟩:=x1
 dsimp only at ba ab q
 have dp:n≤4:=ab.out.2
 have bx:=ah ab.out.1
 refine ba.out.mono ?_
 rintro e w2 ⟨rfl,cv,a2⟩
 have ap:=ah cv
 have dc:=ah (bo.out.grown a2 (by omega))
 have cP:=ah (bt.out.grown a2 (by omega))
 have cG:=ah (S.out.grown a2 (by have:=S.out.size;omega) (fun k hk=>by cases hk;omega))
 clear cv a2 b0 bo bt S ba ab cj
 go_wp2
 have HL:Hid (∀k,((C.ids k).2).length=k):=ah (fun k=>Rd.rO k C)
 go_loopw [7] (fun i wr=> ∃(k:Nat) (v:Value),k≤n∧i= .int .i64 k∧Arr wr (w.heap.size+1) 3 (C.ids k).1.c∧Arr wr (w.heap.size+1+1) 34 (cmF t v ⟨#[]⟩)∧wr.ownsRow (w.heap.size+1+1+1) 143 32 v k (dx (C.ids k).2)∧Arr wr w.heap.size 34 (cmF zid (.slice none 0 0) ⟨#[]⟩)∧Below w.heap.size w wr) (fun i _=>(n-intOf i).toNat)
 case atStart=>exact ⟨0,.slice none 0 0,by omega,rfl,ap.out,cP.out,World.ownsRow_nil _ _ _ _,dc.out,cG.out⟩
 obtain ⟨wo,rfl⟩:∃wo:World,wo=wr:=⟨_,rfl⟩
 obtain ⟨k,v,hk,rfl,hB,hC,z,hR,hb⟩:=hrel
 obtain ⟨H,J,rfl⟩:=dL z
 have c1:=hC.lt (by omega)
 by_cases c2:k<n
 ·have d1:decide ((k:Int)<n)=true:=decide_eq_true (by omega)
  have d2:decide (k<n)=true:=decide_eq_true c2
  have br:wo.drew.cell? ⟨w.heap.size+1+1,32,none⟩=some (.slice H k J):=by
   show wo.cell? ⟨w.heap.size+1+1,32,none⟩=_
   rw [hC.cell 32 (by omega),jr d.out]
  have HI:=ah (yB (w.heap.size+1) (C.ids k).1 wo.drew ⟨hB.cell,hB.free⟩ (Rd.fE k C bx.out))
  have bu:=ah (Rd.ug k C)
  have ag:Below wo.heap.size wo wo.drew:=(Below.refl _ _).drew
  have cE:=ah (hC.below ag c1)
  have b6:=ah (hR.below ag (by omega))
  have cD:=ah (own_below z ag)
  have aw:=ah (hb.trans (ag.mono hb.size))
  clear hB hC hR z hb ag
  go_wp2
  refine wrL 7 (fun w'=>w'.cell? ⟨w.heap.size+1+1,32,none⟩=some (.slice H k J)) ?_
  refine WL.tk 0 br ?_
  refine WL.tk 1 br ?_
  refine WL.tk 2 br ?_
  refine WL.on 3 ?_
  go_wp2_with fail
  refine HI.out.mono ?_
  rintro e w3 ⟨rfl,ad,m⟩
  have G:=cE.out.grown m (by omega)
  have cA:w3.cell? ⟨w.heap.size+1+1,32,none⟩=some (.slice H k J):=by rw [G.cell 32 (by omega),jr d.out]
  have bl:(idC (C.ids k).1.id.2).length=32:=by rw [aA];exact dX _
  have ai:=bC (C.ids k).1.id.2
  have ax:idV (C.ids k).1.id.2= .agg (idC (C.ids k).1.id.2).toArray:=rfl
  rw [ax]
  clear ax
  have cg:Hid (dx (C.ids (k+1)).2=dx (C.ids k).2++idC (C.ids k).1.id.2):=by unfold Hid;rw [bu.out];exact lY _ _
  have da:Hid ((C.ids (k+1)).1=(C.ids k).1.id.1):=by unfold Hid;rw [bu.out]
  have Z:=ah (fZ cD.out m (by omega))
  have c0:=ah G
  have cR:=ah ad
  have cY:=ah (b6.out.grown m (by omega))
  have al:=ah (aw.out.grown m (by have:=aw.out.size;omega) (fun k hk=>by cases hk;omega))
  have bf:=ah (show w.heap.size+1+1<w3.heap.size from G.lt (by omega))
  have b9:=ah cA
  clear G ad m cA HI bu cE b6 cD aw
  generalize idC (C.ids k).1.id.2=uk at bl ai cg
  have a3:=ah bl
  have ac:=ah ai
  have ct:Hid (∀w,(sizeOf 143).run prog w= .ok uk.length w):=ah (fun w=>by rw [a3.out];kernel_rfl)
  clear bl ai
  go_wp2
  refine ⟨b9.out,?_⟩
  refine WL.on 4 ?_
  refine aO rfl (.tmp 25) 106 143 rfl uk zi rfl underlying106 ct.out b8 (by rw [a3.out];omega) (by rw [a3.out];omega) ?_
  simp only [Act.put]
  refine ⟨(uY w3 _ _ bf.out).trans b9.out,?_⟩
  refine WL.on 5 ?_
  refine wpList_append_own _ rfl (.tmp 23) (.tmp 26) 106 rfl (w.heap.size+1+1+1) 143 i0 (.agg zi) 32 32 underlying106 hi c9 c4 cV de.out (by decide) _ k (dx (C.ids k).2) rfl (Z.out.alloc _) ⟨w3.heap.size,0,none⟩ 1 1 uk rfl a3.out (fun j u hj=>iP _ uk _ j u hj) ac.out (by unfold maxLen;omega) (by omega) (by rw [World.size_alloc];have:=bf.out;omega) ?_
  intro v' w5 F az _
  obtain ⟨c7,c3,rfl⟩:=dL F
  have bh:(Value.slice H k J).ownBlock≠some (w.heap.size+1+1):=fun e=>by have:=(Z.out.lt _ e).1;omega
  have a6:=(c0.out.alloc (by omega) (.cells uk.toArray 143)).jZ az bh
  have ca:=(cR.out.alloc (by omega) (.cells uk.toArray 143)).jZ az (fun e=>by have:=(Z.out.lt _ e).1;omega)
  have cn:=(cY.out.alloc (by omega) (.cells uk.toArray 143)).jZ az (fun e=>by have:=(Z.out.lt _ e).1;omega)
  have bi:=(al.out.alloc al.out.size (.cells uk.toArray 143)).grown az (by rw [World.size_alloc];have:=al.out.size;omega) (fun j hj=>by have:=(Z.out.lt j hj).1;omega)
  have c5:=a6.cell 32 (by omega)
  rw [jr d.out] at c5
  have f5:=a6.free 32 (by omega)
  have c6:=ah a6
  have Q:=ah ca
  have db:=ah cn
  have cr:=ah bi
  have cS:=ah F
  have cH:=ah (own_ne F (show w.heap.size+1+1<w.heap.size+1+1+1 by omega))
  clear a6 ca cn bi F az bh
  simp only [Act.put]
  refine ⟨c5,?_⟩
  refine WL.on 6 ?_
  go_wp2
  refine ⟨c5,?_⟩
  refine WL.la 7 ?_
  go_wp2
  go_roundw
  case rel =>
   refine ⟨k+1,.slice c7 (k+1) c3,by omega,by go_num,?_,?_,?_,db.out.far (by show w.heap.size+1+1≠w.heap.size;omega) _,cr.out.setCell (by show w.heap.size≤w.heap.size+1+1;omega) _⟩
   ·rw [da.out];exact Q.out.far (by show w.heap.size+1+1≠w.heap.size+1;omega) _
   ·exact (c6.out.set 32 (by omega) _).congr (Mc d.out _ _ _)
   rw [cg.out];exact jR cS.out cH.out
  case measure=>simp [intOf];omega
 obtain rfl:k=n:=by omega
 have Y:=ah (Rd.dG _ 64 (Rd.fE k C bx.out))
 have HT:=ah (jH (w.heap.size+1) (C.ids k).1 64 wo hB (Rd.fE k C bx.out) (by omega))
 have K:=ah (Rd.rP k C)
 have a8:=HL.out k
 generalize cN:C.ids k=x2 at HT q Y z K a8
 obtain ⟨r2,l⟩:=x2
 dsimp only at HT q Y z K a8
 clear hB cN
 generalize r2.text 64=x3 at HT q Y
 obtain ⟨r3,x⟩:=x3
 dsimp only at HT q Y
 obtain rfl:cm=(r3,t,l,x):=q.out
 dsimp only at an bk bm
 clear q Y
 have HR:=ah hR
 have HC:=ah hC
 have HO:=ah z
 have HB:=ah hb
 have cd:=ah a8
 clear hR hC z hb a8
 go_wp2_with fail
 refine HT.out.mono ?_
 rintro e w3 ⟨rfl,ad,m⟩
 have G:=HC.out.grown m (by omega)
 have cU:=G.cell 33 (by omega)
 have cW:=G.free 33 (by omega)
 have cx:=(G.set 33 (by omega) (.string x)).congr (Ma d.out _ _ x)
 have bb:=ah (ad.far (p:=⟨w.heap.size+1+1,33,none⟩) (by show w.heap.size+1+1≠w.heap.size+1;omega) (.string x))
 have a5:=ah ((HR.out.grown m (by omega)).far (p:=⟨w.heap.size+1+1,33,none⟩) (by show w.heap.size+1+1≠w.heap.size;omega) (.string x))
 have aq:=ah (jR (o:=33) (u:=.string x) (fZ HO.out m (by omega)) (own_ne (fZ HO.out m (by omega)) (show w.heap.size+1+1<w.heap.size+1+1+1 by omega)))
 have O:=ah ((HB.out.grown m (by have:=HB.out.size;omega) (fun k hk=>by cases hk;omega)).setCell (p:=⟨w.heap.size+1+1,33,none⟩) (by show w.heap.size≤w.heap.size+1+1;omega) (.string x))
 have bv:=ah cx
 have T:=ah (fun W hA=>kX (w.heap.size+1) r3 W hA bm.out)
 clear ad G cx m HR HC HO HB HT
 go_wp2_with fail
 generalize ce:w3.setCell _ _=W4
 rw [ce] at bb a5 aq O bv
 clear ce cU cW
 have ae:(cmC t (.slice H k J) x).length=34:=gP _ _ _ d.out
 have b1:=bv.out.range
 rw [BQ d.out] at b1
 have L:(prog.info? 145).map (·.size)=some (cmC t (.slice H k J) x).length:=by rw [ae];exact X
 have P:(cmC zid (.slice none 0 0) ⟨#[]⟩).length=34:=gP _ _ _ bR
 have bj:(prog.info? 145).map (·.size)=some (cmC zid (.slice none 0 0) ⟨#[]⟩).length:=by rw [P];exact X
 have am:Hid (∀W,Below W4.heap.size W4 W→dY W (.slice H k J) l):=ah (fun W N=>(dF.gq (B:=w.heap.size+1+1+1) (e:=143) (sz:=32) (rows:=l.map idC) (fun r hr=>by
  obtain ⟨y,hy,rfl⟩:=List.mem_map.1 hr
  rw [aA];exact K.out y hy) (by rw [List.length_map,cd.out];exact aq.out)).below N)
 have bc:=ah b1
 have b5:=ah (a5.out.lt (show 0<34 by omega))
 have a9:=ah (bv.out.lt (show 0<34 by omega))
 have dq:l.length≤4:=by rw [cd.out];omega
 have V:Hid (∀(W:World),Below W4.heap.size W4 W→W.there w.heap.size 0 34∧(W.setCells w.heap.size 0 R.toList).rangeAt w.heap.size 0 (cmC zid (.slice none 0 0) ⟨#[]⟩)∧Below w.heap.size w (W.setCells w.heap.size 0 R.toList)):=ah (fun W N=>by
  have hr:=a5.out.below N b5.out
  refine ⟨hr.there,?_,below_setCells _ (Nat.le_refl _) _ _ _ (O.out.trans (N.mono O.out.size))⟩
  rw [cy.out]
  exact World.rangeAt_setCells_same W w.heap.size 0 _ (by rw [P];exact hr.there))
 clear b1 ae P
 by_cases D:r3.fin=0
 ·rw [D] at T
  have bd:=ah (fun W (N:Below W4.heap.size W4 W)=>pQ t (.slice H k J) l x W (am.out W N) d.out K.out (by omega))
  cases I:bB (t,l,x) with
  | false =>
   have f:Hid (aH s=none):=by unfold Hid;rw [an.out,if_neg (by rw [I];simp)]
   rw [I] at bd
   clear I D
   refine (T.out W4 bb.out).mono ?_
   rintro e w4 ⟨rfl,E⟩
   have Q:=ah E
   have aa:=ah (ay bc.out E a9.out)
   clear E
   go_wp2_with (refine aG rfl 145 _ rfl (w.heap.size+1+1) 0 rfl _ _ aa.out underlying145 rfl L ?_)
   refine (bd.out _ Q.out).mono ?_
   rintro e w5 ⟨rfl,ar⟩
   have A:=bth Q ar
   clear ar
   go_wp2_with (refine wpList_store_mid rfl 145 _ _ rfl w.heap.size 0 R rfl rfl ?k1 ?k2 ?k3 ?_)
   case k1=>rw [M.out];exact (V.out _ A.out).1
   case k2=>rw [M.out];exact X
   case k3=>exact bz.out
   refine aD rfl w.heap.size 0 rfl _ _ (V.out _ A.out).2.1 underlying145 rfl bj rfl _ rfl ⟨.slice none 0 0,?_,?_,fun g hg=>(by cases hg),fun _ _ _ e=>(by cases e;exact Nat.le_refl _),(V.out _ A.out).2.2⟩
   ·rw [f.out];rfl
   rw [f.out];exact ⟨none,0,rfl,by simp,fun h=>absurd rfl h⟩
  | true =>
   have f:Hid (aH s=some (t,l,x)):=by unfold Hid;rw [an.out,if_pos ⟨D,I⟩]
   have dg:x.size≤64:=by
    unfold bB at I
    simp only [Bool.and_eq_true,decide_eq_true_eq] at I
    exact I.2.2
   have b3:=bk.out D
   have aw:Hid (∀W,Below W4.heap.size W4 W→Calls prog 167 #[.agg (cmC t (.slice H k J) x).toArray] W fun e w'=>e= .returned (.string s)∧Below W.heap.size W w'):=ah (fun W N=>by
    have:=rz t (.slice H k J) l x W (am.out W N) d.out K.out (by omega) (by omega)
    rw [b3,mY] at this
    exact this)
   rw [I] at bd
   clear I D b3
   refine (T.out W4 bb.out).mono ?_
   rintro e w4 ⟨rfl,E⟩
   have Q:=ah E
   have aa:=ah (ay bc.out E a9.out)
   clear E
   go_wp2_with (refine aG rfl 145 _ rfl (w.heap.size+1+1) 0 rfl _ _ aa.out underlying145 rfl L ?_)
   refine (bd.out _ Q.out).mono ?_
   rintro e w5 ⟨rfl,ar⟩
   have A:=bth Q ar
   have cp:=ah (ay bc.out A.out a9.out)
   clear ar
   go_wp2_with (refine aG rfl 145 _ rfl (w.heap.size+1+1) 0 rfl _ _ cp.out underlying145 rfl L ?_)
   refine (aw.out _ A.out).mono ?_
   rintro e w6 ⟨rfl,cb⟩
   have a0:=bth A cb
   have cC:=ah (ay bc.out a0.out a9.out)
   have cl:=ah (a5.out.below a0.out b5.out)
   have cM:=ah (below_setCells (B:=w.heap.size) (a:=w) w.heap.size (Nat.le_refl _) (cmC t (.slice H k J) x) 0 w6 (O.out.trans (a0.out.mono O.out.size)))
   have af:(cmC t (.slice H k J) x).length=34:=gP _ _ _ d.out
   have c8:=ah (World.rangeAt_setCells_same w6 w.heap.size 0 (cmC t (.slice H k J) x) (by rw [af];exact cl.out.there))
   have ac:=ah (zn t H k J x)
   have ck:=ah af
   clear cb af
   go_wp2_with (first|(refine wpList_load_mid rfl 145 _ rfl (w.heap.size+1+1) 0 rfl _ _ cC.out underlying145 rfl L ?_)|(refine aj rfl 145 _ _ rfl w.heap.size 0 (cmC t (.slice H k J) x) ?z1 ?z2 34 ck.out ?z4 X ac.out ?_))
   try case z1=>rfl
   try case z2=>rfl
   try case z4=>exact cl.out.there
   try simp only [Act.put]
   have cQ:Hid (dY (w6.setCells w.heap.size 0 (cmC t (.slice H k J) x)) (.slice H k J) l):=ah (by
    have h:=am.out w6 a0.out
    obtain ⟨ao,cX,e,hm,h2⟩:=h
    refine ⟨ao,cX,e,hm,fun cT=> ?_⟩
    obtain ⟨b,off,e1,dl,hc⟩:=h2 cT
    have dd:b≠w.heap.size:=fun e2=>by
     injection e with q1 q2 q3
     have:=(aq.out.lt b (by rw [←q1] at e1;rw [e1];rfl)).1
     omega
    refine ⟨b,off,e1,by have:=(dO (cmC t (.slice H k J) x) 0 w6 (World.grownBy.refl w6 (some w.heap.size))).size;omega,fun i hi j u hu=> ?_⟩
    rw [World.cell?_setCells_out w.heap.size _ 0 w6 ⟨b,_,none⟩ (fun e3 _=>absurd e3 dd)]
    exact hc i hi j u hu)
   refine aD rfl w.heap.size 0 rfl _ _ c8.out underlying145 rfl L rfl _ rfl ⟨.slice H k J,?_,?_,fun g hg=>(by have:=(aq.out.lt g hg).1;omega),fun _ _ _ e=>(by cases e;rcases aq.out.2 with ⟨h1,h2⟩|⟨_,_,_,h1,_,_,h2,_⟩<;>cases h1<;>omega),cM.out⟩
   ·rw [f.out];rfl
   rw [f.out];exact cQ.out
 have f:Hid (aH s=none):=by unfold Hid;rw [an.out,if_neg (fun h=>D h.1)]
 have d2:((r3.fin:Int) != 0)=true:=by rw [bne_iff_ne];omega
 clear D
 refine (T.out W4 bb.out).mono ?_
 rintro e w4 ⟨rfl,E⟩
 have A:=ah E
 clear E
 go_wp2_with (refine wpList_store_mid rfl 145 _ _ rfl w.heap.size 0 R rfl rfl ?n1 ?n2 ?n3 ?_)
 case n1=>rw [M.out];exact (V.out _ A.out).1
 case n2=>rw [M.out];exact X
 case n3=>exact bz.out
 refine aD rfl w.heap.size 0 rfl _ _ (V.out _ A.out).2.1 underlying145 rfl bj rfl _ rfl ⟨.slice none 0 0,?_,?_,fun g hg=>(by cases hg),fun _ _ _ e=>(by cases e;exact Nat.le_refl _),(V.out _ A.out).2.2⟩
 ·rw [f.out];rfl
 rw [f.out];exact ⟨none,0,rfl,by simp,fun h=>absurd rfl h⟩
theorem CS (s:ByteArray) (w:World) (a:s.size≤100000) :
  Calls prog 95 #[.string s] w fun e w'=> ∃v,e= .returned (.tuple #[.agg (cmC ((aH s).getD (zid,[],⟨#[]⟩)).1 v ((aH s).getD (zid,[],⟨#[]⟩)).2.2).toArray,.bool (aH s).isSome])∧dY w' v ((aH s).getD (zid,[],⟨#[]⟩)).2.1∧(∀g,v.ownBlock=some g→w.heap.size≤g)∧Below w.heap.size w w' :=
 (CU s w a).mono fun _ _ ⟨v,h1,d,b,_,f⟩=>⟨v,h1,d,b,f⟩
theorem Ar (s:ByteArray) (w:World) (a:s.size≤100000) :
  Calls prog 95 #[.string s] w fun e w'=> ∃v,e= .returned (.tuple #[.agg (cmC ((aH s).getD (zid,[],⟨#[]⟩)).1 v ((aH s).getD (zid,[],⟨#[]⟩)).2.2).toArray,.bool (aH s).isSome])∧dY w' v ((aH s).getD (zid,[],⟨#[]⟩)).2.1∧Below w.heap.size w w' :=
 (CS s w a).mono fun _ _ ⟨v,h1,b,_,d⟩=>⟨v,h1,b,d⟩
theorem zm {s:ByteArray} {c:List UInt8×List (List UInt8)×ByteArray} (h:aH s=some c):c.1.length=32∧(∀x∈c.2.1,x.length=32)∧c.2.1.length≤4∧c.2.2.size≤64∧c.2.1.Nodup:=by
 unfold aH at h
 split at h
 ·rename_i b
  cases h
  obtain ⟨_,a⟩:=b
  unfold bB Je at a
  simp only [Bool.and_eq_true,decide_eq_true_eq] at a
  exact ⟨dX _,Rd.rP _ _,a.2.1,a.2.2,a.1⟩
 cases h
theorem BO (s:ByteArray):((aH s).getD (zid,[],⟨#[]⟩)).1.length=32:=by
 cases h:aH s with
 | none=>exact bR
 | some c=>exact (zm h).1
theorem mP (k:Int) (s:ByteArray) (w:World) :
  Calls prog 43 #[.agg #[.int .i64 k,.string s]] w fun e w'=>e= .returned (.bool (av ⟨k,s⟩))∧Below w.heap.size w w':=by
 have p:Below w.heap.size w (w.alloc (.cells #[.int .i64 k,.string s] 24)):=bal
 have d:=ah p
 clear p
 by_cases M:4096<s.size
 ·have h:Hid (av ⟨k,s⟩=false):=by unfold Hid av;rw [decide_eq_false (show ¬s.size≤4096 by omega)];rfl
  have H:decide ((4096:Int)<s.size)=true:=decide_eq_true (by omega)
  go_enter func43,ntmps43
  go_wp2_with fail
  go_ret
  exact ⟨aI h.out.symm,d.out⟩
 have H:decide ((4096:Int)<s.size)=false:=decide_eq_false (by omega)
 have j:Hid (av ⟨k,s⟩=if k=1 then true else if k=2 then (bE s).isSome else if k=3 then (aH s).isSome else false):=by
  unfold Hid av;rw [decide_eq_true (show s.size≤4096 by omega)];rfl
 by_cases i:k=2
 ·have I:(k==2)=true:=by rw [beq_iff_eq];exact i
  have h:Hid (av ⟨k,s⟩=(bE s).isSome):=by unfold Hid;rw [j.out,if_neg (by omega),if_pos i]
  have F:=ah (fun w=>yD s w (by omega))
  generalize (bE s).isSome=b at h F
  clear i
  go_enter func43,ntmps43
  go_wp2_with fail
  refine (F.out _).mono ?_
  rintro e w1 ⟨v,rfl,_,f⟩
  go_wp2
  go_ret
  exact ⟨aI h.out.symm,d.out.trans (f.mono d.out.size)⟩
 have I:(k==2)=false:=by rw [beq_eq_false_iff_ne];exact i
 by_cases l:k=3
 ·have K:(k==3)=true:=by rw [beq_iff_eq];exact l
  have h:Hid (av ⟨k,s⟩=(aH s).isSome):=by unfold Hid;rw [j.out,if_neg (by omega),if_neg i,if_pos l]
  have u:=ah (fun w=>Ar s w (by omega))
  have z:=BO s
  generalize (aH s).getD (zid,[],⟨#[]⟩)=c at u z
  generalize (aH s).isSome=b at h u
  have J:=ah z
  clear i l z
  obtain ⟨E,G,L,q⟩:=Fb
  have x:=ah q
  clear q
  have A:(prog.info? 145).map (·.size)=some 34:=by kernel_rfl
  go_enter func43,ntmps43
  go_wp2_with fail
  refine (u.out _).mono ?_
  rintro e w1 ⟨v,rfl,r,f⟩
  obtain ⟨t,g,rfl,_⟩:=r
  generalize (c.2.1.map idC).length=n
  have o:(w1.alloc (.cells E 145)).there w1.heap.size 0 34:=by
   rw [x.out];exact (rT w1 bR _ _ _).there
  have y:=ah o
  have D:=ah (gP c.1 (.slice t n g) c.2.2 J.out)
  have C:=ah (zn c.1 t n g c.2.2)
  have m:=ah (below_setCells (B:=w.heap.size) (a:=w) w1.heap.size (by have:=d.out.size;have:=f.size;omega) (cmC c.1 (.slice t n g) c.2.2) 0 _ ((d.out.trans (f.mono d.out.size)).alloc (by have:=d.out.size;have:=f.size;omega) (.cells E 145)))
  clear o f
  generalize cmC c.1 (.slice t n g) c.2.2=cs at D C m
  go_wp2_with (refine aj rfl 145 _ _ rfl w1.heap.size 0 cs ?z1 ?z2 34 D.out ?z4 A C.out ?_)
  try case z1=>rfl
  try case z2=>rfl
  try case z4=>exact y.out
  try simp only [Act.put]
  go_wp2
  go_ret
  exact ⟨aI h.out.symm,m.out⟩
 have K:(k==3)=false:=by rw [beq_eq_false_iff_ne];exact l
 have h:Hid (av ⟨k,s⟩=(k==1)):=by
  unfold Hid;rw [j.out,if_neg i,if_neg l]
  by_cases h1:k=1
  ·rw [if_pos h1];exact (beq_iff_eq.2 h1).symm
  rw [if_neg h1];exact (beq_eq_false_iff_ne.2 h1).symm
 clear i l
 go_enter func43,ntmps43
 go_wp2_with fail
 go_ret
 exact ⟨aI h.out.symm,d.out⟩
theorem K5 (a b:Int) (s t:ByteArray) (w:World):(Op.equalIn 10000 24 (.agg #[.int .i64 a,.string s]) (.agg #[.int .i64 b,.string t])).run prog w= .ok (a==b&&s.toList==t.toList) w:=by
 have u3:=underlying3
 have u9:=underlying9
 have a3:=Tryz.isAgg3
 have g:=Tryz.isAgg9
 have f:=Tryz.sizeOf3
 have e:=Tryz.sizeOf9
 have hS:prog.underlying 24=some (.struct (prog.fieldsOf 24)):=by kernel_rfl
 rw [show (10000:Nat)=9999+1 from rfl,run_equalIn_agg w 9999 24 _ _ hS (by kernel_rfl)]
 simp only [Program.fieldsOf,underlying24]
 go_simp
 by_cases h1:a=b<;>by_cases d:s.toList=t.toList<;>simp [h1,d]
def ob0:Ob:=⟨0,⟨#[]⟩⟩
def l9 (n:Nat):UInt8:=if n<10 then UInt8.ofNat (48+n) else UInt8.ofNat (87+n)
def bJ (x:List UInt8):List UInt8:=x.flatMap fun b=>[l9 (b.toNat/16),l9 (b.toNat%16)]
def qK (b:UInt8):Option Nat:=if 48≤b.toNat∧b.toNat≤57 then some (b.toNat-48) else if 97≤b.toNat∧b.toNat≤102 then some (b.toNat-87) else none
def BI (s:List UInt8) (i:Nat):Nat:=(qK (s.getD i 0)).getD 0
def iF (s:List UInt8):Option (List UInt8):=if s.length=64∧s.all (fun b=>(qK b).isSome)=true then some ((List.range 32).map fun i=>UInt8.ofNat (16*BI s (2*i)+BI s (2*i+1))) else none
def dN (b:UInt8):Nat:=if b=98 then 1 else if b=116 then 2 else if b=99 then 3 else 0
def aR (s:List UInt8):Option Ob:=match s with
 | []=>none
 | c::l=>if dN c=0 then none else
   if ((Rd.mk (ofB l) 0 0).text 4096).1.fin≠0 then none else
    if av ⟨(dN c:Int),((Rd.mk (ofB l) 0 0).text 4096).2⟩=true then some ⟨(dN c:Int),((Rd.mk (ofB l) 0 0).text 4096).2⟩ else none
structure Fl where
 dir:ByteArray
 name:ByteArray
 data:ByteArray
def bI:ByteArray:=⟨#[108,111,111,115,101]⟩
def iZ:ByteArray:=⟨#[112,97,99,107]⟩
def iR:ByteArray:=⟨#[114,101,102]⟩
def aW (s:ByteArray):Option Nat:=if s=bI then some 0 else if s=iZ then some 1 else if s=iR then some 2 else none
def oO (b:UInt8):Bool:=decide (33≤b.toNat∧b.toNat≤126∧b.toNat≠47)
def aJ (s:ByteArray):Bool:=s.data.toList.all oO&&decide (1≤s.size)&&decide (s.size≤80)
def dP (f:Fl) (k:Nat):Bool:=decide (aW f.dir=some k)&&aJ f.name&&decide (f.data.size≤1048576)
def qb (l:List Fl) (k:Nat) (x:ByteArray):Option ByteArray:=l.foldl (fun r f=>if dP f k=true∧f.name=x then some f.data else r) none
def jl (x:ByteArray):List ByteArray→List ByteArray
 | []=>[x]
 | y::l=>if y=x then y::l else if ltB x.data.toList y.data.toList=true then x::y::l else y::jl x l
def AQ (l:List Fl) (k:Nat):List ByteArray:=l.foldl (fun r f=>if dP f k=true then jl f.name r else r) []
def jA (l:List ByteArray):Prop:=l.Pairwise fun x y=>ltB x.data.toList y.data.toList=true
theorem gU {a b:ByteArray} (h:a.data.toList=b.data.toList):a=b:=by
 cases a;cases b
 congr 1
 exact Array.toList_inj.1 h
theorem oq (x y:ByteArray):∀l:List ByteArray,y∈jl x l↔y=x∨y∈l
 | []=>by simp [jl]
 | z::l=>by
  unfold jl
  split
  ·rename_i h;subst h;simp
  split
  ·simp
  rw [List.mem_cons,oq x y l,List.mem_cons]
  exact ⟨fun h=>h.elim (.inr ∘ .inl) (fun h=>h.elim .inl (.inr ∘ .inr)),fun h=>h.elim (.inr ∘ .inl) (fun h=>h.elim .inl (.inr ∘ .inr))⟩
theorem tF (x:ByteArray):∀l:List ByteArray,jA l→jA (jl x l)
 | [],_=>by simp [jl,jA]
 | z::l,h=>by
  unfold jA at h
  rw [List.pairwise_cons] at h
  unfold jl
  split
  ·unfold jA;rw [List.pairwise_cons];exact h
  rename_i b
  split
  ·rename_i a
   unfold jA
   rw [List.pairwise_cons,List.pairwise_cons]
   exact ⟨fun y hy=>(List.mem_cons.1 hy).elim (fun e=>e▸a) (fun hy=>gy a (h.1 y hy)),h⟩
  rename_i a
  unfold jA
  rw [List.pairwise_cons]
  refine ⟨fun y hy=> ?_,tF x l h.2⟩
  rcases (oq x y l).1 hy with rfl|hy
  ·cases d:ltB z.data.toList y.data.toList with
   | true=>rfl
   | false=>exact absurd (gU (iC d (by simpa using a))) b
  exact h.1 y hy
theorem Js (l:List Fl) (k:Nat):jA (AQ l k):=by
 unfold AQ
 have:∀(l:List Fl) (r:List ByteArray),jA r→jA (l.foldl (fun r f=>if dP f k=true then jl f.name r else r) r):=by
  intro l
  induction l with
  | nil=>exact fun _ h=>h
  | cons f l ih =>
   intro r h
   rw [List.foldl_cons]
   refine ih _ ?_
   split
   ·exact tF _ _ h
   exact h
 exact this l [] List.Pairwise.nil
theorem AO (l:List Fl) (k:Nat) (x:ByteArray):x∈AQ l k↔(qb l k x).isSome=true:=by
 unfold AQ qb
 have:∀(l:List Fl) (r:List ByteArray) (o:Option ByteArray),(x∈r↔o.isSome=true)→(x∈l.foldl (fun r f=>if dP f k=true then jl f.name r else r) r↔(l.foldl (fun r f=>if dP f k=true∧f.name=x then some f.data else r) o).isSome=true):=by
  intro l
  induction l with
  | nil=>exact fun _ _ h=>h
  | cons f l ih =>
   intro r o h
   rw [List.foldl_cons,List.foldl_cons]
   refine ih _ _ ?_
   by_cases a:dP f k=true
   ·rw [if_pos a,oq]
    by_cases e:f.name=x
    ·rw [if_pos ⟨a,e⟩];simp [e]
    rw [if_neg (fun h=>e h.2),←h]
    exact ⟨fun h=>h.elim (fun b=>absurd b.symm e) id,.inr⟩
   rw [if_neg a,if_neg (fun h=>a h.1)];exact h
 exact this l [] none (by simp)
theorem infoByte:(prog.info? 5).map (fun i=>(i.zero,i.size,i.bytes))=some (some (.int .u8 0),1,1):=by kernel_rfl
theorem sizeBuilder:(prog.info? 132).map (·.size)=some 2:=by kernel_rfl
theorem liesBuilder:liesAt prog prog.depth 134 (2/prog.cellsOf 134) 0 132 1=true:=by kernel_rfl
def Wr (B b:Nat) (L:List UInt8) (w:World):Prop:=Lib.IsBuilder 134 5 B b (Lib.byteCells L) w
theorem uX (b:Nat) (w:World) (d:w.cell? ⟨b,0,none⟩=some (.pointer (some ⟨b,0,none⟩))) :
  Calls prog 225 #[.pointer (some ⟨b,0,none⟩)] w fun e w'=>e= .returned (.tuple #[])∧w'=w:=by
 obtain ⟨j,a,_⟩:=Option.map_eq_some_iff.1 sizeBuilder
 go_enter func225,ntmps225
 go_wp2
 rw [Lib.run_neq_ptr_same w _ underlying130 a]
 go_wp2
 go_end0
 exact ⟨rfl,rfl⟩
theorem qM (b:Nat) (w:World) (h:w.cell? ⟨b,0,none⟩=some (.pointer none)) (a:w.shape? b=some (134,2)) (g:w.frozen? ⟨b,0,none⟩=false) :
  Calls prog 225 #[.pointer (some ⟨b,0,none⟩)] w fun e w'=>e= .returned (.tuple #[])∧w'=w.setCell ⟨b,0,none⟩ (.pointer (some ⟨b,0,none⟩)):=by
 obtain ⟨j,f,d⟩:=Option.map_eq_some_iff.1 sizeBuilder
 go_enter func225,ntmps225
 go_wp2
 rw [Lib.run_to_unsafe w ⟨b,0,none⟩ underlying130 underlying348 f (by rw [d];decide) a (Nat.zero_lt_succ 1)]
 simp only [Result.andThen]
 rw [Oper.upon_value]
 go_wp2
 rw [run_callFunc_extern func266 (by kernel_rfl) (by kernel_rfl) (by kernel_rfl) (e:=Extern.AbiNoEscape.same) (by kernel_rfl)]
 rw [Lib.run_noEscape]
 simp only [Result.andThen]
 rw [Oper.upon_value]
 go_wp2
 rw [Lib.run_from_unsafe w ⟨b,0,none⟩ underlying348 underlying130 f a liesBuilder]
 simp only [Result.andThen]
 rw [Oper.upon_value]
 go_wp2
 go_end0
 exact ⟨rfl,rfl⟩
theorem xP (B b:Nat) (a:List Value) (w:World) (h:Lib.IsBuilder 134 5 B b a w) :
  Calls prog 225 #[.pointer (some ⟨b,0,none⟩)] w fun e w'=>e= .returned (.tuple #[])∧(Lib.BuilderAt 134 5 B b (.pointer (some ⟨b,0,none⟩)) a w'∧Below B w w'):=by
 rcases h with h|h
 ·refine (qM b w h.cell0 h.shape h.frozen0).mono ?_
  rintro e w' ⟨rfl,rfl⟩
  exact ⟨rfl,h.used _,(Below.refl B w).setCell (p:=⟨b,0,none⟩) h.1 _⟩
 refine (uX b w h.cell0).mono ?_
 rintro e w' ⟨rfl,rfl⟩
 exact ⟨rfl,h,Below.refl B _⟩
theorem vY (B b:Nat) (L:List UInt8) (c:UInt8) (w:World) (h:Wr B b L w) (o:L.length+1≤140737488355328) (H:B≤w.heap.size) :
  Calls prog 198 #[.pointer (some ⟨b,0,none⟩),.int .u8 (c.toNat:Int)] w fun e w'=>e= .returned .nilIface∧Wr B b (L++[c]) w'∧Below B w w':=by
 obtain ⟨J,hi,x,C,z⟩:=info_parts infoByte
 have q:=Lib.byteCells_length L
 have E:Lib.byteCells (L++[c])=Lib.byteCells L++[.int .u8 (c.toNat:Int)]:=by simp [Lib.byteCells]
 unfold Wr at h ⊢
 rw [E]
 rw [←q] at o
 generalize Lib.byteCells L=y at h q o
 clear q
 generalize (c.toNat:Int)=c
 have M:=ah h
 clear h E
 go_enter func198,ntmps198
 go_wp2_with (go_at_call 225;refine (xP B b y _ M.out).mono ?_)
 rintro e w1 ⟨rfl,h1,m⟩
 obtain ⟨F,v,l,n,t⟩:=h1
 have P:w1.cell? ⟨b,0,none⟩=some (.pointer (some ⟨b,0,none⟩)):=by rw [Lib.cell_of_heap l];rfl
 have c1:w1.cell? ⟨b,1,none⟩=some v:=by rw [Lib.cell_of_heap l];rfl
 go_wp2_with (at_builtin;refine wpList_append_own _ rfl _ _ 89 rfl B 5 J (.int .u8 0) 1 1 underlying89 hi x C z rfl (by decide) _ _ _ rfl (n.alloc _) ⟨w1.heap.size,0,none⟩ 1 1 [.int .u8 c] rfl rfl ?c1 ?c2 ?c3 ?c4 ?c5 ?_)
 case c1 =>
  intro j u r
  match j,r with
  | 0,r=>simp at r;subst r;simp [Addr.add]
 case c2=>intro u hu;simp at hu;subst hu;rfl
 case c3=>unfold maxLen;omega
 case c4=>omega
 case c5=>have:=m.size;simp;omega
 intro K s a d _
 have A:b<w1.heap.size:=by
  rcases Nat.lt_or_ge b w1.heap.size with D|D
  ·exact D
  simp [Array.getElem?_eq_none D] at l
 have i:s.heap[b]? = some (.cells #[.pointer (some ⟨b,0,none⟩),v] 134 (0,0)):=by
  rw [d.block b (by simp;omega) (fun e=>t e.symm),Lib.alloc_old w1 _ b A]
  exact l
 have Q:s.cell? ⟨b,0,none⟩=some (.pointer (some ⟨b,0,none⟩)):=by rw [Lib.cell_of_heap i];rfl
 have N:s.cell? ⟨b,1,none⟩=some v:=by rw [Lib.cell_of_heap i];rfl
 have R:s.frozen? ⟨b,1,none⟩=false:=Lib.frozen_of_heap i 1
 obtain ⟨g,f,rfl⟩:∃g f,K= .slice (some ⟨g,0,none⟩) (y.length+1) f:=by
  rcases a.2 with ⟨_,O⟩|⟨g,f,cur,I,_⟩
  ·omega
  exact ⟨g,f,I⟩
 go_wp2
 go_ret
 refine ⟨rfl,.inr ?_,?_⟩
 ·exact Lib.BuilderAt.put (T:=134) (e:=5) F i (bs':=y++[.int .u8 c]) (by simpa using a) (by decide)
 exact ((m.alloc (by have:=m.size;omega) _).grown d (by have:=m.size;simp;omega) (fun k G=>(n.lt k G).1)).setCell (p:=⟨b,1,none⟩) F _
theorem zJ (B b:Nat) (L:List UInt8) (s:ByteArray) (w:World) (h:Wr B b L w) (l:L.length+s.size≤140737488355328) (H:B≤w.heap.size) :
  Calls prog 160 #[.pointer (some ⟨b,0,none⟩),.string s] w fun e w'=>e= .returned (.tuple #[.int .i64 s.size,.nilIface])∧Wr B b (L++s.data.toList) w'∧Below B w w':=by
 obtain ⟨I,hi,t,z,u⟩:=info_parts infoByte
 have n:=Lib.byteCells_length L
 have C:Lib.byteCells (L++s.data.toList)=Lib.byteCells L++Lib.strCells s:=by simp [Lib.byteCells,Lib.strCells]
 unfold Wr at h ⊢
 rw [C]
 rw [←n] at l
 generalize Lib.byteCells L=D at h n l
 clear n
 have K:=ah h
 clear h C
 go_enter func160,ntmps160
 go_wp2_with (go_at_call 225;refine (xP B b D _ K.out).mono ?_)
 rintro e w1 ⟨rfl,h1,o⟩
 obtain ⟨E,v,i,j,r⟩:=h1
 have N:w1.cell? ⟨b,0,none⟩=some (.pointer (some ⟨b,0,none⟩)):=by rw [Lib.cell_of_heap i];rfl
 have c1:w1.cell? ⟨b,1,none⟩=some v:=by rw [Lib.cell_of_heap i];rfl
 go_wp2_with (at_builtin;refine Lib.wpList_append_own_string _ rfl _ _ 89 9 rfl B 5 I underlying89 underlying9 hi t z u _ _ _ rfl j s rfl ?c3 ?c4 ?c5 ?_)
 case c3=>unfold maxLen;omega
 case c4=>omega
 case c5=>have:=o.size;omega
 intro J q a d _
 have y:b<w1.heap.size:=by
  rcases Nat.lt_or_ge b w1.heap.size with A|A
  ·exact A
  simp [Array.getElem?_eq_none A] at i
 have f:q.heap[b]? = some (.cells #[.pointer (some ⟨b,0,none⟩),v] 134 (0,0)):=by
  rw [d.block b y (fun e=>r e.symm)]
  exact i
 have O:q.cell? ⟨b,0,none⟩=some (.pointer (some ⟨b,0,none⟩)):=by rw [Lib.cell_of_heap f];rfl
 have M:q.cell? ⟨b,1,none⟩=some v:=by rw [Lib.cell_of_heap f];rfl
 have P:q.frozen? ⟨b,1,none⟩=false:=Lib.frozen_of_heap f 1
 obtain ⟨F,n',m,rfl⟩:∃F n' m,J= .slice F n' m:=by
  rcases a.2 with ⟨x,_⟩|⟨g,m,cur,x,_⟩
  ·exact ⟨_,_,_,x⟩
  exact ⟨_,_,_,x⟩
 go_wp2
 go_ret2
 refine ⟨rfl,.inr ?_,?_⟩
 ·exact Lib.BuilderAt.put (T:=134) (e:=5) E f (bs':=D++Lib.strCells s) (by simpa [Lib.strCells_length] using a) (by decide)
 exact (o.grown d (by have:=o.size;omega) (fun k G=>(j.lt k G).1)).setCell (p:=⟨b,1,none⟩) E _
theorem BU (B b:Nat) (l:List UInt8) (w:World) (h:Wr B b l w) (q:l≠[]) :
  Calls prog 161 #[.pointer (some ⟨b,0,none⟩)] w fun e w'=>e= .returned (.string (ofB l))∧Below B w w':=by
 obtain ⟨p,E,v,n,d,y⟩:∃p,Lib.BuilderAt 134 5 B b p (Lib.byteCells l) w:=by
  rcases h with h|h
  ·exact ⟨_,h⟩
  exact ⟨_,h⟩
 have m:l.length≠0:=by simpa using q
 rw [Lib.byteCells_length] at d
 obtain ⟨g,a,cur,rfl,o,C,s,i,u,k⟩:∃g a cur,v= .slice (some ⟨g,0,none⟩) l.length a∧B≤g∧w.heap[g]? = some (.cells cur 5 (0,0))∧l.length≤a∧a≤maxLen∧cur.size=a*1∧cur.toList.take (l.length*1)=Lib.byteCells l:=by
  rcases d.2 with ⟨_,D⟩|⟨g,a,cur,z,r⟩
  ·exact absurd D m
  exact ⟨g,a,cur,z,r⟩
 have c1:w.drew.cell? ⟨b,1,none⟩=some (.slice (some ⟨g,0,none⟩) l.length a):=by
  have:w.drew.heap[b]? = some (.cells #[p,.slice (some ⟨g,0,none⟩) l.length a] 134 (0,0)):=n
  rw [Lib.cell_of_heap this];rfl
 have A:(Builtin.unsafeSliceData_ #[89] 301 #[.slice (some ⟨g,0,none⟩) l.length a]).run prog w.drew= .ok (.pointer (some ⟨g,0,none⟩)) w.drew :=
  Lib.run_unsafeSliceData_row _ _ _ _ _ _ (by omega)
 have t:(Builtin.unsafeString_ #[301,3] 9 #[.pointer (some ⟨g,0,none⟩),.int .i64 l.length]).run prog w.drew= .ok (.string ⟨l.toArray⟩) (w.drew.freeze ⟨g,0,none⟩ l.length):=by
  refine Lib.run_unsafeString_row w.drew 301 3 9 5 underlying301 (by kernel_rfl) g cur.size (by have f:w.drew.heap[g]? = some (.cells cur 5 (0,0)):=C;simp [World.shape?,f]) l q (by omega) (by unfold maxLen at i;omega) ?_
  intro j x hx
  have:=d.cells (g:=g) rfl j (.int .u8 x.toNat) (by simp [Lib.byteCells,hx])
  exact this
 go_enter func161,ntmps161
 go_wp2
 go_region
 all_goals (go_wp2;go_ret;exact ⟨rfl,Lib.below_freeze (Below.drew (Below.refl B w)) (p:=⟨g,0,none⟩) o _⟩)
theorem LZ (n:Nat):bits .or .u8 ((n%128:Nat):Int) 128=((n%128+128:Nat):Int):=by
 have h:=(bits_nat .u8 8 (by decide) (fun x d h1=>by rw [IntKind.wrap_u8];omega) (n%128) 128 (by omega) (by omega)).2
 rw [show (128:Int)=((128:Nat):Int) from rfl,h]
 congr 1
 have a:=Nat.two_pow_add_eq_or_of_lt (i:=7) (b:=n%128) (by omega) 1
 rw [Nat.or_comm]
 rw [show (2:Nat)^7*1=128 from by decide] at a
 rw [←a,Nat.add_comm]
theorem iW (B b:Nat) (L:List UInt8) (g:Nat) (n:Nat) (w:World) (h:Wr B b L w) (Y:w.cell? ⟨g,0,none⟩=some (.int .i64 (n:Int))) (hn:n≤1000000) (Q:L.length≤1000000) (S:B≤w.heap.size) :
  Calls prog 134 #[.pointer (some ⟨b,0,none⟩),.slice (some ⟨g,0,none⟩) 1 1] w fun e w'=>e= .returned (.tuple #[])∧Wr B b (L++aM n) w'∧Below B w w':=by
 have V:=ah h
 clear h
 go_enter func134,ntmps134
 go_wp2_with fail
 go_loopw [10] (fun i wr=>(i= .int .i64 0∧w=wr)∨(i= .int .i64 1∧Wr B b (L++aM n) wr∧Below B w wr)) (fun i _=>(1-intOf i).toNat)
 case atStart=>exact .inl ⟨rfl,rfl⟩
 rcases hrel with ⟨rfl,rfl⟩|⟨rfl,E,z⟩
 ·have n0:(0:Int)≤n:=by omega
  have X:min (n:Int) 1099511627775=n:=by omega
  have m2:max (0:Int) n=n:=by omega
  go_wp2_with fail
  go_loopw [5] (fun v wr=> ∃(m:Nat) (K:List UInt8),v= .int .i64 m∧m≤n∧Hid (K++aM m=L++aM n)∧Wr B b K wr∧Below B w wr) (fun v _=>(intOf v).toNat)
  case atStart=>exact ⟨n,L,rfl,by omega,ah rfl,V.out,Below.refl _ _⟩
  obtain ⟨O,rfl⟩:∃O:World,O=wr:=⟨_,rfl⟩
  obtain ⟨m,K,rfl,hm,A,k,d⟩:=hrel
  have P:Hid (K.length≤1000010):=by
   have h1:=congrArg List.length A.out
   rw [List.length_append,List.length_append] at h1
   have Z:=lu 3 n (by omega)
   unfold Hid;omega
  have T:=d.size
  by_cases t:128≤m
  ·have R:decide ((128:Int)≤m)=true:=decide_eq_true (by omega)
   have C:=gu t
   have y:m%128+128<256:=by omega
   have j:bits .or .u8 ((m:Int)%128) 128=((UInt8.ofNat (m%128+128)).toNat:Int):=by
    rw [show (m:Int)%128=((m%128:Nat):Int) by omega,LZ,UInt8.toNat_ofNat',Nat.mod_eq_of_lt y]
   have U:((m:Int).tmod 128)=(m:Int)%128:=by rw [Int.tmod_eq_emod_of_nonneg (by omega)]
   have M:((m:Int).tdiv 128)=((m/128:Nat):Int):=by rw [Int.tdiv_eq_ediv_of_nonneg (by omega)];omega
   have u:(m:Int)/128=((m/128:Nat):Int):=by omega
   have H:IntKind.u8.wrap ((m:Int)%128)=(m:Int)%128:=by rw [IntKind.wrap_u8];omega
   have N:m/128<m:=by omega
   have D:IntKind.i64.wrap ((m/128:Nat):Int)=((m/128:Nat):Int):=IntWalk.i64_in _ (by omega)
   have a:Hid ((K++[UInt8.ofNat (m%128+128)])++aM (m/128)=L++aM n):=by
    unfold Hid;rw [←A.out,C,List.append_assoc];rfl
   generalize UInt8.ofNat (m%128+128)=x at j a
   generalize m/128=q at M u N D a
   have p:=ah (fun W (I:Wr B b K W) (s:B≤W.heap.size)=>vY B b K x W I (by have:=P.out;omega) s)
   have r:=ah k
   have l:=ah d
   clear k d A C y
   go_wp2_with fail
   refine (p.out _ r.out (by omega)).mono ?_
   rintro e w1 ⟨rfl,h1,f⟩
   have F:=ah h1
   have o:=ah (l.out.trans (f.mono (Nat.le_refl _)))
   clear h1 f
   go_wp2
   go_roundw
   case rel=>exact ⟨q,K++[x],rfl,by omega,a,F.out,o.out⟩
   case measure=>simp [intOf];omega
  have R:decide ((128:Int)≤m)=false:=decide_eq_false (by omega)
  have C:=ah (dw (n:=m) (by omega))
  have H:IntKind.u8.wrap (m:Int)=(m:Int):=by rw [IntKind.wrap_u8];omega
  have j:((UInt8.ofNat m).toNat:Int)=(m:Int):=by rw [UInt8.toNat_ofNat',Nat.mod_eq_of_lt (by omega)]
  have p:=ah (fun W (I:Wr B b K W) (s:B≤W.heap.size)=>by have:=vY B b K (UInt8.ofNat m) W I (by have:=P.out;omega) s;rw [j] at this;exact this)
  have a:Hid (K++[UInt8.ofNat m]=L++aM n):=by unfold Hid;rw [←A.out,C.out]
  have r:=ah k
  have l:=ah d
  clear k d A C j
  go_wp2_with fail
  refine (p.out _ r.out (by omega)).mono ?_
  rintro e w1 ⟨rfl,h1,f⟩
  have F:=ah h1
  have o:=ah (l.out.trans (f.mono (Nat.le_refl _)))
  clear h1 f
  go_wp2
  rw [a.out] at F
  go_roundw
  case rel=>exact .inr ⟨rfl,F.out,o.out⟩
  case measure=>simp [intOf]
 have J:=ah E
 have G:=ah z
 clear E z
 go_wp2
 go_end0
 exact ⟨rfl,J.out,G.out⟩
theorem Wr.lt {B b:Nat} {L:List UInt8} {w:World} (h:Wr B b L w):b<w.heap.size:=by
 rcases h with h|h
 ·exact h.lt
 exact h.lt
theorem Wr.ge {B b:Nat} {L:List UInt8} {w:World} (h:Wr B b L w):B≤b:=by
 rcases h with h|h
 ·exact h.1
 exact h.1
theorem Wr.below {B b:Nat} {L:List UInt8} {w w':World} (h:Wr B b L w) (hb:Below w.heap.size w w'):Wr B b L w':=by
 have key:∀p,Lib.BuilderAt 134 5 B b p (Lib.byteCells L) w→Lib.BuilderAt 134 5 B b p (Lib.byteCells L) w':=by
  intro p g
  have f:=g.lt
  obtain ⟨i,v,e,a,d⟩:=g
  exact ⟨i,v,by rw [hb.block b f];exact e,own_below a hb,d⟩
 rcases h with h|h
 ·exact .inl (key _ h)
 exact .inr (key _ h)
theorem iA (B b:Nat) (L:List UInt8) (g:Nat) (s:ByteArray) (w:World) (h:Wr B b L w) (q:w.cell? ⟨g,0,none⟩=some (.string s)) (n:L.length+s.size≤10000000) (l:B≤w.heap.size) :
  Calls prog 88 #[.pointer (some ⟨b,0,none⟩),.slice (some ⟨g,0,none⟩) 1 1] w fun e w'=>e= .returned (.tuple #[])∧Wr B b (L++s.data.toList) w'∧Below B w w':=by
 have p:=ah h
 clear h
 go_enter func88,ntmps88
 go_wp2_with fail
 go_loopw [10] (fun i wr=>(i= .int .i64 0∧w=wr)∨(i= .int .i64 1∧Wr B b (L++s.data.toList) wr∧Below B w wr)) (fun i _=>(1-intOf i).toNat)
 case atStart=>exact .inl ⟨rfl,rfl⟩
 rcases hrel with ⟨rfl,rfl⟩|⟨rfl,f,d⟩
 ·go_wp2_with fail
  refine (zJ B b L s _ p.out (by omega) l).mono ?_
  rintro e w1 ⟨rfl,h1,a⟩
  have o:=ah h1
  have m:=ah a
  clear h1 a
  go_wp2
  go_roundw
  case rel=>exact .inr ⟨by go_num,o.out,m.out⟩
  case measure=>simp [intOf]
 have j:=ah f
 have k:=ah d
 clear f d
 go_wp2
 go_end0
 exact ⟨rfl,j.out,k.out⟩
theorem mH (B b:Nat) (L:List UInt8) (g:Nat) (s:ByteArray) (w:World) (h:Wr B b L w) (E:w.cell? ⟨g,0,none⟩=some (.string s)) (F:s.size≤1000000) (j:L.length≤1000000) (q:B≤w.heap.size) :
  Calls prog 89 #[.pointer (some ⟨b,0,none⟩),.slice (some ⟨g,0,none⟩) 1 1] w fun e w'=>e= .returned (.tuple #[])∧Wr B b (L++(aM s.size++s.data.toList)) w'∧Below B w w':=by
 have t:=ah h
 clear h
 have x:=t.out.lt
 have y:=t.out.ge
 have C:=fC (n:=s.size) (by omega)
 go_enter func89,ntmps89
 go_wp2_with fail
 go_loopw [8] (fun i wr=>(i= .int .i64 0∧w=wr)∨(i= .int .i64 1∧Wr B b (L++(aM s.size++s.data.toList)) wr∧Below B w wr)) (fun i _=>(1-intOf i).toNat)
 case atStart=>exact .inl ⟨rfl,rfl⟩
 rcases hrel with ⟨rfl,rfl⟩|⟨rfl,p,l⟩
 ·go_wp2_with fail
  have f:∀(W:World) (o:Obj),Below W.heap.size W (W.alloc o):=fun W o=>bal
  refine (iW B b L w.heap.size s.size _ (t.out.below (f _ _)) (by rw [World.cell?_alloc_new];rfl) (by omega) j (by simp;omega)).mono ?_
  rintro e w1 ⟨rfl,h1,m⟩
  have z:=ah h1
  have d:=ah (((Below.refl B w).alloc q _).trans m)
  have v:=d.out.size
  clear h1 m
  go_wp2_with fail
  refine (iA B b (L++aM s.size) w1.heap.size s _ (z.out.below (f _ _)) (by rw [World.cell?_alloc_new];rfl) (by rw [List.length_append];omega) (by simp;omega)).mono ?_
  rintro e D ⟨rfl,r,k⟩
  rw [List.append_assoc] at r
  have A:=ah r
  have a:=ah ((d.out.alloc (by omega) _).trans k)
  clear r k
  go_wp2
  go_roundw
  case rel=>exact .inr ⟨by go_num,A.out,a.out⟩
  case measure=>simp [intOf]
 have u:=ah p
 have a:=ah l
 clear p l
 go_wp2
 go_end0
 exact ⟨rfl,u.out,a.out⟩
theorem pz (B b:Nat) (l:List UInt8) (w:World) (h:Wr B b l w) (a:l≠[]) :
  Calls prog 90 #[.pointer (some ⟨b,0,none⟩)] w fun e w'=>e= .returned (.string (ofB l))∧Below B w w':=by
 have HS:=ah (BU B b l w h a)
 clear h
 go_enter func90,ntmps90
 go_wp2_with fail
 refine HS.out.mono ?_
 rintro e w1 ⟨rfl,hb⟩
 go_wp2
 go_ret
 exact ⟨rfl,hb⟩
theorem ML (r:Rd) (a:Nat):(r.num a).2≤a:=by
 unfold Rd.num
 split
 ·exact Nat.zero_le _
 cases h:bD r.left a 6 0 0 with
 | inl e=>exact Nat.zero_le _
 | inr x=>exact ((fB _ _ 6 0 0).2 x h).2.1
theorem iy (r:Rd) (a:Nat) (h:r.err≠0):(r.num a).1=r:=by unfold Rd.num;rw [if_pos h]
section
variable {get:List UInt8 → Option Ob} {rec:List UInt8 → ByteArray → Lfs → Nat → NR} {ahead:ByteArray} {e:Ent} {es:List Ent} {l:Lfs} {n:Nat}
end
theorem DL {W a:World} {r:Option Nat} (h:W.drew.grownBy a r):W.grownBy a r:=⟨h.os,h.tape,h.output,h.size,h.block⟩
end
end Go.Proofs.YtejamhkgjkhjdaaGreatDoor

/- A part of this claim. -/
import Derived.Test.YtijhemdnajlfnaaGreatDoorR14
namespace Go.Proofs.YtijhemdnajlfnaaGreatDoor
set_option maxHeartbeats 64000000
set_option maxRecDepth 100000
section
open Go.RowKit
structure Nm where
 s:ByteArray
 n:Nat
def putG (x:Nm):Bool → List Nm → List Nm
 | d,[] => if d = true then [] else [x]
 | d,y :: l => if y.s = x.s then putG x d l else if d = false ∧ ltB x.s.data.toList y.s.data.toList = true then x :: y :: putG x true l else y :: putG x d l
def bZ (l:List Nm) (s:ByteArray):Option Nat:=(l.find? fun y => decide (y.s = s)).map Nm.n
def AscM (l:List Nm):Prop:=AscT (l.map Nm.s)
theorem qO (x:Nm):∀ l:List Nm,(∀ y ∈ l,y.s ≠ x.s) → putG x true l = l
 | [],_ => rfl
 | y :: l,h => by
  unfold putG
  rw [if_neg (h y (List.mem_cons_self ..)),if_neg (by simp),qO x l (fun z hz => h z (List.mem_cons_of_mem _ hz))]
theorem uT (x:Nm):∀ l:List Nm,AscM l → (putG x false l).map Nm.s = putT x.s (l.map Nm.s)
 | [],_ => rfl
 | y :: l,h => by
  unfold AscM AscT at h
  rw [List.map_cons,List.pairwise_cons] at h
  have hgt:∀ z ∈ l,ltB y.s.data.toList z.s.data.toList = true:=fun z hz => h.1 _ (List.mem_map_of_mem hz)
  unfold putG
  rw [List.map_cons]
  unfold putT
  by_cases e:y.s = x.s
  ·rw [if_pos e,if_pos e]
   cases l with
   | nil => show [x.s] = [y.s];rw [e]
   | cons z l =>
    have h1:=hgt z (List.mem_cons_self ..)
    rw [e] at h1 hgt
    have hne:∀ v ∈ z :: l,v.s ≠ x.s:=fun v hv e2 => by
     have:=hgt v hv
     rw [e2,bS] at this;cases this
    unfold putG
    rw [if_neg (hne z (List.mem_cons_self ..)),if_pos ⟨rfl,h1⟩,qO x l (fun v hv => hne v (List.mem_cons_of_mem _ hv)),List.map_cons,List.map_cons,e]
  rw [if_neg e,if_neg e]
  by_cases hlt:ltB x.s.data.toList y.s.data.toList = true
  ·rw [if_pos ⟨rfl,hlt⟩,if_pos hlt,List.map_cons,List.map_cons,qO]
   intro v hv e2
   have h1:=kN hlt (hgt v hv)
   rw [e2,bS] at h1;cases h1
  rw [if_neg (fun h => hlt h.2),if_neg hlt,List.map_cons,uT x l h.2]
theorem vD (s:ByteArray):bZ [] s = none:=rfl
theorem dN (y:Nm) (l:List Nm) (s:ByteArray):bZ (y :: l) s = if y.s = s then some y.n else bZ l s:=by
 unfold bZ
 rw [List.find?_cons]
 by_cases e:y.s = s
 ·rw [if_pos e,decide_eq_true e];rfl
 rw [if_neg e,decide_eq_false e]
theorem yK (x:Nm) (s:ByteArray):∀ (l:List Nm) (d:Bool),bZ (putG x d l) s = if d = false ∧ s = x.s then some x.n else if s = x.s then none else bZ l s
 | [],d => by
  unfold putG
  cases d with
  | true => simp [vD]
  | false =>
   simp only [Bool.false_eq_true,if_false,dN,vD,true_and]
   by_cases e:s = x.s
   ·subst e;simp
   have:¬ x.s = s:=fun h => e h.symm
   simp [e,this]
 | y :: l,d => by
  have ih:=yK x s l
  unfold putG
  by_cases e:y.s = x.s
  ·rw [if_pos e,ih d,dN]
   by_cases e2:s = x.s
   ·subst e2;simp
   have e3:¬ y.s = s:=fun h => e2 (h.symm.trans e)
   simp [e2,e3]
  rw [if_neg e]
  split
  ·rename_i h
   rw [dN,dN,ih true,dN]
   by_cases e2:s = x.s
   ·subst e2;simp [h.1]
   have:¬ x.s = s:=fun h => e2 h.symm
   simp [e2,this]
  rw [dN,dN,ih d]
  by_cases e2:s = x.s
  ·subst e2;simp [e]
  simp [e2]
structure Rk where
 seen:Nat → List Nm
 files:List ByteArray
def Rk.nil:Rk:=⟨fun _ => [],[]⟩
def Rk.put (r:Rk) (f:Fl):Rk:=match aP f.dir with
 | none => r
 | some k => if aX f.name = true ∧ f.data.size ≤ 1048576 then ⟨fun j => if j = k then putG ⟨f.name,r.files.length⟩ false (r.seen k) else r.seen j,r.files ++ [f.data]⟩ else r
def rkOf (l:List Fl):Rk:=l.foldl Rk.put Rk.nil
def Rk.dat (r:Rk) (k:Nat) (x:ByteArray):Option ByteArray:=(bZ (r.seen k) x).bind fun n => r.files[n]?
structure Rk.Fits (r:Rk) (l:List Fl):Prop where
 names:∀ k,(r.seen k).map Nm.s = namF l k
 dat:∀ k x,r.dat k x = datF l k x
 low:∀ k,∀ y ∈ r.seen k,y.n < r.files.length
theorem pF (x:Nm):∀ (l:List Nm) (d:Bool) (y:Nm),y ∈ putG x d l → y = x ∨ y ∈ l
 | [],d,y,h => by
  unfold putG at h
  split at h
  ·cases h
  exact .inl (by simpa using h)
 | z :: l,d,y,h => by
  unfold putG at h
  split at h
  ·rcases pF x l d y h with h | h
   ·exact .inl h
   exact .inr (List.mem_cons_of_mem _ h)
  split at h
  ·rcases List.mem_cons.1 h with h | h
   ·exact .inl h
   rcases List.mem_cons.1 h with h | h
   ·exact .inr (by rw [h];exact List.mem_cons_self ..)
   rcases pF x l true y h with h | h
   ·exact .inl h
   exact .inr (List.mem_cons_of_mem _ h)
  rcases List.mem_cons.1 h with h | h
  ·exact .inr (by rw [h];exact List.mem_cons_self ..)
  rcases pF x l d y h with h | h
  ·exact .inl h
  exact .inr (List.mem_cons_of_mem _ h)
theorem ru (l:List Fl) (f:Fl) (k:Nat) (x:ByteArray):datF (l ++ [f]) k x = if dO f k = true ∧ f.name = x then some f.data else datF l k x:=by
 unfold datF;rw [List.foldl_append];rfl
theorem qV (l:List Fl) (f:Fl) (k:Nat):namF (l ++ [f]) k = if dO f k = true then putT f.name (namF l k) else namF l k:=by
 unfold namF;rw [List.foldl_append];rfl
theorem IQ (l:List Fl) (f:Fl):rkOf (l ++ [f]) = (rkOf l).put f:=by
 unfold rkOf;rw [List.foldl_append];rfl
theorem oH {l:List Nm} {s:ByteArray} {n:Nat} (h:bZ l s = some n):∃ y ∈ l,y.n = n:=by
 unfold bZ at h
 cases e:l.find? fun y => decide (y.s = s) with
 | none => rw [e] at h;cases h
 | some y =>
  rw [e] at h
  cases h
  exact ⟨y,List.mem_of_find?_eq_some e,rfl⟩
theorem Rk.Fits.next {r:Rk} {l:List Fl} (h:r.Fits l) (f:Fl):(r.put f).Fits (l ++ [f]):=by
 unfold Rk.put
 cases hw:aP f.dir with
 | none =>
  have hg:∀ k,dO f k = false:=fun k => by unfold dO;rw [hw];rfl
  exact ⟨fun k => by rw [qV,hg,if_neg (by simp)];exact h.names k,fun k x => by rw [ru,hg,if_neg (by simp)];exact h.dat k x,h.low⟩
 | some k0 =>
  dsimp only
  have hg:∀ k,dO f k = (decide (k0 = k) && (aX f.name && decide (f.data.size ≤ 1048576))):=fun k => by
   unfold dO;rw [hw,Bool.and_assoc]
   congr 1
   simp
  by_cases hf:aX f.name = true ∧ f.data.size ≤ 1048576
  ·rw [if_pos hf]
   have hg2:∀ k,dO f k = decide (k0 = k):=fun k => by rw [hg,hf.1,decide_eq_true hf.2];simp
   have hasc:AscM (r.seen k0):=by unfold AscM;rw [h.names];exact pV l k0
   refine ⟨fun k => ?_,fun k x => ?_,fun k y hy => ?_⟩
   ·show (if k = k0 then _ else _:List Nm).map Nm.s = _
    rw [qV,hg2]
    by_cases e:k = k0
    ·subst e
     rw [if_pos rfl,if_pos (by simp),uT _ _ hasc,h.names]
    rw [if_neg e,if_neg (by simpa using fun h => e h.symm)];exact h.names k
   ·show (bZ (if k = k0 then _ else _:List Nm) x).bind _ = _
    rw [ru,hg2]
    by_cases e:k = k0
    ·subst e
     rw [if_pos rfl,yK]
     by_cases e2:x = f.name
     ·subst e2
      rw [if_pos ⟨rfl,rfl⟩,if_pos ⟨by simp,rfl⟩]
      show (r.files ++ [f.data])[r.files.length]? = _
      rw [List.getElem?_append_right (Nat.le_refl _)];simp
     rw [if_neg (fun h => e2 h.2),if_neg e2,if_neg (fun h => e2 h.2.symm),← h.dat k x]
     unfold Rk.dat
     cases hn:bZ (r.seen k) x with
     | none => rfl
     | some n =>
      obtain ⟨y,hy,e3⟩:=oH hn
      have:=h.low k y hy
      show (r.files ++ [f.data])[n]? = r.files[n]?
      rw [List.getElem?_append_left (by omega)]
    rw [if_neg e,if_neg (by simpa using fun h:k0 = k => absurd h.symm e),← h.dat k x]
    unfold Rk.dat
    cases hn:bZ (r.seen k) x with
    | none => rfl
    | some n =>
     obtain ⟨y,hy,e3⟩:=oH hn
     have:=h.low k y hy
     show (r.files ++ [f.data])[n]? = r.files[n]?
     rw [List.getElem?_append_left (by omega)]
   show y.n < (r.files ++ [f.data]).length
   rw [List.length_append]
   show y.n < r.files.length + 1
   change y ∈ (if k = k0 then _ else _:List Nm) at hy
   by_cases e:k = k0
   ·subst e
    rw [if_pos rfl] at hy
    rcases pF _ _ _ _ hy with rfl | hy
    ·exact Nat.lt_succ_self _
    have:=h.low _ _ hy;omega
   rw [if_neg e] at hy
   have:=h.low _ _ hy;omega
  rw [if_neg hf]
  have hg2:∀ k,dO f k = false:=fun k => by
   rw [hg]
   cases h1:aX f.name with
   | false => simp
   | true =>
    have:¬ f.data.size ≤ 1048576:=fun h2 => hf ⟨h1,h2⟩
    simp [this]
  exact ⟨fun k => by rw [qV,hg2,if_neg (by simp)];exact h.names k,fun k x => by rw [ru,hg2,if_neg (by simp)];exact h.dat k x,h.low⟩
theorem qL (l:List Fl):(rkOf l).Fits l:=by
 have:∀ (m:List Fl) (l:List Fl) (r:Rk),r.Fits l → (m.foldl Rk.put r).Fits (l ++ m):=by
  intro m
  induction m with
  | nil => intro l r h;rw [List.append_nil];exact h
  | cons f m ih =>
   intro l r h
   have:=ih (l ++ [f]) _ (h.next f)
   rwa [List.append_assoc] at this
 have h:=this l [] Rk.nil ⟨fun _ => rfl,fun _ _ => rfl,fun _ y hy => by cases hy⟩
 rwa [List.nil_append] at h
end
end Go.Proofs.YtijhemdnajlfnaaGreatDoor

/- A part of this claim. -/
import Derived.Test.YtlhcoanbhnphgaaGreatDoorWm5
import Derived.Test.YtlhcoanbhnphgaaGreatDoorWm7
namespace Go.Proofs.YtlhcoanbhnphgaaGreatDoor
set_option maxHeartbeats 64000000
set_option maxRecDepth 100000
section
open Go.RowKit
def OwnQ (w:World) (B sz:Nat) (v:Value) (n:Nat) (xs:List Value):Prop :=
 xs.length = n * sz ∧ ((v = .slice none 0 0 ∧ n = 0) ∨ ∃ g off cap,v = .slice (some ⟨g,off,none⟩) n cap ∧ B ≤ g ∧ g < w.heap.size ∧ n ≤ cap ∧ cap ≤ maxLen ∧ w.there g off (cap * sz) ∧ w.rangeAt g off xs)
theorem iH (w:World) (B sz:Nat):OwnQ w B sz (.slice none 0 0) 0 []:=⟨by simp,.inl ⟨rfl,rfl⟩⟩
theorem OwnQ.bZ {w:World} {B sz n:Nat} {e:TypeId} {v:Value} {xs:List Value} (h:w.ownsRow B e sz v n xs):OwnQ w B sz v n xs:=by
 refine ⟨h.1,?_⟩
 rcases h.2 with h2 | ⟨g,cap,cur,rfl,hb,hg,hnc,hcm,hcs,htk⟩
 ·exact .inl h2
 have hgl:=(Array.getElem?_eq_some_iff.1 hg).1
 refine .inr ⟨g,0,cap,rfl,hb,hgl,hnc,hcm,fun j hj => ?_,fun j u hu => ?_⟩
 ·rw [Nat.zero_add]
  have hj':j < cur.size:=by omega
  constructor
  ·simp [World.cell?,hg,hj']
  simp [World.frozen?,hg]
 rw [Nat.zero_add]
 have hju:j < xs.length:=(List.getElem?_eq_some_iff.1 hu).1
 rw [← htk] at hu
 rw [List.getElem?_take] at hu
 split at hu
 ·simp [World.cell?,hg]
  simpa using hu
 cases hu
theorem OwnQ.below {w w':World} {B sz n:Nat} {v:Value} {xs:List Value} (h:OwnQ w B sz v n xs) (hb:Below w.heap.size w w'):OwnQ w' B sz v n xs:=by
 refine ⟨h.1,?_⟩
 rcases h.2 with h2 | ⟨g,off,cap,hv,hB,hg,hnc,hcm,hth,hr⟩
 ·exact .inl h2
 exact .inr ⟨g,off,cap,hv,hB,Nat.lt_of_lt_of_le hg hb.size,hnc,hcm,pO hth hb hg,aF hr hb hg⟩
theorem OwnQ.grown {w w':World} {B sz n:Nat} {v:Value} {xs:List Value} {row:Option Nat} (h:OwnQ w B sz v n xs) (hg:w.grownBy w' row) (hne:∀ g,v.ownBlock = some g → some g ≠ row):OwnQ w' B sz v n xs:=by
 refine ⟨h.1,?_⟩
 rcases h.2 with h2 | ⟨g,off,cap,rfl,hB,hgl,hnc,hcm,hth,hr⟩
 ·exact .inl h2
 have hn:=hne g rfl
 have hb:=hg.block g hgl hn
 exact .inr ⟨g,off,cap,rfl,hB,Nat.lt_of_lt_of_le hgl hg.size,hnc,hcm,fun j hj => ⟨by rw [World.cell?_of_block hb];exact (hth j hj).1,by rw [World.frozen?_of_block hb];exact (hth j hj).2⟩,fun j u hu => by rw [World.cell?_of_block hb];exact hr j u hu⟩
theorem OwnQ.cut {w:World} {B sz n:Nat} {v:Value} {x xs:List Value} (h:OwnQ w B sz v (n + 1) (x ++ xs)) (hx:x.length = sz) :
  ∃ g off cap,v = .slice (some ⟨g,off,none⟩) (n + 1) (cap + 1) ∧ B ≤ g ∧ g < w.heap.size ∧ cap + 1 ≤ maxLen ∧ n ≤ cap ∧ w.rangeAt g off x ∧ ∀ p,p = (if cap = 0 then (⟨g,off,none⟩:Addr) else ⟨g,off + sz,none⟩) → OwnQ w B sz (.slice (some p) n cap) n xs:=by
 rcases h.2 with ⟨_,h2⟩ | ⟨g,off,cap,rfl,hB,hg,hnc,hcm,hth,hr⟩
 ·cases h2
 obtain ⟨cap,rfl⟩:∃ c,cap = c + 1:=⟨cap - 1,by omega⟩
 have hl:=h.1
 rw [List.length_append,hx,Nat.add_mul,Nat.one_mul] at hl
 have hxs:xs.length = n * sz:=by omega
 refine ⟨g,off,cap,rfl,hB,hg,hcm,by omega,fun j u hu => hr j u (by rw [List.getElem?_append_left (List.getElem?_eq_some_iff.1 hu).1];exact hu),fun p hp => ⟨hxs,?_⟩⟩
 by_cases hc:cap = 0
 ·rw [if_pos hc] at hp
  subst hp
  have hn0:n = 0:=by omega
  subst hn0
  have:xs = []:=List.eq_nil_of_length_eq_zero (by simpa using hxs)
  subst this
  exact .inr ⟨g,off,cap,rfl,hB,hg,by omega,by omega,fun j hj => by rw [hc] at hj;simp at hj,fun j u hu => by simp at hu⟩
 rw [if_neg hc] at hp
 subst hp
 refine .inr ⟨g,off + sz,cap,rfl,hB,hg,by omega,by omega,fun j hj => ?_,fun j u hu => ?_⟩
 ·have:=hth (sz + j) (by rw [Nat.add_mul,Nat.one_mul];omega)
  rwa [← Nat.add_assoc] at this
 have:=hr (sz + j) u (by rw [List.getElem?_append_right (by omega),hx];simpa using hu)
 rwa [← Nat.add_assoc] at this
theorem bC (w:World) (g o:Nat) (vs:List Value):w.grownBy (w.setCells g o vs) (some g):=aY vs o w (World.grownBy.refl w _)
theorem there_alloc (w:World) (a:Array Value) (e:TypeId) {n:Nat} (h:a.size = n):(w.alloc (.cells a e)).there w.heap.size 0 n:=by
 have:=(Arr.ofList w a.toList e).there
 simpa [h] using this
structure Wrote (w w':World) (us:List Value):Prop where
 bel:Below w.heap.size w w'
 row:w'.rangeAt w.heap.size 0 us
 lt:w.heap.size < w'.heap.size
theorem wrote {w w':World} {a:Array Value} {e:TypeId} {us:List Value} (h:us.length = a.size) (h0:0 < a.size) (hw:(w.alloc (.cells a e)).setCells w.heap.size 0 us = w'):Wrote w w' us:=by
 have hr:=World.rangeAt_setCells_same (w.alloc (.cells a e)) w.heap.size 0 us (by rw [h];exact there_alloc w a e rfl)
 have hb:Below w.heap.size w ((w.alloc (.cells a e)).setCells w.heap.size 0 us):=below_setCells _ (Nat.le_refl _) _ _ _ bal
 rw [hw] at hr hb
 exact ⟨hb,hr,World.block_lt_of_cell? w' ⟨w.heap.size,0,none⟩ (hr 0 (us[0]'(by omega)) (by simp))⟩
theorem jf {w w':World} (h:Below w.heap.size w w'):w.grownBy w' none:=⟨h.os,h.tape,h.output,h.size,fun k hk _ => h.block k hk⟩
theorem eF {P:Program} {w:World} {ops:Array Oper} {rest:List Oper} {o:Oper} {a:Act} {Q:Exit → Act → World → Prop} (hgd:o.guard = none) (s x:Operand) (t:TypeId)
  (ho:o.op = .call { callee:=.builtin .append,args:=#[s,x],argTypes:=#[t,t] })
  (base:Nat) (e:TypeId) (i:TypeInfo) (z:Value) (size bytes:Nat) (ht:P.underlying t = some (.slice e)) (hi:P.info? e = some i) (hz:i.zero = some z)
  (hsize:i.size = size) (hby:i.bytes = bytes) (hzs:z.cells.size = size) (hsz:0 < size)
  (v:Value) (n:Nat) (xs:List Value) (hs:a.eval s = v) (hown:OwnQ w base size v n xs)
  (ao:Option Addr) (m c:Nat) (news:List Value) (hx:a.eval x = .slice ao m c) (hl:news.length = m * size) (hnews:0 < m → ∃ ad,ao = some ad ∧ ∀ j u,news[j]? = some u → w.cell? (ad.add j) = some u) (h1:∀ u ∈ news,u.oneCell' = true)
  (h63:n + m ≤ maxLen) (hbytes:(n + m) * bytes ≤ 140737488355328) (hbase:base ≤ w.heap.size)
  (h:∀ v' w',OwnQ w' base size v' (n + m) (xs ++ news) → w.grownBy w' v.ownBlock → Fr w v v' → wpList P ops Q rest (a.put o.dst v') w'):wpList P ops Q (o :: rest) a w:=by
 rcases Nat.eq_zero_or_pos m with rfl | hm
 ·obtain rfl:news = []:=List.eq_nil_of_length_eq_zero (by simpa using hl)
  rw [List.append_nil,Nat.add_zero] at h
  rcases hown.2 with ⟨rfl,rfl⟩ | ⟨g,off,cap,rfl,_,_,hn,_⟩
  ·refine wpList_plain hgd fun K hK' => ?_
   have hrun:=run_append_nil (P:=P) w t o.type e i ht hi ao c
   unfold Oper.wp
   simp [execOp,ho,resolve,invoke,builtin,hs,hx,hrun,Result.andThen]
   exact hK' _ _ (h _ w hown (World.grownBy.refl w _) (Fr.refl _ _))
  refine wpList_plain hgd fun K hK' => ?_
  have hrun:(Builtin.append_ #[t,t] o.type #[.slice (some ⟨g,off,none⟩) n cap,.slice ao 0 c]).run P w = .ok (.slice (some ⟨g,off,none⟩) n cap) w:=by
   cases ao <;> simp [Builtin.append_,run_underlying ht,sizeOf,typeInfo,hi,Builtin.lenOf,Builtin.firstCells,loadCells,loadCellsFrom,hn,storeCells]
  unfold Oper.wp
  simp [execOp,ho,resolve,invoke,builtin,hs,hx,hrun,Result.andThen]
  exact hK' _ _ (h _ w hown (World.grownBy.refl w _) (Fr.refl _ _))
 obtain ⟨ad,rfl,hc⟩:=hnews hm
 rcases hown.2 with ⟨rfl,rfl⟩ | ⟨g,off,cap,rfl,hB,hg,hn,hcm,hth,hr⟩
 ·obtain rfl:xs = []:=List.eq_nil_of_length_eq_zero (by simpa using hown.1)
  refine wpList_append_own w hgd s x t ho w.heap.size e i z size bytes ht hi hz hsize hby hzs hsz _ 0 [] hs (World.ownsRow_nil w _ e size) ad m c news hx hl hc h1 h63 hbytes (Nat.le_refl _) ?_
  intro v' w' r1 r2 _
  exact h v' w' (OwnQ.bZ (nL r1 hbase)) r2 (.inr fun g hg => (r1.lt g hg).1)
 by_cases hroom:n + m ≤ cap
 ·refine wpList_plain hgd fun K hK' => ?_
  have hxs:off + n * i.size = off + xs.length:=by rw [hown.1,hsize]
  have hle:xs.length + news.length ≤ cap * size:=by rw [hown.1,hl,← Nat.add_mul];exact Nat.mul_le_mul_right _ hroom
  have hat:∀ j,j < news.length → (w.cell? ⟨g,off + n * i.size + j,none⟩).isSome = true ∧ w.frozen? ⟨g,off + n * i.size + j,none⟩ = false:=fun j hj => by
   have:=hth (xs.length + j) (by omega)
   rw [hxs,Nat.add_assoc];exact this
  have hrun:=run_append_room_cells (P:=P) w t o.type e i ht hi g off n cap ad m c news (by rw [hl,hsize]) hc h1 hroom (fun j hj => (hat j hj).1) (fun j hj => (hat j hj).2)
  rw [hxs] at hrun
  unfold Oper.wp
  simp [execOp,ho,resolve,invoke,builtin,hs,hx,hrun,Result.andThen]
  refine hK' _ _ (h _ _ ⟨by rw [List.length_append,hown.1,hl,Nat.add_mul],.inr ⟨g,off,cap,rfl,hB,?_,hroom,hcm,World.there_setCells hth g _ news,?_⟩⟩ (bC w g _ news) (.inl rfl))
  ·exact Nat.lt_of_lt_of_le hg (bC w g (off + xs.length) news).size
  have r1:=World.rangeAt_setCells_apart hr g (off + xs.length) news (.inr (.inl (Nat.le_refl _)))
  have r2:=World.rangeAt_setCells_same w g (off + xs.length) news (fun j hj => by
   have:=hth (xs.length + j) (by omega)
   rw [Nat.add_assoc];exact this)
  intro j u hu
  by_cases hj:j < xs.length
  ·rw [List.getElem?_append_left hj] at hu;exact r1 j u hu
  rw [List.getElem?_append_right (by omega)] at hu
  have:=r2 (j - xs.length) u hu
  rwa [Nat.add_assoc,Nat.add_sub_cancel' (by omega)] at this
 refine wpList_append_grows w hgd s x t ho e i z size bytes ht hi hz hsize hby hzs hsz (some ⟨g,off,none⟩) n cap xs hs (fun h => by cases h) hown.1 (fun b hb => by
  cases hb
  intro j u hu
  rw [Addr.add_mid]
  exact hr j u hu) ad m c news hx hl hc h1 (by omega) h63 hbytes ?_
 intro v' w' r1 r2
 exact h v' w' (OwnQ.bZ (nL r1 hbase)) (tL r2 _) (.inr fun g hg => (r1.lt g hg).1)
end
end Go.Proofs.YtlhcoanbhnphgaaGreatDoor

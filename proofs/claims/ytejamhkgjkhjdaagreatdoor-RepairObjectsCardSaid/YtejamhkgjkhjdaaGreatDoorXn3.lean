/- A part of this claim. -/
import Derived.Below
import Derived.Deep.AppendLies
import Derived.Deep.MidRow
import Derived.Deep.Quiet
import Derived.Deep.RegionHeld3
import Derived.KernelRfl
import Derived.Lib.Hide
import Derived.OrdersHeld
import Derived.StillTailTactics
import Derived.Tactics
import Derived.WalkKit
import Derived.WalkSmall
namespace Go.Proofs.YtejamhkgjkhjdaaGreatDoor
set_option maxHeartbeats 64000000
set_option maxRecDepth 100000
section
open Go.RowKit
structure Arr (w:World) (b n:Nat) (c:Nat → Value):Prop where
 cell:∀ k,k < n → w.cell? ⟨b,k,none⟩ = some (c k)
 free:∀ k,k < n → w.frozen? ⟨b,k,none⟩ = false
def upd {α:Type} (c:Nat→α) (j:Nat) (v:α):Nat→α:=fun k=>if k=j then v else c k
theorem Arr.drew {w:World} {b n:Nat} {c:Nat→Value} (h:Arr w b n c):Arr w.drew b n c:=⟨h.cell,h.free⟩
theorem Arr.set {w:World} {b n:Nat} {c:Nat→Value} (h:Arr w b n c) (j:Nat) (d:j<n) (v:Value):Arr (w.setCell ⟨b,j,none⟩ v) b n (upd c j v):=by
 refine ⟨fun k a=> ?_,fun k a=>by rw [World.frozen?_setCell];exact h.free k a⟩
 unfold upd
 by_cases e:k=j
 ·subst e;rw [if_pos rfl];exact World.cell?_setCell_same _ _ _ (h.cell k a)
 rw [if_neg e,World.cell?_setCell_other _ _ _ _ (fun x=>e (by injection x with _ h2 _;exact h2.symm))];exact h.cell k a
theorem Arr.far {w:World} {b n:Nat} {c:Nat→Value} (h:Arr w b n c) {p:Addr} (d:p.block≠b) (v:Value):Arr (w.setCell p v) b n c :=
 ⟨fun k a=>by rw [World.cell?_setCell_other _ _ _ _ (fun x=>d (by rw [x]))];exact h.cell k a,fun k a=>by rw [World.frozen?_setCell];exact h.free k a⟩
theorem Arr.congr {w:World} {b n:Nat} {c d:Nat→Value} (h:Arr w b n c) (e:∀k,k<n→c k=d k):Arr w b n d :=
 ⟨fun k a=>by rw [←e k a];exact h.cell k a,h.free⟩
theorem Arr.lt {w:World} {b n:Nat} {c:Nat→Value} (h:Arr w b n c) (a:0<n):b<w.heap.size:=World.block_lt_of_cell? w ⟨b,0,none⟩ (h.cell 0 a)
theorem Arr.alloc {w:World} {b n:Nat} {c:Nat→Value} (h:Arr w b n c) (e:0<n) (o:Obj):Arr (w.alloc o) b n c:=by
 have d:=h.lt e
 exact ⟨fun k a=>by rw [World.cell?_alloc_lt _ _ _ d];exact h.cell k a,fun k a=>by rw [World.frozen?_alloc_old _ _ _ (Nat.ne_of_lt d)];exact h.free k a⟩
theorem Arr.below {w w':World} {b n B:Nat} {c:Nat→Value} (h:Arr w b n c) (hb:Below B w w') (d:b<B):Arr w' b n c :=
 ⟨fun k a=>by rw [hb.cell (p:=⟨b,k,none⟩) d];exact h.cell k a,fun k a=>by rw [hb.frozen (p:=⟨b,k,none⟩) d];exact h.free k a⟩
theorem Arr.range {w:World} {b n:Nat} {c:Nat→Value} (h:Arr w b n c):w.rangeAt b 0 ((List.range n).map c):=fun j v a=>by
 have d:j<n:=by have:=(List.getElem?_eq_some_iff.1 a).1;simpa using this
 rw [Nat.zero_add,h.cell j d,←a]
 simp [d]
theorem Arr.there {w:World} {b n:Nat} {c:Nat→Value} (h:Arr w b n c):w.there b 0 n:=fun j a=>by
 rw [Nat.zero_add];exact ⟨by rw [h.cell j a];rfl,h.free j a⟩
theorem kW {P:Program} {fn:Func} {R:Ending→World→Prop} {a:Act} {w:World} {p:Tmp} {ty:TypeId} (h:fn.results= #[.cell p ty]) (b o:Nat)
  (f:a.tmps.getD p undef= .pointer (some ⟨b,o,none⟩)) (cs:List Value) (d:TypeDesc) (i:w.rangeAt b o cs)
  (hu:P.underlying ty=some d) (hd:d.isRow=true) (hi:(P.info? ty).map (·.size)=some cs.length) (e:a.defers=[]) (g:R (.returned (.agg cs.toArray)) w):bodyPost P fn R .ret a w:=by
 refine bodyPost_ret (v:=.agg cs.toArray) ?_ e g
 have:=run_loadVar_mid (P:=P) w b o ty cs d i hu hd hi
 simp only [results,h]
 rw [Array.getD_eq_getD_getElem?] at f
 simp [asAddr,f,this]
theorem below_setCells {B:Nat} {a:World} (b:Nat) (hb:B≤b):∀(d:List Value) (o:Nat) (w:World),Below B a w→Below B a (w.setCells b o d)
 | [],_,_,h=>h
 | v::r,o,w,h=>by rw [World.setCells];exact below_setCells b hb r (o+1) _ (h.setCell hb v)
def dV (w:World) (v:Value) (ss:List ByteArray):Prop :=
 ∃d a,v= .slice d ss.length a∧ss.length≤maxLen∧(ss≠[]→ ∃b off,d=some ⟨b,off,none⟩∧b<w.heap.size∧ ∀i (h:i<ss.length),w.cell? ⟨b,off+i,none⟩=some (.string ss[i]))
def dF (w:World) (v:Value) (sz:Nat) (rows:List (List Value)):Prop :=
 ∃d a,v= .slice d rows.length a∧rows.length≤maxLen∧(rows≠[]→ ∃b off,d=some ⟨b,off,none⟩∧b<w.heap.size∧ ∀i (h:i<rows.length),w.rangeAt b (off+i*sz) rows[i])
theorem ay {w w':World} {B b o:Nat} {cs:List Value} (h:w.rangeAt b o cs) (hb:Below B w w') (d:b<B):w'.rangeAt b o cs:=fun j v a=>by
 rw [hb.cell (p:=⟨b,o+j,none⟩) d];exact h j v a
theorem qo {w w':World} {B b o n:Nat} (h:w.there b o n) (hb:Below B w w') (a:b<B):w'.there b o n:=fun j d=>by
 rw [hb.cell (p:=⟨b,o+j,none⟩) a,hb.frozen (p:=⟨b,o+j,none⟩) a];exact h j d
theorem dF.below {w w':World} {v:Value} {sz:Nat} {rows:List (List Value)} (h:dF w v sz rows) (hb:Below w.heap.size w w'):dF w' v sz rows:=by
 obtain ⟨j,d,rfl,hm,h⟩:=h
 refine ⟨j,d,rfl,hm,fun a=> ?_⟩
 obtain ⟨b,off,e,f,g⟩:=h a
 exact ⟨b,off,e,Nat.lt_of_lt_of_le f hb.size,fun i hi=>ay (g i hi) hb f⟩
theorem dL {w:World} {B:Nat} {e:TypeId} {sz:Nat} {v:Value} {n:Nat} {xs:List Value} (h:w.ownsRow B e sz v n xs):∃d c,v= .slice d n c:=by
 rcases h.2 with ⟨h1,b⟩|⟨g,f,cur,a,_⟩
 ·exact ⟨none,0,by rw [b];exact h1⟩
 exact ⟨_,_,a⟩
theorem aB {w w':World} (h:Below w.heap.size w w') (row:Option Nat):w.grownBy w' row:=⟨h.os,h.tape,h.output,h.size,fun k a _=>h.block k a⟩
theorem flat_get {sz:Nat}:∀(rows:List (List Value)),(∀r∈rows,r.length=sz)→ ∀(i:Nat) (hi:i<rows.length) (j:Nat) (u:Value),rows[i][j]? = some u→rows.flatten[i*sz+j]? = some u
 | [],_,_,hi,_,_,_=>by simp at hi
 | r::rows,hr,i,hi,j,u,hu=>by
  have b:r.length=sz:=hr r (by simp)
  cases i with
  | zero =>
   simp only [List.getElem_cons_zero] at hu
   have d:=(List.getElem?_eq_some_iff.1 hu).1
   rw [List.flatten_cons,Nat.zero_mul,Nat.zero_add,List.getElem?_append_left d];exact hu
  | succ i =>
   simp only [List.getElem_cons_succ] at hu
   rw [List.flatten_cons,List.getElem?_append_right (by rw [Nat.succ_mul];omega),show (i+1)*sz+j-r.length=i*sz+j from by rw [Nat.succ_mul];omega]
   exact flat_get rows (fun r a=>hr r (by simp [a])) i (by simpa using hi) j u hu
theorem dF.gq {w:World} {B:Nat} {e:TypeId} {v:Value} {sz:Nat} {rows:List (List Value)} (l:∀r∈rows,r.length=sz) (h:w.ownsRow B e sz v rows.length rows.flatten):dF w v sz rows:=by
 rcases h.2 with ⟨h1,f⟩|⟨g,a,cur,b,p,m,k,hm,n,o⟩
 ·obtain rfl:=List.eq_nil_of_length_eq_zero f
  exact ⟨none,0,h1,by simp,fun h=>absurd rfl h⟩
 refine ⟨some ⟨g,0,none⟩,a,b,Nat.le_trans k hm,fun _=>⟨g,0,rfl,(Array.getElem?_eq_some_iff.1 m).1,fun i hi j u hu=> ?_⟩⟩
 have d:=flat_get rows l i hi j u hu
 have:=h.cells (g:=g) (by rw [b];rfl) (i*sz+j) u d
 rw [Addr.add_mid] at this
 rw [show 0+i*sz+j=0+(i*sz+j) from by omega];exact this
section
variable {P:Program} {ops:Array Oper} {C:World → Prop} {Q:Act → Prop} {a:Act} {o:Oper} {rest:List Oper} {v:Value}
end
theorem au {w w':World} {B b o:Nat} {v:Value} (h:w.cell? ⟨b,o,none⟩=some v) (hb:Below B w w') (a:b<B):w'.cell? ⟨b,o,none⟩=some v:=by
 rw [hb.cell (p:=⟨b,o,none⟩) a];exact h
theorem vO {P:Program} {w w':World} {B b o:Nat} {cs:List Value} (ty:TypeId) (d:TypeDesc) (e:w.rangeAt b o cs) (h:b<B) (hu:P.underlying ty=some d) (hd:d.isRow=true)
  (hi:(P.info? ty).map (·.size)=some cs.length) (hb:Below B w w') {a:Act} {op:Oper} (x:Operand) (g:op.op= .load ty x) (hx:a.eval x= .pointer (some ⟨b,o,none⟩)) :
  (execOp a.eval op).run P w'= .ok (.value (.agg cs.toArray)) w':=by
 have i:w'.rangeAt b o cs:=fun j v f=>by rw [hb.cell (p:=⟨b,o+j,none⟩) h];exact e j v f
 unfold execOp
 simp only [g,hx,Instr.loadAt,Instr.sureAddr,Sem.run_bind,Sem.run_pure,Result.andThen_ok,run_loadVar_mid w' b o ty cs d i hu hd hi]
section
variable {P:Program} {ops:Array Oper} {Q:Exit → Act → World → Prop} {md:Region.Mode} {S:World → Prop} {K:Act → Prop}
end
end
end Go.Proofs.YtejamhkgjkhjdaaGreatDoor

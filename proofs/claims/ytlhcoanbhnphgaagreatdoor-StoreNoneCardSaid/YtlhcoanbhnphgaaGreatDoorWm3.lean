/- A part of this claim. -/
import Derived.Below
import Derived.Deep.AppendLies
import Derived.Deep.MidRow
import Derived.Deep.Quiet
import Derived.Deep.RegionHeld3
import Derived.KernelRfl
import Derived.Lib.Hide
import Derived.OrdersHeld
import Derived.StillTailTactics
import Derived.Tactics
import Derived.WalkKit
import Derived.WalkSmall
namespace Go.Proofs.YtlhcoanbhnphgaaGreatDoor
set_option maxHeartbeats 64000000
set_option maxRecDepth 100000
section
open Go.RowKit
structure Arr (w:World) (b n:Nat) (c:Nat → Value):Prop where
 cell:∀ k,k < n → w.cell? ⟨b,k,none⟩ = some (c k)
 free:∀ k,k < n → w.frozen? ⟨b,k,none⟩ = false
def upd {α:Type} (c:Nat → α) (j:Nat) (v:α):Nat → α:=fun k => if k = j then v else c k
theorem Arr.drewN {w:World} {b n:Nat} {c:Nat → Value} (h:Arr w b n c) (m:Nat):Arr (w.drewN m) b n c:=⟨h.cell,h.free⟩
theorem Arr.drew {w:World} {b n:Nat} {c:Nat → Value} (h:Arr w b n c):Arr w.drew b n c:=⟨h.cell,h.free⟩
theorem Arr.set {w:World} {b n:Nat} {c:Nat → Value} (h:Arr w b n c) (j:Nat) (hj:j < n) (v:Value):Arr (w.setCell ⟨b,j,none⟩ v) b n (upd c j v):=by
 refine ⟨fun k hk => ?_,fun k hk => by rw [World.frozen?_setCell];exact h.free k hk⟩
 unfold upd
 by_cases e:k = j
 ·subst e;rw [if_pos rfl];exact World.cell?_setCell_same _ _ _ (h.cell k hk)
 rw [if_neg e,World.cell?_setCell_other _ _ _ _ (fun x => e (by injection x with _ h2 _;exact h2.symm))];exact h.cell k hk
theorem Arr.far {w:World} {b n:Nat} {c:Nat → Value} (h:Arr w b n c) {p:Addr} (hp:p.block ≠ b) (v:Value):Arr (w.setCell p v) b n c :=
 ⟨fun k hk => by rw [World.cell?_setCell_other _ _ _ _ (fun x => hp (by rw [x]))];exact h.cell k hk,fun k hk => by rw [World.frozen?_setCell];exact h.free k hk⟩
theorem Arr.congr {w:World} {b n:Nat} {c d:Nat → Value} (h:Arr w b n c) (e:∀ k,k < n → c k = d k):Arr w b n d :=
 ⟨fun k hk => by rw [← e k hk];exact h.cell k hk,h.free⟩
theorem Arr.lt {w:World} {b n:Nat} {c:Nat → Value} (h:Arr w b n c) (hn:0 < n):b < w.heap.size:=World.block_lt_of_cell? w ⟨b,0,none⟩ (h.cell 0 hn)
theorem Arr.alloc {w:World} {b n:Nat} {c:Nat → Value} (h:Arr w b n c) (hn:0 < n) (o:Obj):Arr (w.alloc o) b n c:=by
 have hl:=h.lt hn
 exact ⟨fun k hk => by rw [World.cell?_alloc_lt _ _ _ hl];exact h.cell k hk,fun k hk => by rw [World.frozen?_alloc_old _ _ _ (Nat.ne_of_lt hl)];exact h.free k hk⟩
theorem Arr.below {w w':World} {b n B:Nat} {c:Nat → Value} (h:Arr w b n c) (hb:Below B w w') (hB:b < B):Arr w' b n c :=
 ⟨fun k hk => by rw [hb.cell (p:=⟨b,k,none⟩) hB];exact h.cell k hk,fun k hk => by rw [hb.frozen (p:=⟨b,k,none⟩) hB];exact h.free k hk⟩
theorem Arr.range {w:World} {b n:Nat} {c:Nat → Value} (h:Arr w b n c):w.rangeAt b 0 ((List.range n).map c):=fun j v hv => by
 have hj:j < n:=by have:=(List.getElem?_eq_some_iff.1 hv).1;simpa using this
 rw [Nat.zero_add,h.cell j hj,← hv]
 simp [hj]
theorem Arr.there {w:World} {b n:Nat} {c:Nat → Value} (h:Arr w b n c):w.there b 0 n:=fun j hj => by
 rw [Nat.zero_add];exact ⟨by rw [h.cell j hj];rfl,h.free j hj⟩
theorem dI {P:Program} {fn:Func} {R:Ending → World → Prop} {a:Act} {w:World} {p:Tmp} {ty:TypeId} (h:fn.results = #[.cell p ty]) (b o:Nat)
  (hp:a.tmps.getD p undef = .pointer (some ⟨b,o,none⟩)) (cs:List Value) (d:TypeDesc) (hc:w.rangeAt b o cs)
  (hu:P.underlying ty = some d) (hd:d.isRow = true) (hi:(P.info? ty).map (·.size) = some cs.length) (hdef:a.defers = []) (hR:R (.returned (.agg cs.toArray)) w):bodyPost P fn R .ret a w:=by
 refine bodyPost_ret (v:=.agg cs.toArray) ?_ hdef hR
 have:=run_loadVar_mid (P:=P) w b o ty cs d hc hu hd hi
 simp only [results,h]
 rw [Array.getD_eq_getD_getElem?] at hp
 simp [asAddr,hp,this]
theorem below_setCells {B:Nat} {a:World} (b:Nat) (hb:B ≤ b):∀ (vs:List Value) (o:Nat) (w:World),Below B a w → Below B a (w.setCells b o vs)
 | [],_,_,h => h
 | v :: r,o,w,h => by rw [World.setCells];exact below_setCells b hb r (o + 1) _ (h.setCell hb v)
def fV (w:World) (v:Value) (ss:List ByteArray):Prop :=
 ∃ ao cap,v = .slice ao ss.length cap ∧ ss.length ≤ maxLen ∧ (ss ≠ [] → ∃ b off,ao = some ⟨b,off,none⟩ ∧ b < w.heap.size ∧ ∀ i (h:i < ss.length),w.cell? ⟨b,off + i,none⟩ = some (.string ss[i]))
def aS (w:World) (v:Value) (sz:Nat) (rows:List (List Value)):Prop :=
 ∃ ao cap,v = .slice ao rows.length cap ∧ rows.length ≤ maxLen ∧ (rows ≠ [] → ∃ b off,ao = some ⟨b,off,none⟩ ∧ b < w.heap.size ∧ ∀ i (h:i < rows.length),w.rangeAt b (off + i * sz) rows[i])
theorem aF {w w':World} {B b o:Nat} {cs:List Value} (h:w.rangeAt b o cs) (hb:Below B w w') (hB:b < B):w'.rangeAt b o cs:=fun j v hv => by
 rw [hb.cell (p:=⟨b,o + j,none⟩) hB];exact h j v hv
theorem pO {w w':World} {B b o n:Nat} (h:w.there b o n) (hb:Below B w w') (hB:b < B):w'.there b o n:=fun j hj => by
 rw [hb.cell (p:=⟨b,o + j,none⟩) hB,hb.frozen (p:=⟨b,o + j,none⟩) hB];exact h j hj
theorem aS.below {w w':World} {v:Value} {sz:Nat} {rows:List (List Value)} (h:aS w v sz rows) (hb:Below w.heap.size w w'):aS w' v sz rows:=by
 obtain ⟨ao,cap,rfl,hm,h⟩:=h
 refine ⟨ao,cap,rfl,hm,fun hne => ?_⟩
 obtain ⟨b,off,e,hl,hc⟩:=h hne
 exact ⟨b,off,e,Nat.lt_of_lt_of_le hl hb.size,fun i hi => aF (hc i hi) hb hl⟩
theorem aG {w:World} {B:Nat} {e:TypeId} {sz:Nat} {v:Value} {n:Nat} {xs:List Value} (h:w.ownsRow B e sz v n xs):∃ ao c,v = .slice ao n c:=by
 rcases h.2 with ⟨h1,h2⟩ | ⟨g,cap,cur,hv,_⟩
 ·exact ⟨none,0,by rw [h2];exact h1⟩
 exact ⟨_,_,hv⟩
theorem aU {w w':World} (h:Below w.heap.size w w') (row:Option Nat):w.grownBy w' row:=⟨h.os,h.tape,h.output,h.size,fun k hk _ => h.block k hk⟩
theorem flat_get {sz:Nat}:∀ (rows:List (List Value)),(∀ r ∈ rows,r.length = sz) → ∀ (i:Nat) (hi:i < rows.length) (j:Nat) (u:Value),rows[i][j]? = some u → rows.flatten[i * sz + j]? = some u
 | [],_,_,hi,_,_,_ => by simp at hi
 | r :: rows,hr,i,hi,j,u,hu => by
  have hrl:r.length = sz:=hr r (by simp)
  cases i with
  | zero =>
   simp only [List.getElem_cons_zero] at hu
   have hj:=(List.getElem?_eq_some_iff.1 hu).1
   rw [List.flatten_cons,Nat.zero_mul,Nat.zero_add,List.getElem?_append_left hj];exact hu
  | succ i =>
   simp only [List.getElem_cons_succ] at hu
   rw [List.flatten_cons,List.getElem?_append_right (by rw [Nat.succ_mul];omega),show (i + 1) * sz + j - r.length = i * sz + j from by rw [Nat.succ_mul];omega]
   exact flat_get rows (fun r hr' => hr r (by simp [hr'])) i (by simpa using hi) j u hu
theorem aS.bZ {w:World} {B:Nat} {e:TypeId} {v:Value} {sz:Nat} {rows:List (List Value)} (hr:∀ r ∈ rows,r.length = sz) (h:w.ownsRow B e sz v rows.length rows.flatten):aS w v sz rows:=by
 rcases h.2 with ⟨h1,h2⟩ | ⟨g,cap,cur,hv,hg,hh,hn,hm,hc,ht⟩
 ·obtain rfl:=List.eq_nil_of_length_eq_zero h2
  exact ⟨none,0,h1,by simp,fun h => absurd rfl h⟩
 refine ⟨some ⟨g,0,none⟩,cap,hv,Nat.le_trans hn hm,fun _ => ⟨g,0,rfl,(Array.getElem?_eq_some_iff.1 hh).1,fun i hi j u hu => ?_⟩⟩
 have hf:=flat_get rows hr i hi j u hu
 have:=h.cells (g:=g) (by rw [hv];rfl) (i * sz + j) u hf
 rw [Addr.add_mid] at this
 rw [show 0 + i * sz + j = 0 + (i * sz + j) from by omega];exact this
theorem oW {P:Program} (w:World) (t ty e:TypeId) (i:TypeInfo) (ht:P.underlying t = some (.slice e)) (hi:P.info? e = some i) (a:Addr) (n cap:Nat) (h:n ≤ cap) (b:Option Addr) (c:Nat) :
  (Builtin.append_ #[t,t] ty #[.slice (some a) n cap,.slice b 0 c]).run P w = .ok (.slice (some a) n cap) w:=by
 cases b <;> simp [Builtin.append_,run_underlying ht,sizeOf,typeInfo,hi,Builtin.lenOf,h,Builtin.firstCells,loadCells,loadCellsFrom,storeCells]
theorem lS {P:Program} (w:World) {ops:Array Oper} {rest:List Oper} {o:Oper} {a:Act} {Q:Exit → Act → World → Prop}
  (hg:o.guard = none) (s x:Operand) (t:TypeId) (hop:o.op = Op.call { callee:=Callee.builtin Builtin.append,args:=#[s,x],argTypes:=#[t,t] })
  (e:TypeId) (i:TypeInfo) (ht:P.underlying t = some (.slice e)) (hi:P.info? e = some i) (ad:Addr) (n cap:Nat) (h:n ≤ cap) (b:Option Addr) (c:Nat)
  (hs:a.eval s = .slice (some ad) n cap) (hx:a.eval x = .slice b 0 c) (hK:wpList P ops Q rest (a.put o.dst (.slice (some ad) n cap)) w):wpList P ops Q (o :: rest) a w:=by
 refine wpList_plain hg fun K hK' => ?_
 have hrun:=oW (P:=P) w t o.type e i ht hi ad n cap h b c
 unfold Oper.wp
 simp [execOp,hop,resolve,invoke,builtin,hs,hx,hrun,Result.andThen]
 exact hK' _ _ hK
section
variable {P:Program} {ops:Array Oper} {C:World → Prop} {Q:Act → Prop} {a:Act} {o:Oper} {rest:List Oper} {v:Value}
structure WQ (P:Program) (ops:Array Oper) (C:World → Prop) (Q:Act → Prop) (l:List Oper) (a:Act):Prop where
 out:wpQuiet P ops C Q l a
theorem WQ.val (hw:Region.wanted o (yielded ops a.tmps) = true) (h:∀ w,C w → (execOp a.eval o).run P w = .ok (.value v) w)
  (hk:WQ P ops C Q rest (a.put o.dst v)):WQ P ops C Q (o :: rest) a:=by
 refine ⟨?_⟩
 unfold wpQuiet
 rw [if_pos hw]
 exact ⟨v,fun w hw => by unfold Oper.quietAt;rw [h w hw];exact ⟨rfl,rfl⟩,hk.out⟩
theorem WQ.off (hw:Region.wanted o (yielded ops a.tmps) = false) (hk:WQ P ops C Q rest (a.put o.dst undef)):WQ P ops C Q (o :: rest) a:=by
 refine ⟨?_⟩
 unfold wpQuiet
 rw [hw]
 exact hk.out
theorem WQ.call {f:FuncId} {args:Array Value} (hw:Region.wanted o (yielded ops a.tmps) = true) (h:∀ w,C w → (execOp a.eval o).run P w = .ok (.enter f args) w)
  (hc:∀ w,C w → Calls P f args w (fun e w'' => e = .returned v ∧ C w'')) (hk:WQ P ops C Q rest (a.put o.dst v)):WQ P ops C Q (o :: rest) a:=by
 refine ⟨?_⟩
 unfold wpQuiet
 rw [if_pos hw]
 exact ⟨v,fun w hw => by unfold Oper.quietAt;rw [h w hw];exact ⟨rfl,hc w hw⟩,hk.out⟩
theorem WQ.nil (h:Q a):WQ P ops C Q [] a:=⟨h⟩
end
theorem aA {w w':World} {B b o:Nat} {v:Value} (h:w.cell? ⟨b,o,none⟩ = some v) (hb:Below B w w') (hB:b < B):w'.cell? ⟨b,o,none⟩ = some v:=by
 rw [hb.cell (p:=⟨b,o,none⟩) hB];exact h
theorem uU {P:Program} {w w':World} {B b o:Nat} {cs:List Value} (ty:TypeId) (d:TypeDesc) (hc:w.rangeAt b o cs) (hB:b < B) (hu:P.underlying ty = some d) (hd:d.isRow = true)
  (hi:(P.info? ty).map (·.size) = some cs.length) (hb:Below B w w') {a:Act} {op:Oper} (x:Operand) (ho:op.op = .load ty x) (hx:a.eval x = .pointer (some ⟨b,o,none⟩)) :
  (execOp a.eval op).run P w' = .ok (.value (.agg cs.toArray)) w':=by
 have hr:w'.rangeAt b o cs:=fun j v hv => by rw [hb.cell (p:=⟨b,o + j,none⟩) hB];exact hc j v hv
 unfold execOp
 simp only [ho,hx,Instr.loadAt,Instr.sureAddr,Sem.run_bind,Sem.run_pure,Result.andThen_ok,run_loadVar_mid w' b o ty cs d hr hu hd hi]
def pre (N i:Nat):Array Bool:=((List.replicate i true) ++ List.replicate (N - i) false).toArray
section
variable {P:Program} {ops:Array Oper} {Q:Exit → Act → World → Prop} {md:Region.Mode} {S:World → Prop} {K:Act → Prop}
inductive HW (P:Program) (ops:Array Oper) (S:World → Prop) (K:Act → Prop):List Oper → Act → Prop
 | nil {a:Act} (h:K a):HW P ops S K [] a
 | cons {o:Oper} {v:Value} {rest:List Oper} {a:Act} (hy:YieldsIf P ops S o v a) (h:HW P ops S K rest (a.put o.dst v)):HW P ops S K (o :: rest) a
theorem HW.val {a:Act} {o:Oper} {rest:List Oper} {v:Value} (hw:Region.wanted o (yielded ops a.tmps) = true) (h:∀ w,S w → (execOp a.eval o).run P w = .ok (.value v) w)
  (hk:HW P ops S K rest (a.put o.dst v)):HW P ops S K (o :: rest) a:=.cons (.inl ⟨hw,h⟩) hk
theorem HW.off {a:Act} {o:Oper} {rest:List Oper} (hw:Region.wanted o (yielded ops a.tmps) = false)
  (hk:HW P ops S K rest (a.put o.dst undef)):HW P ops S K (o :: rest) a:=.cons (.inr ⟨hw,rfl⟩) hk
end
end
end Go.Proofs.YtlhcoanbhnphgaaGreatDoor

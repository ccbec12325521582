/- YtmhjpmenngjmeaaGreatDoorR6: texts JF of this claim, in one. -/
import Derived.ArgAppend
import Derived.Deep.DeepAppendRoom
import Derived.OrdersHeld
import Derived.Test.YtmhjpmenngjmeaaGreatDoorR4
namespace Go.Proofs.YtmhjpmenngjmeaaGreatDoor
open Go.RowKit
section
variable {P:Program} {ops:Array Oper} {md:Region.Mode} {Q:Exit → Act → World → Prop} {S:World → Prop}
def KK (Q:Exit → Act → World → Prop) (S:World → Prop) (T:Act → World → Prop):Exit → Act → World → Prop
 | .normal,a,w => S w ∧ T a w
 | e,a,w => Q e a w
theorem wp_of_KK {T:Act → World → Prop} {o:Oper} {a:Act} {w:World} {K:Act → World → Prop} (h:o.wp P a w K (KK Q S T)):o.wp P a w K Q:=by
 unfold Oper.wp at *
 generalize (execOp a.eval o).run P w = r at *
 cases r with
 | ok n w' =>
  cases n <;> simp only [Oper.upon] at h ⊢
  case enter f args =>
   refine Calls.mono h fun e w'' he => ?_
   cases e with
   | returned u => exact he
   | panicked c => exact he
   | outgrown => exact he
  all_goals exact h
 | halt x w' =>
  cases x <;> simp only [Oper.upon] at h ⊢
  case panic u => exact h
def wpL (P:Program) (md:Region.Mode) (ops:Array Oper) (Q:Exit → Act → World → Prop) (S:World → Prop) (n:Nat):Nat → Array Bool → Act → World → Prop
 | 0,ls,a,w => (∀ j ∈ Region.ready md ops ls,n ≤ j) ∧ wpAny P md ops Q (ops.size - n) ls a w
 | f + 1,ls,a,w => Region.ready md ops ls ≠ [] ∧ ∀ i ∈ Region.ready md ops ls,i < n ∧ wpOp P ops Q i (fun a' w' => S w' ∧ wpL P md ops Q S n f (ls.setIfInBounds i true) a' w') a w
theorem wpAny_of_L {n:Nat}:∀ (f:Nat) (ls:Array Bool) (a:Act) (w:World),wpL P md ops Q S n f ls a w → wpAny P md ops Q (f + (ops.size - n)) ls a w
 | 0,ls,a,w,h => by rw [Nat.zero_add];exact h.2
 | f + 1,ls,a,w,h => by
  rw [show f + 1 + (ops.size - n) = (f + (ops.size - n)) + 1 from by omega]
  exact ⟨fun h0 => absurd h0 h.1,fun i hi => wpOp_mono (fun a' w' h' => wpAny_of_L f _ a' w' h'.2) (h.2 i hi).2⟩
theorem wpL_first {n i:Nat} {oi:Oper} {v:Value} (hi:ops[i]? = some oi) (hsel:∀ (j:Nat) (o:Oper) cs b,ops[j]? = some o → o.op ≠ .select cs b)
  (hs:Region.sinkB md ops n = true) (hc:Region.chainB md ops n = true) (hn:n < ops.size) (hin:i < n) (hQ:∀ c a w,Q (.panic c) (a.put oi.dst v) w → Q (.panic c) a w) :
  ∀ (f:Nat) (ls:Array Bool) (a:Act) (w:World),HeadInv md ops n ls →
   (∀ j oj,ops[j]? = some oj → j ≠ i → ls.getD j true = false → (∀ e ∈ oj.after,Region.binds md e = true → e.on ≠ i) → oi.apart ops oj = true) →
   i ∈ Region.ready md ops ls → YieldsIf P ops S oi v a → S w → wpL P md ops Q S n f (ls.setIfInBounds i true) (a.put oi.dst v) w → wpL P md ops Q S n (f + 1) ls a w:=by
 intro f
 induction f with
 | zero =>
  intro ls a w inv _ hr hy hS H
  refine ⟨fun h0 => (by rw [h0] at hr;cases hr),fun j hj => ?_⟩
  have hjn:j < n:=Nat.lt_of_not_ge fun h0 => tail_waits hs hc hn inv _ i rfl hin (mem_ready.1 hr).1 j h0 hj
  refine ⟨hjn,?_⟩
  by_cases e:j = i
  ·subst e;exact hy.wpOp hi hS ⟨hS,H⟩
  ·have:=H.1 j (ready_mono hj e);omega
 | succ f ih =>
  intro ls a w inv hfree hr hy hS H
  have hun:=(mem_ready.1 hr).1
  refine ⟨fun h0 => (by rw [h0] at hr;cases hr),fun j hj => ?_⟩
  have hjn:j < n:=Nat.lt_of_not_ge fun h0 => tail_waits hs hc hn inv _ i rfl hin hun j h0 hj
  refine ⟨hjn,?_⟩
  by_cases e:j = i
  ·subst e;exact hy.wpOp hi hS ⟨hS,H⟩
  ·obtain ⟨hjun,oj,hoj,hall⟩:=mem_ready.1 hj
   have hnot:∀ x ∈ oj.after,Region.binds md x = true → x.on ≠ i:=fun x hx hb heq => by
    have h1:=hall x hx hb
    rw [heq,getD_both hun] at h1
    cases h1
   have h2:=wpOp_putIf hoj (hfree j oj hoj e hjun hnot) (fun cs b => hsel i oi cs b hi) (fun cs b => hsel j oj cs b hoj) hQ hy (H.2 j (ready_mono hj e)).2
   refine wpOp_mono (fun a' w' h3 => ⟨h3.2.1,ih (ls.setIfInBounds j true) a' w' (inv.set hj hjn) ?_ (ready_mono hr (Ne.symm e)) h3.1 h3.2.1 ?_⟩) h2
   ·intro k ok hk hki hkun hno
    refine hfree k ok hk hki ?_ hno
    by_cases ejk:j = k
    ·subst ejk;exact hjun
    ·rwa [getD_set_ne true ejk] at hkun
   ·rw [Array.setIfInBounds_comm _ _ e];exact h3.2.2
structure WL (P:Program) (ops:Array Oper) (Q:Exit → Act → World → Prop) (S:World → Prop) (n f:Nat) (ls:Array Bool) (a:Act) (w:World):Prop where
 out:HeadInv .any ops n ls → wpL P .any ops Q S n f ls a w
def lastB (ops:Array Oper) (n:Nat):Bool:=Region.noSelect ops && decide (n < ops.size) && Region.sinkB .any ops n && Region.chainB .any ops n
theorem WL.take {n i:Nat} {oi:Oper} {v:Value} {f:Nat} {ls:Array Bool} {a:Act} {w:World} (hi:ops[i]? = some oi) (hB:lastB ops n = true) (hin:i < n)
  (hf:Region.free .any ops ls i = true) (hr:(Region.ready .any ops ls).contains i = true) (hQ:∀ c a w,Q (.panic c) (a.put oi.dst v) w → Q (.panic c) a w) (hw:Region.wanted oi (yielded ops a.tmps) = true)
  (hy:∀ w,S w → (execOp a.eval oi).run P w = .ok (.value v) w) (hS:S w) (h:WL P ops Q S n f (ls.setIfInBounds i true) (a.put oi.dst v) w):WL P ops Q S n (f + 1) ls a w:=by
 simp only [lastB,Bool.and_eq_true,decide_eq_true_eq] at hB
 have hr':i ∈ Region.ready .any ops ls:=by simpa using hr
 exact ⟨fun inv => wpL_first hi (Region.noSelect_spec hB.1.1.1) hB.1.2 hB.2 hB.1.1.2 hin hQ f ls a w inv (Region.free_spec hi hf) hr' (.inl ⟨hw,hy⟩) hS (h.out (inv.set hr' hin))⟩
theorem WL.one {n i:Nat} {oi:Oper} {f:Nat} {ls:Array Bool} {a:Act} {w:World} (hi:ops[i]? = some oi) (hin:i < n) (hr:Region.ready .any ops ls = [i])
  (h:wpList P ops (KK Q S fun a' w' => WL P ops Q S n f (ls.setIfInBounds i true) a' w') [oi] a w):WL P ops Q S n (f + 1) ls a w:=by
 refine ⟨fun inv => ⟨fun h0 => (by rw [hr] at h0;cases h0),fun j hj => ?_⟩⟩
 have hj':=hj
 rw [hr] at hj
 obtain rfl:j = i:=by simpa using hj
 refine ⟨hin,?_⟩
 have hset:=inv.set hj' hin
 unfold wpOp
 simp only [hi]
 simp only [wpList] at h
 split
 ·rename_i hw
  rw [if_pos hw] at h
  rcases h with h | ⟨h1,h2⟩
  ·exact .inl (Oper.wp_mono (fun a' w' h' => ⟨h'.1,h'.2.out hset⟩) (wp_of_KK h))
  ·refine .inr ⟨h1,?_⟩
   obtain ⟨a',w',h'⟩:=h2
   exact ⟨a',w',h'⟩
 ·rename_i hw
  rw [if_neg hw] at h
  exact ⟨h.1,h.2.out hset⟩
theorem WL.last {n:Nat} {oi:Oper} {ls:Array Bool} {a:Act} {w:World} (hi:ops[n]? = some oi) (hz:ops.size = n + 1) (hr:Region.ready .any ops ls = [n]) (hd:Region.ready .any ops (ls.setIfInBounds n true) = [])
  (h:wpList P ops Q [oi] a w):WL P ops Q S n 0 ls a w:=by
 refine ⟨fun _ => ⟨fun j hj => ?_,?_⟩⟩
 ·rw [hr] at hj
  have e:j = n:=by simpa using hj
  omega
 rw [show ops.size - n = 1 from by omega]
 refine ⟨fun h0 => (by rw [hr] at h0;cases h0),fun j hj => ?_⟩
 rw [hr] at hj
 obtain rfl:j = n:=by simpa using hj
 have hw:wpOp P ops Q j (wpList P ops Q []) a w:=by unfold wpOp;simp only [hi];exact h
 exact wpOp_mono (fun a' w' h' => ⟨hd,h'⟩) hw
theorem wp_region_L {id:Nat} {a:Act} {w:World} {l:List Oper} (n:Nat) (S:World → Prop) (hm:P.follows .mixedOrders = true) (hB:lastB l.toArray n = true)
  (h:WL P l.toArray Q S n n (Array.replicate l.toArray.size false) a w.drew):(Code.region id l.toArray true).wp P Q a w:=by
 simp only [lastB,Bool.and_eq_true,decide_eq_true_eq] at hB
 have inv:HeadInv .any l.toArray n (Array.replicate l.toArray.size false) :=
  ⟨by simp,fun j oj _ hl => (by rw [getD_replicate_false] at hl;cases hl),fun t _ ht => getD_in (by simpa using ht) (getD_replicate_false _ _)⟩
 have H:=wpAny_of_L _ _ _ _ (h.out inv)
 rw [show n + (l.toArray.size - n) = l.toArray.size from by have:=hB.1.1.2;omega] at H
 exact wp_region_any hm H
end
end Go.Proofs.YtmhjpmenngjmeaaGreatDoor

namespace Go.Proofs.YtmhjpmenngjmeaaGreatDoor
open Go.RowKit
theorem lay_cells:∀ (l:List Value) (o:Nat) (a:Array Value),((l.zipIdx o).foldl (fun cs (p:Value × Nat) => cs.setIfInBounds p.2 p.1) a).size = a.size ∧
  ∀ k,((l.zipIdx o).foldl (fun cs (p:Value × Nat) => cs.setIfInBounds p.2 p.1) a)[k]? = if o ≤ k ∧ k < o + l.length ∧ k < a.size then l[k - o]? else a[k]?
 | [],o,a => ⟨rfl,fun k => by rw [if_neg (by simp only [List.length_nil];omega)];rfl⟩
 | x :: l,o,a => by
  obtain ⟨h1,h2⟩:=lay_cells l (o + 1) (a.setIfInBounds o x)
  rw [Array.size_setIfInBounds] at h1 h2
  rw [List.zipIdx_cons,List.foldl_cons]
  refine ⟨h1,fun k => ?_⟩
  rw [h2 k]
  by_cases hk:o + 1 ≤ k ∧ k < o + 1 + l.length ∧ k < a.size
  ·rw [if_pos hk,if_pos (by simp only [List.length_cons];omega)]
   rw [show k - o = (k - (o + 1)) + 1 from by omega,List.getElem?_cons_succ]
  ·rw [if_neg hk]
   by_cases e:k = o
   ·subst e
    by_cases hl:k < a.size
    ·rw [if_pos (by simp only [List.length_cons];omega),Nat.sub_self,Array.getElem?_setIfInBounds_self_of_lt hl];rfl
    ·rw [if_neg (by omega),Array.getElem?_eq_none (by simpa using hl),Array.getElem?_eq_none (by omega)]
   ·rw [Array.getElem?_setIfInBounds_ne (Ne.symm e),if_neg (by simp only [List.length_cons];omega)]
theorem lay_all (cs:List Value) (a:Array Value) (h:a.size = cs.length):(cs.toArray.zipIdx.foldl (fun ds (p:Value × Nat) => ds.setIfInBounds (0 * cs.length + p.2) p.1) a) = cs.toArray:=by
 have e:(fun (ds:Array Value) (p:Value × Nat) => ds.setIfInBounds (0 * cs.length + p.2) p.1) = fun ds p => ds.setIfInBounds p.2 p.1:=by funext ds p;rw [Nat.zero_mul,Nat.zero_add]
 rw [e]
 obtain ⟨h1,h2⟩:=lay_cells cs 0 a
 have hf:(cs.toArray.zipIdx.foldl (fun (ds:Array Value) (p:Value × Nat) => ds.setIfInBounds p.2 p.1) a) = ((cs.zipIdx 0).foldl (fun ds p => ds.setIfInBounds p.2 p.1) a):=by
  rw [← Array.foldl_toList,Array.toList_zipIdx]
 rw [hf]
 apply Array.ext_getElem?
 intro k
 rw [h2 k]
 by_cases hk:k < cs.length
 ·rw [if_pos (by omega),Nat.sub_zero];simp
 ·rw [if_neg (by omega),Array.getElem?_eq_none (by omega),Array.getElem?_eq_none (by simpa using hk)]
theorem run_buildSlice_one {P:Program} (w:World) (t e:TypeId) (cs:List Value) (zs:Array Value) (ht:P.underlying t = some (.slice e)) (hsz:∀ w,(sizeOf e).run P w = .ok cs.length w) (hz:∀ w,(zeroValue e).run P w = .ok (.agg zs) w)
  (hpos:0 < cs.length) (hlim:cs.length ≤ 1000) :
  (Instr.buildSlice t 1 #[(0,.agg cs.toArray)]).run P w = .ok (.slice (some ⟨w.heap.size,0,none⟩) 1 1) (w.alloc (.cells cs.toArray e)):=by
 have hfill:Instr.fill (fun i => some (i * cs.length,cs.length)) ((Array.range (1 * cs.length)).map (zs[· % zs.size]!)) #[(0,Value.agg cs.toArray)].toList = some cs.toArray:=by
  have ha:((Array.range (1 * cs.length)).map (zs[· % zs.size]!)).size = cs.length:=by simp
  have hv:(Value.agg cs.toArray).cells = cs.toArray:=rfl
  show Instr.fill _ _ [(0,Value.agg cs.toArray)] = _
  unfold Instr.fill
  simp only [hv,List.size_toArray]
  rw [if_neg (by simp)]
  unfold Instr.fill
  rw [lay_all cs _ ha]
 have h1:¬ (16777216 < 1 * cs.length):=by omega
 have h2:¬ (1 * cs.length = 0):=by omega
 unfold Instr.buildSlice
 simp only [Sem.run_bind,run_underlying ht,Result.andThen_ok,hsz]
 rw [if_neg (by omega),if_neg h2]
 simp only [Sem.run_bind,Sem.run_pure,Result.andThen_ok,hz]
 have hv:(Value.agg zs).cells = zs:=rfl
 simp only [hv,hfill]
 simp [newRow]
theorem wpList_buildSlice_one {P:Program} {w:World} {ops:Array Oper} {rest:List Oper} {o:Oper} {a:Act} {Q:Exit → Act → World → Prop} (hg:o.guard = none) (x:Operand) (t e:TypeId) (hop:o.op = .buildSlice t 1 #[(0,x)])
  (cs:List Value) (zs:Array Value) (hx:a.eval x = .agg cs.toArray) (ht:P.underlying t = some (.slice e)) (hsz:∀ w,(sizeOf e).run P w = .ok cs.length w) (hz:∀ w,(zeroValue e).run P w = .ok (.agg zs) w)
  (hpos:0 < cs.length) (hlim:cs.length ≤ 1000) (hK:wpList P ops Q rest (a.put o.dst (.slice (some ⟨w.heap.size,0,none⟩) 1 1)) (w.alloc (.cells cs.toArray e))):wpList P ops Q (o :: rest) a w:=by
 refine wpList_plain hg fun K hK' => ?_
 have hrun:=run_buildSlice_one w t e cs zs ht hsz hz hpos hlim
 unfold Oper.wp
 have he:(execOp a.eval o).run P w = .ok (.value (.slice (some ⟨w.heap.size,0,none⟩) 1 1)) (w.alloc (.cells cs.toArray e)):=by
  unfold execOp
  simp only [hop,List.map_toArray,List.map_cons,List.map_nil,hx,Sem.run_bind,hrun,Result.andThen_ok,Sem.run_pure]
 rw [he]
 exact hK' _ _ hK
theorem ret_cell2 {P:Program} {fn:Func} {R:Ending → World → Prop} {a:Act} {w:World} {p q:Tmp} {ty:TypeId} (h:fn.results = #[.cell p ty,.tmp q]) (b o:Nat)
  (hp:a.tmps.getD p undef = .pointer (some ⟨b,o,none⟩)) (cs:List Value) (d:TypeDesc) (hc:w.rangeAt b o cs)
  (hu:P.underlying ty = some d) (hd:d.isRow = true) (hi:(P.info? ty).map (·.size) = some cs.length) (hdef:a.defers = []) (u:Value) (hq:a.tmps.getD q undef = u) (hR:R (.returned (.tuple #[.agg cs.toArray,u])) w):bodyPost P fn R .ret a w:=by
 refine bodyPost_ret (v:=.tuple #[.agg cs.toArray,u]) ?_ hdef hR
 have:=run_loadVar_mid (P:=P) w b o ty cs d hc hu hd hi
 simp only [results,h]
 rw [Array.getD_eq_getD_getElem?] at hp hq
 simp [asAddr,hp,hq,this]
theorem wpList_load_mid_g {P:Program} {ops:Array Oper} {rest:List Oper} {op:Oper} {a:Act} {w:World} {Q:Exit → Act → World → Prop} (hw:Region.wanted op (yielded ops a.tmps) = true) (ty:TypeId) (x:Operand) (ho:op.op = .load ty x)
  (b o:Nat) (hx:a.eval x = .pointer (some ⟨b,o,none⟩)) (cs:List Value) (d:TypeDesc) (hc:w.rangeAt b o cs)
  (hu:P.underlying ty = some d) (hd:d.isRow = true) (hi:(P.info? ty).map (·.size) = some cs.length)
  (h:wpList P ops Q rest (a.put op.dst (.agg cs.toArray)) w):wpList P ops Q (op :: rest) a w:=by
 unfold wpList
 rw [if_pos hw]
 exact .inl (wp_load_mid ty x ho b o hx cs d hc hu hd hi h)
end Go.Proofs.YtmhjpmenngjmeaaGreatDoor

namespace Go.Proofs.YtmhjpmenngjmeaaGreatDoor
open Go.RowKit
def Fr (w:World) (v v':Value):Prop:=v'.ownBlock = v.ownBlock ∨ ∀ g,v'.ownBlock = some g → w.heap.size ≤ g
theorem Fr.refl (w:World) (v:Value):Fr w v v:=.inl rfl
theorem Fr.trans {w w':World} {a b c:Value} (h1:Fr w a b) (h2:Fr w' b c) (hs:w.heap.size ≤ w'.heap.size):Fr w a c:=by
 rcases h2 with h2 | h2
 ·rcases h1 with h1 | h1
  ·exact .inl (h2.trans h1)
  ·exact .inr fun g hg => h1 g (h2 ▸ hg)
 ·exact .inr fun g hg => Nat.le_trans hs (h2 g hg)
theorem Fr.mono {w w':World} {a b:Value} (h:Fr w' a b) (hs:w.heap.size ≤ w'.heap.size):Fr w a b:=(Fr.refl w a).trans h hs
theorem Fr.ne {w:World} {a b:Value} (h:Fr w a b) {k:Nat} (hk:k < w.heap.size) (hne:a.ownBlock ≠ some k):b.ownBlock ≠ some k:=by
 rcases h with h | h
 ·rw [h];exact hne
 ·intro e;have:=h k e;omega
theorem grown_below' {w w1 w2:World} {r:Option Nat} (h1:w.grownBy w1 r) (h2:Below w1.heap.size w1 w2):w.grownBy w2 r :=
 ⟨h2.os.trans h1.os,h2.tape.trans h1.tape,h2.output.trans h1.output,Nat.le_trans h1.size h2.size,fun k hk hne => (h2.block k (Nat.lt_of_lt_of_le hk h1.size)).trans (h1.block k hk hne)⟩
theorem below_grown' {w w1 w2:World} {r:Option Nat} (h1:Below w.heap.size w w1) (h2:w1.grownBy w2 r):w.grownBy w2 r :=
 ⟨h2.os.trans h1.os,h2.tape.trans h1.tape,h2.output.trans h1.output,Nat.le_trans h1.size h2.size,fun k hk hne => (h2.block k (Nat.lt_of_lt_of_le hk h1.size) hne).trans (h1.block k hk)⟩
theorem range_grown {w w':World} {r:Option Nat} {b o:Nat} {cs:List Value} (h:w.rangeAt b o cs) (hg:w.grownBy w' r) (hne:r ≠ some b):w'.rangeAt b o cs :=
 fun j u hu => hg.cell (a:=⟨b,o + j,none⟩) (h j u hu) (fun e => hne e.symm)
theorem cell_grown {w w':World} {r:Option Nat} {b o:Nat} {u:Value} (h:w.cell? ⟨b,o,none⟩ = some u) (hg:w.grownBy w' r) (hne:r ≠ some b):w'.cell? ⟨b,o,none⟩ = some u:=hg.cell (a:=⟨b,o,none⟩) h (fun e => hne e.symm)
theorem own_base {w:World} {B B':Nat} {e:TypeId} {sz:Nat} {v:Value} {n:Nat} {xs:List Value} (h:w.ownsRow B e sz v n xs) (hb:B' ≤ B):w.ownsRow B' e sz v n xs:=by
 refine ⟨h.1,?_⟩
 rcases h.2 with h | ⟨g,cap,cur,hv,hg,r⟩
 ·exact .inl h
 ·exact .inr ⟨g,cap,cur,hv,Nat.le_trans hb hg,r⟩
theorem grown_none {w w':World} (h:w.grownBy w' none) (r:Option Nat):w.grownBy w' r:=⟨h.os,h.tape,h.output,h.size,fun k hk _ => h.block k hk (by simp)⟩
theorem wpList_append_fr {P:Program} (w:World) {ops:Array Oper} {rest:List Oper} {o:Oper} {a:Act} {Q:Exit → Act → World → Prop}
  (hg:o.guard = none) (s x:Operand) (t:TypeId) (hop:o.op = Op.call { callee:=Callee.builtin Builtin.append,args:=#[s,x],argTypes:=#[t,t] })
  (base:Nat) (e:TypeId) (i:TypeInfo) (z:Value) (size bytes:Nat) (h1:P.underlying t = some (.slice e)) (h2:P.info? e = some i) (h3:i.zero = some z) (h4:i.size = size) (h5:i.bytes = bytes) (h6:z.cells.size = size) (h7:0 < size)
  (v:Value) (n:Nat) (xs:List Value) (hs:a.eval s = v) (hown:w.ownsRow base e size v n xs)
  (ad:Addr) (m c:Nat) (news:List Value) (hx:a.eval x = .slice (some ad) m c) (hn:news.length = m * size) (hc:∀ j u,news[j]? = some u → w.cell? (ad.add j) = some u) (h1c:∀ u ∈ news,u.oneCell' = true)
  (b1:n + m ≤ maxLen) (b2:(n + m) * bytes ≤ 140737488355328) (hbase:base ≤ w.heap.size)
  (hK:∀ v' w',w'.ownsRow base e size v' (n + m) (xs ++ news) → w.grownBy w' v.ownBlock → Fr w v v' → wpList P ops Q rest (a.put o.dst v') w') :
  wpList P ops Q (o :: rest) a w:=by
 rcases hown.2 with ⟨hv,hn0⟩ | ⟨g,cap,cur,hv,hbg,hgg,hnc,hcm,hcs,htk⟩
 ·subst hn0
  have hx0:xs = []:=List.eq_nil_of_length_eq_zero (by simpa using hown.1)
  subst hx0
  subst hv
  refine wpList_append_own w hg s x t hop w.heap.size e i z size bytes h1 h2 h3 h4 h5 h6 h7 _ 0 [] hs (World.ownsRow_nil w _ e size) ad m c news hx hn hc h1c b1 b2 (Nat.le_refl _) ?_
  intro v' w' r1 r2 _
  exact hK v' w' (own_base r1 hbase) r2 (.inr fun g hg => (r1.lt g hg).1 |> fun hh => hh)
 ·subst hv
  by_cases hroom:n + m ≤ cap
  ·refine wpList_append_own_spare w hg s x t hop base e i size h1 h2 h4 g n cap xs hs hown ad m c news hx hn hc h1c hroom ?_
   intro w' r1 r2
   exact hK _ w' r1 r2 (.inl rfl)
  ·refine wpList_append_grows w hg s x t hop e i z size bytes h1 h2 h3 h4 h5 h6 h7 (some ⟨g,0,none⟩) n cap xs hs (fun h => by cases h) hown.1 (fun b hb => by cases hb;exact hown.cells (g:=g) rfl) ad m c news hx hn hc h1c (by omega) b1 b2 ?_
   intro v' w' r1 r2
   exact hK v' w' (own_base r1 hbase) (grown_none r2 _) (.inr fun g hg => (r1.lt g hg).1)
theorem exec_row {P:Program} {w:World} {b o:Nat} {cs:List Value} (ty:TypeId) (d:TypeDesc) (hr:w.rangeAt b o cs) (hu:P.underlying ty = some d) (hd:d.isRow = true)
  (hi:(P.info? ty).map (·.size) = some cs.length) {a:Act} {op:Oper} (x:Operand) (ho:op.op = .load ty x) (hx:a.eval x = .pointer (some ⟨b,o,none⟩)) :
  (execOp a.eval op).run P w = .ok (.value (.agg cs.toArray)) w:=by
 unfold execOp
 simp only [ho,hx,Instr.loadAt,Instr.sureAddr,Sem.run_bind,Sem.run_pure,Result.andThen_ok,run_loadVar_mid w b o ty cs d hr hu hd hi]
section
variable {P:Program} {ops:Array Oper} {Q:Exit → Act → World → Prop} {S:World → Prop}
theorem WL.two {n i k:Nat} {oi ok:Oper} {f:Nat} {ls:Array Bool} {a:Act} {w:World} (hi:ops[i]? = some oi) (hk:ops[k]? = some ok) (hin:i < n) (hkn:k < n) (hr:Region.ready .any ops ls = [i,k])
  (h:wpList P ops (KK Q S fun a' w' => WL P ops Q S n f (ls.setIfInBounds i true) a' w') [oi] a w) (h':wpList P ops (KK Q S fun a' w' => WL P ops Q S n f (ls.setIfInBounds k true) a' w') [ok] a w):WL P ops Q S n (f + 1) ls a w:=by
 have one:∀ {j:Nat} {oj:Oper},ops[j]? = some oj → j < n → j ∈ Region.ready .any ops ls → wpList P ops (KK Q S fun a' w' => WL P ops Q S n f (ls.setIfInBounds j true) a' w') [oj] a w → HeadInv .any ops n ls →
   wpOp P ops Q j (fun a' w' => S w' ∧ wpL P .any ops Q S n f (ls.setIfInBounds j true) a' w') a w:=by
  intro j oj hj hjn hjr h inv
  have hset:=inv.set hjr hjn
  unfold wpOp
  simp only [hj]
  simp only [wpList] at h
  split
  ·rename_i hw
   rw [if_pos hw] at h
   rcases h with h | ⟨h1,h2⟩
   ·exact .inl (Oper.wp_mono (fun a' w' h' => ⟨h'.1,h'.2.out hset⟩) (wp_of_KK h))
   ·refine .inr ⟨h1,?_⟩
    obtain ⟨a',w',h'⟩:=h2
    exact ⟨a',w',h'⟩
  ·rename_i hw
   rw [if_neg hw] at h
   exact ⟨h.1,h.2.out hset⟩
 refine ⟨fun inv => ⟨fun h0 => (by rw [h0] at hr;cases hr),fun j hj => ?_⟩⟩
 have hj':=hj
 rw [hr] at hj
 rcases List.mem_cons.1 hj with rfl | hj2
 ·exact ⟨hin,one hi hin hj' h inv⟩
 ·obtain rfl:j = k:=by simpa using hj2
  exact ⟨hkn,one hk hkn hj' h' inv⟩
end
end Go.Proofs.YtmhjpmenngjmeaaGreatDoor

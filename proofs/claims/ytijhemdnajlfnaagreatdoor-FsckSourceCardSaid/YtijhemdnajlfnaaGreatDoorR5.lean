/- A part of this claim. -/
import Derived.ArgAppend
import Derived.Deep.DeepAppendRoom
import Derived.Test.YtijhemdnajlfnaaGreatDoorR4
namespace Go.Proofs.YtijhemdnajlfnaaGreatDoor
open Tryz
set_option maxHeartbeats 64000000
set_option maxRecDepth 100000
set_option linter.all false
section
open Go.RowKit
section
variable {P:Program} {ops:Array Oper} {md:Region.Mode} {Q:Exit → Act → World → Prop} {S:World → Prop}
def KK (Q:Exit → Act → World → Prop) (S:World → Prop) (T:Act → World → Prop):Exit → Act → World → Prop
 | .normal,a,w => S w ∧ T a w
 | e,a,w => Q e a w
theorem tH {T:Act → World → Prop} {o:Oper} {a:Act} {w:World} {K:Act → World → Prop} (h:o.wp P a w K (KK Q S T)):o.wp P a w K Q:=by
 unfold Oper.wp at *
 generalize (execOp a.eval o).run P w = r at *
 cases r with
 | ok n w' =>
  cases n <;> simp only [Oper.upon] at h ⊢
  case enter f args =>
   refine Calls.mono h fun e w'' he => ?_
   cases e with
   | returned u => exact he
   | panicked c => exact he
   | outgrown => exact he
  all_goals exact h
 | halt x w' =>
  cases x <;> simp only [Oper.upon] at h ⊢
  case panic u => exact h
def wpL (P:Program) (md:Region.Mode) (ops:Array Oper) (Q:Exit → Act → World → Prop) (S:World → Prop) (n:Nat):Nat → Array Bool → Act → World → Prop
 | 0,ls,a,w => (∀ j ∈ Region.ready md ops ls,n ≤ j) ∧ wpAny P md ops Q (ops.size - n) ls a w
 | f + 1,ls,a,w => Region.ready md ops ls ≠ [] ∧ ∀ i ∈ Region.ready md ops ls,i < n ∧ wpOp P ops Q i (fun a' w' => S w' ∧ wpL P md ops Q S n f (ls.setIfInBounds i true) a' w') a w
theorem tN {n:Nat}:∀ (f:Nat) (ls:Array Bool) (a:Act) (w:World),wpL P md ops Q S n f ls a w → wpAny P md ops Q (f + (ops.size - n)) ls a w
 | 0,ls,a,w,h => by rw [Nat.zero_add];exact h.2
 | f + 1,ls,a,w,h => by
  rw [show f + 1 + (ops.size - n) = (f + (ops.size - n)) + 1 from by omega]
  exact ⟨fun h0 => absurd h0 h.1,fun i hi => wpOp_mono (fun a' w' h' => tN f _ a' w' h'.2) (h.2 i hi).2⟩
theorem H6 {n i:Nat} {oi:Oper} {v:Value} (hi:ops[i]? = some oi) (hsel:∀ (j:Nat) (o:Oper) cs b,ops[j]? = some o → o.op ≠ .select cs b)
  (hs:Region.sinkB md ops n = true) (hc:Region.chainB md ops n = true) (hn:n < ops.size) (hin:i < n) (hQ:∀ c a w,Q (.panic c) (a.put oi.dst v) w → Q (.panic c) a w) :
  ∀ (f:Nat) (ls:Array Bool) (a:Act) (w:World),HeadInv md ops n ls →
   (∀ j oj,ops[j]? = some oj → j ≠ i → ls.getD j true = false → (∀ e ∈ oj.after,Region.binds md e = true → e.on ≠ i) → oi.apart ops oj = true) →
   i ∈ Region.ready md ops ls → YieldsIf P ops S oi v a → S w → wpL P md ops Q S n f (ls.setIfInBounds i true) (a.put oi.dst v) w → wpL P md ops Q S n (f + 1) ls a w:=by
 intro f
 induction f with
 | zero =>
  intro ls a w inv _ hr hy hS H
  refine ⟨fun h0 => (by rw [h0] at hr;cases hr),fun j hj => ?_⟩
  have hjn:j < n:=Nat.lt_of_not_ge fun h0 => tail_waits hs hc hn inv _ i rfl hin (mem_ready.1 hr).1 j h0 hj
  refine ⟨hjn,?_⟩
  by_cases e:j = i
  ·subst e;exact hy.wpOp hi hS ⟨hS,H⟩
  have:=H.1 j (ready_mono hj e);omega
 | succ f ih =>
  intro ls a w inv hfree hr hy hS H
  have hun:=(mem_ready.1 hr).1
  refine ⟨fun h0 => (by rw [h0] at hr;cases hr),fun j hj => ?_⟩
  have hjn:j < n:=Nat.lt_of_not_ge fun h0 => tail_waits hs hc hn inv _ i rfl hin hun j h0 hj
  refine ⟨hjn,?_⟩
  by_cases e:j = i
  ·subst e;exact hy.wpOp hi hS ⟨hS,H⟩
  obtain ⟨hjun,oj,hoj,hall⟩:=mem_ready.1 hj
  have hnot:∀ x ∈ oj.after,Region.binds md x = true → x.on ≠ i:=fun x hx hb heq => by
   have h1:=hall x hx hb
   rw [heq,getD_both hun] at h1
   cases h1
  have h2:=wpOp_putIf hoj (hfree j oj hoj e hjun hnot) (fun cs b => hsel i oi cs b hi) (fun cs b => hsel j oj cs b hoj) hQ hy (H.2 j (ready_mono hj e)).2
  refine wpOp_mono (fun a' w' h3 => ⟨h3.2.1,ih (ls.setIfInBounds j true) a' w' (inv.set hj hjn) ?_ (ready_mono hr (Ne.symm e)) h3.1 h3.2.1 ?_⟩) h2
  ·intro k ok hk hki hkun hno
   refine hfree k ok hk hki ?_ hno
   by_cases ejk:j = k
   ·subst ejk;exact hjun
   rwa [getD_set_ne true ejk] at hkun
  rw [Array.setIfInBounds_comm _ _ e];exact h3.2.2
structure WL (P:Program) (ops:Array Oper) (Q:Exit → Act → World → Prop) (S:World → Prop) (n f:Nat) (ls:Array Bool) (a:Act) (w:World):Prop where
 out:HeadInv .any ops n ls → wpL P .any ops Q S n f ls a w
def lastB (ops:Array Oper) (n:Nat):Bool:=Region.noSelect ops && decide (n < ops.size) && Region.sinkB .any ops n && Region.chainB .any ops n
theorem WL.take {n i:Nat} {oi:Oper} {v:Value} {f:Nat} {ls:Array Bool} {a:Act} {w:World} (hi:ops[i]? = some oi) (hB:lastB ops n = true) (hin:i < n)
  (hf:Region.free .any ops ls i = true) (hr:(Region.ready .any ops ls).contains i = true) (hQ:∀ c a w,Q (.panic c) (a.put oi.dst v) w → Q (.panic c) a w) (hw:Region.wanted oi (yielded ops a.tmps) = true)
  (hy:∀ w,S w → (execOp a.eval oi).run P w = .ok (.value v) w) (hS:S w) (h:WL P ops Q S n f (ls.setIfInBounds i true) (a.put oi.dst v) w):WL P ops Q S n (f + 1) ls a w:=by
 simp only [lastB,Bool.and_eq_true,decide_eq_true_eq] at hB
 have hr':i ∈ Region.ready .any ops ls:=by simpa using hr
 exact ⟨fun inv => H6 hi (Region.noSelect_spec hB.1.1.1) hB.1.2 hB.2 hB.1.1.2 hin hQ f ls a w inv (Region.free_spec hi hf) hr' (.inl ⟨hw,hy⟩) hS (h.out (inv.set hr' hin))⟩
theorem WL.one {n i:Nat} {oi:Oper} {f:Nat} {ls:Array Bool} {a:Act} {w:World} (hi:ops[i]? = some oi) (hin:i < n) (hr:Region.ready .any ops ls = [i])
  (h:wpList P ops (KK Q S fun a' w' => WL P ops Q S n f (ls.setIfInBounds i true) a' w') [oi] a w):WL P ops Q S n (f + 1) ls a w:=by
 refine ⟨fun inv => ⟨fun h0 => (by rw [hr] at h0;cases h0),fun j hj => ?_⟩⟩
 have hj':=hj
 rw [hr] at hj
 obtain rfl:j = i:=by simpa using hj
 refine ⟨hin,?_⟩
 have hset:=inv.set hj' hin
 unfold wpOp
 simp only [hi]
 simp only [wpList] at h
 split
 ·rename_i hw
  rw [if_pos hw] at h
  rcases h with h | ⟨h1,h2⟩
  ·exact .inl (Oper.wp_mono (fun a' w' h' => ⟨h'.1,h'.2.out hset⟩) (tH h))
  refine .inr ⟨h1,?_⟩
  obtain ⟨a',w',h'⟩:=h2
  exact ⟨a',w',h'⟩
 rename_i hw
 rw [if_neg hw] at h
 exact ⟨h.1,h.2.out hset⟩
theorem WL.last {n:Nat} {oi:Oper} {ls:Array Bool} {a:Act} {w:World} (hi:ops[n]? = some oi) (hz:ops.size = n + 1) (hr:Region.ready .any ops ls = [n]) (hd:Region.ready .any ops (ls.setIfInBounds n true) = [])
  (h:wpList P ops Q [oi] a w):WL P ops Q S n 0 ls a w:=by
 refine ⟨fun _ => ⟨fun j hj => ?_,?_⟩⟩
 ·rw [hr] at hj
  have e:j = n:=by simpa using hj
  omega
 rw [show ops.size - n = 1 from by omega]
 refine ⟨fun h0 => (by rw [hr] at h0;cases h0),fun j hj => ?_⟩
 rw [hr] at hj
 obtain rfl:j = n:=by simpa using hj
 have hw:wpOp P ops Q j (wpList P ops Q []) a w:=by unfold wpOp;simp only [hi];exact h
 exact wpOp_mono (fun a' w' h' => ⟨hd,h'⟩) hw
theorem Bo {id:Nat} {a:Act} {w:World} {l:List Oper} (n:Nat) (S:World → Prop) (hm:P.follows .mixedOrders = true) (hB:lastB l.toArray n = true)
  (h:WL P l.toArray Q S n n (Array.replicate l.toArray.size false) a w.drew):(Code.region id l.toArray true).wp P Q a w:=by
 simp only [lastB,Bool.and_eq_true,decide_eq_true_eq] at hB
 have inv:HeadInv .any l.toArray n (Array.replicate l.toArray.size false) :=
  ⟨by simp,fun j oj _ hl => (by rw [getD_replicate_false] at hl;cases hl),fun t _ ht => getD_in (by simpa using ht) (getD_replicate_false _ _)⟩
 have H:=tN _ _ _ _ (h.out inv)
 rw [show n + (l.toArray.size - n) = l.toArray.size from by have:=hB.1.1.2;omega] at H
 exact wp_region_any hm H
end
theorem zk:∀ (l:List Value) (o:Nat) (a:Array Value),((l.zipIdx o).foldl (fun cs (p:Value × Nat) => cs.setIfInBounds p.2 p.1) a).size = a.size ∧
  ∀ k,((l.zipIdx o).foldl (fun cs (p:Value × Nat) => cs.setIfInBounds p.2 p.1) a)[k]? = if o ≤ k ∧ k < o + l.length ∧ k < a.size then l[k - o]? else a[k]?
 | [],o,a => ⟨rfl,fun k => by rw [if_neg (by simp only [List.length_nil];omega)];rfl⟩
 | x :: l,o,a => by
  obtain ⟨h1,h2⟩:=zk l (o + 1) (a.setIfInBounds o x)
  rw [Array.size_setIfInBounds] at h1 h2
  rw [List.zipIdx_cons,List.foldl_cons]
  refine ⟨h1,fun k => ?_⟩
  rw [h2 k]
  by_cases hk:o + 1 ≤ k ∧ k < o + 1 + l.length ∧ k < a.size
  ·rw [if_pos hk,if_pos (by simp only [List.length_cons];omega)]
   rw [show k - o = (k - (o + 1)) + 1 from by omega,List.getElem?_cons_succ]
  rw [if_neg hk]
  by_cases e:k = o
  ·subst e
   by_cases hl:k < a.size
   ·rw [if_pos (by simp only [List.length_cons];omega),Nat.sub_self,Array.getElem?_setIfInBounds_self_of_lt hl];rfl
   rw [if_neg (by omega),Array.getElem?_eq_none (by simpa using hl),Array.getElem?_eq_none (by omega)]
  rw [Array.getElem?_setIfInBounds_ne (Ne.symm e),if_neg (by simp only [List.length_cons];omega)]
theorem lay_all (cs:List Value) (a:Array Value) (h:a.size = cs.length):(cs.toArray.zipIdx.foldl (fun ds (p:Value × Nat) => ds.setIfInBounds (0 * cs.length + p.2) p.1) a) = cs.toArray:=by
 have e:(fun (ds:Array Value) (p:Value × Nat) => ds.setIfInBounds (0 * cs.length + p.2) p.1) = fun ds p => ds.setIfInBounds p.2 p.1:=by funext ds p;rw [Nat.zero_mul,Nat.zero_add]
 rw [e]
 obtain ⟨h1,h2⟩:=zk cs 0 a
 have hf:(cs.toArray.zipIdx.foldl (fun (ds:Array Value) (p:Value × Nat) => ds.setIfInBounds p.2 p.1) a) = ((cs.zipIdx 0).foldl (fun ds p => ds.setIfInBounds p.2 p.1) a):=by
  rw [← Array.foldl_toList,Array.toList_zipIdx]
 rw [hf]
 apply Array.ext_getElem?
 intro k
 rw [h2 k]
 by_cases hk:k < cs.length
 ·rw [if_pos (by omega),Nat.sub_zero];simp
 rw [if_neg (by omega),Array.getElem?_eq_none (by omega),Array.getElem?_eq_none (by simpa using hk)]
theorem oz {P:Program} (w:World) (t e:TypeId) (cs:List Value) (zs:Array Value) (ht:P.underlying t = some (.slice e)) (hsz:∀ w,(sizeOf e).run P w = .ok cs.length w) (hz:∀ w,(zeroValue e).run P w = .ok (.agg zs) w)
  (hpos:0 < cs.length) (hlim:cs.length ≤ 1000) :
  (Instr.buildSlice t 1 #[(0,.agg cs.toArray)]).run P w = .ok (.slice (some ⟨w.heap.size,0,none⟩) 1 1) (w.alloc (.cells cs.toArray e)):=by
 have hfill:Instr.fill (fun i => some (i * cs.length,cs.length)) ((Array.range (1 * cs.length)).map (zs[· % zs.size]!)) #[(0,Value.agg cs.toArray)].toList = some cs.toArray:=by
  have ha:((Array.range (1 * cs.length)).map (zs[· % zs.size]!)).size = cs.length:=by simp
  have hv:(Value.agg cs.toArray).cells = cs.toArray:=rfl
  show Instr.fill _ _ [(0,Value.agg cs.toArray)] = _
  unfold Instr.fill
  simp only [hv,List.size_toArray]
  rw [if_neg (by simp)]
  unfold Instr.fill
  rw [lay_all cs _ ha]
 have h1:¬ (16777216 < 1 * cs.length):=by omega
 have h2:¬ (1 * cs.length = 0):=by omega
 unfold Instr.buildSlice
 simp only [Sem.run_bind,run_underlying ht,Result.andThen_ok,hsz]
 rw [if_neg (by omega),if_neg h2]
 simp only [Sem.run_bind,Sem.run_pure,Result.andThen_ok,hz]
 have hv:(Value.agg zs).cells = zs:=rfl
 simp only [hv,hfill]
 simp [newRow]
theorem av {P:Program} {w:World} {ops:Array Oper} {rest:List Oper} {o:Oper} {a:Act} {Q:Exit → Act → World → Prop} (hg:o.guard = none) (x:Operand) (t e:TypeId) (hop:o.op = .buildSlice t 1 #[(0,x)])
  (cs:List Value) (zs:Array Value) (hx:a.eval x = .agg cs.toArray) (ht:P.underlying t = some (.slice e)) (hsz:∀ w,(sizeOf e).run P w = .ok cs.length w) (hz:∀ w,(zeroValue e).run P w = .ok (.agg zs) w)
  (hpos:0 < cs.length) (hlim:cs.length ≤ 1000) (hK:wpList P ops Q rest (a.put o.dst (.slice (some ⟨w.heap.size,0,none⟩) 1 1)) (w.alloc (.cells cs.toArray e))):wpList P ops Q (o :: rest) a w:=by
 refine wpList_plain hg fun K hK' => ?_
 have hrun:=oz w t e cs zs ht hsz hz hpos hlim
 unfold Oper.wp
 have he:(execOp a.eval o).run P w = .ok (.value (.slice (some ⟨w.heap.size,0,none⟩) 1 1)) (w.alloc (.cells cs.toArray e)):=by
  unfold execOp
  simp only [hop,List.map_toArray,List.map_cons,List.map_nil,hx,Sem.run_bind,hrun,Result.andThen_ok,Sem.run_pure]
 rw [he]
 exact hK' _ _ hK
theorem aB {P:Program} {fn:Func} {R:Ending → World → Prop} {a:Act} {w:World} {p q:Tmp} {ty:TypeId} (h:fn.results = #[.cell p ty,.tmp q]) (b o:Nat)
  (hp:a.tmps.getD p undef = .pointer (some ⟨b,o,none⟩)) (cs:List Value) (d:TypeDesc) (hc:w.rangeAt b o cs)
  (hu:P.underlying ty = some d) (hd:d.isRow = true) (hi:(P.info? ty).map (·.size) = some cs.length) (hdef:a.defers = []) (u:Value) (hq:a.tmps.getD q undef = u) (hR:R (.returned (.tuple #[.agg cs.toArray,u])) w):bodyPost P fn R .ret a w:=by
 refine bodyPost_ret (v:=.tuple #[.agg cs.toArray,u]) ?_ hdef hR
 have:=run_loadVar_mid (P:=P) w b o ty cs d hc hu hd hi
 simp only [results,h]
 rw [Array.getD_eq_getD_getElem?] at hp hq
 simp [asAddr,hp,hq,this]
theorem aG {P:Program} {ops:Array Oper} {rest:List Oper} {op:Oper} {a:Act} {w:World} {Q:Exit → Act → World → Prop} (hw:Region.wanted op (yielded ops a.tmps) = true) (ty:TypeId) (x:Operand) (ho:op.op = .load ty x)
  (b o:Nat) (hx:a.eval x = .pointer (some ⟨b,o,none⟩)) (cs:List Value) (d:TypeDesc) (hc:w.rangeAt b o cs)
  (hu:P.underlying ty = some d) (hd:d.isRow = true) (hi:(P.info? ty).map (·.size) = some cs.length)
  (h:wpList P ops Q rest (a.put op.dst (.agg cs.toArray)) w):wpList P ops Q (op :: rest) a w:=by
 unfold wpList
 rw [if_pos hw]
 exact .inl (wp_load_mid ty x ho b o hx cs d hc hu hd hi h)
def Fr (w:World) (v v':Value):Prop:=v'.ownBlock = v.ownBlock ∨ ∀ g,v'.ownBlock = some g → w.heap.size ≤ g
theorem Fr.refl (w:World) (v:Value):Fr w v v:=.inl rfl
theorem Fr.trans {w w':World} {a b c:Value} (h1:Fr w a b) (h2:Fr w' b c) (hs:w.heap.size ≤ w'.heap.size):Fr w a c:=by
 rcases h2 with h2 | h2
 ·rcases h1 with h1 | h1
  ·exact .inl (h2.trans h1)
  exact .inr fun g hg => h1 g (h2 ▸ hg)
 exact .inr fun g hg => Nat.le_trans hs (h2 g hg)
theorem Fr.mono {w w':World} {a b:Value} (h:Fr w' a b) (hs:w.heap.size ≤ w'.heap.size):Fr w a b:=(Fr.refl w a).trans h hs
theorem jq {w w1 w2:World} {r:Option Nat} (h1:w.grownBy w1 r) (h2:Below w1.heap.size w1 w2):w.grownBy w2 r :=
 ⟨h2.os.trans h1.os,h2.tape.trans h1.tape,h2.output.trans h1.output,Nat.le_trans h1.size h2.size,fun k hk hne => (h2.block k (Nat.lt_of_lt_of_le hk h1.size)).trans (h1.block k hk hne)⟩
theorem Bf {w w1 w2:World} {r:Option Nat} (h1:Below w.heap.size w w1) (h2:w1.grownBy w2 r):w.grownBy w2 r :=
 ⟨h2.os.trans h1.os,h2.tape.trans h1.tape,h2.output.trans h1.output,Nat.le_trans h1.size h2.size,fun k hk hne => (h2.block k (Nat.lt_of_lt_of_le hk h1.size) hne).trans (h1.block k hk)⟩
theorem dX {w w':World} {r:Option Nat} {b o:Nat} {cs:List Value} (h:w.rangeAt b o cs) (hg:w.grownBy w' r) (hne:r ≠ some b):w'.rangeAt b o cs :=
 fun j u hu => hg.cell (a:=⟨b,o + j,none⟩) (h j u hu) (fun e => hne e.symm)
theorem pO {w:World} {B B':Nat} {e:TypeId} {sz:Nat} {v:Value} {n:Nat} {xs:List Value} (h:w.ownsRow B e sz v n xs) (hb:B' ≤ B):w.ownsRow B' e sz v n xs:=by
 refine ⟨h.1,?_⟩
 rcases h.2 with h | ⟨g,cap,cur,hv,hg,r⟩
 ·exact .inl h
 exact .inr ⟨g,cap,cur,hv,Nat.le_trans hb hg,r⟩
theorem vX {w w':World} (h:w.grownBy w' none) (r:Option Nat):w.grownBy w' r:=⟨h.os,h.tape,h.output,h.size,fun k hk _ => h.block k hk (by simp)⟩
theorem aR {P:Program} (w:World) {ops:Array Oper} {rest:List Oper} {o:Oper} {a:Act} {Q:Exit → Act → World → Prop}
  (hg:o.guard = none) (s x:Operand) (t:TypeId) (hop:o.op = Op.call { callee:=Callee.builtin Builtin.append,args:=#[s,x],argTypes:=#[t,t] })
  (base:Nat) (e:TypeId) (i:TypeInfo) (z:Value) (size bytes:Nat) (h1:P.underlying t = some (.slice e)) (h2:P.info? e = some i) (h3:i.zero = some z) (h4:i.size = size) (h5:i.bytes = bytes) (h6:z.cells.size = size) (h7:0 < size)
  (v:Value) (n:Nat) (xs:List Value) (hs:a.eval s = v) (hown:w.ownsRow base e size v n xs)
  (ad:Addr) (m c:Nat) (news:List Value) (hx:a.eval x = .slice (some ad) m c) (hn:news.length = m * size) (hc:∀ j u,news[j]? = some u → w.cell? (ad.add j) = some u) (h1c:∀ u ∈ news,u.oneCell' = true)
  (b1:n + m ≤ maxLen) (b2:(n + m) * bytes ≤ 140737488355328) (hbase:base ≤ w.heap.size)
  (hK:∀ v' w',w'.ownsRow base e size v' (n + m) (xs ++ news) → w.grownBy w' v.ownBlock → Fr w v v' → wpList P ops Q rest (a.put o.dst v') w') :
  wpList P ops Q (o :: rest) a w:=by
 rcases hown.2 with ⟨hv,hn0⟩ | ⟨g,cap,cur,hv,hbg,hgg,hnc,hcm,hcs,htk⟩
 ·subst hn0
  have hx0:xs = []:=List.eq_nil_of_length_eq_zero (by simpa using hown.1)
  subst hx0
  subst hv
  refine wpList_append_own w hg s x t hop w.heap.size e i z size bytes h1 h2 h3 h4 h5 h6 h7 _ 0 [] hs (World.ownsRow_nil w _ e size) ad m c news hx hn hc h1c b1 b2 (Nat.le_refl _) ?_
  intro v' w' r1 r2 _
  exact hK v' w' (pO r1 hbase) r2 (.inr fun g hg => (r1.lt g hg).1 |> fun hh => hh)
 subst hv
 by_cases hroom:n + m ≤ cap
 ·refine wpList_append_own_spare w hg s x t hop base e i size h1 h2 h4 g n cap xs hs hown ad m c news hx hn hc h1c hroom ?_
  intro w' r1 r2
  exact hK _ w' r1 r2 (.inl rfl)
 refine wpList_append_grows w hg s x t hop e i z size bytes h1 h2 h3 h4 h5 h6 h7 (some ⟨g,0,none⟩) n cap xs hs (fun h => by cases h) hown.1 (fun b hb => by cases hb;exact hown.cells (g:=g) rfl) ad m c news hx hn hc h1c (by omega) b1 b2 ?_
 intro v' w' r1 r2
 exact hK v' w' (pO r1 hbase) (vX r2 _) (.inr fun g hg => (r1.lt g hg).1)
theorem iB {P:Program} {w:World} {b o:Nat} {cs:List Value} (ty:TypeId) (d:TypeDesc) (hr:w.rangeAt b o cs) (hu:P.underlying ty = some d) (hd:d.isRow = true)
  (hi:(P.info? ty).map (·.size) = some cs.length) {a:Act} {op:Oper} (x:Operand) (ho:op.op = .load ty x) (hx:a.eval x = .pointer (some ⟨b,o,none⟩)) :
  (execOp a.eval op).run P w = .ok (.value (.agg cs.toArray)) w:=by
 unfold execOp
 simp only [ho,hx,Instr.loadAt,Instr.sureAddr,Sem.run_bind,Sem.run_pure,Result.andThen_ok,run_loadVar_mid w b o ty cs d hr hu hd hi]
section
variable {P:Program} {ops:Array Oper} {Q:Exit → Act → World → Prop} {S:World → Prop}
theorem WL.two {n i k:Nat} {oi ok:Oper} {f:Nat} {ls:Array Bool} {a:Act} {w:World} (hi:ops[i]? = some oi) (hk:ops[k]? = some ok) (hin:i < n) (hkn:k < n) (hr:Region.ready .any ops ls = [i,k])
  (h:wpList P ops (KK Q S fun a' w' => WL P ops Q S n f (ls.setIfInBounds i true) a' w') [oi] a w) (h':wpList P ops (KK Q S fun a' w' => WL P ops Q S n f (ls.setIfInBounds k true) a' w') [ok] a w):WL P ops Q S n (f + 1) ls a w:=by
 have one:∀ {j:Nat} {oj:Oper},ops[j]? = some oj → j < n → j ∈ Region.ready .any ops ls → wpList P ops (KK Q S fun a' w' => WL P ops Q S n f (ls.setIfInBounds j true) a' w') [oj] a w → HeadInv .any ops n ls →
   wpOp P ops Q j (fun a' w' => S w' ∧ wpL P .any ops Q S n f (ls.setIfInBounds j true) a' w') a w:=by
  intro j oj hj hjn hjr h inv
  have hset:=inv.set hjr hjn
  unfold wpOp
  simp only [hj]
  simp only [wpList] at h
  split
  ·rename_i hw
   rw [if_pos hw] at h
   rcases h with h | ⟨h1,h2⟩
   ·exact .inl (Oper.wp_mono (fun a' w' h' => ⟨h'.1,h'.2.out hset⟩) (tH h))
   refine .inr ⟨h1,?_⟩
   obtain ⟨a',w',h'⟩:=h2
   exact ⟨a',w',h'⟩
  rename_i hw
  rw [if_neg hw] at h
  exact ⟨h.1,h.2.out hset⟩
 refine ⟨fun inv => ⟨fun h0 => (by rw [h0] at hr;cases hr),fun j hj => ?_⟩⟩
 have hj':=hj
 rw [hr] at hj
 rcases List.mem_cons.1 hj with rfl | hj2
 ·exact ⟨hin,one hi hin hj' h inv⟩
 obtain rfl:j = k:=by simpa using hj2
 exact ⟨hkn,one hk hkn hj' h' inv⟩
end
section
variable {P:Program} {ops:Array Oper} {Q:Exit → Act → World → Prop} {Sp S0:World → Prop} {m:Nat}
def SX (m:Nat) (Sp S0:World → Prop) (ls:Array Bool) (w:World):Prop:=Sp w ∧ (ls.getD m false = true ∨ S0 w)
theorem SX.set {ls:Array Bool} {w:World} {i:Nat} (h:i ≠ m):SX m Sp S0 (ls.setIfInBounds i true) w ↔ SX m Sp S0 ls w:=by
 unfold SX
 have:(ls.setIfInBounds i true).getD m false = ls.getD m false:=by
  rw [Array.getD_eq_getD_getElem?,Array.getD_eq_getD_getElem?,Array.getElem?_setIfInBounds_ne h]
 rw [this]
def wpX (P:Program) (ops:Array Oper) (Q:Exit → Act → World → Prop) (m:Nat) (Sp S0:World → Prop) (n:Nat):Nat → Array Bool → Act → World → Prop
 | 0,ls,a,w => (∀ j ∈ Region.ready .any ops ls,n ≤ j) ∧ wpAny P .any ops Q (ops.size - n) ls a w
 | f + 1,ls,a,w => Region.ready .any ops ls ≠ [] ∧ ∀ i ∈ Region.ready .any ops ls,i < n ∧ wpOp P ops Q i (fun a' w' => SX m Sp S0 (ls.setIfInBounds i true) w' ∧ wpX P ops Q m Sp S0 n f (ls.setIfInBounds i true) a' w') a w
theorem tL {n:Nat}:∀ (f:Nat) (ls:Array Bool) (a:Act) (w:World),wpX P ops Q m Sp S0 n f ls a w → wpAny P .any ops Q (f + (ops.size - n)) ls a w
 | 0,ls,a,w,h => by rw [Nat.zero_add];exact h.2
 | f + 1,ls,a,w,h => by
  rw [show f + 1 + (ops.size - n) = (f + (ops.size - n)) + 1 from by omega]
  exact ⟨fun h0 => absurd h0 h.1,fun i hi => wpOp_mono (fun a' w' h' => tL f _ a' w' h'.2) (h.2 i hi).2⟩
theorem xV {n i:Nat} {oi:Oper} {v:Value} {Sw:World → Prop} (R:Array Bool → Prop) (hi:ops[i]? = some oi) (hsel:∀ (j:Nat) (o:Oper) cs b,ops[j]? = some o → o.op ≠ .select cs b)
  (hs:Region.sinkB .any ops n = true) (hc:Region.chainB .any ops n = true) (hn:n < ops.size) (hin:i < n) (him:i ≠ m) (hQ:∀ c a w,Q (.panic c) (a.put oi.dst v) w → Q (.panic c) a w)
  (hR:∀ ls j,R ls → ls.getD i true = false → j ∈ Region.ready .any ops ls → j ≠ i → R (ls.setIfInBounds j true)) (hRS:∀ ls w,R ls → SX m Sp S0 ls w → Sw w) :
  ∀ (f:Nat) (ls:Array Bool) (a:Act) (w:World),HeadInv .any ops n ls → R ls →
   (∀ j oj,ops[j]? = some oj → j ≠ i → ls.getD j true = false → (∀ e ∈ oj.after,Region.binds .any e = true → e.on ≠ i) → oi.apart ops oj = true) →
   i ∈ Region.ready .any ops ls → YieldsIf P ops Sw oi v a → SX m Sp S0 ls w → wpX P ops Q m Sp S0 n f (ls.setIfInBounds i true) (a.put oi.dst v) w → wpX P ops Q m Sp S0 n (f + 1) ls a w:=by
 intro f
 induction f with
 | zero =>
  intro ls a w inv hRl _ hr hy hS H
  refine ⟨fun h0 => (by rw [h0] at hr;cases hr),fun j hj => ?_⟩
  have hjn:j < n:=Nat.lt_of_not_ge fun h0 => tail_waits hs hc hn inv _ i rfl hin (mem_ready.1 hr).1 j h0 hj
  refine ⟨hjn,?_⟩
  by_cases e:j = i
  ·subst e;exact hy.wpOp hi (hRS ls w hRl hS) ⟨(SX.set him).2 hS,H⟩
  have:=H.1 j (ready_mono hj e);omega
 | succ f ih =>
  intro ls a w inv hRl hfree hr hy hS H
  have hun:=(mem_ready.1 hr).1
  refine ⟨fun h0 => (by rw [h0] at hr;cases hr),fun j hj => ?_⟩
  have hjn:j < n:=Nat.lt_of_not_ge fun h0 => tail_waits hs hc hn inv _ i rfl hin hun j h0 hj
  refine ⟨hjn,?_⟩
  by_cases e:j = i
  ·subst e;exact hy.wpOp hi (hRS ls w hRl hS) ⟨(SX.set him).2 hS,H⟩
  obtain ⟨hjun,oj,hoj,hall⟩:=mem_ready.1 hj
  have hnot:∀ x ∈ oj.after,Region.binds .any x = true → x.on ≠ i:=fun x hx hb heq => by
   have h1:=hall x hx hb
   rw [heq,getD_both hun] at h1
   cases h1
  have h2:=wpOp_putIf hoj (hfree j oj hoj e hjun hnot) (fun cs b => hsel i oi cs b hi) (fun cs b => hsel j oj cs b hoj) hQ hy (H.2 j (ready_mono hj e)).2
  refine wpOp_mono (fun a' w' h3 => ?_) h2
  have h4:SX m Sp S0 (ls.setIfInBounds j true) w':=by
   have:=h3.2.1
   rw [Array.setIfInBounds_comm _ _ (Ne.symm e)] at this
   exact (SX.set him).1 this
  refine ⟨h4,ih (ls.setIfInBounds j true) a' w' (inv.set hj hjn) (hR ls j hRl hun hj e) ?_ (ready_mono hr (Ne.symm e)) h3.1 h4 ?_⟩
  ·intro k ok hk hki hkun hno
   refine hfree k ok hk hki ?_ hno
   by_cases ejk:j = k
   ·subst ejk;exact hjun
   rwa [getD_set_ne true ejk] at hkun
  rw [Array.setIfInBounds_comm _ _ e];exact h3.2.2
structure WX (P:Program) (ops:Array Oper) (Q:Exit → Act → World → Prop) (m:Nat) (Sp S0:World → Prop) (n f:Nat) (ls:Array Bool) (a:Act) (w:World):Prop where
 out:HeadInv .any ops n ls → wpX P ops Q m Sp S0 n f ls a w
def Aa (ops:Array Oper) (m i:Nat):Bool:=match ops[m]? with
 | none => true
 | some o => o.after.any fun e => Region.binds .any e && e.on == i
theorem Bq {i:Nat} (h:Aa ops m i = true) {om:Oper} (hm:ops[m]? = some om):∃ e ∈ om.after,Region.binds .any e = true ∧ e.on = i:=by
 unfold Aa at h
 rw [hm] at h
 dsimp only at h
 obtain ⟨e,he,h2⟩:=Array.any_eq_true'.1 h
 rw [Bool.and_eq_true] at h2
 exact ⟨e,he,h2.1,by simpa using h2.2⟩
theorem WX.take {n i:Nat} {oi:Oper} {v:Value} {f:Nat} {ls:Array Bool} {a:Act} {w:World} (hi:ops[i]? = some oi) (hB:lastB ops n = true) (hin:i < n) (him:i ≠ m)
  (hf:Region.free .any ops ls i = true) (hr:(Region.ready .any ops ls).contains i = true) (hQ:∀ c a w,Q (.panic c) (a.put oi.dst v) w → Q (.panic c) a w) (hw:Region.wanted oi (yielded ops a.tmps) = true)
  (hy:∀ w,Sp w → (execOp a.eval oi).run P w = .ok (.value v) w) (hS:SX m Sp S0 ls w) (h:WX P ops Q m Sp S0 n f (ls.setIfInBounds i true) (a.put oi.dst v) w):WX P ops Q m Sp S0 n (f + 1) ls a w:=by
 simp only [lastB,Bool.and_eq_true,decide_eq_true_eq] at hB
 have hr':i ∈ Region.ready .any ops ls:=by simpa using hr
 exact ⟨fun inv => xV (fun _ => True) hi (Region.noSelect_spec hB.1.1.1) hB.1.2 hB.2 hB.1.1.2 hin him hQ (fun _ _ _ _ _ _ => trivial) (fun _ _ _ h => h.1) f ls a w inv trivial (Region.free_spec hi hf) hr' (.inl ⟨hw,hy⟩) hS (h.out (inv.set hr' hin))⟩
theorem WX.take2 {n i:Nat} {oi:Oper} {v:Value} {f:Nat} {ls:Array Bool} {a:Act} {w:World} (hi:ops[i]? = some oi) (hB:lastB ops n = true) (hin:i < n) (him:i ≠ m) (hwt:Aa ops m i = true) (hml:ls.getD m false = false)
  (hf:Region.free .any ops ls i = true) (hr:(Region.ready .any ops ls).contains i = true) (hQ:∀ c a w,Q (.panic c) (a.put oi.dst v) w → Q (.panic c) a w) (hw:Region.wanted oi (yielded ops a.tmps) = true)
  (hy:∀ w,Sp w ∧ S0 w → (execOp a.eval oi).run P w = .ok (.value v) w) (hS:SX m Sp S0 ls w) (h:WX P ops Q m Sp S0 n f (ls.setIfInBounds i true) (a.put oi.dst v) w):WX P ops Q m Sp S0 n (f + 1) ls a w:=by
 simp only [lastB,Bool.and_eq_true,decide_eq_true_eq] at hB
 have hr':i ∈ Region.ready .any ops ls:=by simpa using hr
 refine ⟨fun inv => xV (Sw:=fun w => Sp w ∧ S0 w) (fun ls => ls.getD m false = false) hi (Region.noSelect_spec hB.1.1.1) hB.1.2 hB.2 hB.1.1.2 hin him hQ (fun ls j hR hun hj e => ?_) (fun ls w hR h => ⟨h.1,?_⟩) f ls a w inv hml (Region.free_spec hi hf) hr' (.inl ⟨hw,hy⟩) hS (h.out (inv.set hr' hin))⟩
 ·have hjm:j ≠ m:=fun e2 => by
   subst e2
   obtain ⟨_,oj,hoj,hall⟩:=mem_ready.1 hj
   obtain ⟨x,hx,hb,hon⟩:=Bq hwt hoj
   have h1:=hall x hx hb
   rw [hon,getD_both hun] at h1
   cases h1
  rw [Array.getD_eq_getD_getElem?,Array.getElem?_setIfInBounds_ne hjm,← Array.getD_eq_getD_getElem?]
  exact hR
 rcases h.2 with h2 | h2
 ·rw [hR] at h2;cases h2
 exact h2
theorem WX.each {n j:Nat} {oj:Oper} {f:Nat} {ls:Array Bool} {a:Act} {w:World} (hj:ops[j]? = some oj) (hjn:j < n) (hjr:j ∈ Region.ready .any ops ls)
  (h:wpList P ops (KK Q (SX m Sp S0 (ls.setIfInBounds j true)) fun a' w' => WX P ops Q m Sp S0 n f (ls.setIfInBounds j true) a' w') [oj] a w) (inv:HeadInv .any ops n ls) :
  wpOp P ops Q j (fun a' w' => SX m Sp S0 (ls.setIfInBounds j true) w' ∧ wpX P ops Q m Sp S0 n f (ls.setIfInBounds j true) a' w') a w:=by
 have hset:=inv.set hjr hjn
 unfold wpOp
 simp only [hj]
 simp only [wpList] at h
 split
 ·rename_i hw
  rw [if_pos hw] at h
  rcases h with h | ⟨h1,h2⟩
  ·exact .inl (Oper.wp_mono (fun a' w' h' => ⟨h'.1,h'.2.out hset⟩) (tH h))
  refine .inr ⟨h1,?_⟩
  obtain ⟨a',w',h'⟩:=h2
  exact ⟨a',w',h'⟩
 rename_i hw
 rw [if_neg hw] at h
 exact ⟨h.1,h.2.out hset⟩
theorem WX.one {n i:Nat} {oi:Oper} {f:Nat} {ls:Array Bool} {a:Act} {w:World} (hi:ops[i]? = some oi) (hin:i < n) (hr:Region.ready .any ops ls = [i])
  (h:wpList P ops (KK Q (SX m Sp S0 (ls.setIfInBounds i true)) fun a' w' => WX P ops Q m Sp S0 n f (ls.setIfInBounds i true) a' w') [oi] a w):WX P ops Q m Sp S0 n (f + 1) ls a w:=by
 refine ⟨fun inv => ⟨fun h0 => (by rw [hr] at h0;cases h0),fun j hj => ?_⟩⟩
 have hj':=hj
 rw [hr] at hj
 obtain rfl:j = i:=by simpa using hj
 exact ⟨hin,WX.each hi hin hj' h inv⟩
theorem WX.two {n i k:Nat} {oi ok:Oper} {f:Nat} {ls:Array Bool} {a:Act} {w:World} (hi:ops[i]? = some oi) (hk:ops[k]? = some ok) (hin:i < n) (hkn:k < n) (hr:Region.ready .any ops ls = [i,k])
  (h:wpList P ops (KK Q (SX m Sp S0 (ls.setIfInBounds i true)) fun a' w' => WX P ops Q m Sp S0 n f (ls.setIfInBounds i true) a' w') [oi] a w)
  (h':wpList P ops (KK Q (SX m Sp S0 (ls.setIfInBounds k true)) fun a' w' => WX P ops Q m Sp S0 n f (ls.setIfInBounds k true) a' w') [ok] a w):WX P ops Q m Sp S0 n (f + 1) ls a w:=by
 refine ⟨fun inv => ⟨fun h0 => (by rw [h0] at hr;cases hr),fun j hj => ?_⟩⟩
 have hj':=hj
 rw [hr] at hj
 rcases List.mem_cons.1 hj with rfl | hj2
 ·exact ⟨hin,WX.each hi hin hj' h inv⟩
 obtain rfl:j = k:=by simpa using hj2
 exact ⟨hkn,WX.each hk hkn hj' h' inv⟩
theorem WX.last {n:Nat} {oi:Oper} {ls:Array Bool} {a:Act} {w:World} (hi:ops[n]? = some oi) (hz:ops.size = n + 1) (hr:Region.ready .any ops ls = [n]) (hd:Region.ready .any ops (ls.setIfInBounds n true) = [])
  (h:wpList P ops Q [oi] a w):WX P ops Q m Sp S0 n 0 ls a w:=by
 refine ⟨fun _ => ⟨fun j hj => ?_,?_⟩⟩
 ·rw [hr] at hj
  have e:j = n:=by simpa using hj
  omega
 rw [show ops.size - n = 1 from by omega]
 refine ⟨fun h0 => (by rw [hr] at h0;cases h0),fun j hj => ?_⟩
 rw [hr] at hj
 obtain rfl:j = n:=by simpa using hj
 have hw:wpOp P ops Q j (wpList P ops Q []) a w:=by unfold wpOp;simp only [hi];exact h
 exact wpOp_mono (fun a' w' h' => ⟨hd,h'⟩) hw
theorem rG {id:Nat} {a:Act} {w:World} {l:List Oper} (n m:Nat) (Sp S0:World → Prop) (hm:P.follows .mixedOrders = true) (hB:lastB l.toArray n = true)
  (h:WX P l.toArray Q m Sp S0 n n (Array.replicate l.toArray.size false) a w.drew):(Code.region id l.toArray true).wp P Q a w:=by
 simp only [lastB,Bool.and_eq_true,decide_eq_true_eq] at hB
 have inv:HeadInv .any l.toArray n (Array.replicate l.toArray.size false) :=
  ⟨by simp,fun j oj _ hl => (by rw [getD_replicate_false] at hl;cases hl),fun t _ ht => getD_in (by simpa using ht) (getD_replicate_false _ _)⟩
 have H:=tL _ _ _ _ (h.out inv)
 rw [show n + (l.toArray.size - n) = l.toArray.size from by have:=hB.1.1.2;omega] at H
 exact wp_region_any hm H
end
structure A2 (B:Nat) (E1 E2:TypeId) (s1 s2:Nat) (wz:World) (v1:Value) (n1:Nat) (x1:List Value) (v2:Value) (n2:Nat) (x2:List Value) (q1 q2:Option (Nat × List Value)) (W:World):Prop where
 o1:W.ownsRow B E1 s1 v1 n1 x1
 o2:W.ownsRow B E2 s2 v2 n2 x2
 bel:Below B wz W
 sz:wz.heap.size ≤ W.heap.size
 q1:∀ b c,q1 = some (b,c) → wz.heap.size ≤ b ∧ b < W.heap.size ∧ W.rangeAt b 0 c
 q2:∀ b c,q2 = some (b,c) → wz.heap.size ≤ b ∧ b < W.heap.size ∧ W.rangeAt b 0 c
theorem nz {α:Type}:(∀ (xs:List α) (i:Nat) (h:i < xs.toArray.size),xs.toArray[i] = xs[i]'(by simpa using h)) ∧ (∀ (a:α) (l:List α) (i:Nat) (h:i + 1 < (a :: l).length),(a :: l)[i + 1] = l[i]'(by simpa using h)) ∧
  (∀ (a:α) (l:List α) (h:0 < (a :: l).length),(a :: l)[0] = a) ∧ (∀ (l:List α) (i:Nat) (a:α),l.toArray.setIfInBounds i a = (l.set i a).toArray) ∧ (∀ (x:α) (l:List α) (i:Nat) (a:α),(x :: l).set (i + 1) a = x :: l.set i a) ∧
  ∀ (x:α) (l:List α) (a:α),(x :: l).set 0 a = a :: l :=
 ⟨fun _ _ h => List.getElem_toArray h,fun a l i h => List.getElem_cons_succ a l i h,fun a l h => List.getElem_cons_zero a l h,fun l i a => List.setIfInBounds_toArray l i a,fun _ _ _ _ => List.set_cons_succ,fun _ _ _ => List.set_cons_zero⟩
theorem ah {p:Prop} (h:p):Hid p:=Lib.hid h
theorem bal {w:World} {x:Obj}:Below w.heap.size w (w.alloc x):=(Below.refl _ _).alloc (Nat.le_refl _) _
theorem bth {a b c:World} (h:Hid (Below a.heap.size a b)) (h2:Below b.heap.size b c):Hid (Below a.heap.size a c):=Lib.hid (h.out.trans (h2.mono h.out.size))
theorem blq {w:World} {b o:Nat} {v:Value} (h:w.cell? ⟨b,o,none⟩ = some v) (hb:b < w.heap.size:=by omega) (x:BW w.heap.size w):x.out.cell? ⟨b,o,none⟩ = some v:=ak h x.hb hb
section
variable {P:Program} {ops:Array Oper} {Q:Exit → Act → World → Prop} {S Sp S0:World → Prop} {n m f:Nat} {oi ok:Oper} {v:Value} {ls:Array Bool} {a:Act} {w:World}
theorem WL.tk (i:Nat) {a':Act} (hS:S w) (h:WL P ops Q S n f (ls.setIfInBounds i true) a' w) (hi:ops[i]? = some oi:=by rfl) (hB:lastB ops n = true:=by kernel_rfl) (hin:i < n:=by decide)
  (hf:Region.free .any ops ls i = true:=by decide +kernel) (hr:(Region.ready .any ops ls).contains i = true:=by decide +kernel) (hQ:∀ c a w,Q (.panic c) (a.put oi.dst v) w → Q (.panic c) a w:=by exact fun _ _ _ h => h)
  (hw:Region.wanted oi (yielded ops a.tmps) = true:=by rfl) (hy:∀ w,S w → (execOp a.eval oi).run P w = .ok (.value v) w:=by intro w' hSw;(try dsimp only at hSw);go_simp;(try with_reducible rfl))
  (ha:a.put oi.dst v = a':=by simp only [Act.put,nz];rfl):WL P ops Q S n (f + 1) ls a w:=by
 subst ha
 exact WL.take hi hB hin hf hr hQ hw hy hS h
theorem WL.on (i:Nat) (h:wpList P ops (KK Q S fun a' w' => WL P ops Q S n f (ls.setIfInBounds i true) a' w') [oi] a w) (hi:ops[i]? = some oi:=by rfl) (hin:i < n:=by decide) (hr:Region.ready .any ops ls = [i]:=by decide +kernel):WL P ops Q S n (f + 1) ls a w:=WL.one hi hin hr h
theorem WL.tw (i k:Nat) (h:wpList P ops (KK Q S fun a' w' => WL P ops Q S n f (ls.setIfInBounds i true) a' w') [oi] a w) (h':wpList P ops (KK Q S fun a' w' => WL P ops Q S n f (ls.setIfInBounds k true) a' w') [ok] a w)
  (hi:ops[i]? = some oi:=by rfl) (hk:ops[k]? = some ok:=by rfl) (hin:i < n:=by decide) (hkn:k < n:=by decide) (hr:Region.ready .any ops ls = [i,k]:=by decide +kernel):WL P ops Q S n (f + 1) ls a w:=WL.two hi hk hin hkn hr h h'
theorem WL.la (n:Nat) (h:wpList P ops Q [oi] a w) (hi:ops[n]? = some oi:=by rfl) (hz:ops.size = n + 1:=by rfl) (hr:Region.ready .any ops ls = [n]:=by decide +kernel) (hd:Region.ready .any ops (ls.setIfInBounds n true) = []:=by decide +kernel):WL P ops Q S n 0 ls a w:=WL.last hi hz hr hd h
theorem WX.tk (i:Nat) {a':Act} (hS:SX m Sp S0 ls w) (h:WX P ops Q m Sp S0 n f (ls.setIfInBounds i true) a' w) (hi:ops[i]? = some oi:=by rfl) (hB:lastB ops n = true:=by kernel_rfl) (hin:i < n:=by decide) (him:i ≠ m:=by decide)
  (hf:Region.free .any ops ls i = true:=by decide +kernel) (hr:(Region.ready .any ops ls).contains i = true:=by decide +kernel) (hQ:∀ c a w,Q (.panic c) (a.put oi.dst v) w → Q (.panic c) a w:=by exact fun _ _ _ h => h)
  (hw:Region.wanted oi (yielded ops a.tmps) = true:=by rfl) (hy:∀ w,Sp w → (execOp a.eval oi).run P w = .ok (.value v) w:=by intro w' hSw;(try dsimp only at hSw);go_simp;(try with_reducible rfl))
  (ha:a.put oi.dst v = a':=by simp only [Act.put,nz];rfl):WX P ops Q m Sp S0 n (f + 1) ls a w:=by
 subst ha
 exact WX.take hi hB hin him hf hr hQ hw hy hS h
theorem WX.t2 (i:Nat) {a':Act} (hS:SX m Sp S0 ls w) (h:WX P ops Q m Sp S0 n f (ls.setIfInBounds i true) a' w) (hi:ops[i]? = some oi:=by rfl) (hB:lastB ops n = true:=by kernel_rfl) (hin:i < n:=by decide) (him:i ≠ m:=by decide) (hwt:Aa ops m i = true:=by decide +kernel) (hml:ls.getD m false = false:=by decide +kernel)
  (hf:Region.free .any ops ls i = true:=by decide +kernel) (hr:(Region.ready .any ops ls).contains i = true:=by decide +kernel) (hQ:∀ c a w,Q (.panic c) (a.put oi.dst v) w → Q (.panic c) a w:=by exact fun _ _ _ h => h)
  (hw:Region.wanted oi (yielded ops a.tmps) = true:=by rfl) (hy:∀ w,Sp w ∧ S0 w → (execOp a.eval oi).run P w = .ok (.value v) w:=by intro w' hSw;(try dsimp only at hSw);go_simp;(try with_reducible rfl))
  (ha:a.put oi.dst v = a':=by simp only [Act.put,nz];rfl):WX P ops Q m Sp S0 n (f + 1) ls a w:=by
 subst ha
 exact WX.take2 hi hB hin him hwt hml hf hr hQ hw hy hS h
theorem WX.on (i:Nat) (h:wpList P ops (KK Q (SX m Sp S0 (ls.setIfInBounds i true)) fun a' w' => WX P ops Q m Sp S0 n f (ls.setIfInBounds i true) a' w') [oi] a w) (hi:ops[i]? = some oi:=by rfl) (hin:i < n:=by decide) (hr:Region.ready .any ops ls = [i]:=by decide +kernel):WX P ops Q m Sp S0 n (f + 1) ls a w:=WX.one hi hin hr h
theorem WX.la (n:Nat) (h:wpList P ops Q [oi] a w) (hi:ops[n]? = some oi:=by rfl) (hz:ops.size = n + 1:=by rfl) (hr:Region.ready .any ops ls = [n]:=by decide +kernel) (hd:Region.ready .any ops (ls.setIfInBounds n true) = []:=by decide +kernel):WX P ops Q m Sp S0 n 0 ls a w:=WX.last hi hz hr hd h
end
section
variable {P:Program} {id:Nat} {Q:Exit → Act → World → Prop} {a:Act} {w:World} {l:List Oper}
theorem wbq (h:wpQuiet P l.toArray (fun w' => ∃ x:BW w.heap.size w,w' = x.out) (fun a' => ∀ w',Below w.heap.size w w' → Q .normal a' w') l a) (hm:P.follows .mixedOrders = true:=by kernel_rfl) (hB:Region.lexB .any l.toArray = true:=by kernel_rfl):(Code.region id l.toArray true).wp P Q a w:=oP hm hB h
theorem wrL (n:Nat) (S:World → Prop) (h:WL P l.toArray Q S n n (Array.replicate l.toArray.size false) a w.drew) (hm:P.follows .mixedOrders = true:=by kernel_rfl) (hB:lastB l.toArray n = true:=by kernel_rfl):(Code.region id l.toArray true).wp P Q a w:=Bo n S hm hB h
end
def kV:List Value:=mD.map fun k => .int .u32 (wn k)
theorem qX:kV.length = 64:=by unfold kV;rw [List.length_map,oD]
def aY (f:Nat → W32) (k:Nat):Value:=.int .u32 (wn (f k))
theorem kT (f:Nat → W32) (i:Nat) (x:W32):upd (aY f) i (.int .u32 (wn x)) = aY (upd f i x):=by
 funext k;unfold upd aY;dsimp only;split <;> rfl
theorem Arr.new (w:World) (n:Nat) (v:Value) (e:TypeId):Arr (w.alloc (.cells (Array.replicate n v) e)) w.heap.size n (fun _ => v) :=
 ⟨fun k hk => by rw [World.cell?_alloc_new];simp [hk],fun k hk => by rw [World.frozen?_alloc_new]⟩
theorem O9 (w:World):(sizeOf 5).run prog w = .ok 1 w:=by kernel_rfl
theorem Ej (b:Nat) (k:Nat) (hk:k < 16) (w:World) :
  (Instr.sliceAt 224 (.pointer (some ⟨b,9,none⟩)) (some (.int .i64 (4 * (k:Int)))) (some (.int .i64 (4 * (k:Int) + 4))) none).run prog w = .ok (.slice (some ⟨b,9 + 4 * k,none⟩) 4 (64 - 4 * k)) w:=by
 have ea:prog.arrayLen 224 = 64:=by kernel_rfl
 have ee:prog.elem 224 = 5:=by kernel_rfl
 have e1:((4 * (k:Int))).toNat = 4 * k:=by omega
 have e2:((4 * (k:Int) + 4)).toNat = 4 * k + 4:=by omega
 rw [run_sliceAt_array_lh _ _ _ (by rw [ea,ee];exact underlying224) _ _ _ _ (by omega) (by omega) (by rw [ea];omega),ea,ee,O9,e1,e2]
 show Result.ok (slicedAt _ _ _ _ _) w = _
 unfold slicedAt
 rw [if_neg (by omega),show 4 * k + 4 - 4 * k = 4 from by omega,Addr.add_mid,Nat.mul_one]
theorem Arr.eight (w:World) (s:Nat → W32) (e:TypeId):Arr (w.alloc (.cells #[.int .u32 (wn (s 0)),.int .u32 (wn (s 1)),.int .u32 (wn (s 2)),.int .u32 (wn (s 3)),.int .u32 (wn (s 4)),.int .u32 (wn (s 5)),.int .u32 (wn (s 6)),.int .u32 (wn (s 7))] e)) w.heap.size 8 (aY s):=by
 refine ⟨fun k hk => ?_,fun k hk => by rw [World.frozen?_alloc_new]⟩
 rw [World.cell?_alloc_new]
 obtain h | h | h | h | h | h | h | h:k = 0 ∨ k = 1 ∨ k = 2 ∨ k = 3 ∨ k = 4 ∨ k = 5 ∨ k = 6 ∨ k = 7:=by omega
 all_goals subst h;rfl
theorem Arr.Ag {w:World} {b n:Nat} {c:Nat → Value} (h:Arr w b n c) (vs:List Value) (hn:vs.length = n):Arr (w.setCells b 0 vs) b n (fun k => vs.getD k undef):=by
 refine ⟨fun k hk => ?_,fun k hk => ?_⟩
 ·have:=World.rangeAt_setCells_same w b 0 vs (by rw [hn];exact h.there) k (vs.getD k undef) (by simp [hn,hk])
  simpa using this
 have:=(World.there_setCells h.there b 0 vs k hk).2
 simpa using this
theorem aj {P:Program} {ops:Array Oper} {rest:List Oper} {op:Oper} {a:Act} {w:World} {Q:Exit → Act → World → Prop} (hgd:op.guard = none) (ty:TypeId) (x y:Operand) (ho:op.op = .store ty x y)
  (b o:Nat) (vs:List Value) (hx:a.eval x = .pointer (some ⟨b,o,none⟩)) (hy:a.eval y = .agg vs.toArray) (n:Nat) (hn:vs.length = n)
  (ht:w.there b o n) (hi:(P.info? ty).map (·.size) = some n) (h1:∀ v ∈ vs,v.oneCell' = true)
  (h:wpList P ops Q rest (a.put op.dst undef) (w.setCells b o vs)):wpList P ops Q (op :: rest) a w :=
 wpList_store_mid hgd ty x y ho b o vs.toArray hx hy (by simpa [hn] using ht) (by simpa [hn] using hi) (all_oneCell_toArray h1) (by simpa using h)
theorem aI {w w':World} {b o:Nat} (h:w.grownBy w' (some b)) (v:Value):w.grownBy (w'.setCell ⟨b,o,none⟩ v) (some b) :=
 ⟨h.os,h.tape,h.output,by simpa [World.setCell] using h.size,fun k hk hne => by rw [Below.heap_setCell _ _ _ _ (fun e => hne (by rw [e]))];exact h.block k hk hne⟩
theorem Dl {w w' w2:World} {row:Option Nat} (h:w.grownBy w' row) (hb:Below w'.heap.size w' w2):w.grownBy w2 row :=
 ⟨hb.os.trans h.os,hb.tape.trans h.tape,hb.output.trans h.output,Nat.le_trans h.size hb.size,fun k hk hne => (hb.block k (Nat.lt_of_lt_of_le hk h.size)).trans (h.block k hk hne)⟩
theorem BS (w:World) (n:Nat) (hn:n < 64):(Instr.index 306 (.agg kV.toArray) (.int .i64 (n:Int))).run prog w = .ok (.int .u32 (wn (rK n))) w:=by
 have hs:(sizeOf 237).run prog w = .ok 1 w:=by kernel_rfl
 have ha:(isAgg 237).run prog w = .ok false w:=by kernel_rfl
 have hk:kV.toArray[n]? = some (.int .u32 (wn (rK n))):=by
  unfold kV rK
  have:n < mD.length:=by rw [oD];exact hn
  simp [this]
 have h1:(0:Int) ≤ n ∧ (n:Int) < (64:Nat):=by omega
 unfold Instr.index
 simp only [Sem.run_bind,asIntOf,Sem.run_pure,Result.andThen_ok,run_underlying underlying306,if_pos h1,hs,part,ha,Int.toNat_natCast,Nat.mul_one,hk]
 rfl
theorem KE (b:Nat) (h:HS) (w:World) (hA:Arr w b 75 h.c) (hR:w.rangeAt 4 0 kV) (hRl:4 < w.heap.size) :
  Calls prog 288 #[.pointer (some ⟨b,0,none⟩)] w fun e w' => e = .returned (.tuple #[]) ∧ Arr w' b 75 (HS.c { h with st:=gu h.st h.rest,many:=0 }) ∧ w.grownBy w' (some b):=by
 have hbl:b < w.heap.size:=hA.lt (by omega)
 have hW0:Arr (w.alloc (.cells (Array.replicate 64 (.int .u32 0)) 306)) w.heap.size 64 (aY (iw h.rest 0 0)):=by
  rw [FB];exact Arr.new w 64 _ _
 have HK:=ah (fun (w:World) (n:Nat) (hn:n < 64) => BS w n hn)
 have hz:(prog.info? 306).map (·.size) = some kV.length:=by rw [qX];kernel_rfl
 have HZ:=ah hz
 clear hz
 generalize kV = KV at hR HK HZ
 have HA:=ah hA
 have HR:=ah hR
 clear hA hR
 go_enter func288,ntmps288
 go_wp2
 go_loopw [13] (fun i wr => ∃ k:Nat,k ≤ 16 ∧ i = .int .i64 k ∧ Arr wr w.heap.size 64 (aY (iw h.rest k 0)) ∧ Below w.heap.size w wr) (fun i _ => (16 - intOf i).toNat)
 case atStart => exact ⟨0,by omega,rfl,hW0,bal⟩
 obtain ⟨wo,rfl⟩:∃ wo:World,wo = wr:=⟨_,rfl⟩
 obtain ⟨k,hk,rfl,hW,hb⟩:=hrel
 clear hW0
 by_cases hlt:k < 16
 ·have hd:decide ((k:Int) < 16) = true:=decide_eq_true (by omega)
  have hsl:=Ej b k hlt
  have k0:(0:Int) ≤ k:=by omega
  have k1:(k:Int) < 16:=by omega
  go_wp2
  go_loopw [26] (fun i wr => ∃ j:Nat,j ≤ 4 ∧ i = .int .i64 j ∧ Arr wr w.heap.size 64 (aY (iw h.rest k j)) ∧ Below w.heap.size w wr) (fun i _ => (4 - intOf i).toNat)
  case atStart => exact ⟨0,by omega,rfl,hW,hb⟩
  obtain ⟨wi,rfl⟩:∃ wi:World,wi = wr:=⟨_,rfl⟩
  obtain ⟨j,hj,rfl,hWi,hbi⟩:=hrel
  clear hW hb
  by_cases hjl:j < 4
  ·have cr:wi.cell? ⟨b,9 + 4 * k + j,none⟩ = some (.int .u8 (wn (bw (h.rest (4 * k + j))))):=by
    rw [hbi.cell (p:=⟨b,9 + 4 * k + j,none⟩) hbl,Nat.add_assoc,HA.out.cell _ (by omega),HS.O3 _ _ (by omega),lS]
   have cw:=hWi.cell k (by omega)
   have fw:=hWi.free k (by omega)
   unfold aY at cw
   have b0:=wn_0 (bw (h.rest (4 * k + j)))
   have b1:=og (h.rest (4 * k + j))
   have x0:=wn_0 (iw h.rest k j k)
   have x1:=nO (iw h.rest k j k)
   have j0:(0:Int) ≤ j:=by omega
   have j1:(j:Int) < 4:=by omega
   have HN:=ah (hWi.set k (by omega) (.int .u32 (wn (iw h.rest k j k <<< 8 ||| bw (h.rest (4 * k + j))))))
   have hd2:decide ((j:Int) < 4) = true:=decide_eq_true (by omega)
   clear hWi
   go_wp2
   go_roundw
   case rel =>
    rw [O0,w_or]
    refine ⟨j + 1,by omega,by go_num,?_,hbi.setCell (Nat.le_refl _) _⟩
    have:=HN.out
    rw [kT,FD] at this
    exact this
   case measure => simp [intOf];omega
  obtain rfl:j = 4:=by omega
  go_wp2
  go_roundw
  case rel => exact ⟨k + 1,by omega,by go_num,by rw [← FC];exact hWi,hbi⟩
  case measure => simp [intOf];omega
 obtain rfl:k = 16:=by omega
 obtain ⟨w1,rfl⟩:∃ w1:World,w1 = wo:=⟨_,rfl⟩
 go_wp2
 go_loopw [6] (fun i wr => ∃ n:Nat,n ≤ 48 ∧ i = .int .i64 (16 + n:Nat) ∧ Arr wr w.heap.size 64 (aY (bH h.rest n)) ∧ Below w.heap.size w wr) (fun i _ => (64 - intOf i).toNat)
 case atStart => exact ⟨0,by omega,rfl,hW,hb⟩
 obtain ⟨wi,rfl⟩:∃ wi:World,wi = wr:=⟨_,rfl⟩
 obtain ⟨n,hn,rfl,hWi,hbi⟩:=hrel
 clear hW hb
 generalize hm:16 + n = m
 by_cases hnl:n < 48
 ·have c2:=hWi.cell (m - 2) (by omega)
  have c7:=hWi.cell (m - 7) (by omega)
  have c15:=hWi.cell (m - 15) (by omega)
  have c16:=hWi.cell (m - 16) (by omega)
  have cm:=hWi.cell m (by omega)
  have fm:=hWi.free m (by omega)
  have HN:=ah (hWi.set m (by omega) (.int .u32 (wn (GH (bH h.rest n) m))))
  have hsz:w.heap.size < wi.heap.size:=hWi.lt (by omega)
  unfold aY at c2 c7 c15 c16 cm
  have m0:(16:Int) ≤ m:=by omega
  have m1:(m:Int) < 64:=by omega
  have hd2:decide ((m:Int) < 64) = true:=decide_eq_true (by omega)
  have HWI:=ah hWi
  clear hWi
  have a2:IntKind.i64.wrap ((m:Int) - 2) = (m:Int) - 2:=IntWalk.i64_in _ (by omega)
  have t2:((m:Int) - 2).toNat = m - 2:=by omega
  have z2:(2:Int) ≤ m:=by omega
  have y2:(m:Int) - 2 < 64:=by omega
  have a7:IntKind.i64.wrap ((m:Int) - 7) = (m:Int) - 7:=IntWalk.i64_in _ (by omega)
  have t7:((m:Int) - 7).toNat = m - 7:=by omega
  have z7:(7:Int) ≤ m:=by omega
  have y7:(m:Int) - 7 < 64:=by omega
  have a15:IntKind.i64.wrap ((m:Int) - 15) = (m:Int) - 15:=IntWalk.i64_in _ (by omega)
  have t15:((m:Int) - 15).toNat = m - 15:=by omega
  have z15:(15:Int) ≤ m:=by omega
  have y15:(m:Int) - 15 < 64:=by omega
  have a16:IntKind.i64.wrap ((m:Int) - 16) = (m:Int) - 16:=IntWalk.i64_in _ (by omega)
  have t16:((m:Int) - 16).toNat = m - 16:=by omega
  have z16:(16:Int) ≤ m:=by omega
  have y16:(m:Int) - 16 < 64:=by omega
  have EA:=mU
  have HT1:∀ w,Calls prog 303 #[.int .u32 (wn (bH h.rest n (m - 2))),.int .i64 17,.int .i64 19,.int .i64 10] w fun e w' => e = .returned (.int .u32 (wn (kG (bH h.rest n (m - 2)) 17 19 10))) ∧ Below w.heap.size w w':=fun w => Bv (bH h.rest n (m - 2)) 17 19 10 (by omega) (by omega) (by omega) (by omega) (by omega) w
  have HT2:∀ w,Calls prog 303 #[.int .u32 (wn (bH h.rest n (m - 15))),.int .i64 7,.int .i64 18,.int .i64 3] w fun e w' => e = .returned (.int .u32 (wn (kG (bH h.rest n (m - 15)) 7 18 3))) ∧ Below w.heap.size w w':=fun w => Bv (bH h.rest n (m - 15)) 7 18 3 (by omega) (by omega) (by omega) (by omega) (by omega) w
  go_wp2
  refine dL 23 (by kernel_rfl) (by kernel_rfl) ?_
  simp only [List.take_succ_cons,List.take_zero,List.drop_succ_cons,List.drop_zero]
  have LQ0:=blq c2
  have LQ1:=blq c7
  have LQ2:=blq c15
  have LQ3:=blq c16
  repeat (go_big_quiet_step ((first | (go_at_call 303;with_reducible exact aU (HT1 _)) | (go_at_call 303;with_reducible exact aU (HT2 _)))))
  refine wpQuiet_nil ?_
  intro wq hbq
  clear LQ0 LQ1 LQ2 LQ3
  have cmn:=ak cm hbq hsz
  have fmn:wq.frozen? ⟨w.heap.size,m,none⟩ = false:=by rw [hbq.frozen (p:=⟨w.heap.size,m,none⟩) hsz];exact fm
  go_wp2
  go_roundw
  case rel =>
   have h1:=(HWI.out.below hbq hsz).set m (by omega) (.int .u32 (wn (GH (bH h.rest n) m)))
   refine ⟨n + 1,by omega,by rw [← hm];go_num,?_,(hbi.trans (hbq.mono hbi.size)).setCell (Nat.le_refl _) _⟩
   rw [kT,← hm] at h1
   rw [← hm]
   exact h1
  case measure => simp [intOf];omega
 obtain rfl:n = 48:=by omega
 obtain rfl:m = 64:=by omega
 have hsz:w.heap.size < wi.heap.size:=hWi.lt (by omega)
 have HWI:=ah hWi
 have hAi:=HA.out.below hbi hbl
 have c0:=hAi.cell (1 + 0) (by omega)
 have c1:=hAi.cell (1 + 1) (by omega)
 have c2:=hAi.cell (1 + 2) (by omega)
 have c3:=hAi.cell (1 + 3) (by omega)
 have c4:=hAi.cell (1 + 4) (by omega)
 have c5:=hAi.cell (1 + 5) (by omega)
 have c6:=hAi.cell (1 + 6) (by omega)
 have c7:=hAi.cell (1 + 7) (by omega)
 rw [HS.c_st _ _ (by omega)] at c0 c1 c2 c3 c4 c5 c6 c7
 simp only [Nat.reduceAdd] at c0 c1 c2 c3 c4 c5 c6 c7
 clear hAi hWi
 have hRi:wi.rangeAt 4 0 KV:=au HR.out hbi hRl
 go_wp2_with (refine wpList_load_mid rfl 306 _ rfl 4 0 rfl _ _ (World.rangeAt_alloc hRi _) underlying306 rfl HZ.out ?_)
 clear hRi c0 c1 c2 c3 c4 c5 c6 c7
 generalize hW:bH h.rest 48 = W at HWI
 have HWW:=ah hW
 clear hW
 go_loopw [73] (fun i wr => ∃ n:Nat,n ≤ 64 ∧ i = .int .i64 n ∧ Arr wr wi.heap.size 8 (aY (bL W h.st n)) ∧ Below wi.heap.size wi wr) (fun i _ => (64 - intOf i).toNat)
 case atStart => exact ⟨0,by omega,rfl,Arr.eight _ _ _,bal⟩
 obtain ⟨wj,rfl⟩:∃ wj:World,wj = wr:=⟨_,rfl⟩
 obtain ⟨n,hn,rfl,hS,hbj⟩:=hrel
 have hsj:wi.heap.size < wj.heap.size:=hS.lt (by omega)
 have HS':=ah hS
 by_cases hnl:n < 64
 ·have hk:=fun w => HK.out w n hnl
  have cw:=(HWI.out.below hbj hsz).cell n (by omega)
  have s0:=hS.cell 0 (by omega)
  have s1:=hS.cell 1 (by omega)
  have s2:=hS.cell 2 (by omega)
  have s3:=hS.cell 3 (by omega)
  have s4:=hS.cell 4 (by omega)
  have s5:=hS.cell 5 (by omega)
  have s6:=hS.cell 6 (by omega)
  have s7:=hS.cell 7 (by omega)
  unfold aY at cw s0 s1 s2 s3 s4 s5 s6 s7
  have n0:(0:Int) ≤ n:=by omega
  have n1:(n:Int) < 64:=by omega
  have hd3:decide ((n:Int) < 64) = true:=decide_eq_true (by omega)
  clear hS
  have EA:=mU
  have EX:=nP
  have EN:=Kr
  have EC:=Ab
  generalize hR:bL W h.st n = R at s0 s1 s2 s3 s4 s5 s6 s7 HS'
  have HRR:=ah hR
  clear hR
  have HP1:∀ w,Calls prog 304 #[.int .u32 (wn (R 4)),.int .i64 6,.int .i64 11,.int .i64 25] w fun e w' => e = .returned (.int .u32 (wn (mg (R 4) 6 11 25))) ∧ Below w.heap.size w w':=fun w => uE (BL (R 4) 6 11 25 (by omega) (by omega) (by omega) (by omega) (by omega) (by omega) w)
  have HP2:∀ w,Calls prog 304 #[.int .u32 (wn (R 0)),.int .i64 2,.int .i64 13,.int .i64 22] w fun e w' => e = .returned (.int .u32 (wn (mg (R 0) 2 13 22))) ∧ Below w.heap.size w w':=fun w => uE (BL (R 0) 2 13 22 (by omega) (by omega) (by omega) (by omega) (by omega) (by omega) w)
  go_wp2
  refine wbq ?_
  have LQ0:=blq s4
  have LQ1:=blq s5
  have LQ2:=blq s6
  have LQ3:=blq s7
  have LQ4:=blq cw
  repeat (go_big_quiet_step ((go_at_call 304;with_reducible exact aU (HP1 _))))
  refine wpQuiet_nil ?_
  intro wq hbq
  clear LQ0 LQ1 LQ2 LQ3 LQ4
  have q0:=ak s0 hbq hsj
  have q1:=ak s1 hbq hsj
  have q2:=ak s2 hbq hsj
  have q3:=ak s3 hbq hsj
  have q4:=ak s4 hbq hsj
  have q5:=ak s5 hbq hsj
  have q6:=ak s6 hbq hsj
  have hsq:wi.heap.size < wq.heap.size:=by have:=hbq.size;omega
  obtain ⟨wa,rfl⟩:∃ wa:World,wa = wq:=⟨_,rfl⟩
  have hb7:=hbq
  clear hbq
  go_wp2
  refine wbq ?_
  have LQ0:=blq q0
  have LQ1:=blq q1
  have LQ2:=blq q2
  repeat (go_big_quiet_step ((go_at_call 304;with_reducible exact aU (HP2 _))))
  refine wpQuiet_nil ?_
  intro wq hbq
  clear LQ0 LQ1 LQ2
  obtain ⟨wb,rfl⟩:∃ wb:World,wb = wq:=⟨_,rfl⟩
  have p0:=ak q0 hbq hsq
  have p1:=ak q1 hbq hsq
  have p2:=ak q2 hbq hsq
  have p3:=ak q3 hbq hsq
  have p4:=ak q4 hbq hsq
  have p5:=ak q5 hbq hsq
  have p6:=ak q6 hbq hsq
  clear q0 q1 q2 q3 q4 q5 q6 s0 s1 s2 s3 s4 s5 s6 s7 HP1 HP2 cw hk
  have hbb:Below wi.heap.size wi wb:=hbj.trans ((hb7.trans (hbq.mono hb7.size)).mono hbj.size)
  have HSB:=ah (HS'.out.below (hb7.trans (hbq.mono hb7.size)) hsj)
  have hth:=HSB.out.there
  rw [mU,mU]
  have eT:R 7 + mg (R 4) 6 11 25 + (R 4 &&& R 5 ^^^ ~~~R 4 &&& R 6) + rK n + W n = tW R (rK n) (W n):=rfl
  have eU:mg (R 0) 2 13 22 + (R 0 &&& R 1 ^^^ R 0 &&& R 2 ^^^ R 1 &&& R 2) = uW R:=rfl
  rw [eT,eU]
  clear eT eU
  generalize hT:tW R (rK n) (W n) = T
  generalize hU:uW R = U
  have HTT:=ah hT
  have HUU:=ah hU
  clear hT hU
  have h8:(prog.info? 238).map (·.size) = some 8:=by kernel_rfl
  go_wp2_with (refine aj rfl 238 _ _ rfl wi.heap.size 0 [.int .u32 (wn (T + U)),.int .u32 (wn (R 0)),.int .u32 (wn (R 1)),.int .u32 (wn (R 2)),.int .u32 (wn (R 3 + T)),.int .u32 (wn (R 4)),.int .u32 (wn (R 5)),.int .u32 (wn (R 6))] ?x1 ?x2 8 ?x3 ?x4 ?x5 ?h1 ?_)
  case x1 => rfl
  case x2 => go_simp
  case x3 => rfl
  case x4 => exact hth
  case x5 => exact h8
  case h1 => simp [Value.oneCell']
  go_wp2
  go_roundw
  case rel =>
   refine ⟨n + 1,by omega,by go_num,?_,?_⟩
   ·have h1:=Arr.Ag HSB.out [.int .u32 (wn (T + U)),.int .u32 (wn (R 0)),.int .u32 (wn (R 1)),.int .u32 (wn (R 2)),.int .u32 (wn (R 3 + T)),.int .u32 (wn (R 4)),.int .u32 (wn (R 5)),.int .u32 (wn (R 6))] rfl
    refine Arr.congr h1 fun k hk => ?_
    show _ = Value.int .u32 (wn (stepW (bL W h.st n) (rK n) (W n) k))
    rw [HRR.out]
    unfold stepW
    rw [HTT.out,HUU.out]
    obtain h | h | h | h | h | h | h | h:k = 0 ∨ k = 1 ∨ k = 2 ∨ k = 3 ∨ k = 4 ∨ k = 5 ∨ k = 6 ∨ k = 7:=by omega
    all_goals subst h;rfl
   exact below_setCells _ (Nat.le_refl _) _ _ _ hbb
  case measure => simp [intOf];omega
 obtain rfl:n = 64:=by omega
 have hSS:=HS'.out
 rw [show bL W h.st 64 = fun k => bL W h.st 64 k from rfl] at hSS
 generalize hR:bL W h.st 64 = R at hSS
 have HRR:=ah hR
 have HRS:=ah hSS
 have hbw:Below w.heap.size w wj:=hbi.trans (hbj.mono hbi.size)
 have HG:=ah (aA hbw (some b))
 have HAJ:=ah (HA.out.below hbw hbl)
 clear hS hR hSS HS'
 have hbj':b < wj.heap.size:=by have:=hbw.size;omega
 go_wp2
 go_loopw [144] (fun i wr => ∃ n:Nat,n ≤ 8 ∧ i = .int .i64 n ∧ Arr wr b 75 (HS.c { h with st:=pJ h.st R n }) ∧ Arr wr wi.heap.size 8 (aY R) ∧ w.grownBy wr (some b)) (fun i _ => (8 - intOf i).toNat)
 case atStart => exact ⟨0,by omega,rfl,by rw [EU];exact HAJ.out,HRS.out,HG.out⟩
 obtain ⟨wk,rfl⟩:∃ wk:World,wk = wr:=⟨_,rfl⟩
 obtain ⟨n,hn,rfl,hAk,hRk,hgk⟩:=hrel
 have hbk:b < wk.heap.size:=hAk.lt (by omega)
 have hik:wi.heap.size < wk.heap.size:=hRk.lt (by omega)
 have hbi':b < wi.heap.size:=by have:=hbi.size;omega
 by_cases hnl:n < 8
 ·have c1:=hAk.cell (1 + n) (by omega)
  have f1:=hAk.free (1 + n) (by omega)
  rw [HS.c_st _ _ (by omega)] at c1
  have e1:pJ h.st R n n = h.st n:=by unfold pJ;rw [if_neg (by omega)]
  dsimp only at c1
  rw [e1] at c1
  have c2:=hRk.cell n (by omega)
  unfold aY at c2
  have EA:=mU
  have n0:(0:Int) ≤ n:=by omega
  have n1:(n:Int) < 8:=by omega
  have hd3:decide ((n:Int) < 8) = true:=decide_eq_true (by omega)
  have HAK:=ah hAk
  have HRK:=ah hRk
  have HGK:=ah hgk
  clear hAk hRk hgk e1
  go_wp2
  refine dL 13 (by kernel_rfl) (by kernel_rfl) ?_
  simp only [List.take_succ_cons,List.take_zero,List.drop_succ_cons,List.drop_zero]
  have LQ0:=blq c1
  have LQ1:=blq c2
  repeat (go_big_quiet_step (fail))
  refine wpQuiet_nil ?_
  intro wq hbq
  clear LQ0 LQ1
  have c1q:=ak c1 hbq hbk
  have f1q:wq.frozen? ⟨b,1 + n,none⟩ = false:=by rw [hbq.frozen (p:=⟨b,1 + n,none⟩) hbk];exact f1
  clear c1 f1 c2
  go_wp2
  go_roundw
  case rel =>
   have h1:=(HAK.out.below hbq hbk).set (1 + n) (by omega) (.int .u32 (wn (h.st n + R n)))
   rw [HS.OD _ _ (by omega)] at h1
   dsimp only at h1
   rw [EW] at h1
   refine ⟨n + 1,by omega,by go_num,h1,?_,aI (Dl HGK.out hbq) _⟩
   exact (HRK.out.below hbq hik).far (by show b ≠ _;omega) _
  case measure => simp [intOf];omega
 obtain rfl:n = 8:=by omega
 have c1:=hAk.cell 73 (by omega)
 have f1:=hAk.free 73 (by omega)
 have HAK:=ah hAk
 have HGK:=ah hgk
 clear hAk hRk hgk
 go_wp2
 go_end0
 refine ⟨rfl,?_,aI HGK.out _⟩
 have h1:=HAK.out.set 73 (by omega) (.int .i64 ((0:Nat):Int))
 rw [HS.Br] at h1
 refine h1.congr fun k hk => ?_
 unfold HS.c
 dsimp only
 by_cases e0:k = 0
 ·rw [if_pos e0,if_pos e0]
 rw [if_neg e0,if_neg e0]
 by_cases e1:k < 9
 ·rw [if_pos e1,if_pos e1]
  unfold pJ gu
  rw [if_pos (by omega),HWW.out,HRR.out]
 rw [if_neg e1,if_neg e1]
end
end Go.Proofs.YtijhemdnajlfnaaGreatDoor

/- YtmhjpmenngjmeaaGreatDoorR9: texts LI of this claim, in one. -/
import Derived.OrdersIn
import Derived.OwnWalkIn
import Derived.Test.YtmhjpmenngjmeaaGreatDoorR6
namespace Go.Proofs.YtmhjpmenngjmeaaGreatDoor
open Go.RowKit
section
variable {F:Fence} {m:Nat} {P:Program} {ops:Array Oper} {md:Region.Mode} {Q:Exit → Act → World → Prop} {S:World → Prop}
theorem yields_wpOpIn (hF:∀ f,F.fn f) {i:Nat} {o:Oper} {v:Value} {a:Act} (hi:ops[i]? = some o) (hd:∀ c,o.op ≠ .defer c) (hy:YieldsIf P ops S o v a)
  {K:Act → World → Prop} {w:World} (hS:S w) (h:K (a.put o.dst v) w):wpOpIn F m P ops Q i K a w:=by
 unfold Go.wpOpIn
 simp only [hi]
 rcases hy with ⟨hw,hv⟩ | ⟨hw,rfl⟩
 ·simp only [hw,if_true]
  exact ⟨fun f _ => hF f,by rw [Oper.semAt_plain F _ _ hd,hv w hS];exact h⟩
 ·simp only [hw,Bool.false_eq_true,if_false]
  exact ⟨fun f _ => hF f,h⟩
theorem putIf_wpOpIn (hF:∀ f,F.fn f) {j:Nat} {oi oj:Oper} {v:Value} (hj:ops[j]? = some oj) (hd:∀ c,oj.op ≠ .defer c) (hap:oi.apart ops oj = true)
  (hsi:∀ cs b,oi.op ≠ .select cs b) (hsj:∀ cs b,oj.op ≠ .select cs b)
  (hQ:∀ c a w,Q (.panic c) (a.put oi.dst v) w → Q (.panic c) a w) {K:Act → World → Prop} {a:Act} {w:World}
  (hy:YieldsIf P ops S oi v a) (h:wpOpIn F m P ops Q j K (a.put oi.dst v) w) :
  wpOpIn F m P ops Q j (fun a' w' => YieldsIf P ops S oi v a' ∧ K (a'.put oi.dst v) w') a w:=by
 obtain ⟨h1,h2,h3⟩:=Oper.apart_spec hap
 have keep:∀ (a:Act),YieldsIf P ops S oi v a → ∀ u,YieldsIf P ops S oi v (a.put oj.dst u):=fun a hy u =>
  hy.of_same (execOp_put oi hsi a oj.dst u h3) (wanted_put oi a oj.dst u h3)
 have keepD:∀ d,YieldsIf P ops S oi v { a with defers:=d :: a.defers }:=fun d => hy.of_same rfl rfl
 unfold Go.wpOpIn at *
 simp only [hj] at *
 rw [wanted_put oj a oi.dst v h1] at h
 split
 ·rename_i hw
  simp only [hw,if_true] at h
  have h:=h.2
  rw [Oper.semAt_plain F _ _ hd,execOp_put oj hsj a oi.dst v h1] at h
  refine ⟨fun f _ => hF f,?_⟩
  rw [Oper.semAt_plain F _ _ hd]
  generalize (execOp a.eval oj).run P w = r at *
  cases r with
  | ok x w' =>
   cases x <;> simp only [Oper.uponIn] at h ⊢
   case value u => exact ⟨keep a hy u,by rw [← Act.put_comm a v u h2];exact h⟩
   case skip => exact ⟨keep a hy _,by rw [← Act.put_comm a v undef h2];exact h⟩
   case defer d =>
    refine ⟨keep _ (keepD d) _,?_⟩
    rw [← Act.put_comm _ v undef h2,← Act.put_defers]
    exact h
   case enter f args =>
    refine ⟨h.1,CallsIn.mono h.2 fun e w'' he => ?_⟩
    cases e with
    | returned u => exact ⟨keep a hy u,by rw [← Act.put_comm a v u h2];exact he⟩
    | panicked c => exact hQ _ _ _ he
    | outgrown => exact he
   case row row args => exact ⟨h.1,RowsIn.mono h.2 fun u w'' he => ⟨keep a hy u,by rw [← Act.put_comm a v u h2];exact he⟩⟩
   case round l f tmps assign body =>
    refine ⟨h.1,RoundIn.mono h.2 fun e w'' he => ?_⟩
    cases e with
    | returned u => exact ⟨keep a hy u,by rw [← Act.put_comm a v u h2];exact he⟩
    | panicked c => exact hQ _ _ _ he
    | outgrown => exact he
  | halt x w' =>
   cases x <;> simp only [Oper.uponIn] at h ⊢
   case panic u => exact hQ _ _ _ h
 ·rename_i hw
  simp only [hw] at h
  exact ⟨fun f _ => hF f,keep a hy _,by rw [← Act.put_comm a v undef h2];exact h.2⟩
theorem wpListIn_build2 {rest:List Oper} {o:Oper} {a:Act} {w:World} (hg:o.guard = none) (t:TypeId) (x y:Operand) (hop:o.op = .build t #[(0,x),(1,y)]) (vx vy v:Value) (hx:a.eval x = vx) (hy:a.eval y = vy)
  (hrun:(Instr.build t #[(0,vx),(1,vy)]).run P w = .ok v w) (hK:wpListIn F m P ops Q rest (a.put o.dst v) w):wpListIn F m P ops Q (o :: rest) a w:=by
 refine wpListIn_plain hg fun K hK' => ?_
 unfold Oper.wpIn
 refine ⟨by simp [Oper.about,hop],?_⟩
 rw [Oper.semAt_plain F _ _ (by rw [hop];intro c hc';cases hc')]
 simp [execOp,hop,hx,hy,hrun,Result.andThen]
 exact hK' _ _ hK
theorem exec_build2 {o:Oper} {a:Act} {w:World} (t:TypeId) (x y:Operand) (hop:o.op = .build t #[(0,x),(1,y)]) (vx vy v:Value) (hx:a.eval x = vx) (hy:a.eval y = vy)
  (hrun:(Instr.build t #[(0,vx),(1,vy)]).run P w = .ok v w):(execOp a.eval o).run P w = .ok (.value v) w:=by
 simp [execOp,hop,hx,hy,hrun,Result.andThen]
def wpLI (F:Fence) (m:Nat) (P:Program) (md:Region.Mode) (ops:Array Oper) (Q:Exit → Act → World → Prop) (S:World → Prop) (n:Nat):Nat → Array Bool → Act → World → Prop
 | 0,ls,a,w => (∀ j ∈ Region.ready md ops ls,n ≤ j) ∧ wpAnyIn F m P md ops Q (ops.size - n) ls a w
 | f + 1,ls,a,w => Region.ready md ops ls ≠ [] ∧ ∀ i ∈ Region.ready md ops ls,i < n ∧ wpOpIn F m P ops Q i (fun a' w' => S w' ∧ wpLI F m P md ops Q S n f (ls.setIfInBounds i true) a' w') a w
theorem wpAnyIn_of_LI {n:Nat}:∀ (f:Nat) (ls:Array Bool) (a:Act) (w:World),wpLI F m P md ops Q S n f ls a w → wpAnyIn F m P md ops Q (f + (ops.size - n)) ls a w
 | 0,ls,a,w,h => by rw [Nat.zero_add];exact h.2
 | f + 1,ls,a,w,h => by
  rw [show f + 1 + (ops.size - n) = (f + (ops.size - n)) + 1 from by omega]
  exact ⟨fun h0 => absurd h0 h.1,fun i hi => wpOpIn_mono (fun a' w' h' => wpAnyIn_of_LI f _ a' w' h'.2) (h.2 i hi).2⟩
theorem wpLI_first (hF:∀ f,F.fn f) (hdf:∀ (j:Nat) (o:Oper) c,ops[j]? = some o → o.op ≠ .defer c) {n i:Nat} {oi:Oper} {v:Value} (hi:ops[i]? = some oi) (hsel:∀ (j:Nat) (o:Oper) cs b,ops[j]? = some o → o.op ≠ .select cs b)
  (hs:Region.sinkB md ops n = true) (hc:Region.chainB md ops n = true) (hn:n < ops.size) (hin:i < n) (hQ:∀ c a w,Q (.panic c) (a.put oi.dst v) w → Q (.panic c) a w) :
  ∀ (f:Nat) (ls:Array Bool) (a:Act) (w:World),HeadInv md ops n ls →
   (∀ j oj,ops[j]? = some oj → j ≠ i → ls.getD j true = false → (∀ e ∈ oj.after,Region.binds md e = true → e.on ≠ i) → oi.apart ops oj = true) →
   i ∈ Region.ready md ops ls → YieldsIf P ops S oi v a → S w → wpLI F m P md ops Q S n f (ls.setIfInBounds i true) (a.put oi.dst v) w → wpLI F m P md ops Q S n (f + 1) ls a w:=by
 intro f
 induction f with
 | zero =>
  intro ls a w inv _ hr hy hS H
  refine ⟨fun h0 => (by rw [h0] at hr;cases hr),fun j hj => ?_⟩
  have hjn:j < n:=Nat.lt_of_not_ge fun h0 => tail_waits hs hc hn inv _ i rfl hin (mem_ready.1 hr).1 j h0 hj
  refine ⟨hjn,?_⟩
  by_cases e:j = i
  ·subst e;exact yields_wpOpIn hF hi (fun c => hdf j oi c hi) hy hS ⟨hS,H⟩
  ·have:=H.1 j (ready_mono hj e);omega
 | succ f ih =>
  intro ls a w inv hfree hr hy hS H
  have hun:=(mem_ready.1 hr).1
  refine ⟨fun h0 => (by rw [h0] at hr;cases hr),fun j hj => ?_⟩
  have hjn:j < n:=Nat.lt_of_not_ge fun h0 => tail_waits hs hc hn inv _ i rfl hin hun j h0 hj
  refine ⟨hjn,?_⟩
  by_cases e:j = i
  ·subst e;exact yields_wpOpIn hF hi (fun c => hdf j oi c hi) hy hS ⟨hS,H⟩
  ·obtain ⟨hjun,oj,hoj,hall⟩:=mem_ready.1 hj
   have hnot:∀ x ∈ oj.after,Region.binds md x = true → x.on ≠ i:=fun x hx hb heq => by
    have h1:=hall x hx hb
    rw [heq,getD_both hun] at h1
    cases h1
   have h2:=putIf_wpOpIn hF hoj (fun c => hdf j oj c hoj) (hfree j oj hoj e hjun hnot) (fun cs b => hsel i oi cs b hi) (fun cs b => hsel j oj cs b hoj) hQ hy (H.2 j (ready_mono hj e)).2
   refine wpOpIn_mono (fun a' w' h3 => ⟨h3.2.1,ih (ls.setIfInBounds j true) a' w' (inv.set hj hjn) ?_ (ready_mono hr (Ne.symm e)) h3.1 h3.2.1 ?_⟩) h2
   ·intro k ok hk hki hkun hno
    refine hfree k ok hk hki ?_ hno
    by_cases ejk:j = k
    ·subst ejk;exact hjun
    ·rwa [getD_set_ne true ejk] at hkun
   ·rw [Array.setIfInBounds_comm _ _ e];exact h3.2.2
def isDefer (o:Op):Bool:=match o with
 | .defer _ => true
 | _ => false
def plainB (ops:Array Oper) (n:Nat):Bool:=lastB ops n && ops.all fun o => !isDefer o.op
structure WLI (F:Fence) (m:Nat) (P:Program) (ops:Array Oper) (Q:Exit → Act → World → Prop) (S:World → Prop) (n f:Nat) (ls:Array Bool) (a:Act) (w:World):Prop where
 out:HeadInv .any ops n ls → wpLI F m P .any ops Q S n f ls a w
theorem plainB_defer {n:Nat} (h:plainB ops n = true):∀ (j:Nat) (o:Oper) c,ops[j]? = some o → o.op ≠ .defer c:=fun j o c hj e => by
 unfold plainB at h
 rw [Bool.and_eq_true,Array.all_eq_true_iff_forall_mem] at h
 have:=h.2 o (Array.mem_of_getElem? hj)
 rw [e] at this
 cases this
theorem WLI.take (hF:∀ f,F.fn f) {n i:Nat} {oi:Oper} {v:Value} {f:Nat} {ls:Array Bool} {a:Act} {w:World} (hi:ops[i]? = some oi) (hB:plainB ops n = true) (hin:i < n)
  (hf:Region.free .any ops ls i = true) (hr:(Region.ready .any ops ls).contains i = true) (hQ:∀ c a w,Q (.panic c) (a.put oi.dst v) w → Q (.panic c) a w) (hw:Region.wanted oi (yielded ops a.tmps) = true)
  (hy:∀ w,S w → (execOp a.eval oi).run P w = .ok (.value v) w) (hS:S w) (h:WLI F m P ops Q S n f (ls.setIfInBounds i true) (a.put oi.dst v) w):WLI F m P ops Q S n (f + 1) ls a w:=by
 have hdf:=plainB_defer hB
 unfold plainB at hB
 rw [Bool.and_eq_true] at hB
 have hB:=hB.1
 simp only [lastB,Bool.and_eq_true,decide_eq_true_eq] at hB
 have hr':i ∈ Region.ready .any ops ls:=by simpa using hr
 exact ⟨fun inv => wpLI_first hF hdf hi (Region.noSelect_spec hB.1.1.1) hB.1.2 hB.2 hB.1.1.2 hin hQ f ls a w inv (Region.free_spec hi hf) hr' (.inl ⟨hw,hy⟩) hS (h.out (inv.set hr' hin))⟩
theorem WLI.last {n:Nat} {oi:Oper} {ls:Array Bool} {a:Act} {w:World} (hi:ops[n]? = some oi) (hz:ops.size = n + 1) (hr:Region.ready .any ops ls = [n]) (hd:Region.ready .any ops (ls.setIfInBounds n true) = [])
  (h:wpListIn F m P ops Q [oi] a w):WLI F m P ops Q S n 0 ls a w:=by
 refine ⟨fun _ => ⟨fun j hj => ?_,?_⟩⟩
 ·rw [hr] at hj
  have e:j = n:=by simpa using hj
  omega
 rw [show ops.size - n = 1 from by omega]
 refine ⟨fun h0 => (by rw [hr] at h0;cases h0),fun j hj => ?_⟩
 rw [hr] at hj
 obtain rfl:j = n:=by simpa using hj
 have hw:wpOpIn F m P ops Q j (wpListIn F m P ops Q []) a w:=by unfold wpOpIn;simp only [hi];exact h
 exact wpOpIn_mono (fun a' w' h' => ⟨hd,h'⟩) hw
theorem wpIn_region_LI {id:Nat} {a:Act} {w:World} {l:List Oper} (n:Nat) (S:World → Prop) (hm:P.follows .mixedOrders = true) (hB:plainB l.toArray n = true)
  (h:WLI F m P l.toArray Q S n n (Array.replicate l.toArray.size false) a w.drew):(Code.region id l.toArray true).wpIn F m P Q a w:=by
 unfold plainB at hB
 rw [Bool.and_eq_true] at hB
 have hB:=hB.1
 simp only [lastB,Bool.and_eq_true,decide_eq_true_eq] at hB
 have inv:HeadInv .any l.toArray n (Array.replicate l.toArray.size false) :=
  ⟨by simp,fun j oj _ hl => (by rw [getD_replicate_false] at hl;cases hl),fun t _ ht => getD_in (by simpa using ht) (getD_replicate_false _ _)⟩
 have H:=wpAnyIn_of_LI _ _ _ _ (h.out inv)
 rw [show n + (l.toArray.size - n) = l.toArray.size from by have:=hB.1.1.2;omega] at H
 exact wpIn_region_any hm H
end
end Go.Proofs.YtmhjpmenngjmeaaGreatDoor

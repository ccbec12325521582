/- YtmhjpmenngjmeaaGreatDoorR28: texts HL, KL of this claim, in one. -/
import Derived.Test.YtmhjpmenngjmeaaGreatDoorR14
import Derived.Test.YtmhjpmenngjmeaaGreatDoorR15
import Derived.Test.YtmhjpmenngjmeaaGreatDoorR19
import Derived.Test.YtmhjpmenngjmeaaGreatDoorR21
namespace Go.Proofs.YtmhjpmenngjmeaaGreatDoor
open Go.RowKit Go.Maps
section
variable {P:Program} {w:World} {ops:Array Oper} {rest:List Oper} {o:Oper} {a:Act} {Q:Exit → Act → World → Prop}
theorem wpList_exec (hg:o.guard = none) (v:Value) (h:(execOp a.eval o).run P w = .ok (.value v) w) (hK:wpList P ops Q rest (a.put o.dst v) w):wpList P ops Q (o :: rest) a w:=by
 refine wpList_plain hg fun K hK' => ?_
 unfold Oper.wp
 rw [h]
 exact hK' _ _ hK
theorem wpList_lookup_run (hg:o.guard = none) (t:TypeId) (m x:Operand) (b:Bool) (hop:o.op = .lookup t m x b) (mv xv:Value) (hm:a.eval m = mv) (hx:a.eval x = xv) (v:Value) (h:(Instr.lookup t mv xv b).run P w = .ok v w) (hK:wpList P ops Q rest (a.put o.dst v) w):wpList P ops Q (o :: rest) a w:=by
 refine wpList_exec hg v ?_ hK
 unfold execOp
 simp only [hop,hm,hx,Sem.run_bind,h,Result.andThen_ok]
 rfl
theorem wpList_slice_run (hg:o.guard = none) (t:TypeId) (x lo:Operand) (hop:o.op = .slice t x (some lo) none none) (xv lv:Value) (hx:a.eval x = xv) (hl:a.eval lo = lv) (v:Value) (h:(Instr.sliceAt t xv (some lv) none none).run P w = .ok v w) (hK:wpList P ops Q rest (a.put o.dst v) w):wpList P ops Q (o :: rest) a w:=by
 refine wpList_exec hg v ?_ hK
 unfold execOp
 simp only [hop,hx,Option.map_some,Option.map_none,hl,Sem.run_bind,h,Result.andThen_ok]
 rfl
end
theorem ids_nil (w:World):IdRow w (.slice none 0 0) []:=⟨none,0,rfl,by simp,fun h => absurd rfl h⟩
theorem idsF_cons (x:Idl) (l:List Idl):idsF (x :: l) = idC x ++ idsF l:=by simp [idsF]
theorem idsF_len (l:List Idl) (h:∀ x ∈ l,x.length = 32):(idsF l).length = l.length * 32:=by
 induction l with
 | nil => rfl
 | cons a l ih =>
  rw [idsF_cons,List.length_append,idC_len,h a (by simp),ih (fun x hx => h x (List.mem_cons_of_mem _ hx)),List.length_cons];omega
theorem IdRow.flat0 {w:World} {v:Value} {l:List Idl} (h:IdRow w v l):∃ ao cap,v = .slice ao l.length cap ∧ True:=by
 obtain ⟨ao,cap,rfl,_⟩:=h.open
 exact ⟨ao,cap,rfl,trivial⟩
theorem OwnQ.row {w:World} {B:Nat} {v:Value} {l:List Idl} (h:OwnQ w B 32 v l.length (idsF l)) (hl:∀ x ∈ l,x.length = 32):IdRow w v l:=by
 have hlen:=h.1
 rcases h.2 with ⟨rfl,h0⟩ | ⟨g,off,cap,rfl,_,hg,hn,hcm,_,hr⟩
 ·obtain rfl:l = []:=List.eq_nil_of_length_eq_zero h0
  exact ids_nil w
 ·refine ⟨some ⟨g,off,none⟩,cap,by rw [List.length_map],by rw [List.length_map];omega,fun _ => ⟨g,off,rfl,hg,fun i hi j u hu => ?_⟩⟩
  rw [List.length_map] at hi
  rw [List.getElem_map] at hu
  have hj:j < 32:=by
   have:=(List.getElem?_eq_some_iff.1 hu).1
   rwa [idC_len,hl _ (List.getElem_mem hi)] at this
  have key:∀ (m:List Idl) (i:Nat) (hi:i < m.length),(∀ x ∈ m,x.length = 32) → (idC m[i])[j]? = some u → (idsF m)[i * 32 + j]? = some u:=by
   intro m
   induction m with
   | nil => intro i hi;simp at hi
   | cons a m ih =>
    intro i hi hm h2
    have ha:(idC a).length = 32:=by rw [idC_len];exact hm a (by simp)
    rw [idsF_cons]
    cases i with
    | zero => rw [List.getElem?_append_left (by omega)];simpa using h2
    | succ i =>
     rw [List.getElem?_append_right (by omega),ha,show (i + 1) * 32 + j - 32 = i * 32 + j from by omega]
     exact ih i (by simpa using hi) (fun x hx => hm x (List.mem_cons_of_mem _ hx)) (by simpa using h2)
  have:=hr _ u (key l i hi hl hu)
  rwa [Nat.add_assoc]
theorem IdRow.grown {w w':World} {v:Value} {l:List Idl} {r:Option Nat} (h:IdRow w v l) (hg:w.grownBy w' r) (hne:l = [] ∨ ∀ k,v.ownBlock = some k → r ≠ some k):IdRow w' v l:=by
 obtain ⟨ao,cap,rfl,hm,h⟩:=h
 refine ⟨ao,cap,rfl,hm,fun hn => ?_⟩
 obtain ⟨b,off,rfl,hl,hc⟩:=h hn
 rcases hne with rfl | hne
 ·exact absurd rfl hn
 ·exact ⟨b,off,rfl,Nat.lt_of_lt_of_le hl hg.size,fun i hi => range_grown (hc i hi) hg (hne b rfl)⟩
theorem IdRow.lt {w:World} {v:Value} {l:List Idl} (h:IdRow w v l):l = [] ∨ ∀ k,v.ownBlock = some k → k < w.heap.size:=by
 obtain ⟨ao,cap,rfl,hm,h⟩:=h
 by_cases hl:l = []
 ·exact .inl hl
 ·obtain ⟨b,off,rfl,hlt,_⟩:=h (by simpa using hl)
  exact .inr fun k hk => by cases hk;exact hlt
def vlV (v:Value):Value:=v
def LineM (cm:Idl → Option Cmt) (w:World) (b n:Nat) (S:List Idl) (q:Option Nat):Prop :=
 ∃ g:Idl → Option Value,MapG vlV w b n g ∧ (∀ x,x.length = 32 → ((g x).isSome = true ↔ x ∈ S)) ∧ ∀ x v,g x = some v → ∃ c pv,cm x = some c ∧ v = .agg (cmC c.tree pv c.text).toArray ∧ IdRow w pv c.pars ∧ (c.pars = [] ∨ ∀ k,pv.ownBlock = some k → q ≠ some k)
variable {cm:Idl → Option Cmt}
theorem LineM.map {w:World} {b n:Nat} {S:List Idl} {q:Option Nat} (h:LineM cm w b n S q):∃ g,MapG vlV w b n g:=by obtain ⟨g,h,_⟩:=h;exact ⟨g,h⟩
theorem LineM.lt {w:World} {b n:Nat} {S:List Idl} {q:Option Nat} (h:LineM cm w b n S q):b < w.heap.size:=by obtain ⟨g,h,_⟩:=h;exact h.lt
theorem LineM.on {w w':World} {b n:Nat} {S:List Idl} {q:Option Nat} (h:LineM cm w b n S q) (hb:Below w.heap.size w w'):LineM cm w' b n S q:=by
 obtain ⟨g,h1,h2,h3⟩:=h
 exact ⟨g,h1.on hb,h2,fun x v hx => by
  obtain ⟨c,pv,k1,k2,k3,k4⟩:=h3 x v hx
  exact ⟨c,pv,k1,k2,k3.below hb,k4⟩⟩
theorem LineM.grown {w w':World} {b n:Nat} {S:List Idl} {q q':Option Nat} (h:LineM cm w b n S q) (hg:w.grownBy w' q) (hb:some b ≠ q) (hq:q' = q ∨ ∀ k,q' = some k → w.heap.size ≤ k):LineM cm w' b n S q':=by
 obtain ⟨g,h1,h2,h3⟩:=h
 refine ⟨g,h1.grown hg hb,h2,fun x v hx => ?_⟩
 obtain ⟨c,pv,k1,k2,k3,k4⟩:=h3 x v hx
 refine ⟨c,pv,k1,k2,k3.grown hg k4,?_⟩
 rcases hq with rfl | hq
 ·exact k4
 ·rcases k3.lt with h0 | hl
  ·exact .inl h0
  ·exact .inr fun k hk e => by have:=hl k hk;have:=hq k e;omega
theorem LineM.none {w:World} {b n:Nat} {S:List Idl} {q:Option Nat} (h:LineM cm w b n S q):LineM cm w b n S none:=by
 obtain ⟨g,h1,h2,h3⟩:=h
 refine ⟨g,h1,h2,fun x v hx => ?_⟩
 obtain ⟨c,pv,k1,k2,k3,_⟩:=h3 x v hx
 exact ⟨c,pv,k1,k2,k3,.inr fun k _ e => by cases e⟩
theorem LineM.mem {w:World} {b n:Nat} {S T:List Idl} {q:Option Nat} (h:LineM cm w b n S q) (hST:∀ x,x.length = 32 → (x ∈ S ↔ x ∈ T)):LineM cm w b n T q:=by
 obtain ⟨g,h1,h2,h3⟩:=h
 exact ⟨g,h1,fun x hx => (h2 x hx).trans (hST x hx),h3⟩
theorem LineM.look {w:World} {b n:Nat} {S:List Idl} {q:Option Nat} (h:LineM cm w b n S q) {t:TypeId} (ht:Tryz.prog.underlying t = some (.map 27 103)) {y:Idl} (hy:y.length = 32) (htl:∀ c,cm y = some c → c.tree.length = 32) :
  ∃ cs:List Value,cs.length = 34 ∧ (∀ v ∈ cs,v.oneCell' = true) ∧ (∀ W,Below w.heap.size w W → (Instr.lookup t (.map (some b)) (.agg (idC y).toArray) true).run Tryz.prog W = .ok (.tuple #[.agg cs.toArray,.bool (decide (y ∈ S))]) W) ∧
   (∀ W,Below w.heap.size w W → (Instr.lookup t (.map (some b)) (.agg (idC y).toArray) false).run Tryz.prog W = .ok (.agg cs.toArray) W) ∧ (y ∈ S → ∃ c pv,cm y = some c ∧ cs = cmC c.tree pv c.text ∧ IdRow w pv c.pars ∧ (c.pars = [] ∨ ∀ k,pv.ownBlock = some k → q ≠ some k)):=by
 obtain ⟨g,h1,h2,h3⟩:=h
 obtain ⟨zs,hz,_,rfl⟩:=cm_zero
 have h2':=h2 y hy
 cases e:g y with
 | none =>
  rw [e] at h2'
  have hn:y ∉ S:=fun h => by have:=h2'.2 h;cases this
  refine ⟨cmC zid (.slice Option.none 0 0) ⟨#[]⟩,cmC_len _ _ _ zid_len,cmC_one _ _ _ _ _,fun W hb => ?_,fun W hb => ?_,fun h => absurd h hn⟩
  ·rw [(h1.on hb).look_ok ht (hz W) hy,e,decide_eq_false hn];rfl
  ·rw [(h1.on hb).look ht (hz W) hy,e];rfl
 | some v =>
  rw [e] at h2'
  have hn:y ∈ S:=h2'.1 rfl
  obtain ⟨c,pv,k1,rfl,k3,k4⟩:=h3 y v e
  obtain ⟨ao,cap,rfl,_⟩:=k3.open
  refine ⟨cmC c.tree (.slice ao c.pars.length cap) c.text,cmC_len _ _ _ (htl c k1),cmC_one _ _ _ _ _,fun W hb => ?_,fun W hb => ?_,fun _ => ⟨c,_,k1,rfl,k3,k4⟩⟩
  ·rw [(h1.on hb).look_ok ht (hz W) hy,e,decide_eq_true hn];rfl
  ·rw [(h1.on hb).look ht (hz W) hy,e];rfl
theorem MapG.nocell {α:Type} {enc:α → Value} {w:World} {b n:Nat} {f:Idl → Option α} (h:MapG enc w b n f) (o:Nat):w.cell? ⟨b,o,Option.none⟩ = Option.none:=by
 obtain ⟨D,⟨es,clock,h1,_⟩,_⟩:=h
 simp [World.cell?,h1]
theorem IdRow.off {α:Type} {enc:α → Value} {w:World} {v:Value} {l:List Idl} {b n:Nat} {f:Idl → Option α} (h:IdRow w v l) (hl:∀ x ∈ l,x.length = 32) (hm:MapG enc w b n f):l = [] ∨ ∀ k,v.ownBlock = some k → some b ≠ some k:=by
 by_cases h0:l = []
 ·exact .inl h0
 ·obtain ⟨ao,cap,rfl,_,h⟩:=h.open
  obtain ⟨g,off,rfl,_,hc⟩:=h h0
  refine .inr fun k hk e => ?_
  have hk':g = k:=by simpa [Value.ownBlock] using hk
  have hb':b = k:=Option.some.inj e
  subst hk';subst hb'
  have hp:0 < l.length:=List.length_pos_iff.2 h0
  have hx:(idC l[0]).length = 32:=by rw [idC_len];exact hl _ (List.getElem_mem hp)
  have:=hc 0 hp 0 ((idC l[0])[0]'(by omega)) (by simp)
  rw [hm.nocell] at this
  cases this
end Go.Proofs.YtmhjpmenngjmeaaGreatDoor
namespace Go.Proofs.YtmhjpmenngjmeaaGreatDoor
open Go.RowKit
section
variable {P:Program} {w:World} {ops:Array Oper} {rest:List Oper} {o:Oper} {a:Act} {Q:Exit → Act → World → Prop}
theorem wpList_sliceH_run (hg:o.guard = none) (t:TypeId) (x hi:Operand) (hop:o.op = .slice t x none (some hi) none) (xv hv:Value) (hx:a.eval x = xv) (hh:a.eval hi = hv) (v:Value) (h:(Instr.sliceAt t xv none (some hv) none).run P w = .ok v w) (hK:wpList P ops Q rest (a.put o.dst v) w):wpList P ops Q (o :: rest) a w:=by
 refine wpList_exec hg v ?_ hK
 unfold execOp
 simp only [hop,hx,Option.map_some,Option.map_none,hh,Sem.run_bind,h,Result.andThen_ok]
 rfl
end
end Go.Proofs.YtmhjpmenngjmeaaGreatDoor

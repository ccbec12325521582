/- YtbmiiiccnoiffaaGreatDoorC29: texts HL, KB, K1, SI of this claim, in one. -/
import Derived.Test.YtbmiiiccnoiffaaGreatDoorC14
import Derived.Test.YtbmiiiccnoiffaaGreatDoorC18
import Derived.Test.YtbmiiiccnoiffaaGreatDoorC20
namespace Go.Proofs.YtbmiiiccnoiffaaGreatDoor
open Go.RowKit Go.Maps
section
variable {P:Program} {w:World} {ops:Array Oper} {rest:List Oper} {o:Oper} {a:Act} {Q:Exit → Act → World → Prop}
theorem wpList_exec (hg:o.guard = none) (v:Value) (h:(execOp a.eval o).run P w = .ok (.value v) w) (hK:wpList P ops Q rest (a.put o.dst v) w):wpList P ops Q (o :: rest) a w:=by
 refine wpList_plain hg fun K hK' => ?_
 unfold Oper.wp
 rw [h]
 exact hK' _ _ hK
theorem wpList_lookup_run (hg:o.guard = none) (t:TypeId) (m x:Operand) (b:Bool) (hop:o.op = .lookup t m x b) (mv xv:Value) (hm:a.eval m = mv) (hx:a.eval x = xv) (v:Value) (h:(Instr.lookup t mv xv b).run P w = .ok v w) (hK:wpList P ops Q rest (a.put o.dst v) w):wpList P ops Q (o :: rest) a w:=by
 refine wpList_exec hg v ?_ hK
 unfold execOp
 simp only [hop,hm,hx,Sem.run_bind,h,Result.andThen_ok]
 rfl
theorem wpList_slice_run (hg:o.guard = none) (t:TypeId) (x lo:Operand) (hop:o.op = .slice t x (some lo) none none) (xv lv:Value) (hx:a.eval x = xv) (hl:a.eval lo = lv) (v:Value) (h:(Instr.sliceAt t xv (some lv) none none).run P w = .ok v w) (hK:wpList P ops Q rest (a.put o.dst v) w):wpList P ops Q (o :: rest) a w:=by
 refine wpList_exec hg v ?_ hK
 unfold execOp
 simp only [hop,hx,Option.map_some,Option.map_none,hl,Sem.run_bind,h,Result.andThen_ok]
 rfl
end
theorem elemIds:Tryz.prog.underlying 28 = some (.slice (Tryz.prog.elem 28)):=by kernel_rfl
theorem run_cut_ids (W:World) (g off n cap:Nat) (h:n + 1 ≤ cap + 1):(Instr.sliceAt 28 (.slice (some ⟨g,off,none⟩) (n + 1) (cap + 1)) (some (.int .i64 1)) none none).run Tryz.prog W = .ok (.slice (some (if cap = 0 then (⟨g,off,none⟩:Addr) else ⟨g,off + 32,none⟩)) n cap) W:=by
 have hs:(sizeOf (Tryz.prog.elem 28)).run Tryz.prog W = .ok 32 W:=by kernel_rfl
 rw [run_sliceAt_slice _ _ _ _ _ _ elemIds,run_slice_l _ _ _ _ _ elemIds _ _ (by omega) (by omega),hs]
 show Result.ok _ W = _
 unfold sliced
 rw [show (1:Int).toNat = 1 from rfl]
 by_cases h0:cap = 0
 ·subst h0
  obtain rfl:n = 0:=by omega
  rfl
 ·rw [if_neg (by omega),if_neg h0]
  simp [Addr.add]
theorem ids_nil (w:World):IdRow w (.slice none 0 0) []:=⟨none,0,rfl,by simp,fun h => absurd rfl h⟩
theorem idsF_cons (x:Idl) (l:List Idl):idsF (x :: l) = idC x ++ idsF l:=by simp [idsF]
theorem idsF_append (l m:List Idl):idsF (l ++ m) = idsF l ++ idsF m:=by simp [idsF]
theorem idsF_len (l:List Idl) (h:∀ x ∈ l,x.length = 32):(idsF l).length = l.length * 32:=by
 induction l with
 | nil => rfl
 | cons a l ih =>
  rw [idsF_cons,List.length_append,idC_len,h a (by simp),ih (fun x hx => h x (List.mem_cons_of_mem _ hx)),List.length_cons];omega
theorem idsF_one (l:List Idl):∀ v ∈ idsF l,v.oneCell' = true:=fun v hv => by
 unfold idsF at hv
 obtain ⟨r,hr,hv⟩:=List.mem_flatten.1 hv
 obtain ⟨x,_,rfl⟩:=List.mem_map.1 hr
 exact idC_one x v hv
theorem idsF_at (l:List Idl) (h:∀ x ∈ l,x.length = 32) {w:World} {b off:Nat} (hc:∀ k (hk:k < l.length),w.rangeAt b (off + k * 32) (idC l[k])):∀ j u,(idsF l)[j]? = some u → w.cell? ⟨b,off + j,none⟩ = some u:=by
 induction l generalizing off with
 | nil => intro j u hu;simp [idsF] at hu
 | cons a l ih =>
  intro j u hu
  rw [idsF_cons] at hu
  have ha:(idC a).length = 32:=by rw [idC_len];exact h a (by simp)
  by_cases hj:j < 32
  ·rw [List.getElem?_append_left (by omega)] at hu
   have:=hc 0 (by simp) j u hu
   simpa using this
  ·rw [List.getElem?_append_right (by omega),ha] at hu
   have:=ih (off:=off + 32) (fun x hx => h x (List.mem_cons_of_mem _ hx)) (fun k hk => by
    have:=hc (k + 1) (by simp;omega)
    rw [show off + (k + 1) * 32 = off + 32 + k * 32 from by omega] at this
    exact this) (j - 32) u hu
   rwa [show off + 32 + (j - 32) = off + j from by omega] at this
theorem IdRow.flat {w:World} {v:Value} {l:List Idl} (h:IdRow w v l) (hl:∀ x ∈ l,x.length = 32):∃ ao cap,v = .slice ao l.length cap ∧ (0 < l.length → ∃ ad,ao = some ad ∧ ∀ j u,(idsF l)[j]? = some u → w.cell? (ad.add j) = some u):=by
 obtain ⟨ao,cap,rfl,_,h⟩:=h.open
 refine ⟨ao,cap,rfl,fun hp => ?_⟩
 obtain ⟨b,off,rfl,_,hc⟩:=h (fun e => by rw [e] at hp;simp at hp)
 exact ⟨_,rfl,fun j u hu => by rw [Addr.add_mid];exact idsF_at l hl hc j u hu⟩
theorem IdRow.flat0 {w:World} {v:Value} {l:List Idl} (h:IdRow w v l):∃ ao cap,v = .slice ao l.length cap ∧ True:=by
 obtain ⟨ao,cap,rfl,_⟩:=h.open
 exact ⟨ao,cap,rfl,trivial⟩
theorem OwnQ.row {w:World} {B:Nat} {v:Value} {l:List Idl} (h:OwnQ w B 32 v l.length (idsF l)) (hl:∀ x ∈ l,x.length = 32):IdRow w v l:=by
 have hlen:=h.1
 rcases h.2 with ⟨rfl,h0⟩ | ⟨g,off,cap,rfl,_,hg,hn,hcm,_,hr⟩
 ·obtain rfl:l = []:=List.eq_nil_of_length_eq_zero h0
  exact ids_nil w
 ·refine ⟨some ⟨g,off,none⟩,cap,by rw [List.length_map],by rw [List.length_map];omega,fun _ => ⟨g,off,rfl,hg,fun i hi j u hu => ?_⟩⟩
  rw [List.length_map] at hi
  rw [List.getElem_map] at hu
  have hj:j < 32:=by
   have:=(List.getElem?_eq_some_iff.1 hu).1
   rwa [idC_len,hl _ (List.getElem_mem hi)] at this
  have key:∀ (m:List Idl) (i:Nat) (hi:i < m.length),(∀ x ∈ m,x.length = 32) → (idC m[i])[j]? = some u → (idsF m)[i * 32 + j]? = some u:=by
   intro m
   induction m with
   | nil => intro i hi;simp at hi
   | cons a m ih =>
    intro i hi hm h2
    have ha:(idC a).length = 32:=by rw [idC_len];exact hm a (by simp)
    rw [idsF_cons]
    cases i with
    | zero => rw [List.getElem?_append_left (by omega)];simpa using h2
    | succ i =>
     rw [List.getElem?_append_right (by omega),ha,show (i + 1) * 32 + j - 32 = i * 32 + j from by omega]
     exact ih i (by simpa using hi) (fun x hx => hm x (List.mem_cons_of_mem _ hx)) (by simpa using h2)
  have:=hr _ u (key l i hi hl hu)
  rwa [Nat.add_assoc]
theorem IdRow.grown {w w':World} {v:Value} {l:List Idl} {r:Option Nat} (h:IdRow w v l) (hg:w.grownBy w' r) (hne:l = [] ∨ ∀ k,v.ownBlock = some k → r ≠ some k):IdRow w' v l:=by
 obtain ⟨ao,cap,rfl,hm,h⟩:=h
 refine ⟨ao,cap,rfl,hm,fun hn => ?_⟩
 obtain ⟨b,off,rfl,hl,hc⟩:=h hn
 rcases hne with rfl | hne
 ·exact absurd rfl hn
 ·exact ⟨b,off,rfl,Nat.lt_of_lt_of_le hl hg.size,fun i hi => range_grown (hc i hi) hg (hne b rfl)⟩
theorem IdRow.lt {w:World} {v:Value} {l:List Idl} (h:IdRow w v l):l = [] ∨ ∀ k,v.ownBlock = some k → k < w.heap.size:=by
 obtain ⟨ao,cap,rfl,hm,h⟩:=h
 by_cases hl:l = []
 ·exact .inl hl
 ·obtain ⟨b,off,rfl,hlt,_⟩:=h (by simpa using hl)
  exact .inr fun k hk => by cases hk;exact hlt
def vlV (v:Value):Value:=v
def LineM (cm:Idl → Option Cmt) (w:World) (b n:Nat) (S:List Idl) (q:Option Nat):Prop :=
 ∃ g:Idl → Option Value,MapG vlV w b n g ∧ (∀ x,x.length = 32 → ((g x).isSome = true ↔ x ∈ S)) ∧ ∀ x v,g x = some v → ∃ c pv,cm x = some c ∧ v = .agg (cmC c.tree pv c.text).toArray ∧ IdRow w pv c.pars ∧ (c.pars = [] ∨ ∀ k,pv.ownBlock = some k → q ≠ some k)
variable {cm:Idl → Option Cmt}
theorem LineM.map {w:World} {b n:Nat} {S:List Idl} {q:Option Nat} (h:LineM cm w b n S q):∃ g,MapG vlV w b n g:=by obtain ⟨g,h,_⟩:=h;exact ⟨g,h⟩
theorem LineM.lt {w:World} {b n:Nat} {S:List Idl} {q:Option Nat} (h:LineM cm w b n S q):b < w.heap.size:=by obtain ⟨g,h,_⟩:=h;exact h.lt
theorem LineM.on {w w':World} {b n:Nat} {S:List Idl} {q:Option Nat} (h:LineM cm w b n S q) (hb:Below w.heap.size w w'):LineM cm w' b n S q:=by
 obtain ⟨g,h1,h2,h3⟩:=h
 exact ⟨g,h1.on hb,h2,fun x v hx => by
  obtain ⟨c,pv,k1,k2,k3,k4⟩:=h3 x v hx
  exact ⟨c,pv,k1,k2,k3.below hb,k4⟩⟩
theorem LineM.grown {w w':World} {b n:Nat} {S:List Idl} {q q':Option Nat} (h:LineM cm w b n S q) (hg:w.grownBy w' q) (hb:some b ≠ q) (hq:q' = q ∨ ∀ k,q' = some k → w.heap.size ≤ k):LineM cm w' b n S q':=by
 obtain ⟨g,h1,h2,h3⟩:=h
 refine ⟨g,h1.grown hg hb,h2,fun x v hx => ?_⟩
 obtain ⟨c,pv,k1,k2,k3,k4⟩:=h3 x v hx
 refine ⟨c,pv,k1,k2,k3.grown hg k4,?_⟩
 rcases hq with rfl | hq
 ·exact k4
 ·rcases k3.lt with h0 | hl
  ·exact .inl h0
  ·exact .inr fun k hk e => by have:=hl k hk;have:=hq k e;omega
theorem LineM.none {w:World} {b n:Nat} {S:List Idl} {q:Option Nat} (h:LineM cm w b n S q):LineM cm w b n S none:=by
 obtain ⟨g,h1,h2,h3⟩:=h
 refine ⟨g,h1,h2,fun x v hx => ?_⟩
 obtain ⟨c,pv,k1,k2,k3,_⟩:=h3 x v hx
 exact ⟨c,pv,k1,k2,k3,.inr fun k _ e => by cases e⟩
theorem LineM.mem {w:World} {b n:Nat} {S T:List Idl} {q:Option Nat} (h:LineM cm w b n S q) (hST:∀ x,x.length = 32 → (x ∈ S ↔ x ∈ T)):LineM cm w b n T q:=by
 obtain ⟨g,h1,h2,h3⟩:=h
 exact ⟨g,h1,fun x hx => (h2 x hx).trans (hST x hx),h3⟩
theorem lineM_made (w:World) (q:Option Nat):LineM cm (w.alloc (.map #[] 0)) w.heap.size 0 [] q:=⟨fun _ => Option.none,mapG_made w,fun _ _ => by simp,fun _ _ h => by cases h⟩
theorem LineM.look {w:World} {b n:Nat} {S:List Idl} {q:Option Nat} (h:LineM cm w b n S q) {t:TypeId} (ht:Tryz.prog.underlying t = some (.map 24 97)) {y:Idl} (hy:y.length = 32) (htl:∀ c,cm y = some c → c.tree.length = 32) :
  ∃ cs:List Value,cs.length = 34 ∧ (∀ v ∈ cs,v.oneCell' = true) ∧ (∀ W,Below w.heap.size w W → (Instr.lookup t (.map (some b)) (.agg (idC y).toArray) true).run Tryz.prog W = .ok (.tuple #[.agg cs.toArray,.bool (decide (y ∈ S))]) W) ∧
   (∀ W,Below w.heap.size w W → (Instr.lookup t (.map (some b)) (.agg (idC y).toArray) false).run Tryz.prog W = .ok (.agg cs.toArray) W) ∧ (y ∈ S → ∃ c pv,cm y = some c ∧ cs = cmC c.tree pv c.text ∧ IdRow w pv c.pars ∧ (c.pars = [] ∨ ∀ k,pv.ownBlock = some k → q ≠ some k)):=by
 obtain ⟨g,h1,h2,h3⟩:=h
 obtain ⟨zs,hz,_,rfl⟩:=cm_zero
 have h2':=h2 y hy
 cases e:g y with
 | none =>
  rw [e] at h2'
  have hn:y ∉ S:=fun h => by have:=h2'.2 h;cases this
  refine ⟨cmC zid (.slice Option.none 0 0) ⟨#[]⟩,cmC_len _ _ _ zid_len,cmC_one _ _ _ _ _,fun W hb => ?_,fun W hb => ?_,fun h => absurd h hn⟩
  ·rw [(h1.on hb).look_ok ht (hz W) hy,e,decide_eq_false hn];rfl
  ·rw [(h1.on hb).look ht (hz W) hy,e];rfl
 | some v =>
  rw [e] at h2'
  have hn:y ∈ S:=h2'.1 rfl
  obtain ⟨c,pv,k1,rfl,k3,k4⟩:=h3 y v e
  obtain ⟨ao,cap,rfl,_⟩:=k3.open
  refine ⟨cmC c.tree (.slice ao c.pars.length cap) c.text,cmC_len _ _ _ (htl c k1),cmC_one _ _ _ _ _,fun W hb => ?_,fun W hb => ?_,fun _ => ⟨c,_,k1,rfl,k3,k4⟩⟩
  ·rw [(h1.on hb).look_ok ht (hz W) hy,e,decide_eq_true hn];rfl
  ·rw [(h1.on hb).look ht (hz W) hy,e];rfl
theorem MapG.nocell {α:Type} {enc:α → Value} {w:World} {b n:Nat} {f:Idl → Option α} (h:MapG enc w b n f) (o:Nat):w.cell? ⟨b,o,Option.none⟩ = Option.none:=by
 obtain ⟨D,⟨es,clock,h1,_⟩,_⟩:=h
 simp [World.cell?,h1]
theorem IdRow.off {α:Type} {enc:α → Value} {w:World} {v:Value} {l:List Idl} {b n:Nat} {f:Idl → Option α} (h:IdRow w v l) (hl:∀ x ∈ l,x.length = 32) (hm:MapG enc w b n f):l = [] ∨ ∀ k,v.ownBlock = some k → some b ≠ some k:=by
 by_cases h0:l = []
 ·exact .inl h0
 ·obtain ⟨ao,cap,rfl,_,h⟩:=h.open
  obtain ⟨g,off,rfl,_,hc⟩:=h h0
  refine .inr fun k hk e => ?_
  have hk':g = k:=by simpa [Value.ownBlock] using hk
  have hb':b = k:=Option.some.inj e
  subst hk';subst hb'
  have hp:0 < l.length:=List.length_pos_iff.2 h0
  have hx:(idC l[0]).length = 32:=by rw [idC_len];exact hl _ (List.getElem_mem hp)
  have:=hc 0 hp 0 ((idC l[0])[0]'(by omega)) (by simp)
  rw [hm.nocell] at this
  cases this
theorem wpList_update_L {w:World} {ops:Array Oper} {rest:List Oper} {o:Oper} {a:Act} {Q:Exit → Act → World → Prop} (hg:o.guard = Option.none) (m x v:Operand) (t:TypeId) (hop:o.op = Op.mapUpdate t m x v)
  (ht:Tryz.prog.underlying t = some (.map 24 97)) (b n:Nat) (S:List Idl) (q:Option Nat) (hm:a.eval m = .map (some b)) (h:LineM cm w b n S q) (y:Idl) (hy:y.length = 32) (c:Cmt) (pv:Value) (hc:cm y = some c) (hl:∀ x c,cm x = some c → ∀ p ∈ c.pars,p.length = 32)
  (hx:a.eval x = .agg (idC y).toArray) (hv:a.eval v = .agg (cmC c.tree pv c.text).toArray) (hp:IdRow w pv c.pars) (hq:c.pars = [] ∨ ∀ k,pv.ownBlock = some k → q ≠ some k) (hn:n < maxLen)
  (hK:∀ w',LineM cm w' b (n + 1) (y :: S) q → w.grownBy w' (some b) → wpList Tryz.prog ops Q rest (a.put o.dst undef) w'):wpList Tryz.prog ops Q (o :: rest) a w:=by
 obtain ⟨g,h1,h2,h3⟩:=h
 refine wpList_update_G (enc:=vlV) hg m x v t 97 hop ht b n g hm h1 y hy (.agg (cmC c.tree pv c.text).toArray) hx hv hn fun w' k1 k2 => hK w' ⟨_,k1,fun z hz => ?_,fun z u hu => ?_⟩ k2
 ·by_cases e:z = y
  ·subst e;simp
  ·rw [if_neg e,h2 z hz,List.mem_cons]
   exact ⟨.inr,fun h => h.resolve_left e⟩
 ·by_cases e:z = y
  ·subst e
   rw [if_pos rfl] at hu
   cases hu
   exact ⟨c,pv,hc,rfl,hp.grown k2 (hp.off (hl _ _ hc) h1),hq⟩
  ·rw [if_neg e] at hu
   obtain ⟨c',pv',m1,m2,m3,m4⟩:=h3 z u hu
   exact ⟨c',pv',m1,m2,m3.grown k2 (m3.off (hl _ _ m1) h1),m4⟩
end Go.Proofs.YtbmiiiccnoiffaaGreatDoor
namespace Go.Proofs.YtbmiiiccnoiffaaGreatDoor
open Go.RowKit Go.Maps
section
variable {P:Program} {w w':World} {ops:Array Oper} {rest:List Oper} {o:Oper} {a:Act} {Q:Exit → Act → World → Prop}
theorem wpList_entry_run (hg:o.guard = none) (t:TypeId) (m x:Operand) (hop:o.op = .mapEntry t m x) (mv xv:Value) (hm:a.eval m = mv) (hx:a.eval x = xv) (v:Value) (h:(Instr.mapEntry t mv xv).run P w = .ok v w') (hK:wpList P ops Q rest (a.put o.dst v) w'):wpList P ops Q (o :: rest) a w:=by
 refine wpList_plain hg fun K hK' => ?_
 unfold Oper.wp
 simp [execOp,hop,hm,hx,h,Result.andThen]
 exact hK' _ _ hK
theorem wpList_estore_run (hg:o.guard = none) (t:TypeId) (m s x:Operand) (hop:o.op = .entryStore t m s x) (mv sv xv:Value) (hm:a.eval m = mv) (hs:a.eval s = sv) (hx:a.eval x = xv) (h:(Instr.entryStore t mv sv xv).run P w = .ok () w') (hK:wpList P ops Q rest (a.put o.dst undef) w'):wpList P ops Q (o :: rest) a w:=by
 refine wpList_plain hg fun K hK' => ?_
 unfold Oper.wp
 simp [execOp,hop,hm,hs,hx,h,Result.andThen]
 exact hK' _ _ hK
end
def natV (k:Nat):Value:=.int .i64 (k:Int)
def CntM (w:World) (b n:Nat) (h:Idl → Nat):Prop:=∃ f:Idl → Option Nat,MapG natV w b n f ∧ ∀ x,x.length = 32 → (f x).getD 0 = h x
theorem CntM.lt {w:World} {b n:Nat} {h:Idl → Nat} (c:CntM w b n h):b < w.heap.size:=by obtain ⟨f,h,_⟩:=c;exact h.lt
theorem CntM.on {w w':World} {b n:Nat} {h:Idl → Nat} (c:CntM w b n h) (hb:Below w.heap.size w w'):CntM w' b n h:=by obtain ⟨f,h1,h2⟩:=c;exact ⟨f,h1.on hb,h2⟩
theorem CntM.grown {w w':World} {b n:Nat} {h:Idl → Nat} {r:Option Nat} (c:CntM w b n h) (hg:w.grownBy w' r) (hne:some b ≠ r):CntM w' b n h:=by obtain ⟨f,h1,h2⟩:=c;exact ⟨f,h1.grown hg hne,h2⟩
theorem CntM.ext {w:World} {b n:Nat} {h h':Idl → Nat} (c:CntM w b n h) (he:∀ x,x.length = 32 → h x = h' x):CntM w b n h':=by obtain ⟨f,h1,h2⟩:=c;exact ⟨f,h1,fun x hx => (h2 x hx).trans (he x hx)⟩
theorem cntM_made (w:World):CntM (w.alloc (.map #[] 0)) w.heap.size 0 fun _ => 0:=⟨fun _ => none,mapG_made w,fun _ _ => rfl⟩
theorem natV_get (o:Option Nat):(o.map natV).getD (.int .i64 0) = .int .i64 ((o.getD 0:Nat):Int):=by cases o <;> rfl
theorem zeroInt (w:World):(zeroValue 3).run Tryz.prog w = .ok (.int .i64 0) w:=by kernel_rfl
theorem CntM.look {w:World} {b n:Nat} {h:Idl → Nat} (c:CntM w b n h) {t:TypeId} (ht:Tryz.prog.underlying t = some (.map 24 3)) {x:Idl} (hx:x.length = 32):∀ W,Below w.heap.size w W → (Instr.lookup t (.map (some b)) (.agg (idC x).toArray) false).run Tryz.prog W = .ok (.int .i64 (h x:Int)) W:=fun W hb => by
 obtain ⟨f,h1,h2⟩:=c
 rw [(h1.on hb).look ht (zeroInt W) hx,natV_get,h2 x hx]
theorem CntM.entry {w:World} {b n:Nat} {h:Idl → Nat} (c:CntM w b n h) {t:TypeId} (ht:Tryz.prog.underlying t = some (.map 24 3)) (hn:n < maxLen) {x:Idl} (hx:x.length = 32) :
  ∃ (v0:Value) (st:Nat) (w1:World),(Instr.mapEntry t (.map (some b)) (.agg (idC x).toArray)).run Tryz.prog w = .ok (.tuple #[v0,goInt st]) w1 ∧ w.grownBy w1 (some b) ∧
   (∀ W,W.heap[b]? = w1.heap[b]? → (Instr.lookup t (.map (some b)) (.agg (idC x).toArray) false).run Tryz.prog W = .ok (.int .i64 (h x:Int)) W) ∧
   ∀ (w2:World) (k:Nat),w2.heap[b]? = w1.heap[b]? → ∃ w3,(Instr.entryStore t (.map (some b)) (goInt st) (.int .i64 (k:Int))).run Tryz.prog w2 = .ok () w3 ∧ w2.grownBy w3 (some b) ∧ CntM w3 b (n + 1) (fun q => if q = x then k else h q):=by
 obtain ⟨f,h1,h2⟩:=c
 obtain ⟨v0,st,w1,k1,k2,k3,k4⟩:=h1.entry ht zeroInt hn 0 rfl hx
 refine ⟨v0,st,w1,k1,k2,fun W hW => ?_,fun w2 k hw2 => ?_⟩
 ·rw [k3 W hW,natV_get,h2 x hx]
 ·obtain ⟨w3,m1,m2,m3⟩:=k4 w2 k hw2
  refine ⟨w3,m1,m2,_,m3,fun q hq => ?_⟩
  show (if q = x then some k else f q).getD 0 = if q = x then k else h q
  split
  ·rfl
  ·exact h2 q hq
end Go.Proofs.YtbmiiiccnoiffaaGreatDoor
namespace Go.Proofs.YtbmiiiccnoiffaaGreatDoor
open Go.RowKit
def cmt0:Cmt:=⟨zid,[],⟨#[]⟩⟩
def RcmAns (cm:Idl → Option Cmt) (x:Idl) (w:World) (e:Ending) (w':World):Prop :=
 ∃ v,e = .returned (.tuple #[.agg (cmC ((cm x).getD cmt0).tree v ((cm x).getD cmt0).text).toArray,.bool (cm x).isSome]) ∧ IdRow w' v ((cm x).getD cmt0).pars ∧ Below w.heap.size w w'
def RcmFr (cm:Idl → Option Cmt) (x:Idl) (w:World) (e:Ending) (w':World):Prop :=
 ∃ v,e = .returned (.tuple #[.agg (cmC ((cm x).getD cmt0).tree v ((cm x).getD cmt0).text).toArray,.bool (cm x).isSome]) ∧ IdRow w' v ((cm x).getD cmt0).pars ∧ Below w.heap.size w w' ∧ ∀ k,v.ownBlock = some k → w.heap.size ≤ k
theorem rcmAns_none {cm:Idl → Option Cmt} {x:Idl} {w w':World} {v:Value} (h:cm x = none) (hv:IdRow w' v []) (hb:Below w.heap.size w w') (hf:∀ k,v.ownBlock = some k → w.heap.size ≤ k):RcmFr cm x w (.returned (.tuple #[.agg (cmC zid v ⟨#[]⟩).toArray,.bool false])) w' :=
 ⟨v,by rw [h];rfl,by rw [h];exact hv,hb,hf⟩
theorem rcmAns_some {cm:Idl → Option Cmt} {x:Idl} {w w':World} {t:Idl} {p:List Idl} {s:ByteArray} {v:Value} (h:cm x = some ⟨t,p,s⟩) (hv:IdRow w' v p) (hb:Below w.heap.size w w') (hf:∀ k,v.ownBlock = some k → w.heap.size ≤ k):RcmFr cm x w (.returned (.tuple #[.agg (cmC t v s).toArray,.bool true])) w' :=
 ⟨v,by rw [h];rfl,by rw [h];exact hv,hb,hf⟩
theorem getS_small {l:List Ob} {x:Idl} {o:Ob} (h:getS l x = some o):o.body.size ≤ 4096:=right_small (getS_some h).2.1
set_option maxRecDepth 100000 in
set_option maxHeartbeats 2000000 in
theorem rcmt_fr (vl vi:Value) (l:List Ob) (x:Idl) (w:World) (hs:SrcRow w (.agg #[vl,vi]) l) (hx:x.length = 32) :
  Calls Tryz.prog 60 #[.agg #[vl,vi],.agg (idC x).toArray] w (RcmFr (cmG (getS l)) x w):=by
 have hxl:(idC x).length = 32:=by rw [idC_len,hx]
 have h32x:=h32_of hxl
 obtain ⟨zs,hz,hbu,hzs⟩:=cm_zero
 have hcl:(cmC zid (.slice none 0 0) ⟨#[]⟩).length = 34:=cmC_len _ _ _ zid_len
 have hon:=cmC_one zid none 0 0 ⟨#[]⟩
 obtain ⟨W,hW⟩:∃ W,W = ((w.alloc (.cells #[vl,vi] 30)).alloc (.cells (idC x).toArray 24)).alloc (.cells zs 97):=⟨_,rfl⟩
 have hbW:Below w.heap.size w W:=by rw [hW];exact (((Below.refl _ _).alloc (Nat.le_refl _) _).alloc (by simp) _).alloc (by simp;omega) _
 have hr1:W.rangeAt (w.heap.size + 1) 0 (idC x):=by
  rw [hW]
  exact rangeAt_below (range_new (w.alloc (.cells #[vl,vi] 30)) (idC x) 24 (by simp)) ((Below.refl _ _).alloc (Nat.le_refl _) _) (by simp)
 have hth:W.there (w.heap.size + 1 + 1) 0 34:=by
  rw [hW,hzs]
  have:=(cmF_arr ((w.alloc (.cells #[vl,vi] 30)).alloc (.cells (idC x).toArray 24)) zid_len (.slice none 0 0) ⟨#[]⟩ 97).there
  rw [World.size_alloc,World.size_alloc] at this
  exact this
 have hsW:W.heap.size = w.heap.size + 1 + 1 + 1:=by rw [hW];simp
 have HG:=Lib.hid (rget_any (.agg #[vl,vi]) l x W (hs.below hbW) hx)
 have HZ0:=Lib.hid hzs
 have HSM:Hid (∀ o,getS l x = some o → o.body.size ≤ 4096):=Lib.hid (fun o h => getS_small h)
 have HCM:Hid (cmG (getS l) x = match getS l x with | some o => if o.kind = 3 then (match commitOf o.body with | some c => some ⟨c.1,c.2.1,c.2.2⟩ | none => none) else none | none => none):=Lib.hid rfl
 have HNO:Hid (∀ w',cmG (getS l) x = none → Below w.heap.size w w' → ∀ v,IdRow w' v [] → (∀ k,v.ownBlock = some k → w.heap.size ≤ k) → RcmFr (cmG (getS l)) x w (.returned (.tuple #[.agg (cmC zid v ⟨#[]⟩).toArray,.bool false])) w'):=Lib.hid (fun w' h hb v hv hf => rcmAns_none h hv hb hf)
 have HYES:Hid (∀ w' t p s v,cmG (getS l) x = some ⟨t,p,s⟩ → IdRow w' v p → Below w.heap.size w w' → (∀ k,v.ownBlock = some k → w.heap.size ≤ k) → RcmFr (cmG (getS l)) x w (.returned (.tuple #[.agg (cmC t v s).toArray,.bool true])) w'):=Lib.hid (fun w' t p s v h hv hb hf => rcmAns_some h hv hb hf)
 have h34:(Tryz.prog.info? 97).map (·.size) = some 34:=by kernel_rfl
 have HTH:=Lib.hid hth
 have HBW:=Lib.hid hbW
 have HSW:=Lib.hid hsW
 have HCL:=Lib.hid hcl
 have HON:=Lib.hid hon
 have hrX:=hr1
 rw [hW] at hrX
 have HRX:=Lib.hid hrX
 have HWE:=Lib.hid hW
 clear hs hx hxl hzs hcl hon hbW hr1 hth hsW hW hrX
 generalize getS l x = r at HG HSM HCM
 generalize idC x = ux at h32x HG HRX HWE
 have HST:Hid (∀ w1 cs,cs.length = 34 → Below W.heap.size W w1 → (w1.setCells (w.heap.size + 1 + 1) 0 cs).rangeAt (w.heap.size + 1 + 1) 0 cs ∧ Below w.heap.size w (w1.setCells (w.heap.size + 1 + 1) 0 cs)):=Lib.hid (fun w1 cs hl hb =>
  ⟨World.rangeAt_setCells_same w1 _ 0 _ (by rw [hl];exact there_below HTH.out hb (by rw [HSW.out];omega)),below_setCells _ (by omega) _ _ _ (HBW.out.trans (hb.mono HBW.out.size))⟩)
 have HTB:Hid (∀ w1,Below W.heap.size W w1 → w1.there (w.heap.size + 1 + 1) 0 34):=Lib.hid (fun w1 hb => there_below HTH.out hb (by rw [HSW.out];omega))
 have h34z:(Tryz.prog.info? 97).map (·.size) = some (cmC zid (.slice none 0 0) ⟨#[]⟩).length:=by rw [HCL.out];exact h34
 have h2:∀ (a:Int) (s:ByteArray),(Tryz.prog.info? 93).map (·.size) = some [Value.int .i64 a,Value.string s].length:=fun a s => by kernel_rfl
 have H2:=Lib.hid h2
 clear h2
 go_enter Tryz.func60,Tryz.ntmps60
 go_wp2_with (refine wpList_load_mid rfl 24 _ rfl (w.heap.size + 1) 0 rfl ux _ HRX.out Tryz.underlying24 rfl h32x ?_)
 rw [← HWE.out]
 refine HG.out.mono ?_
 rintro e w1 ⟨rfl,hb1⟩
 clear HG HRX HWE
 obtain ⟨o,ho⟩:∃ o,r.getD ob0 = o:=⟨_,rfl⟩
 rw [ho]
 have HO:=Lib.hid ho
 obtain ⟨W2,hW2⟩:∃ W2,w1.alloc (.cells #[.int .i64 o.kind,.string o.body] 93) = W2:=⟨_,rfl⟩
 have hb2:Below w1.heap.size w1 W2:=by rw [← hW2];exact (Below.refl _ _).alloc (Nat.le_refl _) _
 have HBB:=Lib.hid (hb1.trans (hb2.mono hb1.size))
 have c0:W2.cell? ⟨w1.heap.size,0,none⟩ = some (.int .i64 o.kind):=by rw [← hW2];exact (ob_cells w1 _ _ _).1
 have c1:W2.cell? ⟨w1.heap.size,1,none⟩ = some (.string o.body):=by rw [← hW2];exact (ob_cells w1 _ _ _).2
 have HW2:=Lib.hid hW2
 have hs1:w.heap.size + 1 + 1 < w1.heap.size:=by have:=hb1.size;have:=HSW.out;omega
 clear hb1 hb2 hW2 ho
 unfold obC
 have HZS:Hid (zs = (cmC zid (.slice none 0 0) ⟨#[]⟩).toArray):=Lib.hid HZ0.out
 obtain ⟨cz,hcz⟩:∃ cz,cmC zid (.slice none 0 0) ⟨#[]⟩ = cz:=⟨_,rfl⟩
 rw [HZS.out,hcz] at hz hbu
 rw [hcz] at h34z HCL HON
 have HCZ:=Lib.hid hcz
 clear hcz
 have HFN:Hid (∀ w3,Below W.heap.size W w3 → cmG (getS l) x = none → (w3.setCells (w.heap.size + 1 + 1) 0 cz).rangeAt (w.heap.size + 1 + 1) 0 cz ∧ RcmFr (cmG (getS l)) x w (.returned (.tuple #[.agg cz.toArray,.bool false])) (w3.setCells (w.heap.size + 1 + 1) 0 cz)):=Lib.hid (fun w3 hb hn => by
  obtain ⟨k1,k2⟩:=HST.out w3 cz HCL.out hb
  refine ⟨k1,?_⟩
  rw [← HCZ.out] at k2 ⊢
  exact HNO.out _ hn k2 _ ⟨none,0,rfl,by simp,fun h => absurd rfl h⟩ (fun k hk => by cases hk))
 have HTBX:Hid ((w1.alloc (.cells #[.int .i64 o.kind,.string o.body] 93)).there (w.heap.size + 1 + 1) 0 34):=Lib.hid (by rw [HW2.out];exact HTB.out _ HBB.out)
 cases r with
 | none =>
  have HC:Hid (cmG (getS l) x = none):=Lib.hid HCM.out
  clear HSM HCM HYES HST
  go_wp2_with (refine wpList_store_list rfl 97 _ _ rfl (w.heap.size + 1 + 1) 0 cz rfl rfl 34 HCL.out HTBX.out h34 HON.out ?_)
  rw [HW2.out]
  refine ret_cell2 rfl (w.heap.size + 1 + 1) 0 rfl _ _ (HFN.out _ HBB.out HC.out).1 Tryz.underlying97 rfl h34z rfl _ rfl ?_
  exact (HFN.out _ HBB.out HC.out).2
 | some o' =>
  have HOO:Hid (o' = o):=Lib.hid HO.out
  by_cases h3:o.kind = 3
  ·have d3:(o.kind != 3) = false:=by rw [h3];rfl
   have HC:Hid (cmG (getS l) x = match commitOf o.body with | some c => some ⟨c.1,c.2.1,c.2.2⟩ | none => none):=Lib.hid (by rw [HCM.out,HOO.out];dsimp only;rw [if_pos h3])
   have HRC:=Lib.hid (rcommit_fr o.body W2 (by have:=HSM.out o' rfl;rw [HOO.out] at this;omega))
   have HTL:Hid (∀ t p s,commitOf o.body = some (t,p,s) → t.length = 32):=Lib.hid (fun t p s h => (commitOf_len h).1)
   have HBB2:Hid (w.heap.size + 1 + 1 < W2.heap.size):=Lib.hid (by have:=HBB.out.size;have:=HSW.out;omega)
   clear HSM HCM h3
   generalize commitOf o.body = r' at HC HRC HTL
   go_wp2_with fail
   rw [HW2.out]
   refine HRC.out.mono ?_
   rintro e w3 ⟨v,rfl,hrow,hfr,hb3⟩
   have HB3:=Lib.hid (HBB.out.trans (hb3.mono HBB.out.size))
   have HROW:=Lib.hid hrow
   have HFR:=Lib.hid hfr
   clear hb3 hrow hfr HRC
   cases r' with
   | none =>
    have HC2:Hid (cmG (getS l) x = none):=Lib.hid HC.out
    have HIR:Hid (IdRow w3 v []):=Lib.hid HROW.out
    dsimp only [Option.getD_none,Option.isSome_none]
    obtain ⟨cs,hcs⟩:∃ cs,cmC zid v ⟨#[]⟩ = cs:=⟨_,rfl⟩
    have h34s:(Tryz.prog.info? 97).map (·.size) = some cs.length:=by rw [← hcs,cmC_len _ _ _ zid_len];exact h34
    obtain ⟨ao,cap,rfl,_⟩:=HIR.out
    have HSL:Hid (cs.length = 34):=Lib.hid (by rw [← hcs];exact cmC_len _ _ _ zid_len)
    have HSO:Hid (∀ u ∈ cs,u.oneCell' = true):=Lib.hid (by rw [← hcs];exact cmC_one _ _ _ _ _)
    have HEND:Hid ((w3.setCells (w.heap.size + 1 + 1) 0 cs).rangeAt (w.heap.size + 1 + 1) 0 cs ∧ RcmFr (cmG (getS l)) x w (.returned (.tuple #[.agg cs.toArray,.bool false])) (w3.setCells (w.heap.size + 1 + 1) 0 cs)):=Lib.hid (by
     obtain ⟨k1,k2⟩:=HST.out w3 cs HSL.out HB3.out
     refine ⟨k1,?_⟩
     rw [← hcs] at k2 ⊢
     exact HNO.out _ HC2.out k2 _ ⟨ao,cap,rfl,by simp,fun h => absurd rfl h⟩ (fun k hk => by have h1:=HFR.out k hk;have h2:=HBB2.out;omega))
    rw [hcs]
    have HTB3:=Lib.hid (HTB.out w3 HB3.out)
    clear hcs HC HROW
    go_wp2_with (refine wpList_store_list rfl 97 _ _ rfl (w.heap.size + 1 + 1) 0 cs rfl rfl 34 HSL.out HTB3.out h34 HSO.out ?_)
    refine ret_cell2 rfl (w.heap.size + 1 + 1) 0 rfl _ _ HEND.out.1 Tryz.underlying97 rfl h34s rfl _ rfl ?_
    exact HEND.out.2
   | some c =>
    obtain ⟨t,p,s⟩:=c
    have HC2:Hid (cmG (getS l) x = some ⟨t,p,s⟩):=Lib.hid HC.out
    have htl:t.length = 32:=HTL.out t p s rfl
    dsimp only [Option.getD_some,Option.isSome_some]
    have hir:IdRow w3 v p:=HROW.out
    obtain ⟨ao,cap,rfl,_⟩:=hir.flat0
    obtain ⟨cs,hcs⟩:∃ cs,cmC t (.slice ao p.length cap) s = cs:=⟨_,rfl⟩
    have h34s:(Tryz.prog.info? 97).map (·.size) = some cs.length:=by rw [← hcs,cmC_len _ _ _ htl];exact h34
    have HSL:Hid (cs.length = 34):=Lib.hid (by rw [← hcs];exact cmC_len _ _ _ htl)
    have HSO:Hid (∀ u ∈ cs,u.oneCell' = true):=Lib.hid (by rw [← hcs];exact cmC_one _ _ _ _ _)
    have HEND:Hid ((w3.setCells (w.heap.size + 1 + 1) 0 cs).rangeAt (w.heap.size + 1 + 1) 0 cs ∧ RcmFr (cmG (getS l)) x w (.returned (.tuple #[.agg cs.toArray,.bool true])) (w3.setCells (w.heap.size + 1 + 1) 0 cs)):=Lib.hid (by
     obtain ⟨k1,k2⟩:=HST.out w3 cs HSL.out HB3.out
     refine ⟨k1,?_⟩
     have hir2:IdRow (w3.setCells (w.heap.size + 1 + 1) 0 cs) (.slice ao p.length cap) p:=hir.grown (grownBy_setCells w3 (w.heap.size + 1 + 1) 0 cs) (.inr fun g hg e => by
      have h1:=HFR.out g hg
      have h2:=Option.some.inj e
      have h3:=HBB2.out
      omega)
     rw [← hcs] at k2 hir2 ⊢
     exact HYES.out _ t p s _ HC2.out hir2 k2 (fun k hk => by have h1:=HFR.out k hk;have h2:=HBB2.out;omega))
    rw [hcs]
    have HTB3:=Lib.hid (HTB.out w3 HB3.out)
    clear hcs HC HROW hir
    go_wp2_with (refine wpList_store_list rfl 97 _ _ rfl (w.heap.size + 1 + 1) 0 cs rfl rfl 34 HSL.out HTB3.out h34 HSO.out ?_)
    refine ret_cell2 rfl (w.heap.size + 1 + 1) 0 rfl _ _ HEND.out.1 Tryz.underlying97 rfl h34s rfl _ rfl ?_
    exact HEND.out.2
  ·have d3:(o.kind != 3) = true:=by rw [bne_iff_ne];exact h3
   have HC:Hid (cmG (getS l) x = none):=Lib.hid (by rw [HCM.out,HOO.out];dsimp only;rw [if_neg h3])
   clear HSM HCM HYES HST h3
   go_wp2_with (refine wpList_store_list rfl 97 _ _ rfl (w.heap.size + 1 + 1) 0 cz rfl rfl 34 HCL.out HTBX.out h34 HON.out ?_)
   rw [HW2.out]
   refine ret_cell2 rfl (w.heap.size + 1 + 1) 0 rfl _ _ (HFN.out _ HBB.out HC.out).1 Tryz.underlying97 rfl h34z rfl _ rfl ?_
   exact (HFN.out _ HBB.out HC.out).2
theorem rcmt_any (vl vi:Value) (l:List Ob) (x:Idl) (w:World) (hs:SrcRow w (.agg #[vl,vi]) l) (hx:x.length = 32) :
  Calls Tryz.prog 60 #[.agg #[vl,vi],.agg (idC x).toArray] w (RcmAns (cmG (getS l)) x w) :=
 (rcmt_fr vl vi l x w hs hx).mono fun _ _ ⟨v,h1,h2,h3,_⟩ => ⟨v,h1,h2,h3⟩
end Go.Proofs.YtbmiiiccnoiffaaGreatDoor
namespace Go.Proofs.YtbmiiiccnoiffaaGreatDoor
open Go.RowKit
theorem same_end {l m:List Idl} {k:Nat} (hl:l.length = m.length) (h:∀ i,i < k → l[i]? = m[i]?) (hk:l.length ≤ k):l = m:=by
 apply List.ext_getElem? 
 intro i
 by_cases hi:i < k
 ·exact h i hi
 ·rw [List.getElem?_eq_none (by omega),List.getElem?_eq_none (by omega)]
set_option maxRecDepth 100000 in
set_option maxHeartbeats 2000000 in
theorem rsameids_any (va vb:Value) (l m:List Idl) (w:World) (ha:IdRow w va l) (hb:IdRow w vb m) (hl:∀ x ∈ l,x.length = 32) (hm:∀ x ∈ m,x.length = 32) :
  Calls Tryz.prog 26 #[va,vb] w fun e w' => e = .returned (.bool (decide (l = m))) ∧ Below w.heap.size w w':=by
 obtain ⟨ao,ca,rfl,hma,hca⟩:=ha.open
 obtain ⟨bo,cb,rfl,hmb,hcb⟩:=hb.open
 unfold maxLen at hma hmb
 have HA:=Lib.hid hca
 have HB:=Lib.hid hcb
 have HL:=Lib.hid hl
 have HM:=Lib.hid hm
 clear ha hb hl hm hca hcb
 by_cases hlen:l.length = m.length
 ·have d0:((l.length:Int) != (m.length:Int)) = false:=by rw [hlen];simp
  have HLEN:=Lib.hid hlen
  clear hlen
  go_enter Tryz.func26,Tryz.ntmps26
  go_wp2
  go_loopw [5] (fun i wr => ∃ k:Nat,i = .int .i64 k ∧ k ≤ l.length ∧ (∀ j,j < k → l[j]? = m[j]?) ∧ Below w.heap.size w wr) (fun i _ => (l.length - intOf i).toNat)
  case atStart => exact ⟨0,rfl,by omega,fun j hj => absurd hj (by omega),Below.refl _ _⟩
  case round =>
   obtain ⟨wi,rfl⟩:∃ wi:World,wi = wr:=⟨_,rfl⟩
   obtain ⟨k,rfl,hk,hno,hb⟩:=hrel
   have HNO:=Lib.hid hno
   have HBI:=Lib.hid hb
   have hsz:=hb.size
   by_cases hlt:k < l.length
   ·have hltm:k < m.length:=by rw [← HLEN.out];exact hlt
    obtain ⟨b1,o1,rfl,hb1,hc1⟩:=HA.out (by intro e;rw [e] at hlt;simp at hlt)
    obtain ⟨b2,o2,rfl,hb2,hc2⟩:=HB.out (by intro e;rw [e] at hltm;simp at hltm)
    have f1:=rangeAt_below (hc1 k hlt) hb hb1
    have f2:=rangeAt_below (hc2 k hltm) hb hb2
    obtain ⟨x,hx⟩:∃ x,l[k] = x:=⟨_,rfl⟩
    obtain ⟨y,hy⟩:∃ y,m[k] = y:=⟨_,rfl⟩
    rw [hx] at f1
    rw [hy] at f2
    have hxl:x.length = 32:=by rw [← hx];exact HL.out _ (List.getElem_mem hlt)
    have hyl:y.length = 32:=by rw [← hy];exact HM.out _ (List.getElem_mem hltm)
    have h32x:=h32_of (us:=idC x) (by rw [idC_len,hxl])
    have h32y:=h32_of (us:=idC y) (by rw [idC_len,hyl])
    have heq:=id_eqIn x y hxl hyl
    have HXK:Hid (l[k]? = some x ∧ m[k]? = some y):=Lib.hid ⟨by rw [List.getElem?_eq_getElem hlt,hx],by rw [List.getElem?_eq_getElem hltm,hy]⟩
    have HXY:Hid ((x == y) = decide (x = y)):=Lib.hid (by by_cases h:x = y <;> simp [h])
    have k0:(0:Int) ≤ k:=by omega
    have k1:(k:Int) < l.length:=by omega
    have k2:(k:Int) < m.length:=by omega
    have d1:decide ((k:Int) < l.length) = true:=decide_eq_true k1
    clear hc1 hc2 hx hy hxl hyl hno hb
    generalize idC x = ux at f1 h32x heq
    generalize idC y = uy at f2 h32y heq
    generalize (x == y) = exy at heq HXY
    cases exy with
    | true =>
     have hxy:x = y:=of_decide_eq_true HXY.out.symm
     have HNX:Hid (∀ j,j < k + 1 → l[j]? = m[j]?):=Lib.hid (fun j hj => by
      by_cases e:j = k
      ·subst e;rw [HXK.out.1,HXK.out.2,hxy]
      ·exact HNO.out j (by omega))
     clear hxy
     go_wp2
     refine wp_region_bq (by kernel_rfl) (by kernel_rfl) ?_
     repeat (go_big_quiet_step (fail))
     refine bq_row 24 _ _ rfl rfl rfl f1 (by omega) Tryz.underlying24 rfl h32x ?_
     simp only [Act.put,List.setIfInBounds_toArray,List.set_cons_zero,List.set_cons_succ]
     repeat (go_big_quiet_step (fail))
     refine bq_row 24 _ _ rfl rfl rfl f2 (by omega) Tryz.underlying24 rfl h32y ?_
     simp only [Act.put,List.setIfInBounds_toArray,List.set_cons_zero,List.set_cons_succ]
     repeat (go_big_quiet_step (fail))
     refine wpQuiet_nil ?_
     intro wq hbq
     have HBQ:=Lib.hid (HBI.out.trans (hbq.mono hsz))
     clear hbq f1 f2 heq
     go_wp2
     go_roundw
     case rel => exact ⟨k + 1,by go_num,by omega,HNX.out,HBQ.out⟩
     case measure => simp [intOf];omega
    | false =>
     have hxy:x ≠ y:=of_decide_eq_false HXY.out.symm
     have HN:Hid (decide (l = m) = false):=Lib.hid (decide_eq_false (fun e => by
      have h1:=HXK.out.1
      rw [e,HXK.out.2] at h1
      exact hxy (Option.some.inj h1).symm))
     clear hxy
     go_wp2
     refine wp_region_bq (by kernel_rfl) (by kernel_rfl) ?_
     repeat (go_big_quiet_step (fail))
     refine bq_row 24 _ _ rfl rfl rfl f1 (by omega) Tryz.underlying24 rfl h32x ?_
     simp only [Act.put,List.setIfInBounds_toArray,List.set_cons_zero,List.set_cons_succ]
     repeat (go_big_quiet_step (fail))
     refine bq_row 24 _ _ rfl rfl rfl f2 (by omega) Tryz.underlying24 rfl h32y ?_
     simp only [Act.put,List.setIfInBounds_toArray,List.set_cons_zero,List.set_cons_succ]
     repeat (go_big_quiet_step (fail))
     refine wpQuiet_nil ?_
     intro wq hbq
     have HBQ:=Lib.hid (HBI.out.trans (hbq.mono hsz))
     clear hbq f1 f2 heq
     go_wp2
     go_ret
     exact ⟨by rw [HN.out];rfl,HBQ.out⟩
   ·have HY:Hid (decide (l = m) = true):=Lib.hid (decide_eq_true (same_end HLEN.out HNO.out (by omega)))
    have d1:decide ((k:Int) < l.length) = false:=decide_eq_false (by omega)
    clear hno hb
    go_wp2
    go_ret
    exact ⟨by rw [HY.out];rfl,HBI.out⟩
 ·have hne:(l.length:Int) ≠ m.length:=by omega
  have d0:((l.length:Int) != (m.length:Int)) = true:=by rw [bne_iff_ne];exact hne
  have HN:Hid (decide (l = m) = false):=Lib.hid (decide_eq_false (fun e => hlen (by rw [e])))
  clear hlen hne
  go_enter Tryz.func26,Tryz.ntmps26
  go_wp2
  go_ret
  exact ⟨by rw [HN.out];rfl,Below.refl _ _⟩
end Go.Proofs.YtbmiiiccnoiffaaGreatDoor

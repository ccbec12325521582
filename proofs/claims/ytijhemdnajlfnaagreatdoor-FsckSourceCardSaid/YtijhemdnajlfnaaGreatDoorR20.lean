/- A part of this claim. -/
import Derived.Maps.OwnOps
import Derived.Maps.OwnSet
import Derived.Maps.RangeWalk
import Derived.Test.YtijhemdnajlfnaaGreatDoorR1
import Derived.Test.YtijhemdnajlfnaaGreatDoorR14
import Derived.WideKeyArr
namespace Go.Proofs.YtijhemdnajlfnaaGreatDoor
open Tryz
set_option maxHeartbeats 64000000
set_option maxRecDepth 100000
section
open Go.RowKit Go.Maps Go.WideMaps
theorem mapM_some {α β:Type} (f:α → Option β) (g:α → β):∀ l:List α,(∀ i ∈ l,f i = some (g i)) → l.mapM f = some (l.map g)
 | [],_ => rfl
 | a :: l,h => by
  rw [List.mapM_cons,h a (by simp),mapM_some f g l (fun i hi => h i (List.mem_cons_of_mem _ hi))];rfl
theorem Ou:ArrKey prog 24 5 32:=⟨underlying24,by kernel_rfl,by kernel_rfl,by kernel_rfl⟩
theorem qb:Keyed prog 24:=Keyed.of_law (ArrKey.law Ou)
theorem Eb:∃ m,prog.types.size = m + 1:=⟨prog.types.size - 1,by kernel_rfl⟩
theorem JI (d:Nat) (b:UInt8):Program.keyLits prog (d + 1) 5 [Value.int .u8 (b.toNat:Int)] = some [.int .u8 (b.toNat:Int)]:=by
 have hw:(Lit.int .u8 (b.toNat:Int)).wf = true:=by
  have:=b.toNat_lt
  simp only [Lit.wf,Bool.and_eq_true,decide_eq_true_eq]
  have e1:IntKind.u8.min = 0:=by decide
  have e2:IntKind.u8.max = 255:=by decide
  rw [e1,e2];omega
 unfold Program.keyLits
 rw [underlying5]
 simp [hw]
theorem LZ (x:List UInt8) (hx:x.length = 32):∃ l,keyOf prog 24 (.agg (idC x).toArray) = some l:=by
 have hkt:=Ou.keyType Eb
 obtain ⟨m,hm⟩:=Eb
 have hl:(idC x).length = 32:=by rw [aD,hx]
 have hc32:Program.cellsOf prog 24 = 32:=by kernel_rfl
 have hc1:Program.cellsOf prog 5 = 1:=by kernel_rfl
 have hform:Value.formed prog 24 (.agg (idC x).toArray) = true:=by
  unfold Value.formed
  rw [underlying24]
  simp [hl,hc32]
 obtain ⟨mm,rfl⟩:∃ mm,m = mm + 1:=⟨m - 1,by
  have:1 < prog.types.size:=of_decide_eq_true (by kernel_rfl)
  omega⟩
 have hlits:∃ ls,Program.keyLits prog (prog.types.size + 1) 24 (idC x) = some ls:=by
  rw [hm]
  unfold Program.keyLits
  rw [underlying24]
  dsimp only
  rw [if_pos (by rw [hl,hc32]),hc1]
  rw [mapM_some _ (fun i => [Lit.int .u8 ((x.getD i 0).toNat:Int)])]
  ·exact ⟨_,rfl⟩
  intro i hi
  have hi:=List.mem_range.1 hi
  have e:((idC x).drop (i * 1)).take 1 = [Value.int .u8 ((x.getD i 0).toNat:Int)]:=by
   rw [Nat.mul_one]
   have hix:i < x.length:=by omega
   have hic:i < (idC x).length:=by omega
   rw [List.drop_eq_getElem_cons hic]
   simp [idC,hix]
  rw [e];exact JI _ _
 obtain ⟨ls,hls⟩:=hlits
 unfold keyOf
 rw [underlying24]
 dsimp only
 rw [if_pos (by rw [hkt,hform];rfl)]
 exact ⟨_,by show ((Program.keyLits prog _ _ (idC x).toArray.toList).map _) = _;rw [List.toList_toArray,hls];rfl⟩
noncomputable def keyI (x:List UInt8):Lit:=(keyOf prog 24 (.agg (idC x).toArray)).getD .nil
theorem pY {x:List UInt8} (hx:x.length = 32):keyOf prog 24 (.agg (idC x).toArray) = some (keyI x):=by
 obtain ⟨l,hl⟩:=LZ x hx
 unfold keyI;rw [hl];rfl
theorem GK:∀ {x y:List UInt8},idC x = idC y → x = y
 | [],[],_ => rfl
 | [],_ :: _,h => by simp [idC] at h
 | _ :: _,[],h => by simp [idC] at h
 | a :: x,b :: y,h => by
  unfold idC at h
  simp only [List.map_cons,List.cons.injEq] at h
  obtain ⟨h1,h2⟩:=h
  injection h1 with _ h3
  rw [GK (x:=x) (y:=y) h2,UInt8.toNat_inj.1 (show a.toNat = b.toNat by omega)]
theorem L8 {x y:List UInt8} (hx:x.length = 32) (hy:y.length = 32) (h:keyI x = keyI y):x = y:=by
 have h2:=qb.inj ((pY hx).trans (congrArg some h)) (pY hy)
 injection h2 with h3
 exact GK (by injection h3)
def je (v:Value):Option (DataW Value × List MemPlace):=some (.held v,[])
def small (k:Nat):Prop:=k < 1000000000
def keyN (k:Nat):Lit:=.int .i64 (k:Int)
theorem vO:Keyed prog 3:=int_keyed underlying3
theorem NN {k:Nat} (hk:small k):(Lit.int .i64 (k:Int)).wf = true:=by
 have h1:IntKind.min .i64 = -9223372036854775808:=by decide
 have h2:IntKind.max .i64 = 9223372036854775807:=by decide
 unfold small at hk
 show (decide (IntKind.min .i64 ≤ (k:Int)) && decide ((k:Int) ≤ IntKind.max .i64)) = true
 rw [h1,h2,Bool.and_eq_true,decide_eq_true_eq,decide_eq_true_eq]
 omega
theorem AP {k:Nat} (hk:small k):keyOf prog 3 (.int .i64 (k:Int)) = some (keyN k):=keyOf_int_mk underlying3 (NN hk)
theorem L6 {x y:Nat} (h:keyN x = keyN y):x = y:=by unfold keyN at h;injection h with _ h;omega
section
variable {α:Type} {enc:α → Value}
def Hg (enc:α → Value) (D:DataW Value) (f:Nat → Option α):Prop :=
 ∀ x,small x → Maps.has D (keyN x) = (f x).isSome ∧ ∀ o,f x = some o → ∀ zd,D.atKey (keyN x) zd = .held (enc o)
def MapN (enc:α → Value) (w:World) (b n:Nat) (f:Nat → Option α):Prop:=∃ D:DataW Value,w.ownsMap prog 3 je b n D ∧ Hg enc D f
theorem Em:Hg enc (.map []) fun _ => none:=fun _ _ => ⟨rfl,fun _ h => by cases h⟩
theorem Iy {D:DataW Value} {f:Nat → Option α} (h:Hg enc D f) (hm:IsMap D) (p:Nat) (hp:small p) (o:α):Hg enc (D.put (keyN p) (.held (enc o))) fun q => if q = p then some o else f q:=by
 intro q hq
 show has _ _ = (if q = p then some o else f q).isSome ∧ ∀ t,(if q = p then some o else f q) = some t → ∀ zd,_ = _
 have hk:=vO.key (AP hp)
 by_cases e:q = p
 ·subst e
  rw [if_pos rfl]
  exact ⟨by rw [has_put_same hm hk];rfl,fun t ht zd => by cases ht;exact atKey_put_same hm hk _ _⟩
 rw [if_neg e]
 have hne:keyN q ≠ keyN p:=fun h => e (L6 h)
 exact ⟨by rw [has_put_other hne];exact (h q hq).1,fun t ht zd => by rw [atKey_put_other hne];exact (h q hq).2 t ht zd⟩
theorem MapN.lt {w:World} {b n:Nat} {f:Nat → Option α} (h:MapN enc w b n f):b < w.heap.size:=by obtain ⟨D,h,_⟩:=h;exact h.lt
theorem MapN.heap {w w':World} {b n:Nat} {f:Nat → Option α} (h:MapN enc w b n f) (hb:w'.heap[b]? = w.heap[b]?):MapN enc w' b n f:=by
 obtain ⟨D,⟨es,clock,h1,h2⟩,h3⟩:=h
 exact ⟨D,⟨es,clock,hb.trans h1,h2⟩,h3⟩
theorem MapN.below {w w':World} {b n B:Nat} {f:Nat → Option α} (h:MapN enc w b n f) (hb:Below B w w') (hB:b < B):MapN enc w' b n f:=h.heap (hb.block b hB)
theorem MapN.on {w w':World} {b n:Nat} {f:Nat → Option α} (h:MapN enc w b n f) (hb:Below w.heap.size w w'):MapN enc w' b n f:=h.below hb h.lt
theorem MapN.grown {w w':World} {b n:Nat} {f:Nat → Option α} {row:Option Nat} (h:MapN enc w b n f) (hg:w.grownBy w' row) (hne:some b ≠ row):MapN enc w' b n f:=h.heap (hg.block b h.lt hne)
theorem JB (w:World):MapN enc (w.alloc (.map #[] 0)) w.heap.size 0 fun _ => none:=⟨_,World.ownsMap_made _ _ _ _,Em⟩
theorem MapN.look {w:World} {t e:TypeId} (ht:prog.underlying t = some (.map 3 e)) {z:Value} (hz:(zeroValue e).run prog w = .ok z w) {b n:Nat} {f:Nat → Option α} (h:MapN enc w b n f) {x:Nat} (hx:small x) :
  (Instr.lookup t (.map (some b)) (.int .i64 (x:Int)) false).run prog w = .ok (((f x).map enc).getD z) w:=by
 obtain ⟨D,hown,hs⟩:=h
 obtain ⟨v,ps,hrun,hv⟩:=hown.lookup vO ht hz (zd:=.held z) (zp:=[]) rfl (AP hx)
 rw [hrun]
 obtain ⟨h1,h2⟩:=hs x hx
 have hv2:D.atKey (keyN x) (.held z) = .held v:=by
  unfold je at hv
  injection hv with hv
  exact (congrArg Prod.fst hv).symm
 cases e:f x with
 | none =>
  rw [e] at h1
  rw [atKey_of_not_has h1] at hv2
  injection hv2 with h
  rw [← h];rfl
 | some o =>
  rw [h2 o e] at hv2
  injection hv2 with h
  rw [← h];rfl
theorem gG {w:World} {ops:Array Oper} {rest:List Oper} {o:Oper} {a:Act} {Q:Exit → Act → World → Prop} (hg:o.guard = none) (m x v:Operand) (t e:TypeId) (hop:o.op = Op.mapUpdate t m x v)
  (ht:prog.underlying t = some (.map 3 e)) (b n:Nat) (f:Nat → Option α) (hm:a.eval m = .map (some b)) (hown:MapN enc w b n f) (p:Nat) (hp:small p) (c:α) (hx:a.eval x = .int .i64 (p:Int)) (hv:a.eval v = enc c) (hn:n < maxLen)
  (hK:∀ w',MapN enc w' b (n + 1) (fun q => if q = p then some c else f q) → w.grownBy w' (some b) → wpList prog ops Q rest (a.put o.dst undef) w'):wpList prog ops Q (o :: rest) a w:=by
 obtain ⟨D,hown,hD⟩:=hown
 exact wpList_mapUpdate_own w hg m x v t hop 3 e vO ht je b n D hm hown hn (.int .i64 (p:Int)) (enc c) (keyN p) hx hv (AP hp) _ [] rfl fun w' h1 h2 => hK w' ⟨_,h1,Iy hD hown.isMap p hp c⟩ h2
end
theorem CV {α β:Type} (f:α → Option β):∀ (l:List α) (r:List β),l.mapM f = some r → ∀ a ∈ l,∃ y,f a = some y
 | [],_,_,a,ha => by cases ha
 | b :: l,r,h,a,ha => by
  rw [List.mapM_cons] at h
  cases hb:f b with
  | none => rw [hb] at h;cases h
  | some y =>
   rw [hb] at h
   rcases List.mem_cons.1 ha with rfl | ha
   ·exact ⟨y,hb⟩
   cases hl:l.mapM f with
   | none => rw [hl] at h;cases h
   | some r' => exact CV f l r' hl a ha
theorem M6 {d:Nat} {v:Value} {ls:List Lit} (h:Program.keyLits prog (d + 1) 5 [v] = some ls):∃ b:UInt8,v = .int .u8 (b.toNat:Int):=by
 unfold Program.keyLits at h
 rw [underlying5] at h
 cases v with
 | int q n =>
  dsimp only at h
  by_cases hc:q = .u8 ∧ (Lit.int .u8 n).wf = true
  ·obtain ⟨rfl,hw⟩:=hc
   simp only [Lit.wf,Bool.and_eq_true,decide_eq_true_eq] at hw
   have e1:IntKind.u8.min = 0:=by decide
   have e2:IntKind.u8.max = 255:=by decide
   rw [e1,e2] at hw
   refine ⟨UInt8.ofNat n.toNat,?_⟩
   have:(UInt8.ofNat n.toNat).toNat = n.toNat:=by
    rw [UInt8.toNat_ofNat'];omega
   rw [this]
   congr 1
   omega
  rw [if_neg hc] at h;cases h
 | _ => cases h
theorem Mi:∀ cs:List Value,(∀ v ∈ cs,∃ b:UInt8,v = .int .u8 (b.toNat:Int)) → ∃ x,idC x = cs
 | [],_ => ⟨[],rfl⟩
 | v :: cs,h => by
  obtain ⟨b,rfl⟩:=h v (by simp)
  obtain ⟨x,hx⟩:=Mi cs fun v hv => h v (List.mem_cons_of_mem _ hv)
  exact ⟨b :: x,by rw [← hx];rfl⟩
theorem AO {v:Value} {kl:Lit} (h:keyOf prog 24 v = some kl):∃ x:List UInt8,x.length = 32 ∧ v = .agg (idC x).toArray:=by
 have hc32:Program.cellsOf prog 24 = 32:=by kernel_rfl
 have hc1:Program.cellsOf prog 5 = 1:=by kernel_rfl
 obtain ⟨m,hm⟩:=Eb
 obtain ⟨mm,rfl⟩:∃ mm,m = mm + 1:=⟨m - 1,by
  have:1 < prog.types.size:=of_decide_eq_true (by kernel_rfl)
  omega⟩
 unfold keyOf at h
 rw [underlying24] at h
 dsimp only at h
 split at h
 ·rename_i hf
  rw [Bool.and_eq_true] at hf
  have hf2:=hf.2
  unfold Value.formed at hf2
  rw [underlying24] at hf2
  cases v with
  | agg cs =>
   dsimp only at hf2
   have hs:cs.size = 32:=by rw [hc32] at hf2;simpa using hf2
   cases hk:Program.keyLits prog (prog.types.size + 1) 24 (Value.agg cs).cells.toList with
   | none => rw [hk] at h;cases h
   | some ls =>
    rw [hm] at hk
    unfold Program.keyLits at hk
    rw [underlying24] at hk
    dsimp only at hk
    have hl:(Value.agg cs).cells.toList.length = 32:=by show cs.toList.length = 32;simpa using hs
    rw [if_pos (by rw [hl,hc32]),hc1] at hk
    cases hmm:(List.range 32).mapM fun i => Program.keyLits prog (mm + 1 + 1) 5 (((Value.agg cs).cells.toList.drop (i * 1)).take 1) with
    | none => rw [hmm] at hk;cases hk
    | some r =>
     have key:∀ v ∈ cs.toList,∃ b:UInt8,v = .int .u8 (b.toNat:Int):=fun v hv => by
      obtain ⟨i,hi,rfl⟩:=List.getElem_of_mem hv
      obtain ⟨y,hy⟩:=CV _ _ _ hmm i (List.mem_range.2 (by simpa [hs] using hi))
      have e:((Value.agg cs).cells.toList.drop (i * 1)).take 1 = [cs.toList[i]]:=by
       show (cs.toList.drop (i * 1)).take 1 = _
       rw [Nat.mul_one,List.drop_eq_getElem_cons hi];rfl
      rw [e] at hy
      exact M6 hy
     obtain ⟨x,hx⟩:=Mi _ key
     refine ⟨x,?_,?_⟩
     ·rw [← aD x,hx];simpa using hs
     rw [hx]
  | _ => cases hf2
 cases h
section
variable {α:Type} {enc:α → Value}
def Ng (enc:α → Value) (D:DataW Value) (f:Idl → Option α):Prop :=
 ∀ x,x.length = 32 → Maps.has D (keyI x) = (f x).isSome ∧ ∀ o,f x = some o → ∀ zd,D.atKey (keyI x) zd = .held (enc o)
def MapG (enc:α → Value) (w:World) (b n:Nat) (f:Idl → Option α):Prop:=∃ D:DataW Value,w.ownsMap prog 24 je b n D ∧ Ng enc D f
theorem En:Ng enc (.map []) fun _ => none:=fun _ _ => ⟨rfl,fun _ h => by cases h⟩
theorem MapG.lt {w:World} {b n:Nat} {f:Idl → Option α} (h:MapG enc w b n f):b < w.heap.size:=by obtain ⟨D,h,_⟩:=h;exact h.lt
theorem MapG.heap {w w':World} {b n:Nat} {f:Idl → Option α} (h:MapG enc w b n f) (hb:w'.heap[b]? = w.heap[b]?):MapG enc w' b n f:=by
 obtain ⟨D,⟨es,clock,h1,h2⟩,h3⟩:=h
 exact ⟨D,⟨es,clock,hb.trans h1,h2⟩,h3⟩
theorem MapG.below {w w':World} {b n B:Nat} {f:Idl → Option α} (h:MapG enc w b n f) (hb:Below B w w') (hB:b < B):MapG enc w' b n f:=h.heap (hb.block b hB)
theorem MapG.on {w w':World} {b n:Nat} {f:Idl → Option α} (h:MapG enc w b n f) (hb:Below w.heap.size w w'):MapG enc w' b n f:=h.below hb h.lt
theorem MapG.grown {w w':World} {b n:Nat} {f:Idl → Option α} {row:Option Nat} (h:MapG enc w b n f) (hg:w.grownBy w' row) (hne:some b ≠ row):MapG enc w' b n f:=h.heap (hg.block b h.lt hne)
theorem JC (w:World):MapG enc (w.alloc (.map #[] 0)) w.heap.size 0 fun _ => none:=⟨_,World.ownsMap_made _ _ _ _,En⟩
theorem MapG.ext {w:World} {b n:Nat} {f g:Idl → Option α} (h:MapG enc w b n f) (hfg:∀ x,x.length = 32 → f x = g x):MapG enc w b n g:=by
 obtain ⟨D,h1,h2⟩:=h
 exact ⟨D,h1,fun x hx => by rw [← hfg x hx];exact h2 x hx⟩
theorem MapG.look {w:World} {t e:TypeId} (ht:prog.underlying t = some (.map 24 e)) {z:Value} (hz:(zeroValue e).run prog w = .ok z w) {b n:Nat} {f:Idl → Option α} (h:MapG enc w b n f) {x:Idl} (hx:x.length = 32) :
  (Instr.lookup t (.map (some b)) (.agg (idC x).toArray) false).run prog w = .ok (((f x).map enc).getD z) w:=by
 obtain ⟨D,hown,hs⟩:=h
 obtain ⟨v,ps,hrun,hv⟩:=hown.lookup qb ht hz (zd:=.held z) (zp:=[]) rfl (pY hx)
 rw [hrun]
 obtain ⟨h1,h2⟩:=hs x hx
 have hv2:D.atKey (keyI x) (.held z) = .held v:=by
  unfold je at hv
  injection hv with hv
  exact (congrArg Prod.fst hv).symm
 cases e:f x with
 | none =>
  rw [e] at h1
  rw [atKey_of_not_has h1] at hv2
  injection hv2 with h
  rw [← h];rfl
 | some o =>
  rw [h2 o e] at hv2
  injection hv2 with h
  rw [← h];rfl
structure gy (enc:α → Value) (w:World) (b r n:Nat) (f:Idl → Option α) (L:List Idl):Prop where
 run:∃ (D:DataW Value) (left:Lit → Bool) (cnt:Nat),w.ranges prog 24 je b r n D left cnt ∧ Ng enc D f ∧ ∀ x,x.length = 32 → (left (keyI x) = true ↔ x ∈ L)
 nodup:L.Nodup
 len:∀ x ∈ L,x.length = 32
 there:∀ x ∈ L,(f x).isSome = true
theorem gy.map {w:World} {b r n:Nat} {f:Idl → Option α} {L:List Idl} (h:gy enc w b r n f L):MapG enc w b n f:=by
 obtain ⟨D,left,cnt,h1,h2,_⟩:=h.run
 exact ⟨D,h1.owns,h2⟩
theorem gy.lt {w:World} {b r n:Nat} {f:Idl → Option α} {L:List Idl} (h:gy enc w b r n f L):r < w.heap.size:=by
 obtain ⟨D,left,cnt,h1,_⟩:=h.run;exact h1.lt
theorem gy.heap {w w':World} {b r n:Nat} {f:Idl → Option α} {L:List Idl} (h:gy enc w b r n f L) (hb:w'.heap[b]? = w.heap[b]?) (hr:w'.heap[r]? = w.heap[r]?):gy enc w' b r n f L:=by
 obtain ⟨⟨D,left,cnt,⟨es,clock,since,seen,c0,h1,F,hs,hD,h2,rest⟩,h3,h4⟩,k1,k2,k3⟩:=h
 exact ⟨⟨D,left,cnt,⟨es,clock,since,seen,c0,hb.trans h1,F,hs,hD,hr.trans h2,rest⟩,h3,h4⟩,k1,k2,k3⟩
theorem gy.on {w w':World} {b r n:Nat} {f:Idl → Option α} {L:List Idl} (h:gy enc w b r n f L) (hb:Below w.heap.size w w'):gy enc w' b r n f L:=h.heap (hb.block b h.map.lt) (hb.block r h.lt)
theorem gy.grown {w w':World} {b r n:Nat} {f:Idl → Option α} {L:List Idl} {row:Option Nat} (h:gy enc w b r n f L) (hg:w.grownBy w' row) (hb:some b ≠ row) (hr:some r ≠ row):gy enc w' b r n f L:=h.heap (hg.block b h.map.lt hb) (hg.block r h.lt hr)
theorem tJ {w:World} {ops:Array Oper} {rest:List Oper} {o:Oper} {a:Act} {Q:Exit → Act → World → Prop} (hg:o.guard = none) (m:Operand) (t e:TypeId) (hop:o.op = Op.range t m) (ht:prog.underlying t = some (.map 24 e))
  (b n:Nat) (f:Idl → Option α) (L:List Idl) (hm:a.eval m = .map (some b)) (hown:MapG enc w b n f) (hn:L.Nodup) (hl:∀ x ∈ L,x.length = 32) (hL:∀ x,x.length = 32 → ((f x).isSome = true ↔ x ∈ L))
  (hK:∀ w',gy enc w' b w.heap.size n f L → w.grownBy w' none → w'.heap.size = w.heap.size + 1 → wpList prog ops Q rest (a.put o.dst (.pointer (some ⟨w.heap.size,0,none⟩))) w') :
  wpList prog ops Q (o :: rest) a w:=by
 obtain ⟨D,hown,hD⟩:=hown
 exact wpList_range_own w hg m t hop 24 e qb ht je b n D hm hown fun w' h1 h2 h3 => hK w' ⟨⟨D,_,_,h1,hD,fun x hx => by rw [(hD x hx).1];exact hL x hx⟩,hn,hl,fun x hx => (hL x (hl x hx)).2 hx⟩ h2 h3
theorem xI {w:World} {ops:Array Oper} {rest:List Oper} {o:Oper} {a:Act} {Q:Exit → Act → World → Prop} (hg:o.guard = none) (it:Operand) (hop:o.op = Op.next it false) (b r n:Nat) (f:Idl → Option α) (L:List Idl)
  (hit:a.eval it = .pointer (some ⟨r,0,none⟩)) (h:gy enc w b r n f L)
  (hDone:L = [] → wpList prog ops Q rest (a.put o.dst (.tuple #[.bool false])) w)
  (hMore:∀ (x:Idl) (c:α) (w':World),x ∈ L → x.length = 32 → f x = some c → gy enc w' b r n f (L.erase x) → w'.rangeLeft b r < w.rangeLeft b r → w.grownBy w' (some r) → w'.heap.size = w.heap.size →
   (Instr.entry (.pointer (some ⟨r,0,none⟩))).run prog w' = .ok (.tuple #[.agg (idC x).toArray,enc c]) w' → wpList prog ops Q rest (a.put o.dst (.tuple #[.bool true,.agg (idC x).toArray,enc c])) w') :
  wpList prog ops Q (o :: rest) a w:=by
 obtain ⟨⟨D,left,cnt,hrg,hD,hleft⟩,hn,hlen,hthere⟩:=h
 refine wpList_next_ranges (α:={ x:Idl // x.length = 32 }) (β:=Value) w hg it hop 24 qb je (fun x => .agg (idC x.1).toArray) id (fun key kl hk => by
  obtain ⟨x,hx,e⟩:=AO hk
  exact ⟨⟨x,hx⟩,e⟩) (fun v _ _ => ⟨v,rfl⟩) b r n D left cnt hit hrg ?_ ?_
 ·intro _ hl
  refine hDone (List.eq_nil_iff_forall_not_mem.2 fun x hx => ?_)
  have h1:=(hleft x (hlen x hx)).2 hx
  rw [hl] at h1;cases h1
 rintro ⟨x,hx⟩ c kl y w' cnt' hkey hlk hv hat hrg' hlt hgr hsz hen
 dsimp only at hkey hen ⊢
 obtain rfl:keyI x = kl:=Option.some.inj ((pY hx).symm.trans hkey)
 have hxL:=(hleft x hx).1 hlk
 obtain ⟨o,ho⟩:=Option.isSome_iff_exists.1 (hthere x hxL)
 have hc:c = enc o:=by
  have h1:=hat (.held (.bool false))
  rw [(hD x hx).2 o ho] at h1
  unfold je at hv
  injection hv with hv
  rw [← hv] at h1
  exact (DataW.held.inj h1).symm
 subst hc
 refine hMore x o w' hxL hx ho ⟨⟨D,_,cnt',hrg',hD,fun z hz => ?_⟩,hn.erase x,fun z hz => hlen z (List.mem_of_mem_erase hz),fun z hz => hthere z (List.mem_of_mem_erase hz)⟩ (by rw [hrg'.left_eq,hrg.left_eq];exact hlt) hgr hsz hen
 rw [hn.mem_erase_iff,Bool.and_eq_true,hleft z hz]
 constructor
 ·rintro ⟨h1,h2⟩
  refine ⟨fun e => ?_,h1⟩
  subst e
  have hk:=qb.key (pY hz)
  rw [show (keyI z).sameKey (keyI z) = true from WideAt.sameKey_self hk] at h2
  cases h2
 rintro ⟨h1,h2⟩
 exact ⟨h2,by rw [sameKey_ne (fun e => h1 (L8 hz hx e))];rfl⟩
end
end
end Go.Proofs.YtijhemdnajlfnaaGreatDoor

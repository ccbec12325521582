/- YtmhjpmenngjmeaaGreatDoorR19: texts ZK, MG, ME of this claim, in one. -/
import Derived.Maps.OwnOps
import Derived.Maps.OwnSet
import Derived.Maps.RangeWalk
import Derived.Test.YtmhjpmenngjmeaaGreatDoorR1
import Derived.Test.YtmhjpmenngjmeaaGreatDoorR14
import Derived.WideKeyArr
import Derived.WideKeyEntry
namespace Go.Proofs.YtmhjpmenngjmeaaGreatDoor
open Go.RowKit Go.Maps Go.WideMaps
theorem mapM_some {α β:Type} (f:α → Option β) (g:α → β):∀ l:List α,(∀ i ∈ l,f i = some (g i)) → l.mapM f = some (l.map g)
 | [],_ => rfl
 | a :: l,h => by
  rw [List.mapM_cons,h a (by simp),mapM_some f g l (fun i hi => h i (List.mem_cons_of_mem _ hi))];rfl
theorem idKey:ArrKey Tryz.prog 27 5 32:=⟨Tryz.underlying27,by kernel_rfl,by kernel_rfl,by kernel_rfl⟩
theorem idKeyed:Keyed Tryz.prog 27:=Keyed.of_law (ArrKey.law idKey)
theorem typesN:∃ m,Tryz.prog.types.size = m + 1:=⟨Tryz.prog.types.size - 1,by kernel_rfl⟩
theorem lits_byte (d:Nat) (b:UInt8):Program.keyLits Tryz.prog (d + 1) 5 [Value.int .u8 (b.toNat:Int)] = some [.int .u8 (b.toNat:Int)]:=by
 have hw:(Lit.int .u8 (b.toNat:Int)).wf = true:=by
  have:=b.toNat_lt
  simp only [Lit.wf,Bool.and_eq_true,decide_eq_true_eq]
  have e1:IntKind.u8.min = 0:=by decide
  have e2:IntKind.u8.max = 255:=by decide
  rw [e1,e2];omega
 unfold Program.keyLits
 rw [Tryz.underlying5]
 simp [hw]
theorem keyOf_id (x:List UInt8) (hx:x.length = 32):∃ l,keyOf Tryz.prog 27 (.agg (idC x).toArray) = some l:=by
 have hkt:=idKey.keyType typesN
 obtain ⟨m,hm⟩:=typesN
 have hl:(idC x).length = 32:=by rw [idC_len,hx]
 have hc32:Program.cellsOf Tryz.prog 27 = 32:=by kernel_rfl
 have hc1:Program.cellsOf Tryz.prog 5 = 1:=by kernel_rfl
 have hform:Value.formed Tryz.prog 27 (.agg (idC x).toArray) = true:=by
  unfold Value.formed
  rw [Tryz.underlying27]
  simp [hl,hc32]
 obtain ⟨mm,rfl⟩:∃ mm,m = mm + 1:=⟨m - 1,by
  have:1 < Tryz.prog.types.size:=of_decide_eq_true (by kernel_rfl)
  omega⟩
 have hlits:∃ ls,Program.keyLits Tryz.prog (Tryz.prog.types.size + 1) 27 (idC x) = some ls:=by
  rw [hm]
  unfold Program.keyLits
  rw [Tryz.underlying27]
  dsimp only
  rw [if_pos (by rw [hl,hc32]),hc1]
  rw [mapM_some _ (fun i => [Lit.int .u8 ((x.getD i 0).toNat:Int)])]
  ·exact ⟨_,rfl⟩
  ·intro i hi
   have hi:=List.mem_range.1 hi
   have e:((idC x).drop (i * 1)).take 1 = [Value.int .u8 ((x.getD i 0).toNat:Int)]:=by
    rw [Nat.mul_one]
    have hix:i < x.length:=by omega
    have hic:i < (idC x).length:=by omega
    rw [List.drop_eq_getElem_cons hic]
    simp [idC,hix]
   rw [e];exact lits_byte _ _
 obtain ⟨ls,hls⟩:=hlits
 unfold keyOf
 rw [Tryz.underlying27]
 dsimp only
 rw [if_pos (by rw [hkt,hform];rfl)]
 exact ⟨_,by show ((Program.keyLits Tryz.prog _ _ (idC x).toArray.toList).map _) = _;rw [List.toList_toArray,hls];rfl⟩
noncomputable def keyI (x:List UInt8):Lit:=(keyOf Tryz.prog 27 (.agg (idC x).toArray)).getD .nil
theorem keyI_eq {x:List UInt8} (hx:x.length = 32):keyOf Tryz.prog 27 (.agg (idC x).toArray) = some (keyI x):=by
 obtain ⟨l,hl⟩:=keyOf_id x hx
 unfold keyI;rw [hl];rfl
theorem idC_inj:∀ {x y:List UInt8},idC x = idC y → x = y
 | [],[],_ => rfl
 | [],_ :: _,h => by simp [idC] at h
 | _ :: _,[],h => by simp [idC] at h
 | a :: x,b :: y,h => by
  unfold idC at h
  simp only [List.map_cons,List.cons.injEq] at h
  obtain ⟨h1,h2⟩:=h
  injection h1 with _ h3
  rw [idC_inj (x:=x) (y:=y) h2,UInt8.toNat_inj.1 (show a.toNat = b.toNat by omega)]
set_option maxRecDepth 100000
theorem keyI_inj {x y:List UInt8} (hx:x.length = 32) (hy:y.length = 32) (h:keyI x = keyI y):x = y:=by
 have h2:=idKeyed.inj ((keyI_eq hx).trans (congrArg some h)) (keyI_eq hy)
 injection h2 with h3
 exact idC_inj (by injection h3)
def heldR (v:Value):Option (DataW Value × List MemPlace):=some (.held v,[])
end Go.Proofs.YtmhjpmenngjmeaaGreatDoor
namespace Go.Proofs.YtmhjpmenngjmeaaGreatDoor
open Go.RowKit Go.Maps Go.WideMaps
set_option maxRecDepth 100000

theorem mapM_inv {α β:Type} (f:α → Option β):∀ (l:List α) (r:List β),l.mapM f = some r → ∀ a ∈ l,∃ y,f a = some y
 | [],_,_,a,ha => by cases ha
 | b :: l,r,h,a,ha => by
  rw [List.mapM_cons] at h
  cases hb:f b with
  | none => rw [hb] at h;cases h
  | some y =>
   rw [hb] at h
   rcases List.mem_cons.1 ha with rfl | ha
   ·exact ⟨y,hb⟩
   ·cases hl:l.mapM f with
    | none => rw [hl] at h;cases h
    | some r' => exact mapM_inv f l r' hl a ha
theorem byte_inv {d:Nat} {v:Value} {ls:List Lit} (h:Program.keyLits Tryz.prog (d + 1) 5 [v] = some ls):∃ b:UInt8,v = .int .u8 (b.toNat:Int):=by
 unfold Program.keyLits at h
 rw [Tryz.underlying5] at h
 cases v with
 | int q n =>
  dsimp only at h
  by_cases hc:q = .u8 ∧ (Lit.int .u8 n).wf = true
  ·obtain ⟨rfl,hw⟩:=hc
   simp only [Lit.wf,Bool.and_eq_true,decide_eq_true_eq] at hw
   have e1:IntKind.u8.min = 0:=by decide
   have e2:IntKind.u8.max = 255:=by decide
   rw [e1,e2] at hw
   refine ⟨UInt8.ofNat n.toNat,?_⟩
   have:(UInt8.ofNat n.toNat).toNat = n.toNat:=by
    rw [UInt8.toNat_ofNat'];omega
   rw [this]
   congr 1
   omega
  ·rw [if_neg hc] at h;cases h
 | _ => cases h
theorem idC_of:∀ cs:List Value,(∀ v ∈ cs,∃ b:UInt8,v = .int .u8 (b.toNat:Int)) → ∃ x,idC x = cs
 | [],_ => ⟨[],rfl⟩
 | v :: cs,h => by
  obtain ⟨b,rfl⟩:=h v (by simp)
  obtain ⟨x,hx⟩:=idC_of cs fun v hv => h v (List.mem_cons_of_mem _ hv)
  exact ⟨b :: x,by rw [← hx];rfl⟩
theorem keyOf_id_inv {v:Value} {kl:Lit} (h:keyOf Tryz.prog 27 v = some kl):∃ x:List UInt8,x.length = 32 ∧ v = .agg (idC x).toArray:=by
 have hc32:Program.cellsOf Tryz.prog 27 = 32:=by kernel_rfl
 have hc1:Program.cellsOf Tryz.prog 5 = 1:=by kernel_rfl
 obtain ⟨m,hm⟩:=typesN
 obtain ⟨mm,rfl⟩:∃ mm,m = mm + 1:=⟨m - 1,by
  have:1 < Tryz.prog.types.size:=of_decide_eq_true (by kernel_rfl)
  omega⟩
 unfold keyOf at h
 rw [Tryz.underlying27] at h
 dsimp only at h
 split at h
 ·rename_i hf
  rw [Bool.and_eq_true] at hf
  have hf2:=hf.2
  unfold Value.formed at hf2
  rw [Tryz.underlying27] at hf2
  cases v with
  | agg cs =>
   dsimp only at hf2
   have hs:cs.size = 32:=by rw [hc32] at hf2;simpa using hf2
   cases hk:Program.keyLits Tryz.prog (Tryz.prog.types.size + 1) 27 (Value.agg cs).cells.toList with
   | none => rw [hk] at h;cases h
   | some ls =>
    rw [hm] at hk
    unfold Program.keyLits at hk
    rw [Tryz.underlying27] at hk
    dsimp only at hk
    have hl:(Value.agg cs).cells.toList.length = 32:=by show cs.toList.length = 32;simpa using hs
    rw [if_pos (by rw [hl,hc32]),hc1] at hk
    cases hmm:(List.range 32).mapM fun i => Program.keyLits Tryz.prog (mm + 1 + 1) 5 (((Value.agg cs).cells.toList.drop (i * 1)).take 1) with
    | none => rw [hmm] at hk;cases hk
    | some r =>
     have key:∀ v ∈ cs.toList,∃ b:UInt8,v = .int .u8 (b.toNat:Int):=fun v hv => by
      obtain ⟨i,hi,rfl⟩:=List.getElem_of_mem hv
      obtain ⟨y,hy⟩:=mapM_inv _ _ _ hmm i (List.mem_range.2 (by simpa [hs] using hi))
      have e:((Value.agg cs).cells.toList.drop (i * 1)).take 1 = [cs.toList[i]]:=by
       show (cs.toList.drop (i * 1)).take 1 = _
       rw [Nat.mul_one,List.drop_eq_getElem_cons hi];rfl
      rw [e] at hy
      exact byte_inv hy
     obtain ⟨x,hx⟩:=idC_of _ key
     refine ⟨x,?_,?_⟩
     ·rw [← idC_len x,hx];simpa using hs
     ·rw [hx]
  | _ => cases hf2
 ·cases h
section
variable {α:Type} {enc:α → Value}
def SaysG (enc:α → Value) (D:DataW Value) (f:Idl → Option α):Prop :=
 ∀ x,x.length = 32 → Maps.has D (keyI x) = (f x).isSome ∧ ∀ o,f x = some o → ∀ zd,D.atKey (keyI x) zd = .held (enc o)
def MapG (enc:α → Value) (w:World) (b n:Nat) (f:Idl → Option α):Prop:=∃ D:DataW Value,w.ownsMap Tryz.prog 27 heldR b n D ∧ SaysG enc D f
theorem saysG_none:SaysG enc (.map []) fun _ => none:=fun _ _ => ⟨rfl,fun _ h => by cases h⟩
theorem saysG_put {D:DataW Value} {f:Idl → Option α} (h:SaysG enc D f) (hm:IsMap D) (p:Idl) (hp:p.length = 32) (o:α):SaysG enc (D.put (keyI p) (.held (enc o))) fun q => if q = p then some o else f q:=by
 intro q hq
 show has _ _ = (if q = p then some o else f q).isSome ∧ ∀ t,(if q = p then some o else f q) = some t → ∀ zd,_ = _
 have hk:=idKeyed.key (keyI_eq hp)
 by_cases e:q = p
 ·subst e
  rw [if_pos rfl]
  exact ⟨by rw [has_put_same hm hk];rfl,fun t ht zd => by cases ht;exact atKey_put_same hm hk _ _⟩
 ·rw [if_neg e]
  have hne:keyI q ≠ keyI p:=fun h => e (keyI_inj hq hp h)
  exact ⟨by rw [has_put_other hne];exact (h q hq).1,fun t ht zd => by rw [atKey_put_other hne];exact (h q hq).2 t ht zd⟩
theorem MapG.lt {w:World} {b n:Nat} {f:Idl → Option α} (h:MapG enc w b n f):b < w.heap.size:=by obtain ⟨D,h,_⟩:=h;exact h.lt
theorem MapG.heap {w w':World} {b n:Nat} {f:Idl → Option α} (h:MapG enc w b n f) (hb:w'.heap[b]? = w.heap[b]?):MapG enc w' b n f:=by
 obtain ⟨D,⟨es,clock,h1,h2⟩,h3⟩:=h
 exact ⟨D,⟨es,clock,hb.trans h1,h2⟩,h3⟩
theorem MapG.below {w w':World} {b n B:Nat} {f:Idl → Option α} (h:MapG enc w b n f) (hb:Below B w w') (hB:b < B):MapG enc w' b n f:=h.heap (hb.block b hB)
theorem MapG.on {w w':World} {b n:Nat} {f:Idl → Option α} (h:MapG enc w b n f) (hb:Below w.heap.size w w'):MapG enc w' b n f:=h.below hb h.lt
theorem MapG.grown {w w':World} {b n:Nat} {f:Idl → Option α} {row:Option Nat} (h:MapG enc w b n f) (hg:w.grownBy w' row) (hne:some b ≠ row):MapG enc w' b n f:=h.heap (hg.block b h.lt hne)
theorem mapG_made (w:World):MapG enc (w.alloc (.map #[] 0)) w.heap.size 0 fun _ => none:=⟨_,World.ownsMap_made _ _ _ _,saysG_none⟩
theorem MapG.ext {w:World} {b n:Nat} {f g:Idl → Option α} (h:MapG enc w b n f) (hfg:∀ x,x.length = 32 → f x = g x):MapG enc w b n g:=by
 obtain ⟨D,h1,h2⟩:=h
 exact ⟨D,h1,fun x hx => by rw [← hfg x hx];exact h2 x hx⟩
theorem MapG.look_ok {w:World} {t e:TypeId} (ht:Tryz.prog.underlying t = some (.map 27 e)) {z:Value} (hz:(zeroValue e).run Tryz.prog w = .ok z w) {b n:Nat} {f:Idl → Option α} (h:MapG enc w b n f) {x:Idl} (hx:x.length = 32) :
  (Instr.lookup t (.map (some b)) (.agg (idC x).toArray) true).run Tryz.prog w = .ok (.tuple #[((f x).map enc).getD z,.bool (f x).isSome]) w:=by
 obtain ⟨D,hown,hs⟩:=h
 obtain ⟨v,ps,hrun,hv⟩:=hown.look_ok idKeyed ht hz (zd:=.held z) (zp:=[]) rfl (keyI_eq hx)
 rw [hrun]
 obtain ⟨h1,h2⟩:=hs x hx
 have hv2:D.atKey (keyI x) (.held z) = .held v:=by
  unfold heldR at hv
  injection hv with hv
  exact (congrArg Prod.fst hv).symm
 rw [h1]
 cases e:f x with
 | none =>
  rw [e] at h1
  rw [atKey_of_not_has h1] at hv2
  injection hv2 with h
  rw [← h];rfl
 | some o =>
  rw [h2 o e] at hv2
  injection hv2 with h
  rw [← h];rfl
theorem MapG.look {w:World} {t e:TypeId} (ht:Tryz.prog.underlying t = some (.map 27 e)) {z:Value} (hz:(zeroValue e).run Tryz.prog w = .ok z w) {b n:Nat} {f:Idl → Option α} (h:MapG enc w b n f) {x:Idl} (hx:x.length = 32) :
  (Instr.lookup t (.map (some b)) (.agg (idC x).toArray) false).run Tryz.prog w = .ok (((f x).map enc).getD z) w:=by
 obtain ⟨D,hown,hs⟩:=h
 obtain ⟨v,ps,hrun,hv⟩:=hown.lookup idKeyed ht hz (zd:=.held z) (zp:=[]) rfl (keyI_eq hx)
 rw [hrun]
 obtain ⟨h1,h2⟩:=hs x hx
 have hv2:D.atKey (keyI x) (.held z) = .held v:=by
  unfold heldR at hv
  injection hv with hv
  exact (congrArg Prod.fst hv).symm
 cases e:f x with
 | none =>
  rw [e] at h1
  rw [atKey_of_not_has h1] at hv2
  injection hv2 with h
  rw [← h];rfl
 | some o =>
  rw [h2 o e] at hv2
  injection hv2 with h
  rw [← h];rfl
theorem wpList_update_G {w:World} {ops:Array Oper} {rest:List Oper} {o:Oper} {a:Act} {Q:Exit → Act → World → Prop} (hg:o.guard = none) (m x v:Operand) (t e:TypeId) (hop:o.op = Op.mapUpdate t m x v)
  (ht:Tryz.prog.underlying t = some (.map 27 e)) (b n:Nat) (f:Idl → Option α) (hm:a.eval m = .map (some b)) (hown:MapG enc w b n f) (p:Idl) (hp:p.length = 32) (c:α) (hx:a.eval x = .agg (idC p).toArray) (hv:a.eval v = enc c) (hn:n < maxLen)
  (hK:∀ w',MapG enc w' b (n + 1) (fun q => if q = p then some c else f q) → w.grownBy w' (some b) → wpList Tryz.prog ops Q rest (a.put o.dst undef) w'):wpList Tryz.prog ops Q (o :: rest) a w:=by
 obtain ⟨D,hown,hD⟩:=hown
 exact wpList_mapUpdate_own w hg m x v t hop 27 e idKeyed ht heldR b n D hm hown hn (.agg (idC p).toArray) (enc c) (keyI p) hx hv (keyI_eq hp) _ [] rfl fun w' h1 h2 => hK w' ⟨_,h1,saysG_put hD hown.isMap p hp c⟩ h2
structure RangeG (enc:α → Value) (w:World) (b r n:Nat) (f:Idl → Option α) (L:List Idl):Prop where
 run:∃ (D:DataW Value) (left:Lit → Bool) (cnt:Nat),w.ranges Tryz.prog 27 heldR b r n D left cnt ∧ SaysG enc D f ∧ ∀ x,x.length = 32 → (left (keyI x) = true ↔ x ∈ L)
 nodup:L.Nodup
 len:∀ x ∈ L,x.length = 32
 there:∀ x ∈ L,(f x).isSome = true
theorem RangeG.map {w:World} {b r n:Nat} {f:Idl → Option α} {L:List Idl} (h:RangeG enc w b r n f L):MapG enc w b n f:=by
 obtain ⟨D,left,cnt,h1,h2,_⟩:=h.run
 exact ⟨D,h1.owns,h2⟩
theorem RangeG.ne {w:World} {b r n:Nat} {f:Idl → Option α} {L:List Idl} (h:RangeG enc w b r n f L):r ≠ b:=by
 obtain ⟨D,left,cnt,h1,_⟩:=h.run;exact h1.ne
theorem RangeG.lt {w:World} {b r n:Nat} {f:Idl → Option α} {L:List Idl} (h:RangeG enc w b r n f L):r < w.heap.size:=by
 obtain ⟨D,left,cnt,h1,_⟩:=h.run;exact h1.lt
theorem RangeG.heap {w w':World} {b r n:Nat} {f:Idl → Option α} {L:List Idl} (h:RangeG enc w b r n f L) (hb:w'.heap[b]? = w.heap[b]?) (hr:w'.heap[r]? = w.heap[r]?):RangeG enc w' b r n f L:=by
 obtain ⟨⟨D,left,cnt,⟨es,clock,since,seen,c0,h1,F,hs,hD,h2,rest⟩,h3,h4⟩,k1,k2,k3⟩:=h
 exact ⟨⟨D,left,cnt,⟨es,clock,since,seen,c0,hb.trans h1,F,hs,hD,hr.trans h2,rest⟩,h3,h4⟩,k1,k2,k3⟩
theorem RangeG.on {w w':World} {b r n:Nat} {f:Idl → Option α} {L:List Idl} (h:RangeG enc w b r n f L) (hb:Below w.heap.size w w'):RangeG enc w' b r n f L:=h.heap (hb.block b h.map.lt) (hb.block r h.lt)
theorem RangeG.grown {w w':World} {b r n:Nat} {f:Idl → Option α} {L:List Idl} {row:Option Nat} (h:RangeG enc w b r n f L) (hg:w.grownBy w' row) (hb:some b ≠ row) (hr:some r ≠ row):RangeG enc w' b r n f L:=h.heap (hg.block b h.map.lt hb) (hg.block r h.lt hr)
theorem rangeLeft_heap {w w':World} {b r:Nat} (hb:w'.heap[b]? = w.heap[b]?) (hr:w'.heap[r]? = w.heap[r]?):w'.rangeLeft b r = w.rangeLeft b r:=by unfold World.rangeLeft;rw [hb,hr]
theorem wpList_range_G {w:World} {ops:Array Oper} {rest:List Oper} {o:Oper} {a:Act} {Q:Exit → Act → World → Prop} (hg:o.guard = none) (m:Operand) (t e:TypeId) (hop:o.op = Op.range t m) (ht:Tryz.prog.underlying t = some (.map 27 e))
  (b n:Nat) (f:Idl → Option α) (L:List Idl) (hm:a.eval m = .map (some b)) (hown:MapG enc w b n f) (hn:L.Nodup) (hl:∀ x ∈ L,x.length = 32) (hL:∀ x,x.length = 32 → ((f x).isSome = true ↔ x ∈ L))
  (hK:∀ w',RangeG enc w' b w.heap.size n f L → w.grownBy w' none → w'.heap.size = w.heap.size + 1 → wpList Tryz.prog ops Q rest (a.put o.dst (.pointer (some ⟨w.heap.size,0,none⟩))) w') :
  wpList Tryz.prog ops Q (o :: rest) a w:=by
 obtain ⟨D,hown,hD⟩:=hown
 exact wpList_range_own w hg m t hop 27 e idKeyed ht heldR b n D hm hown fun w' h1 h2 h3 => hK w' ⟨⟨D,_,_,h1,hD,fun x hx => by rw [(hD x hx).1];exact hL x hx⟩,hn,hl,fun x hx => (hL x (hl x hx)).2 hx⟩ h2 h3
theorem wpList_next_G {w:World} {ops:Array Oper} {rest:List Oper} {o:Oper} {a:Act} {Q:Exit → Act → World → Prop} (hg:o.guard = none) (it:Operand) (hop:o.op = Op.next it false) (b r n:Nat) (f:Idl → Option α) (L:List Idl)
  (hit:a.eval it = .pointer (some ⟨r,0,none⟩)) (h:RangeG enc w b r n f L)
  (hDone:L = [] → wpList Tryz.prog ops Q rest (a.put o.dst (.tuple #[.bool false])) w)
  (hMore:∀ (x:Idl) (c:α) (w':World),x ∈ L → x.length = 32 → f x = some c → RangeG enc w' b r n f (L.erase x) → w'.rangeLeft b r < w.rangeLeft b r → w.grownBy w' (some r) → w'.heap.size = w.heap.size →
   (Instr.entry (.pointer (some ⟨r,0,none⟩))).run Tryz.prog w' = .ok (.tuple #[.agg (idC x).toArray,enc c]) w' → wpList Tryz.prog ops Q rest (a.put o.dst (.tuple #[.bool true,.agg (idC x).toArray,enc c])) w') :
  wpList Tryz.prog ops Q (o :: rest) a w:=by
 obtain ⟨⟨D,left,cnt,hrg,hD,hleft⟩,hn,hlen,hthere⟩:=h
 refine wpList_next_ranges (α:={ x:Idl // x.length = 32 }) (β:=Value) w hg it hop 27 idKeyed heldR (fun x => .agg (idC x.1).toArray) id (fun key kl hk => by
  obtain ⟨x,hx,e⟩:=keyOf_id_inv hk
  exact ⟨⟨x,hx⟩,e⟩) (fun v _ _ => ⟨v,rfl⟩) b r n D left cnt hit hrg ?_ ?_
 ·intro _ hl
  refine hDone (List.eq_nil_iff_forall_not_mem.2 fun x hx => ?_)
  have h1:=(hleft x (hlen x hx)).2 hx
  rw [hl] at h1;cases h1
 ·rintro ⟨x,hx⟩ c kl y w' cnt' hkey hlk hv hat hrg' hlt hgr hsz hen
  dsimp only at hkey hen ⊢
  obtain rfl:keyI x = kl:=Option.some.inj ((keyI_eq hx).symm.trans hkey)
  have hxL:=(hleft x hx).1 hlk
  obtain ⟨o,ho⟩:=Option.isSome_iff_exists.1 (hthere x hxL)
  have hc:c = enc o:=by
   have h1:=hat (.held (.bool false))
   rw [(hD x hx).2 o ho] at h1
   unfold heldR at hv
   injection hv with hv
   rw [← hv] at h1
   exact (DataW.held.inj h1).symm
  subst hc
  refine hMore x o w' hxL hx ho ⟨⟨D,_,cnt',hrg',hD,fun z hz => ?_⟩,hn.erase x,fun z hz => hlen z (List.mem_of_mem_erase hz),fun z hz => hthere z (List.mem_of_mem_erase hz)⟩ (by rw [hrg'.left_eq,hrg.left_eq];exact hlt) hgr hsz hen
  rw [hn.mem_erase_iff,Bool.and_eq_true,hleft z hz]
  constructor
  ·rintro ⟨h1,h2⟩
   refine ⟨fun e => ?_,h1⟩
   subst e
   have hk:=idKeyed.key (keyI_eq hz)
   rw [show (keyI z).sameKey (keyI z) = true from WideAt.sameKey_self hk] at h2
   cases h2
  ·rintro ⟨h1,h2⟩
   exact ⟨h2,by rw [sameKey_ne (fun e => h1 (keyI_inj hz hx e))];rfl⟩
end
end Go.Proofs.YtmhjpmenngjmeaaGreatDoor
namespace Go.Proofs.YtmhjpmenngjmeaaGreatDoor
open Go.RowKit Go.Maps Go.WideMaps Go.WideElems Go.ChangeMaps
set_option maxRecDepth 100000
theorem idLaw:KeyLaw Tryz.prog 27:=ArrKey.law idKey
section
variable {α:Type} {enc:α → Value}
theorem ok_inj {β:Type} {p q:β} {w v:World} (h:(Result.ok p w:Result β) = .ok q v):p = q ∧ w = v:=by cases h;exact ⟨rfl,rfl⟩
theorem grownBy_setBlock {w:World} {b:Nat} {es:Array MapEntry} {clock:Nat} (hb:w.heap[b]? = some (.map es clock)) (o:Obj):w.grownBy (setBlock w b o) (some b) :=
 ⟨rfl,rfl,rfl,by simp [setBlock],fun i _ hi => heap_setBlock_other hb _ (fun e => hi (by rw [e]))⟩
theorem MapG.entry {w:World} {t e:TypeId} (ht:Tryz.prog.underlying t = some (.map 27 e)) {z:Value} (hz:∀ u,(zeroValue e).run Tryz.prog u = .ok z u) {b n:Nat} {f:Idl → Option α} (h:MapG enc w b n f) (hn:n < maxLen) (c0:α) (hc0:enc c0 = z) {x:Idl} (hx:x.length = 32) :
  ∃ (v0:Value) (st:Nat) (w1:World),(Instr.mapEntry t (.map (some b)) (.agg (idC x).toArray)).run Tryz.prog w = .ok (.tuple #[v0,goInt st]) w1 ∧ w.grownBy w1 (some b) ∧
   (∀ W,W.heap[b]? = w1.heap[b]? → (Instr.lookup t (.map (some b)) (.agg (idC x).toArray) false).run Tryz.prog W = .ok (((f x).map enc).getD z) W) ∧
   ∀ (w2:World) (c:α),w2.heap[b]? = w1.heap[b]? → ∃ w3,(Instr.entryStore t (.map (some b)) (goInt st) (enc c)).run Tryz.prog w2 = .ok () w3 ∧ w2.grownBy w3 (some b) ∧ MapG enc w3 b (n + 1) (fun q => if q = x then some c else f q):=by
 have hM:=h
 obtain ⟨D,hown,hD⟩:=h
 have hown':=hown
 obtain ⟨es,clock,hb,F,hs,hDe⟩:=hown'
 have hkey:=keyI_eq hx
 obtain ⟨v0,st,es1,clock1,hrun,hv,hst⟩:=entry_then_store idLaw ht hz hb F hkey
 have hbl:=hM.lt
 have h1:(setBlock w b (.map es1 clock1)).heap[b]? = some (.map es1 clock1):=heap_setBlock_same hb _
 refine ⟨v0,st,_,hrun,grownBy_setBlock hb _,fun W hW => ?_,fun w2 c hw2 => ?_⟩
 ·rcases idLaw.find w hkey es.toList F.keys with ⟨g1,g2⟩ | ⟨j,e0,g1,g2,g3⟩
  ·have hrun2:(Instr.mapEntry t (.map (some b)) (.agg (idC x).toArray)).run Tryz.prog w = .ok (.tuple #[z,goInt clock]) (setBlock w b (.map (es.push ⟨.agg (idC x).toArray,z,clock⟩) (clock + 1))):=by
    simp [Instr.mapEntry,run_underlying ht,MapKept.run_getObj_map hb,idLaw.check w false hkey,g1,hz,MapKept.run_setObj_map _ hb,Result.andThen,setBlock]
   have hupd:(Instr.mapUpdate t (.map (some b)) (.agg (idC x).toArray) z).run Tryz.prog w = .ok () (setBlock w b (.map (es.push ⟨.agg (idC x).toArray,z,clock⟩) (clock + 1))):=by
    simp [Instr.mapUpdate,run_underlying ht,MapKept.run_getObj_map hb,idLaw.check w false hkey,g1,MapKept.run_setObj_map _ hb,Result.andThen,setBlock]
   obtain ⟨w',hu,ho,_⟩:=hown.update idKeyed ht hn (val:=z) (d:=.held z) (ps:=[]) hkey rfl
   obtain ⟨_,hw⟩:=ok_inj (hupd.symm.trans hu)
   obtain ⟨_,hw3⟩:=ok_inj (hrun2.symm.trans hrun)
   have hMW:MapG enc W b (n + 1) (fun q => if q = x then some c0 else f q):=by
    have hM1:MapG enc w' b (n + 1) (fun q => if q = x then some c0 else f q):=⟨_,ho,by
     have:=saysG_put hD hown.isMap x hx c0
     rwa [hc0] at this⟩
    exact hM1.heap (by rw [hW,← hw3,hw])
   have hl:=hMW.look ht (hz W) hx
   rw [hl,if_pos rfl]
   have hfx:f x = none:=by
    cases e:f x with
    | none => rfl
    | some c =>
     have h2:=hM.look_ok ht (hz w) hx
     rcases fit_look true idKeyed ht (hz w) hb F hkey with ⟨k1,_,_⟩ | ⟨e0,_,k1,k2,_⟩
     ·obtain ⟨k3,_⟩:=ok_inj (h2.symm.trans k1)
      rw [e] at k3
      simp at k3
     ·exact absurd k2 (g2 e0 k1)
   rw [hfx]
   show Result.ok (enc c0) W = .ok z W
   rw [hc0]
  ·have hj:es[j]? = some e0:=by simpa using g2
   have hsame:es.modify j (fun e => { e with key:=.agg (idC x).toArray }) = es:=by
    apply Array.ext'
    rw [Array.toList_modify,modify_eq_set _ _ _ _ g2]
    have:({ e0 with key:=.agg (idC x).toArray }:MapEntry) = e0:=by rw [← g3]
    rw [this]
    exact set_self _ _ _ g2
   have hrun2:(Instr.mapEntry t (.map (some b)) (.agg (idC x).toArray)).run Tryz.prog w = .ok (.tuple #[e0.val,goInt e0.born]) (setBlock w b (.map es clock)):=by
    simp [Instr.mapEntry,run_underlying ht,MapKept.run_getObj_map hb,idLaw.check w false hkey,g1,hj,g3,idLaw.stays w hkey,hsame,MapKept.run_setObj_map _ hb,Result.andThen,setBlock]
   obtain ⟨_,hw3⟩:=ok_inj (hrun2.symm.trans hrun)
   exact (hM.heap (by rw [hW,← hw3,heap_setBlock_same hb,hb])).look ht (hz W) hx
 ·rw [h1] at hw2
  obtain ⟨es',clock',k1,k2⟩:=hst w2 (enc c) hw2
  obtain ⟨w',hu,ho,_⟩:=hown.update idKeyed ht hn (val:=enc c) (d:=.held (enc c)) (ps:=[]) hkey rfl
  obtain ⟨_,hw⟩:=ok_inj (k2.symm.trans hu)
  have hM1:MapG enc w' b (n + 1) (fun q => if q = x then some c else f q):=⟨_,ho,saysG_put hD hown.isMap x hx c⟩
  exact ⟨_,k1,grownBy_setBlock hw2 _,hM1.heap (by rw [← hw,heap_setBlock_same hw2,heap_setBlock_same hb])⟩
end
end Go.Proofs.YtmhjpmenngjmeaaGreatDoor

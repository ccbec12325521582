/- YtmhjpmenngjmeaaGreatDoorR37: texts OM, WX of this claim, in one. -/
import Derived.Test.YtmhjpmenngjmeaaGreatDoorR21
import Derived.Test.YtmhjpmenngjmeaaGreatDoorR24
import Derived.Test.YtmhjpmenngjmeaaGreatDoorR25
import Derived.Test.YtmhjpmenngjmeaaGreatDoorR28
import Derived.Test.YtmhjpmenngjmeaaGreatDoorR31
namespace Go.Proofs.YtmhjpmenngjmeaaGreatDoor
open Go.RowKit
theorem conv_range (W:World) (g:Nat) (x:List UInt8) (hr:W.rangeAt g 0 (idC x)) (c:Nat) :
  (convert 56 9 (.slice (some ⟨g,0,none⟩) x.length c)).run Tryz.prog W = .ok (.string (ofB x)) W :=
 run_convert_bytes_back (P:=Tryz.prog) W 56 9 5 ⟨g,0,none⟩ c x Tryz.underlying56 Tryz.underlying5 Tryz.underlying9 fun j hj => by
  rw [Addr.add_mid]
  exact hr j _ (by simp [idC,hj])
def mkOb (ok:Bool) (o:Ob):Ob:=if (ok && rightOb o) = true then o else ob0
def mkE (ok:Bool) (o:Ob):Int:=if (ok && rightOb o) = true then 0 else 1
def MadeAns (ok:Bool) (o:Ob) (w:World) (e:Ending) (w':World):Prop:=e = .returned (.tuple #[.agg (obC (mkOb ok o)).toArray,.int .i64 (mkE ok o)]) ∧ Below w.heap.size w w'
theorem madeAns_no {ok:Bool} {o:Ob} {w w':World} (h:(ok && rightOb o) = false) (hb:Below w.heap.size w w'):MadeAns ok o w (.returned (.tuple #[.agg #[.int .i64 0,.string ⟨#[]⟩],.int .i64 1])) w':=⟨by unfold mkOb mkE;rw [h];rfl,hb⟩
theorem madeAns_yes {ok:Bool} {k:Int} {s:ByteArray} {w w':World} (h:(ok && rightOb ⟨k,s⟩) = true) (hb:Below w.heap.size w w'):MadeAns ok ⟨k,s⟩ w (.returned (.tuple #[.agg #[.int .i64 k,.string s],.int .i64 0])) w':=⟨by unfold mkOb mkE;rw [h];rfl,hb⟩
set_option maxRecDepth 100000 in
set_option maxHeartbeats 2000000 in
theorem omade_any (k:Int) (s:ByteArray) (ok:Bool) (w:World) :
  Calls Tryz.prog 52 #[.agg #[.int .i64 k,.string s],.bool ok] w (MadeAns ok ⟨k,s⟩ w):=by
 have HR:=Lib.hid (fun w => oright_any k s w)
 have h2:(Tryz.prog.info? 59).map (·.size) = some [Value.int .i64 k,Value.string s].length:=by kernel_rfl
 have h20:(Tryz.prog.info? 59).map (·.size) = some 2:=by kernel_rfl
 cases ok with
 | false =>
  have HN:Hid ((false && rightOb ⟨k,s⟩) = false):=Lib.hid rfl
  go_enter Tryz.func52,Tryz.ntmps52
  go_wp2_with fail
  refine ret_cell2 rfl (w.heap.size + 1) 0 rfl [.int .i64 0,.string ⟨#[]⟩] _ (range_new _ _ _ (by simp)) Tryz.underlying59 rfl h20 rfl _ rfl ?_
  exact madeAns_no HN.out (((Below.refl _ _).alloc (Nat.le_refl _) _).alloc (by simp) _)
 | true =>
  obtain ⟨W,hW⟩:∃ W,(w.alloc (.cells #[.int .i64 k,.string s] 59)).alloc (.cells #[.int .i64 0,.string ⟨#[]⟩] 59) = W:=⟨_,rfl⟩
  have hbW:Below w.heap.size w W:=by rw [← hW];exact ((Below.refl _ _).alloc (Nat.le_refl _) _).alloc (by simp) _
  have hA:=(Arr.ofList w [.int .i64 k,.string s] 59).alloc (by simp) (.cells #[.int .i64 0,.string ⟨#[]⟩] 59)
  rw [hW] at hA
  have hA2:=Arr.ofList (w.alloc (.cells #[.int .i64 k,.string s] 59)) [.int .i64 0,.string ⟨#[]⟩] 59
  rw [World.size_alloc,hW] at hA2
  have hsW:W.heap.size = w.heap.size + 1 + 1:=by rw [← hW];simp
  have HBW:=Lib.hid hbW
  have HA:=Lib.hid hA
  have HA2:=Lib.hid hA2
  have HSW:=Lib.hid hsW
  have HW:=Lib.hid hW
  clear hbW hA hA2 hsW hW
  go_enter Tryz.func52,Tryz.ntmps52
  go_wp2_with fail
  rw [HW.out]
  refine (HR.out W).mono ?_
  rintro e w1 ⟨rfl,hb1⟩
  have HB1:=Lib.hid (HBW.out.trans (hb1.mono HBW.out.size))
  have hA1:=HA.out.below hb1 (by rw [HSW.out];omega)
  have hB1:=HA2.out.below hb1 (by rw [HSW.out];omega)
  have c0:w1.cell? ⟨w.heap.size,0,none⟩ = some (.int .i64 k):=hA1.cell 0 (by simp)
  have c1:w1.cell? ⟨w.heap.size,1,none⟩ = some (.string s):=hA1.cell 1 (by simp)
  have d0:w1.cell? ⟨w.heap.size + 1,0,none⟩ = some (.int .i64 0):=hB1.cell 0 (by simp)
  have d1:w1.cell? ⟨w.heap.size + 1,1,none⟩ = some (.string ⟨#[]⟩):=hB1.cell 1 (by simp)
  have f0:=hB1.free 0 (by simp)
  have f1:=hB1.free 1 (by simp)
  have HTH:=Lib.hid hB1.there
  clear hb1 hA1 hB1
  cases hr:rightOb ⟨k,s⟩ with
  | false =>
   have HN:Hid ((true && rightOb ⟨k,s⟩) = false):=Lib.hid (by rw [hr];rfl)
   clear hr
   have hse:=World.rangeAt_setCells_same w1 (w.heap.size + 1) 0 [.int .i64 0,.string ⟨#[]⟩] HTH.out
   have hbe:=below_setCells (B:=w.heap.size) (w.heap.size + 1) (by omega) [.int .i64 0,.string ⟨#[]⟩] 0 w1 HB1.out
   go_wp2_with (refine wpList_store_list rfl 59 _ _ rfl (w.heap.size + 1) 0 [.int .i64 0,.string ⟨#[]⟩] rfl rfl 2 rfl HTH.out h20 (by simp [Value.oneCell']) ?_)
   refine ret_cell2 rfl (w.heap.size + 1) 0 rfl [.int .i64 0,.string ⟨#[]⟩] _ hse Tryz.underlying59 rfl h20 rfl _ rfl ?_
   exact madeAns_no HN.out hbe
  | true =>
   have HN:Hid ((true && rightOb ⟨k,s⟩) = true):=Lib.hid (by rw [hr];rfl)
   clear hr
   have hse:=World.rangeAt_setCells_same w1 (w.heap.size + 1) 0 [.int .i64 k,.string s] HTH.out
   have hbe:=below_setCells (B:=w.heap.size) (w.heap.size + 1) (by omega) [.int .i64 k,.string s] 0 w1 HB1.out
   go_wp2_with (refine wpList_store_list rfl 59 _ _ rfl (w.heap.size + 1) 0 [.int .i64 k,.string s] rfl rfl 2 rfl HTH.out h20 (by simp [Value.oneCell']) ?_)
   refine ret_cell2 rfl (w.heap.size + 1) 0 rfl [.int .i64 k,.string s] _ hse Tryz.underlying59 rfl h2 rfl _ rfl ?_
   exact madeAns_yes HN.out hbe
end Go.Proofs.YtmhjpmenngjmeaaGreatDoor
namespace Go.Proofs.YtmhjpmenngjmeaaGreatDoor
open Go.RowKit Go.Shelf
structure OnW (B b:Nat) (w w':World):Prop where
 bel:Below B w w'
 off:∀ k o,w.heap[k]? = some o → k ≠ b → (∀ cur,o ≠ .cells cur 5 (0,0)) → w'.heap[k]? = some o
theorem OnW.refl (B b:Nat) (w:World):OnW B b w w:=⟨Below.refl B w,fun _ _ h _ _ => h⟩
theorem OnW.trans {B b:Nat} {u v w:World} (h:OnW B b u v) (k:OnW B b v w):OnW B b u w:=⟨h.bel.trans k.bel,fun j o hj hn ho => k.off j o (h.off j o hj hn ho) hn ho⟩
theorem OnW.size {B b:Nat} {v w:World} (h:OnW B b v w):v.heap.size ≤ w.heap.size:=h.bel.size
theorem OnW.below {B b:Nat} {v w:World} (h:Below v.heap.size v w) (hB:B ≤ v.heap.size):OnW B b v w:=⟨h.mono hB,fun j _ hj _ _ => (h.block j (Array.getElem?_eq_some_iff.1 hj).1).trans hj⟩
theorem OnW.alloc {B b:Nat} {v w:World} (h:OnW B b v w) (hB:B ≤ w.heap.size) (o:Obj):OnW B b v (w.alloc o):=h.trans (OnW.below ((Below.refl _ _).alloc (Nat.le_refl _) _) hB)
theorem OnW.setCell {B b:Nat} {v w:World} (h:OnW B b v w) {p:Addr} (hB:B ≤ p.block) (hp:p.block = b) (u:Value):OnW B b v (w.setCell p u) :=
 ⟨h.bel.setCell (p:=p) hB u,fun j o hj hn ho => (Below.heap_setCell w p u j (fun e => hn (e.trans hp))).trans (h.off j o hj hn ho)⟩
theorem OnW.row {B b:Nat} {a w w2:World} {v:Value} {n:Nat} {xs:List Value} {B':Nat} (h:OnW B b a w) (hown:w.ownsRow B' 5 1 v n xs) (hg:w.grownBy w2 v.ownBlock) (hB:B ≤ w.heap.size) (hr:∀ k,v.ownBlock = some k → B ≤ k):OnW B b a w2 :=
 ⟨h.bel.grown hg hB hr,fun j o hj hn ho => by
  have hw:=h.off j o hj hn ho
  refine (hg.block j (Array.getElem?_eq_some_iff.1 hw).1 fun e => ?_).trans hw
  rcases ownsRow_ne_a hown hw ho with h1 | h1
  ·rw [h1] at e;cases e
  ·exact h1 e.symm⟩
theorem check_x (B b:Nat) (bs:List Value) (w:World) (h:Lib.IsBuilder 127 5 B b bs w) :
  Calls Tryz.prog 123 #[.pointer (some ⟨b,0,none⟩)] w fun e w' => e = .returned (.tuple #[]) ∧ (Lib.BuilderAt 127 5 B b (.pointer (some ⟨b,0,none⟩)) bs w' ∧ OnW B b w w'):=by
 rcases h with h | h
 ·refine (check_fresh b w h.cell0 h.shape h.frozen0).mono ?_
  rintro e w' ⟨rfl,rfl⟩
  exact ⟨rfl,h.used _,(OnW.refl B b w).setCell (p:=⟨b,0,none⟩) h.1 rfl _⟩
 ·refine (check_used b w h.cell0).mono ?_
  rintro e w' ⟨rfl,rfl⟩
  exact ⟨rfl,h,OnW.refl B b _⟩
set_option maxHeartbeats 2000000 in
set_option maxRecDepth 100000 in
theorem wbyte_x (B b:Nat) (L:List UInt8) (c:UInt8) (w:World) (h:Wr B b L w) (hlen:L.length + 1 ≤ 140737488355328) (hBw:B ≤ w.heap.size) :
  Calls Tryz.prog 98 #[.pointer (some ⟨b,0,none⟩),.int .u8 (c.toNat:Int)] w fun e w' => e = .returned .nilIface ∧ Wr B b (L ++ [c]) w' ∧ OnW B b w w':=by
 obtain ⟨i0,hi,hz0,hz1,hz2⟩:=info_parts infoByte
 have hcl:=Lib.byteCells_length L
 have eb:Lib.byteCells (L ++ [c]) = Lib.byteCells L ++ [.int .u8 (c.toNat:Int)]:=by simp [Lib.byteCells]
 unfold Wr at h ⊢
 rw [eb]
 rw [← hcl] at hlen
 generalize Lib.byteCells L = bs at h hcl hlen
 clear hcl
 generalize (c.toNat:Int) = c
 have HB:=Lib.hid h
 clear h eb
 go_enter Tryz.func98,Tryz.ntmps98
 go_wp2_with (go_at_call 123;refine (check_x B b bs _ HB.out).mono ?_)
 rintro e w1 ⟨rfl,h1,hb1⟩
 obtain ⟨hB,v,hbk,hown,hne⟩:=h1
 have c0:w1.cell? ⟨b,0,none⟩ = some (.pointer (some ⟨b,0,none⟩)):=by rw [Lib.cell_of_heap hbk];rfl
 have c1:w1.cell? ⟨b,1,none⟩ = some v:=by rw [Lib.cell_of_heap hbk];rfl
 go_wp2_with (at_builtin;refine wpList_append_own _ rfl _ _ 56 rfl B 5 i0 (.int .u8 0) 1 1 Tryz.underlying56 hi hz0 hz1 hz2 rfl (by decide) _ _ _ rfl (hown.alloc _) ⟨w1.heap.size,0,none⟩ 1 1 [.int .u8 c] rfl rfl ?c1 ?c2 ?c3 ?c4 ?c5 ?_)
 case c1 =>
  intro j u hj
  match j,hj with
  | 0,hj => simp at hj;subst hj;simp [Addr.add]
 case c2 => intro u hu;simp at hu;subst hu;rfl
 case c3 => unfold maxLen;omega
 case c4 => omega
 case c5 => have:=hb1.size;simp;omega
 intro v' w2 hown' hgrow _
 have hlt:b < w1.heap.size:=by
  rcases Nat.lt_or_ge b w1.heap.size with h' | h'
  ·exact h'
  ·simp [Array.getElem?_eq_none h'] at hbk
 have hb2:w2.heap[b]? = some (.cells #[.pointer (some ⟨b,0,none⟩),v] 127 (0,0)):=by
  rw [hgrow.block b (by simp;omega) (fun e => hne e.symm),Lib.alloc_old w1 _ b hlt]
  exact hbk
 have d0:w2.cell? ⟨b,0,none⟩ = some (.pointer (some ⟨b,0,none⟩)):=by rw [Lib.cell_of_heap hb2];rfl
 have d1:w2.cell? ⟨b,1,none⟩ = some v:=by rw [Lib.cell_of_heap hb2];rfl
 have f1:w2.frozen? ⟨b,1,none⟩ = false:=Lib.frozen_of_heap hb2 1
 obtain ⟨g,cap,rfl⟩:∃ g cap,v' = .slice (some ⟨g,0,none⟩) (bs.length + 1) cap:=by
  rcases hown'.2 with ⟨_,h0⟩ | ⟨g,cap,cur,hv,_⟩
  ·omega
  ·exact ⟨g,cap,hv⟩
 go_wp2
 go_ret
 refine ⟨rfl,.inr ?_,?_⟩
 ·exact Lib.BuilderAt.put (T:=127) (e:=5) hB hb2 (bs':=bs ++ [.int .u8 c]) (by simpa using hown') (by decide)
 ·exact ((hb1.alloc (by have:=hb1.size;omega) _).row (hown.alloc _) hgrow (by have:=hb1.size;simp;omega) (fun k hk => (hown.lt k hk).1)).setCell (p:=⟨b,1,none⟩) hB rfl _
set_option maxHeartbeats 2000000 in
set_option maxRecDepth 100000 in
theorem wstring_x (B b:Nat) (L:List UInt8) (s:ByteArray) (w:World) (h:Wr B b L w) (hlen:L.length + s.size ≤ 140737488355328) (hBw:B ≤ w.heap.size) :
  Calls Tryz.prog 109 #[.pointer (some ⟨b,0,none⟩),.string s] w fun e w' => e = .returned (.tuple #[.int .i64 s.size,.nilIface]) ∧ Wr B b (L ++ s.data.toList) w' ∧ OnW B b w w':=by
 obtain ⟨i0,hi,hz0,hz1,hz2⟩:=info_parts infoByte
 have hcl:=Lib.byteCells_length L
 have eb:Lib.byteCells (L ++ s.data.toList) = Lib.byteCells L ++ Lib.strCells s:=by simp [Lib.byteCells,Lib.strCells]
 unfold Wr at h ⊢
 rw [eb]
 rw [← hcl] at hlen
 generalize Lib.byteCells L = bs at h hcl hlen
 clear hcl
 have HB:=Lib.hid h
 clear h eb
 go_enter Tryz.func109,Tryz.ntmps109
 go_wp2_with (go_at_call 123;refine (check_x B b bs _ HB.out).mono ?_)
 rintro e w1 ⟨rfl,h1,hb1⟩
 obtain ⟨hB,v,hbk,hown,hne⟩:=h1
 have c0:w1.cell? ⟨b,0,none⟩ = some (.pointer (some ⟨b,0,none⟩)):=by rw [Lib.cell_of_heap hbk];rfl
 have c1:w1.cell? ⟨b,1,none⟩ = some v:=by rw [Lib.cell_of_heap hbk];rfl
 go_wp2_with (at_builtin;refine Lib.wpList_append_own_string _ rfl _ _ 56 9 rfl B 5 i0 Tryz.underlying56 Tryz.underlying9 hi hz0 hz1 hz2 _ _ _ rfl hown s rfl ?c3 ?c4 ?c5 ?_)
 case c3 => unfold maxLen;omega
 case c4 => omega
 case c5 => have:=hb1.size;omega
 intro v' w2 hown' hgrow _
 have hlt:b < w1.heap.size:=by
  rcases Nat.lt_or_ge b w1.heap.size with h' | h'
  ·exact h'
  ·simp [Array.getElem?_eq_none h'] at hbk
 have hb2:w2.heap[b]? = some (.cells #[.pointer (some ⟨b,0,none⟩),v] 127 (0,0)):=by
  rw [hgrow.block b hlt (fun e => hne e.symm)]
  exact hbk
 have d0:w2.cell? ⟨b,0,none⟩ = some (.pointer (some ⟨b,0,none⟩)):=by rw [Lib.cell_of_heap hb2];rfl
 have d1:w2.cell? ⟨b,1,none⟩ = some v:=by rw [Lib.cell_of_heap hb2];rfl
 have f1:w2.frozen? ⟨b,1,none⟩ = false:=Lib.frozen_of_heap hb2 1
 obtain ⟨ao,n',cap,rfl⟩:∃ ao n' cap,v' = .slice ao n' cap:=by
  rcases hown'.2 with ⟨hv,_⟩ | ⟨g,cap,cur,hv,_⟩
  ·exact ⟨_,_,_,hv⟩
  ·exact ⟨_,_,_,hv⟩
 go_wp2
 go_ret2
 refine ⟨rfl,.inr ?_,?_⟩
 ·exact Lib.BuilderAt.put (T:=127) (e:=5) hB hb2 (bs':=bs ++ Lib.strCells s) (by simpa [Lib.strCells_length] using hown') (by decide)
 ·exact (hb1.row hown hgrow (by have:=hb1.size;omega) (fun k hk => (hown.lt k hk).1)).setCell (p:=⟨b,1,none⟩) hB rfl _
set_option maxRecDepth 100000 in
set_option maxHeartbeats 1000000 in
theorem wnumber_x (B b:Nat) (L:List UInt8) (g:Nat) (n:Nat) (w:World) (h:Wr B b L w) (hc:w.cell? ⟨g,0,none⟩ = some (.int .i64 (n:Int))) (hn:n ≤ 1000000) (hlen:L.length ≤ 1000000) (hBw:B ≤ w.heap.size) :
  Calls Tryz.prog 57 #[.pointer (some ⟨b,0,none⟩),.slice (some ⟨g,0,none⟩) 1 1] w fun e w' => e = .returned (.tuple #[]) ∧ Wr B b (L ++ numB n) w' ∧ OnW B b w w':=by
 have HW:=Lib.hid h
 clear h
 go_enter Tryz.func57,Tryz.ntmps57
 go_wp2_with fail
 go_loopw [10] (fun i wr => (i = .int .i64 0 ∧ w = wr) ∨ (i = .int .i64 1 ∧ Wr B b (L ++ numB n) wr ∧ OnW B b w wr)) (fun i _ => (1 - intOf i).toNat)
 case atStart => exact .inl ⟨rfl,rfl⟩
 case round =>
  rcases hrel with ⟨rfl,rfl⟩ | ⟨rfl,hW2,hB2⟩
  ·have n0:(0:Int) ≤ n:=by omega
   have m1:min (n:Int) 1099511627775 = n:=by omega
   have m2:max (0:Int) n = n:=by omega
   go_wp2_with fail
   go_loopw [5] (fun v wr => ∃ (m:Nat) (K:List UInt8),v = .int .i64 m ∧ m ≤ n ∧ Hid (K ++ numB m = L ++ numB n) ∧ Wr B b K wr ∧ OnW B b w wr) (fun v _ => (intOf v).toNat)
   case atStart => exact ⟨n,L,rfl,by omega,Lib.hid rfl,HW.out,OnW.refl _ _ _⟩
   case round =>
    obtain ⟨wo,rfl⟩:∃ wo:World,wo = wr:=⟨_,rfl⟩
    obtain ⟨m,K,rfl,hm,hK,hWo,hbo⟩:=hrel
    have HK:Hid (K.length ≤ 1000010):=by
     have h1:=congrArg List.length hK.out
     rw [List.length_append,List.length_append] at h1
     have h2:=numB_len 3 n (by omega)
     unfold Hid;omega
    have hsz:=hbo.size
    by_cases h128:128 ≤ m
    ·have d1:decide ((128:Int) ≤ m) = true:=decide_eq_true (by omega)
     have HN:=numB_great h128
     have hlt:m % 128 + 128 < 256:=by omega
     have hcv:bits .or .u8 ((m:Int) % 128) 128 = ((UInt8.ofNat (m % 128 + 128)).toNat:Int):=by
      rw [show (m:Int) % 128 = ((m % 128:Nat):Int) by omega,or128,UInt8.toNat_ofNat',Nat.mod_eq_of_lt hlt]
     have hrm:((m:Int).tmod 128) = (m:Int) % 128:=by rw [Int.tmod_eq_emod_of_nonneg (by omega)]
     have hdv:((m:Int).tdiv 128) = ((m / 128:Nat):Int):=by rw [Int.tdiv_eq_ediv_of_nonneg (by omega)];omega
     have hdv2:(m:Int) / 128 = ((m / 128:Nat):Int):=by omega
     have hw8:IntKind.u8.wrap ((m:Int) % 128) = (m:Int) % 128:=by rw [IntKind.wrap_u8];omega
     have hqm:m / 128 < m:=by omega
     have hw64:IntKind.i64.wrap ((m / 128:Nat):Int) = ((m / 128:Nat):Int):=IntWalk.i64_in _ (by omega)
     have HK2:Hid ((K ++ [UInt8.ofNat (m % 128 + 128)]) ++ numB (m / 128) = L ++ numB n):=by
      unfold Hid;rw [← hK.out,HN,List.append_assoc];rfl
     generalize UInt8.ofNat (m % 128 + 128) = x at hcv HK2
     generalize m / 128 = q at hdv hdv2 hqm hw64 HK2
     have HWB:=Lib.hid (fun W (hW:Wr B b K W) (hBW:B ≤ W.heap.size) => wbyte_x B b K x W hW (by have:=HK.out;omega) hBW)
     have HWO:=Lib.hid hWo
     have HBO:=Lib.hid hbo
     clear hWo hbo hK HN hlt
     go_wp2_with fail
     refine (HWB.out _ HWO.out (by omega)).mono ?_
     rintro e w1 ⟨rfl,h1,hb1⟩
     have H1:=Lib.hid h1
     have HB1:=Lib.hid (HBO.out.trans (hb1))
     clear h1 hb1
     go_wp2
     go_roundw
     case rel => exact ⟨q,K ++ [x],rfl,by omega,HK2,H1.out,HB1.out⟩
     case measure => simp [intOf];omega
    ·have d1:decide ((128:Int) ≤ m) = false:=decide_eq_false (by omega)
     have HN:=Lib.hid (numB_small (n:=m) (by omega))
     have hw8:IntKind.u8.wrap (m:Int) = (m:Int):=by rw [IntKind.wrap_u8];omega
     have hcv:((UInt8.ofNat m).toNat:Int) = (m:Int):=by rw [UInt8.toNat_ofNat',Nat.mod_eq_of_lt (by omega)]
     have HWB:=Lib.hid (fun W (hW:Wr B b K W) (hBW:B ≤ W.heap.size) => by have:=wbyte_x B b K (UInt8.ofNat m) W hW (by have:=HK.out;omega) hBW;rw [hcv] at this;exact this)
     have HK2:Hid (K ++ [UInt8.ofNat m] = L ++ numB n):=by unfold Hid;rw [← hK.out,HN.out]
     have HWO:=Lib.hid hWo
     have HBO:=Lib.hid hbo
     clear hWo hbo hK HN hcv
     go_wp2_with fail
     refine (HWB.out _ HWO.out (by omega)).mono ?_
     rintro e w1 ⟨rfl,h1,hb1⟩
     have H1:=Lib.hid h1
     have HB1:=Lib.hid (HBO.out.trans (hb1))
     clear h1 hb1
     go_wp2
     rw [HK2.out] at H1
     go_roundw
     case rel => exact .inr ⟨rfl,H1.out,HB1.out⟩
     case measure => simp [intOf]
  ·have HW2:=Lib.hid hW2
   have HB2:=Lib.hid hB2
   clear hW2 hB2
   go_wp2
   go_end0
   exact ⟨rfl,HW2.out,HB2.out⟩
set_option maxRecDepth 100000 in
set_option maxHeartbeats 1000000 in
theorem wwraw_x (B b:Nat) (L:List UInt8) (g:Nat) (s:ByteArray) (w:World) (h:Wr B b L w) (hc:w.cell? ⟨g,0,none⟩ = some (.string s)) (hlen:L.length + s.size ≤ 10000000) (hBw:B ≤ w.heap.size) :
  Calls Tryz.prog 86 #[.pointer (some ⟨b,0,none⟩),.slice (some ⟨g,0,none⟩) 1 1] w fun e w' => e = .returned (.tuple #[]) ∧ Wr B b (L ++ s.data.toList) w' ∧ OnW B b w w':=by
 have HW:=Lib.hid h
 clear h
 go_enter Tryz.func86,Tryz.ntmps86
 go_wp2_with fail
 go_loopw [10] (fun i wr => (i = .int .i64 0 ∧ w = wr) ∨ (i = .int .i64 1 ∧ Wr B b (L ++ s.data.toList) wr ∧ OnW B b w wr)) (fun i _ => (1 - intOf i).toNat)
 case atStart => exact .inl ⟨rfl,rfl⟩
 case round =>
  rcases hrel with ⟨rfl,rfl⟩ | ⟨rfl,hW2,hB2⟩
  ·go_wp2_with fail
   refine (wstring_x B b L s _ HW.out (by omega) hBw).mono ?_
   rintro e w1 ⟨rfl,h1,hb1⟩
   have H1:=Lib.hid h1
   have HB1:=Lib.hid hb1
   clear h1 hb1
   go_wp2
   go_roundw
   case rel => exact .inr ⟨by go_num,H1.out,HB1.out⟩
   case measure => simp [intOf]
  ·have HW2:=Lib.hid hW2
   have HB2:=Lib.hid hB2
   clear hW2 hB2
   go_wp2
   go_end0
   exact ⟨rfl,HW2.out,HB2.out⟩
set_option maxRecDepth 100000 in
set_option maxHeartbeats 1000000 in
theorem wwtext_x (B b:Nat) (L:List UInt8) (g:Nat) (s:ByteArray) (w:World) (h:Wr B b L w) (hc:w.cell? ⟨g,0,none⟩ = some (.string s)) (hs:s.size ≤ 1000000) (hlen:L.length ≤ 1000000) (hBw:B ≤ w.heap.size) :
  Calls Tryz.prog 58 #[.pointer (some ⟨b,0,none⟩),.slice (some ⟨g,0,none⟩) 1 1] w fun e w' => e = .returned (.tuple #[]) ∧ Wr B b (L ++ (numB s.size ++ s.data.toList)) w' ∧ OnW B b w w':=by
 have HW:=Lib.hid h
 clear h
 have hsz:=HW.out.lt
 have hgb:=HW.out.ge
 have hnl:=numB_le6 (n:=s.size) (by omega)
 go_enter Tryz.func58,Tryz.ntmps58
 go_wp2_with fail
 go_loopw [8] (fun i wr => (i = .int .i64 0 ∧ w = wr) ∨ (i = .int .i64 1 ∧ Wr B b (L ++ (numB s.size ++ s.data.toList)) wr ∧ OnW B b w wr)) (fun i _ => (1 - intOf i).toNat)
 case atStart => exact .inl ⟨rfl,rfl⟩
 case round =>
  rcases hrel with ⟨rfl,rfl⟩ | ⟨rfl,hW2,hB2⟩
  ·go_wp2_with fail
   have hba:∀ (W:World) (o:Obj),Below W.heap.size W (W.alloc o):=fun W o => (Below.refl _ _).alloc (Nat.le_refl _) _
   refine (wnumber_x B b L w.heap.size s.size _ (HW.out.below (hba _ _)) (by rw [World.cell?_alloc_new];rfl) (by omega) hlen (by simp;omega)).mono ?_
   rintro e w1 ⟨rfl,h1,hb1⟩
   have H1:=Lib.hid h1
   have HB1:=Lib.hid (((OnW.refl B b w).alloc hBw _).trans hb1)
   have hsz1:=HB1.out.size
   clear h1 hb1
   go_wp2_with fail
   refine (wwraw_x B b (L ++ numB s.size) w1.heap.size s _ (H1.out.below (hba _ _)) (by rw [World.cell?_alloc_new];rfl) (by rw [List.length_append];omega) (by simp;omega)).mono ?_
   rintro e w2 ⟨rfl,h2,hb2⟩
   rw [List.append_assoc] at h2
   have H2:=Lib.hid h2
   have HB2:=Lib.hid ((HB1.out.alloc (by omega) _).trans hb2)
   clear h2 hb2
   go_wp2
   go_roundw
   case rel => exact .inr ⟨by go_num,H2.out,HB2.out⟩
   case measure => simp [intOf]
  ·have HW2:=Lib.hid hW2
   have HB2:=Lib.hid hB2
   clear hW2 hB2
   go_wp2
   go_end0
   exact ⟨rfl,HW2.out,HB2.out⟩
def WiSx (B b:Nat) (L:List UInt8) (l:List Idl) (w:World) (i:Value) (wr:World):Prop :=
 ∃ k:Nat,i = .int .i64 (k:Int) ∧ k ≤ l.length ∧ Wr B b (L ++ (l.take k).flatten) wr ∧ OnW B b w wr ∧ (k = 0 → wr = w)
set_option maxRecDepth 100000 in
set_option maxHeartbeats 2000000 in
theorem wwid_x (B b:Nat) (L:List UInt8) (v:Value) (l:List Idl) (w:World) (h:Wr B b L w) (hv:IdRow w v l) (hl:∀ y ∈ l,y.length = 32) (hblk:1 < l.length → ∀ j,v.ownBlock = some j → j < B) (hn:l.length ≤ 1000) (hlen:L.length ≤ 1000000) (hBw:B ≤ w.heap.size) :
  Calls Tryz.prog 59 #[.pointer (some ⟨b,0,none⟩),v] w fun e w' => e = .returned (.tuple #[]) ∧ Wr B b (L ++ l.flatten) w' ∧ OnW B b w w':=by
 obtain ⟨zi,i0,hi,hz0,hz1,hz2,hzi,hzil⟩:=id_zero
 have HZI:=Lib.hid hzil
 obtain ⟨ao,cap,rfl,hmax,hcells⟩:=hv.open
 have HV:=Lib.hid hcells
 have HW:=Lib.hid h
 have HL:=Lib.hid hl
 have HBK:=Lib.hid hblk
 clear h hv hl hblk hcells hzil
 go_enter Tryz.func59,Tryz.ntmps59
 go_wp2_with fail
 go_loopw [8] (fun i wr => WiSx B b L l w i wr) (fun i _ => (l.length - intOf i).toNat)
 case atStart => exact ⟨0,rfl,by omega,by simpa using HW.out,OnW.refl _ _ _,fun _ => rfl⟩
 case round =>
  obtain ⟨wi,rfl⟩:∃ wi:World,wi = wr:=⟨_,rfl⟩
  obtain ⟨k,rfl,hk,hw,hb,h0⟩:=hrel
  have HWI:=Lib.hid hw
  have HBI:=Lib.hid hb
  have hsz:=hb.size
  by_cases hlt:k < l.length
  ·obtain ⟨br,off,rfl,hbl,hcell⟩:=HV.out (by intro e;rw [e] at hlt;simp at hlt)
   obtain ⟨x,hx⟩:∃ x,l[k] = x:=⟨_,rfl⟩
   have hxl:x.length = 32:=by rw [← hx];exact HL.out _ (List.getElem_mem hlt)
   have f1:wi.rangeAt br (off + k * 32) (idC x):=by
    rw [← hx]
    by_cases e:k = 0
    ·rw [h0 e];exact hcell k hlt
    ·exact rangeAt_below (hcell k hlt) hb.bel (HBK.out (by omega) br rfl)
   have HTK:Hid (L ++ (l.take (k + 1)).flatten = (L ++ (l.take k).flatten) ++ x):=Lib.hid (by rw [List.take_succ_eq_append_getElem hlt,hx,List.flatten_append];simp)
   have hfl:∀ (m:List Idl),(∀ y ∈ m,y.length = 32) → m.flatten.length = 32 * m.length:=by
    intro m
    induction m with
    | nil => intro _;rfl
    | cons a m ih => intro h;rw [List.flatten_cons,List.length_append,h a (by simp),ih (fun y hy => h y (List.mem_cons_of_mem _ hy)),List.length_cons];omega
   have hll:(L ++ (l.take k).flatten).length ≤ 2000000:=by
    rw [List.length_append,hfl (l.take k) (fun y hy => HL.out y (List.mem_of_mem_take hy)),List.length_take];omega
   have hxc:(idC x).length = 32:=by rw [idC_len,hxl]
   have h32x:=h32_of hxc
   have h32:(Tryz.prog.info? 27).map (·.size) = some 32:=by kernel_rfl
   obtain ⟨W1,hW1⟩:∃ W1,(wi.alloc (.cells zi 27)).setCells wi.heap.size 0 (idC x) = W1:=⟨_,rfl⟩
   have wr1:=wrote (by rw [hxc,HZI.out]) (by rw [HZI.out];omega) hW1
   have hcv:=conv_range W1 wi.heap.size x wr1.row 32
   rw [hxl] at hcv
   have HTH:=Lib.hid (there_alloc wi zi 27 HZI.out)
   have HXC:=Lib.hid hxc
   have HXO:=Lib.hid (idC_one x)
   have HW1:=Lib.hid hW1
   obtain ⟨Lk,hLk⟩:∃ Lk,L ++ (l.take k).flatten = Lk:=⟨_,rfl⟩
   rw [hLk] at HWI HTK hll
   have hb2:Below W1.heap.size W1 (W1.alloc (.cells #[.string (ofB x)] 9)):=(Below.refl _ _).alloc (Nat.le_refl _) _
   have hbb:Below wi.heap.size wi (W1.alloc (.cells #[.string (ofB x)] 9)):=wr1.bel.trans (hb2.mono wr1.bel.size)
   have hsb:=hbb.size
   have hraw:=wwraw_x B b Lk W1.heap.size (ofB x) (W1.alloc (.cells #[.string (ofB x)] 9)) (HWI.out.below hbb) (by rw [World.cell?_alloc_new];rfl) (by rw [ofB_size,hxl];omega) (by omega)
   rw [ofB_data,← HTK.out] at hraw
   have HRAW:=Lib.hid hraw
   have HBB:=Lib.hid (HBI.out.trans (OnW.below hbb (by omega)))
   have k0:(0:Int) ≤ k:=by omega
   have k1:(k:Int) < l.length:=by omega
   have d1:decide ((k:Int) < l.length) = true:=decide_eq_true k1
   clear hcell hx hxl hfl hxc wr1 hW1 hLk hb2 hbb hraw hw hb h0
   generalize idC x = ux at f1 h32x HTH HXC HXO HW1
   go_wp2_with (first
    | (refine wpList_load_mid rfl 27 _ rfl br (off + k * 32) rfl ux _ f1 Tryz.underlying27 rfl h32x ?_)
    | (refine wpList_store_list rfl 27 _ _ rfl wi.heap.size 0 ux rfl rfl 32 HXC.out HTH.out h32 HXO.out ?_;rw [HW1.out]))
   refine HRAW.out.mono ?_
   rintro e w2 ⟨rfl,hw2,hb2⟩
   have HEND:Hid (WiSx B b L l w (.int .i64 ((k:Int) + 1)) w2):=Lib.hid ⟨k + 1,by rw [Int.natCast_add];rfl,by omega,hw2,HBB.out.trans hb2,fun e => by omega⟩
   clear hw2 hb2
   go_wp2
   go_roundw
   case rel => exact HEND.out
   case measure => simp [intOf];omega
  ·have d1:decide ((k:Int) < l.length) = false:=decide_eq_false (by omega)
   rw [List.take_of_length_le (by omega)] at HWI
   clear hw hb h0
   go_wp2
   go_end0
   exact ⟨rfl,HWI.out,HBI.out⟩
theorem type_setCell (w:World) (a:Addr) (v:Value) {cur:Array Value} {e:TypeId} {fr:Nat × Nat} (h:w.heap[a.block]? = some (.cells cur e fr)):∃ cur',(w.setCell a v).heap[a.block]? = some (.cells cur' e fr):=by
 obtain ⟨hlt,hk⟩:=Array.getElem?_eq_some_iff.1 h
 show ∃ cur',(w.heap.modify a.block _)[a.block]? = _
 rw [Array.getElem?_eq_getElem (by rw [Array.size_modify];exact hlt),Array.getElem_modify_self,hk]
 exact ⟨_,rfl⟩
theorem type_setCells (g:Nat) {e:TypeId} {fr:Nat × Nat}:∀ (vs:List Value) (o:Nat) (w:World) (cur:Array Value),w.heap[g]? = some (.cells cur e fr) → ∃ cur',(w.setCells g o vs).heap[g]? = some (.cells cur' e fr)
 | [],o,w,cur,h => ⟨cur,h⟩
 | v :: vs,o,w,cur,h => by
  obtain ⟨cur',h'⟩:=type_setCell w ⟨g,o,none⟩ v h
  exact type_setCells g vs (o + 1) _ cur' h'
theorem wrote_type (w:World) (a:Array Value) (e:TypeId) (us:List Value):∃ cur,((w.alloc (.cells a e)).setCells w.heap.size 0 us).heap[w.heap.size]? = some (.cells cur e (0,0)) :=
 type_setCells w.heap.size us 0 _ a (World.alloc_heap_new w _)
set_option maxHeartbeats 1000000 in
set_option maxRecDepth 100000 in
theorem bstring_nil (b:Nat) (w:World) (h:w.heap[b]? = some (.cells #[.pointer none,.slice none 0 0] 127 (0,0))) :
  Calls Tryz.prog 99 #[.pointer (some ⟨b,0,none⟩)] w fun e w' => e = .returned (.string ⟨#[]⟩) ∧ Below w.heap.size w w':=by
 have c1:w.drew.cell? ⟨b,1,none⟩ = some (.slice none 0 0):=by
  have h2:w.drew.heap[b]? = some (.cells #[.pointer none,.slice none 0 0] 127 (0,0)):=h
  rw [Lib.cell_of_heap h2];rfl
 have hSD:(Builtin.unsafeSliceData_ #[56] 196 #[.slice none 0 0]).run Tryz.prog w.drew = .ok (.pointer none) w.drew:=Lib.run_unsafeSliceData_nil _ _ _ _ _
 have hUS:(Builtin.unsafeString_ #[196,3] 9 #[.pointer none,.int .i64 0]).run Tryz.prog w.drew = .ok (.string ⟨#[]⟩) w.drew:=Lib.run_unsafeString_none _ _ _ _ _
 clear h
 go_enter Tryz.func99,Tryz.ntmps99
 go_wp2
 go_region
 all_goals (go_wp2;go_ret;exact ⟨rfl,Below.drew (Below.refl _ w)⟩)
set_option maxRecDepth 100000 in
theorem wwout_nil (b:Nat) (w:World) (h:w.heap[b]? = some (.cells #[.pointer none,.slice none 0 0] 127 (0,0))) :
  Calls Tryz.prog 60 #[.pointer (some ⟨b,0,none⟩)] w fun e w' => e = .returned (.string ⟨#[]⟩) ∧ Below w.heap.size w w':=by
 have HS:=Lib.hid (bstring_nil b w h)
 clear h
 go_enter Tryz.func60,Tryz.ntmps60
 go_wp2_with fail
 refine HS.out.mono ?_
 rintro e w1 ⟨rfl,hb⟩
 go_wp2
 go_ret
 exact ⟨rfl,hb⟩
end Go.Proofs.YtmhjpmenngjmeaaGreatDoor

/- A part of this claim. -/
import Derived.Test.YtlhcoanbhnphgaaGreatDoorWm15
import Derived.Test.YtlhcoanbhnphgaaGreatDoorWm23
namespace Go.Proofs.YtlhcoanbhnphgaaGreatDoor
open Tryz
set_option maxHeartbeats 64000000
set_option maxRecDepth 100000
section
open Go.RowKit Go.Shelf
structure OnW (B b:Nat) (w w':World):Prop where
 bel:Below B w w'
 off:∀ k o,w.heap[k]? = some o → k ≠ b → (∀ cur,o ≠ .cells cur 5 (0,0)) → w'.heap[k]? = some o
theorem OnW.refl (B b:Nat) (w:World):OnW B b w w:=⟨Below.refl B w,fun _ _ h _ _ => h⟩
theorem OnW.trans {B b:Nat} {u v w:World} (h:OnW B b u v) (k:OnW B b v w):OnW B b u w:=⟨h.bel.trans k.bel,fun j o hj hn ho => k.off j o (h.off j o hj hn ho) hn ho⟩
theorem OnW.size {B b:Nat} {v w:World} (h:OnW B b v w):v.heap.size ≤ w.heap.size:=h.bel.size
theorem OnW.below {B b:Nat} {v w:World} (h:Below v.heap.size v w) (hB:B ≤ v.heap.size):OnW B b v w:=⟨h.mono hB,fun j _ hj _ _ => (h.block j (Array.getElem?_eq_some_iff.1 hj).1).trans hj⟩
theorem OnW.alloc {B b:Nat} {v w:World} (h:OnW B b v w) (hB:B ≤ w.heap.size) (o:Obj):OnW B b v (w.alloc o):=h.trans (OnW.below bal hB)
theorem OnW.setCell {B b:Nat} {v w:World} (h:OnW B b v w) {p:Addr} (hB:B ≤ p.block) (hp:p.block = b) (u:Value):OnW B b v (w.setCell p u) :=
 ⟨h.bel.setCell (p:=p) hB u,fun j o hj hn ho => (Below.heap_setCell w p u j (fun e => hn (e.trans hp))).trans (h.off j o hj hn ho)⟩
theorem OnW.row {B b:Nat} {a w w2:World} {v:Value} {n:Nat} {xs:List Value} {B':Nat} (h:OnW B b a w) (hown:w.ownsRow B' 5 1 v n xs) (hg:w.grownBy w2 v.ownBlock) (hB:B ≤ w.heap.size) (hr:∀ k,v.ownBlock = some k → B ≤ k):OnW B b a w2 :=
 ⟨h.bel.grown hg hB hr,fun j o hj hn ho => by
  have hw:=h.off j o hj hn ho
  refine (hg.block j (Array.getElem?_eq_some_iff.1 hw).1 fun e => ?_).trans hw
  rcases ownsRow_ne_a hown hw ho with h1 | h1
  ·rw [h1] at e;cases e
  exact h1 e.symm⟩
theorem CX (B b:Nat) (bs:List Value) (w:World) (h:Lib.IsBuilder 193 5 B b bs w) :
  Calls prog 235 #[.pointer (some ⟨b,0,none⟩)] w fun e w' => e = .returned (.tuple #[]) ∧ (Lib.BuilderAt 193 5 B b (.pointer (some ⟨b,0,none⟩)) bs w' ∧ OnW B b w w'):=by
 rcases h with h | h
 ·refine (qj b w h.cell0 h.shape h.frozen0).mono ?_
  rintro e w' ⟨rfl,rfl⟩
  exact ⟨rfl,h.used _,(OnW.refl B b w).setCell (p:=⟨b,0,none⟩) h.1 rfl _⟩
 refine (uq b w h.cell0).mono ?_
 rintro e w' ⟨rfl,rfl⟩
 exact ⟨rfl,h,OnW.refl B b _⟩
theorem Cj (B b:Nat) (L:List UInt8) (c:UInt8) (w:World) (h:Wr B b L w) (hlen:L.length + 1 ≤ 140737488355328) (hBw:B ≤ w.heap.size) :
  Calls prog 192 #[.pointer (some ⟨b,0,none⟩),.int .u8 (c.toNat:Int)] w fun e w' => e = .returned .nilIface ∧ Wr B b (L ++ [c]) w' ∧ OnW B b w w':=by
 obtain ⟨i0,hi,hz0,hz1,hz2⟩:=info_parts infoByte
 have hcl:=Lib.byteCells_length L
 have eb:Lib.byteCells (L ++ [c]) = Lib.byteCells L ++ [.int .u8 (c.toNat:Int)]:=by simp [Lib.byteCells]
 unfold Wr at h ⊢
 rw [eb]
 rw [← hcl] at hlen
 generalize Lib.byteCells L = bs at h hcl hlen
 clear hcl
 generalize (c.toNat:Int) = c
 have HB:=ah h
 clear h eb
 go_enter func192,ntmps192
 go_wp2_with (go_at_call 235;refine (CX B b bs _ HB.out).mono ?_)
 rintro e w1 ⟨rfl,h1,hb1⟩
 obtain ⟨hB,v,hbk,hown,hne⟩:=h1
 have c0:w1.cell? ⟨b,0,none⟩ = some (.pointer (some ⟨b,0,none⟩)):=by rw [Lib.cell_of_heap hbk];rfl
 have c1:w1.cell? ⟨b,1,none⟩ = some v:=by rw [Lib.cell_of_heap hbk];rfl
 go_wp2_with (at_builtin;refine wpList_append_own _ rfl _ _ 96 rfl B 5 i0 (.int .u8 0) 1 1 underlying96 hi hz0 hz1 hz2 rfl (by decide) _ _ _ rfl (hown.alloc _) ⟨w1.heap.size,0,none⟩ 1 1 [.int .u8 c] rfl rfl ?c1 ?c2 ?c3 ?c4 ?c5 ?_)
 case c1 =>
  intro j u hj
  match j,hj with
  | 0,hj => simp at hj;subst hj;simp [Addr.add]
 case c2 => intro u hu;simp at hu;subst hu;rfl
 case c3 => unfold maxLen;omega
 case c4 => omega
 case c5 => have:=hb1.size;simp;omega
 intro v' w2 hown' hgrow _
 have hlt:b < w1.heap.size:=by
  rcases Nat.lt_or_ge b w1.heap.size with h' | h'
  ·exact h'
  simp [Array.getElem?_eq_none h'] at hbk
 have hb2:w2.heap[b]? = some (.cells #[.pointer (some ⟨b,0,none⟩),v] 193 (0,0)):=by
  rw [hgrow.block b (by simp;omega) (fun e => hne e.symm),Lib.alloc_old w1 _ b hlt]
  exact hbk
 have d0:w2.cell? ⟨b,0,none⟩ = some (.pointer (some ⟨b,0,none⟩)):=by rw [Lib.cell_of_heap hb2];rfl
 have d1:w2.cell? ⟨b,1,none⟩ = some v:=by rw [Lib.cell_of_heap hb2];rfl
 have f1:w2.frozen? ⟨b,1,none⟩ = false:=Lib.frozen_of_heap hb2 1
 obtain ⟨g,cap,rfl⟩:∃ g cap,v' = .slice (some ⟨g,0,none⟩) (bs.length + 1) cap:=by
  rcases hown'.2 with ⟨_,h0⟩ | ⟨g,cap,cur,hv,_⟩
  ·omega
  exact ⟨g,cap,hv⟩
 go_wp2
 go_ret
 refine ⟨rfl,.inr ?_,?_⟩
 ·exact Lib.BuilderAt.put (T:=193) (e:=5) hB hb2 (bs':=bs ++ [.int .u8 c]) (by simpa using hown') (by decide)
 exact ((hb1.alloc (by have:=hb1.size;omega) _).row (hown.alloc _) hgrow (by have:=hb1.size;simp;omega) (fun k hk => (hown.lt k hk).1)).setCell (p:=⟨b,1,none⟩) hB rfl _
theorem Dl (B b:Nat) (L:List UInt8) (s:ByteArray) (w:World) (h:Wr B b L w) (hlen:L.length + s.size ≤ 140737488355328) (hBw:B ≤ w.heap.size) :
  Calls prog 191 #[.pointer (some ⟨b,0,none⟩),.string s] w fun e w' => e = .returned (.tuple #[.int .i64 s.size,.nilIface]) ∧ Wr B b (L ++ s.data.toList) w' ∧ OnW B b w w':=by
 obtain ⟨i0,hi,hz0,hz1,hz2⟩:=info_parts infoByte
 have hcl:=Lib.byteCells_length L
 have eb:Lib.byteCells (L ++ s.data.toList) = Lib.byteCells L ++ Lib.strCells s:=by simp [Lib.byteCells,Lib.strCells]
 unfold Wr at h ⊢
 rw [eb]
 rw [← hcl] at hlen
 generalize Lib.byteCells L = bs at h hcl hlen
 clear hcl
 have HB:=ah h
 clear h eb
 go_enter func191,ntmps191
 go_wp2_with (go_at_call 235;refine (CX B b bs _ HB.out).mono ?_)
 rintro e w1 ⟨rfl,h1,hb1⟩
 obtain ⟨hB,v,hbk,hown,hne⟩:=h1
 have c0:w1.cell? ⟨b,0,none⟩ = some (.pointer (some ⟨b,0,none⟩)):=by rw [Lib.cell_of_heap hbk];rfl
 have c1:w1.cell? ⟨b,1,none⟩ = some v:=by rw [Lib.cell_of_heap hbk];rfl
 go_wp2_with (at_builtin;refine Lib.wpList_append_own_string _ rfl _ _ 96 9 rfl B 5 i0 underlying96 underlying9 hi hz0 hz1 hz2 _ _ _ rfl hown s rfl ?c3 ?c4 ?c5 ?_)
 case c3 => unfold maxLen;omega
 case c4 => omega
 case c5 => have:=hb1.size;omega
 intro v' w2 hown' hgrow _
 have hlt:b < w1.heap.size:=by
  rcases Nat.lt_or_ge b w1.heap.size with h' | h'
  ·exact h'
  simp [Array.getElem?_eq_none h'] at hbk
 have hb2:w2.heap[b]? = some (.cells #[.pointer (some ⟨b,0,none⟩),v] 193 (0,0)):=by
  rw [hgrow.block b hlt (fun e => hne e.symm)]
  exact hbk
 have d0:w2.cell? ⟨b,0,none⟩ = some (.pointer (some ⟨b,0,none⟩)):=by rw [Lib.cell_of_heap hb2];rfl
 have d1:w2.cell? ⟨b,1,none⟩ = some v:=by rw [Lib.cell_of_heap hb2];rfl
 have f1:w2.frozen? ⟨b,1,none⟩ = false:=Lib.frozen_of_heap hb2 1
 obtain ⟨ao,n',cap,rfl⟩:∃ ao n' cap,v' = .slice ao n' cap:=by
  rcases hown'.2 with ⟨hv,_⟩ | ⟨g,cap,cur,hv,_⟩
  ·exact ⟨_,_,_,hv⟩
  exact ⟨_,_,_,hv⟩
 go_wp2
 go_ret2
 refine ⟨rfl,.inr ?_,?_⟩
 ·exact Lib.BuilderAt.put (T:=193) (e:=5) hB hb2 (bs':=bs ++ Lib.strCells s) (by simpa [Lib.strCells_length] using hown') (by decide)
 exact (hb1.row hown hgrow (by have:=hb1.size;omega) (fun k hk => (hown.lt k hk).1)).setCell (p:=⟨b,1,none⟩) hB rfl _
theorem Dq (B b:Nat) (L:List UInt8) (g:Nat) (n:Nat) (w:World) (h:Wr B b L w) (hc:w.cell? ⟨g,0,none⟩ = some (.int .i64 (n:Int))) (hn:n ≤ 1000000) (hlen:L.length ≤ 1000000) (hBw:B ≤ w.heap.size) :
  Calls prog 122 #[.pointer (some ⟨b,0,none⟩),.slice (some ⟨g,0,none⟩) 1 1] w fun e w' => e = .returned (.tuple #[]) ∧ Wr B b (L ++ numB n) w' ∧ OnW B b w w':=by
 have HW:=ah h
 clear h
 go_enter func122,ntmps122
 go_wp2_with fail
 go_loopw [10] (fun i wr => (i = .int .i64 0 ∧ w = wr) ∨ (i = .int .i64 1 ∧ Wr B b (L ++ numB n) wr ∧ OnW B b w wr)) (fun i _ => (1 - intOf i).toNat)
 case atStart => exact .inl ⟨rfl,rfl⟩
 rcases hrel with ⟨rfl,rfl⟩ | ⟨rfl,hW2,hB2⟩
 ·have n0:(0:Int) ≤ n:=by omega
  have m1:min (n:Int) 1099511627775 = n:=by omega
  have m2:max (0:Int) n = n:=by omega
  go_wp2_with fail
  go_loopw [5] (fun v wr => ∃ (m:Nat) (K:List UInt8),v = .int .i64 m ∧ m ≤ n ∧ Hid (K ++ numB m = L ++ numB n) ∧ Wr B b K wr ∧ OnW B b w wr) (fun v _ => (intOf v).toNat)
  case atStart => exact ⟨n,L,rfl,by omega,ah rfl,HW.out,OnW.refl _ _ _⟩
  obtain ⟨wo,rfl⟩:∃ wo:World,wo = wr:=⟨_,rfl⟩
  obtain ⟨m,K,rfl,hm,hK,hWo,hbo⟩:=hrel
  have HK:Hid (K.length ≤ 1000010):=by
   have h1:=congrArg List.length hK.out
   rw [List.length_append,List.length_append] at h1
   have h2:=nM 3 n (by omega)
   unfold Hid;omega
  have hsz:=hbo.size
  by_cases h128:128 ≤ m
  ·have d1:decide ((128:Int) ≤ m) = true:=decide_eq_true (by omega)
   have HN:=iI h128
   have hlt:m % 128 + 128 < 256:=by omega
   have hcv:bits .or .u8 ((m:Int) % 128) 128 = ((UInt8.ofNat (m % 128 + 128)).toNat:Int):=by
    rw [show (m:Int) % 128 = ((m % 128:Nat):Int) by omega,Kj,UInt8.toNat_ofNat',Nat.mod_eq_of_lt hlt]
   have hrm:((m:Int).tmod 128) = (m:Int) % 128:=by rw [Int.tmod_eq_emod_of_nonneg (by omega)]
   have hdv:((m:Int).tdiv 128) = ((m / 128:Nat):Int):=by rw [Int.tdiv_eq_ediv_of_nonneg (by omega)];omega
   have hdv2:(m:Int) / 128 = ((m / 128:Nat):Int):=by omega
   have hw8:IntKind.u8.wrap ((m:Int) % 128) = (m:Int) % 128:=by rw [IntKind.wrap_u8];omega
   have hqm:m / 128 < m:=by omega
   have hw64:IntKind.i64.wrap ((m / 128:Nat):Int) = ((m / 128:Nat):Int):=IntWalk.i64_in _ (by omega)
   have HK2:Hid ((K ++ [UInt8.ofNat (m % 128 + 128)]) ++ numB (m / 128) = L ++ numB n):=by
    unfold Hid;rw [← hK.out,HN,List.append_assoc];rfl
   generalize UInt8.ofNat (m % 128 + 128) = x at hcv HK2
   generalize m / 128 = q at hdv hdv2 hqm hw64 HK2
   have HWB:=ah (fun W (hW:Wr B b K W) (hBW:B ≤ W.heap.size) => Cj B b K x W hW (by have:=HK.out;omega) hBW)
   have HWO:=ah hWo
   have HBO:=ah hbo
   clear hWo hbo hK HN hlt
   go_wp2_with fail
   refine (HWB.out _ HWO.out (by omega)).mono ?_
   rintro e w1 ⟨rfl,h1,hb1⟩
   have H1:=ah h1
   have HB1:=ah (HBO.out.trans (hb1))
   clear h1 hb1
   go_wp2
   go_roundw
   case rel => exact ⟨q,K ++ [x],rfl,by omega,HK2,H1.out,HB1.out⟩
   case measure => simp [intOf];omega
  have d1:decide ((128:Int) ≤ m) = false:=decide_eq_false (by omega)
  have HN:=ah (fu (n:=m) (by omega))
  have hw8:IntKind.u8.wrap (m:Int) = (m:Int):=by rw [IntKind.wrap_u8];omega
  have hcv:((UInt8.ofNat m).toNat:Int) = (m:Int):=by rw [UInt8.toNat_ofNat',Nat.mod_eq_of_lt (by omega)]
  have HWB:=ah (fun W (hW:Wr B b K W) (hBW:B ≤ W.heap.size) => by have:=Cj B b K (UInt8.ofNat m) W hW (by have:=HK.out;omega) hBW;rw [hcv] at this;exact this)
  have HK2:Hid (K ++ [UInt8.ofNat m] = L ++ numB n):=by unfold Hid;rw [← hK.out,HN.out]
  have HWO:=ah hWo
  have HBO:=ah hbo
  clear hWo hbo hK HN hcv
  go_wp2_with fail
  refine (HWB.out _ HWO.out (by omega)).mono ?_
  rintro e w1 ⟨rfl,h1,hb1⟩
  have H1:=ah h1
  have HB1:=ah (HBO.out.trans (hb1))
  clear h1 hb1
  go_wp2
  rw [HK2.out] at H1
  go_roundw
  case rel => exact .inr ⟨rfl,H1.out,HB1.out⟩
  case measure => simp [intOf]
 have HW2:=ah hW2
 have HB2:=ah hB2
 clear hW2 hB2
 go_wp2
 go_end0
 exact ⟨rfl,HW2.out,HB2.out⟩
theorem Jh (B b:Nat) (L:List UInt8) (g:Nat) (s:ByteArray) (w:World) (h:Wr B b L w) (hc:w.cell? ⟨g,0,none⟩ = some (.string s)) (hlen:L.length + s.size ≤ 10000000) (hBw:B ≤ w.heap.size) :
  Calls prog 121 #[.pointer (some ⟨b,0,none⟩),.slice (some ⟨g,0,none⟩) 1 1] w fun e w' => e = .returned (.tuple #[]) ∧ Wr B b (L ++ s.data.toList) w' ∧ OnW B b w w':=by
 have HW:=ah h
 clear h
 go_enter func121,ntmps121
 go_wp2_with fail
 go_loopw [10] (fun i wr => (i = .int .i64 0 ∧ w = wr) ∨ (i = .int .i64 1 ∧ Wr B b (L ++ s.data.toList) wr ∧ OnW B b w wr)) (fun i _ => (1 - intOf i).toNat)
 case atStart => exact .inl ⟨rfl,rfl⟩
 rcases hrel with ⟨rfl,rfl⟩ | ⟨rfl,hW2,hB2⟩
 ·go_wp2_with fail
  refine (Dl B b L s _ HW.out (by omega) hBw).mono ?_
  rintro e w1 ⟨rfl,h1,hb1⟩
  have H1:=ah h1
  have HB1:=ah hb1
  clear h1 hb1
  go_wp2
  go_roundw
  case rel => exact .inr ⟨by go_num,H1.out,HB1.out⟩
  case measure => simp [intOf]
 have HW2:=ah hW2
 have HB2:=ah hB2
 clear hW2 hB2
 go_wp2
 go_end0
 exact ⟨rfl,HW2.out,HB2.out⟩
theorem FU (B b:Nat) (L:List UInt8) (g:Nat) (s:ByteArray) (w:World) (h:Wr B b L w) (hc:w.cell? ⟨g,0,none⟩ = some (.string s)) (hs:s.size ≤ 1000000) (hlen:L.length ≤ 1000000) (hBw:B ≤ w.heap.size) :
  Calls prog 123 #[.pointer (some ⟨b,0,none⟩),.slice (some ⟨g,0,none⟩) 1 1] w fun e w' => e = .returned (.tuple #[]) ∧ Wr B b (L ++ (numB s.size ++ s.data.toList)) w' ∧ OnW B b w w':=by
 have HW:=ah h
 clear h
 have hsz:=HW.out.lt
 have hgb:=HW.out.ge
 have hnl:=sO (n:=s.size) (by omega)
 go_enter func123,ntmps123
 go_wp2_with fail
 go_loopw [8] (fun i wr => (i = .int .i64 0 ∧ w = wr) ∨ (i = .int .i64 1 ∧ Wr B b (L ++ (numB s.size ++ s.data.toList)) wr ∧ OnW B b w wr)) (fun i _ => (1 - intOf i).toNat)
 case atStart => exact .inl ⟨rfl,rfl⟩
 rcases hrel with ⟨rfl,rfl⟩ | ⟨rfl,hW2,hB2⟩
 ·go_wp2_with fail
  have hba:∀ (W:World) (o:Obj),Below W.heap.size W (W.alloc o):=fun W o => bal
  refine (Dq B b L w.heap.size s.size _ (HW.out.below (hba _ _)) (by rw [World.cell?_alloc_new];rfl) (by omega) hlen (by simp;omega)).mono ?_
  rintro e w1 ⟨rfl,h1,hb1⟩
  have H1:=ah h1
  have HB1:=ah (((OnW.refl B b w).alloc hBw _).trans hb1)
  have hsz1:=HB1.out.size
  clear h1 hb1
  go_wp2_with fail
  refine (Jh B b (L ++ numB s.size) w1.heap.size s _ (H1.out.below (hba _ _)) (by rw [World.cell?_alloc_new];rfl) (by rw [List.length_append];omega) (by simp;omega)).mono ?_
  rintro e w2 ⟨rfl,h2,hb2⟩
  rw [List.append_assoc] at h2
  have H2:=ah h2
  have HB2:=ah ((HB1.out.alloc (by omega) _).trans hb2)
  clear h2 hb2
  go_wp2
  go_roundw
  case rel => exact .inr ⟨by go_num,H2.out,HB2.out⟩
  case measure => simp [intOf]
 have HW2:=ah hW2
 have HB2:=ah hB2
 clear hW2 hB2
 go_wp2
 go_end0
 exact ⟨rfl,HW2.out,HB2.out⟩
end
end Go.Proofs.YtlhcoanbhnphgaaGreatDoor

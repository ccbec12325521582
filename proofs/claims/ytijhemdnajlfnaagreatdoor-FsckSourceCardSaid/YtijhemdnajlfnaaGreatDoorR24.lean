/- A part of this claim. -/
import Derived.Laws.Externs
import Derived.Lib.AppendStr
import Derived.Lib.Builder
import Derived.Lib.Slices
import Derived.Lib.Strings
import Derived.Lib.UnsafeStr
import Derived.Lib.Walk
import Derived.Shelf.Strings.BuilderX
import Derived.Test.YtijhemdnajlfnaaGreatDoorR14
namespace Go.Proofs.YtijhemdnajlfnaaGreatDoor
open Tryz
set_option maxHeartbeats 64000000
set_option maxRecDepth 100000
section
open Go.RowKit
theorem infoByte:(prog.info? 5).map (fun i => (i.zero,i.size,i.bytes)) = some (some (.int .u8 0),1,1):=by kernel_rfl
theorem sizeBuilder:(prog.info? 264).map (·.size) = some 2:=by kernel_rfl
theorem liesBuilder:liesAt prog prog.depth 266 (2 / prog.cellsOf 266) 0 264 1 = true:=by kernel_rfl
def Wr (B b:Nat) (L:List UInt8) (w:World):Prop:=Lib.IsBuilder 266 5 B b (Lib.byteCells L) w
theorem xq (b:Nat) (w:World) (h0:w.cell? ⟨b,0,none⟩ = some (.pointer (some ⟨b,0,none⟩))) :
  Calls prog 257 #[.pointer (some ⟨b,0,none⟩)] w fun e w' => e = .returned (.tuple #[]) ∧ w' = w:=by
 obtain ⟨j,hj,_⟩:=Option.map_eq_some_iff.1 sizeBuilder
 go_enter func257,ntmps257
 go_wp2
 rw [Lib.run_neq_ptr_same w _ underlying262 hj]
 go_wp2
 go_end0
 exact ⟨rfl,rfl⟩
theorem sF (b:Nat) (w:World) (h0:w.cell? ⟨b,0,none⟩ = some (.pointer none)) (hsh:w.shape? b = some (266,2)) (hfz:w.frozen? ⟨b,0,none⟩ = false) :
  Calls prog 257 #[.pointer (some ⟨b,0,none⟩)] w fun e w' => e = .returned (.tuple #[]) ∧ w' = w.setCell ⟨b,0,none⟩ (.pointer (some ⟨b,0,none⟩)):=by
 obtain ⟨j,hj,hjs⟩:=Option.map_eq_some_iff.1 sizeBuilder
 go_enter func257,ntmps257
 go_wp2
 rw [Lib.run_to_unsafe w ⟨b,0,none⟩ underlying262 underlying401 hj (by rw [hjs];decide) hsh (Nat.zero_lt_succ 1)]
 simp only [Result.andThen]
 rw [Oper.upon_value]
 go_wp2
 rw [run_callFunc_extern func290 (by kernel_rfl) (by kernel_rfl) (by kernel_rfl) (e:=Extern.AbiNoEscape.same) (by kernel_rfl)]
 rw [Lib.run_noEscape]
 simp only [Result.andThen]
 rw [Oper.upon_value]
 go_wp2
 rw [Lib.run_from_unsafe w ⟨b,0,none⟩ underlying401 underlying262 hj hsh liesBuilder]
 simp only [Result.andThen]
 rw [Oper.upon_value]
 go_wp2
 go_end0
 exact ⟨rfl,rfl⟩
theorem zN (B b:Nat) (bs:List Value) (w:World) (h:Lib.IsBuilder 266 5 B b bs w) :
  Calls prog 257 #[.pointer (some ⟨b,0,none⟩)] w fun e w' => e = .returned (.tuple #[]) ∧ (Lib.BuilderAt 266 5 B b (.pointer (some ⟨b,0,none⟩)) bs w' ∧ Below B w w'):=by
 rcases h with h | h
 ·refine (sF b w h.cell0 h.shape h.frozen0).mono ?_
  rintro e w' ⟨rfl,rfl⟩
  exact ⟨rfl,h.used _,(Below.refl B w).setCell (p:=⟨b,0,none⟩) h.1 _⟩
 refine (xq b w h.cell0).mono ?_
 rintro e w' ⟨rfl,rfl⟩
 exact ⟨rfl,h,Below.refl B _⟩
theorem xY (B b:Nat) (L:List UInt8) (c:UInt8) (w:World) (h:Wr B b L w) (hlen:L.length + 1 ≤ 140737488355328) (hBw:B ≤ w.heap.size) :
  Calls prog 210 #[.pointer (some ⟨b,0,none⟩),.int .u8 (c.toNat:Int)] w fun e w' => e = .returned .nilIface ∧ Wr B b (L ++ [c]) w' ∧ Below B w w':=by
 obtain ⟨i0,hi,hz0,hz1,hz2⟩:=info_parts infoByte
 have hcl:=Lib.byteCells_length L
 have eb:Lib.byteCells (L ++ [c]) = Lib.byteCells L ++ [.int .u8 (c.toNat:Int)]:=by simp [Lib.byteCells]
 unfold Wr at h ⊢
 rw [eb]
 rw [← hcl] at hlen
 generalize Lib.byteCells L = bs at h hcl hlen
 clear hcl
 generalize (c.toNat:Int) = c
 have HB:=ah h
 clear h eb
 go_enter func210,ntmps210
 go_wp2_with (go_at_call 257;refine (zN B b bs _ HB.out).mono ?_)
 rintro e w1 ⟨rfl,h1,hb1⟩
 obtain ⟨hB,v,hbk,hown,hne⟩:=h1
 have c0:w1.cell? ⟨b,0,none⟩ = some (.pointer (some ⟨b,0,none⟩)):=by rw [Lib.cell_of_heap hbk];rfl
 have c1:w1.cell? ⟨b,1,none⟩ = some v:=by rw [Lib.cell_of_heap hbk];rfl
 go_wp2_with (at_builtin;refine wpList_append_own _ rfl _ _ 221 rfl B 5 i0 (.int .u8 0) 1 1 underlying221 hi hz0 hz1 hz2 rfl (by decide) _ _ _ rfl (hown.alloc _) ⟨w1.heap.size,0,none⟩ 1 1 [.int .u8 c] rfl rfl ?c1 ?c2 ?c3 ?c4 ?c5 ?_)
 case c1 =>
  intro j u hj
  match j,hj with
  | 0,hj => simp at hj;subst hj;simp [Addr.add]
 case c2 => intro u hu;simp at hu;subst hu;rfl
 case c3 => unfold maxLen;omega
 case c4 => omega
 case c5 => have:=hb1.size;simp;omega
 intro v' w2 hown' hgrow _
 have hlt:b < w1.heap.size:=by
  rcases Nat.lt_or_ge b w1.heap.size with h' | h'
  ·exact h'
  simp [Array.getElem?_eq_none h'] at hbk
 have hb2:w2.heap[b]? = some (.cells #[.pointer (some ⟨b,0,none⟩),v] 266 (0,0)):=by
  rw [hgrow.block b (by simp;omega) (fun e => hne e.symm),Lib.alloc_old w1 _ b hlt]
  exact hbk
 have d0:w2.cell? ⟨b,0,none⟩ = some (.pointer (some ⟨b,0,none⟩)):=by rw [Lib.cell_of_heap hb2];rfl
 have d1:w2.cell? ⟨b,1,none⟩ = some v:=by rw [Lib.cell_of_heap hb2];rfl
 have f1:w2.frozen? ⟨b,1,none⟩ = false:=Lib.frozen_of_heap hb2 1
 obtain ⟨g,cap,rfl⟩:∃ g cap,v' = .slice (some ⟨g,0,none⟩) (bs.length + 1) cap:=by
  rcases hown'.2 with ⟨_,h0⟩ | ⟨g,cap,cur,hv,_⟩
  ·omega
  exact ⟨g,cap,hv⟩
 go_wp2
 go_ret
 refine ⟨rfl,.inr ?_,?_⟩
 ·exact Lib.BuilderAt.put (T:=266) (e:=5) hB hb2 (bs':=bs ++ [.int .u8 c]) (by simpa using hown') (by decide)
 exact ((hb1.alloc (by have:=hb1.size;omega) _).grown hgrow (by have:=hb1.size;simp;omega) (fun k hk => (hown.lt k hk).1)).setCell (p:=⟨b,1,none⟩) hB _
theorem rF (B b:Nat) (L:List UInt8) (s:ByteArray) (w:World) (h:Wr B b L w) (hlen:L.length + s.size ≤ 140737488355328) (hBw:B ≤ w.heap.size) :
  Calls prog 209 #[.pointer (some ⟨b,0,none⟩),.string s] w fun e w' => e = .returned (.tuple #[.int .i64 s.size,.nilIface]) ∧ Wr B b (L ++ s.data.toList) w' ∧ Below B w w':=by
 obtain ⟨i0,hi,hz0,hz1,hz2⟩:=info_parts infoByte
 have hcl:=Lib.byteCells_length L
 have eb:Lib.byteCells (L ++ s.data.toList) = Lib.byteCells L ++ Lib.strCells s:=by simp [Lib.byteCells,Lib.strCells]
 unfold Wr at h ⊢
 rw [eb]
 rw [← hcl] at hlen
 generalize Lib.byteCells L = bs at h hcl hlen
 clear hcl
 have HB:=ah h
 clear h eb
 go_enter func209,ntmps209
 go_wp2_with (go_at_call 257;refine (zN B b bs _ HB.out).mono ?_)
 rintro e w1 ⟨rfl,h1,hb1⟩
 obtain ⟨hB,v,hbk,hown,hne⟩:=h1
 have c0:w1.cell? ⟨b,0,none⟩ = some (.pointer (some ⟨b,0,none⟩)):=by rw [Lib.cell_of_heap hbk];rfl
 have c1:w1.cell? ⟨b,1,none⟩ = some v:=by rw [Lib.cell_of_heap hbk];rfl
 go_wp2_with (at_builtin;refine Lib.wpList_append_own_string _ rfl _ _ 221 9 rfl B 5 i0 underlying221 underlying9 hi hz0 hz1 hz2 _ _ _ rfl hown s rfl ?c3 ?c4 ?c5 ?_)
 case c3 => unfold maxLen;omega
 case c4 => omega
 case c5 => have:=hb1.size;omega
 intro v' w2 hown' hgrow _
 have hlt:b < w1.heap.size:=by
  rcases Nat.lt_or_ge b w1.heap.size with h' | h'
  ·exact h'
  simp [Array.getElem?_eq_none h'] at hbk
 have hb2:w2.heap[b]? = some (.cells #[.pointer (some ⟨b,0,none⟩),v] 266 (0,0)):=by
  rw [hgrow.block b hlt (fun e => hne e.symm)]
  exact hbk
 have d0:w2.cell? ⟨b,0,none⟩ = some (.pointer (some ⟨b,0,none⟩)):=by rw [Lib.cell_of_heap hb2];rfl
 have d1:w2.cell? ⟨b,1,none⟩ = some v:=by rw [Lib.cell_of_heap hb2];rfl
 have f1:w2.frozen? ⟨b,1,none⟩ = false:=Lib.frozen_of_heap hb2 1
 obtain ⟨ao,n',cap,rfl⟩:∃ ao n' cap,v' = .slice ao n' cap:=by
  rcases hown'.2 with ⟨hv,_⟩ | ⟨g,cap,cur,hv,_⟩
  ·exact ⟨_,_,_,hv⟩
  exact ⟨_,_,_,hv⟩
 go_wp2
 go_ret2
 refine ⟨rfl,.inr ?_,?_⟩
 ·exact Lib.BuilderAt.put (T:=266) (e:=5) hB hb2 (bs':=bs ++ Lib.strCells s) (by simpa [Lib.strCells_length] using hown') (by decide)
 exact (hb1.grown hgrow (by have:=hb1.size;omega) (fun k hk => (hown.lt k hk).1)).setCell (p:=⟨b,1,none⟩) hB _
theorem DU (B b:Nat) (l:List UInt8) (w:World) (h:Wr B b l w) (h0:l ≠ []) :
  Calls prog 211 #[.pointer (some ⟨b,0,none⟩)] w fun e w' => e = .returned (.string (ofB l)) ∧ Below B w w':=by
 obtain ⟨p,hB,v,hbk,hown,hne⟩:∃ p,Lib.BuilderAt 266 5 B b p (Lib.byteCells l) w:=by
  rcases h with h | h
  ·exact ⟨_,h⟩
  exact ⟨_,h⟩
 have hl0:l.length ≠ 0:=by simpa using h0
 rw [Lib.byteCells_length] at hown
 obtain ⟨g,cap,cur,rfl,hbg,hg,hnc,hcm,hcs,htake⟩:∃ g cap cur,v = .slice (some ⟨g,0,none⟩) l.length cap ∧ B ≤ g ∧ w.heap[g]? = some (.cells cur 5 (0,0)) ∧ l.length ≤ cap ∧ cap ≤ maxLen ∧ cur.size = cap * 1 ∧ cur.toList.take (l.length * 1) = Lib.byteCells l:=by
  rcases hown.2 with ⟨_,hz⟩ | ⟨g,cap,cur,hv,r⟩
  ·exact absurd hz hl0
  exact ⟨g,cap,cur,hv,r⟩
 have c1:w.drew.cell? ⟨b,1,none⟩ = some (.slice (some ⟨g,0,none⟩) l.length cap):=by
  have:w.drew.heap[b]? = some (.cells #[p,.slice (some ⟨g,0,none⟩) l.length cap] 266 (0,0)):=hbk
  rw [Lib.cell_of_heap this];rfl
 have hSD:(Builtin.unsafeSliceData_ #[221] 371 #[.slice (some ⟨g,0,none⟩) l.length cap]).run prog w.drew = .ok (.pointer (some ⟨g,0,none⟩)) w.drew :=
  Lib.run_unsafeSliceData_row _ _ _ _ _ _ (by omega)
 have hUS:(Builtin.unsafeString_ #[371,3] 9 #[.pointer (some ⟨g,0,none⟩),.int .i64 l.length]).run prog w.drew = .ok (.string ⟨l.toArray⟩) (w.drew.freeze ⟨g,0,none⟩ l.length):=by
  refine Lib.run_unsafeString_row w.drew 371 3 9 5 underlying371 (by kernel_rfl) g cur.size (by have hg':w.drew.heap[g]? = some (.cells cur 5 (0,0)):=hg;simp [World.shape?,hg']) l h0 (by omega) (by unfold maxLen at hcm;omega) ?_
  intro j x hx
  have:=hown.cells (g:=g) rfl j (.int .u8 x.toNat) (by simp [Lib.byteCells,hx])
  exact this
 go_enter func211,ntmps211
 go_wp2
 go_region
 all_goals (go_wp2;go_ret;exact ⟨rfl,Lib.below_freeze (Below.drew (Below.refl B w)) (p:=⟨g,0,none⟩) hbg _⟩)
theorem Pb (n:Nat):bits .or .u8 ((n % 128:Nat):Int) 128 = ((n % 128 + 128:Nat):Int):=by
 have h:=(bits_nat .u8 8 (by decide) (fun x h0 h1 => by rw [IntKind.wrap_u8];omega) (n % 128) 128 (by omega) (by omega)).2
 rw [show (128:Int) = ((128:Nat):Int) from rfl,h]
 congr 1
 have h2:=Nat.two_pow_add_eq_or_of_lt (i:=7) (b:=n % 128) (by omega) 1
 rw [Nat.or_comm]
 rw [show (2:Nat) ^ 7 * 1 = 128 from by decide] at h2
 rw [← h2,Nat.add_comm]
theorem l7 (B b:Nat) (L:List UInt8) (g:Nat) (n:Nat) (w:World) (h:Wr B b L w) (hc:w.cell? ⟨g,0,none⟩ = some (.int .i64 (n:Int))) (hn:n ≤ 1000000) (hlen:L.length ≤ 1000000) (hBw:B ≤ w.heap.size) :
  Calls prog 161 #[.pointer (some ⟨b,0,none⟩),.slice (some ⟨g,0,none⟩) 1 1] w fun e w' => e = .returned (.tuple #[]) ∧ Wr B b (L ++ numB n) w' ∧ Below B w w':=by
 have HW:=ah h
 clear h
 go_enter func161,ntmps161
 go_wp2_with fail
 go_loopw [10] (fun i wr => (i = .int .i64 0 ∧ w = wr) ∨ (i = .int .i64 1 ∧ Wr B b (L ++ numB n) wr ∧ Below B w wr)) (fun i _ => (1 - intOf i).toNat)
 case atStart => exact .inl ⟨rfl,rfl⟩
 rcases hrel with ⟨rfl,rfl⟩ | ⟨rfl,hW2,hB2⟩
 ·have n0:(0:Int) ≤ n:=by omega
  have m1:min (n:Int) 1099511627775 = n:=by omega
  have m2:max (0:Int) n = n:=by omega
  go_wp2_with fail
  go_loopw [5] (fun v wr => ∃ (m:Nat) (K:List UInt8),v = .int .i64 m ∧ m ≤ n ∧ Hid (K ++ numB m = L ++ numB n) ∧ Wr B b K wr ∧ Below B w wr) (fun v _ => (intOf v).toNat)
  case atStart => exact ⟨n,L,rfl,by omega,ah rfl,HW.out,Below.refl _ _⟩
  obtain ⟨wo,rfl⟩:∃ wo:World,wo = wr:=⟨_,rfl⟩
  obtain ⟨m,K,rfl,hm,hK,hWo,hbo⟩:=hrel
  have HK:Hid (K.length ≤ 1000010):=by
   have h1:=congrArg List.length hK.out
   rw [List.length_append,List.length_append] at h1
   have h2:=pU 3 n (by omega)
   unfold Hid;omega
  have hsz:=hbo.size
  by_cases h128:128 ≤ m
  ·have d1:decide ((128:Int) ≤ m) = true:=decide_eq_true (by omega)
   have HN:=lD h128
   have hlt:m % 128 + 128 < 256:=by omega
   have hcv:bits .or .u8 ((m:Int) % 128) 128 = ((UInt8.ofNat (m % 128 + 128)).toNat:Int):=by
    rw [show (m:Int) % 128 = ((m % 128:Nat):Int) by omega,Pb,UInt8.toNat_ofNat',Nat.mod_eq_of_lt hlt]
   have hrm:((m:Int).tmod 128) = (m:Int) % 128:=by rw [Int.tmod_eq_emod_of_nonneg (by omega)]
   have hdv:((m:Int).tdiv 128) = ((m / 128:Nat):Int):=by rw [Int.tdiv_eq_ediv_of_nonneg (by omega)];omega
   have hdv2:(m:Int) / 128 = ((m / 128:Nat):Int):=by omega
   have hw8:IntKind.u8.wrap ((m:Int) % 128) = (m:Int) % 128:=by rw [IntKind.wrap_u8];omega
   have hqm:m / 128 < m:=by omega
   have hw64:IntKind.i64.wrap ((m / 128:Nat):Int) = ((m / 128:Nat):Int):=IntWalk.i64_in _ (by omega)
   have HK2:Hid ((K ++ [UInt8.ofNat (m % 128 + 128)]) ++ numB (m / 128) = L ++ numB n):=by
    unfold Hid;rw [← hK.out,HN,List.append_assoc];rfl
   generalize UInt8.ofNat (m % 128 + 128) = x at hcv HK2
   generalize m / 128 = q at hdv hdv2 hqm hw64 HK2
   have HWB:=ah (fun W (hW:Wr B b K W) (hBW:B ≤ W.heap.size) => xY B b K x W hW (by have:=HK.out;omega) hBW)
   have HWO:=ah hWo
   have HBO:=ah hbo
   clear hWo hbo hK HN hlt
   go_wp2_with fail
   refine (HWB.out _ HWO.out (by omega)).mono ?_
   rintro e w1 ⟨rfl,h1,hb1⟩
   have H1:=ah h1
   have HB1:=ah (HBO.out.trans (hb1.mono (Nat.le_refl _)))
   clear h1 hb1
   go_wp2
   go_roundw
   case rel => exact ⟨q,K ++ [x],rfl,by omega,HK2,H1.out,HB1.out⟩
   case measure => simp [intOf];omega
  have d1:decide ((128:Int) ≤ m) = false:=decide_eq_false (by omega)
  have HN:=ah (iO (n:=m) (by omega))
  have hw8:IntKind.u8.wrap (m:Int) = (m:Int):=by rw [IntKind.wrap_u8];omega
  have hcv:((UInt8.ofNat m).toNat:Int) = (m:Int):=by rw [UInt8.toNat_ofNat',Nat.mod_eq_of_lt (by omega)]
  have HWB:=ah (fun W (hW:Wr B b K W) (hBW:B ≤ W.heap.size) => by have:=xY B b K (UInt8.ofNat m) W hW (by have:=HK.out;omega) hBW;rw [hcv] at this;exact this)
  have HK2:Hid (K ++ [UInt8.ofNat m] = L ++ numB n):=by unfold Hid;rw [← hK.out,HN.out]
  have HWO:=ah hWo
  have HBO:=ah hbo
  clear hWo hbo hK HN hcv
  go_wp2_with fail
  refine (HWB.out _ HWO.out (by omega)).mono ?_
  rintro e w1 ⟨rfl,h1,hb1⟩
  have H1:=ah h1
  have HB1:=ah (HBO.out.trans (hb1.mono (Nat.le_refl _)))
  clear h1 hb1
  go_wp2
  rw [HK2.out] at H1
  go_roundw
  case rel => exact .inr ⟨rfl,H1.out,HB1.out⟩
  case measure => simp [intOf]
 have HW2:=ah hW2
 have HB2:=ah hB2
 clear hW2 hB2
 go_wp2
 go_end0
 exact ⟨rfl,HW2.out,HB2.out⟩
theorem Wr.lt {B b:Nat} {L:List UInt8} {w:World} (h:Wr B b L w):b < w.heap.size:=by
 rcases h with h | h
 ·exact h.lt
 exact h.lt
theorem Wr.ge {B b:Nat} {L:List UInt8} {w:World} (h:Wr B b L w):B ≤ b:=by
 rcases h with h | h
 ·exact h.1
 exact h.1
theorem Wr.below {B b:Nat} {L:List UInt8} {w w':World} (h:Wr B b L w) (hb:Below w.heap.size w w'):Wr B b L w':=by
 have key:∀ p,Lib.BuilderAt 266 5 B b p (Lib.byteCells L) w → Lib.BuilderAt 266 5 B b p (Lib.byteCells L) w':=by
  intro p hp
  have hlt:=hp.lt
  obtain ⟨hB,v,hbk,hown,hne⟩:=hp
  exact ⟨hB,v,by rw [hb.block b hlt];exact hbk,own_below hown hb,hne⟩
 rcases h with h | h
 ·exact .inl (key _ h)
 exact .inr (key _ h)
theorem qC (B b:Nat) (L:List UInt8) (g:Nat) (s:ByteArray) (w:World) (h:Wr B b L w) (hc:w.cell? ⟨g,0,none⟩ = some (.string s)) (hlen:L.length + s.size ≤ 10000000) (hBw:B ≤ w.heap.size) :
  Calls prog 160 #[.pointer (some ⟨b,0,none⟩),.slice (some ⟨g,0,none⟩) 1 1] w fun e w' => e = .returned (.tuple #[]) ∧ Wr B b (L ++ s.data.toList) w' ∧ Below B w w':=by
 have HW:=ah h
 clear h
 go_enter func160,ntmps160
 go_wp2_with fail
 go_loopw [10] (fun i wr => (i = .int .i64 0 ∧ w = wr) ∨ (i = .int .i64 1 ∧ Wr B b (L ++ s.data.toList) wr ∧ Below B w wr)) (fun i _ => (1 - intOf i).toNat)
 case atStart => exact .inl ⟨rfl,rfl⟩
 rcases hrel with ⟨rfl,rfl⟩ | ⟨rfl,hW2,hB2⟩
 ·go_wp2_with fail
  refine (rF B b L s _ HW.out (by omega) hBw).mono ?_
  rintro e w1 ⟨rfl,h1,hb1⟩
  have H1:=ah h1
  have HB1:=ah hb1
  clear h1 hb1
  go_wp2
  go_roundw
  case rel => exact .inr ⟨by go_num,H1.out,HB1.out⟩
  case measure => simp [intOf]
 have HW2:=ah hW2
 have HB2:=ah hB2
 clear hW2 hB2
 go_wp2
 go_end0
 exact ⟨rfl,HW2.out,HB2.out⟩
theorem D5 (B b:Nat) (L:List UInt8) (g:Nat) (s:ByteArray) (w:World) (h:Wr B b L w) (hc:w.cell? ⟨g,0,none⟩ = some (.string s)) (hs:s.size ≤ 1000000) (hlen:L.length ≤ 1000000) (hBw:B ≤ w.heap.size) :
  Calls prog 175 #[.pointer (some ⟨b,0,none⟩),.slice (some ⟨g,0,none⟩) 1 1] w fun e w' => e = .returned (.tuple #[]) ∧ Wr B b (L ++ (numB s.size ++ s.data.toList)) w' ∧ Below B w w':=by
 have HW:=ah h
 clear h
 have hsz:=HW.out.lt
 have hgb:=HW.out.ge
 have hnl:=gZ (n:=s.size) (by omega)
 go_enter func175,ntmps175
 go_wp2_with fail
 go_loopw [8] (fun i wr => (i = .int .i64 0 ∧ w = wr) ∨ (i = .int .i64 1 ∧ Wr B b (L ++ (numB s.size ++ s.data.toList)) wr ∧ Below B w wr)) (fun i _ => (1 - intOf i).toNat)
 case atStart => exact .inl ⟨rfl,rfl⟩
 rcases hrel with ⟨rfl,rfl⟩ | ⟨rfl,hW2,hB2⟩
 ·go_wp2_with fail
  have hba:∀ (W:World) (o:Obj),Below W.heap.size W (W.alloc o):=fun W o => bal
  refine (l7 B b L w.heap.size s.size _ (HW.out.below (hba _ _)) (by rw [World.cell?_alloc_new];rfl) (by omega) hlen (by simp;omega)).mono ?_
  rintro e w1 ⟨rfl,h1,hb1⟩
  have H1:=ah h1
  have HB1:=ah (((Below.refl B w).alloc hBw _).trans hb1)
  have hsz1:=HB1.out.size
  clear h1 hb1
  go_wp2_with fail
  refine (qC B b (L ++ numB s.size) w1.heap.size s _ (H1.out.below (hba _ _)) (by rw [World.cell?_alloc_new];rfl) (by rw [List.length_append];omega) (by simp;omega)).mono ?_
  rintro e w2 ⟨rfl,h2,hb2⟩
  rw [List.append_assoc] at h2
  have H2:=ah h2
  have HB2:=ah ((HB1.out.alloc (by omega) _).trans hb2)
  clear h2 hb2
  go_wp2
  go_roundw
  case rel => exact .inr ⟨by go_num,H2.out,HB2.out⟩
  case measure => simp [intOf]
 have HW2:=ah hW2
 have HB2:=ah hB2
 clear hW2 hB2
 go_wp2
 go_end0
 exact ⟨rfl,HW2.out,HB2.out⟩
theorem qD (B b:Nat) (l:List UInt8) (w:World) (h:Wr B b l w) (h0:l ≠ []) :
  Calls prog 163 #[.pointer (some ⟨b,0,none⟩)] w fun e w' => e = .returned (.string (ofB l)) ∧ Below B w w':=by
 have HS:=ah (DU B b l w h h0)
 clear h
 go_enter func163,ntmps163
 go_wp2_with fail
 refine HS.out.mono ?_
 rintro e w1 ⟨rfl,hb⟩
 go_wp2
 go_ret
 exact ⟨rfl,hb⟩
end
end Go.Proofs.YtijhemdnajlfnaaGreatDoor

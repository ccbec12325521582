/- A part of this claim. -/
import Derived.Lib.LazyBuf
import Derived.Test.YtijhemdnajlfnaaGreatDoorR10
import Derived.Test.YtijhemdnajlfnaaGreatDoorR14
namespace Go.Proofs.YtijhemdnajlfnaaGreatDoor
open Tryz
set_option maxHeartbeats 64000000
set_option maxRecDepth 100000
section
open Go.RowKit
theorem qF {P:Program} (w:World) {ops:Array Oper} {rest:List Oper} {o:Oper} {a:Act} {Q:Exit → Act → World → Prop} (hg:o.guard = none) (d x:Operand) (dT sT:TypeId)
  (hop:o.op = Op.call { callee:=Callee.builtin Builtin.copy,args:=#[d,x],argTypes:=#[dT,sT] }) (elem:TypeId) (hu:P.underlying dT = some (.slice elem)) (hz:∀ w,(Go.sizeOf elem).run P w = .ok 1 w)
  (b off dLen dCap:Nat) (hd:a.eval d = .slice (some ⟨b,off,none⟩) dLen dCap) (t:ByteArray) (hx:a.eval x = .string t) (hle:t.size ≤ dLen)
  (hc:∀ j,j < t.size → (w.cell? ⟨b,off + j,none⟩).isSome = true) (hf:∀ j,j < t.size → w.frozen? ⟨b,off + j,none⟩ = false)
  (hK:wpList P ops Q rest (a.put o.dst (goInt t.size)) (w.setCells b off (t.data.toList.map fun x => Value.int .u8 (x.toNat:Int)))):wpList P ops Q (o :: rest) a w:=by
 refine wpList_plain hg fun K hK' => ?_
 have hrun:=Go.run_copy_string (P:=P) w dT sT o.type elem b off dLen dCap t hu hz hle hc hf
 unfold Oper.wp
 simp [execOp,hop,resolve,invoke,builtin,hd,hx,hrun,Result.andThen]
 exact hK' _ _ hK
theorem z8 (b:Nat) (r:Rd) (w:World) (hA:Arr w b 3 r.c) (hf:r.fine) :
  Calls prog 172 #[.pointer (some ⟨b,0,none⟩)] w fun e w' => e = .returned (idV r.id.2) ∧ Arr w' b 3 r.id.1.c ∧ w.grownBy w' (some b):=by
 have hbl:b < w.heap.size:=hA.lt (by omega)
 have HR:=ah (fun W (hA:Arr W b 3 r.c) => l5 b r 32 W hA hf (by omega))
 have hs:=Rd.jD r 32
 have HF:Hid (idV r.id.2 = .agg ((idOf (r.raw 32).2).map fun b => Value.int .u8 (b.toNat:Int)).toArray):=ah rfl
 have HG:Hid (r.id.1 = (r.raw 32).1):=ah rfl
 have HA:=ah hA
 have HO:=ah (Arr.new w 32 (.int .u8 0) 24)
 generalize r.raw 32 = x at HR hs HF HG
 obtain ⟨r1,s⟩:=x
 dsimp only at HR hs HF HG
 clear hA hf
 go_enter func172,ntmps172
 go_wp2_with fail
 have h32:(prog.info? 24).map (·.size) = some 32:=by kernel_rfl
 have hT:True:=trivial
 have HAX:=ah ((HA.out.alloc (by omega) (.cells (Array.replicate 32 (.int .u8 0)) 24)).alloc (by omega) (.cells (Array.replicate 32 (.int .u8 0)) 24))
 have hX:=Arr.new (w.alloc (.cells (Array.replicate 32 (.int .u8 0)) 24)) 32 (.int .u8 0) 24
 rw [World.size_alloc] at hX
 have HX:=ah hX
 have HO2:=ah (HO.out.alloc (by omega) (.cells (Array.replicate 32 (.int .u8 0)) 24))
 have HBW:=ah ((((Below.refl w.heap.size w).alloc (Nat.le_refl _) (.cells (Array.replicate 32 (.int .u8 0)) 24))).alloc (by simp) (.cells (Array.replicate 32 (.int .u8 0)) 24))
 clear hX
 refine wrL 3 (fun _ => True) ?_
 refine WL.tk 0 hT ?_
 refine WL.tk 1 hT ?_
 refine WL.on 2 ?_
 go_wp2_with fail
 refine (HR.out _ HAX.out.drew).mono ?_
 rintro e w1 ⟨rfl,hA1,hg1⟩
 have HA1:=ah hA1
 have hg1':=FQ hg1
 have HX1:=ah (HX.out.grown hg1' (by omega))
 have HO1:=ah (HO2.out.grown hg1' (by omega))
 have HG1:=ah (Bf HBW.out hg1')
 clear hA1 hg1 hg1'
 go_wp2
 refine ⟨trivial,?_⟩
 refine WL.la 3 ?_
 refine qF _ rfl (.tmp 4) (.tmp 6) 221 9 rfl 5 underlying221 (fun w => by kernel_rfl) (w.heap.size + 1) 0 32 32 rfl s rfl hs (fun j hj => by rw [Nat.zero_add,HX1.out.cell j (by omega)];rfl) (fun j hj => by rw [Nat.zero_add];exact HX1.out.free j (by omega)) ?_
 have hln:(s.data.toList.map fun x => Value.int .u8 (x.toNat:Int)).length = s.size:=by rw [List.length_map];simp
 have hX2:=(HX1.out.setCells 0 (s.data.toList.map fun x => Value.int .u8 (x.toNat:Int)) (by omega)).congr (d:=idB s s.size) (fun k hk => by
  unfold idB
  rw [hln,Nat.zero_add,Nat.sub_zero]
  by_cases h:k < s.size
  ·rw [if_pos ⟨by omega,h⟩,if_pos h]
   unfold blk
   have hl:k < s.data.toList.length:=by simpa using h
   rw [List.getD_eq_getElem?_getD,List.getElem?_map,List.getElem?_eq_getElem hl,List.getD_eq_getElem?_getD,List.getElem?_eq_getElem hl];rfl
  rw [if_neg (fun h' => h h'.2),if_neg h])
 have hb2:Below w1.heap.size w1 w1:=Below.refl _ _
 have HO2':=ah (HO1.out.eF (show w.heap.size + 1 ≠ w.heap.size by omega) (s.data.toList.map fun x => Value.int .u8 (x.toNat:Int)) 0)
 have HA2:=ah (HA1.out.eF (show w.heap.size + 1 ≠ b by omega) (s.data.toList.map fun x => Value.int .u8 (x.toNat:Int)) 0)
 have HG2:Hid (w.grownBy (w1.setCells (w.heap.size + 1) 0 (s.data.toList.map fun x => Value.int .u8 (x.toNat:Int))) (some b)):=ah (mP (Below.refl _ _) HG1.out (below_setCells (B:=w.heap.size) (a:=w1) (w.heap.size + 1) (by omega) _ 0 w1 (Below.refl _ _)))
 clear hb2
 generalize w1.setCells (w.heap.size + 1) 0 (s.data.toList.map fun x => Value.int .u8 (x.toNat:Int)) = wo at hX2 HO2' HA2 HG2
 have hr:=hX2.range
 have e8:(List.range 32).map (idB s s.size) = (idOf s).map fun b => Value.int .u8 (b.toNat:Int):=by
  unfold idOf;rw [List.map_map]
  exact List.map_congr_left fun k _ => GL s k
 rw [e8] at hr
 have hlen:((idOf s).map fun b => Value.int .u8 (b.toNat:Int)).length = 32:=by rw [List.length_map];exact gF s
 have hone:=AU (idOf s)
 generalize (idOf s).map (fun b => Value.int .u8 (b.toNat:Int)) = us at hr hlen hone HF
 have h32u:(prog.info? 24).map (·.size) = some us.length:=by rw [hlen];exact h32
 have hth:=HO2'.out.there
 have HFR:=ah (World.rangeAt_setCells_same wo w.heap.size 0 us (by rw [hlen];exact hth))
 have HTH:=ah hth
 have HLN:=ah hlen
 have HON:=ah hone
 have HFIN:=ah (mP (Below.refl _ _) HG2.out (below_setCells (B:=w.heap.size) (a:=wo) w.heap.size (Nat.le_refl _) us 0 wo (Below.refl _ _)))
 have HAF:=ah (HA2.out.eF (show w.heap.size ≠ b by omega) us 0)
 clear hX2 e8 hth hlen hone hln
 go_wp2_with (first | (refine wpList_load_mid rfl 24 _ rfl (w.heap.size + 1) 0 rfl us _ hr underlying24 rfl h32u ?_) | (refine aj rfl 24 _ _ rfl w.heap.size 0 us rfl rfl 32 HLN.out HTH.out h32 HON.out ?_))
 refine gU rfl w.heap.size 0 rfl us _ HFR.out underlying24 rfl h32u rfl ⟨by rw [HF.out],by rw [HG.out];exact HAF.out,HFIN.out⟩
end
end Go.Proofs.YtijhemdnajlfnaaGreatDoor

/- A part of this claim. -/
import Derived.Test.YtijhemdnajlfnaaGreatDoorR23
import Derived.Test.YtijhemdnajlfnaaGreatDoorR34
namespace Go.Proofs.YtijhemdnajlfnaaGreatDoor
open Tryz
set_option maxHeartbeats 64000000
set_option maxRecDepth 100000
section
open Go.RowKit Fl
theorem FI:(prog.info? 388).map (fun i => (i.zero,i.size,i.bytes)) = some (some (.agg #[.complex .f64 0 0,.string ⟨#[]⟩]),2,32):=by kernel_rfl
def pcsF (l:List Pc):List Value:=(l.map pcF).flatten
theorem nC (l:List Pc) (p:Pc):pcsF (l ++ [p]) = pcsF l ++ pcF p:=by simp [pcsF]
theorem jM.aS {w:World} {B:Nat} {v:Value} {l:List Pc} (h:w.ownsRow B 388 2 v l.length (pcsF l)):jM w v l :=
 aK.aS (B:=B) (e:=388) (fun r hr => by obtain ⟨p,_,rfl⟩:=List.mem_map.1 hr;rfl) (by rw [List.length_map];exact h)
def zV (d:ByteArray) (ok bad:Value) (w:World) (e:Ending) (w':World):Prop :=
 (match dU d with
 | none => e = .returned (.tuple #[.int .i64 0,.slice none 0 0,bad])
 | some x => ∃ v,e = .returned (.tuple #[.int .i64 (x.1:Int),v,ok]) ∧ jM w' v x.2) ∧ Below w.heap.size w w'
theorem pE {d:ByteArray} {ok bad:Value} {w w':World} (h:dU d = none) (hb:Below w.heap.size w w'):zV d ok bad w (.returned (.tuple #[.int .i64 0,.slice none 0 0,bad])) w':=⟨by rw [h],hb⟩
theorem yE {d:ByteArray} {ok bad:Value} {w w':World} {b:Nat} {v:Value} {l:List Pc} (h:dU d = some (b,l)) (hv:jM w' v l) (hb:Below w.heap.size w w'):zV d ok bad w (.returned (.tuple #[.int .i64 (b:Int),v,ok])) w':=⟨by rw [h];exact ⟨v,rfl,hv⟩,hb⟩
theorem Bg (d:ByteArray):bOf d ≤ 4099:=gY _ _
theorem y5 (d:ByteArray):fF d ≤ 4099:=gY _ _
theorem Jj (x y:Nat) (w:World):(Instr.build 388 #[(0,.complex .f64 x y)]).run prog w = .ok (.agg #[.complex .f64 x y,.string ⟨#[]⟩]) w:=run_build w 388 _ _ (by kernel_rfl)
theorem Ji (s:ByteArray) (w:World):(Instr.build 388 #[(1,.string s)]).run prog w = .ok (.agg #[.complex .f64 0 0,.string s]) w:=run_build w 388 _ _ (by kernel_rfl)
theorem fM {ops:Array Oper} {rest:List Oper} {o:Oper} {a:Act} {Q:Exit → Act → World → Prop} (w:World) (hg:o.guard = none) (s x:Operand) (hop:o.op = Op.call { callee:=Callee.builtin Builtin.append,args:=#[s,x],argTypes:=#[352,352] })
  (base:Nat) (v:Value) (n:Nat) (xs:List Value) (hs:a.eval s = v) (hown:w.ownsRow base 388 2 v n xs) (b:Nat) (p:Pc) (hx:a.eval x = .slice (some ⟨b,0,none⟩) 1 1) (hr:w.rangeAt b 0 (pcF p)) (hn:n ≤ 10000000) (hbase:base ≤ w.heap.size)
  (hK:∀ v' w',w'.ownsRow base 388 2 v' (n + 1) (xs ++ pcF p) → w.grownBy w' v.ownBlock → Fr w v v' → wpList prog ops Q rest (a.put o.dst v') w'):wpList prog ops Q (o :: rest) a w:=by
 obtain ⟨i0,hi,hz0,hz1,hz2⟩:=info_parts FI
 refine aR w hg s x 352 hop base 388 i0 _ 2 32 underlying352 hi hz0 hz1 hz2 rfl (by decide) v n xs hs hown ⟨b,0,none⟩ 1 1 (pcF p) hx rfl (fun j u hu => ?_) (fun u hu => ?_) (by unfold maxLen;omega) (by omega) hbase hK
 ·have:=hr j u hu
  rw [Addr.add_mid]
  exact this
 unfold pcF at hu
 simp at hu
 rcases hu with rfl | rfl <;> rfl
theorem Ct (w:World) (p:Pc):(w.alloc (.cells #[.complex .f64 (floatOfInt .f64 (p.pos:Int)) (floatOfInt .f64 (p.n:Int)),.string p.t] 388)).rangeAt w.heap.size 0 (pcF p):=(BoxL.new w 388 (pcF p)).range
theorem gN {w w':World} {B b n k:Nat} {e:TypeId} {sz:Nat} {v:Value} {xs:List Value} {c:Nat → Value} (h:w.ownsRow B e sz v n xs) (hg:w.grownBy w' v.ownBlock) (hA:Arr w b k c) (hb:b < B):Arr w' b k c:=by
 have hne:v.ownBlock ≠ some b:=fun x => by have:=(h.lt b x).1;omega
 refine ⟨fun j hj => ?_,fun j hj => ?_⟩
 ·have h1:=hA.cell j hj
  have hl:=World.block_lt_of_cell? w _ h1
  rw [World.cell?_of_block (hg.block b hl (fun x => hne x.symm))];exact h1
 have hl:=World.block_lt_of_cell? w _ (hA.cell j hj)
 rw [World.frozen?_of_block (w:=w) (a:=⟨b,j,none⟩) (hg.block b hl (fun x => hne x.symm))];exact hA.free j hj
def Gn:Value → Nat
 | .slice _ n _ => n
 | _ => 0
def RdJ (d:ByteArray) (w:World):Nat → Act → World → Prop
 | 1,a,w' => ∃ (r:Rd) (l:List Pc) (v:Value) (v9 v10 v11 v12 v13 v14 v15 v16 v17 v18 v19 v20 v21 v22 v23 v24 v25 v26 v27 v28 v29 v30 v31 v32 v33 v34 v35 v36 v37 v38 v39 v40 v41 v42 v43 v44 v45 v46 v47 v48 v49 v50 v51 v52 v53 v54 v55 v56 v57 v58 v59 v60 v61 v62 v63 v64 v65 v66 v67:Value),a = { tmps:=#[.string d,undef,.int .i64 0,.slice none 0 0,.int .i64 0,.pointer (some ⟨w.heap.size,0,none⟩),.int .i64 (bOf d:Int),.int .i64 (fF d:Int),v,v9,v10,v11,v12,v13,v14,v15,v16,v17,v18,v19,v20,v21,v22,v23,v24,v25,v26,v27,v28,v29,v30,v31,v32,v33,v34,v35,v36,v37,v38,v39,v40,v41,v42,v43,v44,v45,v46,v47,v48,v49,v50,v51,v52,v53,v54,v55,v56,v57,v58,v59,v60,v61,v62,v63,v64,v65,v66,v67],defers:=[] } ∧
   Hid (Pend d r l) ∧ Arr w' w.heap.size 3 r.c ∧ w'.ownsRow (w.heap.size + 1) 388 2 v l.length (pcsF l) ∧ Below w.heap.size w w' ∧ Hid (l.length ≤ 4099)
 | 0,a,w' => ∃ (r:Rd) (l:List Pc) (v:Value) (v9 v10 v11 v12 v13 v14 v15 v16 v17 v18 v19 v20 v21 v22 v23 v24 v25 v26 v27 v28 v29 v30 v31 v32 v33 v34 v35 v36 v37 v38 v39 v40 v41 v42 v43 v44 v45 v46 v47 v48 v49 v50 v51 v52 v53 v54 v55 v56 v57 v58 v59 v60 v61 v62 v63 v64 v65 v66 v67:Value),a = { tmps:=#[.string d,undef,.int .i64 0,.slice none 0 0,.int .i64 0,.pointer (some ⟨w.heap.size,0,none⟩),.int .i64 (bOf d:Int),.int .i64 (fF d:Int),v,v9,v10,v11,v12,v13,v14,v15,v16,v17,v18,v19,v20,v21,v22,v23,v24,v25,v26,v27,v28,v29,v30,v31,v32,v33,v34,v35,v36,v37,v38,v39,v40,v41,v42,v43,v44,v45,v46,v47,v48,v49,v50,v51,v52,v53,v54,v55,v56,v57,v58,v59,v60,v61,v62,v63,v64,v65,v66,v67],defers:=[] } ∧
   Hid (Pend d r l) ∧ Hid (r.fin = 0) ∧ w'.ownsRow (w.heap.size + 1) 388 2 v l.length (pcsF l) ∧ Below w.heap.size w w'
 | 2,a,w' => ∃ (v:Value) (v9 v10 v11 v12 v13 v14 v15 v16 v17 v18 v19 v20 v21 v22 v23 v24 v25 v26 v27 v28 v29 v30 v31 v32 v33 v34 v35 v36 v37 v38 v39 v40 v41 v42 v43 v44 v45 v46 v47 v48 v49 v50 v51 v52 v53 v54 v55 v56 v57 v58 v59 v60 v61 v62 v63 v64 v65 v66 v67:Value),a = { tmps:=#[.string d,undef,.int .i64 0,.slice none 0 0,.int .i64 0,.pointer (some ⟨w.heap.size,0,none⟩),.int .i64 (bOf d:Int),.int .i64 (fF d:Int),v,v9,v10,v11,v12,v13,v14,v15,v16,v17,v18,v19,v20,v21,v22,v23,v24,v25,v26,v27,v28,v29,v30,v31,v32,v33,v34,v35,v36,v37,v38,v39,v40,v41,v42,v43,v44,v45,v46,v47,v48,v49,v50,v51,v52,v53,v54,v55,v56,v57,v58,v59,v60,v61,v62,v63,v64,v65,v66,v67],defers:=[] } ∧ Hid (dU d = none) ∧ Below w.heap.size w w'
 | _,_,_ => False
def RdM:Nat → Act → World → Nat
 | 2,_,_ => 0
 | 0,_,_ => 1
 | _,a,_ => 10000 - Gn (a.tmps.getD 8 undef)
theorem J8 (d:ByteArray) (w:World) (hd:d.size ≤ 1000000):Calls prog 282 #[.string d] w (zV d (.int .i64 0) (.int .i64 2) w):=by
 have HP0:=ah (oG hd)
 have HNR:=ah (kE d w)
 have HA0:Hid (Arr (w.alloc (.cells #[.string d,.int .i64 0,.int .i64 0] 245)) w.heap.size 3 (Rd.mk d 0 0).c):=ah ((Arr.ofList w [.string d,.int .i64 0,.int .i64 0] 245).congr fun k hk => by
  obtain h | h | h:k = 0 ∨ k = 1 ∨ k = 2:=by simp at hk;omega
  all_goals subst h;rfl)
 have hf0:(Rd.mk d 0 0).fine:=⟨Nat.zero_le _,hd,Nat.zero_le _⟩
 have HF0:=ah hf0
 have HF1:=ah ((Rd.aT _ 4099 hf0).1)
 have HB0:Hid (Below w.heap.size w (w.alloc (.cells #[.string d,.int .i64 0,.int .i64 0] 245))):=ah bal
 clear hf0
 go_enter func282,ntmps282
 go_wp2_with fail
 refine fE (RdJ d w) RdM ?_ ?_
 ·rintro l0 a w' hJ hfall
  have HFALL:=ah hfall
  clear hfall
  match l0,hJ with
  | 1,hJ =>
   refine ⟨_,rfl,?_⟩
   obtain ⟨r,l,v,v9,v10,v11,v12,v13,v14,v15,v16,v17,v18,v19,v20,v21,v22,v23,v24,v25,v26,v27,v28,v29,v30,v31,v32,v33,v34,v35,v36,v37,v38,v39,v40,v41,v42,v43,v44,v45,v46,v47,v48,v49,v50,v51,v52,v53,v54,v55,v56,v57,v58,v59,v60,v61,v62,v63,v64,v65,v66,v67,rfl,hP,hA,hO,hB,hll⟩:=hJ
   obtain ⟨vo,vc,rfl⟩:=ay hO
   have HO:=ah hO
   have HB:=ah hB
   have HA:=ah hA
   have HE:=ah (kF w.heap.size r w' hA hP.out.fine)
   clear hA hO hB
   go_wp2_with fail
   refine HE.out.mono ?_
   rintro e w4 ⟨rfl,hb4⟩
   have hrl:=HA.out.lt (show 0 < 3 by omega)
   have HA4:=ah (HA.out.below hb4 hrl)
   have HO4:=ah (own_below HO.out hb4)
   have HB4:=bth HB hb4
   clear hb4 HA HO HB hrl HE
   by_cases hfin:r.fin = 0
   ·have d1:((r.fin:Int) == 0) = true:=by rw [beq_iff_eq];omega
    have HFI:=ah hfin
    clear hfin
    go_wp2_with fail
    refine wp_goto ?_
    refine ⟨⟨r,l,_,_,_,_,_,_,_,_,_,_,_,_,_,_,_,_,_,_,_,_,_,_,_,_,_,_,_,_,_,_,_,_,_,_,_,_,_,_,_,_,_,_,_,_,_,_,_,_,_,_,_,_,_,_,_,_,_,_,_,_,rfl,hP,HFI,HO4.out,HB4.out⟩,?_⟩
    show 1 < 10000 - l.length
    have:=hll.out
    omega
   have d1:((r.fin:Int) == 0) = false:=by rw [beq_eq_false_iff_ne];omega
   have HFI:=ah hfin
   have HNM:=ah (gP w.heap.size r 8199 w4 HA4.out hP.out.fine (by decide))
   have HN0:=ah (Rd.aT r 8199 hP.out.fine).1
   have HPC:Hid (r.pc = if (r.num 8199).2 % 2 = 1 then (((r.num 8199).1.num 4099).1,⟨((r.num 8199).1.num 4099).2,(r.num 8199).2 / 2,ByteArray.empty⟩)
 else (((r.num 8199).1.raw ((r.num 8199).2 / 2)).1,⟨0,0,((r.num 8199).1.raw ((r.num 8199).2 / 2)).2⟩)):=ah rfl
   have hn1:=gY r 8199
   generalize (r.num 8199).1 = r1 at HNM HN0 HPC
   generalize (r.num 8199).2 = n at HNM HPC hn1
   clear hfin
   go_wp2_with fail
   refine HNM.out.mono ?_
   rintro e w5 ⟨rfl,hA5,hg5⟩
   have HA5:=ah hA5
   have HO5:=ah (bC HO4.out hg5 (Nat.lt_succ_self _))
   have HB5:=ah (HB4.out.grown hg5 HB4.out.size (fun k hk => by cases hk;exact Nat.le_refl _))
   clear hA5 hg5 HNM HA4 HO4 HB4
   have n0:(0:Int) ≤ n:=by omega
   by_cases hodd:n % 2 = 1
   ·have d2:((n:Int) % 2 == 1) = true:=by rw [beq_iff_eq];omega
    rw [if_pos hodd] at HPC
    have HNB:=ah (gP w.heap.size r1 4099 w5 HA5.out HN0.out (by decide))
    have hn2:=gY r1 4099
    generalize (r1.num 4099).1 = r2 at HNB HPC
    generalize (r1.num 4099).2 = m at HNB HPC hn2
    have hbd:=Jj
    go_wp2_with fail
    refine HNB.out.mono ?_
    rintro e w6 ⟨rfl,hA6,hg6⟩
    have HA6:=ah hA6
    have HO6:=ah (bC HO5.out hg6 (Nat.lt_succ_self _))
    have HB6:=ah (HB5.out.grown hg6 HB5.out.size (fun k hk => by cases hk;exact Nat.le_refl _))
    clear hA6 hg6 HNB HA5 HO5 HB5
    obtain ⟨W7,hW7⟩:∃ W7,w6.alloc (.cells #[.complex .f64 (floatOfInt .f64 (m:Int)) (floatOfInt .f64 ((n:Int) / 2)),.string ⟨#[]⟩] 388) = W7:=⟨_,rfl⟩
    have HRN:Hid (W7.rangeAt w6.heap.size 0 (pcF (Pc.mk m (n / 2) ByteArray.empty))):=ah (by
     rw [← hW7]
     have e2:((n / 2:Nat):Int) = (n:Int) / 2:=by omega
     have:=Ct w6 (Pc.mk m (n / 2) ByteArray.empty)
     dsimp only at this
     rw [e2] at this
     exact this)
    have HB7:Hid (Below w6.heap.size w6 W7):=ah (by rw [← hW7];exact bal)
    have HO7:=ah (own_below HO6.out HB7.out)
    have HA7:=ah (HA6.out.below HB7.out (HA6.out.lt (by omega)))
    have HB8:Hid (Below w.heap.size w W7):=ah (HB6.out.trans (HB7.out.mono HB6.out.size))
    have HB9:Hid (w.heap.size + 1 ≤ W7.heap.size):=ah (by have:=HA7.out.lt (show 0 < 3 by omega);omega)
    have hle9:=hll.out
    have HW7:=ah hW7
    clear hW7 HO6 HA6 HB6 HB7
    go_wp2_with (rw [HW7.out];refine fM _ rfl _ _ rfl (w.heap.size + 1) _ l.length (pcsF l) rfl HO7.out w6.heap.size (Pc.mk m (n / 2) ByteArray.empty) rfl HRN.out (by omega) HB9.out ?_)
    intro v8 w8 hown8 hg8 hfr8
    have HO8:Hid (w8.ownsRow (w.heap.size + 1) 388 2 v8 (l ++ [(Pc.mk m (n / 2) ByteArray.empty)]).length (pcsF (l ++ [(Pc.mk m (n / 2) ByteArray.empty)]))):=ah (by rw [nC,List.length_append];exact hown8)
    have HA8:Hid (Arr w8 w.heap.size 3 r2.c):=ah (gN HO7.out hg8 HA7.out (Nat.lt_succ_self _))
    have HB10:Hid (Below w.heap.size w w8):=ah (HB8.out.grown hg8 HB8.out.size (fun k hk => by have:=(HO7.out.lt k hk).1;omega))
    have HPK:Hid (r.pc = (r2,(Pc.mk m (n / 2) ByteArray.empty))):=HPC
    obtain ⟨vo8,vc8,rfl⟩:=ay hown8
    clear hown8 hg8 hfr8 HA7 HO7 HB8 HB9 HW7 HRN HPC
    have HER:=ah (jy w.heap.size r2 w8 HA8.out)
    go_wp2_with fail
    refine HER.out.mono ?_
    rintro e w9 ⟨rfl,rfl⟩
    have hnn:(l.length + 1:Nat) = l.length + 1:=rfl
    by_cases herr:r2.err = 0
    ·have d3:((r2.err:Int) != 0) = false:=by rw [bne_eq_false_iff_eq];omega
     have herr0:r.err = 0:=by
      rcases Nat.eq_zero_or_pos r.err with h0 | h0
      ·exact h0
      have:=Ls r (by omega)
      rw [HPK.out] at this
      have h2:r2 = r:=this
      rw [h2] at herr
      omega
     by_cases hlong:4099 < l.length + 1
     ·have d4:decide ((4099:Int) < (l.length:Int) + 1) = true:=decide_eq_true (by omega)
      have HNO:Hid (dU d = none):=ah (lg hP.out HFI.out (.inr hlong))
      clear herr herr0 hlong HPK hnn
      go_wp2_with fail
      refine wp_goto ?_
      refine ⟨⟨_,_,_,_,_,_,_,_,_,_,_,_,_,_,_,_,_,_,_,_,_,_,_,_,_,_,_,_,_,_,_,_,_,_,_,_,_,_,_,_,_,_,_,_,_,_,_,_,_,_,_,_,_,_,_,_,_,_,_,_,rfl,HNO,HB10.out⟩,?_⟩
      show 0 < 10000 - l.length
      omega
     have d4:decide ((4099:Int) < (l.length:Int) + 1) = false:=decide_eq_false (by omega)
     have HPN:Hid (Pend d r2 (l ++ [(Pc.mk m (n / 2) ByteArray.empty)])):=ah (by have:=nA hP.out (vE herr0 HFI.out);rw [HPK.out] at this;exact this)
     have hln:(l ++ [(Pc.mk m (n / 2) ByteArray.empty)]).length ≤ 4099:=by rw [List.length_append];simp only [List.length_cons,List.length_nil];omega
     have HLN:=ah hln
     clear herr herr0 hlong HPK hnn hln
     go_wp2_with fail
     refine wp_goto ?_
     refine ⟨⟨r2,l ++ [(Pc.mk m (n / 2) ByteArray.empty)],_,_,_,_,_,_,_,_,_,_,_,_,_,_,_,_,_,_,_,_,_,_,_,_,_,_,_,_,_,_,_,_,_,_,_,_,_,_,_,_,_,_,_,_,_,_,_,_,_,_,_,_,_,_,_,_,_,_,_,_,rfl,HPN,HA8.out,HO8.out,HB10.out,HLN⟩,?_⟩
     show 10000 - (l.length + 1) < 10000 - l.length
     omega
    have d3:((r2.err:Int) != 0) = true:=by rw [bne_iff_ne];omega
    have HNO:Hid (dU d = none):=ah (lg hP.out HFI.out (.inl (by rw [HPK.out];exact herr)))
    clear herr HPK hnn
    go_wp2_with fail
    refine wp_goto ?_
    refine ⟨⟨_,_,_,_,_,_,_,_,_,_,_,_,_,_,_,_,_,_,_,_,_,_,_,_,_,_,_,_,_,_,_,_,_,_,_,_,_,_,_,_,_,_,_,_,_,_,_,_,_,_,_,_,_,_,_,_,_,_,_,_,rfl,HNO,HB10.out⟩,?_⟩
    show 0 < 10000 - l.length
    omega
   have d2:((n:Int) % 2 == 1) = false:=by rw [beq_eq_false_iff_ne];omega
   rw [if_neg hodd] at HPC
   have HRW:=ah (l5 w.heap.size r1 (n / 2) w5 HA5.out HN0.out (by omega))
   have e2:((n / 2:Nat):Int) = (n:Int) / 2:=by omega
   rw [e2] at HRW
   have hrs:=Rd.jD r1 (n / 2)
   generalize (r1.raw (n / 2)).1 = r2 at HRW HPC
   generalize (r1.raw (n / 2)).2 = t at HRW HPC hrs
   have hbd:=Ji
   clear e2
   go_wp2_with fail
   refine HRW.out.mono ?_
   rintro e w6 ⟨rfl,hA6,hg6⟩
   have HA6:=ah hA6
   have HO6:=ah (bC HO5.out hg6 (Nat.lt_succ_self _))
   have HB6:=ah (HB5.out.grown hg6 HB5.out.size (fun k hk => by cases hk;exact Nat.le_refl _))
   clear hA6 hg6 HRW HA5 HO5 HB5
   obtain ⟨W7,hW7⟩:∃ W7,w6.alloc (.cells #[.complex .f64 0 0,.string t] 388) = W7:=⟨_,rfl⟩
   have HRN:Hid (W7.rangeAt w6.heap.size 0 (pcF (Pc.mk 0 0 t))):=ah (by
    rw [← hW7]
    exact Ct w6 (Pc.mk 0 0 t))
   have HB7:Hid (Below w6.heap.size w6 W7):=ah (by rw [← hW7];exact bal)
   have HO7:=ah (own_below HO6.out HB7.out)
   have HA7:=ah (HA6.out.below HB7.out (HA6.out.lt (by omega)))
   have HB8:Hid (Below w.heap.size w W7):=ah (HB6.out.trans (HB7.out.mono HB6.out.size))
   have HB9:Hid (w.heap.size + 1 ≤ W7.heap.size):=ah (by have:=HA7.out.lt (show 0 < 3 by omega);omega)
   have hle9:=hll.out
   have HW7:=ah hW7
   clear hW7 HO6 HA6 HB6 HB7
   go_wp2_with (rw [HW7.out];refine fM _ rfl _ _ rfl (w.heap.size + 1) _ l.length (pcsF l) rfl HO7.out w6.heap.size (Pc.mk 0 0 t) rfl HRN.out (by omega) HB9.out ?_)
   intro v8 w8 hown8 hg8 hfr8
   have HO8:Hid (w8.ownsRow (w.heap.size + 1) 388 2 v8 (l ++ [(Pc.mk 0 0 t)]).length (pcsF (l ++ [(Pc.mk 0 0 t)]))):=ah (by rw [nC,List.length_append];exact hown8)
   have HA8:Hid (Arr w8 w.heap.size 3 r2.c):=ah (gN HO7.out hg8 HA7.out (Nat.lt_succ_self _))
   have HB10:Hid (Below w.heap.size w w8):=ah (HB8.out.grown hg8 HB8.out.size (fun k hk => by have:=(HO7.out.lt k hk).1;omega))
   have HPK:Hid (r.pc = (r2,(Pc.mk 0 0 t))):=HPC
   obtain ⟨vo8,vc8,rfl⟩:=ay hown8
   clear hown8 hg8 hfr8 HA7 HO7 HB8 HB9 HW7 HRN HPC
   have HER:=ah (jy w.heap.size r2 w8 HA8.out)
   go_wp2_with fail
   refine HER.out.mono ?_
   rintro e w9 ⟨rfl,rfl⟩
   have hnn:(l.length + 1:Nat) = l.length + 1:=rfl
   by_cases herr:r2.err = 0
   ·have d3:((r2.err:Int) != 0) = false:=by rw [bne_eq_false_iff_eq];omega
    have herr0:r.err = 0:=by
     rcases Nat.eq_zero_or_pos r.err with h0 | h0
     ·exact h0
     have:=Ls r (by omega)
     rw [HPK.out] at this
     have h2:r2 = r:=this
     rw [h2] at herr
     omega
    by_cases hlong:4099 < l.length + 1
    ·have d4:decide ((4099:Int) < (l.length:Int) + 1) = true:=decide_eq_true (by omega)
     have HNO:Hid (dU d = none):=ah (lg hP.out HFI.out (.inr hlong))
     clear herr herr0 hlong HPK hnn
     go_wp2_with fail
     refine wp_goto ?_
     refine ⟨⟨_,_,_,_,_,_,_,_,_,_,_,_,_,_,_,_,_,_,_,_,_,_,_,_,_,_,_,_,_,_,_,_,_,_,_,_,_,_,_,_,_,_,_,_,_,_,_,_,_,_,_,_,_,_,_,_,_,_,_,_,rfl,HNO,HB10.out⟩,?_⟩
     show 0 < 10000 - l.length
     omega
    have d4:decide ((4099:Int) < (l.length:Int) + 1) = false:=decide_eq_false (by omega)
    have HPN:Hid (Pend d r2 (l ++ [(Pc.mk 0 0 t)])):=ah (by have:=nA hP.out (vE herr0 HFI.out);rw [HPK.out] at this;exact this)
    have hln:(l ++ [(Pc.mk 0 0 t)]).length ≤ 4099:=by rw [List.length_append];simp only [List.length_cons,List.length_nil];omega
    have HLN:=ah hln
    clear herr herr0 hlong HPK hnn hln
    go_wp2_with fail
    refine wp_goto ?_
    refine ⟨⟨r2,l ++ [(Pc.mk 0 0 t)],_,_,_,_,_,_,_,_,_,_,_,_,_,_,_,_,_,_,_,_,_,_,_,_,_,_,_,_,_,_,_,_,_,_,_,_,_,_,_,_,_,_,_,_,_,_,_,_,_,_,_,_,_,_,_,_,_,_,_,_,rfl,HPN,HA8.out,HO8.out,HB10.out,HLN⟩,?_⟩
    show 10000 - (l.length + 1) < 10000 - l.length
    omega
   have d3:((r2.err:Int) != 0) = true:=by rw [bne_iff_ne];omega
   have HNO:Hid (dU d = none):=ah (lg hP.out HFI.out (.inl (by rw [HPK.out];exact herr)))
   clear herr HPK hnn
   go_wp2_with fail
   refine wp_goto ?_
   refine ⟨⟨_,_,_,_,_,_,_,_,_,_,_,_,_,_,_,_,_,_,_,_,_,_,_,_,_,_,_,_,_,_,_,_,_,_,_,_,_,_,_,_,_,_,_,_,_,_,_,_,_,_,_,_,_,_,_,_,_,_,_,_,rfl,HNO,HB10.out⟩,?_⟩
   show 0 < 10000 - l.length
   omega
  | 0,hJ =>
   refine ⟨_,rfl,?_⟩
   obtain ⟨r,l,v,v9,v10,v11,v12,v13,v14,v15,v16,v17,v18,v19,v20,v21,v22,v23,v24,v25,v26,v27,v28,v29,v30,v31,v32,v33,v34,v35,v36,v37,v38,v39,v40,v41,v42,v43,v44,v45,v46,v47,v48,v49,v50,v51,v52,v53,v54,v55,v56,v57,v58,v59,v60,v61,v62,v63,v64,v65,v66,v67,rfl,hP,hfin,hO,hB⟩:=hJ
   have HV:=ah (jM.aS hO)
   have HB:=ah hB
   have HCK:=ah (wT (bOf d) v l w' (by have:=Bg d;omega) HV.out hP.out.ok)
   have HRP:Hid (dU d = jd (bOf d) (fF d) (r,l)):=ah (ny hP.out (MH hfin.out))
   clear hO hB
   go_wp2_with fail
   refine HCK.out.mono ?_
   rintro e w2 ⟨rfl,hb2⟩
   have HB2:=bth HB hb2
   have HV2:=ah (HV.out.below hb2)
   clear hb2
   cases hc:bA (bOf d) l with
   | inl e =>
    obtain ⟨he1,he2⟩:=jJ hc
    have HNO:Hid (dU d = none):=ah (by rw [HRP.out];unfold jd;rw [if_neg (by rw [hfin.out];decide)];dsimp only;rw [hc])
    have d3:((e:Int) == 0) = false:=by rw [beq_eq_false_iff_ne];omega
    clear hc
    dsimp only [iE]
    go_wp2_with fail
    rename_i hK
    refine wp_label (hK _ _ (HFALL.out 2 _ rfl _ _ ?_))
    exact ⟨⟨_,_,_,_,_,_,_,_,_,_,_,_,_,_,_,_,_,_,_,_,_,_,_,_,_,_,_,_,_,_,_,_,_,_,_,_,_,_,_,_,_,_,_,_,_,_,_,_,_,_,_,_,_,_,_,_,_,_,_,_,rfl,HNO,HB2.out⟩,by show 0 < 1;omega⟩
   | inr g =>
    dsimp only [iE]
    by_cases hg:g = fF d
    ·have HYE:Hid (dU d = some (bOf d,l)):=ah (by rw [HRP.out];unfold jd;rw [if_neg (by rw [hfin.out];decide)];dsimp only;rw [hc];dsimp only;rw [if_pos hg])
     have d4:((g:Int) == (fF d:Int)) = true:=by rw [beq_iff_eq];omega
     clear hc hg
     go_wp2_with fail
     rw [Exit.fT]
     go_ret3
     exact yE HYE.out HV2.out HB2.out
    have HNO:Hid (dU d = none):=ah (by rw [HRP.out];unfold jd;rw [if_neg (by rw [hfin.out];decide)];dsimp only;rw [hc];dsimp only;rw [if_neg hg])
    have d4:((g:Int) == (fF d:Int)) = false:=by rw [beq_eq_false_iff_ne];omega
    clear hc hg
    go_wp2_with fail
    rename_i hK
    refine wp_label (hK _ _ (HFALL.out 2 _ rfl _ _ ?_))
    exact ⟨⟨_,_,_,_,_,_,_,_,_,_,_,_,_,_,_,_,_,_,_,_,_,_,_,_,_,_,_,_,_,_,_,_,_,_,_,_,_,_,_,_,_,_,_,_,_,_,_,_,_,_,_,_,_,_,_,_,_,_,_,_,rfl,HNO,HB2.out⟩,by show 0 < 1;omega⟩
  | 2,hJ =>
   refine ⟨_,rfl,?_⟩
   obtain ⟨v,v9,v10,v11,v12,v13,v14,v15,v16,v17,v18,v19,v20,v21,v22,v23,v24,v25,v26,v27,v28,v29,v30,v31,v32,v33,v34,v35,v36,v37,v38,v39,v40,v41,v42,v43,v44,v45,v46,v47,v48,v49,v50,v51,v52,v53,v54,v55,v56,v57,v58,v59,v60,v61,v62,v63,v64,v65,v66,v67,rfl,hno,hB⟩:=hJ
   go_wp2_with fail
   rw [Exit.fT]
   go_ret3
   exact pE hno.out hB
  | _ + 3,hJ => exact hJ.elim
 intro hfall
 have HFALL:=ah hfall
 clear hfall
 go_wp2_with fail
 refine HNR.out.mono ?_
 rintro e w1 ⟨rfl,rfl⟩
 go_wp2_with fail
 refine (gP w.heap.size (Rd.mk d 0 0) 4099 _ HA0.out HF0.out (by decide)).mono ?_
 rintro e w2 ⟨rfl,hA2,hg2⟩
 have HA2:=ah hA2
 have HG2:=ah hg2
 clear hA2 hg2
 go_wp2_with fail
 refine (gP w.heap.size _ 4099 _ HA2.out HF1.out (by decide)).mono ?_
 rintro e w3 ⟨rfl,hA3,hg3⟩
 have HA3:Hid (Arr w3 w.heap.size 3 (rdOf d).c):=ah hA3
 have HB3:Hid (Below w.heap.size w w3):=ah (HB0.out.grown (HG2.out.trans hg3) HB0.out.size (fun k hk => by cases hk;exact Nat.le_refl _))
 have hb0:((Rd.mk d 0 0).num 4099).2 = bOf d:=rfl
 have hm0:(((Rd.mk d 0 0).num 4099).1.num 4099).2 = fF d:=rfl
 rw [hb0,hm0]
 clear hA3 hg3 hb0 hm0 HA2 HG2 HB0 HA0 HF0 HF1
 have hbl:=Bg d
 have hml:=y5 d
 go_wp2_with fail
 rename_i hK
 refine wp_label (hK _ _ (HFALL.out 1 _ rfl _ _ ?_))
 exact ⟨rdOf d,[],_,_,_,_,_,_,_,_,_,_,_,_,_,_,_,_,_,_,_,_,_,_,_,_,_,_,_,_,_,_,_,_,_,_,_,_,_,_,_,_,_,_,_,_,_,_,_,_,_,_,_,_,_,_,_,_,_,_,_,_,rfl,HP0,HA3.out,World.ownsRow_nil _ _ _ _,HB3.out,ah (Nat.zero_le _)⟩
@[go_sem] theorem run_store_complex8 {P:Program} (w:World) (a:Addr) (m:Mode) (k:FloatKind) (x y:Nat):(store a (.complex k x y) m).run P w = stored P w a (.complex k x y) m:=run_store P w a _ m rfl
theorem BoxL.put {W:World} {b:Nat} {t:TypeId} {cs:List Value} (h:BoxL W b t cs) (i:Nat) (v:Value):BoxL (W.setCell ⟨b,i,none⟩ v) b t (cs.set i v):=by
 obtain ⟨hlt,hk⟩:=Array.getElem?_eq_some_iff.1 h
 show (W.heap.modify b _)[b]? = _
 rw [Array.getElem?_eq_getElem (by rw [Array.size_modify];exact hlt),Array.getElem_modify_self,hk]
 simp
theorem Nz (w:World):(Instr.build 388 #[]).run prog w = .ok (.agg #[.complex .f64 0 0,.string ⟨#[]⟩]) w:=run_build w 388 _ _ (by kernel_rfl)
theorem Cx {w w':World} {B n:Nat} {e:TypeId} {sz:Nat} {v:Value} {xs:List Value} (h:w.ownsRow B e sz v n xs) (_:w'.ownsRow B e sz v n xs):v.ownBlock = none ∨ v.ownBlock ≠ some w.heap.size:=nD h
theorem Cr (w:World):(zeroValue 388).run prog w = .ok (.agg #[.complex .f64 0 0,.string ⟨#[]⟩]) w:=by
 obtain ⟨i0,hi,hz0,hz1,hz2⟩:=info_parts FI
 simp [zeroValue,typeInfo,hi,hz0]
theorem yO (w:World):(sizeOf 388).run prog w = .ok 2 w:=by
 obtain ⟨i0,hi,hz0,hz1,hz2⟩:=info_parts FI
 simp [sizeOf,typeInfo,hi,hz1]
theorem Er (d:ByteArray) (w:World) (hd:d.size ≤ 1000000):Calls prog 233 #[.string d] w (zV d (.bool true) (.bool false) w):=by
 have HP0:=ah (oG hd)
 have HA0:Hid (Arr (w.alloc (.cells #[.string d,.int .i64 0,.int .i64 0] 228)) w.heap.size 3 (Rd.mk d 0 0).c):=ah ((Arr.ofList w [.string d,.int .i64 0,.int .i64 0] 228).congr fun k hk => by
  obtain h | h | h:k = 0 ∨ k = 1 ∨ k = 2:=by simp at hk;omega
  all_goals subst h;rfl)
 have hf0:(Rd.mk d 0 0).fine:=⟨Nat.zero_le _,hd,Nat.zero_le _⟩
 have HF0:=ah hf0
 have HF1:=ah ((Rd.aT _ 4099 hf0).1)
 have HB0:Hid (Below w.heap.size w (w.alloc (.cells #[.string d,.int .i64 0,.int .i64 0] 228))):=ah bal
 clear hf0
 go_enter func233,ntmps233
 go_wp2_with fail
 refine (gQ w.heap.size (Rd.mk d 0 0) 4099 _ HA0.out HF0.out (by decide)).mono ?_
 rintro e w2 ⟨rfl,hA2,hg2⟩
 have HA2:=ah hA2
 have HG2:=ah hg2
 clear hA2 hg2
 go_wp2_with fail
 refine (gQ w.heap.size _ 4099 _ HA2.out HF1.out (by decide)).mono ?_
 rintro e w3 ⟨rfl,hA3,hg3⟩
 have HA3:Hid (Arr w3 w.heap.size 3 (rdOf d).c):=ah hA3
 have HB3:Hid (Below w.heap.size w w3):=ah (HB0.out.grown (HG2.out.trans hg3) HB0.out.size (fun k hk => by cases hk;exact Nat.le_refl _))
 have hb0:((Rd.mk d 0 0).num 4099).2 = bOf d:=rfl
 have hm0:(((Rd.mk d 0 0).num 4099).1.num 4099).2 = fF d:=rfl
 rw [hb0,hm0]
 clear hA3 hg3 hb0 hm0 HA2 HG2 HB0 HA0 HF0 HF1
 have hbl:=Bg d
 have hml:=y5 d
 go_wp2_with fail
 go_loopw [8,9,10] (fun v _ _ wr => ∃ (r:Rd) (l:List Pc),Hid (Pend d r l) ∧ Arr wr w.heap.size 3 r.c ∧ wr.ownsRow (w.heap.size + 1) 388 2 v l.length (pcsF l) ∧ Below w.heap.size w wr) (fun v _ _ _ => 2000000 - Gn v)
 case atStart => exact ⟨rdOf d,[],HP0,HA3.out,World.ownsRow_nil _ _ _ _,HB3.out⟩
 obtain ⟨r,l,hP,hA,hO,hB⟩:=hrel
 obtain ⟨vo,vc,rfl⟩:=ay hO
 have HA:=ah hA
 have HO:=ah hO
 have HB:=ah hB
 have hlen:=hP.out.len
 have hs:=hP.out.s
 have c0:wr.cell? ⟨w.heap.size,2,none⟩ = some (.int .i64 (r.err:Int)):=hA.cell 2 (by omega)
 have c1:wr.cell? ⟨w.heap.size,1,none⟩ = some (.int .i64 (r.pos:Int)):=hA.cell 1 (by omega)
 clear hA hO hB
 by_cases hm:r.more = true
 ·obtain ⟨h0,hp⟩:=CR hm
  have d1:((r.err:Int) == 0) = true:=by rw [beq_iff_eq];omega
  rw [hs] at hp
  have d2:(r.pos:Int) < (d.size:Int):=by omega
  have HM:=ah hm
  have HL:Hid (l.length ≤ 1000000):=ah (by have:=hP.out.at0 h0;omega)
  have HNM:=ah (gQ w.heap.size r 8199 wr HA.out hP.out.fine (by decide))
  have HN0:=ah (Rd.aT r 8199 hP.out.fine).1
  have HPC:Hid (r.pc = if (r.num 8199).2 % 2 = 1 then (((r.num 8199).1.num 4099).1,⟨((r.num 8199).1.num 4099).2,(r.num 8199).2 / 2,ByteArray.empty⟩)
 else (((r.num 8199).1.raw ((r.num 8199).2 / 2)).1,⟨0,0,((r.num 8199).1.raw ((r.num 8199).2 / 2)).2⟩)):=ah rfl
  have hn1:=gY r 8199
  generalize (r.num 8199).1 = r1 at HNM HN0 HPC
  generalize (r.num 8199).2 = n at HNM HPC hn1
  clear hm h0 hs hp hlen
  go_wp2_with fail
  refine HNM.out.mono ?_
  rintro e w5 ⟨rfl,hA5,hg5⟩
  have HA5:=ah hA5
  have HO5:=ah (bC HO.out hg5 (Nat.lt_succ_self _))
  have HB5:=ah (HB.out.grown hg5 HB.out.size (fun k hk => by cases hk;exact Nat.le_refl _))
  clear hA5 hg5 HNM HA HO HB c0 c1
  have n0:(0:Int) ≤ n:=by omega
  have hz:=Nz
  have HT1:=ah (there_alloc (n:=2) w5 #[.complex .f64 0 0,.string ⟨#[]⟩] 388 rfl)
  have HBX:=ah (BoxL.new w5 388 [.complex .f64 0 0,.string ⟨#[]⟩])
  have HIP:=ah p9
  obtain ⟨W,hW⟩:∃ W,(w5.alloc (.cells #[.complex .f64 0 0,.string ⟨#[]⟩] 388)).setCells w5.heap.size 0 [.complex .f64 0 0,.string ⟨#[]⟩] = W:=⟨_,rfl⟩
  have HBXW:Hid (BoxL W w5.heap.size 388 [.complex .f64 0 0,.string ⟨#[]⟩]):=ah (by rw [← hW];exact HBX.out.set rfl)
  have HBW:Hid (Below w5.heap.size w5 W):=ah (by rw [← hW];exact below_setCells _ (Nat.le_refl _) _ _ _ bal)
  have HA6:=ah (HA5.out.below HBW.out (HA5.out.lt (by omega)))
  have HO6:=ah (own_below HO5.out HBW.out)
  have HB6:=ah (HB5.out.trans (HBW.out.mono HB5.out.size))
  have HLT:Hid (w.heap.size < w5.heap.size):=ah (HA5.out.lt (show 0 < 3 by omega))
  have HW:=ah hW
  clear hW HBX
  by_cases hodd:n % 2 = 1
  ·have d3:((n:Int) % 2 == 1) = true:=by rw [beq_iff_eq];omega
   rw [if_pos hodd] at HPC
   have HNB:=ah (gQ w.heap.size r1 4099 W HA6.out HN0.out (by decide))
   have hn2:=gY r1 4099
   generalize (r1.num 4099).1 = r2 at HNB HPC
   generalize (r1.num 4099).2 = m at HNB HPC hn2
   clear hodd
   go_upto_region 8 with (refine aj rfl 388 _ _ rfl w5.heap.size 0 [.complex .f64 0 0,.string ⟨#[]⟩] rfl rfl 2 rfl HT1.out HIP.out (by intro v hv;simp at hv;rcases hv with rfl | rfl <;> rfl) ?_;rw [HW.out])
   go_wp2_with fail
   refine HNB.out.mono ?_
   rintro e w6 ⟨rfl,hA7,hg7⟩
   have HA7':=ah hA7
   have HO7:=ah (bC HO6.out hg7 (Nat.lt_succ_self _))
   have HB7:=ah (HB6.out.grown hg7 HB6.out.size (fun k hk => by cases hk;exact Nat.le_refl _))
   have HBX7:=ah (HBXW.out.kept hg7 (fun e => by have:=HLT.out;have e2:=Option.some.inj e;omega))
   have f0:w6.frozen? ⟨w5.heap.size,0,none⟩ = false:=by have:=(HBX7.out.there 0 (by decide)).2;rwa [Nat.zero_add] at this
   have g0:w6.cell? ⟨w5.heap.size,0,none⟩ = some (.complex .f64 0 0):=HBX7.out.range 0 _ rfl
   obtain ⟨W8,hW8⟩:∃ W8,w6.setCell ⟨w5.heap.size,0,none⟩ (.complex .f64 (floatOfInt .f64 (m:Int)) (floatOfInt .f64 ((n:Int) / 2))) = W8:=⟨_,rfl⟩
   have hne8:(Value.slice vo l.length vc).ownBlock = none ∨ (Value.slice vo l.length vc).ownBlock ≠ some w5.heap.size:=Cx HO5.out HO7.out
   have HO8:Hid (W8.ownsRow (w.heap.size + 1) 388 2 (.slice vo l.length vc) l.length (pcsF l)):=ah (by rw [← hW8];exact bE HO7.out hne8)
   have HA8:Hid (Arr W8 w.heap.size 3 r2.c):=ah (by rw [← hW8];exact HA7'.out.far (Nat.ne_of_gt HLT.out) _)
   have HB8:Hid (Below w.heap.size w W8):=ah (by rw [← hW8];exact HB7.out.setCell (p:=⟨w5.heap.size,0,none⟩) (Nat.le_of_lt HLT.out) _)
   have HBX8:Hid (BoxL W8 w5.heap.size 388 (pcF (Pc.mk m (n / 2) ByteArray.empty))):=ah (by
    have:=HBX7.out.put 0 (.complex .f64 (floatOfInt .f64 (m:Int)) (floatOfInt .f64 ((n:Int) / 2)))
    rw [hW8] at this
    have e2:((n / 2:Nat):Int) = (n:Int) / 2:=by omega
    rw [← e2] at this
    exact this)
   have hr8:=HBX8.out.range
   have h28:(prog.info? 388).map (·.size) = some (pcF (Pc.mk m (n / 2) ByteArray.empty)).length:=p9
   have HZ8:Hid (∀ w,(sizeOf 388).run prog w = .ok (pcF (Pc.mk m (n / 2) ByteArray.empty)).length w):=ah yO
   have HRN:Hid ((W8.alloc (.cells (pcF (Pc.mk m (n / 2) ByteArray.empty)).toArray 388)).rangeAt W8.heap.size 0 (pcF (Pc.mk m (n / 2) ByteArray.empty))):=ah (BoxL.new W8 388 (pcF (Pc.mk m (n / 2) ByteArray.empty))).range
   have HB9:Hid (Below W8.heap.size W8 (W8.alloc (.cells (pcF (Pc.mk m (n / 2) ByteArray.empty)).toArray 388))):=ah bal
   have HO9:=ah (own_below HO8.out HB9.out)
   have HA9:=ah (HA8.out.below HB9.out (HA8.out.lt (by omega)))
   have HBA:Hid (Below w.heap.size w (W8.alloc (.cells (pcF (Pc.mk m (n / 2) ByteArray.empty)).toArray 388))):=ah (HB8.out.trans (HB9.out.mono HB8.out.size))
   have HS9:Hid (w.heap.size + 1 ≤ (W8.alloc (.cells (pcF (Pc.mk m (n / 2) ByteArray.empty)).toArray 388)).heap.size):=ah (by have:=HA9.out.lt (show 0 < 3 by omega);omega)
   have HW8:=ah hW8
   have HPK:Hid (r.pc = (r2,(Pc.mk m (n / 2) ByteArray.empty))):=HPC
   generalize hcs:pcF (Pc.mk m (n / 2) ByteArray.empty) = cs at hr8 h28 HZ8 HRN HB9 HO9 HA9 HBA HS9 HBX8
   have HCP:=ah hcs
   have HCL:Hid (0 < cs.length ∧ cs.length ≤ 1000):=ah (by rw [← hcs];exact ⟨Nat.succ_pos _,(by show 2 ≤ 1000;decide)⟩)
   have HZV:=ah Cr
   have HLL:Hid (l.length ≤ 10000000):=ah (by have:=HL.out;omega)
   clear hW8 hA7 hg7 HBX7 HO7 HB7 hne8 HPC hcs HA5 HO5 HB5 HBW HBXW HA6 HO6 HB6
   go_upto_region 11 with (rw [HW8.out])
   go_wp2_with (first
    | refine wpList_load_mid rfl 388 _ rfl w5.heap.size 0 rfl cs _ hr8 underlying388 rfl h28 ?_
    | refine av rfl _ 352 388 rfl cs #[.complex .f64 0 0,.string ⟨#[]⟩] rfl underlying352 HZ8.out HZV.out HCL.out.1 HCL.out.2 ?_
    | refine fM _ rfl _ _ rfl (w.heap.size + 1) _ l.length (pcsF l) rfl HO9.out W8.heap.size (Pc.mk m (n / 2) ByteArray.empty) rfl (by rw [HCP.out];exact HRN.out) HLL.out HS9.out ?_)
   intro v9 w9 hown9 hg9 _
   have HO10:Hid (w9.ownsRow (w.heap.size + 1) 388 2 v9 (l ++ [Pc.mk m (n / 2) ByteArray.empty]).length (pcsF (l ++ [Pc.mk m (n / 2) ByteArray.empty]))):=ah (by rw [nC,List.length_append];exact hown9)
   have HA10:Hid (Arr w9 w.heap.size 3 r2.c):=ah (gN HO9.out hg9 HA9.out (Nat.lt_succ_self _))
   have HB10:Hid (Below w.heap.size w w9):=ah (HBA.out.grown hg9 HBA.out.size (fun k hk => by have:=(HO9.out.lt k hk).1;omega))
   have HPN:Hid (Pend d r2 (l ++ [Pc.mk m (n / 2) ByteArray.empty])):=ah (by have:=nA hP.out HM.out;rw [HPK.out] at this;exact this)
   obtain ⟨vo9,vc9,rfl⟩:=ay hown9
   have hll:=HL.out
   clear hown9 hg9 hr8 h28
   go_wp2_with fail
   go_roundw
   case rel => exact ⟨r2,_,HPN,HA10.out,HO10.out,HB10.out⟩
   case measure => show 2000000 - (l.length + 1) < 2000000 - l.length;omega
  have d3:((n:Int) % 2 == 1) = false:=by rw [beq_eq_false_iff_ne];omega
  rw [if_neg hodd] at HPC
  have HNB:=ah (uH w.heap.size r1 (n / 2) W HA6.out HN0.out (by omega))
  have hn2:=Rd.jD r1 (n / 2)
  generalize (r1.raw (n / 2)).1 = r2 at HNB HPC
  generalize (r1.raw (n / 2)).2 = t at HNB HPC hn2
  have e2:((n / 2:Nat):Int) = (n:Int) / 2:=by omega
  rw [e2] at HNB
  clear e2
  clear hodd
  go_upto_region 8 with (refine aj rfl 388 _ _ rfl w5.heap.size 0 [.complex .f64 0 0,.string ⟨#[]⟩] rfl rfl 2 rfl HT1.out HIP.out (by intro v hv;simp at hv;rcases hv with rfl | rfl <;> rfl) ?_;rw [HW.out])
  go_wp2_with fail
  refine HNB.out.mono ?_
  rintro e w6 ⟨rfl,hA7,hg7⟩
  have HA7':=ah hA7
  have HO7:=ah (bC HO6.out hg7 (Nat.lt_succ_self _))
  have HB7:=ah (HB6.out.grown hg7 HB6.out.size (fun k hk => by cases hk;exact Nat.le_refl _))
  have HBX7:=ah (HBXW.out.kept hg7 (fun e => by have:=HLT.out;have e2:=Option.some.inj e;omega))
  have f0:w6.frozen? ⟨w5.heap.size,1,none⟩ = false:=by have:=(HBX7.out.there 1 (by decide)).2;rwa [Nat.zero_add] at this
  have g0:w6.cell? ⟨w5.heap.size,1,none⟩ = some (.string ⟨#[]⟩):=HBX7.out.range 1 _ rfl
  obtain ⟨W8,hW8⟩:∃ W8,w6.setCell ⟨w5.heap.size,1,none⟩ (.string t) = W8:=⟨_,rfl⟩
  have hne8:(Value.slice vo l.length vc).ownBlock = none ∨ (Value.slice vo l.length vc).ownBlock ≠ some w5.heap.size:=Cx HO5.out HO7.out
  have HO8:Hid (W8.ownsRow (w.heap.size + 1) 388 2 (.slice vo l.length vc) l.length (pcsF l)):=ah (by rw [← hW8];exact bE HO7.out hne8)
  have HA8:Hid (Arr W8 w.heap.size 3 r2.c):=ah (by rw [← hW8];exact HA7'.out.far (Nat.ne_of_gt HLT.out) _)
  have HB8:Hid (Below w.heap.size w W8):=ah (by rw [← hW8];exact HB7.out.setCell (p:=⟨w5.heap.size,1,none⟩) (Nat.le_of_lt HLT.out) _)
  have HBX8:Hid (BoxL W8 w5.heap.size 388 (pcF (Pc.mk 0 0 t))):=ah (by
   have:=HBX7.out.put 1 (.string t)
   rw [hW8] at this
   exact this)
  have hr8:=HBX8.out.range
  have h28:(prog.info? 388).map (·.size) = some (pcF (Pc.mk 0 0 t)).length:=p9
  have HZ8:Hid (∀ w,(sizeOf 388).run prog w = .ok (pcF (Pc.mk 0 0 t)).length w):=ah yO
  have HRN:Hid ((W8.alloc (.cells (pcF (Pc.mk 0 0 t)).toArray 388)).rangeAt W8.heap.size 0 (pcF (Pc.mk 0 0 t))):=ah (BoxL.new W8 388 (pcF (Pc.mk 0 0 t))).range
  have HB9:Hid (Below W8.heap.size W8 (W8.alloc (.cells (pcF (Pc.mk 0 0 t)).toArray 388))):=ah bal
  have HO9:=ah (own_below HO8.out HB9.out)
  have HA9:=ah (HA8.out.below HB9.out (HA8.out.lt (by omega)))
  have HBA:Hid (Below w.heap.size w (W8.alloc (.cells (pcF (Pc.mk 0 0 t)).toArray 388))):=ah (HB8.out.trans (HB9.out.mono HB8.out.size))
  have HS9:Hid (w.heap.size + 1 ≤ (W8.alloc (.cells (pcF (Pc.mk 0 0 t)).toArray 388)).heap.size):=ah (by have:=HA9.out.lt (show 0 < 3 by omega);omega)
  have HW8:=ah hW8
  have HPK:Hid (r.pc = (r2,(Pc.mk 0 0 t))):=HPC
  generalize hcs:pcF (Pc.mk 0 0 t) = cs at hr8 h28 HZ8 HRN HB9 HO9 HA9 HBA HS9 HBX8
  have HCP:=ah hcs
  have HCL:Hid (0 < cs.length ∧ cs.length ≤ 1000):=ah (by rw [← hcs];exact ⟨Nat.succ_pos _,(by show 2 ≤ 1000;decide)⟩)
  have HZV:=ah Cr
  have HLL:Hid (l.length ≤ 10000000):=ah (by have:=HL.out;omega)
  clear hW8 hA7 hg7 HBX7 HO7 HB7 hne8 HPC hcs HA5 HO5 HB5 HBW HBXW HA6 HO6 HB6
  go_upto_region 11 with (rw [HW8.out])
  go_wp2_with (first
   | refine wpList_load_mid rfl 388 _ rfl w5.heap.size 0 rfl cs _ hr8 underlying388 rfl h28 ?_
   | refine av rfl _ 352 388 rfl cs #[.complex .f64 0 0,.string ⟨#[]⟩] rfl underlying352 HZ8.out HZV.out HCL.out.1 HCL.out.2 ?_
   | refine fM _ rfl _ _ rfl (w.heap.size + 1) _ l.length (pcsF l) rfl HO9.out W8.heap.size (Pc.mk 0 0 t) rfl (by rw [HCP.out];exact HRN.out) HLL.out HS9.out ?_)
  intro v9 w9 hown9 hg9 _
  have HO10:Hid (w9.ownsRow (w.heap.size + 1) 388 2 v9 (l ++ [Pc.mk 0 0 t]).length (pcsF (l ++ [Pc.mk 0 0 t]))):=ah (by rw [nC,List.length_append];exact hown9)
  have HA10:Hid (Arr w9 w.heap.size 3 r2.c):=ah (gN HO9.out hg9 HA9.out (Nat.lt_succ_self _))
  have HB10:Hid (Below w.heap.size w w9):=ah (HBA.out.grown hg9 HBA.out.size (fun k hk => by have:=(HO9.out.lt k hk).1;omega))
  have HPN:Hid (Pend d r2 (l ++ [Pc.mk 0 0 t])):=ah (by have:=nA hP.out HM.out;rw [HPK.out] at this;exact this)
  obtain ⟨vo9,vc9,rfl⟩:=ay hown9
  have hll:=HL.out
  clear hown9 hg9 hr8 h28
  go_wp2_with fail
  go_roundw
  case rel => exact ⟨r2,_,HPN,HA10.out,HO10.out,HB10.out⟩
  case measure => show 2000000 - (l.length + 1) < 2000000 - l.length;omega
 have hmf:r.more = false:=by simpa using hm
 have HRP:Hid (dU d = jd (bOf d) (fF d) (r,l)):=ah (ny hP.out hmf)
 have hcond:Hid (((r.err:Int) == 0) = false ∨ (((r.err:Int) == 0) = true ∧ ¬ (r.pos:Int) < (d.size:Int))):=by
  unfold Hid
  by_cases h0:r.err = 0
  ·right
   refine ⟨by rw [beq_iff_eq];omega,fun h => hm ?_⟩
   exact decide_eq_true ⟨h0,by rw [hs];omega⟩
  left;rw [beq_eq_false_iff_ne];omega
 have HEN:=ah (kJ w.heap.size r wr HA.out hP.out.fine)
 have HV:=ah (jM.aS HO.out)
 clear hm hmf hs hlen HA HO
 rcases hcond.out with dc | ⟨dc,dd⟩
 all_goals
  clear hcond
  go_wp2_with fail
  refine HEN.out.mono ?_
  rintro e w4 ⟨rfl,hb4⟩
  have HB4:=bth HB hb4
  have HV4:=ah (HV.out.below hb4)
  clear hb4 HEN HV HB c0 c1
  by_cases hfin:r.fin = 0
  ·have d5:((r.fin:Int) != 0) = false:=by rw [bne_eq_false_iff_eq];omega
   have HCK:=ah (uP (bOf d) (.slice vo l.length vc) l w4 (by omega) HV4.out hP.out.ok)
   have HFI:=ah hfin
   clear hfin dc
   go_wp2_with fail
   refine HCK.out.mono ?_
   rintro e w5 ⟨rfl,hb5⟩
   have HB5:=bth HB4 hb5
   have HV5:=ah (HV4.out.below hb5)
   clear hb5
   cases hc:bA (bOf d) l with
   | inl e =>
    obtain ⟨he1,he2⟩:=jJ hc
    have HNO:Hid (dU d = none):=ah (by rw [HRP.out];unfold jd;rw [if_neg (by rw [HFI.out];decide)];dsimp only;rw [hc])
    have d3:((e:Int) != 0) = true:=by rw [bne_iff_ne];omega
    clear hc
    dsimp only [iE]
    go_wp2_with fail
    go_ret3
    exact pE HNO.out HB5.out
   | inr g =>
    dsimp only [iE]
    by_cases hg:g = fF d
    ·have HYE:Hid (dU d = some (bOf d,l)):=ah (by rw [HRP.out];unfold jd;rw [if_neg (by rw [HFI.out];decide)];dsimp only;rw [hc];dsimp only;rw [if_pos hg])
     have d4:((g:Int) != (fF d:Int)) = false:=by rw [bne_eq_false_iff_eq];omega
     clear hc hg
     go_wp2_with fail
     go_ret3
     exact yE HYE.out HV5.out HB5.out
    have HNO:Hid (dU d = none):=ah (by rw [HRP.out];unfold jd;rw [if_neg (by rw [HFI.out];decide)];dsimp only;rw [hc];dsimp only;rw [if_neg hg])
    have d4:((g:Int) != (fF d:Int)) = true:=by rw [bne_iff_ne];omega
    clear hc hg
    go_wp2_with fail
    go_ret3
    exact pE HNO.out HB5.out
  have d5:((r.fin:Int) != 0) = true:=by rw [bne_iff_ne];omega
  have HNO:Hid (dU d = none):=ah (by rw [HRP.out];unfold jd;rw [if_pos hfin])
  clear hfin dc
  go_wp2_with fail
  go_ret3
  exact pE HNO.out HB4.out
theorem Ch {d:ByteArray} {x:Nat × List Pc} (hd:d.size ≤ 1000000) (h:dU d = some x):x.1 ≤ 4099 ∧ PcOk x.2:=by
 obtain ⟨b,l⟩:=x
 have hp:=oG hd
 obtain ⟨h1,h2⟩:b = bOf d ∧ l = (Rd.pcs (d.size + 1) (rdOf d) []).2:=by
  rw [Ci] at h
  unfold jd at h
  split at h
  ·cases h
  split at h
  ·cases h
  split at h
  ·cases h;exact ⟨rfl,rfl⟩
  cases h
 refine ⟨by rw [h1];exact Bg d,?_⟩
 rw [h2]
 have key:∀ (f:Nat) (r:Rd) (l:List Pc),PcOk l → PcOk (Rd.pcs f r l).2:=by
  intro f
  induction f with
  | zero => exact fun _ _ h => h
  | succ f ih =>
   intro r l hl
   unfold Rd.pcs
   split
   ·refine ih _ _ fun p hp => ?_
    rcases List.mem_append.1 hp with hp | hp
    ·exact hl p hp
    rcases List.mem_singleton.1 hp with rfl
    have:=Ot r
    omega
   exact hl
 exact key _ _ _ fun p hp => by cases hp
theorem sJ {base d:ByteArray} (h:dU d = none):dH base d = .inl 2:=by unfold dH;rw [h]
theorem sI {base d:ByteArray} {x:Nat × List Pc} (h:dU d = some x):dH base d = if x.1 ≠ base.size then .inl 19 else iZ base x.2:=by unfold dH;rw [h]
theorem F6 (base d:ByteArray) (w:World) (hb:base.size ≤ 100000) (hd:d.size ≤ 1000000):Calls prog 245 #[.string base,.string d] w fun e w' => e = .returned (eG (dH base d)) ∧ Below w.heap.size w w':=by
 have HD:=ah (J8 d w hd)
 unfold zV at HD
 cases hr:dU d with
 | none =>
  rw [hr] at HD
  have HR:Hid (eG (dH base d) = .tuple #[.string ⟨#[]⟩,.int .i64 2]):=ah (by rw [sJ hr];rfl)
  clear hr
  go_enter func245,ntmps245
  go_wp2_with fail
  refine HD.out.mono ?_
  rintro e w2 ⟨rfl,hb2⟩
  go_wp2_with fail
  go_ret2
  exact ⟨by rw [HR.out];rfl,hb2⟩
 | some x =>
  obtain ⟨hx1,hx2⟩:=Ch hd hr
  rw [hr] at HD
  have HA:=ah (sI (base:=base) hr)
  obtain ⟨b,l⟩:=x
  dsimp only at HD HA hx1 hx2
  clear hr
  by_cases he:b = base.size
  ·subst he
   rw [if_neg (by omega)] at HA
   have HO:=ah hx2
   clear hx2
   go_enter func245,ntmps245
   go_wp2_with fail
   refine HD.out.mono ?_
   rintro e w2 ⟨⟨v,rfl,hv⟩,hb2⟩
   have HT:=ah (J7 base v l w2 hb hv HO.out)
   have HB2:=ah hb2
   clear hv hb2
   go_wp2_with fail
   refine HT.out.mono ?_
   rintro e w3 ⟨rfl,hb3⟩
   have HB3:=bth HB2 hb3
   clear hb3
   cases ht:iZ base l with
   | inl e =>
    have HR:Hid (eG (dH base d) = .tuple #[.string ⟨#[]⟩,.int .i64 (e:Int)]):=ah (by rw [HA.out,ht];rfl)
    clear ht
    dsimp only [eG]
    go_wp2_with fail
    go_ret2
    exact ⟨by rw [HR.out];rfl,HB3.out⟩
   | inr t =>
    have HR:Hid (eG (dH base d) = .tuple #[.string (ofB t),.int .i64 0]):=ah (by rw [HA.out,ht];rfl)
    clear ht
    dsimp only [eG]
    go_wp2_with fail
    go_ret2
    exact ⟨by rw [HR.out];rfl,HB3.out⟩
  rw [if_pos he] at HA
  have HR:Hid (eG (dH base d) = .tuple #[.string ⟨#[]⟩,.int .i64 19]):=ah (by rw [HA.out];rfl)
  have d1:((b:Int) != (base.size:Int)) = true:=by rw [bne_iff_ne];omega
  clear HA he hx2
  go_enter func245,ntmps245
  go_wp2_with fail
  refine HD.out.mono ?_
  rintro e w2 ⟨⟨v,rfl,hv⟩,hb2⟩
  clear hv
  go_wp2_with fail
  go_ret2
  exact ⟨by rw [HR.out];rfl,hb2⟩
theorem EL (base d:ByteArray) (w:World) (hb:base.size ≤ 100000) (hd:d.size ≤ 1000000):Calls prog 188 #[.string base,.string d] w fun e w' => e = .returned (eG (dH base d)) ∧ Below w.heap.size w w':=by
 have HD:=ah (Er d w hd)
 unfold zV at HD
 cases hr:dU d with
 | none =>
  rw [hr] at HD
  have HR:Hid (eG (dH base d) = .tuple #[.string ⟨#[]⟩,.int .i64 2]):=ah (by rw [sJ hr];rfl)
  clear hr
  go_enter func188,ntmps188
  go_wp2_with fail
  refine HD.out.mono ?_
  rintro e w2 ⟨rfl,hb2⟩
  go_wp2_with fail
  go_ret2
  exact ⟨by rw [HR.out];rfl,hb2⟩
 | some x =>
  obtain ⟨hx1,hx2⟩:=Ch hd hr
  rw [hr] at HD
  have HA:=ah (sI (base:=base) hr)
  obtain ⟨b,l⟩:=x
  dsimp only at HD HA hx1 hx2
  clear hr
  by_cases he:b = base.size
  ·subst he
   rw [if_neg (by omega)] at HA
   have HO:=ah hx2
   clear hx2
   go_enter func188,ntmps188
   go_wp2_with fail
   refine HD.out.mono ?_
   rintro e w2 ⟨⟨v,rfl,hv⟩,hb2⟩
   have HT:=ah (Ep base v l w2 hb hv HO.out)
   have HB2:=ah hb2
   clear hv hb2
   go_wp2_with fail
   refine HT.out.mono ?_
   rintro e w3 ⟨rfl,hb3⟩
   have HB3:=bth HB2 hb3
   clear hb3
   cases ht:iZ base l with
   | inl e =>
    have HR:Hid (eG (dH base d) = .tuple #[.string ⟨#[]⟩,.int .i64 (e:Int)]):=ah (by rw [HA.out,ht];rfl)
    clear ht
    dsimp only [eG]
    go_wp2_with fail
    go_ret2
    exact ⟨by rw [HR.out];rfl,HB3.out⟩
   | inr t =>
    have HR:Hid (eG (dH base d) = .tuple #[.string (ofB t),.int .i64 0]):=ah (by rw [HA.out,ht];rfl)
    clear ht
    dsimp only [eG]
    go_wp2_with fail
    go_ret2
    exact ⟨by rw [HR.out];rfl,HB3.out⟩
  rw [if_pos he] at HA
  have HR:Hid (eG (dH base d) = .tuple #[.string ⟨#[]⟩,.int .i64 19]):=ah (by rw [HA.out];rfl)
  have d1:((b:Int) != (base.size:Int)) = true:=by rw [bne_iff_ne];omega
  clear HA he hx2
  go_enter func188,ntmps188
  go_wp2_with fail
  refine HD.out.mono ?_
  rintro e w2 ⟨⟨v,rfl,hv⟩,hb2⟩
  clear hv
  go_wp2_with fail
  go_ret2
  exact ⟨by rw [HR.out];rfl,hb2⟩
end
section
open Go.RowKit
def ptF (p:Pt):List Value:=[.bool p.delta,.int .i64 p.base,.string p.text]
def dQ (w:World) (v:Value) (l:List Pt):Prop:=aK w v 3 (l.map ptF)
theorem dQ.below {w w':World} {v:Value} {l:List Pt} (h:dQ w v l) (hb:Below w.heap.size w w'):dQ w' v l:=aK.below h hb
theorem dQ.open {w:World} {v:Value} {l:List Pt} (h:dQ w v l):∃ ao cap,v = .slice ao l.length cap ∧ l.length ≤ maxLen ∧ (l ≠ [] → ∃ b off,ao = some ⟨b,off,none⟩ ∧ b < w.heap.size ∧ ∀ k (hk:k < l.length),w.rangeAt b (off + k * 3) (ptF l[k])):=by
 obtain ⟨ao,cap,rfl,hm,h⟩:=h
 rw [List.length_map] at hm ⊢
 refine ⟨ao,cap,rfl,hm,fun hne => ?_⟩
 obtain ⟨b,off,e,hl,hc⟩:=h (by simpa using hne)
 refine ⟨b,off,e,hl,fun k hk => ?_⟩
 have:=hc k (by simpa using hk)
 rw [List.getElem_map] at this
 exact this
def PtOk (l:List Pt):Prop:=∀ p ∈ l,-1000000 ≤ p.base ∧ p.base ≤ 1000000 ∧ p.text.size ≤ 1000000
def ksV (ks:List Nat):List Value:=ks.map fun k:Nat => .int .i64 (k:Int)
def fD (w:World) (v:Value) (ks:List Nat):Prop:=aK w v 1 (ks.map fun k:Nat => [Value.int .i64 (k:Int)])
theorem fD.below {w w':World} {v:Value} {l:List Nat} (h:fD w v l) (hb:Below w.heap.size w w'):fD w' v l:=aK.below h hb
theorem fD.open {w:World} {v:Value} {l:List Nat} (h:fD w v l):∃ ao cap,v = .slice ao l.length cap ∧ l.length ≤ maxLen ∧ (l ≠ [] → ∃ b off,ao = some ⟨b,off,none⟩ ∧ b < w.heap.size ∧ ∀ k (hk:k < l.length),w.cell? ⟨b,off + k,none⟩ = some (.int .i64 (l[k]:Int))):=by
 obtain ⟨ao,cap,rfl,hm,h⟩:=h
 rw [List.length_map] at hm ⊢
 refine ⟨ao,cap,rfl,hm,fun hne => ?_⟩
 obtain ⟨b,off,e,hl,hc⟩:=h (by simpa using hne)
 refine ⟨b,off,e,hl,fun k hk => ?_⟩
 have:=hc k (by simpa using hk) 0 _ (by rw [List.getElem_map];rfl)
 rwa [Nat.mul_one] at this
theorem LY (ks:List Nat):(ks.map fun k:Nat => [Value.int .i64 (k:Int)]).flatten = ksV ks:=by
 induction ks with
 | nil => rfl
 | cons k ks ih => rw [List.map_cons,List.flatten_cons,ih];rfl
theorem fD.aS {w:World} {B:Nat} {v:Value} {l:List Nat} (h:w.ownsRow B 3 1 v l.length (ksV l)):fD w v l :=
 aK.aS (B:=B) (e:=3) (fun r hr => by obtain ⟨p,_,rfl⟩:=List.mem_map.1 hr;rfl) (by rw [List.length_map,LY];exact h)
theorem mK (ks:List Nat) (k:Nat):ksV (ks ++ [k]) = ksV ks ++ [.int .i64 (k:Int)]:=by unfold ksV;rw [List.map_append];rfl
theorem NQ:(prog.info? 3).map (fun i => (i.zero,i.size,i.bytes)) = some (some (.int .i64 0),1,8):=by kernel_rfl
theorem jT:(prog.info? 247).map (·.size) = some 3:=by decide +kernel
theorem bO {ops:Array Oper} {rest:List Oper} {o:Oper} {a:Act} {Q:Exit → Act → World → Prop} (w:World) (hg:o.guard = none) (s x:Operand) (hop:o.op = Op.call { callee:=Callee.builtin Builtin.append,args:=#[s,x],argTypes:=#[75,75] })
  (base:Nat) (v:Value) (n:Nat) (xs:List Value) (hs:a.eval s = v) (hown:w.ownsRow base 3 1 v n xs) (b:Nat) (k:Int) (hx:a.eval x = .slice (some ⟨b,0,none⟩) 1 1) (hr:w.cell? ⟨b,0,none⟩ = some (.int .i64 k)) (hn:n ≤ 10000000) (hbase:base ≤ w.heap.size)
  (hK:∀ v' w',w'.ownsRow base 3 1 v' (n + 1) (xs ++ [.int .i64 k]) → w.grownBy w' v.ownBlock → Fr w v v' → wpList prog ops Q rest (a.put o.dst v') w'):wpList prog ops Q (o :: rest) a w:=by
 obtain ⟨i0,hi,hz0,hz1,hz2⟩:=info_parts NQ
 refine aR w hg s x 75 hop base 3 i0 _ 1 8 underlying75 hi hz0 hz1 hz2 rfl (by decide) v n xs hs hown ⟨b,0,none⟩ 1 1 [.int .i64 k] hx rfl (fun j u hu => ?_) (fun u hu => ?_) (by unfold maxLen;omega) (by omega) hbase hK
 ·match j,hu with
  | 0,hu => simp at hu;subst hu;rw [Addr.add_mid];exact hr
 simp at hu;subst hu;rfl
def preP (pre:List Nat):Sum Nat (List Nat) → Sum Nat (List Nat)
 | .inl e => .inl e
 | .inr ks => .inr (pre ++ ks)
theorem Ld (x:Sum Nat (List Nat)):preP [] x = x:=by cases x <;> rfl
theorem I9 (pre:List Nat) (k:Nat) (x:Sum Nat (List Nat)):preP pre (match x with
  | .inl e => .inl e
  | .inr ks => .inr (k :: ks)) = preP (pre ++ [k]) x:=by
 cases x with
 | inl e => rfl
 | inr ks => simp [preP]
def zW (l:List Pt) (k:Nat) (w:World) (e:Ending) (w':World):Prop :=
 (match bM l k with
 | .inl c => e = .returned (.tuple #[.slice none 0 0,.int .i64 (c:Int)])
 | .inr ks => ∃ v,e = .returned (.tuple #[v,.int .i64 0]) ∧ fD w' v ks) ∧ Below w.heap.size w w'
theorem kK {l:List Pt} {k c:Nat} {w w':World} (h:bM l k = .inl c) (hb:Below w.heap.size w w'):zW l k w (.returned (.tuple #[.slice none 0 0,.int .i64 (c:Int)])) w':=⟨by rw [h],hb⟩
theorem yS {l:List Pt} {k:Nat} {ks:List Nat} {v:Value} {w w':World} (h:bM l k = .inr ks) (hv:fD w' v ks) (hb:Below w.heap.size w w'):zW l k w (.returned (.tuple #[v,.int .i64 0])) w':=⟨by rw [h];exact ⟨v,rfl,hv⟩,hb⟩
theorem uX {l:List Pt} {k:Nat} (h1:l.length ≤ 200) (h2:k < l.length):bM l k = preP [] (cZ l 5 k):=by
 unfold bM
 rw [if_neg (by omega),Ld]
theorem pI {l:List Pt} {k:Nat} (h:200 < l.length ∨ l.length ≤ k):bM l k = .inl 1:=by unfold bM;rw [if_pos h]
theorem Mw {l:List Pt} {f k:Nat} {p:Pt} (h:l[k]? = some p) (hd:p.delta = true) (hb:p.base < 0 ∨ (k:Int) ≤ p.base):cZ l (f + 1) k = .inl 2:=by
 unfold cZ;rw [h];dsimp only;rw [if_pos hd,if_pos hb]
theorem r9 {l:List Pt} {f k:Nat} {p:Pt} (h:l[k]? = some p) (hd:p.delta = false) (hb:p.base ≠ 0):cZ l (f + 1) k = .inl 2:=by
 unfold cZ;rw [h];dsimp only;rw [if_neg (by rw [hd];decide),if_pos hb]
theorem Dm {l:List Pt} {f k:Nat} {p:Pt} (h:l[k]? = some p) (hd:p.delta = false) (hb:p.base = 0):cZ l (f + 1) k = .inr [k]:=by
 unfold cZ;rw [h];dsimp only;rw [if_neg (by rw [hd];decide),if_neg (by omega)]
theorem GN {l:List Pt} {f k m:Nat} {p:Pt} (h:l[k]? = some p) (hd:p.delta = true) (hm:p.base = (m:Int)) (hb:m < k) (pre:List Nat):preP pre (cZ l (f + 1) k) = preP (pre ++ [k]) (cZ l f m):=by
 rw [← I9]
 congr 1
 conv => lhs;unfold cZ
 rw [h];dsimp only
 rw [if_pos hd,if_neg (by omega),hm]
 rfl
def PaJ (l:List Pt) (k0:Nat) (vl:Value) (w:World):Nat → Act → World → Prop
 | 1,a,w' => ∃ (k:Nat) (pre:List Nat) (vo:Value) (cs:List Value) (v9 v10 v11 v12 v13 v14 v15 v16 v17 v18 v19 v20 v21 v22 v23 v24 v25 v26 v27 v28 v29 v30 v31 v32 v33 v34 v35 v36 v37 v38 v39 v40 v41 v42 v43 v44 v45 v46 v47 v48 v49 v50 v51 v52 v53 v54 v55 v56 v57 v58 v59 v60 v61 v62 v63:Value),a = { tmps:=#[vl,.int .i64 (k:Int),undef,undef,.slice none 0 0,.int .i64 0,vo,.pointer (some ⟨w.heap.size,0,none⟩),.int .i64 1,v9,v10,v11,v12,v13,v14,v15,v16,v17,v18,v19,v20,v21,v22,v23,v24,v25,v26,v27,v28,v29,v30,v31,v32,v33,v34,v35,v36,v37,v38,v39,v40,v41,v42,v43,v44,v45,v46,v47,v48,v49,v50,v51,v52,v53,v54,v55,v56,v57,v58,v59,v60,v61,v62,v63],defers:=[] } ∧
   k < l.length ∧ pre.length ≤ 4 ∧ Hid (bM l k0 = preP pre (cZ l (5 - pre.length) k)) ∧ w'.ownsRow (w.heap.size + 1) 3 1 vo pre.length (ksV pre) ∧ BoxL w' w.heap.size 247 cs ∧ Hid (cs.length = 3) ∧ Below w.heap.size w w'
 | 0,a,w' => ∃ (e:Nat) (x1 vo:Value) (v9 v10 v11 v12 v13 v14 v15 v16 v17 v18 v19 v20 v21 v22 v23 v24 v25 v26 v27 v28 v29 v30 v31 v32 v33 v34 v35 v36 v37 v38 v39 v40 v41 v42 v43 v44 v45 v46 v47 v48 v49 v50 v51 v52 v53 v54 v55 v56 v57 v58 v59 v60 v61 v62 v63:Value),a = { tmps:=#[vl,x1,undef,undef,.slice none 0 0,.int .i64 0,vo,.pointer (some ⟨w.heap.size,0,none⟩),.int .i64 (e:Int),v9,v10,v11,v12,v13,v14,v15,v16,v17,v18,v19,v20,v21,v22,v23,v24,v25,v26,v27,v28,v29,v30,v31,v32,v33,v34,v35,v36,v37,v38,v39,v40,v41,v42,v43,v44,v45,v46,v47,v48,v49,v50,v51,v52,v53,v54,v55,v56,v57,v58,v59,v60,v61,v62,v63],defers:=[] } ∧ Hid (bM l k0 = .inl e) ∧ Below w.heap.size w w'
 | _,_,_ => False
def PaM:Nat → Act → World → Nat
 | 1,a,_ => 10 - Gn (a.tmps.getD 6 undef)
 | _,_,_ => 0
theorem Kg (vl:Value) (l:List Pt) (k0:Nat) (w:World) (hv:dQ w vl l) (ho:PtOk l) (hk0:k0 ≤ 1000000):Calls prog 199 #[vl,.int .i64 (k0:Int)] w (zW l k0 w):=by
 have hv0:=hv
 obtain ⟨ao,cap,rfl,hmax,hv⟩:=hv.open
 have HV:=ah hv0
 have HO:=ah ho
 have HBX0:Hid (BoxL (w.alloc (.cells #[.bool false,.int .i64 0,.string ⟨#[]⟩] 247)) w.heap.size 247 [.bool false,.int .i64 0,.string ⟨#[]⟩]):=ah (BoxL.new w 247 [.bool false,.int .i64 0,.string ⟨#[]⟩])
 have HB0:Hid (Below w.heap.size w (w.alloc (.cells #[.bool false,.int .i64 0,.string ⟨#[]⟩] 247))):=ah bal
 clear hv hv0 ho
 have k00:¬ (k0:Int) < 0:=by omega
 go_enter func199,ntmps199
 go_wp2_with fail
 refine fE (PaJ l k0 (.slice ao l.length cap) w) PaM ?_ ?_
 ·rintro l0 a w' hJ hfall
  have HFALL:=ah hfall
  clear hfall
  match l0,hJ with
  | 1,hJ =>
   refine ⟨_,rfl,?_⟩
   obtain ⟨k,pre,vo,cs,v9,v10,v11,v12,v13,v14,v15,v16,v17,v18,v19,v20,v21,v22,v23,v24,v25,v26,v27,v28,v29,v30,v31,v32,v33,v34,v35,v36,v37,v38,v39,v40,v41,v42,v43,v44,v45,v46,v47,v48,v49,v50,v51,v52,v53,v54,v55,v56,v57,v58,v59,v60,v61,v62,v63,rfl,hk,hpl,hP,hO,hBX,hcs,hB⟩:=hJ
   obtain ⟨oo,oc,rfl⟩:=ay hO
   have HOW:=ah hO
   have HB:=ah hB
   have HBX:=ah hBX
   clear hO hB hBX
   have HB1:Hid (Below w'.heap.size w' (w'.alloc (.cells #[.int .i64 (k:Int)] 3))):=ah bal
   have HOW1:=ah (own_below HOW.out HB1.out)
   have hcell:(w'.alloc (.cells #[.int .i64 (k:Int)] 3)).cell? ⟨w'.heap.size,0,none⟩ = some (.int .i64 (k:Int)):=by rw [World.cell?_alloc_new];rfl
   have HBX1:=ah (HBX.out.below HB1.out)
   have HBA:=ah (HB.out.trans (HB1.out.mono HB.out.size))
   have HSA:Hid (w.heap.size + 1 ≤ (w'.alloc (.cells #[.int .i64 (k:Int)] 3)).heap.size):=ah (by have:=HBX1.out.lt;omega)
   have HCE:=ah hcell
   clear hcell
   obtain ⟨W1,hW1⟩:∃ W1,w'.alloc (.cells #[.int .i64 (k:Int)] 3) = W1:=⟨_,rfl⟩
   rw [hW1] at HB1 HOW1 HBX1 HBA HSA HCE
   have HW1:=ah hW1
   clear hW1
   go_wp2_with (rw [HW1.out];refine bO _ rfl _ _ rfl (w.heap.size + 1) _ pre.length (ksV pre) rfl HOW1.out w'.heap.size (k:Int) rfl HCE.out (by omega) HSA.out ?_)
   intro v2 w2 hown2 hg2 _
   have hne2:(Value.slice oo pre.length oc).ownBlock ≠ some w.heap.size:=fun x => by have:=(HOW1.out.lt _ x).1;omega
   have HBX2:=ah (HBX1.out.kept hg2 (fun x => hne2 x.symm))
   have HB2:=ah (HBA.out.grown hg2 HBA.out.size (fun j hj => by have:=(HOW1.out.lt j hj).1;omega))
   have HOW2:Hid (w2.ownsRow (w.heap.size + 1) 3 1 v2 (pre ++ [k]).length (ksV (pre ++ [k]))):=ah (by rw [mK,List.length_append];exact hown2)
   obtain ⟨oo2,oc2,rfl⟩:=ay hown2
   clear hown2 hg2 hne2 HB1 HOW1 HBX1 HBA HSA HCE HW1 HOW HB HBX
   obtain ⟨ao2,cap2,e2,_,hv2⟩:=(HV.out.below HB2.out).open
   cases e2
   obtain ⟨g,off,rfl,hbl,hcell⟩:=hv2 (by intro e;rw [e] at hk;simp at hk)
   have r0:=hcell k hk
   have i0:(0:Int) ≤ k:=by omega
   have i1:(k:Int) < l.length:=by omega
   have HO1:=ah (HO.out l[k] (List.getElem_mem hk))
   have HG:Hid (l[k]? = some l[k]):=ah (List.getElem?_eq_getElem hk)
   generalize hp:l[k] = p at r0 HO1 HG
   have h3:(prog.info? 247).map (·.size) = some (ptF p).length:=jT
   have HTH:=ah (show w2.there w.heap.size 0 (ptF p).length from by have:=HBX2.out.there;rw [hcs.out] at this;exact this)
   have HIP:=ah jT
   obtain ⟨W,hW⟩:∃ W,w2.setCells w.heap.size 0 (ptF p) = W:=⟨_,rfl⟩
   have hbx:BoxL W w.heap.size 247 (ptF p):=by rw [← hW];exact HBX2.out.set (by rw [hcs.out];rfl)
   have c0:W.cell? ⟨w.heap.size,0,none⟩ = some (.bool p.delta):=hbx.range 0 _ rfl
   have c1:W.cell? ⟨w.heap.size,1,none⟩ = some (.int .i64 p.base):=hbx.range 1 _ rfl
   have HB3:Hid (Below w.heap.size w W):=ah (by rw [← hW];exact below_setCells _ (Nat.le_refl _) _ _ _ HB2.out)
   have HOW3:Hid (W.ownsRow (w.heap.size + 1) 3 1 (.slice oo2 (pre.length + 1) oc2) (pre ++ [k]).length (ksV (pre ++ [k]))):=ah (by rw [← hW];exact gX HOW2.out (own_ne HOW2.out (Nat.lt_succ_self _)))
   have HBX3:=ah hbx
   have HW:=ah hW
   have HPE:Hid (5 - pre.length = (4 - pre.length) + 1):=ah (by omega)
   have HK:=ah hk
   clear hcell hv2 hW hbx HBX2 HB2 HOW2
   clear hp
   go_upto_region 7 with (first
    | refine wpList_load_mid rfl 247 _ rfl g (off + k * 3) rfl (ptF p) _ r0 underlying247 rfl h3 ?_
    | (refine aj rfl 247 _ _ rfl w.heap.size 0 (ptF p) rfl rfl 3 rfl HTH.out HIP.out (by intro v hv;unfold ptF at hv;simp at hv;rcases hv with rfl | rfl | rfl <;> rfl) ?_;rw [HW.out]))
   clear r0 h3
   cases hd:p.delta with
   | true =>
    rw [hd] at c0
    by_cases hb:p.base < 0 ∨ (k:Int) ≤ p.base
    ·have HNO:Hid (bM l k0 = .inl 2):=ah (by rw [hP.out,HPE.out,Mw HG.out hd hb];rfl)
     have hbb:Hid (p.base < 0 ∨ (¬ p.base < 0 ∧ (k:Int) ≤ p.base)):=ah (by omega)
     clear hb hd hk
     rcases hbb.out with b1 | ⟨b1,b2⟩
     all_goals
      go_wp2_with fail
      refine wp_goto ?_
      exact ⟨⟨2,_,_,_,_,_,_,_,_,_,_,_,_,_,_,_,_,_,_,_,_,_,_,_,_,_,_,_,_,_,_,_,_,_,_,_,_,_,_,_,_,_,_,_,_,_,_,_,_,_,_,_,_,_,_,_,_,_,rfl,HNO,HB3.out⟩,by show 0 < 10 - pre.length;omega⟩
    have b1:¬ p.base < 0:=by omega
    have b2:¬ (k:Int) ≤ p.base:=by omega
    obtain ⟨m,hm⟩:∃ m:Nat,p.base = (m:Int):=⟨p.base.toNat,by omega⟩
    have HNX:Hid (bM l k0 = preP (pre ++ [k]) (cZ l (4 - pre.length) m)):=ah (by rw [hP.out,HPE.out,GN HG.out hd hm (by omega)])
    have hmk:m < k:=by omega
    have hml:m < l.length:=by omega
    rw [hm] at c1 b1 b2
    clear hb hd hm
    by_cases h4:4 < pre.length + 1
    ·have HNO:Hid (bM l k0 = .inl 11):=ah (by rw [HNX.out,show 4 - pre.length = 0 from by omega];rfl)
     have d4:(4:Int) < (pre.length:Int) + 1:=by omega
     clear hk
     go_wp2_with fail
     refine wp_goto ?_
     exact ⟨⟨11,_,_,_,_,_,_,_,_,_,_,_,_,_,_,_,_,_,_,_,_,_,_,_,_,_,_,_,_,_,_,_,_,_,_,_,_,_,_,_,_,_,_,_,_,_,_,_,_,_,_,_,_,_,_,_,_,_,rfl,HNO,HB3.out⟩,by show 0 < 10 - pre.length;omega⟩
    have d4:¬ (4:Int) < (pre.length:Int) + 1:=by omega
    have HPL:Hid (4 - pre.length = 5 - (pre ++ [k]).length):=ah (by rw [List.length_append];simp only [List.length_cons,List.length_nil];omega)
    have HLL:Hid ((pre ++ [k]).length ≤ 4):=ah (by rw [List.length_append];simp only [List.length_cons,List.length_nil];omega)
    clear hk
    go_wp2_with fail
    refine wp_goto ?_
    exact ⟨⟨m,pre ++ [k],_,_,_,_,_,_,_,_,_,_,_,_,_,_,_,_,_,_,_,_,_,_,_,_,_,_,_,_,_,_,_,_,_,_,_,_,_,_,_,_,_,_,_,_,_,_,_,_,_,_,_,_,_,_,_,_,_,rfl,hml,HLL.out,ah (by rw [HNX.out,HPL.out]),HOW3.out,HBX3.out,ah rfl,HB3.out⟩,by show 10 - (pre.length + 1) < 10 - pre.length;omega⟩
   | false =>
    rw [hd] at c0
    by_cases hb:p.base = 0
    ·have HYE:Hid (bM l k0 = .inr (pre ++ [k])):=ah (by rw [hP.out,HPE.out,Dm HG.out hd hb];rfl)
     have d5:(p.base != 0) = false:=by rw [hb];rfl
     have HR:=ah (fD.aS HOW3.out)
     clear hb hd hk
     go_wp2_with fail
     rw [Exit.fT]
     go_ret2
     exact yS HYE.out HR.out HB3.out
    have HNO:Hid (bM l k0 = .inl 2):=ah (by rw [hP.out,HPE.out,r9 HG.out hd hb];rfl)
    have d5:(p.base != 0) = true:=by rw [bne_iff_ne];exact hb
    clear hb hd hk
    go_wp2_with fail
    refine wp_goto ?_
    exact ⟨⟨2,_,_,_,_,_,_,_,_,_,_,_,_,_,_,_,_,_,_,_,_,_,_,_,_,_,_,_,_,_,_,_,_,_,_,_,_,_,_,_,_,_,_,_,_,_,_,_,_,_,_,_,_,_,_,_,_,_,rfl,HNO,HB3.out⟩,by show 0 < 10 - pre.length;omega⟩
  | 0,hJ =>
   refine ⟨_,rfl,?_⟩
   obtain ⟨e,x1,vo,v9,v10,v11,v12,v13,v14,v15,v16,v17,v18,v19,v20,v21,v22,v23,v24,v25,v26,v27,v28,v29,v30,v31,v32,v33,v34,v35,v36,v37,v38,v39,v40,v41,v42,v43,v44,v45,v46,v47,v48,v49,v50,v51,v52,v53,v54,v55,v56,v57,v58,v59,v60,v61,v62,v63,rfl,hno,hB⟩:=hJ
   go_wp2_with fail
   rw [Exit.fT]
   go_ret2
   exact kK hno.out hB
  | _ + 2,hJ => exact hJ.elim
 intro hfall
 have HFALL:=ah hfall
 clear hfall
 by_cases h2:200 < l.length
 ·have d1:(200:Int) < (l.length:Int):=by omega
  have HNO:Hid (bM l k0 = .inl 1):=ah (pI (.inl h2))
  go_wp2_with fail
  refine wp_goto ?_
  exact ⟨1,_,_,_,_,_,_,_,_,_,_,_,_,_,_,_,_,_,_,_,_,_,_,_,_,_,_,_,_,_,_,_,_,_,_,_,_,_,_,_,_,_,_,_,_,_,_,_,_,_,_,_,_,_,_,_,_,_,rfl,HNO,HB0.out⟩
 have d1:¬ (200:Int) < (l.length:Int):=by omega
 by_cases h3:l.length ≤ k0
 ·have d3:(l.length:Int) ≤ (k0:Int):=by omega
  have HNO:Hid (bM l k0 = .inl 1):=ah (pI (.inr h3))
  go_wp2_with fail
  refine wp_goto ?_
  exact ⟨1,_,_,_,_,_,_,_,_,_,_,_,_,_,_,_,_,_,_,_,_,_,_,_,_,_,_,_,_,_,_,_,_,_,_,_,_,_,_,_,_,_,_,_,_,_,_,_,_,_,_,_,_,_,_,_,_,_,rfl,HNO,HB0.out⟩
 have d3:¬ (l.length:Int) ≤ (k0:Int):=by omega
 have HST:=ah (uX (l:=l) (k:=k0) (by omega) (by omega))
 have hkl:k0 < l.length:=by omega
 go_wp2_with fail
 rename_i hK
 refine wp_label (hK _ _ (HFALL.out 1 _ rfl _ _ ?_))
 exact ⟨k0,[],_,_,_,_,_,_,_,_,_,_,_,_,_,_,_,_,_,_,_,_,_,_,_,_,_,_,_,_,_,_,_,_,_,_,_,_,_,_,_,_,_,_,_,_,_,_,_,_,_,_,_,_,_,_,_,_,_,rfl,hkl,Nat.zero_le _,HST,World.ownsRow_nil _ _ _ _,HBX0.out,ah rfl,HB0.out⟩
def iV:Sum Nat ByteArray → Value
 | .inl e => .tuple #[.string ⟨#[]⟩,.int .i64 (e:Int)]
 | .inr t => .tuple #[.string t,.int .i64 0]
theorem xA {base d:ByteArray} {e:Nat} (h:dH base d = .inl e):0 < e ∧ e < 100:=by
 unfold dH at h
 split at h
 ·cases h;omega
 split at h
 ·cases h;omega
 unfold iZ at h
 split at h
 ·rename_i hc
  cases h
  exact jJ hc
 cases h
theorem xw {base d:ByteArray} {t:List UInt8} (h:dH base d = .inr t):t.length ≤ 4099:=by
 unfold dH at h
 split at h
 ·cases h
 split at h
 ·cases h
 unfold iZ at h
 split at h
 ·cases h
 rename_i hc
 obtain ⟨h1,h2,h3,_⟩:=rC hc
 cases h
 rw [kZ base _ h1,h2]
 exact h3
theorem tZ {p:Pt} {s:ByteArray} {e:Nat} (h:textOf p s = .inl e):0 < e ∧ e < 100:=by
 unfold textOf at h
 split at h
 ·split at h
  ·rename_i h2;cases h;exact xA h2
  cases h
 split at h
 ·cases h;omega
 cases h
theorem Ed {p:Pt} {s t:ByteArray} (h:textOf p s = .inr t):t.size ≤ 4099:=by
 unfold textOf at h
 split at h
 ·split at h
  ·cases h
  rename_i h2;cases h;rw [aM];exact xw h2
 split at h
 ·cases h
 cases h;omega
theorem o7 {p:Pt} (s:ByteArray) (h:p.delta = true):iV (textOf p s) = eG (dH s p.text):=by
 unfold textOf
 rw [if_pos h]
 cases dH s p.text <;> rfl
theorem oZ {p:Pt} (s:ByteArray) (h:p.delta = false):textOf p s = if 4099 < p.text.size then .inl 19 else .inr p.text:=by
 unfold textOf
 rw [if_neg (by rw [h];decide)]
theorem zL (p:Pt) (s:ByteArray) (w:World) (hs:s.size ≤ 100000) (hp:p.text.size ≤ 1000000):Calls prog 200 #[.agg (ptF p).toArray,.string s] w fun e w' => e = .returned (iV (textOf p s)) ∧ Below w.heap.size w w':=by
 obtain ⟨W,hW⟩:∃ W,w.alloc (.cells (ptF p).toArray 247) = W:=⟨_,rfl⟩
 have hbx:BoxL W w.heap.size 247 (ptF p):=by rw [← hW];exact BoxL.new w 247 (ptF p)
 have HBW:Hid (Below w.heap.size w W):=ah (by rw [← hW];exact bal)
 have c0:W.cell? ⟨w.heap.size,0,none⟩ = some (.bool p.delta):=hbx.range 0 _ rfl
 have c2:W.cell? ⟨w.heap.size,2,none⟩ = some (.string p.text):=hbx.range 2 _ rfl
 have HW:=ah hW
 have HAP:=ah (F6 s p.text W hs hp)
 generalize ptF p = cs at HW
 clear hW hbx
 cases hd:p.delta with
 | true =>
  have HR:=ah (o7 s hd)
  rw [hd] at c0
  clear hd
  go_enter func200,ntmps200
  go_upto_region 1 with fail
  rw [HW.out]
  go_wp2_with fail
  refine HAP.out.mono ?_
  rintro e w2 ⟨rfl,hb2⟩
  have HB2:=bth HBW hb2
  clear hb2
  cases ha:dH s p.text with
  | inl e =>
   rw [ha] at HR
   clear ha
   dsimp only [eG] at HR ⊢
   go_wp2_with fail
   go_ret2
   exact ⟨by rw [HR.out];rfl,HB2.out⟩
  | inr t =>
   rw [ha] at HR
   clear ha
   dsimp only [eG] at HR ⊢
   go_wp2_with fail
   go_ret2
   exact ⟨by rw [HR.out];rfl,HB2.out⟩
 | false =>
  have HT:=ah (oZ s hd)
  rw [hd] at c0
  clear hd
  by_cases hl:4099 < p.text.size
  ·have HR:Hid (iV (textOf p s) = .tuple #[.string ⟨#[]⟩,.int .i64 19]):=ah (by rw [HT.out,if_pos hl];rfl)
   have d1:(4099:Int) < (p.text.size:Int):=by omega
   clear HT hl
   go_enter func200,ntmps200
   go_upto_region 1 with fail
   rw [HW.out]
   go_wp2_with fail
   go_ret2
   exact ⟨by rw [HR.out];rfl,HBW.out⟩
  have HR:Hid (iV (textOf p s) = .tuple #[.string p.text,.int .i64 0]):=ah (by rw [HT.out,if_neg hl];rfl)
  have d1:¬ (4099:Int) < (p.text.size:Int):=by omega
  clear HT hl
  go_enter func200,ntmps200
  go_upto_region 1 with fail
  rw [HW.out]
  go_wp2_with fail
  go_ret2
  exact ⟨by rw [HR.out];rfl,HBW.out⟩
theorem Es (vl:Value) (l:List Pt) (k0:Nat) (w:World) (hv:dQ w vl l) (ho:PtOk l) (hk0:k0 ≤ 1000000):Calls prog 187 #[vl,.int .i64 (k0:Int)] w (zW l k0 w):=by
 have hv0:=hv
 obtain ⟨ao,cap,rfl,hmax,hv⟩:=hv.open
 have HV:=ah hv0
 have HO:=ah ho
 clear hv hv0 ho
 have k00:¬ (k0:Int) < 0:=by omega
 by_cases h2:200 < l.length
 ·have d1:(200:Int) < (l.length:Int):=by omega
  have HNO:Hid (bM l k0 = .inl 1):=ah (pI (.inl h2))
  go_enter func187,ntmps187
  go_wp2_with fail
  go_ret2
  exact kK HNO.out (Below.refl _ _)
 have d1:¬ (200:Int) < (l.length:Int):=by omega
 by_cases h3:l.length ≤ k0
 ·have d3:(l.length:Int) ≤ (k0:Int):=by omega
  have HNO:Hid (bM l k0 = .inl 1):=ah (pI (.inr h3))
  go_enter func187,ntmps187
  go_wp2_with fail
  go_ret2
  exact kK HNO.out (Below.refl _ _)
 have d3:¬ (l.length:Int) ≤ (k0:Int):=by omega
 have HST:=ah (uX (l:=l) (k:=k0) (by omega) (by omega))
 have hkl:k0 < l.length:=by omega
 go_enter func187,ntmps187
 go_wp2_with fail
 go_loopw [1,6,7] (fun at0 vo i wr => ∃ (k:Nat) (pre:List Nat),k < l.length ∧ pre.length ≤ 5 ∧ at0 = .int .i64 (k:Int) ∧ i = .int .i64 (pre.length:Int) ∧ Hid (bM l k0 = preP pre (cZ l (5 - pre.length) k)) ∧ wr.ownsRow w.heap.size 3 1 vo pre.length (ksV pre) ∧ Below w.heap.size w wr) (fun _ _ i _ => (10 - intOf i).toNat)
 case atStart => exact ⟨k0,[],hkl,Nat.zero_le _,rfl,rfl,HST,World.ownsRow_nil _ _ _ _,Below.refl _ _⟩
 obtain ⟨k,pre,hk,hpl,rfl,rfl,hP,hO,hB⟩:=hrel
 obtain ⟨oo,oc,rfl⟩:=ay hO
 have HOW:=ah hO
 have HB:=ah hB
 clear hO hB
 by_cases h5:pre.length = 5
 ·have HNO:Hid (bM l k0 = .inl 11):=ah (by rw [hP.out,h5];rfl)
  have d6:(pre.length:Int) < 6:=by omega
  have d5:((pre.length:Int) == 5) = true:=by rw [beq_iff_eq];omega
  clear hk
  go_wp2_with fail
  go_ret2
  exact kK HNO.out HB.out
 have d6:(pre.length:Int) < 6:=by omega
 have d5:((pre.length:Int) == 5) = false:=by rw [beq_eq_false_iff_ne];omega
 have HB1:Hid (Below wr.heap.size wr (wr.alloc (.cells #[.int .i64 (k:Int)] 3))):=ah bal
 have HOW1:=ah (own_below HOW.out HB1.out)
 have HCE:Hid ((wr.alloc (.cells #[.int .i64 (k:Int)] 3)).cell? ⟨wr.heap.size,0,none⟩ = some (.int .i64 (k:Int))):=ah (by rw [World.cell?_alloc_new];rfl)
 have HBA:=ah (HB.out.trans (HB1.out.mono HB.out.size))
 have HSA:Hid (w.heap.size ≤ (wr.alloc (.cells #[.int .i64 (k:Int)] 3)).heap.size):=ah HBA.out.size
 obtain ⟨W1,hW1⟩:∃ W1,wr.alloc (.cells #[.int .i64 (k:Int)] 3) = W1:=⟨_,rfl⟩
 rw [hW1] at HB1 HOW1 HBA HSA HCE
 have HW1:=ah hW1
 have HPE:Hid (5 - pre.length = (4 - pre.length) + 1):=ah (by omega)
 have wn1:IntKind.i64.wrap ((pre.length:Int) + 1) = (pre.length:Int) + 1:=by rw [IntKind.wrap_i64];omega
 have hpl4:pre.length ≤ 4:=by omega
 clear hW1 h5
 go_upto_region 10 with (rw [HW1.out];refine bO _ rfl _ _ rfl w.heap.size _ pre.length (ksV pre) rfl HOW1.out wr.heap.size (k:Int) rfl HCE.out (by omega) HSA.out ?_)
 intro v2 w2 hown2 hg2 _
 have HB2:=ah (HBA.out.grown hg2 HBA.out.size (fun j hj => (HOW1.out.lt j hj).1))
 have HOW2:Hid (w2.ownsRow w.heap.size 3 1 v2 (pre ++ [k]).length (ksV (pre ++ [k]))):=ah (by rw [mK,List.length_append];exact hown2)
 obtain ⟨oo2,oc2,rfl⟩:=ay hown2
 clear hown2 hg2 HB1 HOW1 HBA HSA HCE HW1 HOW HB
 obtain ⟨ao2,cap2,e2,_,hv2⟩:=(HV.out.below HB2.out).open
 cases e2
 obtain ⟨g,off,rfl,hbl,hcell⟩:=hv2 (by intro e;rw [e] at hk;simp at hk)
 have r0:=hcell k hk
 have i0:(0:Int) ≤ k:=by omega
 have i1:(k:Int) < l.length:=by omega
 have HO1:=ah (HO.out l[k] (List.getElem_mem hk))
 have HG:Hid (l[k]? = some l[k]):=ah (List.getElem?_eq_getElem hk)
 generalize hp:l[k] = p at r0 HO1 HG
 have c0:w2.cell? ⟨g,off + k * 3,none⟩ = some (.bool p.delta):=r0 0 _ rfl
 have c1:w2.cell? ⟨g,off + k * 3 + 1,none⟩ = some (.int .i64 p.base):=r0 1 _ rfl
 have HK:=ah hk
 clear hcell hv2 r0 hp
 cases hd:p.delta with
 | true =>
  rw [hd] at c0
  by_cases hb:p.base < 0 ∨ (k:Int) ≤ p.base
  ·have HNO:Hid (bM l k0 = .inl 2):=ah (by rw [hP.out,HPE.out,Mw HG.out hd hb];rfl)
   have hbb:Hid (p.base < 0 ∨ (¬ p.base < 0 ∧ (k:Int) ≤ p.base)):=ah (by omega)
   clear hb hd hk
   rcases hbb.out with b1 | ⟨b1,b2⟩
   all_goals
    go_wp2_with fail
    go_ret2
    exact kK HNO.out HB2.out
  have b1:¬ p.base < 0:=by omega
  have b2:¬ (k:Int) ≤ p.base:=by omega
  obtain ⟨m,hm⟩:∃ m:Nat,p.base = (m:Int):=⟨p.base.toNat,by omega⟩
  have HNX:Hid (bM l k0 = preP (pre ++ [k]) (cZ l (5 - (pre ++ [k]).length) m)):=ah (by
   rw [hP.out,HPE.out,GN HG.out hd hm (by omega)]
   congr 2
   rw [List.length_append];simp only [List.length_cons,List.length_nil];omega)
  have HML:Hid (m < l.length):=ah (by omega)
  have HLL:Hid ((pre ++ [k]).length ≤ 5):=ah (by rw [List.length_append];simp only [List.length_cons,List.length_nil];omega)
  rw [hm] at c1 b1 b2
  clear hb hd hm hk
  go_wp2_with fail
  go_roundw
  case rel => exact ⟨m,pre ++ [k],HML.out,HLL.out,rfl,by rw [List.length_append];go_num,HNX,HOW2.out,HB2.out⟩
  case measure => simp [intOf];omega
 | false =>
  rw [hd] at c0
  by_cases hb:p.base = 0
  ·have HYE:Hid (bM l k0 = .inr (pre ++ [k])):=ah (by rw [hP.out,HPE.out,Dm HG.out hd hb];rfl)
   have d5:(p.base != 0) = false:=by rw [hb];rfl
   have HR:=ah (fD.aS HOW2.out)
   clear hb hd hk
   go_wp2_with fail
   go_ret2
   exact yS HYE.out HR.out HB2.out
  have HNO:Hid (bM l k0 = .inl 2):=ah (by rw [hP.out,HPE.out,r9 HG.out hd hb];rfl)
  have d5:(p.base != 0) = true:=by rw [bne_iff_ne];exact hb
  clear hb hd hk
  go_wp2_with fail
  go_ret2
  exact kK HNO.out HB2.out
theorem yP {l:List Pt}:∀ {f k:Nat} {ks:List Nat},cZ l f k = .inr ks → (∀ x ∈ ks,x < l.length) ∧ ks.length ≤ f
 | 0,_,_,h => by cases h
 | f + 1,k,ks,h => by
  unfold cZ at h
  split at h
  ·cases h
  rename_i p hp
  have hk:k < l.length:=(List.getElem?_eq_some_iff.1 hp).1
  split at h
  ·split at h
   ·cases h
   split at h
   ·cases h
   rename_i ks' h2
   cases h
   obtain ⟨h3,h4⟩:=yP h2
   refine ⟨fun x hx => ?_,by rw [List.length_cons];omega⟩
   rcases List.mem_cons.1 hx with rfl | hx
   ·exact hk
   exact h3 x hx
  split at h
  ·cases h
  cases h
  exact ⟨fun x hx => by rcases List.mem_singleton.1 hx with rfl;exact hk,by simp⟩
theorem Cu {l:List Pt} {k:Nat} {ks:List Nat} (h:bM l k = .inr ks):(∀ x ∈ ks,x < l.length) ∧ ks.length ≤ 5 ∧ l.length ≤ 200 ∧ k < l.length:=by
 unfold bM at h
 split at h
 ·cases h
 obtain ⟨h1,h2⟩:=yP h
 exact ⟨h1,h2,by omega,by omega⟩
theorem qQ {l:List Pt} {k e:Nat} (h:bM l k = .inl e):0 < e ∧ e < 100:=by
 have key:∀ (f k e:Nat),cZ l f k = .inl e → 0 < e ∧ e < 100:=by
  intro f
  induction f with
  | zero => intro k e h;cases h;omega
  | succ f ih =>
   intro k e h
   unfold cZ at h
   split at h
   ·cases h;omega
   split at h
   ·split at h
    ·cases h;omega
    split at h
    ·rename_i h2;cases h;exact ih _ _ h2
    cases h
   split at h
   ·cases h;omega
   cases h
 unfold bM at h
 split at h
 ·cases h;omega
 exact key _ _ _ h
def pt0:Pt:=⟨false,0,ByteArray.empty⟩
theorem gM (l:List Pt) (k:Nat) (ks:List Nat):gI l (k :: ks) = match gI l ks with
 | .inl e => .inl e
 | .inr s => textOf (l.getD k pt0) s:=rfl
theorem uf {l:List Pt} {e:Nat}:∀ (ks:List Nat) (j:Nat),gI l (ks.drop j) = .inl e → gI l ks = .inl e
 | ks,0,h => h
 | [],j + 1,h => by simp at h;exact h
 | k :: ks,j + 1,h => by
  have:=uf ks j h
  rw [gM,this]
theorem BA {l:List Pt} {ks:List Nat} {j:Nat} (h:j < ks.length):gI l (ks.drop j) = match gI l (ks.drop (j + 1)) with
 | .inl e => .inl e
 | .inr s => textOf (l.getD ks[j] pt0) s:=by
 rw [List.drop_eq_getElem_cons h,gM]
theorem jO {l:List Pt} {k:Nat} {ks:List Nat} (h:bM l k = .inr ks):bq l k = gI l ks:=by unfold bq;rw [h]
theorem uh {l:List Pt} {k e:Nat} (h:bM l k = .inl e):bq l k = .inl e:=by unfold bq;rw [h]
theorem uG (vl:Value) (l:List Pt) (k0:Nat) (w:World) (hv:dQ w vl l) (ho:PtOk l) (hk0:k0 ≤ 1000000):Calls prog 124 #[vl,.int .i64 (k0:Int)] w fun e w' => e = .returned (iV (bq l k0)) ∧ Below w.heap.size w w':=by
 have HPA:=ah (Es vl l k0 w hv ho hk0)
 have hv0:=hv
 obtain ⟨ao,cap,rfl,hmax,hv⟩:=hv.open
 have HV:=ah hv0
 have HO:=ah ho
 clear hv hv0 ho
 unfold zW at HPA
 cases hp:bM l k0 with
 | inl c =>
  rw [hp] at HPA
  dsimp only at HPA
  obtain ⟨hc1,hc2⟩:=qQ hp
  have HR:Hid (iV (bq l k0) = .tuple #[.string ⟨#[]⟩,.int .i64 (c:Int)]):=ah (by rw [uh hp];rfl)
  have d1:((c:Int) != 0) = true:=by rw [bne_iff_ne];omega
  clear hp
  go_enter func124,ntmps124
  go_wp2_with fail
  refine HPA.out.mono ?_
  rintro e w1 ⟨rfl,hb1⟩
  go_wp2_with fail
  go_ret2
  exact ⟨by rw [HR.out];rfl,hb1⟩
 | inr ks =>
  rw [hp] at HPA
  dsimp only at HPA
  have HT:=ah (jO hp)
  obtain ⟨hlt,hlen,hl200,_⟩:=Cu hp
  have HLT:=ah hlt
  clear hp hlt
  go_enter func124,ntmps124
  go_wp2_with fail
  refine HPA.out.mono ?_
  rintro e w1 ⟨⟨vk,rfl,hks⟩,hb1⟩
  have HK:=ah hks
  obtain ⟨ko,kc,rfl,hkm,hks2⟩:=hks.open
  have HB1:=ah hb1
  have wl:IntKind.i64.wrap ((ks.length:Int) - 1) = (ks.length:Int) - 1:=by rw [IntKind.wrap_i64];omega
  clear hks hks2 hb1
  go_wp2_with fail
  go_loopw [8,9,10,11] (fun s i _ _ wr => ∃ (j:Nat) (t:ByteArray),j ≤ ks.length ∧ i = .int .i64 ((j:Int) - 1) ∧ s = .string t ∧ Hid (gI l (ks.drop j) = .inr t) ∧ t.size ≤ 4099 ∧ Below w1.heap.size w1 wr) (fun _ i _ _ _ => (intOf i + 1).toNat)
  case atStart => exact ⟨ks.length,⟨#[]⟩,Nat.le_refl _,rfl,rfl,ah (by rw [List.drop_length];rfl),Nat.zero_le _,Below.refl _ _⟩
  obtain ⟨j,t,hj,rfl,rfl,htx,hts,hbr⟩:=hrel
  have HBR:=ah hbr
  clear hbr
  by_cases h0:j = 0
  ·subst h0
   have HR:Hid (iV (bq l k0) = .tuple #[.string t,.int .i64 0]):=ah (by rw [HT.out];have:=htx.out;rw [List.drop_zero] at this;rw [this];rfl)
   have HB2:=ah (HB1.out.trans (HBR.out.mono HB1.out.size))
   clear htx
   go_wp2_with fail
   go_ret2
   exact ⟨by rw [HR.out];rfl,HB2.out⟩
  obtain ⟨i,rfl⟩:∃ i,j = i + 1:=⟨j - 1,by omega⟩
  have e1:((i + 1:Nat):Int) - 1 = (i:Int):=by omega
  rw [e1]
  have i0:(0:Int) ≤ (i:Int):=by omega
  have hik:i < ks.length:=by omega
  obtain ⟨ko2,kc2,ek,_,hks2⟩:=(HK.out.below HBR.out).open
  cases ek
  obtain ⟨kg,koff,rfl,hkl,hkc⟩:=hks2 (by intro e;rw [e] at hik;simp at hik)
  have kcell:=hkc i hik
  have i1:(i:Int) < ks.length:=by omega
  have hxl:ks[i] < l.length:=HLT.out _ (List.getElem_mem hik)
  obtain ⟨ao2,cap2,e2,_,hv2⟩:=(HV.out.below (HB1.out.trans (HBR.out.mono HB1.out.size))).open
  cases e2
  obtain ⟨g,off,rfl,hbl,hcell⟩:=hv2 (by intro e;rw [e] at hxl;simp at hxl)
  have HTD:=ah (BA (l:=l) hik)
  have HER:=ah (fun e => uf (l:=l) (e:=e) ks i)
  generalize hx:ks[i] = x at kcell hxl HTD
  have r0:=hcell x hxl
  have x0:(0:Int) ≤ (x:Int):=by omega
  have x1:(x:Int) < l.length:=by omega
  have HO1:=ah (HO.out l[x] (List.getElem_mem hxl))
  have HG:Hid (l.getD x pt0 = l[x]):=ah (by rw [List.getD_eq_getElem?_getD,List.getElem?_eq_getElem hxl];rfl)
  generalize hp:l[x] = p at r0 HO1 HG
  have HTX:Hid (gI l (ks.drop i) = textOf p t):=ah (by rw [HTD.out,htx.out,HG.out])
  have h3:(prog.info? 247).map (·.size) = some (ptF p).length:=jT
  have HTH:=ah (there_alloc (n:=3) wr #[.bool false,.int .i64 0,.string ⟨#[]⟩] 247 rfl)
  have HBX:=ah (BoxL.new wr 247 [.bool false,.int .i64 0,.string ⟨#[]⟩])
  have HIP:=ah jT
  obtain ⟨W,hW⟩:∃ W,(wr.alloc (.cells #[.bool false,.int .i64 0,.string ⟨#[]⟩] 247)).setCells wr.heap.size 0 (ptF p) = W:=⟨_,rfl⟩
  have hbx:BoxL W wr.heap.size 247 (ptF p):=by rw [← hW];exact HBX.out.set rfl
  have d0:W.cell? ⟨wr.heap.size,0,none⟩ = some (.bool p.delta):=hbx.range 0 _ rfl
  have d2:W.cell? ⟨wr.heap.size,2,none⟩ = some (.string p.text):=hbx.range 2 _ rfl
  have HBW:Hid (Below w1.heap.size w1 W):=ah (by rw [← hW];exact below_setCells _ HBR.out.size _ _ _ (HBR.out.alloc HBR.out.size _))
  have HW:=ah hW
  have wm:IntKind.i64.wrap ((i:Int) - 1) = (i:Int) - 1:=by rw [IntKind.wrap_i64];omega
  have HAP:=ah (EL t p.text W (by omega) HO1.out.2.2)
  clear hcell hv2 hkc hks2 hx hp hW hbx HBX HTD HG htx
  go_upto_region 9 with (first
   | refine wpList_load_mid rfl 247 _ rfl g (off + x * 3) rfl (ptF p) _ r0 underlying247 rfl h3 ?_
   | (refine aj rfl 247 _ _ rfl wr.heap.size 0 (ptF p) rfl rfl 3 rfl HTH.out HIP.out (by intro v hv;unfold ptF at hv;simp at hv;rcases hv with rfl | rfl | rfl <;> rfl) ?_;rw [HW.out]))
  clear r0 h3 kcell
  cases hd:p.delta with
  | true =>
   have HTO:=ah (o7 t hd)
   rw [hd] at d0
   clear hd
   go_wp2_with fail
   refine HAP.out.mono ?_
   rintro e w2 ⟨rfl,hb2⟩
   have HB2:=bth HBW hb2
   clear hb2
   cases ha:dH t p.text with
   | inl e =>
    obtain ⟨he1,he2⟩:=xA ha
    have HTE:Hid (textOf p t = .inl e):=ah (by
     have:=HTO.out
     rw [ha] at this
     cases h5:textOf p t with
     | inl c => rw [h5] at this;have h6:(Value.tuple #[.string ⟨#[]⟩,.int .i64 (c:Int)]) = .tuple #[.string ⟨#[]⟩,.int .i64 (e:Int)]:=this;simp at h6;exact congrArg _ (by omega)
     | inr c => rw [h5] at this;have h6:(Value.tuple #[.string c,.int .i64 0]) = .tuple #[.string ⟨#[]⟩,.int .i64 (e:Int)]:=this;simp at h6;omega)
    have HR:Hid (iV (bq l k0) = .tuple #[.string ⟨#[]⟩,.int .i64 (e:Int)]):=ah (by rw [HT.out,HER.out e (by rw [HTX.out,HTE.out])];rfl)
    have d3:((e:Int) != 0) = true:=by rw [bne_iff_ne];omega
    have HB3:=ah (HB1.out.trans (HB2.out.mono HB1.out.size))
    clear ha
    dsimp only [eG]
    go_wp2_with fail
    go_ret2
    exact ⟨by rw [HR.out];rfl,HB3.out⟩
   | inr u =>
    have hul:=xw ha
    have HTE:Hid (gI l (ks.drop i) = .inr (ofB u)):=ah (by
     rw [HTX.out]
     have:=HTO.out
     rw [ha] at this
     cases h5:textOf p t with
     | inl c => rw [h5] at this;have h6:(Value.tuple #[.string ⟨#[]⟩,.int .i64 (c:Int)]) = .tuple #[.string (ofB u),.int .i64 0]:=this;simp at h6;have:=tZ h5;omega
     | inr c => rw [h5] at this;have h6:(Value.tuple #[.string c,.int .i64 0]) = .tuple #[.string (ofB u),.int .i64 0]:=this;simp at h6;rw [h6])
    have husz:(ofB u).size ≤ 4099:=by rw [aM];exact hul
    clear ha
    dsimp only [eG]
    go_wp2_with fail
    go_roundw
    case rel => exact ⟨i,ofB u,by omega,rfl,rfl,HTE,husz,HB2.out⟩
    case measure => simp [intOf]
  | false =>
   have HTO:=ah (oZ t hd)
   rw [hd] at d0
   clear hd
   by_cases hl:4099 < p.text.size
   ·have HR:Hid (iV (bq l k0) = .tuple #[.string ⟨#[]⟩,.int .i64 19]):=ah (by rw [HT.out,HER.out 19 (by rw [HTX.out,HTO.out,if_pos hl])];rfl)
    have dl:(4099:Int) < (p.text.size:Int):=by omega
    have HB3:=ah (HB1.out.trans (HBW.out.mono HB1.out.size))
    clear hl
    go_wp2_with fail
    go_ret2
    exact ⟨by rw [HR.out];rfl,HB3.out⟩
   have HTE:Hid (gI l (ks.drop i) = .inr p.text):=ah (by rw [HTX.out,HTO.out,if_neg hl])
   have dl:¬ (4099:Int) < (p.text.size:Int):=by omega
   have hpl:p.text.size ≤ 4099:=by omega
   clear hl
   go_wp2_with fail
   go_roundw
   case rel => exact ⟨i,p.text,by omega,rfl,rfl,HTE,hpl,HBW.out⟩
   case measure => simp [intOf]
def preT (ts:List ByteArray):Sum Nat (List ByteArray) → Sum Nat (List ByteArray)
 | .inl e => .inl e
 | .inr ss => .inr (ts ++ ss)
theorem Lc (x:Sum Nat (List ByteArray)):preT [] x = x:=by cases x <;> rfl
theorem I8 (ts:List ByteArray) (s:ByteArray) (x:Sum Nat (List ByteArray)):preT ts (match x with
  | .inl e => .inl e
  | .inr ss => .inr (s :: ss)) = preT (ts ++ [s]) x:=by
 cases x with
 | inl e => rfl
 | inr ks => simp [preT]
theorem rJ {l:List Pt} (h:l.length ≤ 200):cu l = preT [] (bJ l 0 (l.length - 0)):=by
 unfold cu
 rw [if_neg (by omega),Lc];rfl
theorem tV {l:List Pt} (h:200 < l.length):cu l = .inl 1:=by unfold cu;rw [if_pos h]
theorem tT {l:List Pt} {i:Nat} {s:ByteArray} (ts:List ByteArray) (hi:i < l.length) (h:bq l i = .inr s):preT ts (bJ l i (l.length - i)) = preT (ts ++ [s]) (bJ l (i + 1) (l.length - (i + 1))):=by
 rw [← I8,show l.length - i = (l.length - (i + 1)) + 1 from by omega]
 congr 1
 conv => lhs;unfold bJ
 rw [h]
 rfl
theorem yc {l:List Pt} {i e:Nat} (ts:List ByteArray) (hi:i < l.length) (h:bq l i = .inl e):preT ts (bJ l i (l.length - i)) = .inl e:=by
 rw [show l.length - i = (l.length - (i + 1)) + 1 from by omega]
 unfold bJ
 rw [h];rfl
theorem x9 {l:List Pt} (ts:List ByteArray):preT ts (bJ l l.length (l.length - l.length)) = .inr ts:=by
 rw [Nat.sub_self]
 show Sum.inr (ts ++ []) = _
 rw [List.append_nil]
theorem Bz {l:List Pt} {e:Nat}:∀ ks:List Nat,gI l ks = .inl e → 0 < e ∧ e < 100
 | [],h => by cases h
 | k :: ks,h => by
  rw [gM] at h
  split at h
  ·rename_i h2;cases h;exact Bz ks h2
  exact tZ h
theorem KC {l:List Pt} {t:ByteArray}:∀ ks:List Nat,gI l ks = .inr t → t.size ≤ 4099
 | [],h => by cases h;exact Nat.zero_le _
 | k :: ks,h => by
  rw [gM] at h
  split at h
  ·cases h
  exact Ed h
theorem o8 {l:List Pt} {k e:Nat} (h:bq l k = .inl e):0 < e ∧ e < 100:=by
 unfold bq at h
 split at h
 ·rename_i h2;cases h;exact qQ h2
 exact Bz _ h
theorem ug {l:List Pt} {k:Nat} {t:ByteArray} (h:bq l k = .inr t):t.size ≤ 4099:=by
 unfold bq at h
 split at h
 ·cases h
 exact KC _ h
theorem nQ {l:List Pt}:∀ (n i:Nat) {ss:List ByteArray},bJ l i n = .inr ss → ss.length = n ∧ ∀ s ∈ ss,s.size ≤ 4099
 | 0,i,ss,h => by cases h;exact ⟨rfl,fun s hs => by cases hs⟩
 | n + 1,i,ss,h => by
  unfold bJ at h
  split at h
  ·cases h
  rename_i s h2
  split at h
  ·cases h
  rename_i ss' h3
  cases h
  obtain ⟨h4,h5⟩:=nQ n (i + 1) h3
  refine ⟨by rw [List.length_cons,h4],fun x hx => ?_⟩
  rcases List.mem_cons.1 hx with rfl | hx
  ·exact ug h2
  exact h5 x hx
theorem oq {l:List Pt} {ss:List ByteArray} (h:cu l = .inr ss):ss.length = l.length ∧ l.length ≤ 200 ∧ ∀ s ∈ ss,s.size ≤ 4099:=by
 unfold cu at h
 split at h
 ·cases h
 obtain ⟨h1,h2⟩:=nQ _ _ h
 exact ⟨h1,by omega,h2⟩
theorem tX {l:List Pt} {e:Nat} (h:cu l = .inl e):0 < e ∧ e < 100:=by
 have key:∀ (n i:Nat),bJ l i n = .inl e → 0 < e ∧ e < 100:=by
  intro n
  induction n with
  | zero => intro i h;cases h
  | succ n ih =>
   intro i h
   unfold bJ at h
   split at h
   ·rename_i h2;cases h;exact o8 h2
   split at h
   ·rename_i h3;cases h;exact ih _ h3
   cases h
 unfold cu at h
 split at h
 ·cases h;omega
 exact key _ _ h
def o9 (ts:List ByteArray):List Value:=ts.map Value.string
theorem uo (ts:List ByteArray) (s:ByteArray):o9 (ts ++ [s]) = o9 ts ++ [.string s]:=by unfold o9;rw [List.map_append];rfl
theorem vP:(prog.info? 9).map (fun i => (i.zero,i.size,i.bytes)) = some (some (.string ⟨#[]⟩),1,16):=by kernel_rfl
theorem jN {ops:Array Oper} {rest:List Oper} {o:Oper} {a:Act} {Q:Exit → Act → World → Prop} (w:World) (hg:o.guard = none) (s x:Operand) (hop:o.op = Op.call { callee:=Callee.builtin Builtin.append,args:=#[s,x],argTypes:=#[105,105] })
  (base:Nat) (v:Value) (n:Nat) (xs:List Value) (hs:a.eval s = v) (hown:w.ownsRow base 9 1 v n xs) (b:Nat) (k:ByteArray) (hx:a.eval x = .slice (some ⟨b,0,none⟩) 1 1) (hr:w.cell? ⟨b,0,none⟩ = some (.string k)) (hn:n ≤ 10000000) (hbase:base ≤ w.heap.size)
  (hK:∀ v' w',w'.ownsRow base 9 1 v' (n + 1) (xs ++ [.string k]) → w.grownBy w' v.ownBlock → Fr w v v' → wpList prog ops Q rest (a.put o.dst v') w'):wpList prog ops Q (o :: rest) a w:=by
 obtain ⟨i0,hi,hz0,hz1,hz2⟩:=info_parts vP
 refine aR w hg s x 105 hop base 9 i0 _ 1 16 underlying105 hi hz0 hz1 hz2 rfl (by decide) v n xs hs hown ⟨b,0,none⟩ 1 1 [.string k] hx rfl (fun j u hu => ?_) (fun u hu => ?_) (by unfold maxLen;omega) (by omega) hbase hK
 ·match j,hu with
  | 0,hu => simp at hu;subst hu;rw [Addr.add_mid];exact hr
 simp at hu;subst hu;rfl
def zT (l:List Pt) (w:World) (e:Ending) (w':World):Prop :=
 (match cu l with
 | .inl c => e = .returned (.tuple #[.slice none 0 0,.int .i64 (c:Int)])
 | .inr ts => ∃ v,e = .returned (.tuple #[v,.int .i64 0]) ∧ bT w' v ts ∧ bB w v) ∧ Below w.heap.size w w'
theorem oW {l:List Pt} {c:Nat} {w w':World} (h:cu l = .inl c) (hb:Below w.heap.size w w'):zT l w (.returned (.tuple #[.slice none 0 0,.int .i64 (c:Int)])) w':=⟨by rw [h],hb⟩
theorem xZ {l:List Pt} {ts:List ByteArray} {v:Value} {w w':World} (h:cu l = .inr ts) (hv:bT w' v ts) (hf:bB w v) (hb:Below w.heap.size w w'):zT l w (.returned (.tuple #[v,.int .i64 0])) w':=⟨by rw [h];exact ⟨v,rfl,hv,hf⟩,hb⟩
theorem I4 (vl:Value) (l:List Pt) (w:World) (hv:dQ w vl l) (ho:PtOk l):Calls prog 147 #[vl] w (zT l w):=by
 have HV:=ah hv
 have HO:=ah ho
 obtain ⟨ao,cap,rfl,hmax,_⟩:=hv.open
 clear hv ho
 by_cases h2:200 < l.length
 ·have d1:(200:Int) < (l.length:Int):=by omega
  have HNO:=ah (tV h2)
  go_enter func147,ntmps147
  go_wp2_with fail
  go_ret2
  exact oW HNO.out (Below.refl _ _)
 have d1:¬ (200:Int) < (l.length:Int):=by omega
 have HST:=ah (rJ (l:=l) (by omega))
 go_enter func147,ntmps147
 go_wp2_with fail
 go_loopw [4,5] (fun vo i wr => ∃ ts:List ByteArray,ts.length ≤ l.length ∧ i = .int .i64 (ts.length:Int) ∧ Hid (cu l = preT ts (bJ l ts.length (l.length - ts.length))) ∧ wr.ownsRow w.heap.size 9 1 vo ts.length (o9 ts) ∧ Below w.heap.size w wr) (fun _ i _ => (l.length - intOf i).toNat)
 case atStart => exact ⟨[],Nat.zero_le _,rfl,HST,World.ownsRow_nil _ _ _ _,Below.refl _ _⟩
 obtain ⟨ts,hk,rfl,hT,hO,hB⟩:=hrel
 obtain ⟨oo,oc,rfl⟩:=ay hO
 have HOW:=ah hO
 have HB:=ah hB
 clear hO hB
 by_cases hlt:ts.length < l.length
 ·have HTX:=ah (uG (.slice ao l.length cap) l ts.length wr (HV.out.below HB.out) HO.out (by omega))
  have HNX:=ah (fun s => tT (l:=l) (s:=s) ts hlt)
  have HBD:=ah (fun e => yc (l:=l) (e:=e) ts hlt)
  have i0:(0:Int) ≤ ts.length:=by omega
  have i1:(ts.length:Int) < l.length:=by omega
  have wi:IntKind.i64.wrap ((ts.length:Int) + 1) = (ts.length:Int) + 1:=by rw [IntKind.wrap_i64];omega
  go_wp2_with fail
  refine HTX.out.mono ?_
  rintro e w2 ⟨rfl,hb2⟩
  have HB2:=bth HB hb2
  have HOW2:=ah (own_below HOW.out hb2)
  clear hb2 HOW HB HTX
  cases hx:bq l ts.length with
  | inl e =>
   obtain ⟨he1,he2⟩:=o8 hx
   have HNO:Hid (cu l = .inl e):=ah (by rw [hT.out,HBD.out e hx])
   have d3:((e:Int) != 0) = true:=by rw [bne_iff_ne];omega
   clear hx
   dsimp only [iV]
   go_wp2_with fail
   go_ret2
   exact oW HNO.out HB2.out
  | inr s =>
   have HTN:Hid (cu l = preT (ts ++ [s]) (bJ l (ts.length + 1) (l.length - (ts.length + 1)))):=ah (by rw [hT.out,HNX.out s hx])
   have HB3:Hid (Below w2.heap.size w2 (w2.alloc (.cells #[.string s] 9))):=ah bal
   have HOW3:=ah (own_below HOW2.out HB3.out)
   have HCE:Hid ((w2.alloc (.cells #[.string s] 9)).cell? ⟨w2.heap.size,0,none⟩ = some (.string s)):=ah (by rw [World.cell?_alloc_new];rfl)
   have HB4:=ah (HB2.out.trans (HB3.out.mono HB2.out.size))
   obtain ⟨W,hW⟩:∃ W,w2.alloc (.cells #[.string s] 9) = W:=⟨_,rfl⟩
   rw [hW] at HB3 HOW3 HCE HB4
   have HW:=ah hW
   clear hx hW
   dsimp only [iV]
   go_wp2_with (rw [HW.out];refine jN _ rfl _ _ rfl w.heap.size _ ts.length (o9 ts) rfl HOW3.out w2.heap.size s rfl HCE.out (by omega) HB4.out.size ?_)
   intro v5 w5 hown5 hg5 _
   have HOW5:Hid (w5.ownsRow w.heap.size 9 1 v5 (ts ++ [s]).length (o9 (ts ++ [s]))):=ah (by rw [uo,List.length_append];exact hown5)
   have HB5:=ah (HB4.out.grown hg5 HB4.out.size (fun j hj => (HOW3.out.lt j hj).1))
   have HLN:Hid ((ts ++ [s]).length = ts.length + 1):=ah (by simp)
   clear hown5 hg5
   go_wp2_with fail
   go_roundw
   case rel => exact ⟨ts ++ [s],by rw [HLN.out];omega,by rw [HLN.out];go_num,by rw [HLN.out];exact HTN,HOW5.out,HB5.out⟩
   case measure => simp [intOf];omega
 have he:ts.length = l.length:=by omega
 have HYE:Hid (cu l = .inr ts):=ah (by rw [hT.out,he,x9])
 have HR:=ah (bT.aS HOW.out)
 have HFR:Hid (bB w (.slice oo ts.length oc)):=ah fun g hg => (HOW.out.lt g hg).1
 have d2:¬ (ts.length:Int) < l.length:=by omega
 clear he
 go_wp2_with fail
 go_ret2
 exact xZ HYE.out HR.out HFR.out HB.out
end
end Go.Proofs.YtijhemdnajlfnaaGreatDoor

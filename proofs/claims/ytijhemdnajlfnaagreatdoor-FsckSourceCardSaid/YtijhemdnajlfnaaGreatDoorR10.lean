/- A part of this claim. -/
import Derived.ScopeJumps
import Derived.Test.YtijhemdnajlfnaaGreatDoorR7
import Derived.WalkMore
namespace Go.Proofs.YtijhemdnajlfnaaGreatDoor
open Tryz
set_option maxHeartbeats 64000000
set_option maxRecDepth 100000
section
open Go.RowKit
def Exit.jumps (J:Nat → Act → World → Prop) (Q:Exit → Act → World → Prop):Exit → Act → World → Prop
 | .goto l,a,w => J l a w
 | e,a,w => Q e a w
section
variable {P:Program} {a:Act} {w:World} {Q:Exit → Act → World → Prop}
theorem Exit.fT {J:Nat → Act → World → Prop}:Exit.jumps J Q .ret a w = Q .ret a w:=rfl
theorem Exit.Fz {J:Nat → Act → World → Prop} {l:Nat}:Exit.jumps J Q (.goto l) a w = J l a w:=rfl
theorem lQ {c:Code} (J:Nat → Act → World → Prop) (μ:Nat → Act → World → Nat) (first:c.wp P (Exit.jumps J Q) a w)
  (pass:∀ l a w,J l a w → ∃ rest,findLabel c l = some rest ∧ rest.wp P (Exit.jumps (fun l' a' w' => J l' a' w' ∧ μ l' a' w' < μ l a w) Q) a w):(Code.scope c).wp P Q a w:=by
 intro b k cs
 have key:∀ n l a w,μ l a w = n → J l a w → ∃ rest,findLabel c l = some rest ∧ ∃ e a' w',Q e a' w' ∧ Arrives P (lone (b.at a (.code rest :: .inScope c :: k)) cs w) b k cs e a' w':=by
  intro n
  induction n using Nat.strongRecOn with
  | _ n ih =>
   intro l a w hn hJ
   obtain ⟨rest,hf,hp⟩:=pass l a w hJ
   refine ⟨rest,hf,?_⟩
   obtain ⟨e,a₁,w₁,hq,harr⟩:=hp b (.inScope c :: k) cs
   cases e with
   | normal => exact ⟨.normal,a₁,w₁,hq,Steps.trans harr (.one step_inScope)⟩
   | exit id => exact ⟨.exit id,a₁,w₁,hq,fun k' hk => harr k' (by simp [exitTo,hk])⟩
   | goto l' =>
    obtain ⟨hJ',hlt⟩:=hq
    obtain ⟨rest',hf',e₂,a₂,w₂,hq₂,harr₂⟩:=ih _ (by omega) l' a₁ w₁ rfl hJ'
    exact ⟨e₂,a₂,w₂,hq₂,.of_steps (harr _ (by simp [gotoIn,hf'])) harr₂⟩
   | ret => exact ⟨_,a₁,w₁,hq,harr⟩
   | panic ch => exact ⟨_,a₁,w₁,hq,harr⟩
   | outgrown => exact ⟨_,a₁,w₁,hq,harr⟩
 obtain ⟨e,a₁,w₁,hq,harr⟩:=first b (.inScope c :: k) cs
 cases e with
 | normal => exact ⟨.normal,a₁,w₁,hq,.head step_scope (Steps.trans harr (.one step_inScope))⟩
 | exit id => exact ⟨.exit id,a₁,w₁,hq,fun k' hk => .head step_scope (harr k' (by simp [exitTo,hk]))⟩
 | goto l' =>
  obtain ⟨rest',hf',e₂,a₂,w₂,hq₂,harr₂⟩:=key _ l' a₁ w₁ rfl hq
  exact ⟨e₂,a₂,w₂,hq₂,.of_steps (.head step_scope (harr _ (by simp [gotoIn,hf']))) harr₂⟩
 | ret => exact ⟨_,a₁,w₁,hq,.of_steps (.one step_scope) harr⟩
 | panic ch => exact ⟨_,a₁,w₁,hq,.of_steps (.one step_scope) harr⟩
 | outgrown => exact ⟨_,a₁,w₁,hq,.of_steps (.one step_scope) harr⟩
theorem Exit.lG {J J':Nat → Act → World → Prop} (h:∀ l a w,J l a w → J' l a w) (e:Exit) (a:Act) (w:World) (hq:Exit.jumps J Q e a w):Exit.jumps J' Q e a w:=by
 cases e <;> first | exact h _ _ _ hq | exact hq
theorem fE {c:Code} (J:Nat → Act → World → Prop) (μ:Nat → Act → World → Nat)
  (pass:∀ l a w,J l a w → (∀ l' X,findLabel c l' = some (.seq .skip X) → ∀ a' w',J l' a' w' ∧ μ l' a' w' < μ l a w → X.wp P (Exit.jumps (fun l' a' w' => J l' a' w' ∧ μ l' a' w' < μ l a w) Q) a' w') →
   ∃ X,findLabel c l = some (.seq .skip X) ∧ X.wp P (Exit.jumps (fun l' a' w' => J l' a' w' ∧ μ l' a' w' < μ l a w) Q) a w)
  (first:(∀ l' X,findLabel c l' = some (.seq .skip X) → ∀ a' w',J l' a' w' → X.wp P (Exit.jumps J Q) a' w') → c.wp P (Exit.jumps J Q) a w):(Code.scope c).wp P Q a w:=by
 have key:∀ n l a w,μ l a w = n → J l a w → ∃ X,findLabel c l = some (.seq .skip X) ∧ X.wp P (Exit.jumps (fun l' a' w' => J l' a' w' ∧ μ l' a' w' < μ l a w) Q) a w:=by
  intro n
  induction n using Nat.strongRecOn with
  | _ n ih =>
   intro l a w hn hJ
   refine pass l a w hJ ?_
   intro l' X hf a' w' ⟨hJ',hlt⟩
   obtain ⟨X',hf',hX'⟩:=ih _ (by omega) l' a' w' rfl hJ'
   rw [hf] at hf'
   injection hf' with hf'
   injection hf' with _ hf'
   subst hf'
   exact Code.wp_mono (Exit.lG fun l2 a2 w2 h => ⟨h.1,Nat.lt_trans h.2 hlt⟩) hX'
 refine lQ J μ ?_ ?_
 ·refine first fun l' X hf a' w' hJ => ?_
  obtain ⟨X',hf',hX'⟩:=key _ l' a' w' rfl hJ
  rw [hf] at hf'
  injection hf' with hf'
  injection hf' with _ hf'
  subst hf'
  exact Code.wp_mono (Exit.lG fun l2 a2 w2 h => h.1) hX'
 intro l a w hJ
 obtain ⟨X,hf,hX⟩:=key _ l a w rfl hJ
 exact ⟨_,hf,wp_seq (wp_skip hX)⟩
end
def NumJ (b:Nat) (r:Rd) (most:Nat) (w:World):Nat → Act → World → Prop
 | 0,a,w' => ∃ (e:Nat) (v5 v6 v7:Value) (r':Rd) (v10 v11 v12 v13 v14 v15 v16 v17 v18 v19 v20 v21 v22 v23 v24 v25 v26 v27 v28 v29 v30 v31 v32 v33 v34 v35 v36 v37 v38 v39 v40 v41 v42 v43 v44 v45 v46 v47 v48 v49 v50 v51 v52 v53 v54 v55 v56 v57 v58 v59 v60 v61 v62 v63 v64 v65 v66 v67 v68 v69 v70 v71 v72 v73:Value),a = { tmps:=#[.pointer (some ⟨b,0,none⟩),.int .i64 (most:Int),undef,undef,.int .i64 0,v5,v6,v7,.int .i64 (e:Int),.int .i64 (r.pos:Int),v10,v11,v12,v13,v14,v15,v16,v17,v18,v19,v20,v21,v22,v23,v24,v25,v26,v27,v28,v29,v30,v31,v32,v33,v34,v35,v36,v37,v38,v39,v40,v41,v42,v43,v44,v45,v46,v47,v48,v49,v50,v51,v52,v53,v54,v55,v56,v57,v58,v59,v60,v61,v62,v63,v64,v65,v66,v67,v68,v69,v70,v71,v72,v73],defers:=[] } ∧
   Hid (bG r.left most 6 0 0 = .inl e) ∧ Hid (r'.err = 0 ∧ r'.s = r.s ∧ r.err = 0) ∧ Arr w' b 3 r'.c ∧ w.grownBy w' (some b)
 | 1,a,w' => ∃ (k N:Nat) (v7:Value) (v10 v11 v12 v13 v14 v15 v16 v17 v18 v19 v20 v21 v22 v23 v24 v25 v26 v27 v28 v29 v30 v31 v32 v33 v34 v35 v36 v37 v38 v39 v40 v41 v42 v43 v44 v45 v46 v47 v48 v49 v50 v51 v52 v53 v54 v55 v56 v57 v58 v59 v60 v61 v62 v63 v64 v65 v66 v67 v68 v69 v70 v71 v72 v73:Value),a = { tmps:=#[.pointer (some ⟨b,0,none⟩),.int .i64 (most:Int),undef,undef,.int .i64 0,.int .i64 (N:Int),.int .i64 (7 * k:Int),v7,.int .i64 3,.int .i64 (r.pos:Int),v10,v11,v12,v13,v14,v15,v16,v17,v18,v19,v20,v21,v22,v23,v24,v25,v26,v27,v28,v29,v30,v31,v32,v33,v34,v35,v36,v37,v38,v39,v40,v41,v42,v43,v44,v45,v46,v47,v48,v49,v50,v51,v52,v53,v54,v55,v56,v57,v58,v59,v60,v61,v62,v63,v64,v65,v66,v67,v68,v69,v70,v71,v72,v73],defers:=[] } ∧
   k ≤ 5 ∧ Hid (r.err = 0) ∧ Hid (bG r.left most 6 0 0 = bG r.left most (6 - k) k N) ∧ Hid (N < 128 ^ k) ∧ Arr w' b 3 (Rd.c ⟨r.s,r.pos + k,0⟩) ∧ w.grownBy w' (some b) ∧ r.pos + k ≤ r.s.size
 | _,_,_ => False
def NumM:Nat → Act → World → Nat
 | 0,_,_ => 0
 | _,a,_ => 100 - (intOf (a.tmps.getD 6 undef)).toNat
theorem OQ (N X k M:Nat) (hk:k ≤ 5) (hN:N < 128 ^ k) (hM:M = N + X % 128 * 128 ^ k):bits .or .i64 (N:Int) (wrap64 ((X:Int) % 128 * 2 ^ (7 * k))) = (M:Int):=by
 have hp:(128:Nat) ^ k = 2 ^ (7 * k):=by rw [show (128:Nat) = 2 ^ 7 from rfl,← Nat.pow_mul]
 have hb:(128:Nat) ^ k ≤ 34359738368:=Nat.le_trans (Nat.pow_le_pow_right (by omega) hk) (by decide)
 have hy:X % 128 * 128 ^ k ≤ 4363686772736:=Nat.le_trans (Nat.mul_le_mul (show X % 128 ≤ 127 by omega) hb) (by omega)
 have e1:(X:Int) % 128 * 2 ^ (7 * k) = ((X % 128 * 128 ^ k:Nat):Int):=by rw [hp];push_cast;rfl
 have e2:wrap64 ((X % 128 * 128 ^ k:Nat):Int) = ((X % 128 * 128 ^ k:Nat):Int):=by unfold wrap64;omega
 have h62:(2:Nat) ^ 62 = 4611686018427387904:=by decide
 have i62:(2:Int) ^ 62 = 4611686018427387904:=by decide
 rw [e1,e2,(bits_nat .i64 62 (by decide) (fun n h0 h1 => by rw [IntKind.wrap_i64];omega) N (X % 128 * 128 ^ k) (by omega) (by omega)).2,hM]
 congr 1
 rw [hp] at hN ⊢
 rw [Nat.or_comm,Nat.mul_comm,← Nat.two_pow_add_eq_or_of_lt hN,Nat.add_comm]
theorem Rd.Gz (r:Rd) (most:Nat) (h:r.err ≠ 0):r.num most = (r,0):=by unfold Rd.num;rw [if_pos h]
theorem gP (b:Nat) (r:Rd) (most:Nat) (w:World) (hA:Arr w b 3 r.c) (hf:r.fine) (_hn:most ≤ 1000000000) :
  Calls prog 107 #[.pointer (some ⟨b,0,none⟩),.int .i64 (most:Int)] w fun e w' => e = .returned (.int .i64 ((r.num most).2:Int)) ∧ Arr w' b 3 (r.num most).1.c ∧ w.grownBy w' (some b):=by
 have hbl:b < w.heap.size:=hA.lt (by omega)
 have HE:=ah (jy b r w hA)
 have HF:=ah (fun (r':Rd) e W (h:Arr W b 3 r'.c) => xX b r' e r.pos W h)
 have hp:=hf.pos
 have hs:=hf.size
 have he:=hf.err
 have HA:=ah hA
 clear hA hf
 go_enter func107,ntmps107
 go_wp2_with fail
 refine fE (NumJ b r most w) NumM ?_ ?_
 ·rintro l a w' hJ hfall
  have HFALL:=ah hfall
  clear hfall
  match l,hJ with
  | 1,hJ =>
   refine ⟨_,rfl,?_⟩
   obtain ⟨k,N,v7,v10,v11,v12,v13,v14,v15,v16,v17,v18,v19,v20,v21,v22,v23,v24,v25,v26,v27,v28,v29,v30,v31,v32,v33,v34,v35,v36,v37,v38,v39,v40,v41,v42,v43,v44,v45,v46,v47,v48,v49,v50,v51,v52,v53,v54,v55,v56,v57,v58,v59,v60,v61,v62,v63,v64,v65,v66,v67,v68,v69,v70,v71,v72,v73,rfl,hk,hr0,hgo,hN,hA1,hg1,hle⟩:=hJ
   have HL:=ah (vJ r k)
   have HSE:=ah (fun (h:r.pos + k < r.s.size) w => dB r.s w (r.pos + k) h)
   generalize hpk:r.pos + k = p at hA1 hle HL HSE
   have HPK:=ah hpk
   clear hpk
   have c0:w'.cell? ⟨b,0,none⟩ = some (.string r.s):=hA1.cell 0 (by omega)
   have c1:w'.cell? ⟨b,1,none⟩ = some (.int .i64 (p:Int)):=hA1.cell 1 (by omega)
   have hbl':b < w'.heap.size:=hA1.lt (by omega)
   have HA1:=ah hA1
   have HG1:=ah hg1
   clear hA1 hg1
   by_cases hlt:p < r.s.size
   ·have d1:((p:Int) == (r.s.size:Int)) = false:=by rw [beq_eq_false_iff_ne];omega
    have HI:∀ w,(Instr.index 9 (.string r.s) (.int .i64 (p:Int))).run prog w = .ok (.int .u8 (wn (bw (blk r.s p)))) w:=fun w => HSE.out hlt w
    have hwn:=lS (blk r.s p)
    have hX:(blk r.s p).toNat < 256:=(blk r.s p).toNat_lt
    have hl:r.left[k]? = some (blk r.s p):=by
     rw [HL.out];unfold blk
     have hl:p < r.s.data.toList.length:=by simp;omega
     simp only [List.getD,List.getElem?_eq_getElem hl,Option.getD_some]
    have hstep:bG r.left most (6 - k) k N = if 128 ≤ (blk r.s p).toNat then bG r.left most (5 - k) (k + 1) (N + (blk r.s p).toNat % 128 * 128 ^ k)
      else if (blk r.s p).toNat = 0 ∧ 0 < k then .inl 2
      else if 1099511627775 < N + (blk r.s p).toNat % 128 * 128 ^ k ∨ most < N + (blk r.s p).toNat % 128 * 128 ^ k then .inl 4
      else .inr (N + (blk r.s p).toNat % 128 * 128 ^ k,k + 1):=by
     rw [show 6 - k = (5 - k) + 1 from by omega];conv => lhs;unfold bG
     rw [hl]
    rw [← hwn] at HI
    generalize (blk r.s p).toNat = X at HI hX hstep
    have HGO:Hid _:=ah (hgo.out.trans hstep)
    obtain ⟨M,hM⟩:∃ M,M = N + X % 128 * 128 ^ k:=⟨_,rfl⟩
    have hbor:=OQ N X k M hk hN.out hM
    have hMs:M ≤ 4398046511104:=by
     have h1:=hN.out
     have hb:(128:Nat) ^ k ≤ 34359738368:=Nat.le_trans (Nat.pow_le_pow_right (by omega) hk) (by decide)
     have hy:X % 128 * 128 ^ k ≤ 4363686772736:=Nat.le_trans (Nat.mul_le_mul (show X % 128 ≤ 127 by omega) hb) (by omega)
     omega
    have HMK:Hid (M < 128 ^ (k + 1)):=by
     unfold Hid
     have h1:=hN.out
     have h2:X % 128 * 128 ^ k ≤ 127 * 128 ^ k:=Nat.mul_le_mul (by omega) (Nat.le_refl _)
     rw [Nat.pow_succ];omega
    rw [← hM] at HGO
    have HN:=ah hN.out
    clear hstep hl hwn hgo hM hN
    have x0:(0:Int) ≤ X:=by omega
    have x1:(X:Int) < 256:=by omega
    have f1:=HA1.out.free 1 (by omega)
    go_wp2
    refine wbq ?_
    have LQ0:=blq c0
    have LQ1:=blq c1
    repeat (go_big_quiet_step (fail))
    refine wpQuiet_nil ?_
    intro wq hbq
    clear LQ0 LQ1
    obtain ⟨wa,rfl⟩:∃ wa:World,wa = wq:=⟨_,rfl⟩
    have q0:=ak c0 hbq hbl'
    have q1:=ak c1 hbq hbl'
    have hbla:b < wa.heap.size:=by have:=hbq.size;omega
    have HAA:=ah (HA1.out.below hbq hbl')
    have HGA:=ah (jq HG1.out hbq)
    clear hbq c0 c1
    go_wp2
    refine wbq ?_
    have LQ0:=blq q0
    have LQ1:=blq q1
    repeat (go_big_quiet_step (fail))
    refine wpQuiet_nil ?_
    intro wq hbq
    clear LQ0 LQ1
    have HAQ:=ah (HAA.out.below hbq hbla)
    have HGQ:=ah (jq HGA.out hbq)
    clear hbq q0 q1
    have g1:wq.cell? ⟨b,1,none⟩ = some (.int .i64 (p:Int)):=HAQ.out.cell 1 (by omega)
    have g2:=HAQ.out.free 1 (by omega)
    by_cases h128:128 ≤ X
    ·have dA:decide ((128:Int) ≤ X) = true:=decide_eq_true (by omega)
     have HG2:Hid (bG r.left most 6 0 0 = bG r.left most (5 - k) (k + 1) M):=by unfold Hid;rw [HGO.out,if_pos h128]
     clear HGO h128
     by_cases h5:k = 5
     ·have d42:((7 * (k:Int) + 7) == 42) = true:=by rw [beq_iff_eq];omega
      have HG4:Hid (bG r.left most 6 0 0 = .inl 4):=by unfold Hid;rw [HG2.out,h5];rfl
      clear HG2
      go_wp2
      refine wp_goto ?_
      refine ⟨⟨4,_,_,_,⟨r.s,p + 1,0⟩,_,_,_,_,_,_,_,_,_,_,_,_,_,_,_,_,_,_,_,_,_,_,_,_,_,_,_,_,_,_,_,_,_,_,_,_,_,_,_,_,_,_,_,_,_,_,_,_,_,_,_,_,_,_,_,_,_,_,_,_,_,_,_,_,rfl,HG4,ah ⟨rfl,rfl,hr0.out⟩,(HAQ.out.set 1 (by omega) _).congr (Rd.fO ⟨r.s,p,0⟩ (p + 1)),aI HGQ.out _⟩,?_⟩
      show 0 < 100 - (7 * (k:Int)).toNat
      omega
     have d42:((7 * (k:Int) + 7) == 42) = false:=by rw [beq_eq_false_iff_ne];omega
     go_wp2
     refine wp_goto ?_
     rw [show (7 * (k:Int) + 7) = 7 * ((k + 1:Nat):Int) from by omega]
     refine ⟨⟨k + 1,M,_,_,_,_,_,_,_,_,_,_,_,_,_,_,_,_,_,_,_,_,_,_,_,_,_,_,_,_,_,_,_,_,_,_,_,_,_,_,_,_,_,_,_,_,_,_,_,_,_,_,_,_,_,_,_,_,_,_,_,_,_,_,_,_,_,rfl,by omega,hr0,?_,HMK,?_,aI HGQ.out _,by have:=HPK.out;omega⟩,?_⟩
     ·unfold Hid;rw [HG2.out,show 6 - (k + 1) = 5 - k from by omega]
     ·have:=(HAQ.out.set 1 (by omega) (.int .i64 ((p + 1:Nat):Int))).congr (Rd.fO ⟨r.s,p,0⟩ (p + 1))
      rw [show r.pos + (k + 1) = p + 1 from by have:=HPK.out;omega]
      exact this
     show 100 - (7 * ((k + 1:Nat):Int)).toNat < 100 - (7 * (k:Int)).toNat
     omega
    have dA:decide ((128:Int) ≤ X) = false:=decide_eq_false (by omega)
    by_cases hz:X = 0 ∧ 0 < k
    ·have HG4:Hid (bG r.left most 6 0 0 = .inl 2):=by unfold Hid;rw [HGO.out,if_neg h128,if_pos hz]
     have hx1:((X:Int) == 0) = true:=by rw [beq_iff_eq];omega
     have hk1:decide ((7:Int) < 7 * (k:Int) + 7) = true:=decide_eq_true (by omega)
     clear HGO h128 hz
     go_wp2
     refine wp_goto ?_
     refine ⟨⟨2,_,_,_,⟨r.s,p + 1,0⟩,_,_,_,_,_,_,_,_,_,_,_,_,_,_,_,_,_,_,_,_,_,_,_,_,_,_,_,_,_,_,_,_,_,_,_,_,_,_,_,_,_,_,_,_,_,_,_,_,_,_,_,_,_,_,_,_,_,_,_,_,_,_,_,_,rfl,HG4,ah ⟨rfl,rfl,hr0.out⟩,(HAQ.out.set 1 (by omega) _).congr (Rd.fO ⟨r.s,p,0⟩ (p + 1)),aI HGQ.out _⟩,?_⟩
     show 0 < 100 - (7 * (k:Int)).toNat
     omega
    have hxk:Hid (((X:Int) == 0) = false ∨ (((X:Int) == 0) = true ∧ decide ((7:Int) < 7 * (k:Int) + 7) = false)):=by
     unfold Hid
     by_cases hX0:X = 0
     ·right;exact ⟨by rw [beq_iff_eq];omega,decide_eq_false (by omega)⟩
     left;rw [beq_eq_false_iff_ne];omega
    by_cases hm:1099511627775 < M ∨ most < M
    ·have HG4:Hid (bG r.left most 6 0 0 = .inl 4):=by unfold Hid;rw [HGO.out,if_neg h128,if_neg hz,if_pos hm]
     have hmm:Hid ((decide ((M:Int) ≤ 1099511627775) = false ∧ decide (M ≤ 1099511627775) = false) ∨ (decide ((M:Int) ≤ 1099511627775) = true ∧ decide (M ≤ 1099511627775) = true ∧ decide ((M:Int) ≤ (most:Int)) = false ∧ decide (M ≤ most) = false)):=by
      unfold Hid
      by_cases h1:1099511627775 < M
      ·left;exact ⟨decide_eq_false (by omega),decide_eq_false (by omega)⟩
      right;exact ⟨decide_eq_true (by omega),decide_eq_true (by omega),decide_eq_false (by omega),decide_eq_false (by omega)⟩
     clear HGO h128 hz hm
     rcases hxk.out with hx | ⟨hx,hx2⟩ <;> rcases hmm.out with ⟨hm1,hm2⟩ | ⟨hm1,hm2,hm3,hm4⟩
     all_goals
      go_wp2
      rename_i hK
      refine wp_label (hK _ _ (HFALL.out 0 _ rfl _ _ ?_))
      refine ⟨⟨4,_,_,_,⟨r.s,p + 1,0⟩,_,_,_,_,_,_,_,_,_,_,_,_,_,_,_,_,_,_,_,_,_,_,_,_,_,_,_,_,_,_,_,_,_,_,_,_,_,_,_,_,_,_,_,_,_,_,_,_,_,_,_,_,_,_,_,_,_,_,_,_,_,_,_,_,rfl,HG4,ah ⟨rfl,rfl,hr0.out⟩,(HAQ.out.set 1 (by omega) _).congr (Rd.fO ⟨r.s,p,0⟩ (p + 1)),aI HGQ.out _⟩,?_⟩
      show 0 < 100 - (7 * (k:Int)).toNat
      omega
    have HR:Hid (r.num most = ({ r with pos:=r.pos + (k + 1) },M)):=ah (Rd.Fa r most (M,k + 1) hr0.out (by rw [HGO.out,if_neg h128,if_neg hz,if_neg hm]))
    have hm1:decide ((M:Int) ≤ 1099511627775) = true:=decide_eq_true (by omega)
    have hm2:decide ((M:Int) ≤ (most:Int)) = true:=decide_eq_true (by omega)
    have hm3:decide (M ≤ 1099511627775) = true:=decide_eq_true (by omega)
    have hm4:decide (M ≤ most) = true:=decide_eq_true (by omega)
    clear HGO h128 hz hm
    rcases hxk.out with hx | ⟨hx,hx2⟩
    all_goals
     go_wp2
     rw [Exit.fT]
     go_ret
     rw [HR.out]
     refine ⟨rfl,?_,aI HGQ.out _⟩
     have h1:=(HAQ.out.set 1 (by omega) (.int .i64 ((p + 1:Nat):Int))).congr (Rd.fO ⟨r.s,p,0⟩ (p + 1))
     have h2:({ r with pos:=r.pos + (k + 1) }:Rd) = ⟨r.s,p + 1,0⟩:=by
      have h3:=hr0.out
      have h4:=HPK.out
      rw [show r.pos + (k + 1) = p + 1 from by omega,h3]
     show Arr _ b 3 (Rd.c { r with pos:=r.pos + (k + 1) })
     rw [h2]
     exact h1
   have d1:((p:Int) == (r.s.size:Int)) = true:=by rw [beq_iff_eq];omega
   have hl:r.left[k]? = none:=by
    rw [HL.out];exact List.getElem?_eq_none (by simp;omega)
   have hgo3:Hid (bG r.left most 6 0 0 = .inl 3):=by
    unfold Hid
    rw [hgo.out,show 6 - k = (5 - k) + 1 from by omega];unfold bG;rw [hl]
   go_wp2
   refine wbq ?_
   have LQ0:=blq c0
   have LQ1:=blq c1
   repeat (go_big_quiet_step (fail))
   refine wpQuiet_nil ?_
   intro wq hbq
   clear LQ0 LQ1
   have HAQ:=ah (HA1.out.below hbq hbl')
   have HGQ:=ah (jq HG1.out hbq)
   clear hbq c0 c1
   go_wp2
   refine wp_goto ?_
   refine ⟨⟨3,_,_,_,⟨r.s,p,0⟩,_,_,_,_,_,_,_,_,_,_,_,_,_,_,_,_,_,_,_,_,_,_,_,_,_,_,_,_,_,_,_,_,_,_,_,_,_,_,_,_,_,_,_,_,_,_,_,_,_,_,_,_,_,_,_,_,_,_,_,_,_,_,_,_,rfl,hgo3,ah ⟨rfl,rfl,hr0.out⟩,HAQ.out,HGQ.out⟩,?_⟩
   show 0 < 100 - (7 * (k:Int)).toNat
   omega
  | 0,hJ =>
   refine ⟨_,rfl,?_⟩
   obtain ⟨e,v5,v6,v7,r',v10,v11,v12,v13,v14,v15,v16,v17,v18,v19,v20,v21,v22,v23,v24,v25,v26,v27,v28,v29,v30,v31,v32,v33,v34,v35,v36,v37,v38,v39,v40,v41,v42,v43,v44,v45,v46,v47,v48,v49,v50,v51,v52,v53,v54,v55,v56,v57,v58,v59,v60,v61,v62,v63,v64,v65,v66,v67,v68,v69,v70,v71,v72,v73,rfl,hgo,hr',hA1,hg1⟩:=hJ
   have HC:=ah (HF.out r' e w' hA1)
   have HG1:=ah hg1
   have HFL:Hid (r'.fail e r.pos = { r with err:=e }):=by
    unfold Hid Rd.fail;rw [if_pos hr'.out.1,← hr'.out.2.1]
   clear hA1 hg1
   go_wp2_with fail
   refine HC.out.mono ?_
   rintro x w2 ⟨rfl,hA2,hg2⟩
   rw [HFL.out] at hA2
   have HA2:=ah hA2
   have HG2:=ah (HG1.out.trans hg2)
   have HR:=ah (Rd.fQ r most e hr'.out.2.2 hgo.out)
   clear hA2 hg2 hgo hr'
   go_wp2
   rw [Exit.fT]
   go_ret
   rw [HR.out]
   exact ⟨rfl,HA2.out,HG2.out⟩
  | _ + 2,hJ => exact hJ.elim
 intro hfall
 have HFALL:=ah hfall
 clear hfall
 go_wp2_with fail
 refine HE.out.mono ?_
 rintro e w1 ⟨rfl,rfl⟩
 by_cases h0:r.err = 0
 ·have d0:((r.err:Int) != 0) = false:=by rw [bne_eq_false_iff_eq];omega
  have HA0:Hid (Arr w1 b 3 (Rd.c ⟨r.s,r.pos,0⟩)):=by
   have:=HA.out
   have e:r.c = Rd.c ⟨r.s,r.pos,0⟩:=by rw [← h0]
   rw [e] at this
   exact ah this
  have c1:w1.cell? ⟨b,1,none⟩ = some (.int .i64 (r.pos:Int)):=HA0.out.cell 1 (by omega)
  go_wp2
  refine wbq ?_
  have LQ0:=blq c1
  repeat (go_big_quiet_step (fail))
  refine wpQuiet_nil ?_
  intro wq hbq
  clear LQ0
  have HAQ:=ah (HA0.out.below hbq hbl)
  have HGQ:=ah (aA hbq (some b))
  clear hbq c1
  go_wp2
  rename_i hK
  refine wp_label (hK _ _ (HFALL.out 1 _ rfl _ _ ?_))
  exact ⟨0,0,_,_,_,_,_,_,_,_,_,_,_,_,_,_,_,_,_,_,_,_,_,_,_,_,_,_,_,_,_,_,_,_,_,_,_,_,_,_,_,_,_,_,_,_,_,_,_,_,_,_,_,_,_,_,_,_,_,_,_,_,_,_,_,_,_,rfl,by omega,ah h0,ah rfl,ah (by decide),HAQ.out,HGQ.out,hp⟩
 have d0:((r.err:Int) != 0) = true:=by rw [bne_iff_ne];omega
 have HR:=ah (Rd.Gz r most h0)
 clear h0
 go_wp2
 rw [Exit.fT]
 go_ret
 rw [HR.out]
 exact ⟨rfl,HA.out,aA (Below.refl _ _) _⟩
theorem Rd.yV (r:Rd) (most:Nat):r.pos ≤ (r.num most).1.pos:=by
 unfold Rd.num
 split
 ·exact Nat.le_refl _
 split
 ·exact Nat.le_refl _
 exact Nat.le_add_right _ _
theorem Rd.yH (r:Rd) (n:Nat):r.pos ≤ (r.raw n).1.pos:=by
 unfold Rd.raw
 split
 ·exact Nat.le_refl _
 split
 ·exact Nat.le_refl _
 exact Nat.le_add_right _ _
theorem Rd.KA (r:Rd) (most:Nat):r.text most = if ((r.num most).1.raw (r.num most).2).1.err ≠ 0 then ({ ((r.num most).1.raw (r.num most).2).1 with pos:=min ((r.num most).1.raw (r.num most).2).1.pos r.pos },ByteArray.empty) else (r.num most).1.raw (r.num most).2:=by
 have h1:=r.yV most
 have h2:=(r.num most).1.yH (r.num most).2
 rw [Nat.min_eq_right (by omega)]
 unfold Rd.text
 by_cases h0:r.err = 0
 ·rw [if_neg (by simp [h0])]
 rw [if_pos h0]
 have e:r.num most = (r,0):=Rd.Gz r most h0
 have e2:r.raw 0 = (r,ByteArray.empty):=by unfold Rd.raw;rw [if_pos h0]
 rw [e,e2,if_pos h0]
theorem kC (b : Nat) (r : Rd) (most : Nat) (w : World) (hA : Arr w b 3 r.c) (hf : r.fine) (hn : most ≤ 1000000000) :
    Calls prog 143 #[.pointer (some ⟨b, 0, none⟩), .int .i64 (most : Int)] w fun e w' => e = .returned (.string (r.text most).2) ∧ Arr w' b 3 (r.text most).1.c ∧ w.grownBy w' (some b) := by
  have HAT := ah (Gf b r w hA)
  have HN := ah (gP b r most w hA hf hn)
  obtain ⟨hf1, hn1⟩ := Rd.aT r most hf
  have HT := ah (r.KA most)
  have HPL : Hid (r.pos ≤ ((r.num most).1.raw (r.num most).2).1.pos) := ah (Nat.le_trans (r.yV most) (Rd.yH _ _))
  generalize r.num most = x at HN hf1 hn1 HT HPL
  obtain ⟨r1, n⟩ := x
  have HF1 := ah hf1
  clear hA hf hf1
  dsimp only at HN hn1 HT HPL
  go_enter func143, ntmps143
  go_wp2_with fail
  refine HAT.out.mono ?_
  rintro e w0 ⟨rfl, rfl⟩
  go_wp2_with fail
  refine HN.out.mono ?_
  rintro e w1 ⟨rfl, hA1, hg1⟩
  have HRW := ah (l5 b r1 n w1 hA1 HF1.out (by omega))
  have HG1 := ah hg1
  generalize r1.raw n = y at HRW HT HPL
  obtain ⟨r2, s⟩ := y
  dsimp only at HRW HT HPL
  clear hA1 hg1
  go_wp2_with fail
  refine HRW.out.mono ?_
  rintro e w2 ⟨rfl, hA2, hg2⟩
  have HG2 := ah (dY HG1.out hg2)
  have d2 : w2.cell? ⟨b, 2, none⟩ = some (.int .i64 (r2.err : Int)) := hA2.cell 2 (by omega)
  have d1 : w2.cell? ⟨b, 1, none⟩ = some (.int .i64 (r2.pos : Int)) := hA2.cell 1 (by omega)
  have f1 := hA2.free 1 (by omega)
  have HA2 := ah hA2
  clear hA2 hg2
  by_cases h2 : r2.err = 0
  · have h2' : ((r2.err : Int) != 0) = false := by rw [bne_eq_false_iff_eq]; omega
    have HR : Hid (r.text most = (r2, s)) := by unfold Hid; rw [HT.out, if_neg (by simp [h2])]
    clear h2
    go_wp2
    go_ret
    rw [HR.out]
    exact ⟨rfl, HA2.out, HG2.out⟩
  · have h2' : ((r2.err : Int) != 0) = true := by rw [bne_iff_ne]; omega
    have HR : Hid (r.text most = ({ r2 with pos := r.pos }, ByteArray.empty)) := by unfold Hid; rw [HT.out, if_pos h2, Nat.min_eq_right HPL.out]
    clear h2
    go_wp2
    all_goals
      have hpl := HPL.out
      go_ret
      rw [HR.out]
      refine ⟨rfl, ?_, aI HG2.out _⟩
      first
        | exact (HA2.out.set 1 (by omega) (.int .i64 (r.pos : Int))).congr (Rd.fO r2 _)
        | (have e : r.pos = r2.pos := by omega
           rw [e]
           exact (HA2.out.set 1 (by omega) (.int .i64 (r2.pos : Int))).congr (Rd.fO r2 _))
section
variable {P:Program} {a:Act} {w:World} {Q:Exit → Act → World → Prop}
theorem xH {c:Code} (J:Nat → Act → World → Prop) (μ:Nat → Act → World → Nat)
  (pass:∀ l a w,J l a w → (∀ l' X,findLabel c l' = some (.seq .skip X) → ∀ a' w',J l' a' w' ∧ μ l' a' w' < μ l a w → X.wp P (Exit.jumps (fun l' a' w' => J l' a' w' ∧ μ l' a' w' < μ l a w) Q) a' w') →
   (∃ X,findLabel c l = some (.seq .skip X) ∧ X.wp P (Exit.jumps (fun l' a' w' => J l' a' w' ∧ μ l' a' w' < μ l a w) Q) a w) ∨ (findLabel c l = some .skip ∧ Q .normal a w))
  (first:(∀ l' X,findLabel c l' = some (.seq .skip X) → ∀ a' w',J l' a' w' → X.wp P (Exit.jumps J Q) a' w') → c.wp P (Exit.jumps J Q) a w):(Code.scope c).wp P Q a w:=by
 have key:∀ n l a w,μ l a w = n → J l a w → (∃ X,findLabel c l = some (.seq .skip X) ∧ X.wp P (Exit.jumps (fun l' a' w' => J l' a' w' ∧ μ l' a' w' < μ l a w) Q) a w) ∨ (findLabel c l = some .skip ∧ Q .normal a w):=by
  intro n
  induction n using Nat.strongRecOn with
  | _ n ih =>
   intro l a w hn hJ
   refine pass l a w hJ ?_
   intro l' X hf a' w' ⟨hJ',hlt⟩
   rcases ih _ (by omega) l' a' w' rfl hJ' with ⟨X',hf',hX'⟩ | ⟨hf',_⟩
   ·rw [hf] at hf'
    injection hf' with hf'
    injection hf' with _ hf'
    subst hf'
    exact Code.wp_mono (Exit.lG fun l2 a2 w2 h => ⟨h.1,Nat.lt_trans h.2 hlt⟩) hX'
   rw [hf] at hf'
   injection hf' with hf'
   cases hf'
 refine lQ J μ ?_ ?_
 ·refine first fun l' X hf a' w' hJ => ?_
  rcases key _ l' a' w' rfl hJ with ⟨X',hf',hX'⟩ | ⟨hf',_⟩
  ·rw [hf] at hf'
   injection hf' with hf'
   injection hf' with _ hf'
   subst hf'
   exact Code.wp_mono (Exit.lG fun l2 a2 w2 h => h.1) hX'
  rw [hf] at hf'
  injection hf' with hf'
  cases hf'
 intro l a w hJ
 rcases key _ l a w rfl hJ with ⟨X,hf,hX⟩ | ⟨hf,hq⟩
 ·exact ⟨_,hf,wp_seq (wp_skip hX)⟩
 exact ⟨_,hf,wp_skip hq⟩
end
end
end Go.Proofs.YtijhemdnajlfnaaGreatDoor

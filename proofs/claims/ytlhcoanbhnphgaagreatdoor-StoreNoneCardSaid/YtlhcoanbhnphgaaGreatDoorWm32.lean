/- A part of this claim. -/
import Derived.Test.YtlhcoanbhnphgaaGreatDoorWm31
namespace Go.Proofs.YtlhcoanbhnphgaaGreatDoor
open Tryz
set_option maxHeartbeats 64000000
set_option maxRecDepth 100000
set_option linter.all false
section
open Go.RowKit Go.Maps
theorem Da {l:List Idl} {x:Idl}:addI l x ≠ []:=fun e => by
 have:=(dW (l:=l) (x:=x) (y:=x)).2 (.inl rfl)
 rw [e] at this;cases this
theorem SL.put {L:LK} {sy:Nat → Bool} {t l:List Rf} {F:List Ob} {U:List Idl} {c:Nat} (h:SL L sy t l F U c) {o:Ob} (hr:aB o = true) (hf:fndF F (idO o) = none):SL (L.put 0 (hexN (idO o)) (some (looB o,0))) (upN sy 0 false) t l (o :: F) (addI U (idO o)) (c + 1):=by
 have hn:∀ p ∈ F,idO p ≠ idO o:=fun p hp e => by
  have:=List.find?_eq_none.1 hf p hp
  simp [e] at this
 refine ⟨h.lo.add hr hn 0,by rw [List.length_cons];have:=h.fc;omega,List.nodup_cons.2 ⟨fun hm => ?_,h.nd⟩,fun y => by rw [LK.aI (fun e => absurd e.1 (by decide))];exact h.pk y,?_,Nat.le_trans h.lc (by omega),by rw [LK.aI (fun e => absurd e.1 (by decide))];exact h.tm,h.ok,fun p hp hx => ?_,fun y hy => ?_,fun e => absurd e Da⟩
 ·obtain ⟨p,hp,e⟩:=List.mem_map.1 hm
  exact hn p hp e
 ·obtain ⟨m,hm⟩:=h.bk
  exact ⟨m,by rw [LK.aI (fun e => absurd e.1 (by decide))];exact hm⟩
 ·rcases List.mem_cons.1 hp with rfl | hp
  ·exact absurd (dW.2 (.inl rfl)) hx
  intro d hd
  rw [LK.aI (fun e => hn p hp (tK (eP _) (eP _) e.2))] at hd
  exact h.uf p hp (fun h2 => hx (dW.2 (.inr h2))) d hd
 rcases dW.1 hy with rfl | hy
 ·exact ⟨o,List.mem_cons_self ..,rfl⟩
 obtain ⟨p,hp,e⟩:=h.up y hy
 exact ⟨p,List.mem_cons_of_mem _ hp,e⟩
theorem SM.res {O OX:Nat → Prop} {w w':World} {B:Sb} {t l:List Rf} {n n':Nat} {P P':Nat → List Idl} {U U':List Idl} {c c':Nat} (h':SM OX w' B t l n' P' U' c') (h:SM O w B t l n P U c):SM O w' B t l n' P' U' c' :=
 ⟨h'.box,⟨h'.bk.op,h.bk.ob,h.bk.ot,h.bk.ol⟩,h'.shf,h'.pin,h'.hid,h'.put,h.own,h.nd,h.vt,h.vl⟩
section
variable {O:Nat → Prop} {N R M:Nat} {w:World} {q:Int} {L:LK} {sy:Nat → Bool} {B:Sb} {t l:List Rf} {n:Nat} {P:Nat → List Idl} {U:List Idl} {c:Nat} {F:List Ob}
def wN (O:Nat → Prop) (N R M:Nat) (q:Int) (B:Sb) (t l:List Rf) (n:Nat) (P:Nat → List Idl) (c:Nat) (F:List Ob) (L:LK) (sy:Nat → Bool) (U:List Idl) (i:Nat) (o:Ob) (w w':World):Prop :=
 ∃ N' R' L' sy' F' U',N' ≤ N + 1 ∧ R' ≤ R + 2 ∧ DV O N' R' M w' B.g q L' sy' ∧ SM O w' B t l n (upN P i (addI (P i) (idO o))) U' (c + 3) ∧ SL L' sy' t l F' U' (c + 3) ∧ ((F' = F ∧ U' = U ∧ (fndF F (idO o)).isSome = true ∧ L' = L ∧ sy' = sy) ∨ (F' = o :: F ∧ U' = addI U (idO o) ∧ fndF F (idO o) = none ∧ L' = L.put 0 (hexN (idO o)) (some (looB o,0)) ∧ sy' = upN sy 0 false)) ∧ Chg (fun j => ¬ O j ∨ j ∈ B.bl) w w'
def pG (O:Nat → Prop) (N R M:Nat) (q:Int) (B:Sb) (t l:List Rf) (n:Nat) (P:Nat → List Idl) (c:Nat) (F:List Ob) (L:LK) (sy:Nat → Bool) (U:List Idl) (s:Int) (o:Ob) (w:World) (e:Ending) (w':World):Prop :=
 if (hasS s && aB o) = true then e = .returned (.tuple #[.agg (idC (idO o)).toArray,.int .i64 0]) ∧ wN O N R M q B t l n P c F L sy U s.toNat o w w'
 else e = .returned (.tuple #[.agg (idC zid).toArray,.int .i64 1]) ∧ Below w.heap.size w w'
theorem Gf (hv:DV O N R M w B.g q L sy) (hG:Glob w) (hm:SM O w B t l n P U c) (hl:SL L sy t l F U c) (hN:N + R ≤ 800000) (hN2:N ≤ 100) (s k:Int) (b:ByteArray) (hM:aB ⟨k,b⟩ = true → b.size + 12 ≤ M) (hM2:M ≤ 1000000) (hq:3 * ((N + 1) * M) + M ≤ q) (hq2:q ≤ 1000000000) (hc:c ≤ 900) :
  Calls prog 19 #[.pointer (some ⟨B.sb,0,none⟩),.int .i64 s,.agg #[.int .i64 k,.string b]] w (pG O N R M q B t l n P c F L sy U s ⟨k,b⟩ w):=by
 obtain ⟨hziv,hbz⟩:=cK
 have HCZ:Hid ((idC zid).length = 32):=ah (by rw [au,aV])
 have HCZO:=ah (aM zid)
 obtain ⟨cz,hcz⟩:∃ z,idC zid = z:=⟨_,rfl⟩
 rw [hcz] at hziv hbz HCZ HCZO
 obtain ⟨W,hW⟩:∃ W,(w.alloc (.cells #[.int .i64 k,.string b] 33)).alloc (.cells cz.toArray 42) = W:=⟨_,rfl⟩
 have hbW:Below w.heap.size w W:=by rw [← hW];exact bal.alloc (by simp) _
 have hx0:BoxL W w.heap.size 33 [.int .i64 k,.string b]:=by rw [← hW];exact (BoxL.new w 33 [.int .i64 k,.string b]).below bal
 have hx1:BoxL W (w.heap.size + 1) 42 cz:=by
  rw [← hW]
  have:=BoxL.new (w.alloc (.cells #[.int .i64 k,.string b] 33)) 42 cz
  rwa [World.size_alloc] at this
 have HBW:=ah hbW
 have HX0:=ah hx0
 have HX1:=ah hx1
 have HID:=ah (xD k b W (hG.below hbW).laid)
 unfold oF at HID
 have HHS:=ah (fun V => yP (.pointer (some ⟨B.sb,0,none⟩)) s V)
 have HI32:=ah bL
 have h32z:(prog.info? 42).map (·.size) = some cz.length:=by rw [HCZ.out];exact bL
 have h2:(prog.info? 33).map (·.size) = some ([.int .i64 k,.string b]:List Value).length:=cB
 have e0:=hx0.range
 have HW:=ah hW
 have HZ0:=ah hcz
 clear hW hbW hx0 hx1
 cases hok:hasS s && aB ⟨k,b⟩ with
 | false =>
  have HANS:Hid (∀ w',Below w.heap.size w w' → pG O N R M q B t l n P c F L sy U s ⟨k,b⟩ w (.returned (.tuple #[.agg cz.toArray,.int .i64 1])) w'):=ah fun w' hb => by
   unfold pG
   rw [hok,← hcz]
   exact ⟨rfl,hb⟩
  clear hv hG hm hl hN hN2 hM hM2 hq hq2 hc hcz
  have hyl:(if aB ⟨k,b⟩ = true then idO ⟨k,b⟩ else zid).length = 32:=by split;exact eP _;exact aV
  generalize (if aB ⟨k,b⟩ = true then idO ⟨k,b⟩ else zid) = y at HID hyl
  have HEL:Hid ((idC y).length = 32):=ah (by rw [au,hyl])
  have HEO:=ah (aM y)
  clear hyl
  generalize idC y = cy at HID HEL HEO
  cases hh:hasS s with
  | false =>
   rw [hh] at HHS
   clear hok hh
   go_enter func19,ntmps19
   go_upto_region 1 with fail
   rw [HW.out]
   clear HW
   go_wp2_with (refine wpList_load_mid rfl 33 _ rfl w.heap.size 0 rfl [.int .i64 k,.string b] _ e0 underlying33 rfl h2 ?_)
   refine HID.out.mono ?_
   rintro e w1 ⟨rfl,hb1⟩
   have HB1:=bth HBW hb1
   replace HX1:=ah (HX1.out.below hb1)
   clear hb1 HID e0 HX0
   go_upto_region 4 with (refine aC rfl 42 _ _ rfl cz.toArray cy rfl rfl 32 HEL.out (by simpa using HCZ.out) HI32.out HEO.out ?_;intro w2 hx2 hb2 hs2)
   have HB2:=bth HB1 hb2
   replace HX1:=ah (HX1.out.below hb2)
   clear hb2 hx2
   go_wp2_with fail
   refine (HHS.out w2).mono ?_
   rintro e w3 ⟨rfl,rfl⟩
   go_upto_region 5 with fail
   obtain ⟨WE,hWE⟩:∃ z,w3.setCells (w.heap.size + 1) 0 cz = z:=⟨_,rfl⟩
   have hre:WE.rangeAt (w.heap.size + 1) 0 cz:=by rw [← hWE];exact (HX1.out.set (us:=cz) rfl).range
   have HBE:Hid (Below w.heap.size w WE):=ah (by rw [← hWE];exact below_setCells _ (by omega) _ _ _ HB2.out)
   have hth:w3.there (w.heap.size + 1) 0 32:=by have:=HX1.out.there;rwa [HCZ.out] at this
   refine wp_region_lit ?_
   refine aO rfl (.agg cz.toArray) (by go_simp) ?_
   simp only [Act.put,nz]
   refine aj rfl 42 _ _ rfl (w.heap.size + 1) 0 cz rfl rfl 32 HCZ.out hth bL HCZO.out ?_
   rw [hWE]
   simp only [Act.put,nz]
   go_wp2_with fail
   refine aL rfl (w.heap.size + 1) 0 rfl cz _ hre underlying42 rfl h32z rfl _ rfl ?_
   exact HANS.out WE HBE.out
  | true =>
   rw [hh,Bool.true_and] at hok
   rw [hh] at HHS
   rw [hok] at HID
   clear hok hh
   go_enter func19,ntmps19
   go_upto_region 1 with fail
   rw [HW.out]
   clear HW
   go_wp2_with (refine wpList_load_mid rfl 33 _ rfl w.heap.size 0 rfl [.int .i64 k,.string b] _ e0 underlying33 rfl h2 ?_)
   refine HID.out.mono ?_
   rintro e w1 ⟨rfl,hb1⟩
   have HB1:=bth HBW hb1
   replace HX1:=ah (HX1.out.below hb1)
   clear hb1 HID e0 HX0
   go_upto_region 4 with (refine aC rfl 42 _ _ rfl cz.toArray cy rfl rfl 32 HEL.out (by simpa using HCZ.out) HI32.out HEO.out ?_;intro w2 hx2 hb2 hs2)
   have HB2:=bth HB1 hb2
   replace HX1:=ah (HX1.out.below hb2)
   clear hb2 hx2
   go_wp2_with fail
   refine (HHS.out w2).mono ?_
   rintro e w3 ⟨rfl,rfl⟩
   go_upto_region 5 with fail
   obtain ⟨WE,hWE⟩:∃ z,w3.setCells (w.heap.size + 1) 0 cz = z:=⟨_,rfl⟩
   have hre:WE.rangeAt (w.heap.size + 1) 0 cz:=by rw [← hWE];exact (HX1.out.set (us:=cz) rfl).range
   have HBE:Hid (Below w.heap.size w WE):=ah (by rw [← hWE];exact below_setCells _ (by omega) _ _ _ HB2.out)
   have hth:w3.there (w.heap.size + 1) 0 32:=by have:=HX1.out.there;rwa [HCZ.out] at this
   refine wp_region_lit ?_
   refine aO rfl (.agg cz.toArray) (by go_simp) ?_
   simp only [Act.put,nz]
   refine aj rfl 42 _ _ rfl (w.heap.size + 1) 0 cz rfl rfl 32 HCZ.out hth bL HCZO.out ?_
   rw [hWE]
   simp only [Act.put,nz]
   go_wp2_with fail
   refine aL rfl (w.heap.size + 1) 0 rfl cz _ hre underlying42 rfl h32z rfl _ rfl ?_
   exact HANS.out WE HBE.out
 | true =>
  rw [Bool.and_eq_true] at hok
  obtain ⟨hh,hr⟩:=hok
  rw [hh] at HHS
  rw [hr] at HID
  simp only [if_true] at HID
  obtain ⟨i,hi,rfl⟩:∃ i:Nat,i < 4 ∧ s = (i:Int):=by
   unfold hasS at hh
   rw [decide_eq_true_eq] at hh
   exact ⟨s.toNat,by omega,by omega⟩
  have HANS:Hid (∀ w',wN O N R M q B t l n P c F L sy U i ⟨k,b⟩ w w' → pG O N R M q B t l n P c F L sy U (i:Int) ⟨k,b⟩ w (.returned (.tuple #[.agg (idC (idO ⟨k,b⟩)).toArray,.int .i64 0])) w'):=ah fun w' hb => by
   unfold pG
   rw [hh,hr]
   exact ⟨rfl,hb⟩
  have hxl:(idO ⟨k,b⟩).length = 32:=eP _
  have HSG:=ah (fun V (hb:Below w.heap.size w V) => rO (hv.below hb) (hG.below hb) (hm.below hb) hl (by omega) hM2 (idO ⟨k,b⟩) hxl)
  have HSI:=ah (fun V (hb:Below w.heap.size w V) => Gh (hv.below hb) (hG.below hb) (hm.below hb) (by omega) (by omega) hM2)
  have HLPX:Hid (fndF F (idO ⟨k,b⟩) = none → ∀ w5,Below w.heap.size w w5 → ∀ V,Below w5.heap.size w5 V → Calls prog 52 #[.pointer (some ⟨B.g,0,none⟩),.agg #[.int .i64 k,.string b]] V (Dh (Ou (Ou O w w5) w5 V) (N + 1) (R + 2) M B.g q (L.put 0 (hexN (idO ⟨k,b⟩)) (some (looB ⟨k,b⟩,0))) (upN sy 0 false) (idO ⟨k,b⟩) V)):=ah fun hf w5 h5 V hb => by
   have hn:∀ p ∈ F,idO p ≠ idO ⟨k,b⟩:=fun p hp e => by
    have:=List.find?_eq_none.1 hf p hp
    simp [e] at this
   exact GV ((hv.on h5).on hb) (hG.below (h5.trans (hb.mono h5.size))) k b hr (by omega) hM2 (hl.lo.non hxl hn) (hl.lo.tmp hxl) (hM hr) hq hq2
  have HSL1:=ah (hl.more (c':=c + 3) (by omega))
  have HSL2:=ah (fun hf => (hl.put hr hf).more (c':=c + 3) (by omega))
  have HV:=ah hv
  have HM:=ah hm
  have HOL:=ah hv.olt
  have HGL:=ah hv.glob
  have HN2:=ah hN2
  have HCC:=ah hc
  have HXL:=ah hxl
  have k0:(0:Int) ≤ (i:Int):=by omega
  have k1:(i:Int) < 4:=by omega
  have HPI:Hid (∀ V OX n' P' U' c',SM OX V B t l n' P' U' c' → V.cell? ⟨B.sb,3 + i,none⟩ = some (.map (some (B.pn i)))):=ah fun V OX n' P' U' c' h => h.cell (by
   obtain rfl | rfl | rfl | rfl:i = 0 ∨ i = 1 ∨ i = 2 ∨ i = 3:=by omega
   all_goals rfl)
  have HEL:Hid ((idC (idO ⟨k,b⟩)).length = 32):=ah (by rw [au,hxl])
  have HEO:=ah (aM (idO ⟨k,b⟩))
  clear hv hG hm hl hN hN2 hM hM2 hq hq2 hc hcz hr hh HZ0 hbz
  obtain ⟨x,hx⟩:∃ x,idO ⟨k,b⟩ = x:=⟨_,rfl⟩
  have HXO:=ah hx
  rw [hx] at HID HSG HLPX HEL HEO HXL hxl HANS HSL2
  obtain ⟨ci,hci⟩:∃ z,idC x = z:=⟨_,rfl⟩
  have HCI:=ah hci
  rw [hci] at HID HSG HEL HEO HANS
  have h32:(prog.info? 42).map (·.size) = some ci.length:=by rw [HEL.out];exact bL
  clear hx hci hxl
  go_enter func19,ntmps19
  go_upto_region 1 with fail
  rw [HW.out]
  clear HW
  go_wp2_with (refine wpList_load_mid rfl 33 _ rfl w.heap.size 0 rfl [.int .i64 k,.string b] _ e0 underlying33 rfl h2 ?_)
  refine HID.out.mono ?_
  rintro e w1 ⟨rfl,hb1⟩
  have HB1:=bth HBW hb1
  replace HX0:=ah (HX0.out.below hb1)
  replace HX1:=ah (HX1.out.below hb1)
  clear hb1 HID e0
  go_upto_region 4 with (refine aC rfl 42 _ _ rfl cz.toArray ci rfl rfl 32 HEL.out (by simpa using HCZ.out) HI32.out HEO.out ?_;intro w2 hx2 hb2 hs2)
  have HB2:=bth HB1 hb2
  replace HX0:=ah (HX0.out.below hb2)
  replace HX1:=ah (HX1.out.below hb2)
  have HX2:=ah hx2
  have e2:=hx2.range
  clear hb2 hx2
  go_wp2_with fail
  refine (HHS.out w2).mono ?_
  rintro e w3 ⟨rfl,rfl⟩
  go_wp2_with (refine wpList_load_mid rfl 42 _ rfl w1.heap.size 0 rfl ci _ e2 underlying42 rfl h32 ?_)
  refine (HSG.out w3 HB2.out).mono ?_
  intro e w4 hsg
  unfold l7 at hsg
  cases hf:fndF F x with
  | some o' =>
   rw [hf] at hsg
   obtain ⟨rfl,hb4⟩:=hsg
   have HB4:=bth HB2 hb4
   replace HX1:=ah (HX1.out.below hb4)
   replace HX2:=ah (HX2.out.below hb4)
   have HCO:=ah (lu o')
   have HCL:Hid ((obC o').length = 2):=ah rfl
   have HFO:=ah hf
   clear hb4 e2 HX0 HSG HSI HLPX hf
   generalize obC o' = co at HCO HCL
   go_upto_region 7 with (refine aC rfl 33 _ _ rfl #[.int .i64 0,.string ⟨#[]⟩] co rfl rfl 2 HCL.out rfl cB HCO.out ?_;intro wt hx5 hb5 hs5)
   have HBT:=bth HB4 hb5
   replace HX1:=ah (HX1.out.below hb5)
   replace HX2:=ah (HX2.out.below hb5)
   clear hx5 hb5
   obtain ⟨OX,hOX⟩:∃ OX,Ou O w wt = OX:=⟨_,rfl⟩
   have HDT:Hid (DV OX N R M wt B.g q L sy):=ah (by rw [← hOX];exact HV.out.on HBT.out)
   have HMT:Hid (SM OX wt B t l n P U c):=ah (by rw [← hOX];exact (HM.out.below HBT.out).sub fun j hj => .inl hj)
   have HOX:Hid ((∀ j,O j → OX j) ∧ OX (w.heap.size + 1) ∧ OX w1.heap.size):=ah (by rw [← hOX];exact ⟨fun j hj => .inl hj,.inr ⟨by omega,HX1.out.lt⟩,.inr ⟨HB1.out.size,HX2.out.lt⟩⟩)
   have HCT:Hid (Chg (fun j => ¬ O j ∨ j ∈ B.bl) w wt):=ah (Chg.of_below HBT.out)
   have HFI:Hid (∀ w',DV O N R M w' B.g q L sy → SM O w' B t l n (upN P i (addI (P i) x)) U (c + 3) → Chg (fun j => ¬ O j ∨ j ∈ B.bl) w w' → wN O N R M q B t l n P c F L sy U i ⟨k,b⟩ w w'):=ah fun w' h1 h2 h3 => by
    unfold wN
    rw [HXO.out]
    exact ⟨N,R,L,sy,F,U,by omega,by omega,h1,h2,HSL1.out,.inl ⟨rfl,rfl,by rw [HFO.out];rfl,rfl,rfl⟩,h3⟩
   clear hOX HB4 HB2 HBT
   go_upto_region 15 with fail
   have hS0:wt.drew.cell? ⟨B.sb,3 + i,none⟩ = some (.map (some (B.pn i))) ∧ wt.drew.rangeAt w1.heap.size 0 ci:=⟨HPI.out wt OX _ _ _ _ HMT.out,HX2.out.range⟩
   refine wrL 7 (fun x => x.cell? ⟨B.sb,3 + i,none⟩ = some (.map (some (B.pn i))) ∧ x.rangeAt w1.heap.size 0 ci) ?_
   refine WL.tk 0 hS0 ?_
   refine WL.tk 1 hS0 ?_
   refine WL.tk 2 hS0 ?_
   refine WL.tk 3 hS0 ?_
   refine WL.tk 4 hS0 ?_
   refine WL.tk 5 hS0 ?_
   refine WL.tk 6 hS0 ?_ (hy:=(fun w' hSw => aK 42 _ (hSw.2) underlying42 rfl h32 _ rfl rfl))
   refine WL.la 7 ?_
   clear hS0
   obtain ⟨wd,hwd⟩:∃ z,wt.drew = z:=⟨_,rfl⟩
   have hbd:Below wt.heap.size wt wd:=by rw [← hwd];exact (Below.refl _ _).drew
   simp only [hwd]
   replace HDT:=ah (HDT.out.below hbd)
   replace HMT:=ah (HMT.out.below hbd)
   replace HX1:=ah (HX1.out.below hbd)
   replace HX2:=ah (HX2.out.below hbd)
   replace HCT:=ah (HCT.out.trans (Chg.of_below hbd))
   clear hwd hbd
   refine bR rfl _ _ _ 70 4 rfl underlying70 (B.pn i) (c) (setF (P i)) rfl (HMT.out.pin i hi).1 x HXL.out true (by rw [HCI.out];rfl) rfl (by have:=HCC.out;unfold maxLen;omega) ?_
   intro w9 g1 g2
   simp only [Act.put,nz]
   have hcp:=dK g2
   have hpm:B.pn i ∈ B.bl:=List.mem_append.2 (.inr (xC hi):B.pn i ∈ [B.sb,B.ob,B.hb,B.mp] ∨ _)
   have hpl:=HOL.out _ (HM.out.own _ hpm)
   have hs1:=HB1.out.size
   have HM9:=ah ((HMT.out.Gm hi (c':=c + 3) (by omega) hcp (((HMT.out.pin i hi).add HXL.out g1).mono (by omega))).res HM.out)
   have HD9:=ah (HDT.out.chg hcp (fun j hj => by rw [hj];exact HOX.out.1 _ (HM.out.own _ hpm)))
   replace HX1:=ah (HX1.out.chg hcp (by omega))
   replace HX2:=ah (HX2.out.chg hcp (by omega))
   have HC9:=ah (HCT.out.trans (hcp.mono fun j _ hj => .inr (by rw [hj];exact hpm)))
   have e2:=HX2.out.range
   obtain ⟨WE,hWE⟩:∃ z,w9.setCells (w.heap.size + 1) 0 ci = z:=⟨_,rfl⟩
   have hcw:Chg (fun j => j = w.heap.size + 1) w9 WE:=by rw [← hWE];exact eD _ _ _
   have hre:WE.rangeAt (w.heap.size + 1) 0 ci:=by rw [← hWE];exact (HX1.out.set (us:=ci) (by rw [HCZ.out,HEL.out])).range
   have hth:w9.there (w.heap.size + 1) 0 32:=by have:=HX1.out.there;rwa [HCZ.out] at this
   have hno:¬ O (w.heap.size + 1):=fun h => by have:=HOL.out _ h;omega
   have HFIN:=ah (HFI.out WE ((HD9.out.chg hcw (fun j hj => by rw [hj];exact HOX.out.2.1)).sub HOX.out.1 HGL.out) (HM9.out.chg hcw (fun j hj => by rw [hj];exact hno)) (HC9.out.trans (hcw.mono fun j _ hj => .inl (by rw [hj];exact hno))))
   have HWE:=ah hWE
   clear g1 g2 hcp hcw hWE hno HFI
   go_wp2_with (first | (refine wpList_load_mid rfl 42 _ rfl w1.heap.size 0 rfl ci _ e2 underlying42 rfl h32 ?_) | (refine aj rfl 42 _ _ rfl (w.heap.size + 1) 0 ci rfl rfl 32 HEL.out hth HI32.out HEO.out ?_;rw [HWE.out]))
   refine aL rfl (w.heap.size + 1) 0 rfl ci _ hre underlying42 rfl h32 rfl _ rfl ?_
   exact HANS.out WE HFIN.out
  | none =>
   rw [hf] at hsg
   obtain ⟨rfl,hb4⟩:=hsg
   have HFO:=ah hf
   have HLPY:=ah (HLPX.out hf)
   have HSL3:=ah (HSL2.out hf)
   clear e2 HSG HLPX HSL2 HSL1 hf
   go_upto_region 8 with fail
   have hb5:Below w4.heap.size w4 (w4.alloc (.cells #[.int .i64 0,.string ⟨#[]⟩] 33)):=bal
   generalize w4.alloc (.cells #[.int .i64 0,.string ⟨#[]⟩] 33) = w4' at hb5 ⊢
   have hb45:=hb4.trans (hb5.mono hb4.size)
   have HB4:=bth HB2 hb45
   replace HX0:=ah (HX0.out.below hb45)
   replace HX1:=ah (HX1.out.below hb45)
   replace HX2:=ah (HX2.out.below hb45)
   clear hb4 hb5 hb45
   go_wp2_with fail
   refine (HSI.out w4' HB4.out).mono ?_
   rintro e w5 ⟨v5,m5,rfl,hr5,hl5,hb5⟩
   obtain ⟨va,vc,rfl,_,_⟩:=hr5.open
   have HB5:=bth HB4 hb5
   replace HX0:=ah (HX0.out.below hb5)
   replace HX1:=ah (HX1.out.below hb5)
   replace HX2:=ah (HX2.out.below hb5)
   have d200:decide ((200:Int) ≤ (m5.length:Int)) = false:=decide_eq_false (by have:=HN2.out;omega)
   clear hr5 hl5 hb5 HSI
   obtain ⟨OX,hOX⟩:∃ OX,Ou O w w5 = OX:=⟨_,rfl⟩
   have HSMX:Hid (SM OX w5 B t l n P U c):=ah (by rw [← hOX];exact (HM.out.below HB5.out).sub fun j hj => .inl hj)
   have HOX:Hid ((∀ j,O j → OX j) ∧ OX (w.heap.size + 1) ∧ OX w1.heap.size):=ah (by rw [← hOX];exact ⟨fun j hj => .inl hj,.inr ⟨by omega,HX1.out.lt⟩,.inr ⟨HB1.out.size,HX2.out.lt⟩⟩)
   have HOX0:Hid (OX w.heap.size):=ah (by rw [← hOX];exact .inr ⟨Nat.le_refl _,HX0.out.lt⟩)
   have HXLT:Hid (∀ j,OX j → j < w5.heap.size):=ah (fun j hj => by
    rw [← hOX] at hj
    rcases hj with h | h
    ·have:=HOL.out j h;have:=HB5.out.size;omega
    exact h.2)
   have HLP:=ah (HLPY.out w5 HB5.out)
   rw [hOX] at HLP
   unfold Dh at HLP
   rw [HCI.out] at HLP
   obtain ⟨LP,hLP⟩:∃ z,L.put 0 (hexN (idO ⟨k,b⟩)) (some (looB ⟨k,b⟩,0)) = z:=⟨_,rfl⟩
   rw [HXO.out] at hLP
   have HLE:=ah hLP
   rw [hLP] at HLP
   have HSX:Hid (∀ V,Kp OX w5 V → V.cell? ⟨B.sb,1,none⟩ = some (.pointer (some ⟨B.g,0,none⟩)) ∧ V.rangeAt w.heap.size 0 [.int .i64 k,.string b]):=ah fun V hk => ⟨(HSMX.out.kp hk).cell rfl,(HX0.out.kp hk HOX0.out).range⟩
   have HCL:Hid (cz.toArray.size = 32):=ah (by simpa using HCZ.out)
   clear hOX hLP HLPY
   go_upto_region 10 with fail
   have hS0:=HSX.out w5.drew (Kp.of (Below.refl _ _).drew)
   refine wrL 11 (fun x => x.cell? ⟨B.sb,1,none⟩ = some (.pointer (some ⟨B.g,0,none⟩)) ∧ x.rangeAt w.heap.size 0 [.int .i64 k,.string b]) ?_
   refine WL.tk 0 hS0 ?_
   refine WL.tk 1 hS0 ?_
   refine WL.tk 2 hS0 ?_
   refine WL.tk 3 hS0 ?_
   refine WL.tk 4 hS0 ?_ (hy:=(fun w' hSw => aK 33 _ (hSw.2) underlying33 rfl h2 _ rfl rfl))
   refine WL.tw 5 9 ?_ ?_
   focus
    go_wp2_with fail
    refine (HLP.out w5.drew (Below.refl _ _).drew).mono ?_
    rintro e w6 ⟨rfl,hd6,hk6⟩
    have hk56:Kp OX w5 w6:=(Kp.of ((Below.refl _ w5).drew)).trans (hk6.sub fun b _ h => .inl h)
    have hb7:Below w6.heap.size w6 (w6.alloc (.cells cz.toArray 42)):=bal
    have HK7:Hid (Kp OX w5 (w6.alloc (.cells cz.toArray 42))):=ah (hk56.trans (Kp.of hb7))
    have hS6:=HSX.out w6 hk56
    have hS7:=HSX.out _ HK7.out
    have HT7:Hid ((w6.alloc (.cells cz.toArray 42)).there w6.heap.size 0 32):=ah (there_alloc w6 cz.toArray 42 HCL.out)
    have HY7:Hid (∃ OY:Nat → Prop,DV OY (N + 1) (R + 2) M (w6.alloc (.cells cz.toArray 42)) B.g q LP (upN sy 0 false) ∧ (∀ j,OX j → OY j) ∧ OY w6.heap.size):=ah ⟨Ou (Ou OX w5 w5.drew) w6 _,hd6.on hb7,fun j hj => .inl (.inl hj),.inr ⟨Nat.le_refl _,by simp⟩⟩
    have hp6:w5.heap.size ≤ w6.heap.size:=hk56.size
    clear hk56 hb7 hd6 hk6
    go_wp2
    refine ⟨hS6,?_⟩
    refine WL.tk 6 hS6 ?_
    refine WL.tk 7 hS6 ?_
    refine WL.tk 8 hS6 ?_
    refine WL.on 9 ?_
    go_wp2
    refine ⟨hS7,?_⟩
    obtain ⟨P2,hP⟩:∃ P2,w6.heap.size = P2:=⟨_,rfl⟩
    obtain ⟨w7,hw7⟩:∃ w7,w6.alloc (.cells cz.toArray 42) = w7:=⟨_,rfl⟩
    rw [hw7] at HK7 hS7 HT7 HY7 ⊢
    rw [hP] at HT7 HY7 hp6
    simp only [hP]
    clear hP hw7 hS6
   rotate_left
   focus
    have hbV:Below w5.heap.size w5 (w5.alloc (.cells cz.toArray 42)).drew:=bal.drew
    have hbxV:BoxL (w5.alloc (.cells cz.toArray 42)).drew w5.heap.size 42 cz:=(show BoxL (w5.alloc (.cells cz.toArray 42)) w5.heap.size 42 cz from BoxL.new w5 42 cz)
    have hS6:=HSX.out _ (Kp.of hbV)
    have HbV:=ah hbV
    have HbxV:=ah hbxV
    clear hbV hbxV
    go_wp2
    refine ⟨hS6,?_⟩
    refine WL.on 5 ?_
    go_wp2_with fail
    refine (HLP.out _ HbV.out).mono ?_
    rintro e w7 ⟨rfl,hd7,hk7⟩
    have hin:w5.heap.size < (w5.alloc (.cells cz.toArray 42)).drew.heap.size:=HbxV.out.lt
    have HK7:Hid (Kp OX w5 w7):=ah ((Kp.of HbV.out).trans (hk7.sub fun b _ h => .inl h))
    have hS7:=HSX.out _ HK7.out
    have HT7:Hid (w7.there w5.heap.size 0 32):=ah (by have:=(HbxV.out.kp hk7 (.inr ⟨Nat.le_refl _,hin⟩)).there;rwa [HCZ.out] at this)
    have HY7:Hid (∃ OY:Nat → Prop,DV OY (N + 1) (R + 2) M w7 B.g q LP (upN sy 0 false) ∧ (∀ j,OX j → OY j) ∧ OY w5.heap.size):=ah ⟨_,hd7,fun j hj => .inl hj,.inr ⟨Nat.le_refl _,hin⟩⟩
    clear hd7 hk7 hin HbV HbxV
    go_wp2
    refine ⟨hS7,?_⟩
    refine WL.tk 6 hS7 ?_
    refine WL.tk 7 hS7 ?_
    refine WL.tk 8 hS7 ?_
    obtain ⟨P2,hP⟩:∃ P2,P2 = w5.heap.size:=⟨_,rfl⟩
    rw [← hP] at HT7 HY7
    have hp6:w5.heap.size ≤ P2:=by omega
    simp only [← hP]
    clear hP hS6
   all_goals
    refine WL.on 10 ?_
    refine aj rfl 42 _ _ rfl P2 0 ci rfl rfl 32 HEL.out HT7.out bL HEO.out ?_
    simp only [Act.put,nz]
    have hc8:=eD P2 ci w7
    generalize w7.setCells P2 0 ci = w8 at hc8 ⊢
    have HK8:Hid (Kp OX w5 w8):=ah (HK7.out.trans (hc8.mono fun j _ hj hO => by have:=HXLT.out j hO;omega))
    have HD8:Hid (DV OX (N + 1) (R + 2) M w8 B.g q LP (upN sy 0 false)):=ah (by
     obtain ⟨OY,h1,h2,h3⟩:=HY7.out
     exact (h1.chg hc8 (fun j hj => by rw [hj];exact h3)).sub h2 (fun j hj => HOX.out.1 j (HGL.out j hj)))
    have hS8:=HSX.out _ HK8.out
    refine ⟨hS8,?_⟩
    refine WL.la 11 ?_
    have HM8:=ah (HSMX.out.kp HK8.out)
    have HX1':=ah (HX1.out.kp HK8.out HOX.out.2.1)
    have HX2':=ah (HX2.out.kp HK8.out HOX.out.2.2)
    have HC8:Hid (Chg (fun j => ¬ O j ∨ j ∈ B.bl) w w8):=ah ((Chg.of_below HB5.out).trans (HK8.out.mono fun j _ hj => .inl fun h => hj (HOX.out.1 j h)))
    clear hc8 hS8 hS7 hS0 HK7 HT7 HY7 HK8
    go_upto_region 13 with fail
    have hS0:w8.drew.cell? ⟨B.sb,8,none⟩ = some (.map (some B.pt)) ∧ w8.drew.rangeAt w1.heap.size 0 ci:=⟨HM8.out.cell rfl,HX2'.out.range⟩
    refine wrL 5 (fun x => x.cell? ⟨B.sb,8,none⟩ = some (.map (some B.pt)) ∧ x.rangeAt w1.heap.size 0 ci) ?_
    refine WL.tk 0 hS0 ?_
    refine WL.tk 1 hS0 ?_
    refine WL.tk 2 hS0 ?_
    refine WL.tk 3 hS0 ?_
    refine WL.tk 4 hS0 ?_ (hy:=(fun w' hSw => aK 42 _ (hSw.2) underlying42 rfl h32 _ rfl rfl))
    refine WL.la 5 ?_
    clear hS0
    obtain ⟨wd,hwd⟩:∃ z,w8.drew = z:=⟨_,rfl⟩
    have hbd:Below w8.heap.size w8 wd:=by rw [← hwd];exact (Below.refl _ _).drew
    simp only [hwd]
    replace HD8:=ah (HD8.out.below hbd)
    replace HM8:=ah (HM8.out.below hbd)
    replace HX1':=ah (HX1'.out.below hbd)
    replace HX2':=ah (HX2'.out.below hbd)
    replace HC8:=ah (HC8.out.trans (Chg.of_below hbd))
    clear hwd hbd
    refine bR rfl _ _ _ 70 4 rfl underlying70 B.pt c (setF U) rfl HM8.out.put.1 x HXL.out true (by rw [HCI.out];rfl) rfl (by have:=HCC.out;unfold maxLen;omega) ?_
    intro w9 g1 g2
    simp only [Act.put,nz]
    have hcp:=dK g2
    have hpm:B.pt ∈ B.bl:=by simp [Sb.bl]
    have hpl:=HOL.out _ (HM.out.own _ hpm)
    have hs1:=HB1.out.size
    have HM9:=ah (HM8.out.Gl (c':=c + 1) (by omega) hcp (HM8.out.put.add HXL.out g1))
    have HD9:=ah (HD8.out.chg hcp (fun j hj => by rw [hj];exact HOX.out.1 _ (HM.out.own _ hpm)))
    replace HX1':=ah (HX1'.out.chg hcp (by omega))
    replace HX2':=ah (HX2'.out.chg hcp (by omega))
    replace HC8:=ah (HC8.out.trans (hcp.mono fun j _ hj => .inr (by rw [hj];exact hpm)))
    clear g1 g2 hcp hpm hpl HM8 HD8
    go_upto_region 14 with fail
    have hS0:w9.drew.cell? ⟨B.sb,7,none⟩ = some (.map (some B.hd)) ∧ w9.drew.rangeAt w1.heap.size 0 ci:=⟨HM9.out.cell rfl,HX2'.out.range⟩
    refine wrL 5 (fun x => x.cell? ⟨B.sb,7,none⟩ = some (.map (some B.hd)) ∧ x.rangeAt w1.heap.size 0 ci) ?_
    refine WL.tk 0 hS0 ?_
    refine WL.tk 1 hS0 ?_
    refine WL.tk 2 hS0 ?_
    refine WL.tk 3 hS0 ?_
    refine WL.tk 4 hS0 ?_ (hy:=(fun w' hSw => aK 42 _ (hSw.2) underlying42 rfl h32 _ rfl rfl))
    refine WL.la 5 ?_
    clear hS0
    obtain ⟨wd,hwd⟩:∃ z,w9.drew = z:=⟨_,rfl⟩
    have hbd:Below w9.heap.size w9 wd:=by rw [← hwd];exact (Below.refl _ _).drew
    simp only [hwd]
    replace HD9:=ah (HD9.out.below hbd)
    replace HM9:=ah (HM9.out.below hbd)
    replace HX1':=ah (HX1'.out.below hbd)
    replace HX2':=ah (HX2'.out.below hbd)
    replace HC8:=ah (HC8.out.trans (Chg.of_below hbd))
    clear hwd hbd
    refine qG rfl _ _ 70 4 rfl underlying70 B.hd (c + 1) (setF []) rfl HM9.out.hid.1 x HXL.out (by rw [HCI.out];rfl) ?_
    intro wt g1 g2
    simp only [Act.put,nz]
    have hcp:=dK g2
    have hpm:B.hd ∈ B.bl:=by simp [Sb.bl]
    have hpl:=HOL.out _ (HM.out.own _ hpm)
    have HMT:=ah (HM9.out.KX (c':=c + 1) (by omega) hcp (HM9.out.hid.del g1))
    have HDT:=ah (HD9.out.chg hcp (fun j hj => by rw [hj];exact HOX.out.1 _ (HM.out.own _ hpm)))
    clear HX1 HX2
    have HX1:=ah (HX1'.out.chg hcp (by omega))
    have HX2:=ah (HX2'.out.chg hcp (by omega))
    have HCT:=ah (HC8.out.trans (hcp.mono fun j _ hj => .inr (by rw [hj];exact hpm)))
    have HFI:Hid (∀ w',DV O (N + 1) (R + 2) M w' B.g q LP (upN sy 0 false) → SM O w' B t l n (upN P i (addI (P i) x)) (addI U x) (c + 3) → Chg (fun j => ¬ O j ∨ j ∈ B.bl) w w' → wN O N R M q B t l n P c F L sy U i ⟨k,b⟩ w w'):=ah fun w' h1 h2 h3 => by
     unfold wN
     rw [HXO.out,HLE.out]
     refine ⟨N + 1,R + 2,LP,upN sy 0 false,⟨k,b⟩ :: F,addI U x,by omega,by omega,h1,h2,?_,.inr ⟨rfl,rfl,HFO.out,rfl,rfl⟩,h3⟩
     have:=HSL3.out
     rw [HLE.out] at this
     exact this
    clear g1 g2 hcp hpm hpl HM9 HD9 HC8 HX1' HX2' hs1
    go_upto_region 15 with fail
    have hS0:wt.drew.cell? ⟨B.sb,3 + i,none⟩ = some (.map (some (B.pn i))) ∧ wt.drew.rangeAt w1.heap.size 0 ci:=⟨HPI.out wt OX _ _ _ _ HMT.out,HX2.out.range⟩
    refine wrL 7 (fun x => x.cell? ⟨B.sb,3 + i,none⟩ = some (.map (some (B.pn i))) ∧ x.rangeAt w1.heap.size 0 ci) ?_
    refine WL.tk 0 hS0 ?_
    refine WL.tk 1 hS0 ?_
    refine WL.tk 2 hS0 ?_
    refine WL.tk 3 hS0 ?_
    refine WL.tk 4 hS0 ?_
    refine WL.tk 5 hS0 ?_
    refine WL.tk 6 hS0 ?_ (hy:=(fun w' hSw => aK 42 _ (hSw.2) underlying42 rfl h32 _ rfl rfl))
    refine WL.la 7 ?_
    clear hS0
    obtain ⟨wd,hwd⟩:∃ z,wt.drew = z:=⟨_,rfl⟩
    have hbd:Below wt.heap.size wt wd:=by rw [← hwd];exact (Below.refl _ _).drew
    simp only [hwd]
    replace HDT:=ah (HDT.out.below hbd)
    replace HMT:=ah (HMT.out.below hbd)
    replace HX1:=ah (HX1.out.below hbd)
    replace HX2:=ah (HX2.out.below hbd)
    replace HCT:=ah (HCT.out.trans (Chg.of_below hbd))
    clear hwd hbd
    refine bR rfl _ _ _ 70 4 rfl underlying70 (B.pn i) (c + 1) (setF (P i)) rfl (HMT.out.pin i hi).1 x HXL.out true (by rw [HCI.out];rfl) rfl (by have:=HCC.out;unfold maxLen;omega) ?_
    intro w9 g1 g2
    simp only [Act.put,nz]
    have hcp:=dK g2
    have hpm:B.pn i ∈ B.bl:=List.mem_append.2 (.inr (xC hi):B.pn i ∈ [B.sb,B.ob,B.hb,B.mp] ∨ _)
    have hpl:=HOL.out _ (HM.out.own _ hpm)
    have hs1:=HB1.out.size
    have HM9:=ah ((HMT.out.Gm hi (c':=c + 3) (by omega) hcp (((HMT.out.pin i hi).add HXL.out g1).mono (by omega))).res HM.out)
    have HD9:=ah (HDT.out.chg hcp (fun j hj => by rw [hj];exact HOX.out.1 _ (HM.out.own _ hpm)))
    replace HX1:=ah (HX1.out.chg hcp (by omega))
    replace HX2:=ah (HX2.out.chg hcp (by omega))
    have HC9:=ah (HCT.out.trans (hcp.mono fun j _ hj => .inr (by rw [hj];exact hpm)))
    have e2:=HX2.out.range
    obtain ⟨WE,hWE⟩:∃ z,w9.setCells (w.heap.size + 1) 0 ci = z:=⟨_,rfl⟩
    have hcw:Chg (fun j => j = w.heap.size + 1) w9 WE:=by rw [← hWE];exact eD _ _ _
    have hre:WE.rangeAt (w.heap.size + 1) 0 ci:=by rw [← hWE];exact (HX1.out.set (us:=ci) (by rw [HCZ.out,HEL.out])).range
    have hth:w9.there (w.heap.size + 1) 0 32:=by have:=HX1.out.there;rwa [HCZ.out] at this
    have hno:¬ O (w.heap.size + 1):=fun h => by have:=HOL.out _ h;omega
    have HFIN:=ah (HFI.out WE ((HD9.out.chg hcw (fun j hj => by rw [hj];exact HOX.out.2.1)).sub HOX.out.1 HGL.out) (HM9.out.chg hcw (fun j hj => by rw [hj];exact hno)) (HC9.out.trans (hcw.mono fun j _ hj => .inl (by rw [hj];exact hno))))
    have HWE:=ah hWE
    clear g1 g2 hcp hcw hWE hno HFI
    go_wp2_with (first | (refine wpList_load_mid rfl 42 _ rfl w1.heap.size 0 rfl ci _ e2 underlying42 rfl h32 ?_) | (refine aj rfl 42 _ _ rfl (w.heap.size + 1) 0 ci rfl rfl 32 HEL.out hth HI32.out HEO.out ?_;rw [HWE.out]))
    refine aL rfl (w.heap.size + 1) 0 rfl ci _ hre underlying42 rfl h32 rfl _ rfl ?_
    exact HANS.out WE HFIN.out
end
section
variable {O:Nat → Prop} {N R M:Nat} {w:World} {g:Nat} {q:Int} {L:LK} {sy:Nat → Bool}
theorem DF (hv:DV O N R M w g q L sy) (hN:N + R ≤ 1000000) (hp:∀ y,L 1 y = none) (sb:Nat) (cs:List Value) (hx:BoxL w sb 74 cs) (h1:cs[1]? = some (.pointer (some ⟨g,0,none⟩))) (h2:2 < cs.length) :
  Calls prog 22 #[.pointer (some ⟨sb,0,none⟩)] w fun e w' => e = .returned (.tuple #[]) ∧ BoxL w' sb 74 (cs.set 2 (.pointer (some ⟨w.heap.size + 1,0,none⟩))) ∧ fZ w' (w.heap.size + 1) w.heap.size ∧ Chg (fun j => j = sb) w w':=by
 have HL:=ah (EF hv hN hp)
 have HX:=ah hx
 have H2:=ah h2
 have c1:w.cell? ⟨sb,1,none⟩ = some (.pointer (some ⟨g,0,none⟩)):=by have:=hx.range 1 _ h1;rwa [Nat.zero_add] at this
 clear hv hp h1 h2 hx
 go_enter func22,ntmps22
 go_wp2_with fail
 refine HL.out.mono ?_
 rintro e w1 ⟨rfl,hs1,hb1⟩
 have HX1:=ah (HX.out.below hb1)
 have hsl:=HX.out.lt
 have h2':=H2.out
 obtain ⟨c2v,hc2⟩:∃ v,cs[2]? = some v:=⟨_,List.getElem?_eq_getElem h2'⟩
 have c2:w1.cell? ⟨sb,2,none⟩ = some c2v:=by have:=HX1.out.range 2 _ hc2;rwa [Nat.zero_add] at this
 have f2:w1.frozen? ⟨sb,2,none⟩ = false:=by have:=(HX1.out.there 2 (by omega)).2;rwa [Nat.zero_add] at this
 have HFIN:Hid (BoxL (w1.setCell ⟨sb,2,none⟩ (.pointer (some ⟨w.heap.size + 1,0,none⟩))) sb 74 (cs.set 2 (.pointer (some ⟨w.heap.size + 1,0,none⟩))) ∧ fZ (w1.setCell ⟨sb,2,none⟩ (.pointer (some ⟨w.heap.size + 1,0,none⟩))) (w.heap.size + 1) w.heap.size ∧ Chg (fun j => j = sb) w (w1.setCell ⟨sb,2,none⟩ (.pointer (some ⟨w.heap.size + 1,0,none⟩)))):=ah
  ⟨HX1.out.put 2 _,hs1.chg (bM (b:=sb)) (by omega) (by omega),(Chg.of_below hb1).trans bM⟩
 clear hb1 hs1 hc2 h2'
 go_wp2_with fail
 go_end0
 exact ⟨rfl,HFIN.out⟩
end
def pinV (a k j:Nat):Value:=if j < k then .map (some (a + 3 + j)) else .map none
def opC (ob g a k:Nat):List Value:=[.pointer (some ⟨ob,0,none⟩),.pointer (some ⟨g,0,none⟩),.pointer none,pinV a k 0,pinV a k 1,pinV a k 2,pinV a k 3,.map (some a),.map (some (a + 1))]
theorem Gz (ob g a k:Nat) (hk:k < 4):(opC ob g a k).set (3 + k) (.map (some (a + 3 + k))) = opC ob g a (k + 1):=by
 obtain rfl | rfl | rfl | rfl:k = 0 ∨ k = 1 ∨ k = 2 ∨ k = 3:=by omega
 all_goals simp [opC,pinV]
theorem Jy (ob g a k:Nat) (hk:k < 4):(opC ob g a k)[3 + k]? = some (.map none):=by
 obtain rfl | rfl | rfl | rfl:k = 0 ∨ k = 1 ∨ k = 2 ∨ k = 3:=by omega
 all_goals simp [opC,pinV]
structure OpenSt (W:World) (ob g a k:Nat) (w:World):Prop where
 box:BoxL w (a + 2) 74 (opC ob g a k)
 size:w.heap.size = a + 3 + k
 pin:∀ j,j < k → SetI w (a + 3 + j) 0 []
 hid:SetI w a 0 []
 put:SetI w (a + 1) 0 []
 bel:Chg (fun j => j = a + 2) W w
theorem DV.onC {O S:Nat → Prop} {N R M:Nat} {w w':World} {g:Nat} {q:Int} {L:LK} {sy:Nat → Bool} (h:DV O N R M w g q L sy) (hc:Chg S w w') (hS:∀ b,S b → O b):DV (Ou O w w') N R M w' g q L sy:=by
 obtain ⟨p,m,h1,h2⟩:=h
 exact ⟨p,m,(h1.chg hc hS).own (fun b ho => ho.elim (fun ho => Nat.lt_of_lt_of_le (h1.olt b ho) hc.size) (·.2)) (fun b ho => ho.imp id fun hn hx => absurd (h1.lt hx) (by omega)) (fun b hb => .inl (h1.glob b hb)),h2⟩
theorem Gc (ob g a b:Nat) (w:World):(Instr.build 74 #[(0,.pointer (some ⟨ob,0,none⟩)),(1,.pointer (some ⟨g,0,none⟩)),(4,.map (some a)),(5,.map (some b))]).run prog w = .ok (.agg #[.pointer (some ⟨ob,0,none⟩),.pointer (some ⟨g,0,none⟩),.pointer none,.map none,.map none,.map none,.map none,.map (some a),.map (some b)]) w:=run_build w 74 _ _ (by kernel_rfl)
section
variable {O:Nat → Prop} {N R M:Nat} {w:World} {g:Nat} {q:Int} {L:LK} {sy:Nat → Bool} {l:List Rf}
def KD (O:Nat → Prop) (N R M:Nat) (g:Nat) (q:Int) (L:LK) (sy:Nat → Bool) (l:List Rf) (w:World) (e:Ending) (w':World):Prop :=
 ∃ O' B,e = .returned (.tuple #[.pointer (some ⟨B.sb,0,none⟩),.int .i64 0]) ∧ B.g = g ∧ DV O' N R M w' g q L sy ∧ SM O' w' B [] l l.length (fun _ => []) [] 0 ∧ Kp O w w' ∧ (∀ b,O b → O' b) ∧ (∀ b,O' b → O b ∨ w.heap.size ≤ b) ∧ ∀ b ∈ B.bl,w.heap.size ≤ b
theorem vG (hB:Calls prog 35 #[.pointer (some ⟨g,0,none⟩)] w (Ai O N R M g q L sy l w)) (hO:∀ b,O b → b < w.heap.size) (hN:N + R ≤ 1000000) (hp:∀ y,L 1 y = none) :
  Calls prog 8 #[.pointer (some ⟨g,0,none⟩)] w (KD O N R M g q L sy l w):=by
 have hmm:=@run_makeMap prog
 have HBN:=ah hB
 have HOL:=ah hO
 have HP:=ah hp
 have HSB:=ah (Gc)
 clear hB hO hp
 go_enter func8,ntmps8
 go_wp2_with fail
 refine HBN.out.mono ?_
 rintro e w3 ⟨O1,ob,v,rfl,hd3,ho3,hk3,hs1,hs2,hso⟩
 have HD3:=ah hd3
 have HO3:=ah ho3
 have HK3:=ah hk3
 have HS3:=ah (And.intro hs1 hs2)
 have HSO:=ah hso
 have hbu:=HSB.out ob g w3.heap.size (w3.heap.size + 1)
 clear hd3 ho3 hk3 hs1 hs2 hso HBN
 go_upto_region 5 with fail
 obtain ⟨W,hW⟩:∃ z,((w3.alloc (.map #[] 0)).alloc (.map #[] 0)).alloc (.cells #[.pointer (some ⟨ob,0,none⟩),.pointer (some ⟨g,0,none⟩),.pointer none,.map none,.map none,.map none,.map none,.map (some w3.heap.size),.map (some (w3.heap.size + 1))] 74) = z:=⟨_,rfl⟩
 have hbW:Below w3.heap.size w3 W:=by rw [← hW];exact (bal.alloc (by simp) _).alloc (by simp;omega) _
 have hs1':(w3.alloc (.map #[] 0)).heap.size = w3.heap.size + 1:=by simp
 have hs2':((w3.alloc (.map #[] 0)).alloc (.map #[] 0)).heap.size = w3.heap.size + 1 + 1:=by simp
 have HST:Hid (OpenSt W ob g w3.heap.size 0 W):=ah ⟨by
   rw [← hW,show w3.heap.size + 2 = w3.heap.size + 1 + 1 from rfl,← hs2']
   exact BoxL.new _ 74 (opC ob g w3.heap.size 0),by rw [← hW];simp,fun j hj => absurd hj (by omega),by
   rw [← hW];exact ((iy w3).on bal).on bal,by
   rw [← hW]
   have:=(iy (w3.alloc (.map #[] 0))).on (bal (x:=.cells #[.pointer (some ⟨ob,0,none⟩),.pointer (some ⟨g,0,none⟩),.pointer none,.map none,.map none,.map none,.map none,.map (some w3.heap.size),.map (some (w3.heap.size + 1))] 74))
   rw [hs1'] at this
   exact this,Chg.refl _ _⟩
 have HBW:=ah hbW
 rw [hW]
 obtain ⟨a,ha⟩:∃ z,w3.heap.size = z:=⟨_,rfl⟩
 have HA:=ah ha
 rw [ha] at HST
 simp only [ha]
 clear hW hbW hs1' hs2' hbu ha
 go_wp2_with fail
 go_loopw [22] (fun s22 wr => ∃ k:Nat,k ≤ 4 ∧ s22 = .int .i64 k ∧ Hid (OpenSt W ob g a k wr)) (fun s22 _ => (4 - intOf s22).toNat)
 case atStart => exact ⟨0,by omega,rfl,HST⟩
 obtain ⟨wo,rfl⟩:∃ wo:World,wo = wr:=⟨_,rfl⟩
 obtain ⟨k,hk,rfl,HS⟩:=hrel
 by_cases hlt:k < 4
 ·have k0:(0:Int) ≤ k:=by omega
  have k1:(k:Int) < 4:=by omega
  have d1:decide ((k:Int) < 4) = true:=decide_eq_true k1
  have hb1:Below wo.heap.size wo (wo.alloc (.map #[] 0)):=bal
  have HX1:=ah (HS.out.box.below hb1)
  have cA:(wo.alloc (.map #[] 0)).cell? ⟨a + 2,3 + k,none⟩ = some (.map none):=by have:=HX1.out.range (3 + k) _ (Jy ob g a k hlt);rwa [Nat.zero_add] at this
  have fA:(wo.alloc (.map #[] 0)).frozen? ⟨a + 2,3 + k,none⟩ = false:=by have:=(HX1.out.there (3 + k) (by simp [opC];omega)).2;rwa [Nat.zero_add] at this
  have hsz:=HS.out.size
  have HN:Hid (OpenSt W ob g a (k + 1) ((wo.alloc (.map #[] 0)).setCell ⟨a + 2,3 + k,none⟩ (.map (some (a + 3 + k))))):=ah ⟨by
    rw [← Gz ob g a k hlt];exact HX1.out.put (3 + k) _,by simp [World.setCell];omega,fun j hj => by
    by_cases e:j = k
    ·subst e
     have:=(iy wo).chg (bM (b:=a + 2) (i:=3 + j) (v:=.map (some (a + 3 + j)))) (by omega)
     rw [hsz] at this
     exact this
    exact ((HS.out.pin j (by omega)).on hb1).chg (bM (b:=a + 2)) (by omega),(HS.out.hid.on hb1).chg (bM (b:=a + 2)) (by omega),(HS.out.put.on hb1).chg (bM (b:=a + 2)) (by omega),(HS.out.bel.trans (Chg.of_below hb1)).trans (bM (b:=a + 2))⟩
  have HSZ:=ah hsz
  clear hb1 HX1
  rw [← hsz] at HN
  clear hsz
  go_wp2_with fail
  go_roundw
  case rel => exact ⟨k + 1,by omega,by go_num,HN⟩
  case measure => simp [intOf];omega
 obtain rfl:k = 4:=by omega
 have d1:decide ((4:Int) < 4) = false:=rfl
 have h3:=HA.out
 have hol1:=HD3.out.olt
 have hd1:DV (Ou O1 w3 W) N R M W g q L sy:=HD3.out.on HBW.out
 have hWs:=HST.out.size
 have hd2:DV (Ou (Ou O1 w3 W) W wo) N R M wo g q L sy:=hd1.onC HS.out.bel (fun b hb => .inr ⟨by omega,by omega⟩)
 have HLD:=ah (DF hd2 hN HP.out (a + 2) (opC ob g a 4) HS.out.box rfl (by simp [opC]))
 have HD2:=ah hd2
 clear hd1 hd2 h3 hol1 hWs
 go_wp2_with fail
 refine HLD.out.mono ?_
 rintro e w5 ⟨rfl,hx5,hs5,hc5⟩
 have HFIN:Hid (KD O N R M g q L sy l w (.returned (.tuple #[.pointer (some ⟨a + 2,0,none⟩),.int .i64 0])) w5):=ah (by
  have h3:=HA.out
  have hol1:=HD3.out.olt
  have hWs:=HST.out.size
  have hos:=HS.out.size
  have hs3:=HK3.out.size
  have hmp:=hs5.2.lt
  have hhb:=hs5.1.lt
  have hob:=hol1 ob HO3.out.ob
  have hd5:DV (Ou (Ou (Ou O1 w3 W) W wo) wo w5) N R M w5 g q L sy:=HD2.out.onC hc5 (fun b hb => .inl (.inr ⟨by omega,by omega⟩))
  have hall:Chg (fun j => j = a + 2) w3 w5:=((Chg.of_below HBW.out).trans HS.out.bel).trans hc5
  refine ⟨Ou (Ou (Ou O1 w3 W) W wo) wo w5,⟨a + 2,ob,g,wo.heap.size + 1,wo.heap.size,fun j => a + 3 + j,a,a + 1,.slice none 0 0,v⟩,rfl,rfl,hd5,⟨?_,?_,hs5,fun j hj => (HS.out.pin j hj).chg hc5 (by show ¬ a + 3 + j = a + 2;omega),HS.out.hid.chg hc5 (by show ¬ a = a + 2;omega),HS.out.put.chg hc5 (by show ¬ a + 1 = a + 2;omega),fun b hb => ?_,?_,fun hn => absurd rfl hn,fun hn j hj => ?_⟩,HK3.out.trans (hall.mono fun j hl hj hO => ?_),fun b hb => .inl (.inl (.inl (HS3.out.1 b hb))),fun b hb => ?_,fun b hb => ?_⟩
  ·have:(opC ob g a 4).set 2 (.pointer (some ⟨wo.heap.size + 1,0,none⟩)) = Sb.cells ⟨a + 2,ob,g,wo.heap.size + 1,wo.heap.size,fun j => a + 3 + j,a,a + 1,.slice none 0 0,v⟩:=by simp [opC,pinV,Sb.cells]
   rw [← this]
   exact hx5
  ·exact (HO3.out.chg hall (fun j hj hO => by have:=hol1 j hO;omega)).sub (fun b hb => .inl (.inl (.inl hb)))
  ·simp [Sb.bl] at hb
   rcases hb with rfl | rfl | rfl | rfl | rfl | rfl | rfl | rfl | rfl | rfl
   ·exact .inl (.inl (.inr ⟨by omega,by omega⟩))
   ·exact .inl (.inl (.inl HO3.out.ob))
   ·exact .inr ⟨by omega,hhb⟩
   ·exact .inr ⟨by omega,hmp⟩
   ·exact .inl (.inr ⟨by omega,by omega⟩)
   ·exact .inl (.inr ⟨by omega,by omega⟩)
   ·exact .inl (.inr ⟨by omega,by omega⟩)
   ·exact .inl (.inr ⟨by omega,by omega⟩)
   ·exact .inl (.inl (.inr ⟨by omega,by omega⟩))
   exact .inl (.inl (.inr ⟨by omega,by omega⟩))
  ·simp [Sb.bl]
   omega
  ·obtain ⟨h1,h2⟩:=HO3.out.ol hn j hj
   have:=hol1 j h1
   simp [Sb.bl]
   omega
  ·have:=HOL.out j hO
   omega
  ·rcases hb with ((hb | hb) | hb) | hb
   ·exact HS3.out.2 b hb
   ·exact .inr (by omega)
   ·exact .inr (by omega)
   exact .inr (by omega)
  have hso:=HSO.out
  simp [Sb.bl] at hb
  rcases hb with rfl | rfl | rfl | rfl | rfl | rfl | rfl | rfl | rfl | rfl <;> omega)
 clear hx5 hs5 hc5
 go_wp2_with fail
 go_ret2
 exact HFIN.out
end
theorem J4 {α:Type} {enc:α → Value} {w:World} {b n:Nat} {f:Idl → Option α} (h:MapG enc w b n f) {t e:TypeId} (ht:prog.underlying t = some (.map 42 e)) (ty:TypeId):∃ w',(Builtin.clear_ #[t] ty #[.map (some b)]).run prog w = .ok (.tuple #[]) w' ∧ SetI w' b 0 [] ∧ w.grownBy w' (some b):=by
 obtain ⟨D,⟨es,clock,hb,F,hs,hD⟩,_⟩:=h
 refine ⟨{ w with heap:=w.heap.setIfInBounds b (.map #[] clock) },?_,?_,?_⟩
 ·simp [Builtin.clear_,run_underlying ht,MapKept.run_getObj_map hb,MapKept.run_setObj_map _ hb,Result.andThen]
 ·have hg:MapG encB { w with heap:=w.heap.setIfInBounds b (.map #[] clock) } b 0 fun _ => none:=⟨.map [],⟨#[],clock,(MapKept.heap_set hb).1,⟨by simp,MapKept.stamped_empty clock,by simp⟩,Nat.le_refl _,rfl⟩,rR⟩
  exact ⟨hg.ext fun x _ => by unfold setF;simp,List.nodup_nil,fun _ h => by cases h⟩
 exact ⟨rfl,rfl,rfl,by simp,fun i _ hi => (MapKept.heap_set hb).2 i (fun e => hi (by rw [e]))⟩
theorem qZ {α:Type} {enc:α → Value} {w:World} {ops:Array Oper} {rest:List Oper} {o:Oper} {a:Act} {Q:Exit → Act → World → Prop} (hg:o.guard = none) (m:Operand) (t e:TypeId) (hop:o.op = Op.call { callee:=Callee.builtin Builtin.clear,args:=#[m],argTypes:=#[t] })
  (ht:prog.underlying t = some (.map 42 e)) (b n:Nat) (f:Idl → Option α) (hm:a.eval m = .map (some b)) (hown:MapG enc w b n f)
  (hK:∀ w',SetI w' b 0 [] → w.grownBy w' (some b) → wpList prog ops Q rest (a.put o.dst (.tuple #[])) w'):wpList prog ops Q (o :: rest) a w:=by
 refine wpList_plain hg fun K' hK' => ?_
 obtain ⟨w',hrun,r1,r2⟩:=J4 hown ht o.type
 unfold Oper.wp
 simp [execOp,hop,resolve,invoke,builtin,hm,hrun,Result.andThen]
 exact hK' _ _ (hK w' r1 r2)
section
variable {O:Nat → Prop} {N R M:Nat} {w:World} {q:Int} {L:LK} {sy:Nat → Bool} {B:Sb} {t l:List Rf} {n:Nat} {P:Nat → List Idl} {U:List Idl} {c:Nat} {F:List Ob}
def StA (O:Nat → Prop) (N R M:Nat) (q:Int) (L:LK) (sy:Nat → Bool) (B:Sb) (t l:List Rf) (n:Nat) (P:Nat → List Idl) (U:List Idl) (c:Nat) (F:List Ob) (w w':World):Prop :=
 ∃ L',DV O N R M w' B.g q L' (if U = [] then sy else upN sy 0 true) ∧ SM O w' B t l n P [] c ∧ SL L' (if U = [] then sy else upN sy 0 true) t l F [] c ∧ (∀ k x,k ≠ 0 → L' k x = L k x) ∧ Chg (fun j => ¬ O j ∨ j ∈ B.bl) w w'
theorem kD (hv:DV O N R M w B.g q L sy) (hm:SM O w B t l n P U c) (hl:SL L sy t l F U c) (hN:N ≤ 1000000) (hU:U.length ≤ 100000) :
  Calls prog 61 #[.pointer (some ⟨B.sb,0,none⟩)] w fun e w' => e = .returned (.int .i64 0) ∧ StA O N R M q L sy B t l n P U c F w w':=by
 have HRI:=ah (fun V (hb:Below w.heap.size w V) => kE B.pt c U V (hm.below hb).put hU)
 have HSX:Hid (∀ V,Below w.heap.size w V → V.cell? ⟨B.sb,1,none⟩ = some (.pointer (some ⟨B.g,0,none⟩)) ∧ V.cell? ⟨B.sb,8,none⟩ = some (.map (some B.pt))):=ah fun V hb => ⟨(hm.below hb).cell rfl,(hm.below hb).cell rfl⟩
 have HV:=ah hv
 have HM:=ah hm
 have HL:=ah hl
 have HU32:=ah hm.put.2.2
 have HNN:=ah hN
 clear hv hm hl hN hU
 go_enter func61,ntmps61
 go_upto_region 1 with fail
 have hS0:=HSX.out w.drew (Below.refl _ _).drew
 refine wrL 10 (fun x => x.cell? ⟨B.sb,1,none⟩ = some (.pointer (some ⟨B.g,0,none⟩)) ∧ x.cell? ⟨B.sb,8,none⟩ = some (.map (some B.pt))) ?_
 refine WL.tk 0 hS0 ?_
 refine WL.tk 1 hS0 ?_
 refine WL.tk 2 hS0 ?_
 refine WL.tk 3 hS0 ?_
 refine WL.tk 4 hS0 ?_
 refine WL.tk 5 hS0 ?_
 refine WL.tk 6 hS0 ?_
 refine WL.tk 7 hS0 ?_
 refine WL.on 8 ?_
 go_wp2_with fail
 refine (HRI.out w.drew (Below.refl _ _).drew).mono ?_
 rintro e w1 ⟨v,m,rfl,hr,hmem,hml,hfr,hb1⟩
 have HB1:=ah (bA hb1)
 have hS1:=HSX.out w1 HB1.out
 obtain ⟨OX,hOX⟩:∃ OX,Ou O w w1 = OX:=⟨_,rfl⟩
 have hdX:DV OX N R M w1 B.g q L sy:=by rw [← hOX];exact HV.out.on HB1.out
 have HOX:Hid (∀ j,O j → OX j):=ah (fun j hj => by rw [← hOX];exact .inl hj)
 have HM1:Hid (SM OX w1 B t l n P U c):=ah ((HM.out.below HB1.out).sub HOX.out)
 have HLS:=ah (zy hdX HNN.out v m hr (fun hne k hk => by
  rw [← hOX]
  obtain ⟨ao,cap,e,_,h2⟩:=hr
  obtain ⟨b,off,e2,hb,_⟩:=h2 (by simpa using hne)
  have hk2:=hfr k hk
  rw [e,e2] at hk
  cases hk
  exact .inr ⟨hk2,hb⟩) (fun x hx => HU32.out x ((hmem x).1 hx)) (fun x hx => by
  obtain ⟨o,ho,e⟩:=HL.out.up x ((hmem x).1 hx)
  obtain ⟨_,k,hk⟩:=HL.out.lo.on o ho
  rw [e] at hk
  exact ⟨_,hk⟩))
 have HMEM:=ah hmem
 have HME:Hid (m = [] ↔ U = []):=ah ⟨fun e => List.eq_nil_of_length_eq_zero (by rw [← hml,e];rfl),fun e => List.eq_nil_of_length_eq_zero (by rw [hml,e];rfl)⟩
 obtain ⟨va,vc,rfl,_,_⟩:=hr.open
 unfold KG at HLS
 clear hb1 hr hmem hml hfr hdX hOX hS0
 go_wp2_with fail
 refine ⟨hS1,?_⟩
 refine WL.on 9 ?_
 go_wp2_with fail
 refine HLS.out.mono ?_
 rintro e w2 ⟨rfl,L',hd2,hs2,hst2,hk2⟩
 have HM2:=ah (HM1.out.kp hk2)
 have HD2:=ah hd2
 have HS2:=ah hs2
 have HT2:=ah hst2
 have HK2:=ah hk2
 have hS2:w2.cell? ⟨B.sb,1,none⟩ = some (.pointer (some ⟨B.g,0,none⟩)) ∧ w2.cell? ⟨B.sb,8,none⟩ = some (.map (some B.pt)):=⟨HM2.out.cell rfl,HM2.out.cell rfl⟩
 clear hd2 hs2 hst2 hk2 hS1 HLS
 go_wp2_with fail
 refine ⟨hS2,?_⟩
 refine WL.la 10 ?_
 have c8:=hS2.2
 clear hS2
 go_wp2_with (refine qZ rfl _ 70 4 rfl underlying70 B.pt c (setF U) rfl HM2.out.put.1 ?_;intro w3 g1 g2)
 have hcp:=dK g2
 have hpm:B.pt ∈ B.bl:=by simp [Sb.bl]
 have HFIN:Hid (StA O N R M q L sy B t l n P U c F w w3):=ah (by
  have hpo:=HM.out.own _ hpm
  have hif:(if m = [] then sy else upN sy 0 true) = (if U = [] then sy else upN sy 0 true):=by
   by_cases e:U = []
   ·rw [if_pos e,if_pos (HME.out.2 e)]
   rw [if_neg e,if_neg (fun h => e (HME.out.1 h))]
  refine ⟨L',?_,((HM2.out.res HM.out).Gl (Nat.le_refl c) hcp (g1.mono (by omega))),⟨SmL.lof HL.out.lo HS2.out,HL.out.fc,HL.out.nd,fun y => by rw [HS2.out.oth 1 y (by decide)];exact HL.out.pk y,?_,HL.out.lc,by rw [HS2.out.oth 2 _ (by decide)];exact HL.out.tm,HL.out.ok,fun o ho _ => ?_,fun x hx => (by cases hx),fun _ => ?_⟩,HS2.out.oth,((Chg.of_below HB1.out).trans (HK2.out.mono fun j _ hj => .inl fun h => hj (HOX.out j h))).trans (hcp.mono fun j _ hj => .inr (by rw [hj];exact hpm))⟩
  ·rw [← hif]
   exact (HD2.out.chg hcp (fun j hj => by rw [hj];exact HOX.out _ hpo)).sub HOX.out HV.out.glob
  ·obtain ⟨k,hk⟩:=HL.out.bk
   exact ⟨k,by rw [HS2.out.oth 2 _ (by decide)];exact hk⟩
  ·by_cases hu:idO o ∈ U
   ·exact HT2.out _ ((HMEM.out _).2 hu)
   exact HS2.out.stf (HL.out.uf o ho hu)
  by_cases e:U = []
  ·rw [if_pos e];exact HL.out.s0 e
  rw [if_neg e];exact aJ ..)
 clear g1 g2 hcp
 go_wp2_with fail
 go_ret
 exact ⟨rfl,HFIN.out⟩
end
theorem SM.yR {O:Nat → Prop} {w w':World} {B:Sb} {t l t' l':List Rf} {n n':Nat} {P:Nat → List Idl} {U:List Idl} {c:Nat} (h:SM O w B t l n P U c) (hc:Chg (fun j => ¬ O j ∨ j = B.ob) w w') {vt vl:Value} (hb:OpO O w' B.ob B.g vt vl t' l' n')
  (h1:t' ≠ [] → ∀ k,vt.ownBlock = some k → k ∉ B.bl) (h2:l' ≠ [] → ∀ k,vl.ownBlock = some k → k ∉ B.bl):SM O w' { B with vt:=vt,vl:=vl } t' l' n' P U c:=by
 have nd:=h.nd
 have hne:∀ j,j ∈ [B.sb,B.hb,B.mp,B.pn 0,B.pn 1,B.pn 2,B.pn 3,B.hd,B.pt] → ¬ (¬ O j ∨ j = B.ob):=fun j hj hn => by
  have hjb:j ∈ B.bl:=by
   simp only [List.mem_cons,List.not_mem_nil,or_false] at hj
   simp only [Sb.bl,List.mem_cons,List.not_mem_nil,or_false]
   rcases hj with h | h | h | h | h | h | h | h | h <;> simp [h]
  rcases hn with hn | hn
  ·exact hn (h.own j hjb)
  subst hn
  have hp:(B.ob :: [B.sb,B.hb,B.mp,B.pn 0,B.pn 1,B.pn 2,B.pn 3,B.hd,B.pt]).Nodup:=(List.Perm.swap B.ob B.sb [B.hb,B.mp,B.pn 0,B.pn 1,B.pn 2,B.pn 3,B.hd,B.pt]).nodup_iff.1 nd
  exact (List.nodup_cons.1 hp).1 hj
 exact ⟨h.box.chg hc (hne _ (by simp)),hb,h.shf.chg hc (hne _ (by simp)) (hne _ (by simp)),fun k hk => (h.pin k hk).chg hc (hne _ (by
  obtain rfl | rfl | rfl | rfl:k = 0 ∨ k = 1 ∨ k = 2 ∨ k = 3:=by omega
  all_goals simp)),h.hid.chg hc (hne _ (by simp)),h.put.chg hc (hne _ (by simp)),h.own,h.nd,h1,h2⟩
section
variable {O:Nat → Prop} {N R M:Nat} {w:World} {q:Int} {L:LK} {sy:Nat → Bool} {B:Sb} {t l:List Rf} {n:Nat} {P:Nat → List Idl} {U:List Idl} {c:Nat} {F:List Ob}
def SyA (O:Nat → Prop) (N R M:Nat) (q:Int) (L:LK) (sy:Nat → Bool) (B:Sb) (t l:List Rf) (P:Nat → List Idl) (U:List Idl) (c:Nat) (F:List Ob) (w w':World):Prop :=
 ∃ L',DV O N R M w' B.g q L' (if U = [] then sy else upN sy 0 true) ∧ SM O w' B t l l.length P [] c ∧ SL L' (if U = [] then sy else upN sy 0 true) t l F [] c ∧ StF L' 2 bkN ∧ (∀ k x,k ≠ 0 → ¬ (k = 2 ∧ x = bkN) → L' k x = L k x) ∧ Chg (fun j => ¬ O j ∨ j ∈ B.bl) w w'
theorem DC (hv:DV O N R M w B.g q L sy) (hm:SM O w B t l n P U c) (hl:SL L sy t l F U c) (hN:N ≤ 1000000) (hU:U.length ≤ 100000) :
  Calls prog 28 #[.pointer (some ⟨B.sb,0,none⟩)] w fun e w' => e = .returned (.int .i64 0) ∧ SyA O N R M q L sy B t l P U c F w w':=by
 have HS:=ah (kD hv hm hl hN hU)
 clear hv hm hl hN hU
 go_enter func28,ntmps28
 go_wp2_with fail
 refine HS.out.mono ?_
 rintro e w1 ⟨rfl,L',hd1,hm1,hl1,hk1,hc1⟩
 obtain ⟨k,hk⟩:=hl1.bk
 have HB:=ah (pE hd1 hm1.bk hk)
 have HM1:=ah hm1
 have HL1:=ah hl1
 have HK1:=ah hk1
 have HC1:=ah hc1
 have c0:w1.cell? ⟨B.sb,0,none⟩ = some (.pointer (some ⟨B.ob,0,none⟩)):=hm1.cell rfl
 clear hd1 hm1 hl1 hk1 hc1 hk HS
 go_wp2_with fail
 refine HB.out.mono ?_
 rintro e w2 ⟨rfl,hd2,ho2,hc2⟩
 have HFIN:Hid (SyA O N R M q L sy B t l P U c F w w2):=ah (by
  refine ⟨_,hd2,HM1.out.yR hc2 ho2 HM1.out.vt HM1.out.vl,⟨?_,HL1.out.fc,HL1.out.nd,fun y => by rw [LK.aI (fun e => absurd e.1 (by decide))];exact HL1.out.pk y,⟨_,LK.bF ..⟩,HL1.out.lc,by rw [LK.aI (fun e => Ar bkN e.2)];exact HL1.out.tm,HL1.out.ok,fun o ho hu => ?_,HL1.out.up,HL1.out.s0⟩,StF.put _ _ _ _,fun j x hj hx => by rw [LK.aI hx];exact HK1.out j x hj,HC1.out.trans (hc2.mono fun j _ hj => hj.imp id fun e => by rw [e];simp [Sb.bl])⟩
  ·exact ⟨fun o ho => by rw [LK.aI (fun e => absurd e.1 (by decide))];exact HL1.out.lo.on o ho,fun nm d hd => HL1.out.lo.all nm d (by rw [LK.aI (fun e => absurd e.1 (by decide))] at hd;exact hd)⟩
  intro d hd
  rw [LK.aI (fun e => absurd e.1 (by decide))] at hd
  exact HL1.out.uf o ho hu d hd)
 clear hd2 ho2 hc2
 go_wp2_with fail
 go_ret
 exact ⟨rfl,HFIN.out⟩
theorem rH (hm:SM O w B t l n P U c) (htl:t.length ≤ 1000) (hll:l.length ≤ 1000) (x:ByteArray) (hx:x.size ≤ maxLen):Calls prog 26 #[.pointer (some ⟨B.sb,0,none⟩),.string x] w (kX (valB t l x) w):=by
 obtain ⟨zi,hzi,hzl⟩:=tF
 have hbW:Below w.heap.size w (w.alloc (.cells zi 42)):=bal
 have HX:Hid (BoxL (w.alloc (.cells zi 42)) w.heap.size 42 zi.toList):=ah (by have:=BoxL.new w 42 zi.toList;simpa using this)
 have HBW:=ah hbW
 have HVA:=ah (uw _ B.ob _ B.vt B.vl t l n x (hm.below hbW).bk.op htl hll hx)
 have HV32:=ah (nk (t:=t) (l:=l) (x:=x) (fun r hr => (hm.bk.op.row.ok r hr).2))
 have c0:(w.alloc (.cells zi 42)).cell? ⟨B.sb,0,none⟩ = some (.pointer (some ⟨B.ob,0,none⟩)):=(hm.below hbW).cell rfl
 unfold kX at HVA
 obtain ⟨ci,hci⟩:∃ c,idC (valB t l x) = c:=⟨_,rfl⟩
 rw [hci] at HVA
 have HCI:=ah hci
 have HCL:Hid (ci.length = 32):=ah (by rw [← hci,au,HV32.out])
 have HCO:Hid (∀ v ∈ ci,v.oneCell' = true):=ah (by rw [← hci];exact aM _)
 have h32:(prog.info? 42).map (·.size) = some ci.length:=by rw [HCL.out];exact bL
 clear hm htl hll hx hci hbW
 go_enter func26,ntmps26
 go_wp2_with fail
 refine HVA.out.mono ?_
 rintro e w1 ⟨rfl,hb1⟩
 have HB1:=bth HBW hb1
 replace HX:=ah (HX.out.below hb1)
 obtain ⟨WE,hWE⟩:∃ z,w1.setCells w.heap.size 0 ci = z:=⟨_,rfl⟩
 have hth:w1.there w.heap.size 0 32:=by have:=HX.out.there;rwa [show zi.toList.length = 32 from by simpa using hzl] at this
 have hre:WE.rangeAt w.heap.size 0 ci:=by rw [← hWE];exact (HX.out.set (us:=ci) (by rw [HCL.out];simpa using hzl.symm)).range
 have HFIN:Hid (Below w.heap.size w WE):=ah (by rw [← hWE];exact below_setCells _ (Nat.le_refl _) _ _ _ HB1.out)
 have HWE:=ah hWE
 clear hWE hb1
 go_wp2_with (refine aj rfl 42 _ _ rfl w.heap.size 0 ci rfl rfl 32 HCL.out hth bL HCO.out ?_;rw [HWE.out])
 refine dI rfl w.heap.size 0 rfl ci _ hre underlying42 rfl h32 rfl ?_
 exact ⟨by rw [HCI.out],HFIN.out⟩
theorem yM (hm:SM O w B t l n P U c) (i:Nat) (hi:i < 4) (hp:(P i).length ≤ 100000):Calls prog 14 #[.pointer (some ⟨B.sb,0,none⟩),.int .i64 (i:Int)] w (l8 (P i) w):=by
 have HH:=ah (fun W => yP (.pointer (some ⟨B.sb,0,none⟩)) (i:Int) W)
 have hh:hasS (i:Int) = true:=decide_eq_true ⟨by omega,by omega⟩
 rw [hh] at HH
 have HR:=ah (kE (B.pn i) c (P i) w (hm.pin i hi) hp)
 have ci:w.cell? ⟨B.sb,3 + i,none⟩ = some (.map (some (B.pn i))):=hm.cell (by
  obtain rfl | rfl | rfl | rfl:i = 0 ∨ i = 1 ∨ i = 2 ∨ i = 3:=by omega
  all_goals rfl)
 have k0:(0:Int) ≤ (i:Int):=by omega
 have k1:(i:Int) < 4:=by omega
 clear hm hp hh
 go_enter func14,ntmps14
 go_wp2_with fail
 refine (HH.out w).mono ?_
 rintro e w1 ⟨rfl,rfl⟩
 go_wp2_with fail
 refine HR.out.mono ?_
 rintro e w2 ⟨v,m,rfl,h2⟩
 have H2:=ah h2
 clear h2
 go_wp2_with fail
 go_ret
 exact ⟨_,m,rfl,H2.out⟩
end
structure WKs (Bs:Nat) (w0 w:World) (wb sb vb mb:Nat) (qv lv:Value) (Q:List (Idl × Int)) (n:Nat) (ms:List Idl) (lk:List (Idl × Int)):Prop where
 box:BoxL w wb 257 [.iface 25 (.pointer (some ⟨sb,0,none⟩)),qv,.map (some vb),.map (some mb),lv]
 q:OwnQ w Bs 33 qv Q.length (chV Q)
 l:OwnQ w Bs 33 lv lk.length (chV lk)
 vis:MapW w vb n
 mks:SetI w mb n ms
 q32:∀ c ∈ Q,c.1.length = 32 ∧ 0 ≤ c.2 ∧ c.2 ≤ 3
 l32:∀ c ∈ lk,c.1.length = 32 ∧ 0 ≤ c.2 ∧ c.2 ≤ 3
 ge:Bs ≤ wb ∧ Bs ≤ vb ∧ Bs ≤ mb
 ne:wb ≠ vb ∧ wb ≠ mb ∧ vb ≠ mb
 qs:∀ k,qv.ownBlock = some k → k ≠ wb ∧ k ≠ vb ∧ k ≠ mb
 ls:∀ k,lv.ownBlock = some k → k ≠ wb ∧ k ≠ vb ∧ k ≠ mb ∧ qv.ownBlock ≠ some k
 bel:Below Bs w0 w
theorem OwnQ.olt {w:World} {B sz n:Nat} {v:Value} {xs:List Value} (h:OwnQ w B sz v n xs):∀ g,v.ownBlock = some g → g < w.heap.size:=fun g e => by
 rcases h.2 with ⟨rfl,_⟩ | ⟨g1,off,cap,rfl,_,hg,_⟩
 ·cases e
 cases e;exact hg
theorem OwnQ.chg {S:Nat → Prop} {w w':World} {B sz n:Nat} {v:Value} {xs:List Value} (h:OwnQ w B sz v n xs) (hc:Chg S w w') (hS:∀ g,v.ownBlock = some g → ¬ S g):OwnQ w' B sz v n xs:=by
 refine ⟨h.1,?_⟩
 rcases h.2 with h2 | ⟨g,off,cap,rfl,hB,hg,hnc,hcm,hth,hr⟩
 ·exact .inl h2
 have hb:=hc.block g hg (hS g rfl)
 exact .inr ⟨g,off,cap,rfl,hB,Nat.lt_of_lt_of_le hg hc.size,hnc,hcm,fun j hj => ⟨by rw [World.cell?_of_block hb];exact (hth j hj).1,by rw [World.frozen?_of_block hb];exact (hth j hj).2⟩,fun j u hu => by rw [World.cell?_of_block hb];exact hr j u hu⟩
theorem MapW.chg {S:Nat → Prop} {w w':World} {b n:Nat} (h:MapW w b n) (hc:Chg S w w') (hb:¬ S b):MapW w' b n:=h.heap (hc.block b h.lt hb)
section
variable {Bs:Nat} {w0 w w':World} {wb sb vb mb:Nat} {qv lv:Value} {Q:List (Idl × Int)} {n:Nat} {ms:List Idl} {lk:List (Idl × Int)}
theorem WKs.below (h:WKs Bs w0 w wb sb vb mb qv lv Q n ms lk) (hb:Below w.heap.size w w'):WKs Bs w0 w' wb sb vb mb qv lv Q n ms lk:=by
 have hs:=h.box.lt
 exact ⟨h.box.below hb,h.q.below hb,h.l.below hb,h.vis.on hb,h.mks.on hb,h.q32,h.l32,h.ge,h.ne,h.qs,h.ls,h.bel.trans (hb.mono (by have:=h.ge.1;omega))⟩
theorem WKs.cell (h:WKs Bs w0 w wb sb vb mb qv lv Q n ms lk) {i:Nat} {v:Value} (hv:([.iface 25 (.pointer (some ⟨sb,0,none⟩)),qv,.map (some vb),.map (some mb),lv]:List Value)[i]? = some v):w.cell? ⟨wb,i,none⟩ = some v:=by
 have:=h.box.range i v hv
 rwa [Nat.zero_add] at this
theorem WKs.setQ (h:WKs Bs w0 w wb sb vb mb qv lv Q n ms lk) {qv':Value} {Q':List (Idl × Int)} (hc:Chg (fun k => qv.ownBlock = some k) w w') (hq:OwnQ w' Bs 33 qv' Q'.length (chV Q')) (h32:∀ c ∈ Q',c.1.length = 32 ∧ 0 ≤ c.2 ∧ c.2 ≤ 3) (hn:∀ k,qv'.ownBlock = some k → qv.ownBlock = some k ∨ w.heap.size ≤ k)
  (hb:Below Bs w w'):WKs Bs w0 (w'.setCell ⟨wb,1,none⟩ qv') wb sb vb mb qv' lv Q' n ms lk:=by
 have hbx:BoxL w' wb 257 [.iface 25 (.pointer (some ⟨sb,0,none⟩)),qv,.map (some vb),.map (some mb),lv]:=h.box.chg hc (fun e => (h.qs _ e).1 rfl)
 have hwl:=h.box.lt
 have hvl:=h.vis.lt
 have hml:=h.mks.lt
 have hq':∀ k,qv'.ownBlock = some k → k ≠ wb ∧ k ≠ vb ∧ k ≠ mb:=fun k hk => by
  rcases hn k hk with e | e
  ·exact h.qs k e
  exact ⟨by omega,by omega,by omega⟩
 have hcs:Chg (fun k => k = wb) w' (w'.setCell ⟨wb,1,none⟩ qv'):=bM
 refine ⟨hbx.put 1 qv',hq.chg hcs (fun k hk => (hq' k hk).1),(h.l.chg hc (fun k hk e => (h.ls k hk).2.2.2 e)).chg hcs (fun k hk => (h.ls k hk).1),(h.vis.chg hc (fun e => (h.qs _ e).2.1 rfl)).chg hcs (fun e => h.ne.1 e.symm),(h.mks.chg hc (fun e => (h.qs _ e).2.2 rfl)).chg hcs (fun e => h.ne.2.1 e.symm),h32,h.l32,h.ge,h.ne,hq',fun k hk => ⟨(h.ls k hk).1,(h.ls k hk).2.1,(h.ls k hk).2.2.1,fun e => ?_⟩,?_⟩
 ·rcases hn k e with e2 | e2
  ·exact (h.ls k hk).2.2.2 e2
  have:=h.l.olt k hk;omega
 exact (h.bel.trans hb).setCell (p:=⟨wb,1,none⟩) h.ge.1 _
theorem WKs.setL (h:WKs Bs w0 w wb sb vb mb qv lv Q n ms lk) {lv':Value} {lk':List (Idl × Int)} (hc:Chg (fun k => lv.ownBlock = some k) w w') (hq:OwnQ w' Bs 33 lv' lk'.length (chV lk')) (h32:∀ c ∈ lk',c.1.length = 32 ∧ 0 ≤ c.2 ∧ c.2 ≤ 3) (hn:∀ k,lv'.ownBlock = some k → lv.ownBlock = some k ∨ w.heap.size ≤ k)
  (hb:Below Bs w w'):WKs Bs w0 (w'.setCell ⟨wb,4,none⟩ lv') wb sb vb mb qv lv' Q n ms lk':=by
 have hbx:BoxL w' wb 257 [.iface 25 (.pointer (some ⟨sb,0,none⟩)),qv,.map (some vb),.map (some mb),lv]:=h.box.chg hc (fun e => (h.ls _ e).1 rfl)
 have hwl:=h.box.lt
 have hvl:=h.vis.lt
 have hml:=h.mks.lt
 have hql:=h.q.olt
 have hq':∀ k,lv'.ownBlock = some k → k ≠ wb ∧ k ≠ vb ∧ k ≠ mb ∧ qv.ownBlock ≠ some k:=fun k hk => by
  rcases hn k hk with e | e
  ·exact h.ls k e
  exact ⟨by omega,by omega,by omega,fun e2 => by have:=hql k e2;omega⟩
 have hcs:Chg (fun k => k = wb) w' (w'.setCell ⟨wb,4,none⟩ lv'):=bM
 exact ⟨hbx.put 4 lv',(h.q.chg hc (fun k hk e => (h.ls k e).2.2.2 hk)).chg hcs (fun k hk => (h.qs k hk).1),hq.chg hcs (fun k hk => (hq' k hk).1),(h.vis.chg hc (fun e => (h.ls _ e).2.1 rfl)).chg hcs (fun e => h.ne.1 e.symm),(h.mks.chg hc (fun e => (h.ls _ e).2.2.1 rfl)).chg hcs (fun e => h.ne.2.1 e.symm),h.q32,h32,h.ge,h.ne,h.qs,hq',(h.bel.trans hb).setCell (p:=⟨wb,4,none⟩) h.ge.1 _⟩
theorem WKs.setV (h:WKs Bs w0 w wb sb vb mb qv lv Q n ms lk) (hg:w.grownBy w' (some vb)) (hv:MapW w' vb (n + 1)):WKs Bs w0 w' wb sb vb mb qv lv Q (n + 1) ms lk:=by
 have hc:=dK hg
 exact ⟨h.box.chg hc h.ne.1,h.q.chg hc (fun k hk => (h.qs k hk).2.1),h.l.chg hc (fun k hk => (h.ls k hk).2.1),hv,(h.mks.mono (by omega)).chg hc (fun e => h.ne.2.2 e.symm),h.q32,h.l32,h.ge,h.ne,h.qs,h.ls,h.bel.grown hg (by have:=h.ge.2.1;have:=h.vis.lt;omega) (fun j hj => by cases hj;exact h.ge.2.1)⟩
theorem WKs.setM (h:WKs Bs w0 w wb sb vb mb qv lv Q n ms lk) {ms':List Idl} (hg:w.grownBy w' (some mb)) (hv:SetI w' mb (n + 1) ms') (hw:MapW w vb (n + 1)):WKs Bs w0 w' wb sb vb mb qv lv Q (n + 1) ms' lk:=by
 have hc:=dK hg
 exact ⟨h.box.chg hc h.ne.2.1,h.q.chg hc (fun k hk => (h.qs k hk).2.2),h.l.chg hc (fun k hk => (h.ls k hk).2.2.1),hw.chg hc h.ne.2.2,hv,h.q32,h.l32,h.ge,h.ne,h.qs,h.ls,h.bel.grown hg (by have:=h.ge.2.2;have:=h.mks.lt;omega) (fun j hj => by cases hj;exact h.ge.2.2)⟩
theorem MapW.mono {w:World} {b n n':Nat} (h:MapW w b n) (hn:n ≤ n'):MapW w b n':=by obtain ⟨D,h1,h2⟩:=h;exact ⟨D,h1.mono hn,h2⟩
end
theorem EZ {P:Program} {w:World} {a:Act} {oi:Oper} {t:TypeId} {x:Operand} {vx v:Value} (hop:oi.op = .build t #[(0,x)]) (hx:a.eval x = vx) (hrun:(Instr.build t #[(0,vx)]).run P w = .ok v w):(execOp a.eval oi).run P w = .ok (.value v) w:=by
 simp [execOp,hop,hx,hrun,Result.andThen]
section
variable {Bs:Nat} {w0 w:World} {wb sb vb mb:Nat} {qv lv:Value} {Q:List (Idl × Int)} {n:Nat} {ms:List Idl} {lk:List (Idl × Int)}
theorem Eu (h:WKs Bs w0 w wb sb vb mb qv lv Q n ms lk) (hQ:Q.length ≤ 1000000) (x:Idl) (hx:x.length = 32) (rb ro cap:Nat) (hr:w.rangeAt rb ro (idC x)) (hrl:rb < Bs) :
  Calls prog 178 #[.pointer (some ⟨wb,0,none⟩),.slice (some ⟨rb,ro,none⟩) 1 cap] w fun e w' => e = .returned (.tuple #[]) ∧ ∃ qv',WKs Bs w0 w' wb sb vb mb qv' lv (Q ++ [(x,0)]) n ms lk:=by
 obtain ⟨zi,hzi,hzl⟩:=tF
 obtain ⟨zc,hzc,hzcl⟩:=og
 have HI32:=ah bL
 have hrbl:rb < w.heap.size:=by have:=h.ge.1;have:=h.box.lt;omega
 have HWK:=ah h
 have HXL:=ah hx
 have HQL:=ah hQ
 obtain ⟨qa,qc,rfl⟩:=h.q.iP
 obtain ⟨ci,hci⟩:∃ z,idC x = z:=⟨_,rfl⟩
 have HCI:=ah hci
 have HEL:Hid (ci.length = 32):=ah (by rw [← hci,au,hx])
 have HEO:Hid (∀ u ∈ ci,u.oneCell' = true):=ah (by rw [← hci];exact aM x)
 have h32:(prog.info? 42).map (·.size) = some ci.length:=by rw [HEL.out];exact bL
 have HCL:Hid ((chC (x,0)).length = 33):=ah (iw hx)
 rw [hci] at hr
 have f1:=hr
 clear h hQ hr hci hx
 go_enter func178,ntmps178
 go_wp2_with fail
 refine wp_loop_rounds 2 ?_
 rw [rounds_succ]
 go_upto_region 4 with (first | (refine wpList_load_mid rfl 42 _ rfl rb ro rfl ci _ f1 underlying42 rfl h32 ?_) | (refine aC rfl 42 _ _ rfl zi ci rfl rfl 32 HEL.out hzl HI32.out HEO.out ?_;intro wn hxn hbn hsn))
 have HBD:Hid (Below w.heap.size w wn.drew):=ah hbn.drew
 have HXN:Hid (BoxL wn.drew w.heap.size 42 ci):=ah hxn
 have HWN:=ah (HWK.out.below HBD.out)
 have hS0:wn.drew.cell? ⟨wb,1,none⟩ = some (.slice qa Q.length qc) ∧ wn.drew.rangeAt w.heap.size 0 ci:=⟨HWN.out.cell rfl,HXN.out.range⟩
 clear hxn hbn f1
 refine wrL 11 (fun x => x.cell? ⟨wb,1,none⟩ = some (.slice qa Q.length qc) ∧ x.rangeAt w.heap.size 0 ci) ?_
 refine WL.tk 0 hS0 ?_
 refine WL.tk 1 hS0 ?_
 refine WL.tk 2 hS0 ?_
 refine WL.tk 3 hS0 ?_
 refine WL.tk 4 hS0 ?_
 refine WL.tk 5 hS0 ?_ (hy:=(fun w' hSw => aK 42 _ (hSw.2) underlying42 rfl h32 _ rfl rfl))
 refine WL.take (i:=6) (v:=.agg (chC (x,0)).toArray) rfl (by kernel_rfl) (by decide) (by decide +kernel) (by decide +kernel) (fun _ _ _ h => h) rfl (fun w' _ => EZ rfl rfl (by rw [← HCI.out];exact FB x HXL.out w')) hS0 ?_
 simp only [Act.put,nz]
 refine WL.on 7 ?_
 refine av rfl (.tmp 20) 255 259 rfl (chC (x,0)) zc rfl underlying255 (fun w => by rw [HCL.out];kernel_rfl) hzc (by rw [HCL.out];omega) (by rw [HCL.out];omega) ?_
 simp only [Act.put,nz]
 obtain ⟨wd,hwd⟩:∃ z,wn.drew = z:=⟨_,rfl⟩
 rw [hwd] at HBD HXN HWN hS0 ⊢
 have hb6:Below wd.heap.size wd (wd.alloc (.cells (chC (x,0)).toArray 259)):=bal
 have HX6:Hid (BoxL (wd.alloc (.cells (chC (x,0)).toArray 259)) wd.heap.size 259 (chC (x,0))):=ah (BoxL.new wd 259 (chC (x,0)))
 generalize wd.alloc (.cells (chC (x,0)).toArray 259) = w6 at hb6 HX6 ⊢
 have HW6:=ah (HWN.out.below hb6)
 have HXN6:=ah (HXN.out.below hb6)
 have hS6:w6.cell? ⟨wb,1,none⟩ = some (.slice qa Q.length qc) ∧ w6.rangeAt w.heap.size 0 ci:=⟨HW6.out.cell rfl,HXN6.out.range⟩
 clear hb6 hS0 hwd
 refine ⟨hS6,?_⟩
 refine WL.on 8 ?_
 refine dX rfl _ _ rfl Bs (.slice qa Q.length qc) Q.length (chV Q) rfl HW6.out.q (some ⟨wd.heap.size,0,none⟩) 1 1 [(x,0)] rfl rfl (fun r hr => by simp at hr;rw [hr];exact HXL.out) (fun _ => ⟨_,rfl,fun j u hu => by
  rw [Addr.add_mid]
  have:chV [(x,0)] = chC (x,0):=by simp [chV]
  rw [this] at hu
  exact HX6.out.range j u hu⟩) (by have:=HQL.out;omega) (by have:=HW6.out.ge.1;have:=HW6.out.box.lt;omega) ?_
 intro v' w7 g1 g2 g3
 simp only [Act.put,nz]
 have hqn:∀ k,(Value.slice qa Q.length qc).ownBlock = some k → k < w.heap.size:=fun k hk => HWK.out.q.olt k hk
 have hc7:Chg (fun k => (Value.slice qa Q.length qc).ownBlock = some k) w6 w7:=⟨g2.os,g2.tape,g2.output,g2.size,fun k hk hn => g2.block k hk fun e => hn e.symm⟩
 have hlt6:Bs ≤ w6.heap.size:=by have:=HW6.out.ge.1;have:=HW6.out.box.lt;omega
 have HW8:Hid (WKs Bs w0 (w7.setCell ⟨wb,1,none⟩ v') wb sb vb mb v' lv (Q ++ [(x,0)]) n ms lk):=ah (HW6.out.setQ hc7 (by rw [List.length_append,qR];exact g1) (fun c hc => by
  rcases List.mem_append.1 hc with h | h
  ·exact HW6.out.q32 c h
  ·simp at h;rw [h];exact ⟨HXL.out,(by show (0:Int) ≤ 0;omega),(by show (0:Int) ≤ 3;omega)⟩) (fun k hk => by
  rcases g3 with e | e
  ·exact .inl (by rw [← e];exact hk)
  exact .inr (e k hk)) ((Below.refl Bs w6).grown g2 hlt6 (fun k hk => HW6.out.q.blkR k hk)))
 have hwl:=HWK.out.box.lt
 have hS7:w7.cell? ⟨wb,1,none⟩ = some (.slice qa Q.length qc) ∧ w7.rangeAt w.heap.size 0 ci:=⟨((HW6.out.box.chg hc7 (fun e => (HW6.out.qs _ e).1 rfl)).range 1 _ rfl),(HXN6.out.chg hc7 (fun e => by have:=hqn _ e;omega)).range⟩
 have f7:w7.frozen? ⟨wb,1,none⟩ = false:=by have:=((HW6.out.box.chg hc7 (fun e => (HW6.out.qs _ e).1 rfl)).there 1 (by simp)).2;rwa [Nat.zero_add] at this
 obtain ⟨va,vc,rfl⟩:=g1.iP
 clear g1 g2 g3 hc7 hqn hlt6 hS6
 refine ⟨hS7,?_⟩
 refine WL.tk 9 hS7 ?_
 refine WL.tk 10 hS7 ?_
 refine WL.la 11 ?_
 have c7:=hS7.1
 clear hS7
 go_wp2_with fail
 rw [rounds_succ]
 go_wp2_with fail
 go_end0
 exact ⟨rfl,_,HW8.out⟩
end
theorem FY (sb a b:Nat) (w:World):(Instr.build 257 #[(0,.iface 25 (.pointer (some ⟨sb,0,none⟩))),(2,.map (some a)),(3,.map (some b))]).run prog w = .ok (.agg #[.iface 25 (.pointer (some ⟨sb,0,none⟩)),.slice none 0 0,.map (some a),.map (some b),.slice none 0 0]) w:=run_build w 257 _ _ (by kernel_rfl)
theorem Eo (sb:Nat) (x:Idl) (hx:x.length = 32) (rb ro cap:Nat) (w:World) (hr:w.rangeAt rb ro (idC x)) (hrl:rb < w.heap.size) :
  Calls prog 108 #[.iface 25 (.pointer (some ⟨sb,0,none⟩)),.slice (some ⟨rb,ro,none⟩) 1 cap] w fun e w' => e = .returned (.pointer (some ⟨w.heap.size + 1 + 1,0,none⟩)) ∧ ∃ qv,WKs w.heap.size w w' (w.heap.size + 1 + 1) sb w.heap.size (w.heap.size + 1) qv (.slice none 0 0) [(x,0)] 0 [] []:=by
 have hmm:=@run_makeMap prog
 have HBU:=ah (FY sb)
 obtain ⟨W,hW⟩:∃ W,((w.alloc (.map #[] 0)).alloc (.map #[] 0)).alloc (.cells #[.iface 25 (.pointer (some ⟨sb,0,none⟩)),.slice none 0 0,.map (some w.heap.size),.map (some (w.heap.size + 1)),.slice none 0 0] 257) = W:=⟨_,rfl⟩
 have hbW:Below w.heap.size w W:=by rw [← hW];exact (bal.alloc (by simp) _).alloc (by simp;omega) _
 have hs2:((w.alloc (.map #[] 0)).alloc (.map #[] 0)).heap.size = w.heap.size + 1 + 1:=by simp
 have hs1:(w.alloc (.map #[] 0)).heap.size = w.heap.size + 1:=by simp
 have hbx:BoxL W (w.heap.size + 1 + 1) 257 [.iface 25 (.pointer (some ⟨sb,0,none⟩)),.slice none 0 0,.map (some w.heap.size),.map (some (w.heap.size + 1)),.slice none 0 0]:=by
  rw [← hW,← hs2]
  exact BoxL.new _ 257 [.iface 25 (.pointer (some ⟨sb,0,none⟩)),.slice none 0 0,.map (some w.heap.size),.map (some (w.heap.size + 1)),.slice none 0 0]
 have hvm:MapW W w.heap.size 0:=by
  rw [← hW]
  exact ((Es w).on bal).on bal
 have hsm:SetI W (w.heap.size + 1) 0 []:=by
  rw [← hW,← hs1]
  exact (iy (w.alloc (.map #[] 0))).on bal
 have HWK:Hid (WKs w.heap.size w W (w.heap.size + 1 + 1) sb w.heap.size (w.heap.size + 1) (.slice none 0 0) (.slice none 0 0) [] 0 [] []):=ah ⟨hbx,iH _ _ _,iH _ _ _,hvm,hsm,fun c hc => (by cases hc),fun c hc => (by cases hc),⟨by omega,by omega,by omega⟩,⟨by omega,by omega,by omega⟩,fun k hk => (by cases hk),fun k hk => (by cases hk),hbW⟩
 have HAD:=ah (Eu HWK.out (by simp) x hx rb ro cap (aF hr hbW hrl) hrl)
 have HW:=ah hW
 clear hW hbW hs2 hs1 hbx hvm hsm hr hx
 rw [List.nil_append] at HAD
 go_enter func108,ntmps108
 go_wp2_with fail
 rw [HW.out]
 refine HAD.out.mono ?_
 rintro e w1 ⟨rfl,qv,h1⟩
 have H1:=ah h1
 clear h1
 go_wp2_with fail
 go_ret
 exact ⟨rfl,_,H1.out⟩
def kidF (F:List Ob) (c:Idl × Int):Bool:=match fndF F c.1 with
 | none => false
 | some o => decide (c.2 = 0 ∨ c.2 = o.kind)
def Df (F:List Ob) (c:Idl × Int) (w:World) (e:Ending) (w':World):Prop:=(∃ k s,e = .returned (.tuple #[.agg #[.int .i64 k,.string s],.bool (kidF F c)]) ∧ ∀ o,fndF F c.1 = some o → k = o.kind ∧ s = o.body) ∧ Below w.heap.size w w'
theorem GN {F:List Ob} {c:Idl × Int} {w w':World} (h:fndF F c.1 = none) (hb:Below w.heap.size w w'):Df F c w (.returned (.tuple #[.agg #[.int .i64 0,.string ⟨#[]⟩],.bool false])) w':=⟨⟨0,⟨#[]⟩,by unfold kidF;rw [h],fun o h2 => by rw [h] at h2;cases h2⟩,hb⟩
theorem Ep {F:List Ob} {c:Idl × Int} {o:Ob} {b:Bool} {w w':World} (h:fndF F c.1 = some o) (h2:decide (c.2 = 0 ∨ c.2 = o.kind) = b) (hb:Below w.heap.size w w'):Df F c w (.returned (.tuple #[.agg #[.int .i64 o.kind,.string o.body],.bool b])) w':=⟨⟨o.kind,o.body,by unfold kidF;rw [h,← h2],fun o' h3 => by rw [h] at h3;cases h3;exact ⟨rfl,rfl⟩⟩,hb⟩
section
variable {Bs:Nat} {w0 w:World} {wb sb vb mb:Nat} {qv lv:Value} {Q:List (Idl × Int)} {n:Nat} {ms:List Idl} {lk:List (Idl × Int)} {F:List Ob}
theorem GL (h:WKs Bs w0 w wb sb vb mb qv lv Q n ms lk) (c:Idl × Int) (hc:c.1.length = 32)
  (HG:Hid (∀ V,Below w.heap.size w V → Calls prog 12 #[.pointer (some ⟨sb,0,none⟩),.agg (idC c.1).toArray] V (l7 (fndF F c.1) V))) :
  Calls prog 223 #[.pointer (some ⟨wb,0,none⟩),.agg (chC c).toArray] w (Df F c w):=by
 obtain ⟨W,hW⟩:∃ W,(w.alloc (.cells (chC c).toArray 259)).alloc (.cells #[.int .i64 0,.string ⟨#[]⟩] 33) = W:=⟨_,rfl⟩
 have hbW:Below w.heap.size w W:=by rw [← hW];exact bal.alloc (by simp) _
 have hx0:BoxL W w.heap.size 259 (chC c):=by rw [← hW];exact (BoxL.new w 259 (chC c)).below bal
 have hx1:BoxL W (w.heap.size + 1) 33 [.int .i64 0,.string ⟨#[]⟩]:=by
  rw [← hW]
  have:=BoxL.new (w.alloc (.cells (chC c).toArray 259)) 33 [.int .i64 0,.string ⟨#[]⟩]
  rwa [World.size_alloc] at this
 have HBW:=ah hbW
 have HX0:=ah hx0
 have HX1:=ah hx1
 have HCELL:Hid (∀ V,Below w.heap.size w V → V.cell? ⟨wb,0,none⟩ = some (.iface 25 (.pointer (some ⟨sb,0,none⟩)))):=ah fun V hb => (h.below hb).cell rfl
 have hrid:∀ V:World,V.rangeAt w.heap.size 0 (chC c) → V.rangeAt w.heap.size 0 (idC c.1) ∧ V.cell? ⟨w.heap.size,32,none⟩ = some (.int .i64 c.2):=fun V hr => ⟨fun j u hu => hr j u (by unfold chC;rw [List.getElem?_append_left (List.getElem?_eq_some_iff.1 hu).1];exact hu),by
  have:=hr 32 (.int .i64 c.2) (by unfold chC;rw [List.getElem?_append_right (by rw [au,hc];omega),au,hc];rfl)
  rwa [Nat.zero_add] at this⟩
 have HRID:=ah hrid
 have h32:(prog.info? 42).map (·.size) = some (idC c.1).length:=by rw [au,hc];exact bL
 have HW:=ah hW
 have HWS:Hid (w.heap.size + 1 < W.heap.size):=ah hx1.lt
 have HNO:=ah (fun (w':World) h hb => GN (F:=F) (c:=c) (w:=w) (w':=w') h hb)
 have HYES:=ah (fun o b (w':World) h h2 hb => Ep (F:=F) (c:=c) (o:=o) (b:=b) (w:=w) (w':=w') h h2 hb)
 have HGX:=ah (fun V (hb:Below W.heap.size W V) => HG.out V (HBW.out.trans (hb.mono HBW.out.size)))
 unfold l7 at HGX
 clear h hc hW hx0 hx1 hbW hrid HG
 generalize hcc:chC c = cc at HX0 HRID HW ⊢
 generalize hci:idC c.1 = ci at HRID h32 HGX
 clear hcc hci
 have hmg:∀ (a:Addr) (w:World),(method 440 25 (.pointer (some a)) "Get").run prog w = .ok (12,.pointer (some a)) w:=fun a w => by kernel_rfl
 have HSX:Hid (∀ V,Below W.heap.size W V → V.cell? ⟨wb,0,none⟩ = some (.iface 25 (.pointer (some ⟨sb,0,none⟩))) ∧ V.rangeAt w.heap.size 0 ci):=ah fun V hb => ⟨HCELL.out V (HBW.out.trans (hb.mono HBW.out.size)),(HRID.out V (HX0.out.below hb).range).1⟩
 have HC32:Hid (∀ V,Below W.heap.size W V → V.cell? ⟨w.heap.size,32,none⟩ = some (.int .i64 c.2)):=ah fun V hb => (HRID.out V (HX0.out.below hb).range).2
 clear HCELL HRID
 go_enter func223,ntmps223
 go_upto_region 1 with fail
 rw [HW.out]
 cases hf:fndF F c.1 with
 | none =>
  rw [hf] at HGX
  dsimp only at HGX
  have HFO:=ah hf
  clear hf
  have HS0:=HSX.out W.drew (Below.refl _ _).drew
  refine wrL 12 (fun x => x.cell? ⟨wb,0,none⟩ = some (.iface 25 (.pointer (some ⟨sb,0,none⟩))) ∧ x.rangeAt w.heap.size 0 ci) ?_
  refine WL.tk 0 HS0 ?_
  refine WL.tk 1 HS0 ?_
  refine WL.tk 2 HS0 ?_
  refine WL.tk 3 HS0 ?_
  refine WL.tk 4 HS0 ?_
  refine WL.tk 5 HS0 ?_ (hy:=(fun w' hSw => aK 42 _ (hSw.2) underlying42 rfl h32 _ rfl rfl))
  refine WL.tw 6 10 ?_ ?_
  focus
   go_wp2_with fail
   refine (HGX.out _ (Below.refl _ _).drew).mono ?_
   rintro e w6 ⟨rfl,hb6⟩
   have HB6:=ah (bA hb6)
   have HS6:=HSX.out w6 HB6.out
   have HB7:Hid (Below W.heap.size W (w6.alloc (.cells #[.int .i64 0,.string ⟨#[]⟩] 33))):=ah (HB6.out.alloc HB6.out.size _)
   have HS7:=HSX.out _ HB7.out
   have HX7:Hid (BoxL (w6.alloc (.cells #[.int .i64 0,.string ⟨#[]⟩] 33)) w6.heap.size 33 (#[.int .i64 0,.string ⟨#[]⟩]:Array Value).toList):=ah (by have:=BoxL.new w6 33 (#[.int .i64 0,.string ⟨#[]⟩]:Array Value).toList;simpa using this)
   have HBN7:Hid (Below w6.heap.size w6 (w6.alloc (.cells #[.int .i64 0,.string ⟨#[]⟩] 33))):=ah bal
   have hp6:=HB6.out.size
   clear hb6
   go_wp2
   refine ⟨HS6,?_⟩
   refine WL.tk 7 HS6 ?_
   refine WL.tk 8 HS6 ?_
   refine WL.tk 9 HS6 ?_
   refine WL.on 10 ?_
   go_wp2
   refine ⟨HS7,?_⟩
   obtain ⟨P,hP⟩:∃ P,w6.heap.size = P:=⟨_,rfl⟩
   obtain ⟨w7,hw7⟩:∃ w7,w6.alloc (.cells #[.int .i64 0,.string ⟨#[]⟩] 33) = w7:=⟨_,rfl⟩
   rw [hw7] at HB7 HS7 HX7 HBN7  ⊢
   rw [hP] at HX7 hp6 
   simp only [hP]
   clear hP hw7 HS6 HBN7
  rotate_left
  focus
   have HB6:Hid (Below W.heap.size W (W.alloc (.cells #[.int .i64 0,.string ⟨#[]⟩] 33)).drew):=ah (bal.drew)
   have hx6:BoxL (W.alloc (.cells #[.int .i64 0,.string ⟨#[]⟩] 33)).drew W.heap.size 33 (#[.int .i64 0,.string ⟨#[]⟩]:Array Value).toList:=(show BoxL (W.alloc (.cells #[.int .i64 0,.string ⟨#[]⟩] 33)) W.heap.size 33 (#[.int .i64 0,.string ⟨#[]⟩]:Array Value).toList from by have:=BoxL.new W 33 (#[.int .i64 0,.string ⟨#[]⟩]:Array Value).toList;simpa using this)
   have HS6:=HSX.out _ HB6.out
   go_wp2
   refine ⟨HS6,?_⟩
   refine WL.on 6 ?_
   go_wp2_with fail
   refine (HGX.out _ HB6.out).mono ?_
   rintro e w7 ⟨rfl,hb7⟩
   have HX7:=ah (hx6.below hb7)
   have HB7:=bth HB6 hb7
   have HS7:=HSX.out _ HB7.out
   have hp6:W.heap.size ≤ W.heap.size:=Nat.le_refl _
   clear hb7 hx6
   go_wp2
   refine ⟨HS7,?_⟩
   refine WL.tk 7 HS7 ?_
   refine WL.tk 8 HS7 ?_
   refine WL.tk 9 HS7 ?_
   obtain ⟨P,hP⟩:∃ P,P = W.heap.size:=⟨_,rfl⟩
   rw [← hP] at HX7 
   have hp6:W.heap.size ≤ P:=by omega
   simp only [← hP]
   clear hP HS6
  all_goals
   refine WL.on 11 ?_
   refine aj rfl 33 _ _ rfl P 0 [.int .i64 0,.string ⟨#[]⟩] rfl rfl 2 rfl (by have:=HX7.out.there;simpa [] using this) cB (by intro v hv;simp at hv;rcases hv with rfl | rfl <;> rfl) ?_
   simp only [Act.put,nz]
   have HB8:=ah (below_setCells (B:=W.heap.size) (a:=W) P hp6 [.int .i64 0,.string ⟨#[]⟩] 0 w7 HB7.out)
   have HX8:=ah (HX7.out.set (us:=[.int .i64 0,.string ⟨#[]⟩]) (by simp []))
   have HW8:Hid (Chg (fun k => k = P) w7 (w7.setCells P 0 [.int .i64 0,.string ⟨#[]⟩])):=ah (eD P [.int .i64 0,.string ⟨#[]⟩] w7)
   generalize w7.setCells P 0 [.int .i64 0,.string ⟨#[]⟩] = w8 at HB8 HX8 HW8
   have HS8:=HSX.out _ HB8.out
   refine ⟨HS8,?_⟩
   refine WL.la 12 ?_
   clear HS8 HS7 HS0 HX7 HB7
  all_goals
   have hPl:=HX8.out.lt
   have hpr:=HX8.out.range
   have c32:=HC32.out w8 HB8.out
   have h2o:(prog.info? 33).map (·.size) = some ([.int .i64 0,.string ⟨#[]⟩]:List Value).length:=cB
   have HXR:=ah (HX1.out.below HB8.out)
   have HBW8:=ah (HBW.out.trans (HB8.out.mono HBW.out.size))
   clear HB8 HW8 HX0
   go_upto_region 2 with fail
   have hpk:=hpr 0 _ rfl
   rw [Nat.zero_add] at hpk
   have hbd:Below w8.heap.size w8 w8.drew:=(Below.refl _ _).drew
   have hS0:w8.drew.cell? ⟨w.heap.size,32,none⟩ = some (.int .i64 c.2) ∧ w8.drew.rangeAt P 0 [.int .i64 0,.string ⟨#[]⟩] ∧ w8.drew.cell? ⟨P,0,none⟩ = some (.int .i64 0):=⟨c32,hpr,hpk⟩
   refine wrL 15 (fun x => x.cell? ⟨w.heap.size,32,none⟩ = some (.int .i64 c.2) ∧ x.rangeAt P 0 [.int .i64 0,.string ⟨#[]⟩] ∧ x.cell? ⟨P,0,none⟩ = some (.int .i64 0)) ?_
   refine WL.tk 0 hS0 ?_ (hy:=(fun w' hSw => aK 33 _ (hSw.2.1) underlying33 rfl h2o _ rfl rfl))
   refine WL.tk 1 hS0 ?_
   refine WL.tk 2 hS0 ?_
   refine WL.skip (i:=3) rfl (by kernel_rfl) (by decide) (by decide +kernel) (by decide +kernel) (fun _ _ _ h => h) rfl hS0 ?_
   simp only [Act.put,nz]
   refine WL.skip (i:=4) rfl (by kernel_rfl) (by decide) (by decide +kernel) (by decide +kernel) (fun _ _ _ h => h) rfl hS0 ?_
   simp only [Act.put,nz]
   refine WL.skip (i:=5) rfl (by kernel_rfl) (by decide) (by decide +kernel) (by decide +kernel) (fun _ _ _ h => h) rfl hS0 ?_
   simp only [Act.put,nz]
   refine WL.skip (i:=6) rfl (by kernel_rfl) (by decide) (by decide +kernel) (by decide +kernel) (fun _ _ _ h => h) rfl hS0 ?_
   simp only [Act.put,nz]
   refine WL.skip (i:=7) rfl (by kernel_rfl) (by decide) (by decide +kernel) (by decide +kernel) (fun _ _ _ h => h) rfl hS0 ?_
   simp only [Act.put,nz]
   refine WL.skip (i:=8) rfl (by kernel_rfl) (by decide) (by decide +kernel) (by decide +kernel) (fun _ _ _ h => h) rfl hS0 ?_
   simp only [Act.put,nz]
   refine WL.skip (i:=9) rfl (by kernel_rfl) (by decide) (by decide +kernel) (by decide +kernel) (fun _ _ _ h => h) rfl hS0 ?_
   simp only [Act.put,nz]
   refine WL.skip (i:=10) rfl (by kernel_rfl) (by decide) (by decide +kernel) (by decide +kernel) (fun _ _ _ h => h) rfl hS0 ?_
   simp only [Act.put,nz]
   refine WL.skip (i:=11) rfl (by kernel_rfl) (by decide) (by decide +kernel) (by decide +kernel) (fun _ _ _ h => h) rfl hS0 ?_
   simp only [Act.put,nz]
   refine WL.skip (i:=12) rfl (by kernel_rfl) (by decide) (by decide +kernel) (by decide +kernel) (fun _ _ _ h => h) rfl hS0 ?_
   simp only [Act.put,nz]
   refine WL.tk 13 hS0 ?_
   refine WL.on 14 ?_
   obtain ⟨WE,hWE⟩:∃ z,w8.drew.setCells (w.heap.size + 1) 0 [.int .i64 0,.string ⟨#[]⟩] = z:=⟨_,rfl⟩
   have hth:=(HXR.out.below hbd).there
   have hre:WE.rangeAt (w.heap.size + 1) 0 [.int .i64 0,.string ⟨#[]⟩]:=by rw [← hWE];exact ((HXR.out.below hbd).set (us:=[.int .i64 0,.string ⟨#[]⟩]) rfl).range
   have HBE:Hid (Below w.heap.size w WE):=ah (by rw [← hWE];exact below_setCells _ (by omega) _ _ _ (HBW8.out.trans (hbd.mono HBW8.out.size)))
   have hws:=HWS.out
   have hSE:WE.cell? ⟨w.heap.size,32,none⟩ = some (.int .i64 c.2) ∧ WE.rangeAt P 0 [.int .i64 0,.string ⟨#[]⟩] ∧ WE.cell? ⟨P,0,none⟩ = some (.int .i64 0):=by
    rw [← hWE]
    exact ⟨(World.cell?_setCells_out _ _ 0 w8.drew _ (fun e _ => absurd e (by show ¬ w.heap.size = w.heap.size + 1;omega))).trans hS0.1,World.rangeAt_setCells_apart hS0.2.1 _ 0 _ (.inl (by omega)),(World.cell?_setCells_out _ _ 0 w8.drew _ (fun e _ => absurd e (by show ¬ P = w.heap.size + 1;omega))).trans hS0.2.2⟩
   refine aj rfl 33 _ _ rfl (w.heap.size + 1) 0 [.int .i64 0,.string ⟨#[]⟩] rfl rfl 2 rfl hth cB (by intro v hv;simp at hv;rcases hv with rfl | rfl <;> rfl) ?_
   rw [hWE]
   simp only [Act.put,nz]
   refine ⟨hSE,?_⟩
   refine WL.la 15 ?_
   clear hSE hS0 hth hWE hbd hpk
   go_wp2_with fail
   refine aL rfl (w.heap.size + 1) 0 rfl [.int .i64 0,.string ⟨#[]⟩] _ hre underlying33 rfl h2o rfl _ rfl ?_
   exact HNO.out WE HFO.out HBE.out
 | some o =>
  rw [hf] at HGX
  dsimp only at HGX
  have HFO:=ah hf
  have HOC:Hid (obC o = [.int .i64 o.kind,.string o.body]):=ah rfl
  rw [HOC.out] at HGX
  clear hf
  have HS0:=HSX.out W.drew (Below.refl _ _).drew
  refine wrL 12 (fun x => x.cell? ⟨wb,0,none⟩ = some (.iface 25 (.pointer (some ⟨sb,0,none⟩))) ∧ x.rangeAt w.heap.size 0 ci) ?_
  refine WL.tk 0 HS0 ?_
  refine WL.tk 1 HS0 ?_
  refine WL.tk 2 HS0 ?_
  refine WL.tk 3 HS0 ?_
  refine WL.tk 4 HS0 ?_
  refine WL.tk 5 HS0 ?_ (hy:=(fun w' hSw => aK 42 _ (hSw.2) underlying42 rfl h32 _ rfl rfl))
  refine WL.tw 6 10 ?_ ?_
  focus
   go_wp2_with fail
   refine (HGX.out _ (Below.refl _ _).drew).mono ?_
   rintro e w6 ⟨rfl,hb6⟩
   have HB6:=ah (bA hb6)
   have HS6:=HSX.out w6 HB6.out
   have HB7:Hid (Below W.heap.size W (w6.alloc (.cells #[.int .i64 0,.string ⟨#[]⟩] 33))):=ah (HB6.out.alloc HB6.out.size _)
   have HS7:=HSX.out _ HB7.out
   have HX7:Hid (BoxL (w6.alloc (.cells #[.int .i64 0,.string ⟨#[]⟩] 33)) w6.heap.size 33 (#[.int .i64 0,.string ⟨#[]⟩]:Array Value).toList):=ah (by have:=BoxL.new w6 33 (#[.int .i64 0,.string ⟨#[]⟩]:Array Value).toList;simpa using this)
   have HBN7:Hid (Below w6.heap.size w6 (w6.alloc (.cells #[.int .i64 0,.string ⟨#[]⟩] 33))):=ah bal
   have hp6:=HB6.out.size
   clear hb6
   go_wp2
   refine ⟨HS6,?_⟩
   refine WL.tk 7 HS6 ?_
   refine WL.tk 8 HS6 ?_
   refine WL.tk 9 HS6 ?_
   refine WL.on 10 ?_
   go_wp2
   refine ⟨HS7,?_⟩
   obtain ⟨P,hP⟩:∃ P,w6.heap.size = P:=⟨_,rfl⟩
   obtain ⟨w7,hw7⟩:∃ w7,w6.alloc (.cells #[.int .i64 0,.string ⟨#[]⟩] 33) = w7:=⟨_,rfl⟩
   rw [hw7] at HB7 HS7 HX7 HBN7  ⊢
   rw [hP] at HX7 hp6 
   simp only [hP]
   clear hP hw7 HS6 HBN7
  rotate_left
  focus
   have HB6:Hid (Below W.heap.size W (W.alloc (.cells #[.int .i64 0,.string ⟨#[]⟩] 33)).drew):=ah (bal.drew)
   have hx6:BoxL (W.alloc (.cells #[.int .i64 0,.string ⟨#[]⟩] 33)).drew W.heap.size 33 (#[.int .i64 0,.string ⟨#[]⟩]:Array Value).toList:=(show BoxL (W.alloc (.cells #[.int .i64 0,.string ⟨#[]⟩] 33)) W.heap.size 33 (#[.int .i64 0,.string ⟨#[]⟩]:Array Value).toList from by have:=BoxL.new W 33 (#[.int .i64 0,.string ⟨#[]⟩]:Array Value).toList;simpa using this)
   have HS6:=HSX.out _ HB6.out
   go_wp2
   refine ⟨HS6,?_⟩
   refine WL.on 6 ?_
   go_wp2_with fail
   refine (HGX.out _ HB6.out).mono ?_
   rintro e w7 ⟨rfl,hb7⟩
   have HX7:=ah (hx6.below hb7)
   have HB7:=bth HB6 hb7
   have HS7:=HSX.out _ HB7.out
   have hp6:W.heap.size ≤ W.heap.size:=Nat.le_refl _
   clear hb7 hx6
   go_wp2
   refine ⟨HS7,?_⟩
   refine WL.tk 7 HS7 ?_
   refine WL.tk 8 HS7 ?_
   refine WL.tk 9 HS7 ?_
   obtain ⟨P,hP⟩:∃ P,P = W.heap.size:=⟨_,rfl⟩
   rw [← hP] at HX7 
   have hp6:W.heap.size ≤ P:=by omega
   simp only [← hP]
   clear hP HS6
  all_goals
   refine WL.on 11 ?_
   refine aj rfl 33 _ _ rfl P 0 [.int .i64 o.kind,.string o.body] rfl rfl 2 rfl (by have:=HX7.out.there;simpa [] using this) cB (by intro v hv;simp at hv;rcases hv with rfl | rfl <;> rfl) ?_
   simp only [Act.put,nz]
   have HB8:=ah (below_setCells (B:=W.heap.size) (a:=W) P hp6 [.int .i64 o.kind,.string o.body] 0 w7 HB7.out)
   have HX8:=ah (HX7.out.set (us:=[.int .i64 o.kind,.string o.body]) (by simp []))
   have HW8:Hid (Chg (fun k => k = P) w7 (w7.setCells P 0 [.int .i64 o.kind,.string o.body])):=ah (eD P [.int .i64 o.kind,.string o.body] w7)
   generalize w7.setCells P 0 [.int .i64 o.kind,.string o.body] = w8 at HB8 HX8 HW8
   have HS8:=HSX.out _ HB8.out
   refine ⟨HS8,?_⟩
   refine WL.la 12 ?_
   clear HS8 HS7 HS0 HX7 HB7
  all_goals
   have hPl:=HX8.out.lt
   have hpr:=HX8.out.range
   have c32:=HC32.out w8 HB8.out
   have h2o:(prog.info? 33).map (·.size) = some ([.int .i64 o.kind,.string o.body]:List Value).length:=cB
   have HXR:=ah (HX1.out.below HB8.out)
   have HBW8:=ah (HBW.out.trans (HB8.out.mono HBW.out.size))
   clear HB8 HW8 HX0
   go_upto_region 2 with fail
   by_cases hk0:c.2 = 0
   ·have e0:(c.2 == 0) = true:=by rw [beq_iff_eq];exact hk0
    have HK:Hid (decide (c.2 = 0 ∨ c.2 = o.kind) = true):=ah (decide_eq_true (.inl hk0))
    clear hk0
    have hpk:=hpr 0 _ rfl
    rw [Nat.zero_add] at hpk
    have hbd:Below w8.heap.size w8 w8.drew:=(Below.refl _ _).drew
    have hS0:w8.drew.cell? ⟨w.heap.size,32,none⟩ = some (.int .i64 c.2) ∧ w8.drew.rangeAt P 0 [.int .i64 o.kind,.string o.body] ∧ w8.drew.cell? ⟨P,0,none⟩ = some (.int .i64 o.kind):=⟨c32,hpr,hpk⟩
    refine wrL 15 (fun x => x.cell? ⟨w.heap.size,32,none⟩ = some (.int .i64 c.2) ∧ x.rangeAt P 0 [.int .i64 o.kind,.string o.body] ∧ x.cell? ⟨P,0,none⟩ = some (.int .i64 o.kind)) ?_
    refine WL.tk 0 hS0 ?_ (hy:=(fun w' hSw => aK 33 _ (hSw.2.1) underlying33 rfl h2o _ rfl rfl))
    refine WL.tk 1 hS0 ?_
    refine WL.tk 2 hS0 ?_
    refine WL.tk 3 hS0 ?_
    refine WL.tk 4 hS0 ?_
    refine WL.tk 5 hS0 ?_
    refine WL.tk 6 hS0 ?_
    refine WL.skip (i:=7) rfl (by kernel_rfl) (by decide) (by decide +kernel) (by decide +kernel) (fun _ _ _ h => h) rfl hS0 ?_
    simp only [Act.put,nz]
    refine WL.skip (i:=8) rfl (by kernel_rfl) (by decide) (by decide +kernel) (by decide +kernel) (fun _ _ _ h => h) rfl hS0 ?_
    simp only [Act.put,nz]
    refine WL.skip (i:=9) rfl (by kernel_rfl) (by decide) (by decide +kernel) (by decide +kernel) (fun _ _ _ h => h) rfl hS0 ?_
    simp only [Act.put,nz]
    refine WL.skip (i:=10) rfl (by kernel_rfl) (by decide) (by decide +kernel) (by decide +kernel) (fun _ _ _ h => h) rfl hS0 ?_
    simp only [Act.put,nz]
    refine WL.skip (i:=11) rfl (by kernel_rfl) (by decide) (by decide +kernel) (by decide +kernel) (fun _ _ _ h => h) rfl hS0 ?_
    simp only [Act.put,nz]
    refine WL.tk 12 hS0 ?_
    refine WL.tk 13 hS0 ?_
    refine WL.on 14 ?_
    obtain ⟨WE,hWE⟩:∃ z,w8.drew.setCells (w.heap.size + 1) 0 [.int .i64 o.kind,.string o.body] = z:=⟨_,rfl⟩
    have hth:=(HXR.out.below hbd).there
    have hre:WE.rangeAt (w.heap.size + 1) 0 [.int .i64 o.kind,.string o.body]:=by rw [← hWE];exact ((HXR.out.below hbd).set (us:=[.int .i64 o.kind,.string o.body]) rfl).range
    have HBE:Hid (Below w.heap.size w WE):=ah (by rw [← hWE];exact below_setCells _ (by omega) _ _ _ (HBW8.out.trans (hbd.mono HBW8.out.size)))
    have hws:=HWS.out
    have hSE:WE.cell? ⟨w.heap.size,32,none⟩ = some (.int .i64 c.2) ∧ WE.rangeAt P 0 [.int .i64 o.kind,.string o.body] ∧ WE.cell? ⟨P,0,none⟩ = some (.int .i64 o.kind):=by
     rw [← hWE]
     exact ⟨(World.cell?_setCells_out _ _ 0 w8.drew _ (fun e _ => absurd e (by show ¬ w.heap.size = w.heap.size + 1;omega))).trans hS0.1,World.rangeAt_setCells_apart hS0.2.1 _ 0 _ (.inl (by omega)),(World.cell?_setCells_out _ _ 0 w8.drew _ (fun e _ => absurd e (by show ¬ P = w.heap.size + 1;omega))).trans hS0.2.2⟩
    refine aj rfl 33 _ _ rfl (w.heap.size + 1) 0 [.int .i64 o.kind,.string o.body] rfl rfl 2 rfl hth cB (by intro v hv;simp at hv;rcases hv with rfl | rfl <;> rfl) ?_
    rw [hWE]
    simp only [Act.put,nz]
    refine ⟨hSE,?_⟩
    refine WL.la 15 ?_
    clear hSE hS0 hth hWE hbd hpk
    go_wp2_with fail
    refine aL rfl (w.heap.size + 1) 0 rfl [.int .i64 o.kind,.string o.body] _ hre underlying33 rfl h2o rfl _ rfl ?_
    exact HYES.out o true WE HFO.out HK.out HBE.out
   have e0:(c.2 == 0) = false:=by rw [beq_eq_false_iff_ne];exact hk0
   obtain ⟨bb,hbb⟩:∃ z,(c.2 == o.kind) = z:=⟨_,rfl⟩
   have HK:Hid (decide (c.2 = 0 ∨ c.2 = o.kind) = bb):=ah (by
    rw [← hbb]
    by_cases h:c.2 = o.kind
    ·rw [decide_eq_true (.inr h),beq_iff_eq.2 h]
    rw [decide_eq_false (fun h2 => h2.elim hk0 h),beq_eq_false_iff_ne.2 h])
   clear hk0
   have hpk:=hpr 0 _ rfl
   rw [Nat.zero_add] at hpk
   have hbd:Below w8.heap.size w8 w8.drew:=(Below.refl _ _).drew
   have hS0:w8.drew.cell? ⟨w.heap.size,32,none⟩ = some (.int .i64 c.2) ∧ w8.drew.rangeAt P 0 [.int .i64 o.kind,.string o.body] ∧ w8.drew.cell? ⟨P,0,none⟩ = some (.int .i64 o.kind):=⟨c32,hpr,hpk⟩
   refine wrL 15 (fun x => x.cell? ⟨w.heap.size,32,none⟩ = some (.int .i64 c.2) ∧ x.rangeAt P 0 [.int .i64 o.kind,.string o.body] ∧ x.cell? ⟨P,0,none⟩ = some (.int .i64 o.kind)) ?_
   refine WL.tk 0 hS0 ?_ (hy:=(fun w' hSw => aK 33 _ (hSw.2.1) underlying33 rfl h2o _ rfl rfl))
   refine WL.tk 1 hS0 ?_
   refine WL.tk 2 hS0 ?_
   refine WL.tk 3 hS0 ?_
   refine WL.tk 4 hS0 ?_
   refine WL.tk 5 hS0 ?_
   refine WL.tk 6 hS0 ?_
   refine WL.tk 7 hS0 ?_
   refine WL.tk 8 hS0 ?_
   refine WL.tk 9 hS0 ?_
   refine WL.tk 10 hS0 ?_
   refine WL.tk 11 hS0 ?_
   refine WL.tk 12 hS0 ?_
   refine WL.tk 13 hS0 ?_
   refine WL.on 14 ?_
   obtain ⟨WE,hWE⟩:∃ z,w8.drew.setCells (w.heap.size + 1) 0 [.int .i64 o.kind,.string o.body] = z:=⟨_,rfl⟩
   have hth:=(HXR.out.below hbd).there
   have hre:WE.rangeAt (w.heap.size + 1) 0 [.int .i64 o.kind,.string o.body]:=by rw [← hWE];exact ((HXR.out.below hbd).set (us:=[.int .i64 o.kind,.string o.body]) rfl).range
   have HBE:Hid (Below w.heap.size w WE):=ah (by rw [← hWE];exact below_setCells _ (by omega) _ _ _ (HBW8.out.trans (hbd.mono HBW8.out.size)))
   have hws:=HWS.out
   have hSE:WE.cell? ⟨w.heap.size,32,none⟩ = some (.int .i64 c.2) ∧ WE.rangeAt P 0 [.int .i64 o.kind,.string o.body] ∧ WE.cell? ⟨P,0,none⟩ = some (.int .i64 o.kind):=by
    rw [← hWE]
    exact ⟨(World.cell?_setCells_out _ _ 0 w8.drew _ (fun e _ => absurd e (by show ¬ w.heap.size = w.heap.size + 1;omega))).trans hS0.1,World.rangeAt_setCells_apart hS0.2.1 _ 0 _ (.inl (by omega)),(World.cell?_setCells_out _ _ 0 w8.drew _ (fun e _ => absurd e (by show ¬ P = w.heap.size + 1;omega))).trans hS0.2.2⟩
   refine aj rfl 33 _ _ rfl (w.heap.size + 1) 0 [.int .i64 o.kind,.string o.body] rfl rfl 2 rfl hth cB (by intro v hv;simp at hv;rcases hv with rfl | rfl <;> rfl) ?_
   rw [hWE]
   simp only [Act.put,nz]
   refine ⟨hSE,?_⟩
   refine WL.la 15 ?_
   clear hSE hS0 hth hWE hbd hpk
   go_wp2_with fail
   refine aL rfl (w.heap.size + 1) 0 rfl [.int .i64 o.kind,.string o.body] _ hre underlying33 rfl h2o rfl _ rfl ?_
   exact HYES.out o bb WE HFO.out HK.out HBE.out
end
def VisP (F:List Ob) (c:Idl × Int) (Q:List (Idl × Int)) (ms:List Idl) (lk:List (Idl × Int)) (Q':List (Idl × Int)) (ms':List Idl) (lk':List (Idl × Int)):Prop :=
 (kidF F c = false ∧ Q' = Q ∧ ms' = ms ∧ lk' = lk ++ [c]) ∨ (kidF F c = true ∧ c.1 ∈ ms ∧ Q' = Q ∧ ms' = ms ∧ lk' = lk) ∨
 (kidF F c = true ∧ c.1 ∉ ms ∧ ms' = addI ms c.1 ∧ lk' = lk ∧ ∃ cs,Q' = Q ++ cs ∧ cs.length ≤ 40 ∧ ∀ o,fndF F c.1 = some o → o.kind = 1 → cs = [])
theorem WKs.more {Bs:Nat} {w0 w:World} {wb sb vb mb:Nat} {qv lv:Value} {Q:List (Idl × Int)} {n n':Nat} {ms:List Idl} {lk:List (Idl × Int)} (h:WKs Bs w0 w wb sb vb mb qv lv Q n ms lk) (hn:n ≤ n'):WKs Bs w0 w wb sb vb mb qv lv Q n' ms lk:=⟨h.box,h.q,h.l,h.vis.mono hn,h.mks.mono hn,h.q32,h.l32,h.ge,h.ne,h.qs,h.ls,h.bel⟩
section
variable {Bs:Nat} {w0 w:World} {wb sb vb mb:Nat} {qv lv:Value} {Q:List (Idl × Int)} {n:Nat} {ms:List Idl} {lk:List (Idl × Int)} {F:List Ob}
theorem Bf (h:WKs Bs w0 w wb sb vb mb qv lv Q n ms lk) (x:Idl) (ck:Int) (hx:x.length = 32) (h0:0 ≤ ck) (h3:ck ≤ 3) (hQ:Q.length ≤ 1000000) (hn:n ≤ 1000000) (hlk:lk.length ≤ 1000000)
  (HG:Hid (∀ (y:Idl),y.length = 32 → ∀ V,Below Bs w0 V → Calls prog 12 #[.pointer (some ⟨sb,0,none⟩),.agg (idC y).toArray] V (l7 (fndF F y) V))) :
  Calls prog 179 #[.pointer (some ⟨wb,0,none⟩),.agg (chC (x,ck)).toArray] w fun e w' => e = .returned (.tuple #[]) ∧ ∃ qv' lv' Q' ms' lk',WKs Bs w0 w' wb sb vb mb qv' lv' Q' (n + 2) ms' lk' ∧ VisP F (x,ck) Q ms lk Q' ms' lk':=by
 obtain ⟨zc,hzc,hzcl⟩:=og
 obtain ⟨W,hW⟩:∃ W,w.alloc (.cells (chC (x,ck)).toArray 259) = W:=⟨_,rfl⟩
 have hbW:Below w.heap.size w W:=by rw [← hW];exact bal
 have hxW:BoxL W w.heap.size 259 (chC (x,ck)):=by rw [← hW];exact BoxL.new w 259 (chC (x,ck))
 have HXW:=ah hxW
 have HWW:=ah (h.below hbW)
 have HW0:=ah h
 have HXL:=ah hx
 have HK0:=ah h0
 have HK3:=ah h3
 have HQL:=ah hQ
 have HNL:=ah hn
 have HLL:=ah hlk
 have HCL:Hid ((chC (x,ck)).length = 33):=ah (iw hx)
 have HCO:=ah (qU (x,ck))
 have h33:(prog.info? 259).map (·.size) = some (chC (x,ck)).length:=by rw [HCL.out];exact tu
 have h32:(prog.info? 42).map (·.size) = some (idC x).length:=by rw [au,hx];exact bL
 have HRI:Hid (∀ V:World,V.rangeAt w.heap.size 0 (chC (x,ck)) → V.rangeAt w.heap.size 0 (idC x)):=ah fun V hr j u hu => hr j u (by unfold chC;rw [List.getElem?_append_left (List.getElem?_eq_some_iff.1 hu).1];exact hu)
 obtain ⟨qa,qc,rfl⟩:=h.q.iP
 obtain ⟨la,lc,rfl⟩:=h.l.iP
 have HW:=ah hW
 have hwl:=h.box.lt
 clear h hx h0 h3 hQ hn hlk hW hbW hxW
 obtain ⟨cc,hcc⟩:∃ z,chC (x,ck) = z:=⟨_,rfl⟩
 have HCC:=ah hcc
 rw [hcc] at HXW HCL HCO h33 HRI HW ⊢
 clear hcc
 go_enter func179,ntmps179
 go_upto_region 1 with fail
 rw [HW.out]
 have hS0:W.drew.cell? ⟨wb,2,none⟩ = some (.map (some vb)) ∧ W.drew.rangeAt w.heap.size 0 cc:=⟨HWW.out.cell rfl,HXW.out.range⟩
 refine wrL 5 (fun y => y.cell? ⟨wb,2,none⟩ = some (.map (some vb)) ∧ y.rangeAt w.heap.size 0 cc) ?_
 refine WL.tk 0 hS0 ?_
 refine WL.tk 1 hS0 ?_
 refine WL.tk 2 hS0 ?_
 refine WL.tk 3 hS0 ?_
 refine WL.tk 4 hS0 ?_ (hy:=(fun w' hSw => aK 259 _ (hSw.2) underlying259 rfl h33 _ rfl rfl))
 refine WL.la 5 ?_
 clear hS0
 obtain ⟨wd,hwd⟩:∃ z,W.drew = z:=⟨_,rfl⟩
 have hbd:Below W.heap.size W wd:=by rw [← hwd];exact (Below.refl _ _).drew
 simp only [hwd]
 have HWD:=ah (HWW.out.below hbd)
 have HXD:=ah (HXW.out.below hbd)
 clear hwd hbd HW
 refine qD rfl _ _ _ 254 4 rfl underlying254 vb n rfl HWD.out.vis x ck HXL.out HK0.out (by have:=HK3.out;omega) true (by rw [HCC.out];rfl) rfl (by have:=HNL.out;unfold maxLen;omega) ?_
 intro w1 g1 g2
 simp only [Act.put,nz]
 have hvl:=HW0.out.vis.lt
 have HW1:=ah (HWD.out.setV g2 g1)
 have HX1:=ah (HXD.out.chg (dK g2) (by omega))
 clear g1 g2
 have HMG:=ah (GL HW1.out (x,ck) HXL.out (ah fun V hb => HG.out x HXL.out V (HW1.out.bel.trans (hb.mono (by have:=HW1.out.ge.1;have:=HW1.out.box.lt;omega)))))
 have e1:=HX1.out.range
 rw [HCC.out] at HMG
 unfold Df at HMG
 go_wp2_with (refine wpList_load_mid rfl 259 _ rfl w.heap.size 0 rfl cc _ e1 underlying259 rfl h33 ?_)
 refine HMG.out.mono ?_
 rintro e w2 ⟨⟨k,s,rfl,hks⟩,hb2⟩
 have HKS:=ah hks
 have HW2:=ah (HW1.out.below hb2)
 have HX2:=ah (HX1.out.below hb2)
 clear hb2 hks e1 HMG
 go_upto_region 3 with fail
 have hb3:Below w2.heap.size w2 (w2.alloc (.cells #[.int .i64 k,.string s] 33)):=bal
 have hx3:BoxL (w2.alloc (.cells #[.int .i64 k,.string s] 33)) w2.heap.size 33 [.int .i64 k,.string s]:=BoxL.new w2 33 [.int .i64 k,.string s]
 generalize w2.alloc (.cells #[.int .i64 k,.string s] 33) = w3 at hb3 hx3 ⊢
 have HW3:=ah (HW2.out.below hb3)
 have HX3:=ah (HX2.out.below hb3)
 have HP3:=ah hx3
 have hP:w.heap.size < w2.heap.size:=HX2.out.lt
 clear hb3 hx3
 cases hkf:kidF F (x,ck) with
 | false =>
  have HKF:=ah hkf
  clear hkf
  go_upto_region 4 with fail
  have hS0:w3.drew.cell? ⟨wb,4,none⟩ = some (.slice la lk.length lc) ∧ w3.drew.rangeAt w.heap.size 0 cc:=⟨HW3.out.cell rfl,HX3.out.range⟩
  refine wrL 10 (fun y => y.cell? ⟨wb,4,none⟩ = some (.slice la lk.length lc) ∧ y.rangeAt w.heap.size 0 cc) ?_
  refine WL.tk 0 hS0 ?_
  refine WL.tk 1 hS0 ?_
  refine WL.tk 2 hS0 ?_
  refine WL.tk 3 hS0 ?_
  refine WL.tk 4 hS0 ?_
  refine WL.tk 5 hS0 ?_ (hy:=(fun w' hSw => aK 259 _ (hSw.2) underlying259 rfl h33 _ rfl rfl))
  refine WL.on 6 ?_
  refine av rfl (.tmp 25) 255 259 rfl cc zc rfl underlying255 (fun w => by rw [HCL.out];kernel_rfl) hzc (by rw [HCL.out];omega) (by rw [HCL.out];omega) ?_
  simp only [Act.put,nz]
  have hbd:Below w3.heap.size w3 w3.drew:=(Below.refl _ _).drew
  obtain ⟨wd,hwd⟩:∃ z,w3.drew = z:=⟨_,rfl⟩
  rw [hwd] at hbd hS0 ⊢
  have HWD:=ah (HW3.out.below hbd)
  have HXD:=ah (HX3.out.below hbd)
  have hb6:Below wd.heap.size wd (wd.alloc (.cells cc.toArray 259)):=bal
  have HX6:Hid (BoxL (wd.alloc (.cells cc.toArray 259)) wd.heap.size 259 cc):=ah (BoxL.new wd 259 cc)
  generalize wd.alloc (.cells cc.toArray 259) = w6 at hb6 HX6 ⊢
  have HW6:=ah (HWD.out.below hb6)
  have HXN6:=ah (HXD.out.below hb6)
  have hS6:w6.cell? ⟨wb,4,none⟩ = some (.slice la lk.length lc) ∧ w6.rangeAt w.heap.size 0 cc:=⟨HW6.out.cell rfl,HXN6.out.range⟩
  clear hb6 hS0 hwd hbd
  refine ⟨hS6,?_⟩
  refine WL.on 7 ?_
  refine dX rfl _ _ rfl Bs (.slice la lk.length lc) lk.length (chV lk) rfl HW6.out.l (some ⟨wd.heap.size,0,none⟩) 1 1 [(x,ck)] rfl rfl (fun r hr => by simp at hr;rw [hr];exact HXL.out) (fun _ => ⟨_,rfl,fun j u hu => by
   rw [Addr.add_mid]
   have:chV [(x,ck)] = cc:=by rw [← HCC.out];simp [chV]
   rw [this] at hu
   exact HX6.out.range j u hu⟩) (by have:=HLL.out;omega) (by have:=HW6.out.ge.1;have:=HW6.out.box.lt;omega) ?_
  intro v' w7 g1 g2 g3
  simp only [Act.put,nz]
  have hln:∀ k,(Value.slice la lk.length lc).ownBlock = some k → k < w.heap.size:=fun k hk => HW0.out.l.olt k hk
  have hc7:Chg (fun k => (Value.slice la lk.length lc).ownBlock = some k) w6 w7:=⟨g2.os,g2.tape,g2.output,g2.size,fun k hk hn => g2.block k hk fun e => hn e.symm⟩
  have hlt6:Bs ≤ w6.heap.size:=by have:=HW6.out.ge.1;have:=HW6.out.box.lt;omega
  have HW8:Hid (WKs Bs w0 (w7.setCell ⟨wb,4,none⟩ v') wb sb vb mb (.slice qa Q.length qc) v' Q (n + 1) ms (lk ++ [(x,ck)])):=ah (HW6.out.setL hc7 (by rw [List.length_append,qR];exact g1) (fun c hc => by
   rcases List.mem_append.1 hc with h | h
   ·exact HW6.out.l32 c h
   ·simp at h;rw [h];exact ⟨HXL.out,HK0.out,HK3.out⟩) (fun k hk => by
   rcases g3 with e | e
   ·exact .inl (by rw [← e];exact hk)
   exact .inr (e k hk)) ((Below.refl Bs w6).grown g2 hlt6 (fun k hk => HW6.out.l.blkR k hk)))
  have hS7:w7.cell? ⟨wb,4,none⟩ = some (.slice la lk.length lc) ∧ w7.rangeAt w.heap.size 0 cc:=⟨((HW6.out.box.chg hc7 (fun e => (HW6.out.ls _ e).1 rfl)).range 4 _ rfl),(HXN6.out.chg hc7 (fun e => by have:=hln _ e;omega)).range⟩
  have f7:w7.frozen? ⟨wb,4,none⟩ = false:=by have:=((HW6.out.box.chg hc7 (fun e => (HW6.out.ls _ e).1 rfl)).there 4 (by simp)).2;rwa [Nat.zero_add] at this
  obtain ⟨va,vc,rfl⟩:=g1.iP
  clear g1 g2 g3 hc7 hln hlt6 hS6
  refine ⟨hS7,?_⟩
  refine WL.tk 8 hS7 ?_
  refine WL.tk 9 hS7 ?_
  refine WL.la 10 ?_
  have c7:=hS7.1
  clear hS7
  go_wp2_with fail
  go_end0
  exact ⟨rfl,_,_,Q,ms,_,HW8.out.more (by omega),.inl ⟨HKF.out,rfl,rfl,rfl⟩⟩
 | true =>
  have HKF:=ah hkf
  clear hkf
  have hlook:∀ V,SetI V mb (n + 1) ms → (Instr.lookup 69 (.map (some mb)) (.agg (idC x).toArray) false).run prog V = .ok (.bool (decide (x ∈ ms))) V:=fun V hs => by
   have:=hs.1.look underlying69 (mW V) HXL.out
   unfold setF at this
   by_cases hm:x ∈ ms
   ·rw [decide_eq_true hm];rw [if_pos hm] at this;exact this
   rw [decide_eq_false hm];rw [if_neg hm] at this;exact this
  obtain ⟨ci,hci⟩:∃ z,idC x = z:=⟨_,rfl⟩
  have HCI:=ah hci
  rw [hci] at h32 HRI hlook
  obtain ⟨mm,hmm⟩:∃ z,decide (x ∈ ms) = z:=⟨_,rfl⟩
  rw [hmm] at hlook
  have HMM:=ah hmm
  have hbd:Below w3.heap.size w3 w3.drew:=(Below.refl _ _).drew
  have hS0:w3.drew.cell? ⟨wb,3,none⟩ = some (.map (some mb)) ∧ w3.drew.rangeAt w.heap.size 0 ci ∧ (Instr.lookup 69 (.map (some mb)) (.agg ci.toArray) false).run prog w3.drew = .ok (.bool mm) w3.drew:=⟨HW3.out.cell rfl,HRI.out _ HX3.out.range,hlook _ (HW3.out.below hbd).mks⟩
  clear hci hmm hlook
  go_upto_region 5 with fail
  refine wrL 8 (fun y => y.cell? ⟨wb,3,none⟩ = some (.map (some mb)) ∧ y.rangeAt w.heap.size 0 ci ∧ (Instr.lookup 69 (.map (some mb)) (.agg ci.toArray) false).run prog y = .ok (.bool mm) y) ?_
  refine WL.tk 0 hS0 ?_
  refine WL.tk 1 hS0 ?_
  refine WL.tk 2 hS0 ?_
  refine WL.tk 3 hS0 ?_
  refine WL.tk 4 hS0 ?_
  refine WL.tk 5 hS0 ?_ (hy:=(fun w' hSw => aK 42 _ (hSw.2.1) underlying42 rfl h32 _ rfl rfl))
  refine WL.take (i:=6) (v:=.bool mm) rfl (by kernel_rfl) (by decide) (by decide +kernel) (by decide +kernel) (fun _ _ _ h => h) rfl (fun w' hSw => lN rfl rfl rfl hSw.2.2) hS0 ?_
  simp only [Act.put,nz]
  refine WL.tk 7 hS0 ?_
  refine WL.la 8 ?_
  clear hS0
  obtain ⟨wd,hwd⟩:∃ z,w3.drew = z:=⟨_,rfl⟩
  rw [hwd] at hbd
  simp only [hwd]
  have HWD:=ah (HW3.out.below hbd)
  have HXD:=ah (HX3.out.below hbd)
  have HPD:=ah (HP3.out.below hbd)
  clear hwd hbd
  cases mm with
  | true =>
   have HIN:Hid (x ∈ ms):=ah (of_decide_eq_true HMM.out)
   go_wp2_with fail
   go_end0
   exact ⟨rfl,_,_,Q,ms,lk,HWD.out.more (by omega),.inr (.inl ⟨HKF.out,HIN.out,rfl,rfl,rfl⟩)⟩
  | false =>
   have HIN:Hid (x ∉ ms):=ah (of_decide_eq_false HMM.out)
   go_upto_region 6 with fail
   have hS0:wd.drew.cell? ⟨wb,3,none⟩ = some (.map (some mb)) ∧ wd.drew.rangeAt w.heap.size 0 ci:=⟨HWD.out.cell rfl,HRI.out _ HXD.out.range⟩
   refine wrL 6 (fun y => y.cell? ⟨wb,3,none⟩ = some (.map (some mb)) ∧ y.rangeAt w.heap.size 0 ci) ?_
   refine WL.tk 0 hS0 ?_
   refine WL.tk 1 hS0 ?_
   refine WL.tk 2 hS0 ?_
   refine WL.tk 3 hS0 ?_
   refine WL.tk 4 hS0 ?_
   refine WL.tk 5 hS0 ?_ (hy:=(fun w' hSw => aK 42 _ (hSw.2) underlying42 rfl h32 _ rfl rfl))
   refine WL.la 6 ?_
   clear hS0
   have hbd:Below wd.heap.size wd wd.drew:=(Below.refl _ _).drew
   obtain ⟨we,hwe⟩:∃ z,wd.drew = z:=⟨_,rfl⟩
   rw [hwe] at hbd
   simp only [hwe]
   have HWE:=ah (HWD.out.below hbd)
   have HPE:=ah (HPD.out.below hbd)
   clear hwe hbd
   refine bR rfl _ _ _ 69 4 rfl underlying69 mb (n + 1) (setF ms) rfl HWE.out.mks.1 x HXL.out true (by rw [HCI.out];rfl) rfl (by have:=HNL.out;unfold maxLen;omega) ?_
   intro wf g1 g2
   simp only [Act.put,nz]
   have hml:=HW0.out.mks.lt
   have HWF:=ah (HWE.out.setM g2 (HWE.out.mks.add HXL.out g1) (HWE.out.vis.mono (by omega)))
   have HPF:=ah (HPE.out.chg (dK g2) (by omega))
   clear g1 g2 hml
   go_upto_region 7 with fail
   have HCH:=ah (fun V => uT k s V)
   unfold Jg at HCH
   have h2:(prog.info? 33).map (·.size) = some ([.int .i64 k,.string s]:List Value).length:=cB
   have hS0:wf.drew.cell? ⟨wb,1,none⟩ = some (.slice qa Q.length qc) ∧ wf.drew.rangeAt w2.heap.size 0 [.int .i64 k,.string s]:=⟨HWF.out.cell rfl,HPF.out.range⟩
   refine wrL 10 (fun y => y.cell? ⟨wb,1,none⟩ = some (.slice qa Q.length qc) ∧ y.rangeAt w2.heap.size 0 [.int .i64 k,.string s]) ?_
   refine WL.tk 0 hS0 ?_
   refine WL.tk 1 hS0 ?_
   refine WL.tk 2 hS0 ?_
   refine WL.tk 3 hS0 ?_
   refine WL.tk 4 hS0 ?_
   refine WL.tk 5 hS0 ?_ (hy:=(fun w' hSw => aK 33 _ (hSw.2) underlying33 rfl h2 _ rfl rfl))
   refine WL.on 6 ?_
   go_wp2_with fail
   refine (HCH.out wf.drew).mono ?_
   rintro e w6 ⟨cv,cs,rfl,hcq,hc32,hcl,hc1,hb6⟩
   have hb6':=bA hb6
   have HW6:=ah (HWF.out.below hb6')
   have HP6:=ah (HPF.out.below hb6')
   have hS6:w6.cell? ⟨wb,1,none⟩ = some (.slice qa Q.length qc) ∧ w6.rangeAt w2.heap.size 0 [.int .i64 k,.string s]:=⟨HW6.out.cell rfl,HP6.out.range⟩
   obtain ⟨ca,cb,rfl⟩:=hcq.iP
   have HCQ:=ah hcq
   have HC32:=ah hc32
   have HC1:=ah hc1
   have HCN:=ah hcl
   clear hb6 hb6' hS0 hcq hc32 hc1 hcl
   go_wp2_with fail
   refine ⟨hS6,?_⟩
   refine WL.on 7 ?_
   refine dX rfl _ _ rfl Bs (.slice qa Q.length qc) Q.length (chV Q) rfl HW6.out.q ca cs.length cb cs rfl rfl (fun r hr => (HC32.out r hr).1) (fun hp => by
    rcases HCQ.out.2 with ⟨_,e⟩ | ⟨g,off,cap,e,_,_,_,_,_,hr⟩
    ·omega
    injection e with e _ _
    exact ⟨_,e,fun j u hu => by rw [Addr.add_mid];exact hr j u hu⟩) (by have:=HQL.out;have:=HCN.out;omega) (by have:=HW6.out.ge.1;have:=HW6.out.box.lt;omega) ?_
   intro v' w7 g1 g2 g3
   simp only [Act.put,nz]
   have hqn:∀ k,(Value.slice qa Q.length qc).ownBlock = some k → k < w.heap.size:=fun k hk => HW0.out.q.olt k hk
   have hc7:Chg (fun k => (Value.slice qa Q.length qc).ownBlock = some k) w6 w7:=⟨g2.os,g2.tape,g2.output,g2.size,fun k hk hn => g2.block k hk fun e => hn e.symm⟩
   have hlt6:Bs ≤ w6.heap.size:=by have:=HW6.out.ge.1;have:=HW6.out.box.lt;omega
   have HW8:Hid (WKs Bs w0 (w7.setCell ⟨wb,1,none⟩ v') wb sb vb mb v' (.slice la lk.length lc) (Q ++ cs) (n + 1 + 1) (addI ms x) lk):=ah (HW6.out.setQ hc7 (by rw [List.length_append,qR];exact g1) (fun c hc => by
    rcases List.mem_append.1 hc with h | h
    ·exact HW6.out.q32 c h
    ·exact HC32.out c h) (fun k hk => by
    rcases g3 with e | e
    ·exact .inl (by rw [← e];exact hk)
    exact .inr (e k hk)) ((Below.refl Bs w6).grown g2 hlt6 (fun k hk => HW6.out.q.blkR k hk)))
   have hS7:w7.cell? ⟨wb,1,none⟩ = some (.slice qa Q.length qc) ∧ w7.rangeAt w2.heap.size 0 [.int .i64 k,.string s]:=⟨((HW6.out.box.chg hc7 (fun e => (HW6.out.qs _ e).1 rfl)).range 1 _ rfl),(HP6.out.chg hc7 (fun e => by have:=hqn _ e;omega)).range⟩
   have f7:w7.frozen? ⟨wb,1,none⟩ = false:=by have:=((HW6.out.box.chg hc7 (fun e => (HW6.out.qs _ e).1 rfl)).there 1 (by simp)).2;rwa [Nat.zero_add] at this
   obtain ⟨va,vc,rfl⟩:=g1.iP
   clear g1 g2 g3 hc7 hqn hlt6 hS6
   refine ⟨hS7,?_⟩
   refine WL.tk 8 hS7 ?_
   refine WL.tk 9 hS7 ?_
   refine WL.la 10 ?_
   have c7:=hS7.1
   clear hS7
   go_wp2_with fail
   go_end0
   exact ⟨rfl,_,_,_,_,lk,HW8.out,.inr (.inr ⟨HKF.out,HIN.out,rfl,rfl,cs,rfl,HCN.out,fun o ho h1 => HC1.out (by rw [(HKS.out o ho).1];exact h1)⟩)⟩
end
end
end Go.Proofs.YtlhcoanbhnphgaaGreatDoor

/- A part of this claim. -/
import Derived.Test.YtijhemdnajlfnaaGreatDoorR36
import Derived.Test.YtijhemdnajlfnaaGreatDoorR40
import Derived.Test.YtijhemdnajlfnaaGreatDoorR41
import Derived.Test.YtijhemdnajlfnaaGreatDoorR42
namespace Go.Proofs.YtijhemdnajlfnaaGreatDoor
open Tryz
set_option maxHeartbeats 64000000
set_option maxRecDepth 100000
set_option linter.all false
section
open Go.RowKit Go.Maps Go.Shelf
theorem IV {P:Program} {fn:Func} {R:Ending → World → Prop} {a:Act} {w:World} {p q r:Tmp} {ty:TypeId} (h:fn.results = #[.cell p ty,.tmp q,.tmp r]) (b o:Nat)
  (hp:a.tmps.getD p undef = .pointer (some ⟨b,o,none⟩)) (cs:List Value) (d:TypeDesc) (hc:w.rangeAt b o cs)
  (hu:P.underlying ty = some d) (hd:d.isRow = true) (hi:(P.info? ty).map (·.size) = some cs.length) (hdef:a.defers = []) (u v:Value) (hq:a.tmps.getD q undef = u) (hr:a.tmps.getD r undef = v) (hR:R (.returned (.tuple #[.agg cs.toArray,u,v])) w):bodyPost P fn R .ret a w:=by
 refine bodyPost_ret (v:=.tuple #[.agg cs.toArray,u,v]) ?_ hdef hR
 have:=run_loadVar_mid (P:=P) w b o ty cs d hc hu hd hi
 simp only [results,h]
 rw [Array.getD_eq_getD_getElem?] at hp hq hr
 simp [asAddr,hp,hq,hr,this]
theorem DF (w:World):Calls prog 142 #[.pointer none] w fun e w' => e = .returned (.int .i64 3) ∧ w' = w:=by
 go_enter func142,ntmps142
 go_wp2_with fail
 go_ret
 exact ⟨rfl,rfl⟩
theorem LC (m:Int) (w:World):Calls prog 107 #[.pointer none,.int .i64 m] w fun e w' => e = .returned (.int .i64 0) ∧ w' = w:=by
 have HE:=ah (DF w)
 go_enter func107,ntmps107
 go_wp2_with fail
 refine fE (fun _ _ _ => False) (fun _ _ _ => 0) (fun l a w hJ => hJ.elim) ?_
 intro _
 go_wp2_with fail
 refine HE.out.mono ?_
 rintro e w1 ⟨rfl,rfl⟩
 go_wp2_with fail
 rw [Exit.fT]
 go_ret
 exact ⟨rfl,rfl⟩
theorem MN (w:World):Calls prog 79 #[.pointer none] w fun e w' => e = .returned (.int .i64 3) ∧ w' = w:=by
 have HE:=ah (DF w)
 go_enter func79,ntmps79
 go_wp2_with fail
 refine HE.out.mono ?_
 rintro e w1 ⟨rfl,rfl⟩
 go_wp2_with fail
 go_ret
 exact ⟨rfl,rfl⟩
theorem F7 (s:ByteArray) (w:World):Calls prog 87 #[.string s,.string ⟨#[72]⟩] w fun e w' => e = .returned (.tuple #[.string ⟨(Lib.trimPrefix s.data.toList [72]).toArray⟩,.bool (Lib.hasPrefix s.data.toList [72])]) ∧ w' = w :=
 Any.strings_CutPrefix Tryz.lays103 s ⟨#[72]⟩ w
theorem K7:((rd0 ⟨#[]⟩).text 65536).2 = ⟨#[]⟩:=by decide +kernel
theorem D9 (b:Nat) (w:World) (ha:Arr w b 3 (rd0 ⟨#[]⟩).c) (hc:Crc w) (hb:3 < b):Calls prog 106 #[.pointer (some ⟨b,0,none⟩),.string ⟨#[72]⟩] w fun e w' => e = .returned (.pointer none) ∧ Chg (fun k => k = b) w w':=by
 have HT:=ah (kC b (rd0 ⟨#[]⟩) 65536 w ha (gW _ (by decide)) (by decide))
 rw [K7] at HT
 have HC:=ah hc
 clear ha hc
 go_enter func106,ntmps106
 go_wp2_with fail
 refine HT.out.mono ?_
 rintro e w1 ⟨rfl,_,hg1⟩
 have hc1:Crc w1:=⟨dX HC.out.row hg1 (fun e => by have:=Option.some.inj e;omega),Nat.lt_of_lt_of_le HC.out.lt hg1.size⟩
 have HU:=ah (oh ⟨#[]⟩ w1 hc1 (by decide))
 rw [(jk (s:=⟨#[]⟩) (by decide)).1,(jk (s:=⟨#[]⟩) (by decide)).2] at HU
 have HG1:Hid (Chg (fun k => k = b) w w1):=ah (Chg.iW hg1 (fun k e => (Option.some.inj e).symm))
 clear hg1 hc1
 go_wp2_with fail
 refine HU.out.mono ?_
 rintro e w2 ⟨rfl,hb2⟩
 have HG2:Hid (Chg (fun k => k = b) w w2):=ah (HG1.out.trans (Chg.of_below hb2))
 have HCP:=ah (F7 ⟨#[]⟩ w2)
 clear hb2
 go_wp2_with fail
 refine HCP.out.mono ?_
 rintro e w3 ⟨rfl,rfl⟩
 go_wp2_with fail
 go_ret
 exact ⟨rfl,HG2.out⟩
theorem Ki (w:World):(Instr.build 140 #[]).run prog w = .ok (.agg #[.slice none 0 0,.slice none 0 0]) w:=run_build w 140 _ _ (by kernel_rfl)
theorem Me:(prog.info? 140).map (·.size) = some 2:=by decide +kernel
def RefJ (n:Nat) (w:World):Nat → Act → World → Prop
 | 0,a,w' => ∃ (v5 v6 v7 v8 v9 v10 v11 v12 v13 v14 v15 v16 v17 v18 v19 v20 v21 v22 v23 v24 v25 v26 v27 v28 v29 v30 v31 v32 v33 v34 v35 v36 v37 v38 v39 v40 v41 v42 v43 v44 v45 v46 v47 v48 v49 v50 v51 v52 v53 v54 v55 v56 v57 v58 v59 v60 v61:Value),a = { tmps:=#[.string ⟨#[]⟩,undef,.pointer (some ⟨n,0,none⟩),.int .i64 0,.int .i64 0,v5,v6,v7,v8,v9,v10,v11,v12,v13,v14,v15,v16,v17,v18,v19,v20,v21,v22,v23,v24,v25,v26,v27,v28,v29,v30,v31,v32,v33,v34,v35,v36,v37,v38,v39,v40,v41,v42,v43,v44,v45,v46,v47,v48,v49,v50,v51,v52,v53,v54,v55,v56,v57,v58,v59,v60,v61],defers:=[] } ∧
   Hid (BoxL w' n 140 [.slice none 0 0,.slice none 0 0] ∧ Below n w w')
 | _,_,_ => False
theorem IX (w:World) (hc:Crc w):Calls prog 58 #[.string ⟨#[]⟩] w fun e w' => e = .returned (.tuple #[.agg #[.slice none 0 0,.slice none 0 0],.int .i64 0,.int .i64 2]) ∧ Below w.heap.size w w':=by
 have hbz:=Ki
 have HC:=ah hc
 obtain ⟨n,hn⟩:∃ n,w.heap.size = n:=⟨_,rfl⟩
 rw [hn]
 have HN:=ah hn
 clear hc hn
 go_enter func58,ntmps58
 go_wp2_with fail
 obtain ⟨W0,hW0⟩:∃ W,w.alloc (.cells #[.slice none 0 0,.slice none 0 0] 140) = W:=⟨_,rfl⟩
 have HX0:Hid (BoxL W0 n 140 [.slice none 0 0,.slice none 0 0]):=ah (by rw [← hW0,← HN.out];exact BoxL.new w 140 [.slice none 0 0,.slice none 0 0])
 have HB0:Hid (Below n w W0):=ah (by rw [← hW0,← HN.out];exact bal)
 have HS0:Hid (W0.heap.size = n + 1):=ah (by rw [← hW0,← HN.out];simp)
 rw [hW0,HN.out]
 clear hW0
 refine fE (RefJ n w) (fun _ _ _ => 0) ?_ ?_
 ·rintro l a w' hJ _
  match l,hJ with
  | 0,hJ =>
   refine ⟨_,rfl,?_⟩
   obtain ⟨v5,v6,v7,v8,v9,v10,v11,v12,v13,v14,v15,v16,v17,v18,v19,v20,v21,v22,v23,v24,v25,v26,v27,v28,v29,v30,v31,v32,v33,v34,v35,v36,v37,v38,v39,v40,v41,v42,v43,v44,v45,v46,v47,v48,v49,v50,v51,v52,v53,v54,v55,v56,v57,v58,v59,v60,v61,rfl,hx⟩:=hJ
   have hth:w'.there n 0 2:=hx.out.1.there
   have h2r:(prog.info? 140).map (·.size) = some ([.slice none 0 0,.slice none 0 0]:List Value).length:=Me
   have HIB:=ah Me
   obtain ⟨WE,hWE⟩:∃ WE,w'.setCells n 0 [.slice none 0 0,.slice none 0 0] = WE:=⟨_,rfl⟩
   have HRE:Hid (BoxL WE n 140 [.slice none 0 0,.slice none 0 0]):=ah (by rw [← hWE];exact hx.out.1.set rfl)
   have HBE:Hid (Below n w WE):=ah (by rw [← hWE];exact below_setCells _ (Nat.le_refl _) _ _ _ hx.out.2)
   have HWE:=ah hWE
   clear hWE
   go_wp2_with (refine aj rfl 140 _ _ rfl n 0 [.slice none 0 0,.slice none 0 0] rfl rfl 2 rfl hth HIB.out (by intro v hv;simp at hv;rw [hv];rfl) ?_;rw [HWE.out])
   have hre:=HRE.out.range
   rw [Exit.fT]
   refine IV rfl n 0 rfl [.slice none 0 0,.slice none 0 0] _ hre underlying140 rfl h2r rfl _ _ rfl rfl ?_
   exact ⟨rfl,HBE.out⟩
 intro _
 have HNR:=ah (nV ⟨#[]⟩ W0)
 go_wp2_with fail
 refine HNR.out.mono ?_
 rintro e w1 ⟨rfl,hw1⟩
 obtain ⟨m,hm⟩:∃ m,W0.heap.size = m:=⟨_,rfl⟩
 have HA1:Hid (Arr w1 m 3 (rd0 ⟨#[]⟩).c):=ah (by rw [hw1,← hm];exact jK _ W0 _)
 have HB1:Hid (Below m W0 w1):=ah (by rw [hw1,← hm];exact bal)
 rw [hm]
 have HMM:=ah hm
 clear hm hw1
 go_upto_region 3 with fail
 obtain ⟨W2,hW2⟩:∃ W,(w1.alloc (.cells #[.slice none 0 0,.slice none 0 0] 140)).alloc (.cells #[.slice none 0 0,.slice none 0 0] 140) = W:=⟨_,rfl⟩
 have hb2:Below w1.heap.size w1 W2:=by rw [← hW2];exact bal.alloc (by simp) _
 have hml:m < w1.heap.size:=HA1.out.lt (by omega)
 have HA2:=ah (HA1.out.below hb2 hml)
 have HB2:Hid (Below m W0 W2):=ah (HB1.out.trans (hb2.mono (by omega)))
 have hc2:Crc W2:=(HC.out.below (by rw [HN.out];exact HB0.out)).below (by rw [HMM.out];exact HB2.out)
 have HU:=ah (D9 m W2 HA2.out hc2 (by have h1:=(HC.out.below (by rw [HN.out];exact HB0.out)).lt;have h2:=HMM.out;omega))
 have HNU:=ah (fun W => LC 16 W)
 have HEU:=ah (fun W => MN W)
 rw [hW2]
 clear hW2 hb2 hml hc2
 go_wp2_with fail
 refine HU.out.mono ?_
 rintro e w3 ⟨rfl,hg3⟩
 have HJ:Hid (BoxL w3 n 140 [.slice none 0 0,.slice none 0 0] ∧ Below n w w3):=ah ⟨(HX0.out.below (by rw [HMM.out];exact HB2.out)).chg hg3 (by have h1:=HMM.out;have h2:=HS0.out;omega),Chg.below (HB0.out.trans (HB2.out.mono (by have h1:=HMM.out;have h2:=HS0.out;omega))) hg3 (by have h1:=HMM.out;have h2:=HS0.out;have:=HB2.out.size;omega) (fun k hk => by have h1:=HMM.out;have h2:=HS0.out;omega)⟩
 clear hg3
 go_wp2_with fail
 refine (HNU.out _).mono ?_
 rintro e w4 ⟨rfl,rfl⟩
 go_wp2_with fail
 refine wp_loop_rounds 1 ?_
 rw [rounds_succ]
 go_wp2_with fail
 refine (HEU.out _).mono ?_
 rintro e w5 ⟨rfl,rfl⟩
 go_wp2_with fail
 refine wp_goto ?_
 simp only [Exit.then,Exit.Fz]
 exact ⟨_,_,_,_,_,_,_,_,_,_,_,_,_,_,_,_,_,_,_,_,_,_,_,_,_,_,_,_,_,_,_,_,_,_,_,_,_,_,_,_,_,_,_,_,_,_,_,_,_,_,_,_,_,_,_,_,_,rfl,HJ⟩
end
section
open Go.RowKit
theorem zI:∀ i:Fin 16,lX (digB i.val) = true:=by decide +kernel
theorem JN (x:List UInt8):(hexL x).all lX = true:=by
 unfold hexL
 induction x with
 | nil => rfl
 | cons a x ih =>
  have ha:=a.toNat_lt
  rw [List.flatMap_cons,List.all_append,ih,Bool.and_true]
  simp only [List.all_cons,List.all_nil,Bool.and_true,Bool.and_eq_true]
  exact ⟨zI ⟨a.toNat / 16,by omega⟩,zI ⟨a.toNat % 16,by omega⟩⟩
theorem zu {x:List UInt8} (hx:x.length = 32):aX (ofB (hexL x)) = true:=by
 have h:=kQ x
 have e:(ofB (hexL x)).data.toList = hexL x:=by simp [ofB]
 unfold aX
 rw [e,JN,aM,decide_eq_true (by omega),decide_eq_true (by omega)]
 rfl
theorem yD (d:Dk) {nm:ByteArray} (h:aX nm = true):rdD d bV nm = match d 0 nm with | none => (⟨#[]⟩,6) | some s => (s,0):=by
 unfold rdD
 rw [if_pos h]
 rfl
def xD (d:Dk) (x:List UInt8) (w:World) (e:Ending) (w':World):Prop :=
 (match bW d x with
 | .inl k => e = .returned (.tuple #[.agg #[.int .i64 0,.string ⟨#[]⟩],.int .i64 (k:Int)])
 | .inr o => e = .returned (.tuple #[.agg (obC o).toArray,.int .i64 0])) ∧ Below w.heap.size w w'
theorem pW {d:Dk} {x:List UInt8} {k:Nat} {w w':World} (h:bW d x = .inl k) (hb:Below w.heap.size w w'):xD d x w (.returned (.tuple #[.agg #[.int .i64 0,.string ⟨#[]⟩],.int .i64 (k:Int)])) w':=⟨by rw [h],hb⟩
theorem zh {d:Dk} {x:List UInt8} {o:Ob} {c:List Value} {w w':World} (h:bW d x = .inr o) (hc:obC o = c) (hb:Below w.heap.size w w'):xD d x w (.returned (.tuple #[.agg c.toArray,.int .i64 0])) w':=⟨by rw [h,← hc],hb⟩
theorem LW (g:Nat) (d:Dk) (x:List UInt8) (w:World) (hx:x.length = 32) (hD:fu w g d) (hd:∀ k nm s,d k nm = some s → s.size ≤ 1000000) (hG:Glob w):Calls prog 333 #[.pointer (some ⟨g,0,none⟩),.agg (idC x).toArray] w (xD d x w):=by
 have hbn:=vC
 have h32x:(prog.info? 24).map (·.size) = some (idC x).length:=by rw [aD,hx];kernel_rfl
 have hnz:(ofB (hexL x)).size = 64:=by rw [aM,kQ,hx]
 obtain ⟨W0,hW0⟩:∃ W,(w.alloc (.cells (idC x).toArray 24)).alloc (.cells #[.int .i64 0,.string ⟨#[]⟩] 40) = W:=⟨_,rfl⟩
 have HI0:Hid (BoxL W0 w.heap.size 24 (idC x)):=ah (by
  rw [← hW0]
  exact (BoxL.new w 24 (idC x)).below bal)
 have HX0:Hid (BoxL W0 (w.heap.size + 1) 40 [.int .i64 0,.string ⟨#[]⟩]):=ah (by
  rw [← hW0]
  have:=BoxL.new (w.alloc (.cells (idC x).toArray 24)) 40 [.int .i64 0,.string ⟨#[]⟩]
  rwa [World.size_alloc] at this)
 have HB0:Hid (Below w.heap.size w W0):=ah (by rw [← hW0];exact bal.alloc (by simp) _)
 have HG:=ah hG
 have HDK:=ah hD
 have HSZ:=ah hd
 have HNM:=ah (fun W => zf x hx W)
 have HRD:=ah (yD d (zu hx))
 have HGL:Hid (bW d x = match d 0 (ofB (hexL x)) with | none => .inl 6 | some b => match rdLo (ofB (hexL x)) b with | none => .inl 17 | some o => .inr o):=ah rfl
 have HIO:=ah aF
 have HW0:=ah hW0
 have hr0:=HI0.out.range
 clear hW0 hD hd hG hx
 generalize ofB (hexL x) = nm at HNM HRD HGL hnz
 generalize idC x = cx at HNM HI0 HW0 h32x hr0 ⊢
 go_enter func333,ntmps333
 go_upto_region 1 with fail
 rw [HW0.out]
 go_wp2_with (refine wpList_load_mid rfl 24 _ rfl w.heap.size 0 rfl cx _ hr0 underlying24 rfl h32x ?_)
 refine (HNM.out _).mono ?_
 rintro e w1 ⟨rfl,hb1⟩
 have HB1:=bth HB0 hb1
 have HI1:=ah (HI0.out.below hb1)
 have HX1:=ah (HX0.out.below hb1)
 have HR:=ah (jV g d bV nm w1 (HDK.out.below HB1.out) (by decide) (by omega))
 unfold lN at HR
 rw [HRD.out] at HR
 clear hb1 hr0
 cases hdn:d 0 nm with
 | none =>
  rw [hdn] at HR
  dsimp only at HR
  have HNO:Hid (bW d x = .inl 6):=ah (by rw [HGL.out,hdn])
  clear hdn HGL HRD
  go_wp2_with fail
  refine HR.out.mono ?_
  rintro e w2 ⟨rfl,hb2⟩
  have HB2:=bth HB1 hb2
  have HX2:=ah (HX1.out.below hb2)
  clear hb2
  go_upto_region 3 with fail
  have hth:w2.there (w.heap.size + 1) 0 2:=HX2.out.there
  have h2r:(prog.info? 40).map (·.size) = some ([.int .i64 0,.string ⟨#[]⟩]:List Value).length:=aF
  obtain ⟨WE,hWE⟩:∃ WE,w2.setCells (w.heap.size + 1) 0 [.int .i64 0,.string ⟨#[]⟩] = WE:=⟨_,rfl⟩
  have HRE:Hid (BoxL WE (w.heap.size + 1) 40 [.int .i64 0,.string ⟨#[]⟩]):=ah (by rw [← hWE];exact HX2.out.set rfl)
  have HBE:Hid (Below w.heap.size w WE):=ah (by rw [← hWE];exact below_setCells _ (Nat.le_succ _) _ _ _ HB2.out)
  have HWE:=ah hWE
  clear hWE
  go_wp2_with (refine aj rfl 40 _ _ rfl (w.heap.size + 1) 0 [.int .i64 0,.string ⟨#[]⟩] rfl rfl 2 rfl hth HIO.out (by intro v hv;simp at hv;rcases hv with rfl | rfl <;> rfl) ?_;rw [HWE.out])
  have hre:=HRE.out.range
  (try simp only [Exit.inBlock,Exit.then])
  refine aB rfl (w.heap.size + 1) 0 rfl [.int .i64 0,.string ⟨#[]⟩] _ hre underlying40 rfl h2r rfl _ rfl ?_
  exact pW HNO.out HBE.out
 | some b =>
  rw [hdn] at HR
  dsimp only at HR
  have HGL2:Hid (bW d x = match rdLo nm b with | none => .inl 17 | some o => .inr o):=ah (by rw [HGL.out,hdn])
  have hbs:=HSZ.out _ _ _ hdn
  clear hdn HGL HRD
  go_wp2_with fail
  refine HR.out.mono ?_
  rintro e w2 ⟨rfl,hb2⟩
  have HB2:=bth HB1 hb2
  have HX2:=ah (HX1.out.below hb2)
  have HI2:=ah (HI1.out.below hb2)
  have r2:=HI2.out.range
  clear hb2 HR
  go_wp2_with (refine wpList_load_mid rfl 24 _ rfl w.heap.size 0 rfl cx _ r2 underlying24 rfl h32x ?_)
  refine (HNM.out _).mono ?_
  rintro e w3 ⟨rfl,hb3⟩
  have HB3:=bth HB2 hb3
  have HX3:=ah (HX2.out.below hb3)
  have HL:=ah (JE nm b w3 hbs (HG.out.below HB3.out))
  unfold zX at HL
  clear hb3 r2 h32x
  cases hrl:rdLo nm b with
  | none =>
   rw [hrl] at HL HGL2
   dsimp only at HL
   have HNO:Hid (bW d x = .inl 17):=HGL2
   clear hrl
   go_wp2_with fail
   refine HL.out.mono ?_
   rintro e w4 ⟨rfl,hb4⟩
   have HB4:=bth HB3 hb4
   have HX4:=ah (HX3.out.below hb4)
   clear hb4
   have HT5:=ah (there_alloc (n:=2) w4 #[.int .i64 0,.string ⟨#[]⟩] 40 rfl)
   obtain ⟨W5,hW5⟩:∃ W,(w4.alloc (.cells #[.int .i64 0,.string ⟨#[]⟩] 40)).setCells w4.heap.size 0 [.int .i64 0,.string ⟨#[]⟩] = W:=⟨_,rfl⟩
   have hb5:Below w4.heap.size w4 W5:=by rw [← hW5];exact below_setCells _ (Nat.le_refl _) _ _ _ bal
   have HX5:=ah (HX4.out.below hb5)
   have HB5:=bth HB4 hb5
   have HW5:=ah hW5
   clear hW5 hb5
   go_upto_region 6 with (refine aj rfl 40 _ _ rfl w4.heap.size 0 [.int .i64 0,.string ⟨#[]⟩] rfl rfl 2 rfl HT5.out HIO.out (by intro v hv;simp at hv;rcases hv with rfl | rfl <;> rfl) ?_;rw [HW5.out])
   have hth:W5.there (w.heap.size + 1) 0 2:=HX5.out.there
   have h2r:(prog.info? 40).map (·.size) = some ([.int .i64 0,.string ⟨#[]⟩]:List Value).length:=aF
   obtain ⟨WE,hWE⟩:∃ WE,W5.setCells (w.heap.size + 1) 0 [.int .i64 0,.string ⟨#[]⟩] = WE:=⟨_,rfl⟩
   have HRE:Hid (BoxL WE (w.heap.size + 1) 40 [.int .i64 0,.string ⟨#[]⟩]):=ah (by rw [← hWE];exact HX5.out.set rfl)
   have HBE:Hid (Below w.heap.size w WE):=ah (by rw [← hWE];exact below_setCells _ (Nat.le_succ _) _ _ _ HB5.out)
   have HWE:=ah hWE
   clear hWE
   go_wp2_with (refine aj rfl 40 _ _ rfl (w.heap.size + 1) 0 [.int .i64 0,.string ⟨#[]⟩] rfl rfl 2 rfl hth HIO.out (by intro v hv;simp at hv;rcases hv with rfl | rfl <;> rfl) ?_;rw [HWE.out])
   have hre:=HRE.out.range
   (try simp only [Exit.inBlock,Exit.then])
   refine aB rfl (w.heap.size + 1) 0 rfl [.int .i64 0,.string ⟨#[]⟩] _ hre underlying40 rfl h2r rfl _ rfl ?_
   exact pW HNO.out HBE.out
  | some o =>
   rw [hrl] at HL HGL2
   dsimp only at HL
   have HYE:Hid (bW d x = .inr o):=HGL2
   have HOC1:=ah (dx o)
   have HOCL:Hid ((obC o).length = 2):=ah rfl
   clear hrl
   generalize hco:obC o = co at HL HOC1 HOCL
   have HCO:=ah hco
   clear hco
   go_wp2_with fail
   refine HL.out.mono ?_
   rintro e w4 ⟨rfl,hb4⟩
   have HB4:=bth HB3 hb4
   have HX4:=ah (HX3.out.below hb4)
   clear hb4
   have HT5:=ah (there_alloc (n:=2) w4 #[.int .i64 0,.string ⟨#[]⟩] 40 rfl)
   obtain ⟨W5,hW5⟩:∃ W,(w4.alloc (.cells #[.int .i64 0,.string ⟨#[]⟩] 40)).setCells w4.heap.size 0 co = W:=⟨_,rfl⟩
   have HOX7:Hid (BoxL W5 w4.heap.size 40 co):=ah (by rw [← hW5];exact (BoxL.new w4 40 [.int .i64 0,.string ⟨#[]⟩]).set (by rw [HOCL.out];rfl))
   have hb5:Below w4.heap.size w4 W5:=by rw [← hW5];exact below_setCells _ (Nat.le_refl _) _ _ _ bal
   have HX5:=ah (HX4.out.below hb5)
   have HB5:=bth HB4 hb5
   have h2o:(prog.info? 40).map (·.size) = some co.length:=by rw [HOCL.out];exact aF
   have HW5:=ah hW5
   clear hW5 hb5
   go_upto_region 7 with (refine aj rfl 40 _ _ rfl w4.heap.size 0 co rfl rfl 2 HOCL.out HT5.out HIO.out HOC1.out ?_;rw [HW5.out])
   have hth:W5.there (w.heap.size + 1) 0 2:=HX5.out.there
   have h2r:(prog.info? 40).map (·.size) = some (co:List Value).length:=by rw [HOCL.out];exact aF
   obtain ⟨WE,hWE⟩:∃ WE,W5.setCells (w.heap.size + 1) 0 co = WE:=⟨_,rfl⟩
   have HRE:Hid (BoxL WE (w.heap.size + 1) 40 co):=ah (by rw [← hWE];exact HX5.out.set (by rw [HOCL.out];rfl))
   have HBE:Hid (Below w.heap.size w WE):=ah (by rw [← hWE];exact below_setCells _ (Nat.le_succ _) _ _ _ HB5.out)
   have HWE:=ah hWE
   clear hWE
   have r7:=HOX7.out.range
   go_wp2_with (first
    | refine wpList_load_mid rfl 40 _ rfl w4.heap.size 0 rfl co _ r7 underlying40 rfl h2o ?_
    | (refine aj rfl 40 _ _ rfl (w.heap.size + 1) 0 co rfl rfl 2 HOCL.out hth HIO.out HOC1.out ?_;rw [HWE.out]))
   have hre:=HRE.out.range
   (try simp only [Exit.inBlock,Exit.then])
   refine aB rfl (w.heap.size + 1) 0 rfl co _ hre underlying40 rfl h2r rfl _ rfl ?_
   exact zh HYE.out HCO.out HBE.out
def sloB:ByteArray:=⟨#[83,76,79,49]⟩
theorem slice_head (s:ByteArray) (k:Nat) (h:k ≤ s.size) (w:World):(Instr.slice 9 (.string s) none (some (.int .i64 (k:Int))) none).run prog w = .ok (.string (s.extract 0 k)) w:=by
 simp [Instr.slice,run_underlying underlying9,Instr.sliceBounds,Instr.sliceBound,asIntOf]
 intro hh
 omega
theorem ou (s:ByteArray) (k:Nat) (h:k ≤ s.size) (w:World):(Instr.slice 9 (.string s) (some (.int .i64 (k:Int))) none none).run prog w = .ok (.string (s.extract k s.size)) w:=by
 simp [Instr.slice,run_underlying underlying9,Instr.sliceBounds,Instr.sliceBound,asIntOf]
 intro hh
 omega
theorem iA (s:ByteArray) (k:Nat) (h:k ≤ s.size):(s.extract k s.size).data.toList = s.data.toList.drop k:=by
 have e:s.size = k + (s.size - k):=by omega
 conv => lhs;rw [e]
 rw [extract_drop]
 refine List.take_of_length_le ?_
 rw [List.length_drop]
 have:s.data.toList.length = s.size:=by simp
 omega
theorem Ku (b:ByteArray):(unS b).size ≤ b.size:=by
 unfold unS
 cases hu:bK b.data.toList with
 | none => exact Nat.zero_le _
 | some l =>
  show (ofB l).size ≤ _
  rw [aM]
  unfold bK at hu
  split at hu
  ·cases hu
   rw [List.length_take]
   have:b.data.toList.length = b.size:=by simp
   omega
  cases hu
theorem LU {b:ByteArray} (h:unOk b = false):loOb b = none:=by
 unfold loOb
 unfold unOk at h
 cases hu:bK b.data.toList with
 | none => rfl
 | some l => rw [hu] at h;cases h
theorem Fh {b:ByteArray} (h:(unS b).size < 4):loOb b = none:=by
 unfold loOb
 unfold unS at h
 cases hu:bK b.data.toList with
 | none => rfl
 | some l =>
  rw [hu] at h
  change (ofB l).size < 4 at h
  rw [aM] at h
  dsimp only
  rw [if_neg]
  intro e
  have:=congrArg List.length e
  rw [List.length_take] at this
  change _ = 4 at this
  omega
theorem JG {b:ByteArray} (h0:unOk b = true) (h:4 ≤ (unS b).size):loOb b = if (unS b).extract 0 4 = sloB then aQ ((unS b).extract 4 (unS b).size).data.toList else none:=by
 unfold loOb
 unfold unOk at h0
 have e1:=jr (unS b) 4
 have e2:=iA (unS b) 4 h
 have e3:((unS b).extract 0 4 = sloB) ↔ (unS b).data.toList.take 4 = slo1:=by
  rw [← e1]
  exact ⟨fun h => by rw [h];rfl,fun h => fC (by rw [h];rfl)⟩
 cases hu:bK b.data.toList with
 | none => rw [hu] at h0;cases h0
 | some l =>
  dsimp only
  rw [e2]
  have el:(unS b).data.toList = l:=by
   unfold unS
   rw [hu]
   exact aW l
  rw [el] at e3 ⊢
  by_cases h4:l.take 4 = slo1
  ·rw [if_pos h4,if_pos (e3.2 h4)]
  rw [if_neg h4,if_neg (fun h => h4 (e3.1 h))]
theorem Ew (nm b:ByteArray) (w:World) (hb:b.size ≤ 1000000):Calls prog 45 #[.string nm,.string b] w (zX nm b w):=by
 have hbn:=vC
 obtain ⟨W0,hW0⟩:∃ W,w.alloc (.cells #[.int .i64 0,.string ⟨#[]⟩] 40) = W:=⟨_,rfl⟩
 have HX0:Hid (BoxL W0 w.heap.size 40 [.int .i64 0,.string ⟨#[]⟩]):=ah (by rw [← hW0];exact BoxL.new w 40 [.int .i64 0,.string ⟨#[]⟩])
 have HB0:Hid (Below w.heap.size w W0):=ah (by rw [← hW0];exact bal)
 have HUN:=ah (mo b W0 (by omega))
 have hus:(unS b).size ≤ 1000000:=Nat.le_trans (Ku b) hb
 have HRL:Hid (rdLo nm b = match loOb b with | none => none | some o => if ofB (hexL (idO o)) = nm then some o else none):=ah rfl
 have HIO:=ah aF
 have HW0:=ah hW0
 have HBAD:=ah (LU (b:=b))
 have HSH:=ah (Fh (b:=b))
 have HLO:=ah (JG (b:=b))
 clear hW0 hb
 generalize unS b = us at HUN hus HSH HLO
 generalize unOk b = u at HUN HBAD HLO
 have f0:((us.extract 0 4).toList == sloB.toList) = decide (us.extract 0 4 = sloB):=rD _ _
 rw [show sloB.toList = [83,76,79,49] from by rw [ByteArray.toList_eq];rfl] at f0
 have HSL1:=ah (fun (h:4 ≤ us.size) w => slice_head us 4 h w)
 have HSL2:=ah (fun (h:4 ≤ us.size) w => ou us 4 h w)
 have hez:4 ≤ us.size → (us.extract 4 us.size).size ≤ 1000000:=fun h => by
  rw [Lib.size_eq,iA us 4 h,List.length_drop]
  have:us.data.toList.length = us.size:=by simp
  omega
 generalize us.extract 0 4 = t at f0 HLO HSL1
 generalize us.extract 4 us.size = s at HLO HSL2 hez
 cases u with
 | false =>
  have HNO:Hid (rdLo nm b = none):=ah (by rw [HRL.out,HBAD.out rfl])
  clear HLO HSH HBAD f0 hez
  go_enter func45,ntmps45
  go_upto_region 1 with fail
  rw [HW0.out]
  go_wp2_with fail
  refine HUN.out.mono ?_
  rintro e w1 ⟨rfl,hb1⟩
  have HX1:=ah (HX0.out.below hb1)
  have HB1:=bth HB0 hb1
  clear hb1
  have hth:w1.there w.heap.size 0 2:=HX1.out.there
  have h2r:(prog.info? 40).map (·.size) = some ([.int .i64 0,.string ⟨#[]⟩]:List Value).length:=aF
  obtain ⟨WE,hWE⟩:∃ WE,w1.setCells w.heap.size 0 [.int .i64 0,.string ⟨#[]⟩] = WE:=⟨_,rfl⟩
  have HRE:Hid (BoxL WE w.heap.size 40 [.int .i64 0,.string ⟨#[]⟩]):=ah (by rw [← hWE];exact HX1.out.set rfl)
  have HBE:Hid (Below w.heap.size w WE):=ah (by rw [← hWE];exact below_setCells _ (Nat.le_refl _) _ _ _ HB1.out)
  have HWE:=ah hWE
  clear hWE
  go_wp2_with (refine aj rfl 40 _ _ rfl w.heap.size 0 [.int .i64 0,.string ⟨#[]⟩] rfl rfl 2 rfl hth HIO.out (by intro v hv;simp at hv;rcases hv with rfl | rfl <;> rfl) ?_;rw [HWE.out])
  have hre:=HRE.out.range
  (try simp only [Exit.inBlock,Exit.then])
  refine aB rfl w.heap.size 0 rfl [.int .i64 0,.string ⟨#[]⟩] _ hre underlying40 rfl h2r rfl _ rfl ?_
  exact ig HNO.out HBE.out
 | true =>
  by_cases h4:us.size < 4
  ·have d1:(us.size:Int) < 4:=by omega
   have HNO:Hid (rdLo nm b = none):=ah (by rw [HRL.out,HSH.out h4])
   clear HLO HSH HBAD f0 hez
   go_enter func45,ntmps45
   go_upto_region 1 with fail
   rw [HW0.out]
   go_wp2_with fail
   refine HUN.out.mono ?_
   rintro e w1 ⟨rfl,hb1⟩
   have HX1:=ah (HX0.out.below hb1)
   have HB1:=bth HB0 hb1
   clear hb1
   have hth:w1.there w.heap.size 0 2:=HX1.out.there
   have h2r:(prog.info? 40).map (·.size) = some ([.int .i64 0,.string ⟨#[]⟩]:List Value).length:=aF
   obtain ⟨WE,hWE⟩:∃ WE,w1.setCells w.heap.size 0 [.int .i64 0,.string ⟨#[]⟩] = WE:=⟨_,rfl⟩
   have HRE:Hid (BoxL WE w.heap.size 40 [.int .i64 0,.string ⟨#[]⟩]):=ah (by rw [← hWE];exact HX1.out.set rfl)
   have HBE:Hid (Below w.heap.size w WE):=ah (by rw [← hWE];exact below_setCells _ (Nat.le_refl _) _ _ _ HB1.out)
   have HWE:=ah hWE
   clear hWE
   go_wp2_with (refine aj rfl 40 _ _ rfl w.heap.size 0 [.int .i64 0,.string ⟨#[]⟩] rfl rfl 2 rfl hth HIO.out (by intro v hv;simp at hv;rcases hv with rfl | rfl <;> rfl) ?_;rw [HWE.out])
   have hre:=HRE.out.range
   (try simp only [Exit.inBlock,Exit.then])
   refine aB rfl w.heap.size 0 rfl [.int .i64 0,.string ⟨#[]⟩] _ hre underlying40 rfl h2r rfl _ rfl ?_
   exact ig HNO.out HBE.out
  have d1:¬ (us.size:Int) < 4:=by omega
  have h4':4 ≤ us.size:=by omega
  have hsl1:=HSL1.out h4'
  have hsl2:=HSL2.out h4'
  have hl:=HLO.out rfl h4'
  have hs:=hez h4'
  rw [show ((4:Nat):Int) = 4 from rfl] at hsl1 hsl2
  clear HLO HSH HBAD hez HSL1 HSL2
  by_cases ht:t = sloB
  ·rw [decide_eq_true ht] at f0
   rw [if_pos ht] at hl
   have HL:=ah hl
   clear hl ht
   go_enter func45,ntmps45
   go_upto_region 1 with fail
   rw [HW0.out]
   go_wp2_with fail
   refine HUN.out.mono ?_
   rintro e w1 ⟨rfl,hb1⟩
   have HX1:=ah (HX0.out.below hb1)
   have HB1:=bth HB0 hb1
   clear hb1
   have HOR:=ah (jR s w1 hs)
   go_wp2_with fail
   refine HOR.out.mono ?_
   rintro e w2 ⟨hb2,hans⟩
   have HX2:=ah (HX1.out.below hb2)
   have HB2:=bth HB1 hb2
   clear hb2
   have HT2:=ah (there_alloc (n:=2) w2 #[.int .i64 0,.string ⟨#[]⟩] 40 rfl)
   rcases hans with ⟨o,hro,rfl⟩ | ⟨hro,rfl⟩
   ·have HOC1:=ah (dx o)
    have HOCL:Hid ((obC o).length = 2):=ah rfl
    obtain ⟨W3,hW3⟩:∃ W,(w2.alloc (.cells #[.int .i64 0,.string ⟨#[]⟩] 40)).setCells w2.heap.size 0 (obC o) = W:=⟨_,rfl⟩
    have HOX3:Hid (BoxL W3 w2.heap.size 40 (obC o)):=ah (by rw [← hW3];exact (BoxL.new w2 40 [.int .i64 0,.string ⟨#[]⟩]).set rfl)
    have hb3:Below w2.heap.size w2 W3:=by rw [← hW3];exact below_setCells _ (Nat.le_refl _) _ _ _ bal
    have HX3:=ah (HX2.out.below hb3)
    have HB3:=bth HB2 hb3
    have hoz:o.body.size ≤ 100000:=by have:=mG (k:=o.kind) (s:=o.body) (dM hro);omega
    have HID:=ah (show Calls prog 32 #[.agg (obC o).toArray] W3 _ from uN o.kind o.body W3 hoz)
    have HLB:Hid (rdLo nm b = if ofB (hexL (idO o)) = nm then some o else none):=ah (by rw [HRL.out,HL.out,hro])
    have HHX:=ah (fun W => Cc (idO o) (dI o) W)
    have g0:=rD (ofB (hexL (idO o))) nm
    have HW3:=ah hW3
    clear hW3 hb3 hro hoz
    generalize hix:idC (idO ⟨o.kind,o.body⟩) = ix at HID
    have HHX2:Hid (∀ W,Calls prog 43 #[.agg ix.toArray] W fun e w' => e = .returned (.string (ofB (hexL (idO o)))) ∧ Below W.heap.size W w'):=ah (by rw [← hix];exact HHX.out)
    clear hix HHX
    generalize hox:ofB (hexL (idO o)) = hx at HLB HHX2 g0
    generalize hco:obC o = co at HOC1 HOCL HOX3 HW3 HID
    have HCO:=ah hco
    clear hco hox
    go_upto_region 5 with (refine aj rfl 40 _ _ rfl w2.heap.size 0 co rfl rfl 2 HOCL.out HT2.out HIO.out HOC1.out ?_;rw [HW3.out])
    have h2o:(prog.info? 40).map (·.size) = some co.length:=by rw [HOCL.out];exact aF
    have r3:=HOX3.out.range
    by_cases he:hx = nm
    ·rw [decide_eq_true he] at g0
     have HYE:Hid (rdLo nm b = some o):=ah (by rw [HLB.out,if_pos he])
     clear he
     go_wp2_with (refine aG rfl 40 _ rfl w2.heap.size 0 rfl co _ r3 underlying40 rfl h2o ?_)
     refine HID.out.mono ?_
     rintro e w4 ⟨rfl,hb4⟩
     have HB4:=bth HB3 hb4
     have HX4:=ah (HX3.out.below hb4)
     have HOX4:=ah (HOX3.out.below hb4)
     clear hb4 r3
     go_wp2_with fail
     refine (HHX2.out _).mono ?_
     rintro e w5 ⟨rfl,hb5⟩
     have HB5:=bth HB4 hb5
     have HX5:=ah (HX4.out.below hb5)
     have HOX5:=ah (HOX4.out.below hb5)
     clear hb5
     have r5:=HOX5.out.range
     have hth:w5.there w.heap.size 0 2:=HX5.out.there
     obtain ⟨WE,hWE⟩:∃ WE,w5.setCells w.heap.size 0 co = WE:=⟨_,rfl⟩
     have HRE:Hid (BoxL WE w.heap.size 40 co):=ah (by rw [← hWE];exact HX5.out.set (by rw [HOCL.out];rfl))
     have HBE:Hid (Below w.heap.size w WE):=ah (by rw [← hWE];exact below_setCells _ (Nat.le_refl _) _ _ _ HB5.out)
     have HWE:=ah hWE
     clear hWE
     go_wp2_with (first
      | refine wpList_load_mid rfl 40 _ rfl w2.heap.size 0 rfl co _ r5 underlying40 rfl h2o ?_
      | (refine aj rfl 40 _ _ rfl w.heap.size 0 co rfl rfl 2 HOCL.out hth HIO.out HOC1.out ?_;rw [HWE.out]))
     have hre:=HRE.out.range
     (try simp only [Exit.inBlock,Exit.then])
     refine aB rfl w.heap.size 0 rfl co _ hre underlying40 rfl h2o rfl _ rfl ?_
     exact y9 HYE.out HCO.out HBE.out
    rw [decide_eq_false he] at g0
    have HNO:Hid (rdLo nm b = none):=ah (by rw [HLB.out,if_neg he])
    clear he
    go_wp2_with (refine aG rfl 40 _ rfl w2.heap.size 0 rfl co _ r3 underlying40 rfl h2o ?_)
    refine HID.out.mono ?_
    rintro e w4 ⟨rfl,hb4⟩
    have HB4:=bth HB3 hb4
    have HX4:=ah (HX3.out.below hb4)
    have HOX4:=ah (HOX3.out.below hb4)
    clear hb4 r3
    go_wp2_with fail
    refine (HHX2.out _).mono ?_
    rintro e w5 ⟨rfl,hb5⟩
    have HB5:=bth HB4 hb5
    have HX5:=ah (HX4.out.below hb5)
    have HOX5:=ah (HOX4.out.below hb5)
    clear hb5
    have hth:w5.there w.heap.size 0 2:=HX5.out.there
    have h2r:(prog.info? 40).map (·.size) = some ([.int .i64 0,.string ⟨#[]⟩]:List Value).length:=aF
    obtain ⟨WE,hWE⟩:∃ WE,w5.setCells w.heap.size 0 [.int .i64 0,.string ⟨#[]⟩] = WE:=⟨_,rfl⟩
    have HRE:Hid (BoxL WE w.heap.size 40 [.int .i64 0,.string ⟨#[]⟩]):=ah (by rw [← hWE];exact HX5.out.set rfl)
    have HBE:Hid (Below w.heap.size w WE):=ah (by rw [← hWE];exact below_setCells _ (Nat.le_refl _) _ _ _ HB5.out)
    have HWE:=ah hWE
    clear hWE
    go_wp2_with (refine aj rfl 40 _ _ rfl w.heap.size 0 [.int .i64 0,.string ⟨#[]⟩] rfl rfl 2 rfl hth HIO.out (by intro v hv;simp at hv;rcases hv with rfl | rfl <;> rfl) ?_;rw [HWE.out])
    have hre:=HRE.out.range
    (try simp only [Exit.inBlock,Exit.then])
    refine aB rfl w.heap.size 0 rfl [.int .i64 0,.string ⟨#[]⟩] _ hre underlying40 rfl h2r rfl _ rfl ?_
    exact ig HNO.out HBE.out
   have HNO:Hid (rdLo nm b = none):=ah (by rw [HRL.out,HL.out,hro])
   obtain ⟨W3,hW3⟩:∃ W,(w2.alloc (.cells #[.int .i64 0,.string ⟨#[]⟩] 40)).setCells w2.heap.size 0 (obC ob0) = W:=⟨_,rfl⟩
   have hb3:Below w2.heap.size w2 W3:=by rw [← hW3];exact below_setCells _ (Nat.le_refl _) _ _ _ bal
   have HX3:=ah (HX2.out.below hb3)
   have HB3:=bth HB2 hb3
   have HW3:=ah hW3
   clear hW3 hb3 hro
   go_upto_region 5 with (refine aj rfl 40 _ _ rfl w2.heap.size 0 (obC ob0) rfl rfl 2 rfl HT2.out HIO.out (dx ob0) ?_;rw [HW3.out])
   have hth:W3.there w.heap.size 0 2:=HX3.out.there
   have h2r:(prog.info? 40).map (·.size) = some ([.int .i64 0,.string ⟨#[]⟩]:List Value).length:=aF
   obtain ⟨WE,hWE⟩:∃ WE,W3.setCells w.heap.size 0 [.int .i64 0,.string ⟨#[]⟩] = WE:=⟨_,rfl⟩
   have HRE:Hid (BoxL WE w.heap.size 40 [.int .i64 0,.string ⟨#[]⟩]):=ah (by rw [← hWE];exact HX3.out.set rfl)
   have HBE:Hid (Below w.heap.size w WE):=ah (by rw [← hWE];exact below_setCells _ (Nat.le_refl _) _ _ _ HB3.out)
   have HWE:=ah hWE
   clear hWE
   go_wp2_with (refine aj rfl 40 _ _ rfl w.heap.size 0 [.int .i64 0,.string ⟨#[]⟩] rfl rfl 2 rfl hth HIO.out (by intro v hv;simp at hv;rcases hv with rfl | rfl <;> rfl) ?_;rw [HWE.out])
   have hre:=HRE.out.range
   (try simp only [Exit.inBlock,Exit.then])
   refine aB rfl w.heap.size 0 rfl [.int .i64 0,.string ⟨#[]⟩] _ hre underlying40 rfl h2r rfl _ rfl ?_
   exact ig HNO.out HBE.out
  rw [decide_eq_false ht] at f0
  rw [if_neg ht] at hl
  have HNO:Hid (rdLo nm b = none):=ah (by rw [HRL.out,hl])
  clear hl ht
  go_enter func45,ntmps45
  go_upto_region 1 with fail
  rw [HW0.out]
  go_wp2_with fail
  refine HUN.out.mono ?_
  rintro e w1 ⟨rfl,hb1⟩
  have HX1:=ah (HX0.out.below hb1)
  have HB1:=bth HB0 hb1
  clear hb1
  have hth:w1.there w.heap.size 0 2:=HX1.out.there
  have h2r:(prog.info? 40).map (·.size) = some ([.int .i64 0,.string ⟨#[]⟩]:List Value).length:=aF
  obtain ⟨WE,hWE⟩:∃ WE,w1.setCells w.heap.size 0 [.int .i64 0,.string ⟨#[]⟩] = WE:=⟨_,rfl⟩
  have HRE:Hid (BoxL WE w.heap.size 40 [.int .i64 0,.string ⟨#[]⟩]):=ah (by rw [← hWE];exact HX1.out.set rfl)
  have HBE:Hid (Below w.heap.size w WE):=ah (by rw [← hWE];exact below_setCells _ (Nat.le_refl _) _ _ _ HB1.out)
  have HWE:=ah hWE
  clear hWE
  go_wp2_with (refine aj rfl 40 _ _ rfl w.heap.size 0 [.int .i64 0,.string ⟨#[]⟩] rfl rfl 2 rfl hth HIO.out (by intro v hv;simp at hv;rcases hv with rfl | rfl <;> rfl) ?_;rw [HWE.out])
  have hre:=HRE.out.range
  (try simp only [Exit.inBlock,Exit.then])
  refine aB rfl w.heap.size 0 rfl [.int .i64 0,.string ⟨#[]⟩] _ hre underlying40 rfl h2r rfl _ rfl ?_
  exact ig HNO.out HBE.out
theorem yA (g:Nat) (l:List Fl) (d:Dk) (x:List UInt8) (w:World) (hdl:datF l = d) (hx:x.length = 32) (hD:RdAt w g l) (hd:∀ k nm s,d k nm = some s → s.size ≤ 1000000):Calls prog 20 #[.pointer (some ⟨g,0,none⟩),.agg (idC x).toArray] w (xD d x w):=by
 have hbn:=vC
 have h32x:(prog.info? 24).map (·.size) = some (idC x).length:=by rw [aD,hx];kernel_rfl
 have hnz:(ofB (hexL x)).size = 64:=by rw [aM,kQ,hx]
 obtain ⟨W0,hW0⟩:∃ W,(w.alloc (.cells (idC x).toArray 24)).alloc (.cells #[.int .i64 0,.string ⟨#[]⟩] 40) = W:=⟨_,rfl⟩
 have HI0:Hid (BoxL W0 w.heap.size 24 (idC x)):=ah (by
  rw [← hW0]
  exact (BoxL.new w 24 (idC x)).below bal)
 have HX0:Hid (BoxL W0 (w.heap.size + 1) 40 [.int .i64 0,.string ⟨#[]⟩]):=ah (by
  rw [← hW0]
  have:=BoxL.new (w.alloc (.cells (idC x).toArray 24)) 40 [.int .i64 0,.string ⟨#[]⟩]
  rwa [World.size_alloc] at this)
 have HB0:Hid (Below w.heap.size w W0):=ah (by rw [← hW0];exact bal.alloc (by simp) _)
 have HDK:=ah hD
 have HDL:=ah hdl
 have HSZ:=ah hd
 have HNM:=ah (fun W => Cc x hx W)
 have HRD:=ah (yD d (zu hx))
 have HGL:Hid (bW d x = match d 0 (ofB (hexL x)) with | none => .inl 6 | some b => match rdLo (ofB (hexL x)) b with | none => .inl 17 | some o => .inr o):=ah rfl
 have HIO:=ah aF
 have HW0:=ah hW0
 have hr0:=HI0.out.range
 clear hW0 hdl hD hd hx
 generalize ofB (hexL x) = nm at HNM HRD HGL hnz
 generalize idC x = cx at HNM HI0 HW0 h32x hr0 ⊢
 go_enter func20,ntmps20
 go_upto_region 1 with fail
 rw [HW0.out]
 go_wp2_with (refine wpList_load_mid rfl 24 _ rfl w.heap.size 0 rfl cx _ hr0 underlying24 rfl h32x ?_)
 refine (HNM.out _).mono ?_
 rintro e w1 ⟨rfl,hb1⟩
 have HB1:=bth HB0 hb1
 have HI1:=ah (HI0.out.below hb1)
 have HX1:=ah (HX0.out.below hb1)
 have HR:=ah (rO g l bV nm w1 (HDK.out.below HB1.out) (by omega))
 rw [HDL.out] at HR
 unfold lN at HR
 rw [HRD.out] at HR
 clear hb1 hr0
 cases hdn:d 0 nm with
 | none =>
  rw [hdn] at HR
  dsimp only at HR
  have HNO:Hid (bW d x = .inl 6):=ah (by rw [HGL.out,hdn])
  clear hdn HGL HRD
  go_wp2_with fail
  refine HR.out.mono ?_
  rintro e w2 ⟨rfl,hb2⟩
  have HB2:=bth HB1 hb2
  have HX2:=ah (HX1.out.below hb2)
  clear hb2
  go_upto_region 3 with fail
  have hth:w2.there (w.heap.size + 1) 0 2:=HX2.out.there
  have h2r:(prog.info? 40).map (·.size) = some ([.int .i64 0,.string ⟨#[]⟩]:List Value).length:=aF
  obtain ⟨WE,hWE⟩:∃ WE,w2.setCells (w.heap.size + 1) 0 [.int .i64 0,.string ⟨#[]⟩] = WE:=⟨_,rfl⟩
  have HRE:Hid (BoxL WE (w.heap.size + 1) 40 [.int .i64 0,.string ⟨#[]⟩]):=ah (by rw [← hWE];exact HX2.out.set rfl)
  have HBE:Hid (Below w.heap.size w WE):=ah (by rw [← hWE];exact below_setCells _ (Nat.le_succ _) _ _ _ HB2.out)
  have HWE:=ah hWE
  clear hWE
  go_wp2_with (refine aj rfl 40 _ _ rfl (w.heap.size + 1) 0 [.int .i64 0,.string ⟨#[]⟩] rfl rfl 2 rfl hth HIO.out (by intro v hv;simp at hv;rcases hv with rfl | rfl <;> rfl) ?_;rw [HWE.out])
  have hre:=HRE.out.range
  (try simp only [Exit.inBlock,Exit.then])
  refine aB rfl (w.heap.size + 1) 0 rfl [.int .i64 0,.string ⟨#[]⟩] _ hre underlying40 rfl h2r rfl _ rfl ?_
  exact pW HNO.out HBE.out
 | some b =>
  rw [hdn] at HR
  dsimp only at HR
  have HGL2:Hid (bW d x = match rdLo nm b with | none => .inl 17 | some o => .inr o):=ah (by rw [HGL.out,hdn])
  have hbs:=HSZ.out _ _ _ hdn
  clear hdn HGL HRD
  go_wp2_with fail
  refine HR.out.mono ?_
  rintro e w2 ⟨rfl,hb2⟩
  have HB2:=bth HB1 hb2
  have HX2:=ah (HX1.out.below hb2)
  clear hb2 HR
  have HL:=ah (Ew nm b w2 hbs)
  unfold zX at HL
  clear h32x
  cases hrl:rdLo nm b with
  | none =>
   rw [hrl] at HL HGL2
   dsimp only at HL
   have HNO:Hid (bW d x = .inl 17):=HGL2
   clear hrl
   go_wp2_with fail
   refine HL.out.mono ?_
   rintro e w4 ⟨rfl,hb4⟩
   have HB4:=bth HB2 hb4
   have HX4:=ah (HX2.out.below hb4)
   clear hb4
   have HT5:=ah (there_alloc (n:=2) w4 #[.int .i64 0,.string ⟨#[]⟩] 40 rfl)
   obtain ⟨W5,hW5⟩:∃ W,(w4.alloc (.cells #[.int .i64 0,.string ⟨#[]⟩] 40)).setCells w4.heap.size 0 [.int .i64 0,.string ⟨#[]⟩] = W:=⟨_,rfl⟩
   have hb5:Below w4.heap.size w4 W5:=by rw [← hW5];exact below_setCells _ (Nat.le_refl _) _ _ _ bal
   have HX5:=ah (HX4.out.below hb5)
   have HB5:=bth HB4 hb5
   have HW5:=ah hW5
   clear hW5 hb5
   go_upto_region 6 with (refine aj rfl 40 _ _ rfl w4.heap.size 0 [.int .i64 0,.string ⟨#[]⟩] rfl rfl 2 rfl HT5.out HIO.out (by intro v hv;simp at hv;rcases hv with rfl | rfl <;> rfl) ?_;rw [HW5.out])
   have hth:W5.there (w.heap.size + 1) 0 2:=HX5.out.there
   have h2r:(prog.info? 40).map (·.size) = some ([.int .i64 0,.string ⟨#[]⟩]:List Value).length:=aF
   obtain ⟨WE,hWE⟩:∃ WE,W5.setCells (w.heap.size + 1) 0 [.int .i64 0,.string ⟨#[]⟩] = WE:=⟨_,rfl⟩
   have HRE:Hid (BoxL WE (w.heap.size + 1) 40 [.int .i64 0,.string ⟨#[]⟩]):=ah (by rw [← hWE];exact HX5.out.set rfl)
   have HBE:Hid (Below w.heap.size w WE):=ah (by rw [← hWE];exact below_setCells _ (Nat.le_succ _) _ _ _ HB5.out)
   have HWE:=ah hWE
   clear hWE
   go_wp2_with (refine aj rfl 40 _ _ rfl (w.heap.size + 1) 0 [.int .i64 0,.string ⟨#[]⟩] rfl rfl 2 rfl hth HIO.out (by intro v hv;simp at hv;rcases hv with rfl | rfl <;> rfl) ?_;rw [HWE.out])
   have hre:=HRE.out.range
   (try simp only [Exit.inBlock,Exit.then])
   refine aB rfl (w.heap.size + 1) 0 rfl [.int .i64 0,.string ⟨#[]⟩] _ hre underlying40 rfl h2r rfl _ rfl ?_
   exact pW HNO.out HBE.out
  | some o =>
   rw [hrl] at HL HGL2
   dsimp only at HL
   have HYE:Hid (bW d x = .inr o):=HGL2
   have HOC1:=ah (dx o)
   have HOCL:Hid ((obC o).length = 2):=ah rfl
   clear hrl
   generalize hco:obC o = co at HL HOC1 HOCL
   have HCO:=ah hco
   clear hco
   go_wp2_with fail
   refine HL.out.mono ?_
   rintro e w4 ⟨rfl,hb4⟩
   have HB4:=bth HB2 hb4
   have HX4:=ah (HX2.out.below hb4)
   clear hb4
   have HT5:=ah (there_alloc (n:=2) w4 #[.int .i64 0,.string ⟨#[]⟩] 40 rfl)
   obtain ⟨W5,hW5⟩:∃ W,(w4.alloc (.cells #[.int .i64 0,.string ⟨#[]⟩] 40)).setCells w4.heap.size 0 co = W:=⟨_,rfl⟩
   have HOX7:Hid (BoxL W5 w4.heap.size 40 co):=ah (by rw [← hW5];exact (BoxL.new w4 40 [.int .i64 0,.string ⟨#[]⟩]).set (by rw [HOCL.out];rfl))
   have hb5:Below w4.heap.size w4 W5:=by rw [← hW5];exact below_setCells _ (Nat.le_refl _) _ _ _ bal
   have HX5:=ah (HX4.out.below hb5)
   have HB5:=bth HB4 hb5
   have h2o:(prog.info? 40).map (·.size) = some co.length:=by rw [HOCL.out];exact aF
   have HW5:=ah hW5
   clear hW5 hb5
   go_upto_region 6 with (refine aj rfl 40 _ _ rfl w4.heap.size 0 co rfl rfl 2 HOCL.out HT5.out HIO.out HOC1.out ?_;rw [HW5.out])
   have hth:W5.there (w.heap.size + 1) 0 2:=HX5.out.there
   have h2r:(prog.info? 40).map (·.size) = some (co:List Value).length:=by rw [HOCL.out];exact aF
   obtain ⟨WE,hWE⟩:∃ WE,W5.setCells (w.heap.size + 1) 0 co = WE:=⟨_,rfl⟩
   have HRE:Hid (BoxL WE (w.heap.size + 1) 40 co):=ah (by rw [← hWE];exact HX5.out.set (by rw [HOCL.out];rfl))
   have HBE:Hid (Below w.heap.size w WE):=ah (by rw [← hWE];exact below_setCells _ (Nat.le_succ _) _ _ _ HB5.out)
   have HWE:=ah hWE
   clear hWE
   have r7:=HOX7.out.range
   go_wp2_with (first
    | refine wpList_load_mid rfl 40 _ rfl w4.heap.size 0 rfl co _ r7 underlying40 rfl h2o ?_
    | (refine aj rfl 40 _ _ rfl (w.heap.size + 1) 0 co rfl rfl 2 HOCL.out hth HIO.out HOC1.out ?_;rw [HWE.out]))
   have hre:=HRE.out.range
   (try simp only [Exit.inBlock,Exit.then])
   refine aB rfl (w.heap.size + 1) 0 rfl co _ hre underlying40 rfl h2r rfl _ rfl ?_
   exact zh HYE.out HCO.out HBE.out
theorem mZ {w:World} {b off sz:Nat}:∀ {rows:List (List Value)},(∀ r ∈ rows,r.length = sz) → (∀ k (hk:k < rows.length),w.rangeAt b (off + k * sz) rows[k]) → ∀ j u,rows.flatten[j]? = some u → w.cell? ⟨b,off + j,none⟩ = some u
 | [],_,_,j,u,h => by simp at h
 | r :: rows,hl,hc,j,u,h => by
  have hr:=hl r (by simp)
  rw [List.flatten_cons] at h
  by_cases hj:j < sz
  ·rw [List.getElem?_append_left (by omega)] at h
   have:=hc 0 (by simp) j u h
   rwa [Nat.zero_mul,Nat.add_zero] at this
  rw [List.getElem?_append_right (by omega),hr] at h
  have:=mZ (off:=off + sz) (rows:=rows) (fun r' h' => hl r' (by simp [h'])) (fun k hk => by
   have:=hc (k + 1) (by simpa using hk)
   rw [Nat.add_mul,Nat.one_mul] at this
   rw [show off + sz + k * sz = off + (k * sz + sz) from by omega]
   simpa using this) (j - sz) u h
  rwa [show off + sz + (j - sz) = off + j from by omega] at this
theorem Gx (l:List Ob):(osV l).length = l.length * 2:=by
 unfold osV
 induction l with
 | nil => rfl
 | cons o l ih =>
  rw [List.map_cons,List.flatten_cons,List.length_append,ih,List.length_cons]
  show 2 + l.length * 2 = (l.length + 1) * 2
  omega
theorem lq (a b:List Ob):osV (a ++ b) = osV a ++ osV b:=by simp [osV]
theorem dD.ofQ {w:World} {B:Nat} {v:Value} {l:List Ob} (h:OwnQ w B 2 v l.length (osV l)):dD w v l:=by
 rcases h.2 with ⟨rfl,h0⟩ | ⟨g,off,cap,rfl,_,hg,hn,hcm,_,hr⟩
 ·obtain rfl:l = []:=List.eq_nil_of_length_eq_zero h0
  exact ⟨none,0,rfl,(show 0 ≤ maxLen from Nat.zero_le _),fun h => absurd rfl h⟩
 refine ⟨some ⟨g,off,none⟩,cap,by rw [List.length_map],by rw [List.length_map];omega,fun _ => ⟨g,off,rfl,hg,fun i hi j u hu => ?_⟩⟩
 have h1:=flat_get (sz:=2) (l.map obC) (fun r hr => by obtain ⟨p,_,rfl⟩:=List.mem_map.1 hr;rfl) i hi j u hu
 have:=hr (i * 2 + j) u h1
 rw [← Nat.add_assoc] at this
 exact this
theorem OwnQ.blk2 {w:World} {B sz n:Nat} {v:Value} {xs:List Value} (h:OwnQ w B sz v n xs):∀ g,v.ownBlock = some g → g < w.heap.size ∧ B ≤ g:=fun g e => by
 rcases h.2 with ⟨rfl,_⟩ | ⟨g',off,cap,rfl,hB,hg,_⟩
 ·cases e
 have:=Option.some.inj e;subst this;exact ⟨hg,hB⟩
theorem OwnQ.qg {w:World} {B sz:Nat} {v:Value} {n:Nat} {xs:List Value} (h:OwnQ w B sz v n xs):∃ ao c,v = .slice ao n c:=by
 rcases h.2 with ⟨rfl,rfl⟩ | ⟨g,off,cap,rfl,_⟩
 ·exact ⟨_,_,rfl⟩
 exact ⟨_,_,rfl⟩
theorem bU {ops:Array Oper} {rest:List Oper} {o:Oper} {a:Act} {Q:Exit → Act → World → Prop} (w:World) (hg:o.guard = none) (s x:Operand) (hop:o.op = Op.call { callee:=Callee.builtin Builtin.append,args:=#[s,x],argTypes:=#[32,32] })
  (base:Nat) (v:Value) (n:Nat) (xs:List Value) (hs:a.eval s = v) (hown:OwnQ w base 2 v n xs) (vx:Value) (os:List Ob) (hx:a.eval x = vx) (hr:dD w vx os) (hn:n + os.length ≤ 1000000) (hbase:base ≤ w.heap.size)
  (hK:∀ v' w',OwnQ w' base 2 v' (n + os.length) (xs ++ osV os) → w.grownBy w' v.ownBlock → wpList prog ops Q rest (a.put o.dst v') w'):wpList prog ops Q (o :: rest) a w:=by
 obtain ⟨i0,hi,hz0,hz1,hz2⟩:=info_parts vQ
 obtain ⟨ao,cap,rfl,hm,hcell⟩:=hr.open
 refine sN (P:=prog) hg s x 32 hop base 40 i0 _ 2 24 underlying32 hi hz0 hz1 hz2 rfl (by decide) v n xs hs hown ao os.length cap (osV os) hx (Gx os) (fun h0 => ?_) (fun u hu => ?_) (by unfold maxLen;omega) (by omega) hbase (fun v' w' h1 h2 _ => hK v' w' h1 h2)
 ·obtain ⟨b,off,rfl,_,hc⟩:=hcell (by intro e;rw [e] at h0;simp at h0)
  refine ⟨_,rfl,fun j u hu => ?_⟩
  rw [Addr.add_mid]
  exact mZ (sz:=2) (rows:=os.map obC) (fun r hr => by obtain ⟨p,_,rfl⟩:=List.mem_map.1 hr;rfl) (fun k hk => by
   have:=hc k (by simpa using hk)
   rwa [List.getElem_map]) j u hu
 unfold osV at hu
 obtain ⟨r,hr,hu⟩:=List.mem_flatten.1 hu
 obtain ⟨p,_,rfl⟩:=List.mem_map.1 hr
 exact dx p u hu
def O5 (n:Nat) (w:World) (e:Ending) (w':World):Prop:=∃ v os,e = .returned v ∧ OwnQ w' w.heap.size 2 v os.length (osV os) ∧ os.length ≤ n ∧ lZ os ∧ Below w.heap.size w w'
theorem II (v:Value) (l:List Fl) (w:World) (hv:jX w v l) (ho:FlOk l) (hl:l.length ≤ 1000):Calls prog 30 #[v] w (O5 (201 * l.length) w):=by
 have hv0:=hv
 obtain ⟨ao,cap,rfl,hmax,hv⟩:=hv.open
 have HV:=ah hv0
 have HO:=ah ho
 have HL:=ah hl
 have HIO:=ah aF
 clear hv hv0 ho hl
 go_enter func30,ntmps30
 go_wp2_with fail
 go_loopw [3,4,5,6,8] (fun ov i _ _ _ wr => ∃ (k:Nat) (os:List Ob),k ≤ l.length ∧ i = .int .i64 (k:Int) ∧ os.length ≤ 201 * k ∧ Hid (OwnQ wr w.heap.size 2 ov os.length (osV os)) ∧ Hid (lZ os) ∧ Hid (Below w.heap.size w wr)) (fun _ i _ _ _ _ => (l.length - intOf i).toNat)
 case atStart => exact ⟨0,[],by omega,rfl,by decide,Lv _ _ _,fun o ho => (by cases ho),Below.refl _ _⟩
 obtain ⟨wo,rfl⟩:∃ wo:World,wo = wr:=⟨_,rfl⟩
 obtain ⟨k,os,hk,rfl,hosk,HOW,HOO,HBK⟩:=hrel
 obtain ⟨oa,oc,rfl⟩:=HOW.out.qg
 by_cases hlt:k < l.length
 ·obtain ⟨ao2,cap2,e2,_,hv2⟩:=HV.out.open
  cases e2
  obtain ⟨g,off,rfl,hbl,hcell⟩:=hv2 (by intro e;rw [e] at hlt;simp at hlt)
  have k0:(0:Int) ≤ k:=by omega
  have k1:(k:Int) < l.length:=by omega
  have wk:IntKind.i64.wrap ((k:Int) + 1) = (k:Int) + 1:=IntWalk.i64_in _ (by unfold maxLen at hmax;omega)
  have HR:=ah (hcell k hlt)
  have HO1:=ah (HO.out l[k] (List.getElem_mem hlt))
  generalize l[k] = f at HR HO1
  have hdz:=HO1.out.2.2
  generalize hfd:f.data = b at hdz
  have HCE:=ah (fun (W:World) (hb:Below w.heap.size w W) => (by have:=(au HR.out hb hbl) 2 (.string f.data) rfl;rwa [hfd] at this:W.cell? ⟨g,off + k * 3 + 2,none⟩ = some (.string b)))
  have c2:=HCE.out wo HBK.out
  have HUN:=ah (mo b wo (by omega))
  have hus:(unS b).size ≤ 1000000:=Nat.le_trans (Ku b) hdz
  generalize unS b = us at HUN hus
  generalize unOk b = u at HUN
  have f0:((us.extract 0 4).toList == sloB.toList) = decide (us.extract 0 4 = sloB):=rD _ _
  rw [show sloB.toList = [83,76,79,49] from by rw [ByteArray.toList_eq];rfl] at f0
  have HSL1:=ah (fun (h:4 ≤ us.size) w => slice_head us 4 h w)
  have HSL2:=ah (fun (h:4 ≤ us.size) w => ou us 4 h w)
  have hez:4 ≤ us.size → (us.extract 4 us.size).size ≤ 1000000:=fun h => by
   rw [Lib.size_eq,iA us 4 h,List.length_drop]
   have:us.data.toList.length = us.size:=by simp
   omega
  have HSV:=ah (fun W => IC b W hdz)
  generalize decide (us.extract 0 4 = sloB) = tq at f0
  generalize us.extract 0 4 = t at f0 HSL1
  generalize us.extract 4 us.size = s at HSL2 hez
  clear hcell hv2 hfd
  cases u with
  | false =>
   clear f0 HSL1 HSL2 hez
   go_wp2_with fail
   refine HUN.out.mono ?_
   rintro e w1 ⟨rfl,hb1⟩
   have HO1':=ah (HOW.out.below hb1)
   have HB1:=bth HBK hb1
   clear hb1
   have c9:=HCE.out w1 HB1.out
   have HS9:=ah (HSV.out w1)
   go_wp2_with fail
   refine HS9.out.mono ?_
   rintro e w8 ⟨vs,os2,rfl,hrow,hlen2,hok2,hb8⟩
   have HO8:=ah (HO1'.out.below hb8)
   have HB8:=bth HB1 hb8
   have HRW8:=ah hrow
   have HOK2:=ah hok2
   obtain ⟨sa,sc,hvs,_,_⟩:=hrow.open
   subst hvs
   have hnn:(os).length + os2.length ≤ 1000000:=by have:=HL.out;omega
   clear hrow hok2 hb8 c9
   go_wp2_with (refine bU _ rfl _ _ rfl w.heap.size _ _ (osV (os)) rfl HO8.out (.slice sa os2.length sc) os2 rfl HRW8.out hnn HB8.out.size ?_)
   intro v9 w9 hq9 hg9
   have HQ9:Hid (OwnQ w9 w.heap.size 2 v9 (os ++ os2).length (osV (os ++ os2))):=ah (by rw [lq,List.length_append];exact hq9)
   have HB9:Hid (Below w.heap.size w w9):=ah (HB8.out.grown hg9 HB8.out.size (fun j hj => (HO8.out.blk2 j hj).2))
   obtain ⟨va,vc,rfl⟩:=HQ9.out.qg
   have hl9:(os ++ os2).length ≤ 201 * (k + 1):=by rw [List.length_append];omega
   have HOO9:Hid (lZ (os ++ os2)):=ah (fun o ho => (List.mem_append.1 ho).elim (HOO.out o) (HOK2.out o))
   clear hq9 hg9
   go_wp2_with fail
   go_roundw
   case rel => exact ⟨k + 1,_,by omega,by go_num,hl9,HQ9,HOO9,HB9⟩
   case measure => simp [intOf];omega
  | true =>
   by_cases h4:us.size < 4
   ·have d1:¬ (4:Int) ≤ (us.size:Int):=by omega
    clear f0 HSL1 HSL2 hez
    go_wp2_with fail
    refine HUN.out.mono ?_
    rintro e w1 ⟨rfl,hb1⟩
    have HO1':=ah (HOW.out.below hb1)
    have HB1:=bth HBK hb1
    clear hb1
    have c9:=HCE.out w1 HB1.out
    have HS9:=ah (HSV.out w1)
    go_wp2_with fail
    refine HS9.out.mono ?_
    rintro e w8 ⟨vs,os2,rfl,hrow,hlen2,hok2,hb8⟩
    have HO8:=ah (HO1'.out.below hb8)
    have HB8:=bth HB1 hb8
    have HRW8:=ah hrow
    have HOK2:=ah hok2
    obtain ⟨sa,sc,hvs,_,_⟩:=hrow.open
    subst hvs
    have hnn:(os).length + os2.length ≤ 1000000:=by have:=HL.out;omega
    clear hrow hok2 hb8 c9
    go_wp2_with (refine bU _ rfl _ _ rfl w.heap.size _ _ (osV (os)) rfl HO8.out (.slice sa os2.length sc) os2 rfl HRW8.out hnn HB8.out.size ?_)
    intro v9 w9 hq9 hg9
    have HQ9:Hid (OwnQ w9 w.heap.size 2 v9 (os ++ os2).length (osV (os ++ os2))):=ah (by rw [lq,List.length_append];exact hq9)
    have HB9:Hid (Below w.heap.size w w9):=ah (HB8.out.grown hg9 HB8.out.size (fun j hj => (HO8.out.blk2 j hj).2))
    obtain ⟨va,vc,rfl⟩:=HQ9.out.qg
    have hl9:(os ++ os2).length ≤ 201 * (k + 1):=by rw [List.length_append];omega
    have HOO9:Hid (lZ (os ++ os2)):=ah (fun o ho => (List.mem_append.1 ho).elim (HOO.out o) (HOK2.out o))
    clear hq9 hg9
    go_wp2_with fail
    go_roundw
    case rel => exact ⟨k + 1,_,by omega,by go_num,hl9,HQ9,HOO9,HB9⟩
    case measure => simp [intOf];omega
   have d1:(4:Int) ≤ (us.size:Int):=by omega
   have hsl1:=HSL1.out (by omega)
   have hsl2:=HSL2.out (by omega)
   have hs:=hez (by omega)
   rw [show ((4:Nat):Int) = 4 from rfl] at hsl1 hsl2
   clear HSL1 HSL2 hez
   cases tq with
   | false =>
    go_wp2_with fail
    refine HUN.out.mono ?_
    rintro e w1 ⟨rfl,hb1⟩
    have HO1':=ah (HOW.out.below hb1)
    have HB1:=bth HBK hb1
    clear hb1
    have c9:=HCE.out w1 HB1.out
    have HS9:=ah (HSV.out w1)
    go_wp2_with fail
    refine HS9.out.mono ?_
    rintro e w8 ⟨vs,os2,rfl,hrow,hlen2,hok2,hb8⟩
    have HO8:=ah (HO1'.out.below hb8)
    have HB8:=bth HB1 hb8
    have HRW8:=ah hrow
    have HOK2:=ah hok2
    obtain ⟨sa,sc,hvs,_,_⟩:=hrow.open
    subst hvs
    have hnn:(os).length + os2.length ≤ 1000000:=by have:=HL.out;omega
    clear hrow hok2 hb8 c9
    go_wp2_with (refine bU _ rfl _ _ rfl w.heap.size _ _ (osV (os)) rfl HO8.out (.slice sa os2.length sc) os2 rfl HRW8.out hnn HB8.out.size ?_)
    intro v9 w9 hq9 hg9
    have HQ9:Hid (OwnQ w9 w.heap.size 2 v9 (os ++ os2).length (osV (os ++ os2))):=ah (by rw [lq,List.length_append];exact hq9)
    have HB9:Hid (Below w.heap.size w w9):=ah (HB8.out.grown hg9 HB8.out.size (fun j hj => (HO8.out.blk2 j hj).2))
    obtain ⟨va,vc,rfl⟩:=HQ9.out.qg
    have hl9:(os ++ os2).length ≤ 201 * (k + 1):=by rw [List.length_append];omega
    have HOO9:Hid (lZ (os ++ os2)):=ah (fun o ho => (List.mem_append.1 ho).elim (HOO.out o) (HOK2.out o))
    clear hq9 hg9
    go_wp2_with fail
    go_roundw
    case rel => exact ⟨k + 1,_,by omega,by go_num,hl9,HQ9,HOO9,HB9⟩
    case measure => simp [intOf];omega
   | true =>
    go_wp2_with fail
    refine HUN.out.mono ?_
    rintro e w1 ⟨rfl,hb1⟩
    have HO1':=ah (HOW.out.below hb1)
    have HB1:=bth HBK hb1
    clear hb1
    have HOR:=ah (jR s w1 hs)
    go_wp2_with fail
    refine HOR.out.mono ?_
    rintro e w2 ⟨hb2,hans⟩
    have HO2:=ah (HO1'.out.below hb2)
    have HB2:=bth HB1 hb2
    have HT2:=ah (there_alloc (n:=2) w2 #[.int .i64 0,.string ⟨#[]⟩] 40 rfl)
    clear hb2
    obtain ⟨ok,ob,he,hri⟩:∃ (ok:Bool) (ob:Ob),e = .returned (.tuple #[.agg (obC ob).toArray,.bool ok]) ∧ (ok = true → aC ob = true):=by
     rcases hans with ⟨o,hro,he⟩ | ⟨hro,he⟩
     ·exact ⟨true,o,he,fun _ => dM hro⟩
     exact ⟨false,ob0,he,fun h => by cases h⟩
    subst he
    have HRI:=ah hri
    clear hans hri
    have HOC1:=ah (dx ob)
    obtain ⟨W3,hW3⟩:∃ W,(w2.alloc (.cells #[.int .i64 0,.string ⟨#[]⟩] 40)).setCells w2.heap.size 0 (obC ob) = W:=⟨_,rfl⟩
    have HBX3:Hid (BoxL W3 w2.heap.size 40 (obC ob)):=ah (by rw [← hW3];exact (BoxL.new w2 40 [.int .i64 0,.string ⟨#[]⟩]).set rfl)
    have hb3:Below w2.heap.size w2 W3:=by rw [← hW3];exact below_setCells _ (Nat.le_refl _) _ _ _ bal
    have HO3:=ah (HO2.out.below hb3)
    have HB3:=bth HB2 hb3
    have HW3:=ah hW3
    clear hW3 hb3
    go_upto_region 8 with (refine aj rfl 40 _ _ rfl w2.heap.size 0 (obC ob) rfl rfl 2 rfl HT2.out HIO.out HOC1.out ?_;rw [HW3.out])
    cases ok with
    | false =>
     have c9:=HCE.out W3 HB3.out
     have HS9:=ah (HSV.out W3)
     go_wp2_with fail
     refine HS9.out.mono ?_
     rintro e w8 ⟨vs,os2,rfl,hrow,hlen2,hok2,hb8⟩
     have HO8:=ah (HO3.out.below hb8)
     have HB8:=bth HB3 hb8
     have HRW8:=ah hrow
     have HOK2:=ah hok2
     obtain ⟨sa,sc,hvs,_,_⟩:=hrow.open
     subst hvs
     have hnn:(os).length + os2.length ≤ 1000000:=by have:=HL.out;omega
     clear hrow hok2 hb8 c9
     go_wp2_with (refine bU _ rfl _ _ rfl w.heap.size _ _ (osV (os)) rfl HO8.out (.slice sa os2.length sc) os2 rfl HRW8.out hnn HB8.out.size ?_)
     intro v9 w9 hq9 hg9
     have HQ9:Hid (OwnQ w9 w.heap.size 2 v9 (os ++ os2).length (osV (os ++ os2))):=ah (by rw [lq,List.length_append];exact hq9)
     have HB9:Hid (Below w.heap.size w w9):=ah (HB8.out.grown hg9 HB8.out.size (fun j hj => (HO8.out.blk2 j hj).2))
     obtain ⟨va,vc,rfl⟩:=HQ9.out.qg
     have hl9:(os ++ os2).length ≤ 201 * (k + 1):=by rw [List.length_append];omega
     have HOO9:Hid (lZ (os ++ os2)):=ah (fun o ho => (List.mem_append.1 ho).elim (HOO.out o) (HOK2.out o))
     clear hq9 hg9
     go_wp2_with fail
     go_roundw
     case rel => exact ⟨k + 1,_,by omega,by go_num,hl9,HQ9,HOO9,HB9⟩
     case measure => simp [intOf];omega
    | true =>
     have hrr:=HBX3.out.range
     have h2o:(prog.info? 40).map (·.size) = some (obC ob).length:=aF
     have HRB:=ah (HRI.out rfl)
     obtain ⟨W4,hW4⟩:∃ W,W3.alloc (.cells (obC ob).toArray 40) = W:=⟨_,rfl⟩
     have hb4:Below W3.heap.size W3 W4:=by rw [← hW4];exact bal
     have HRN:Hid (dD W4 (.slice (some ⟨W3.heap.size,0,none⟩) 1 1) [ob]):=ah ⟨_,_,rfl,(show 1 ≤ maxLen by unfold maxLen;omega),fun _ => ⟨_,_,rfl,by rw [← hW4];simp,fun i hi => by
      have hi0:i = 0:=by simp at hi;omega
      subst hi0
      rw [← hW4,Nat.zero_mul]
      exact (BoxL.new W3 40 (obC ob)).range⟩⟩
     have HO4:=ah (HO3.out.below hb4)
     have HB4:=bth HB3 hb4
     have HW4:=ah hW4
     clear hW4 hb4
     generalize hco:obC ob = co at hrr h2o HW4 HOC1
     have hcl:co.length = 2:=by rw [← hco];rfl
     have HCL:=ah hcl
     have hn4:os.length + [ob].length ≤ 1000000:=by have:=HL.out;simp only [List.length_cons,List.length_nil];omega
     clear hco hcl
     go_wp2_with (first
      | (rw [HW4.out];refine bU _ rfl _ _ rfl w.heap.size (.slice oa os.length oc) os.length (osV os) rfl HO4.out (.slice (some ⟨W3.heap.size,0,none⟩) 1 1) [ob] rfl HRN.out hn4 HB4.out.size ?_)
      | refine wpList_load_mid rfl 40 _ rfl w2.heap.size 0 rfl co _ hrr underlying40 rfl h2o ?_
      | (refine av rfl _ 32 40 rfl co #[.int .i64 0,.string ⟨#[]⟩] rfl underlying32 (fun w => by rw [HCL.out];kernel_rfl) (fun w => by kernel_rfl) (by rw [HCL.out];decide) (by rw [HCL.out];decide) ?_))
     intro v5 w5 hq5 hg5
     have HO5:Hid (OwnQ w5 w.heap.size 2 v5 (os ++ [ob]).length (osV (os ++ [ob]))):=ah (by rw [lq,List.length_append];exact hq5)
     have HB5:Hid (Below w.heap.size w w5):=ah (HB4.out.grown hg5 HB4.out.size (fun j hj => (HO4.out.blk2 j hj).2))
     have HOO5:=ah (HOO.out.snoc HRB.out)
     obtain ⟨osn,hosn⟩:∃ osn,os ++ [ob] = osn:=⟨_,rfl⟩
     have hosl:osn.length = os.length + 1:=by rw [← hosn];simp
     have hosl2:osn.length ≤ 201 * k + 1:=by omega
     rw [hosn] at HO5 HOO5
     obtain ⟨vo5,vc5,rfl⟩:=HO5.out.qg
     clear hosn hosl
     clear hq5 hg5 hrr hn4
     have c9:=HCE.out w5 HB5.out
     have HS9:=ah (HSV.out w5)
     go_wp2_with fail
     refine HS9.out.mono ?_
     rintro e w8 ⟨vs,os2,rfl,hrow,hlen2,hok2,hb8⟩
     have HO8:=ah (HO5.out.below hb8)
     have HB8:=bth HB5 hb8
     have HRW8:=ah hrow
     have HOK2:=ah hok2
     obtain ⟨sa,sc,hvs,_,_⟩:=hrow.open
     subst hvs
     have hnn:(osn).length + os2.length ≤ 1000000:=by have:=HL.out;omega
     clear hrow hok2 hb8 c9
     go_wp2_with (refine bU _ rfl _ _ rfl w.heap.size _ _ (osV (osn)) rfl HO8.out (.slice sa os2.length sc) os2 rfl HRW8.out hnn HB8.out.size ?_)
     intro v9 w9 hq9 hg9
     have HQ9:Hid (OwnQ w9 w.heap.size 2 v9 (osn ++ os2).length (osV (osn ++ os2))):=ah (by rw [lq,List.length_append];exact hq9)
     have HB9:Hid (Below w.heap.size w w9):=ah (HB8.out.grown hg9 HB8.out.size (fun j hj => (HO8.out.blk2 j hj).2))
     obtain ⟨va,vc,rfl⟩:=HQ9.out.qg
     have hl9:(osn ++ os2).length ≤ 201 * (k + 1):=by rw [List.length_append];omega
     have HOO9:Hid (lZ (osn ++ os2)):=ah (fun o ho => (List.mem_append.1 ho).elim (HOO5.out o) (HOK2.out o))
     clear hq9 hg9
     go_wp2_with fail
     go_roundw
     case rel => exact ⟨k + 1,_,by omega,by go_num,hl9,HQ9,HOO9,HB9⟩
     case measure => simp [intOf];omega
 obtain rfl:k = l.length:=by omega
 go_wp2_with fail
 go_ret
 exact ⟨_,os,rfl,HOW.out,hosk,HOO.out,HBK.out⟩
theorem Jo {w:World} {B B' sz sz' n n':Nat} {e e':TypeId} {v v':Value} {xs xs':List Value} (h:w.ownsRow B e sz v n xs) (h':w.ownsRow B' e' sz' v' n' xs') (hne:e ≠ e'):∀ g,v.ownBlock = some g → v'.ownBlock ≠ some g:=fun g e1 e2 => by
 rcases h.2 with ⟨rfl,_⟩ | ⟨g1,cap,cur,rfl,_,hg,_⟩
 ·cases e1
 rcases h'.2 with ⟨rfl,_⟩ | ⟨g2,cap2,cur2,rfl,_,hg2,_⟩
 ·cases e2
 have a1:g1 = g:=Option.some.inj e1
 have a2:g2 = g:=Option.some.inj e2
 subst a1
 subst a2
 rw [hg] at hg2
 injection hg2 with hg2
 injection hg2 with _ h3
 exact hne h3
theorem Gv {w w':World} {B B' sz sz' n n':Nat} {e e':TypeId} {v v':Value} {xs xs':List Value} (h:w.ownsRow B e sz v n xs) (h':w.ownsRow B' e' sz' v' n' xs') (hne:e ≠ e') (hg:w.grownBy w' v'.ownBlock):w'.ownsRow B e sz v n xs:=by
 refine h.kept hg ?_
 cases hv:v.ownBlock with
 | none => exact .inl rfl
 | some g => exact .inr fun e2 => Jo h h' hne g hv e2.symm
def idsV (l:List (List UInt8)):List Value:=(l.map idC).flatten
theorem zo (l:List (List UInt8)) (p:List UInt8):idsV (l ++ [p]) = idsV l ++ idC p:=by simp [idsV]
theorem bD.rW {w:World} {B:Nat} {v:Value} {l:List (List UInt8)} (h:w.ownsRow B 24 32 v l.length (idsV l)) (hl:∀ x ∈ l,x.length = 32):bD w v l :=
 aK.aS (B:=B) (e:=24) (fun r hr => by obtain ⟨p,hp,rfl⟩:=List.mem_map.1 hr;rw [aD,hl p hp]) (by rw [List.length_map];exact h)
theorem Gw {w:World} {B sz n b:Nat} {e t:TypeId} {v:Value} {xs cs:List Value} (h:w.ownsRow B e sz v n xs) (hx:BoxL w b t cs) (hne:e ≠ t):v.ownBlock ≠ some b:=fun e1 => by
 rcases h.2 with ⟨rfl,_⟩ | ⟨g1,cap,cur,rfl,_,hg,_⟩
 ·cases e1
 have a1:g1 = b:=Option.some.inj e1
 subst a1
 have h2:w.heap[g1]? = _:=hx
 rw [hg] at h2
 injection h2 with h2
 injection h2 with _ h3
 exact hne h3
def Oo (w:World) (e:Ending) (w':World):Prop:=(∃ b,e = .returned (.bool b)) ∧ Below w.heap.size w w'
structure ClSt (W1:World) (k:Nat) (hv iv:Value) (hs:List Ob) (xs:List (List UInt8)) (w:World):Prop where
 had:w.ownsRow W1.heap.size 40 2 hv hs.length (osV hs)
 ids:w.ownsRow W1.heap.size 24 32 iv xs.length (idsV xs)
 len:∀ x ∈ xs,x.length = 32
 hk:hs.length ≤ k
 xk:xs.length ≤ k
 bel:Below W1.heap.size W1 w
theorem ClSt.below {W1:World} {k:Nat} {hv iv:Value} {hs:List Ob} {xs:List (List UInt8)} {w w':World} (h:ClSt W1 k hv iv hs xs w) (hb:Below w.heap.size w w'):ClSt W1 k hv iv hs xs w' :=
 ⟨own_below h.had hb,own_below h.ids hb,h.len,h.hk,h.xk,h.bel.trans (hb.mono h.bel.size)⟩
theorem ClSt.up {W1:World} {k:Nat} {hv iv:Value} {hs:List Ob} {xs:List (List UInt8)} {w:World} (h:ClSt W1 k hv iv hs xs w):ClSt W1 (k + 1) hv iv hs xs w:=⟨h.had,h.ids,h.len,Nat.le_succ_of_le h.hk,Nat.le_succ_of_le h.xk,h.bel⟩
theorem EI (v:Value) (l:List Fl) (w:World) (hv:jX w v l) (ho:FlOk l) (hl:l.length ≤ 60):Calls prog 14 #[v,.slice none 0 0] w (Oo w):=by
 have HOB:=ah (II v l w hv ho (by omega))
 have HL:=ah hl
 have HIO:=ah aF
 obtain ⟨fa,fc,rfl,_,_⟩:=hv.open
 clear hv ho hl
 go_enter func14,ntmps14
 go_wp2_with fail
 refine HOB.out.mono ?_
 rintro e w1 ⟨va,all,rfl,hq,hal,hao,hb1⟩
 have HQ:=ah hq
 obtain ⟨qa,qc,rfl⟩:=hq.qg
 have HAO:=ah hao
 have hal2:all.length ≤ 12060:=by have:=HL.out;omega
 have HB1:=ah hb1
 have hnil:dD w1 (.slice none 0 0) []:=⟨none,0,rfl,(show 0 ≤ maxLen from Nat.zero_le _),fun h => absurd rfl h⟩
 have HNIL:=ah hnil
 have hn0:all.length + ([]:List Ob).length ≤ 1000000:=by simp only [List.length_nil];omega
 clear hq hal hao hb1 hnil
 go_wp2_with (refine bU _ rfl _ _ rfl w.heap.size (.slice qa all.length qc) all.length (osV all) rfl HQ.out (.slice none 0 0) [] rfl HNIL.out hn0 HB1.out.size ?_)
 intro v2 w2 hq2 hg2
 have HQ2:Hid (OwnQ w2 w.heap.size 2 v2 all.length (osV all)):=ah (by simpa only [List.length_nil,Nat.add_zero,osV,List.map_nil,List.flatten_nil,List.append_nil] using hq2)
 have HB2:Hid (Below w.heap.size w w2):=ah (HB1.out.grown hg2 HB1.out.size (fun j hj => (HQ.out.blk2 j hj).2))
 obtain ⟨ra,rc,rfl⟩:=HQ2.out.qg
 have HRW:=ah (dD.ofQ HQ2.out)
 clear hq2 hg2 hn0
 go_wp2_with fail
 go_loopw [6,7,8,9,10,12] (fun hv iv i _ _ _ wr => ∃ (k:Nat) (hs:List Ob) (xs:List (List UInt8)),k ≤ all.length ∧ i = .int .i64 (k:Int) ∧ Hid (ClSt w2 k hv iv hs xs wr)) (fun _ _ i _ _ _ _ => (all.length - intOf i).toNat)
 case atStart => exact ⟨0,[],[],by omega,rfl,⟨World.ownsRow_nil _ _ _ _,World.ownsRow_nil _ _ _ _,fun x hx => (by cases hx),Nat.le_refl _,Nat.le_refl _,Below.refl _ _⟩⟩
 obtain ⟨wo,rfl⟩:∃ wo:World,wo = wr:=⟨_,rfl⟩
 obtain ⟨k,hs,xs,hk,rfl,HS⟩:=hrel
 obtain ⟨ha,hc,rfl⟩:=ay HS.out.had
 obtain ⟨ia,ic,rfl⟩:=ay HS.out.ids
 by_cases hlt:k < all.length
 ·obtain ⟨ao3,cap3,e3,_,hro⟩:=HRW.out.open
  have e3':ra = ao3:=by injection e3
  subst e3'
  obtain ⟨b,off,rfl,hbl,hcell⟩:=hro (by intro e;rw [e] at hlt;simp at hlt)
  have k0:(0:Int) ≤ k:=by omega
  have k1:(k:Int) < all.length:=by omega
  have wk:IntKind.i64.wrap ((k:Int) + 1) = (k:Int) + 1:=IntWalk.i64_in _ (by omega)
  have HR:=ah (hcell k hlt)
  have HRO:=ah (HAO.out all[k] (List.getElem_mem hlt))
  generalize all[k] = o at HR HRO
  have HCE:=ah (fun (W:World) (hb:Below w2.heap.size w2 W) => au HR.out hb hbl)
  have HRR:=ah (fun W => kW o.kind o.body W)
  have hro1:aC ⟨o.kind,o.body⟩ = true:=HRO.out
  rw [hro1] at HRR
  have h2o:(prog.info? 40).map (·.size) = some (obC o).length:=aF
  have HH2:=ah h2o
  have HOC1:=ah (dx o)
  have HBL:=ah hbl
  have HID:=ah (fun W => uN o.kind o.body W (by have:=mG hro1;omega))
  have HIL:Hid ((idO ⟨o.kind,o.body⟩).length = 32):=ah (dI _)
  generalize idO ⟨o.kind,o.body⟩ = x at HID HIL
  have r0:=HCE.out wo HS.out.bel
  have hhl:hs.length ≤ 12060:=by have:=HS.out.hk;omega
  have hxl:xs.length ≤ 12060:=by have:=HS.out.xk;omega
  clear hcell hro hro1 hbl e3
  go_wp2_with (refine wpList_load_mid rfl 40 _ rfl b (off + k * 2) rfl (obC o) _ r0 underlying40 rfl h2o ?_)
  refine (HRR.out _).mono ?_
  rintro e w3 ⟨rfl,hb3⟩
  have HS3:=ah (HS.out.below hb3)
  clear hb3 r0
  go_wp2_with fail
  have hhr:=(dD.rW HS3.out.had).open
  obtain ⟨ao4,cap4,e4,_,hro4⟩:=hhr
  have e4':ha = ao4:=by injection e4
  subst e4'
  have HRO4:=ah hro4
  clear hro4 e4
  go_loopw [9,10] (fun th i wr => ∃ (m:Nat) (tb:Bool),m ≤ hs.length ∧ i = .int .i64 (m:Int) ∧ th = .bool tb ∧ Hid (Below w3.heap.size w3 wr)) (fun _ i _ => (hs.length - intOf i).toNat)
  case atStart => exact ⟨0,false,by omega,rfl,rfl,Below.refl _ _⟩
  obtain ⟨wi,rfl⟩:∃ wi:World,wi = wr:=⟨_,rfl⟩
  obtain ⟨m,tb,hm,rfl,rfl,HBI⟩:=hrel
  by_cases hend:m < hs.length ∧ tb = false
  ·obtain ⟨hltm,rfl⟩:=hend
   have m0:(0:Int) ≤ m:=by omega
   have m1:(m:Int) < hs.length:=by omega
   have wkm:IntKind.i64.wrap ((m:Int) + 1) = (m:Int) + 1:=IntWalk.i64_in _ (by omega)
   obtain ⟨bo,bof,hao4,hbol,hboc⟩:=HRO4.out (by intro e;rw [e] at hltm;simp at hltm)
   subst hao4
   have f1:=au (hboc m hltm) HBI.out hbol
   have f2:=HCE.out wi (HS3.out.below HBI.out).bel
   have l1:bo < wi.heap.size:=Nat.lt_of_lt_of_le hbol HBI.out.size
   have l2:b < wi.heap.size:=by have h1:=HBL.out;have h2:=(HS3.out.below HBI.out).bel.size;omega
   obtain ⟨xb,hxb⟩:∃ xb,∀ W,(Op.equalIn 10000 40 (.agg #[.int .i64 hs[m].kind,.string hs[m].body]) (.agg #[.int .i64 o.kind,.string o.body])).run prog W = .ok xb W:=⟨_,fun W => Aw _ _ _ _ W⟩
   have s1:(prog.info? 40).map (·.size) = some (obC hs[m]).length:=aF
   have s2:(prog.info? 40).map (·.size) = some (obC o).length:=aF
   unfold obC at f1 f2 s1 s2
   generalize hs[m].kind = ka at f1 hxb s1
   generalize hs[m].body = sa at f1 hxb s1
   generalize o.kind = kb at f2 hxb s2
   generalize o.body = sb at f2 hxb s2
   clear hboc hbol
   go_wp2_with fail
   refine wbq ?_
   repeat (go_big_quiet_step (fail))
   refine bg 40 _ _ rfl rfl rfl f1 (by omega) underlying40 rfl s1 ?_
   simp only [Act.put,nz]
   repeat (go_big_quiet_step (fail))
   refine bg 40 _ _ rfl rfl rfl f2 (by omega) underlying40 rfl s2 ?_
   simp only [Act.put,nz]
   repeat (go_big_quiet_step (fail))
   refine wpQuiet_nil ?_
   intro wq hbq
   have HBI2:=bth HBI hbq
   clear hbq f1 f2
   go_wp2_with fail
   go_roundw
   case rel => exact ⟨m + 1,_,by omega,by go_num,rfl,HBI2⟩
   case measure => simp [intOf];omega
  have HSI:=ah (HS3.out.below HBI.out)
  have hcond:(decide ((m:Int) < (hs.length:Int)) && !tb) = false:=by
   cases tb with
   | true => simp
   | false =>
    have:¬ m < hs.length:=fun h => hend ⟨h,rfl⟩
    simp
    omega
  clear hend
  cases tb with
  | true =>
   have HSU:=ah HSI.out.up
   clear hcond
   by_cases hml:(m:Int) < (hs.length:Int)
   ·go_wp2_with fail
    go_roundw
    case rel => exact ⟨k + 1,hs,xs,by omega,by go_num,HSU⟩
    case measure => simp [intOf];omega
   go_wp2_with fail
   go_roundw
   case rel => exact ⟨k + 1,hs,xs,by omega,by go_num,HSU⟩
   case measure => simp [intOf];omega
  | false =>
   have hmn:¬ (m:Int) < (hs.length:Int):=by simpa using hcond
   have r1:=HCE.out wi HSI.out.bel
   clear hcond
   go_wp2_with (refine wpList_load_mid rfl 40 _ rfl b (off + k * 2) rfl (obC o) _ r1 underlying40 rfl HH2.out ?_)
   refine (HID.out _).mono ?_
   rintro e w5 ⟨rfl,hb5⟩
   have HS5:=ah (HSI.out.below hb5)
   have hxc:(idC x).length = 32:=by rw [aD,HIL.out]
   have HXO:=ah (bX x)
   have HXE:=ah (fun (y:List UInt8) (hy:y.length = 32) W => jU y x hy HIL.out W)
   clear hb5 r1 hmn
   obtain ⟨zi,j0,ji,jz0,jz1,jz2,hziv,hzil⟩:=gH
   have HT5:=ah (there_alloc (n:=32) w5 zi 24 hzil)
   have h32i:(prog.info? 24).map (·.size) = some 32:=by kernel_rfl
   have HXV:=ah (zo xs x)
   generalize hcx:idC x = cx at HXO hxc HXE HXV
   have HCX:=ah hcx
   clear hcx
   obtain ⟨W6,hW6⟩:∃ W,(w5.alloc (.cells zi 24)).setCells w5.heap.size 0 cx = W:=⟨_,rfl⟩
   have HBX6:Hid (BoxL W6 w5.heap.size 24 cx):=ah (by
    rw [← hW6]
    have h1:=BoxL.new w5 24 zi.toList
    rw [Array.toArray_toList] at h1
    exact h1.set (by rw [hxc,Array.length_toList,hzil]))
   have hb6:Below w5.heap.size w5 W6:=by rw [← hW6];exact below_setCells _ (Nat.le_refl _) _ _ _ bal
   have HS6:=ah (HS5.out.below hb6)
   have HW6:=ah hW6
   clear hW6 hb6
   go_upto_region 16 with (refine aj rfl 24 _ _ rfl w5.heap.size 0 cx rfl rfl 32 hxc HT5.out h32i HXO.out ?_;rw [HW6.out])
   obtain ⟨ao7,cap7,e7,_,hro7⟩:=(bD.rW HS6.out.ids HS6.out.len).open
   have e7':ia = ao7:=by injection e7
   subst e7'
   have HRO7:=ah hro7
   clear hro7 e7
   go_loopw [12] (fun i wr => ∃ m:Nat,m ≤ xs.length ∧ i = .int .i64 (m:Int) ∧ Hid (Below W6.heap.size W6 wr)) (fun i _ => (xs.length - intOf i).toNat)
   case atStart => exact ⟨0,by omega,rfl,Below.refl _ _⟩
   obtain ⟨wj,rfl⟩:∃ wj:World,wj = wr:=⟨_,rfl⟩
   obtain ⟨q,hq,rfl,HBJ⟩:=hrel
   have hx6:=HBX6.out.below HBJ.out
   have g2:=hx6.range
   have l2:=hx6.lt
   have h32x:=dG hxc
   by_cases hltq:q < xs.length
   ·have q0:(0:Int) ≤ q:=by omega
    have q1:(q:Int) < xs.length:=by omega
    have wkq:IntKind.i64.wrap ((q:Int) + 1) = (q:Int) + 1:=IntWalk.i64_in _ (by omega)
    obtain ⟨bo,bof,hao7,hbol,hboc⟩:=HRO7.out (by intro e;rw [e] at hltq;simp at hltq)
    subst hao7
    have g1:=au (hboc q hltq) HBJ.out hbol
    have l1:bo < wj.heap.size:=Nat.lt_of_lt_of_le hbol HBJ.out.size
    have hyl:=HS6.out.len xs[q] (List.getElem_mem hltq)
    have heq:=HXE.out xs[q] hyl
    have h32y:(prog.info? 24).map (·.size) = some (idC xs[q]).length:=dG (by rw [aD,hyl])
    clear hboc hbol hyl hx6
    generalize (xs[q] == x) = xb at heq
    generalize idC xs[q] = cy at g1 heq h32y
    cases xb with
    | true =>
     go_wp2_with fail
     refine wbq ?_
     repeat (go_big_quiet_step (fail))
     refine bg 24 _ _ rfl rfl rfl g1 (by omega) underlying24 rfl h32y ?_
     simp only [Act.put,nz]
     repeat (go_big_quiet_step (fail))
     refine bg 24 _ _ rfl rfl rfl g2 (by omega) underlying24 rfl h32x ?_
     simp only [Act.put,nz]
     repeat (go_big_quiet_step (fail))
     refine wpQuiet_nil ?_
     intro wq hbq
     have HBE:=ah ((HS6.out.below HBJ.out).below hbq).bel
     clear hbq g1 g2
     go_wp2_with fail
     go_ret
     exact ⟨⟨_,rfl⟩,HB2.out.trans (HBE.out.mono HB2.out.size)⟩
    | false =>
     go_wp2_with fail
     refine wbq ?_
     repeat (go_big_quiet_step (fail))
     refine bg 24 _ _ rfl rfl rfl g1 (by omega) underlying24 rfl h32y ?_
     simp only [Act.put,nz]
     repeat (go_big_quiet_step (fail))
     refine bg 24 _ _ rfl rfl rfl g2 (by omega) underlying24 rfl h32x ?_
     simp only [Act.put,nz]
     repeat (go_big_quiet_step (fail))
     refine wpQuiet_nil ?_
     intro wq hbq
     have HBJ2:=bth HBJ hbq
     clear hbq g1 g2
     go_wp2_with fail
     go_roundw
     case rel => exact ⟨q + 1,by omega,by go_num,HBJ2⟩
     case measure => simp [intOf];omega
   obtain rfl:q = xs.length:=by omega
   have HSJ:=ah (HS6.out.below HBJ.out)
   have ro:=HCE.out wj HSJ.out.bel
   have HXJ:=ah hx6
   obtain ⟨W7,hW7⟩:∃ W,wj.alloc (.cells (obC o).toArray 40) = W:=⟨_,rfl⟩
   have hb7:Below wj.heap.size wj W7:=by rw [← hW7];exact bal
   have HRN:Hid (W7.rangeAt wj.heap.size 0 (obC o)):=ah (by rw [← hW7];exact (BoxL.new wj 40 (obC o)).range)
   have HS7:=ah (HSJ.out.below hb7)
   have HX7:=ah (hx6.below hb7)
   have HW7:=ah hW7
   clear hW7 hb7 hx6 g2 l2
   generalize hco:obC o = co at ro HH2 HRN HW7 HOC1
   have HCO:=ah hco
   have hcl:co.length = 2:=by rw [← hco];rfl
   have HCL:=ah hcl
   clear hco hcl
   go_wp2_with (first
    | (rw [HW7.out];refine bN _ rfl _ _ rfl w2.heap.size (.slice ha hs.length hc) hs.length (osV hs) rfl HS7.out.had wj.heap.size o rfl (by rw [HCO.out];exact HRN.out) (by omega) HS7.out.bel.size ?_)
    | refine wpList_load_mid rfl 40 _ rfl b (off + k * 2) rfl co _ ro underlying40 rfl HH2.out ?_
    | (refine av rfl _ 32 40 rfl co #[.int .i64 0,.string ⟨#[]⟩] rfl underlying32 (fun w => by rw [HCL.out];kernel_rfl) (fun w => by kernel_rfl) (by rw [HCL.out];decide) (by rw [HCL.out];decide) ?_))
   intro v8 w8 hown8 hg8 _
   have HHD8:Hid (w8.ownsRow w2.heap.size 40 2 v8 (hs ++ [o]).length (osV (hs ++ [o]))):=ah (by rw [Cy];simpa only [List.length_append,List.length_cons,List.length_nil] using hown8)
   have HID8:=ah (Gv HS7.out.ids HS7.out.had (by decide) hg8)
   have HX8:=ah (HX7.out.kept hg8 (fun e => Gw HS7.out.had HX7.out (by decide) e.symm))
   have HB8:Hid (Below w2.heap.size w2 w8):=ah (HS7.out.bel.grown hg8 HS7.out.bel.size (fun j hj => (HS7.out.had.lt j hj).1))
   obtain ⟨va8,vc8,rfl⟩:=ay hown8
   clear hown8 hg8 ro
   have r8:=HX8.out.range
   obtain ⟨W9,hW9⟩:∃ W,w8.alloc (.cells cx.toArray 24) = W:=⟨_,rfl⟩
   have hb9:Below w8.heap.size w8 W9:=by rw [← hW9];exact bal
   have HRN9:Hid (W9.rangeAt w8.heap.size 0 cx):=ah (by rw [← hW9];exact (BoxL.new w8 24 cx).range)
   have HHD9:=ah (own_below HHD8.out hb9)
   have HID9:=ah (own_below HID8.out hb9)
   have HB9:=bth HB8 hb9
   have HW9:=ah hW9
   have HXC:=ah hxc
   have HSZI:Hid (∀ w,(sizeOf 24).run prog w = .ok cx.length w):=ah (fun w => by rw [HXC.out];kernel_rfl)
   have HZV:=ah hziv
   clear hW9 hb9 hxc hziv
   go_wp2_with (first
    | (rw [HW9.out];refine bP _ rfl _ _ rfl w2.heap.size (.slice ia xs.length ic) xs.length (idsV xs) rfl HID9.out w8.heap.size cx HXC.out HXO.out rfl HRN9.out (by omega) HB9.out.size ?_)
    | refine wpList_load_mid rfl 24 _ rfl w5.heap.size 0 rfl cx _ r8 underlying24 rfl h32x ?_
    | (refine av rfl _ 33 24 rfl cx zi rfl underlying33 HSZI.out HZV.out (by rw [HXC.out];decide) (by rw [HXC.out];decide) ?_))
   intro v10 w10 hown10 hg10 _
   have HEND:Hid (ClSt w2 (k + 1) (.slice va8 (hs.length + 1) vc8) v10 (hs ++ [o]) (xs ++ [x]) w10):=ah ⟨by
     have:=Gv HHD9.out HID9.out (by decide) hg10
     simpa only [List.length_append,List.length_cons,List.length_nil] using this,by rw [HXV.out];simpa only [List.length_append,List.length_cons,List.length_nil] using hown10,fun y hy => by
     rcases List.mem_append.1 hy with hy | hy
     ·exact HS.out.len y hy
     rw [List.mem_singleton.1 hy];exact HIL.out,by rw [List.length_append];have:=HS.out.hk;simp only [List.length_cons,List.length_nil];omega,by rw [List.length_append];have:=HS.out.xk;simp only [List.length_cons,List.length_nil];omega,HB9.out.grown hg10 HB9.out.size (fun j hj => (HID9.out.lt j hj).1)⟩
   obtain ⟨va10,vc10,rfl⟩:=ay hown10
   clear hown10 hg10 r8
   go_wp2_with fail
   go_roundw
   case rel => exact ⟨k + 1,hs ++ [o],xs ++ [x],by omega,by go_num,HEND⟩
   case measure => simp [intOf];omega
 obtain rfl:k = all.length:=by omega
 go_wp2_with fail
 go_ret
 exact ⟨⟨_,rfl⟩,HB2.out.trans (HS.out.bel.mono HB2.out.size)⟩
def Ht (l:List Fl):Prop:=∀ f ∈ l,f.dir.size ≤ maxLen ∧ f.name.size ≤ 140737488355328 ∧ f.data.size ≤ 140737488355328
def sumG (l:List Fl):Nat:=(l.map fun f => f.data.size / 100 + f.name.size).sum
theorem Ia (l:List Fl) (f:Fl):sumG (l ++ [f]) = sumG l + (f.data.size / 100 + f.name.size):=by unfold sumG;simp
theorem Gj:∀ {l:List Fl} {f:Fl},f ∈ l → f.data.size / 100 + f.name.size ≤ sumG l
 | g :: l,f,h => by
  unfold sumG
  rw [List.map_cons,List.sum_cons]
  rcases List.mem_cons.1 h with rfl | h
  ·omega
  have:=Gj h
  unfold sumG at this
  omega
theorem NZ {l:List Fl} (h:Ht l) (hs:sumG l ≤ 1000):FlOk l:=fun f hf => by
 have h1:=h f hf
 have h2:=Gj hf
 exact ⟨h1.1,by omega,by omega⟩
def Pn (l:List Fl) (w:World) (e:Ending) (w':World):Prop:=(∃ b,e = .returned (.bool b) ∧ (b = false → l.length ≤ 60 ∧ FlOk l)) ∧ Below w.heap.size w w'
theorem Ak (v:Value) (l:List Fl) (w:World) (hv:jX w v l) (hz:Ht l):Calls prog 5 #[v,.slice none 0 0] w (Pn l w):=by
 have hv0:=hv
 obtain ⟨ao,cap,rfl,hmax,hv⟩:=hv.open
 have HV:=ah hv0
 have HZ:=ah hz
 clear hv hv0 hz
 by_cases h60:60 < l.length
 ·have d1:(60:Int) < (l.length:Int):=by omega
  go_enter func5,ntmps5
  go_wp2_with fail
  go_ret
  exact ⟨⟨true,rfl,fun h => by cases h⟩,Below.refl _ _⟩
 have d1:¬ (60:Int) < (l.length:Int):=by omega
 go_enter func5,ntmps5
 go_wp2_with fail
 go_loopw [5,6] (fun nv i wr => ∃ (k s:Nat),k ≤ l.length ∧ nv = .int .i64 (s:Int) ∧ i = .int .i64 (k:Int) ∧ s = sumG (l.take k) ∧ s ≤ 1000 ∧ Hid (Below w.heap.size w wr)) (fun _ i _ => (l.length - intOf i).toNat)
 case atStart => exact ⟨0,0,by omega,rfl,rfl,rfl,by omega,Below.refl _ _⟩
 obtain ⟨wo,rfl⟩:∃ wo:World,wo = wr:=⟨_,rfl⟩
 obtain ⟨k,s,hk,rfl,rfl,hs,hs1,HBK⟩:=hrel
 by_cases hlt:k < l.length
 ·obtain ⟨ao2,cap2,e2,_,hv2⟩:=(HV.out.below HBK.out).open
  cases e2
  obtain ⟨g,off,rfl,hbl,hcell⟩:=hv2 (by intro e;rw [e] at hlt;simp at hlt)
  have k0:(0:Int) ≤ k:=by omega
  have k1:(k:Int) < l.length:=by omega
  have wk:IntKind.i64.wrap ((k:Int) + 1) = (k:Int) + 1:=IntWalk.i64_in _ (by omega)
  have r0:=hcell k hlt
  have HT:Hid (sumG (l.take (k + 1)) = s + (l[k].data.size / 100 + l[k].name.size)):=ah (by rw [List.take_succ_eq_append_getElem hlt,Ia,hs])
  have hz1:=HZ.out l[k] (List.getElem_mem hlt)
  generalize l[k] = f at r0 HT hz1
  have c1:wo.cell? ⟨g,off + k * 3 + 1,none⟩ = some (.string f.name):=r0 1 _ rfl
  have c2:wo.cell? ⟨g,off + k * 3 + 2,none⟩ = some (.string f.data):=r0 2 _ rfl
  obtain ⟨nz,hnz⟩:∃ nz,f.name.size = nz:=⟨_,rfl⟩
  obtain ⟨dz,hdz⟩:∃ dz,f.data.size / 100 = dz:=⟨_,rfl⟩
  have hdzi:((f.data.size:Int)).tdiv 100 = (dz:Int):=by rw [← hdz];rfl
  rw [hnz,hdz] at HT
  have hb1:nz ≤ 140737488355328 ∧ dz ≤ 1407374883554:=by omega
  clear hcell hv2 r0 hz1
  have HK1:Hid (l.length ≤ maxLen):=ah hmax
  have w1:IntKind.i64.wrap ((s:Int) + (dz:Int)) = (s:Int) + (dz:Int):=IntWalk.i64_in _ (by omega)
  have w2:IntKind.i64.wrap ((s:Int) + (dz:Int) + (nz:Int)) = ((s + dz + nz:Nat):Int):=by rw [IntWalk.i64_in _ (by omega)];omega
  have w3:IntKind.i64.wrap (dz:Int) = (dz:Int):=IntWalk.i64_in _ (by omega)
  have w4:IntKind.i64.wrap ((f.data.size:Int)) = (f.data.size:Int):=IntWalk.i64_in _ (by omega)
  obtain ⟨t,ht⟩:∃ t,s + dz + nz = t:=⟨_,rfl⟩
  rw [ht] at w2
  have HT2:Hid (sumG (l.take (k + 1)) = t):=ah (by rw [HT.out,← ht];omega)
  have hd0:(0:Int) ≤ (f.data.size:Int):=Int.natCast_nonneg _
  clear hdz hs ht hb1 HT
  by_cases h1000:1000 < t
  ·have g1:(1000:Int) < (t:Int):=by omega
   go_wp2_with fail
   refine wbq ?_
   have LQ0:=blq c1
   have LQ1:=blq c2
   repeat (go_big_quiet_step (fail))
   refine wpQuiet_nil ?_
   intro wq hbq
   clear LQ0 LQ1
   go_wp2_with fail
   go_ret
   exact ⟨⟨true,rfl,fun h => by cases h⟩,HBK.out.trans (hbq.mono HBK.out.size)⟩
  have g1:¬ (1000:Int) < (t:Int):=by omega
  go_wp2_with fail
  refine wbq ?_
  have LQ0:=blq c1
  have LQ1:=blq c2
  repeat (go_big_quiet_step (fail))
  refine wpQuiet_nil ?_
  intro wq hbq
  clear LQ0 LQ1
  go_wp2_with fail
  go_roundw
  case rel => exact ⟨k + 1,t,by omega,rfl,by go_num,HT2.out.symm,by omega,HBK.out.trans (hbq.mono HBK.out.size)⟩
  case measure => simp [intOf];omega
 obtain rfl:k = l.length:=by omega
 have HO:Hid (FlOk l):=ah (NZ HZ.out (by have:=hs;rw [List.take_length] at this;omega))
 have HCL:=ah (EI _ l wo (HV.out.below HBK.out) HO.out (by omega))
 clear hs
 go_wp2_with fail
 refine HCL.out.mono ?_
 rintro e w1 ⟨⟨b,rfl⟩,hb1⟩
 go_wp2_with fail
 go_ret
 exact ⟨⟨b,rfl,fun _ => ⟨by omega,HO.out⟩⟩,HBK.out.trans (hb1.mono HBK.out.size)⟩
theorem vG {d:Dk} {nm:ByteArray} (h:iL nm = false):loAt d nm = none:=by
 unfold iL at h
 unfold loAt
 cases hu:eu nm.data.toList with
 | none => rfl
 | some x => rw [hu] at h;cases h
theorem AJ {d:Dk} {nm:ByteArray} (h:iL nm = true):loAt d nm = match bW d (unId nm) with
  | .inl _ => none
  | .inr o => some (unId nm,o):=by
 unfold iL at h
 unfold loAt unId
 cases hu:eu nm.data.toList with
 | none => rw [hu] at h;cases h
 | some x => rfl
def fZ (d:Dk) (l:List ByteArray):List (List UInt8):=(fG d l).map (·.1)
theorem Fp {d:Dk} {l:List ByteArray} {k:Nat} (hk:k < l.length) (h:loAt d l[k] = none):fZ d (l.take (k + 1)) = fZ d (l.take k):=by
 unfold fZ fG
 rw [List.take_succ_eq_append_getElem hk,List.filterMap_append]
 simp [h]
theorem Fj {d:Dk} {l:List ByteArray} {k:Nat} {p:List UInt8 × Ob} (hk:k < l.length) (h:loAt d l[k] = some p):fZ d (l.take (k + 1)) = fZ d (l.take k) ++ [p.1]:=by
 unfold fZ fG
 rw [List.take_succ_eq_append_getElem hk,List.filterMap_append]
 simp [h]
theorem ze (d:Dk) (l:List ByteArray):(fZ d l).length ≤ l.length:=by
 unfold fZ fG
 rw [List.length_map]
 exact List.length_filterMap_le _ _
theorem LV {d:Dk} {l:List ByteArray} {x:List UInt8} (h:x ∈ fZ d l):x.length = 32:=by
 unfold fZ at h
 obtain ⟨p,hp,rfl⟩:=List.mem_map.1 h
 obtain ⟨nm,_,h2⟩:=List.mem_filterMap.1 hp
 cases hu:iL nm with
 | false => rw [vG hu] at h2;cases h2
 | true =>
  rw [AJ hu] at h2
  cases hg:bW d (unId nm) with
  | inl e => rw [hg] at h2;cases h2
  | inr o =>
   rw [hg] at h2
   cases h2
   exact tO nm
theorem q8 {d:Dk} {x:List UInt8} {e:Nat} (h:bW d x = .inl e):e ≠ 0:=by
 unfold bW at h
 split at h
 ·cases h;decide
 split at h
 ·cases h;decide
 cases h
structure Li15 (W1:World) (xs:List (List UInt8)) (v:Value) (w:World):Prop where
 own:w.ownsRow W1.heap.size 24 32 v xs.length (idsV xs)
 bel:Below W1.heap.size W1 w
theorem Li15.below {W1:World} {xs:List (List UInt8)} {v:Value} {w w':World} (h:Li15 W1 xs v w) (hb:Below w.heap.size w w'):Li15 W1 xs v w':=⟨own_below h.own hb,h.bel.trans (hb.mono h.bel.size)⟩
theorem OC:aP ⟨#[108,111,111,115,101]⟩ = some 0:=by decide +kernel
theorem Ca (g:Nat) (l:List Fl) (w:World) (hD:RdAt w g l) (hd:∀ k nm s,datF l k nm = some s → s.size ≤ 1000000) (hl:l.length ≤ 1000000):Calls prog 19 #[.pointer (some ⟨g,0,none⟩)] w fun e w' => ∃ v,e = .returned v ∧ bD w' v (fZ (datF l) (namF l 0)) ∧ bB w v ∧ Below w.heap.size w w':=by
 have HLI:=ah (rR g l ⟨#[108,111,111,115,101]⟩ 0 w hD OC hl)
 have HD:=ah hD
 have HSZ:=ah hd
 have hnl:(namF l 0).length ≤ 1000000:=Nat.le_trans (iX l 0) hl
 clear hD hd hl
 obtain ⟨d,hdd⟩:∃ d,datF l = d:=⟨_,rfl⟩
 have HDD:=ah hdd
 rw [hdd] at HSZ
 clear hdd
 obtain ⟨ns,hns⟩:∃ ns,namF l 0 = ns:=⟨_,rfl⟩
 rw [hns] at HLI hnl
 have HGOAL:Hid (fZ (datF l) (namF l 0) = fZ d ns):=ah (by rw [HDD.out,hns])
 clear hns
 go_enter func19,ntmps19
 go_wp2_with fail
 refine HLI.out.mono ?_
 rintro e w1 ⟨v,rfl,hv,hb1⟩
 have hv1:=hv
 obtain ⟨ao,cap,rfl,hmx,_⟩:=hv1
 have HV:=ah hv
 have HB1:=ah hb1
 have HD1:=ah (HD.out.below hb1)
 clear hv hb1 hmx
 go_wp2_with fail
 go_loopw [3,5,6,7,8,9] (fun ov i _ _ _ _ wr => ∃ k:Nat,k ≤ ns.length ∧ i = .int .i64 (k:Int) ∧ Hid (Li15 w1 (fZ d (ns.take k)) ov wr)) (fun _ i _ _ _ _ _ => (ns.length - intOf i).toNat)
 case atStart => exact ⟨0,by omega,rfl,⟨World.ownsRow_nil _ _ _ _,Below.refl _ _⟩⟩
 obtain ⟨wo,rfl⟩:∃ wo:World,wo = wr:=⟨_,rfl⟩
 obtain ⟨k,hk,rfl,HS⟩:=hrel
 by_cases hlt:k < ns.length
 ·obtain ⟨ao2,cap2,e2,_,hv2⟩:=HV.out.below HS.out.bel
  cases e2
  obtain ⟨b,off,rfl,hbl,hcell⟩:=hv2 (by intro e;rw [e] at hlt;simp at hlt)
  have k0:(0:Int) ≤ k:=by omega
  have k1:(k:Int) < ns.length:=by omega
  have wk:IntKind.i64.wrap ((k:Int) + 1) = (k:Int) + 1:=IntWalk.i64_in _ (by omega)
  have c0:=hcell k hlt
  have HN:Hid (loAt d ns[k] = none → fZ d (ns.take (k + 1)) = fZ d (ns.take k)):=ah (Fp hlt)
  have HY:Hid (∀ p,loAt d ns[k] = some p → fZ d (ns.take (k + 1)) = fZ d (ns.take k) ++ [p.1]):=ah (fun p => Fj hlt)
  have HUH:=ah (fun W => Eo ns[k] W)
  have HB0:Hid (iL ns[k] = false → loAt d ns[k] = none):=ah vG
  have HB2:Hid (iL ns[k] = true → loAt d ns[k] = match bW d (unId ns[k]) with | .inl _ => none | .inr o => some (unId ns[k],o)):=ah AJ
  have HIL:Hid ((unId ns[k]).length = 32):=ah (tO _)
  have hxl:(fZ d (ns.take k)).length ≤ 1000000:=Nat.le_trans (ze d _) (by rw [List.length_take];omega)
  unfold zS at HUH
  generalize unId ns[k] = x at HUH HB2 HIL
  generalize iL ns[k] = ok at HUH HB0 HB2
  generalize loAt d ns[k] = la at HN HY HB0 HB2
  generalize ns[k] = nm at c0 HUH
  generalize fZ d (ns.take k) = xs at HS HN HY hxl
  obtain ⟨oa,oc,rfl⟩:=ay HS.out.own
  clear hcell hv2
  obtain ⟨zi,j0,ji,jz0,jz1,jz2,hziv,hzil⟩:=gH
  go_wp2_with fail
  refine (HUH.out _).mono ?_
  rintro e w2 ⟨rfl,hb2⟩
  have HS2:=ah (HS.out.below hb2)
  have hxc:(idC x).length = 32:=by rw [aD,HIL.out]
  have HXO:=ah (bX x)
  have HT2:=ah (there_alloc (n:=32) w2 zi 24 hzil)
  have h32i:(prog.info? 24).map (·.size) = some 32:=by kernel_rfl
  have HXV:=ah (zo xs x)
  have HLG:=ah (fun W (h:RdAt W g l) => yA g l d x W HDD.out HIL.out h HSZ.out)
  generalize hcx:idC x = cx at HXO hxc HXV HLG
  have HCX:=ah hcx
  clear hcx hb2
  obtain ⟨W3,hW3⟩:∃ W,(w2.alloc (.cells zi 24)).setCells w2.heap.size 0 cx = W:=⟨_,rfl⟩
  have HX3:Hid (BoxL W3 w2.heap.size 24 cx):=ah (by
   rw [← hW3]
   have h1:=BoxL.new w2 24 zi.toList
   rw [Array.toArray_toList] at h1
   exact h1.set (by rw [hxc,Array.length_toList,hzil]))
  have hb3:Below w2.heap.size w2 W3:=by rw [← hW3];exact below_setCells _ (Nat.le_refl _) _ _ _ bal
  have HS3:=ah (HS2.out.below hb3)
  have HW3:=ah hW3
  clear hW3 hb3
  go_upto_region 7 with (refine aj rfl 24 _ _ rfl w2.heap.size 0 cx rfl rfl 32 hxc HT2.out h32i HXO.out ?_;rw [HW3.out])
  cases ok with
  | false =>
   have HE:=ah (HN.out (HB0.out rfl))
   go_wp2_with fail
   go_roundw
   case rel => exact ⟨k + 1,by omega,by go_num,by rw [HE.out];exact HS3.out⟩
   case measure => simp [intOf];omega
  | true =>
   have hx3:=HX3.out.range
   have h32x:=dG hxc
   have HL1:=HB2.out rfl
   have HLG3:=HLG.out W3 (HD1.out.below HS3.out.bel)
   go_wp2_with (refine wpList_load_mid rfl 24 _ rfl w2.heap.size 0 rfl cx _ hx3 underlying24 rfl h32x ?_)
   refine HLG3.mono ?_
   intro e w4 ha
   unfold xD at ha
   obtain ⟨ha,hb4⟩:=ha
   have HS4:=ah (HS3.out.below hb4)
   have HX4:=ah (HX3.out.below hb4)
   have HIO:Hid ((prog.info? 40).map (·.size) = some 2):=ah aF
   clear hb4 HLG3 hx3
   cases hg:bW d x with
   | inl er =>
    rw [hg] at ha HL1
    dsimp only at ha HL1
    subst ha
    have HE:=ah (HN.out HL1)
    have d0:¬ (er:Int) = 0:=by have:=q8 hg;omega
    clear hg HL1
    have HT4:=ah (there_alloc (n:=2) w4 #[.int .i64 0,.string ⟨#[]⟩] 40 rfl)
    obtain ⟨W5,hW5⟩:∃ W,(w4.alloc (.cells #[.int .i64 0,.string ⟨#[]⟩] 40)).setCells w4.heap.size 0 [.int .i64 0,.string ⟨#[]⟩] = W:=⟨_,rfl⟩
    have hb5:Below w4.heap.size w4 W5:=by rw [← hW5];exact below_setCells _ (Nat.le_refl _) _ _ _ bal
    have HS5:=ah (HS4.out.below hb5)
    have HX5:=ah (HX4.out.below hb5)
    have HW5:=ah hW5
    clear hW5 hb5
    go_upto_region 9 with (refine aj rfl 40 _ _ rfl w4.heap.size 0 [.int .i64 0,.string ⟨#[]⟩] rfl rfl 2 rfl HT4.out HIO.out (by intro v hv;simp at hv;rcases hv with rfl | rfl <;> rfl) ?_;rw [HW5.out])
    go_wp2_with fail
    go_roundw
    case rel => exact ⟨k + 1,by omega,by go_num,by rw [HE.out];exact HS5.out⟩
    case measure => simp [intOf];omega
   | inr o =>
    rw [hg] at ha HL1
    dsimp only at ha HL1
    have HE:=ah (HY.out _ HL1)
    have HCO:=ah (dx o)
    have HCL:Hid ((obC o).length = 2):=ah rfl
    clear hg HL1
    subst ha
    generalize obC o = co at HCO HCL
    have HT4:=ah (there_alloc (n:=2) w4 #[.int .i64 0,.string ⟨#[]⟩] 40 rfl)
    obtain ⟨W5,hW5⟩:∃ W,(w4.alloc (.cells #[.int .i64 0,.string ⟨#[]⟩] 40)).setCells w4.heap.size 0 co = W:=⟨_,rfl⟩
    have hb5:Below w4.heap.size w4 W5:=by rw [← hW5];exact below_setCells _ (Nat.le_refl _) _ _ _ bal
    have HS5:=ah (HS4.out.below hb5)
    have HX5:=ah (HX4.out.below hb5)
    have HW5:=ah hW5
    clear hW5 hb5
    go_upto_region 9 with (refine aj rfl 40 _ _ rfl w4.heap.size 0 co rfl rfl 2 HCL.out HT4.out HIO.out HCO.out ?_;rw [HW5.out])
    have hx5:=HX5.out.range
    obtain ⟨W6,hW6⟩:∃ W,W5.alloc (.cells cx.toArray 24) = W:=⟨_,rfl⟩
    have hb6:Below W5.heap.size W5 W6:=by rw [← hW6];exact bal
    have HR6:Hid (W6.rangeAt W5.heap.size 0 cx):=ah (by rw [← hW6];exact (BoxL.new W5 24 cx).range)
    have HS6:=ah (HS5.out.below hb6)
    have HW6:=ah hW6
    have HXC:=ah hxc
    have HSZI:Hid (∀ w,(sizeOf 24).run prog w = .ok cx.length w):=ah (fun w => by rw [HXC.out];kernel_rfl)
    have HZV:=ah hziv
    clear hW6 hb6 hxc hziv
    go_wp2_with (first
     | (rw [HW6.out];refine bP _ rfl _ _ rfl w1.heap.size (.slice oa xs.length oc) xs.length (idsV xs) rfl HS6.out.own W5.heap.size cx HXC.out HXO.out rfl HR6.out (by omega) HS6.out.bel.size ?_)
     | refine wpList_load_mid rfl 24 _ rfl w2.heap.size 0 rfl cx _ hx5 underlying24 rfl h32x ?_
     | (refine av rfl _ 33 24 rfl cx zi rfl underlying33 HSZI.out HZV.out (by rw [HXC.out];decide) (by rw [HXC.out];decide) ?_))
    intro v7 w7 hown7 hg7 _
    have HEND:Hid (Li15 w1 (xs ++ [x]) v7 w7):=ah ⟨by rw [HXV.out];simpa only [List.length_append,List.length_cons,List.length_nil] using hown7,HS6.out.bel.grown hg7 HS6.out.bel.size (fun j hj => (HS6.out.own.lt j hj).1)⟩
    obtain ⟨va7,vc7,rfl⟩:=ay hown7
    clear hown7 hg7 hx5
    go_wp2_with fail
    go_roundw
    case rel => exact ⟨k + 1,by omega,by go_num,by rw [HE.out];exact HEND.out⟩
    case measure => simp [intOf];omega
 obtain rfl:k = ns.length:=by omega
 go_wp2_with fail
 go_ret
 refine ⟨_,rfl,?_,fun g hg => Nat.le_trans HB1.out.size (HS.out.own.lt g hg).1,HB1.out.trans (HS.out.bel.mono HB1.out.size)⟩
 rw [HGOAL.out]
 have:=HS.out.own
 rw [List.take_length] at this
 exact bD.rW this (fun x hx => LV hx)
end
end Go.Proofs.YtijhemdnajlfnaaGreatDoor

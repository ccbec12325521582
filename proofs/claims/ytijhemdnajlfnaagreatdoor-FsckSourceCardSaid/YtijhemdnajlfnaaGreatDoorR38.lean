/- A part of this claim. -/
import Derived.Test.YtijhemdnajlfnaaGreatDoorR20
import Derived.Test.YtijhemdnajlfnaaGreatDoorR37
namespace Go.Proofs.YtijhemdnajlfnaaGreatDoor
open Tryz
set_option maxHeartbeats 64000000
set_option maxRecDepth 100000
set_option linter.all false
section
open Go.RowKit Go.Maps Go.WideMaps
theorem rT {l:List Pt}:∀ {f k:Nat} {ks:List Nat},cZ l f k = .inr ks → cZ l (f + 1) k = .inr ks
 | 0,_,_,h => by cases h
 | f + 1,k,ks,h => by
  unfold cZ at h ⊢
  split at h
  ·cases h
  rename_i p hp
  split at h
  ·rename_i hd
   rw [if_pos hd]
   split at h
   ·cases h
   rename_i hb
   rw [if_neg hb]
   split at h
   ·cases h
   rename_i ks' h2
   rw [rT h2]
   exact h
  rename_i hd
  rw [if_neg hd]
  exact h
theorem Jk {l:List Pt} {k:Nat} {ks:List Nat} (h:bM l k = .inr ks):(ks = [k]) ∨ ∃ m ks',ks = k :: m :: ks' ∧ m < k ∧ bM l m = .inr (m :: ks'):=by
 have hl:=Cu h
 unfold bM at h
 rw [if_neg (by omega)] at h
 have h0:=h
 unfold cZ at h
 split at h
 ·cases h
 split at h
 ·split at h
  ·cases h
  rename_i p hp hd hb
  split at h
  ·cases h
  rename_i ks' h2
  cases h
  right
  have hm:p.base.toNat < k:=by omega
  have h3:=rT h2
  have h4:∃ ks'',ks' = p.base.toNat :: ks'':=by
   unfold cZ at h2
   split at h2
   ·cases h2
   split at h2
   ·split at h2
    ·cases h2
    split at h2
    ·cases h2
    cases h2;exact ⟨_,rfl⟩
   split at h2
   ·cases h2
   cases h2;exact ⟨_,rfl⟩
  obtain ⟨ks'',rfl⟩:=h4
  refine ⟨_,ks'',rfl,hm,?_⟩
  unfold bM
  rw [if_neg (by omega)]
  exact h3
 split at h
 ·cases h
 cases h;exact .inl rfl
theorem BD {l:List Pt} {k m:Nat} {ks':List Nat} {s:ByteArray} (h:bM l k = .inr (k :: m :: ks')) (hm:bM l m = .inr (m :: ks')) (hs:bq l m = .inr s):bq l k = textOf (l.getD k pt0) s:=by
 rw [jO h,gM]
 rw [jO hm] at hs
 rw [hs]
theorem Ee {l:List Pt} {k:Nat} (h:bM l k = .inr [k]):bq l k = textOf (l.getD k pt0) ByteArray.empty:=by
 rw [jO h,gM];rfl
theorem Ib (w:World):(zeroValue 9).run prog w = .ok (.string ⟨#[]⟩) w:=by
 obtain ⟨i0,hi,hz0,hz1,hz2⟩:=info_parts vP
 simp [zeroValue,typeInfo,hi,hz0]
def Known (l:List Pt) (k:Nat) (f:Nat → Option ByteArray):Prop:=∀ j,j < k → ∃ t,f j = some t ∧ bq l j = .inr t
def Hr (l:List Pt) (k mb n:Nat) (f:Nat → Option ByteArray) (w:World) (e:Ending) (w':World):Prop :=
 (match bq l k with
 | .inl c => e = .returned (.tuple #[.string ⟨#[]⟩,.int .i64 (c:Int)])
 | .inr t => e = .returned (.tuple #[.string t,.int .i64 0]) ∧ MapN Value.string w' mb (n + 1) (fun q => if q = k then some t else f q)) ∧ w.grownBy w' (some mb)
theorem vY {l:List Pt} {k mb n c:Nat} {f:Nat → Option ByteArray} {w w':World} (h:bq l k = .inl c) (hb:w.grownBy w' (some mb)):Hr l k mb n f w (.returned (.tuple #[.string ⟨#[]⟩,.int .i64 (c:Int)])) w':=⟨by rw [h],hb⟩
theorem zy {l:List Pt} {k mb n:Nat} {t:ByteArray} {f:Nat → Option ByteArray} {w w':World} (h:bq l k = .inr t) (hm:MapN Value.string w' mb (n + 1) (fun q => if q = k then some t else f q)) (hb:w.grownBy w' (some mb)):Hr l k mb n f w (.returned (.tuple #[.string t,.int .i64 0])) w':=⟨by rw [h];exact ⟨rfl,hm⟩,hb⟩
theorem Nf (vl:Value) (l:List Pt) (k bl bm mb n:Nat) (f:Nat → Option ByteArray) (w:World) (hv:dQ w vl l) (ho:PtOk l) (hk:k < l.length) (hl:l.length ≤ 200) (hcl:w.cell? ⟨bl,0,none⟩ = some vl) (hcm:w.cell? ⟨bm,0,none⟩ = some (.map (some mb))) (hm:MapN Value.string w mb n f) (hf:Known l k f) (hn:n ≤ 1000) :
  Calls prog 198 #[.int .i64 (k:Int),.pointer (some ⟨bl,0,none⟩),.pointer (some ⟨bm,0,none⟩)] w (Hr l k mb n f w):=by
 have HPA:=ah (Kg vl l k w hv ho (by omega))
 have HV:=ah hv
 obtain ⟨ao,cap,rfl,hmax,_⟩:=hv.open
 have HO:=ah ho
 have HM:=ah hm
 have HF:=ah hf
 have hbl:=World.block_lt_of_cell? w _ hcl
 have hbm:=World.block_lt_of_cell? w _ hcm
 clear hv ho hm hf
 unfold zW at HPA
 cases hp:bM l k with
 | inl c =>
  rw [hp] at HPA
  dsimp only at HPA
  obtain ⟨hc1,hc2⟩:=qQ hp
  have HNO:=ah (uh hp)
  have d1:((c:Int) != 0) = true:=by rw [bne_iff_ne];omega
  clear hp
  go_enter func198,ntmps198
  go_wp2_with fail
  refine HPA.out.mono ?_
  rintro e w1 ⟨rfl,hb1⟩
  go_wp2_with fail
  go_ret2
  exact vY HNO.out (aA hb1 _)
 | inr ks =>
  rw [hp] at HPA
  dsimp only at HPA
  have HG:Hid (l.getD k pt0 = l[k]):=ah (by rw [List.getD_eq_getElem?_getD,List.getElem?_eq_getElem hk];rfl)
  have HO1:=ah (HO.out l[k] (List.getElem_mem hk))
  go_enter func198,ntmps198
  go_wp2_with fail
  refine HPA.out.mono ?_
  rintro e w1 ⟨⟨vk,rfl,hks⟩,hb1⟩
  have cl1:=ak hcl hb1 hbl
  have cm1:=ak hcm hb1 hbm
  have hbl1:bl < w1.heap.size:=by have:=hb1.size;omega
  have hbm1:bm < w1.heap.size:=by have:=hb1.size;omega
  have HM1:=ah (HM.out.on hb1)
  have HV1:=ah (HV.out.below hb1)
  have HB1:=ah hb1
  clear hcl hcm hb1 HM HV
  rcases Jk hp with rfl | ⟨m,ks',rfl,hmk,hpm⟩
  ·have HT:Hid (bq l k = textOf l[k] ByteArray.empty):=ah (by rw [Ee hp,HG.out])
   obtain ⟨ko,kc,rfl,_,_⟩:=hks.open
   obtain ⟨ao2,cap2,e2,_,hv2⟩:=HV1.out.open
   cases e2
   obtain ⟨g,off,rfl,hgl,hcell⟩:=hv2 (by intro e;rw [e] at hk;simp at hk)
   have r0:=hcell k hk
   have i0:(0:Int) ≤ k:=by omega
   have i1:(k:Int) < l.length:=by omega
   generalize hpp:l[k] = p at r0 HT HO1
   have h3:(prog.info? 247).map (·.size) = some (ptF p).length:=jT
   have HCT:=ah (zL p ⟨#[]⟩ w1 (by decide) HO1.out.2.2)
   have hkn:¬ (1:Int) < ((([k]:List Nat).length:Nat):Int):=by simp
   generalize hL1:([k]:List Nat).length = L1 at hkn
   clear hp HG hcell hv2 hpp hks
   go_wp2_with (refine wpList_load_mid rfl 247 _ rfl g (off + k * 3) rfl (ptF p) _ r0 underlying247 rfl h3 ?_)
   refine HCT.out.mono ?_
   rintro e w2 ⟨rfl,hb2⟩
   have cm2:=ak cm1 hb2 hbm1
   have HM2:=ah (HM1.out.on hb2)
   have HB2:=bth HB1 hb2
   clear hb2 r0 h3 cl1 cm1
   have HEM:Hid ((⟨#[]⟩:ByteArray) = ByteArray.empty):=rfl
   rw [HEM.out]
   cases hx:textOf p ByteArray.empty with
   | inl c =>
    have HNO:Hid (bq l k = .inl c):=ah (by rw [HT.out,hx])
    clear hx
    dsimp only [iV]
    go_wp2_with (refine gG rfl _ _ _ 314 9 rfl underlying314 mb n f rfl HM2.out k (by unfold small;omega) ⟨#[]⟩ rfl rfl (by unfold maxLen;omega) ?_)
    intro w3 hm3 hg3
    go_wp2_with fail
    go_ret2
    exact vY HNO.out ((aA HB2.out _).trans hg3)
   | inr t =>
    have HYE:Hid (bq l k = .inr t):=ah (by rw [HT.out,hx])
    clear hx
    dsimp only [iV]
    go_wp2_with (refine gG rfl _ _ _ 314 9 rfl underlying314 mb n f rfl HM2.out k (by unfold small;omega) t rfl rfl (by unfold maxLen;omega) ?_)
    intro w3 hm3 hg3
    go_wp2_with fail
    go_ret2
    exact zy HYE.out hm3 ((aA HB2.out _).trans hg3)
  obtain ⟨s,hfs,hts⟩:=HF.out m hmk
  have HT:Hid (bq l k = textOf l[k] s):=ah (by rw [BD hp hpm hts,HG.out])
  have hss:=ug hts
  obtain ⟨ko,kc,rfl,hkmx,hks2⟩:=hks.open
  obtain ⟨kg,koff,rfl,hkgl,hkc⟩:=hks2 (by simp)
  have kc1:w1.cell? ⟨kg,koff + 1,none⟩ = some (.int .i64 (m:Int)):=hkc 1 (by simp)
  obtain ⟨ao2,cap2,e2,_,hv2⟩:=HV1.out.open
  cases e2
  obtain ⟨g,off,rfl,hgl,hcell⟩:=hv2 (by intro e;rw [e] at hk;simp at hk)
  have r0:=hcell k hk
  have i0:(0:Int) ≤ k:=by omega
  have i1:(k:Int) < l.length:=by omega
  generalize hpp:l[k] = p at r0 HT HO1
  have hkn:(1:Int) < (((k :: m :: ks').length:Nat):Int):=by simp only [List.length_cons];omega
  generalize (k :: m :: ks').length = L1 at hkn
  have HR0:=ah r0
  clear hp hpm HG hcell hv2 hpp hks hks2 hkc r0
  go_wp2_with fail
  refine wbq ?_
  have LQ0:=fun x:BW (World.heap w1).size w1 => ak cm1 x.hb hbm1
  have LQ1:=fun x:BW (World.heap w1).size w1 => ak kc1 x.hb hkgl
  have LK:=fun x:BW (World.heap w1).size w1 => (HM1.out.on x.hb).look (t:=314) (e:=9) underlying314 (Ib x.out) (x:=m) (show small m from by unfold small;omega)
  rw [hfs] at LK
  dsimp only [Option.map,Option.getD] at LK
  repeat (go_big_quiet_step (fail))
  refine wpQuiet_nil ?_
  intro wq hbq
  clear LQ0 LQ1 LK kc1
  have clq:=ak cl1 hbq hbl1
  have cmq:=ak cm1 hbq hbm1
  have r0:=au HR0.out hbq hgl
  have hbmq:bm < wq.heap.size:=by have:=hbq.size;omega
  have HMQ:=ah (HM1.out.on hbq)
  have HBQ:=bth HB1 hbq
  have h3:(prog.info? 247).map (·.size) = some (ptF p).length:=jT
  have HCT:=ah (zL p s wq (by omega) HO1.out.2.2)
  clear hbq cl1 cm1 HB1 HM1 HV1 HR0 hts
  go_wp2_with (refine wpList_load_mid rfl 247 _ rfl g (off + k * 3) rfl (ptF p) _ r0 underlying247 rfl h3 ?_)
  refine HCT.out.mono ?_
  rintro e w2 ⟨rfl,hb2⟩
  have cm2:=ak cmq hb2 hbmq
  have HM2:=ah (HMQ.out.on hb2)
  have HB2:=bth HBQ hb2
  clear hb2 r0 h3 clq cmq
  cases hx:textOf p s with
  | inl c =>
   have HNO:Hid (bq l k = .inl c):=ah (by rw [HT.out,hx])
   clear hx
   dsimp only [iV]
   go_wp2_with (refine gG rfl _ _ _ 314 9 rfl underlying314 mb n f rfl HM2.out k (by unfold small;omega) ⟨#[]⟩ rfl rfl (by unfold maxLen;omega) ?_)
   intro w3 hm3 hg3
   go_wp2_with fail
   go_ret2
   exact vY HNO.out ((aA HB2.out _).trans hg3)
  | inr t =>
   have HYE:Hid (bq l k = .inr t):=ah (by rw [HT.out,hx])
   clear hx
   dsimp only [iV]
   go_wp2_with (refine gG rfl _ _ _ 314 9 rfl underlying314 mb n f rfl HM2.out k (by unfold small;omega) t rfl rfl (by unfold maxLen;omega) ?_)
   intro w3 hm3 hg3
   go_wp2_with fail
   go_ret2
   exact zy HYE.out hm3 ((aA HB2.out _).trans hg3)
theorem Fv {l:List Pt} {k:Nat} {f:Nat → Option ByteArray} {t:ByteArray} (h:Known l k f) (hx:bq l k = .inr t):Known l (k + 1) (fun q => if q = k then some t else f q):=by
 intro j hj
 by_cases e:j = k
 ·exact ⟨t,if_pos e,by rw [e];exact hx⟩
 obtain ⟨s,h1,h2⟩:=h j (by omega)
 exact ⟨s,by rw [← h1];exact if_neg e,h2⟩
structure Nj (l:List Pt) (vl:Value) (w:World) (m:Nat) (ts:List ByteArray) (wr:World):Prop where
 cl:wr.cell? ⟨w.heap.size,0,none⟩ = some vl
 cm:wr.cell? ⟨m + 1,0,none⟩ = some (.map (some m))
 map:∃ f,MapN Value.string wr m ts.length f ∧ Known l ts.length f
 below:Below w.heap.size w wr
theorem Kh (vl:Value) (l:List Pt) (w:World) (hv:dQ w vl l) (ho:PtOk l):Calls prog 144 #[vl] w (zT l w):=by
 have HV:=ah hv
 have HO:=ah ho
 obtain ⟨ao,cap,rfl,hmax,_⟩:=hv.open
 clear hv ho
 obtain ⟨w1,hw1⟩:∃ w1,w.alloc (.cells #[.slice ao l.length cap] 74) = w1:=⟨_,rfl⟩
 have hB1:Below w.heap.size w w1:=by rw [← hw1];exact bal
 have hS1:w1.heap.size = w.heap.size + 1:=by rw [← hw1];simp
 have c1:w1.cell? ⟨w.heap.size,0,none⟩ = some (.slice ao l.length cap):=by rw [← hw1,World.cell?_alloc_new];rfl
 have HW1:=ah hw1
 clear hw1
 by_cases h2:200 < l.length
 ·have d1:(200:Int) < (l.length:Int):=by omega
  have HNO:=ah (tV h2)
  have HB1:=ah hB1
  clear hB1 hS1
  go_enter func144,ntmps144
  go_upto_region 1 with fail
  rw [HW1.out]
  go_wp2_with fail
  go_ret2
  exact oW HNO.out HB1.out
 have d1:¬ (200:Int) < (l.length:Int):=by omega
 have HST:=ah (rJ (l:=l) (by omega))
 have HB1:=ah hB1
 have HS1:=ah hS1
 clear hB1 hS1
 go_enter func144,ntmps144
 go_upto_region 1 with fail
 rw [HW1.out]
 have hmm:=@run_makeMap prog
 have hmt:=underlying314
 go_upto_region 5 with fail
 obtain ⟨W3,hW3⟩:∃ W3,(w1.alloc (.map #[] 0)).alloc (.cells #[.map (some w1.heap.size)] 314) = W3:=⟨_,rfl⟩
 rw [hW3]
 have hb3:Below w1.heap.size w1 W3:=by rw [← hW3];exact bal.alloc (by simp) _
 have HST3:Hid (Nj l (.slice ao l.length cap) w w1.heap.size [] W3):=ah ⟨ak c1 hb3 (by have:=HS1.out;omega),by
   have:=World.cell?_alloc_new (w1.alloc (.map #[] 0)) #[.map (some w1.heap.size)] 314 0
   rw [World.size_alloc] at this
   rw [← hW3,this];rfl,⟨fun _ => none,by
   have h1:=JB (enc:=Value.string) w1
   rw [← hW3]
   exact h1.on bal,fun j hj => by cases hj⟩,HB1.out.trans (hb3.mono HB1.out.size)⟩
 have HL1:Hid (w.heap.size < w1.heap.size):=ah (by have:=HS1.out;omega)
 have c3:W3.cell? ⟨w.heap.size,0,none⟩ = some (.slice ao l.length cap):=HST3.out.cl
 clear hW3 hb3 c1 hmm hmt
 go_wp2_with fail
 clear c3
 go_loopw [6,7,8,9,17] (fun vo _ _ _ i wr => ∃ ts:List ByteArray,ts.length ≤ l.length ∧ i = .int .i64 (ts.length:Int) ∧ Hid (cu l = preT ts (bJ l ts.length (l.length - ts.length))) ∧ wr.ownsRow (w1.heap.size + 2) 9 1 vo ts.length (o9 ts) ∧ Nj l (.slice ao l.length cap) w w1.heap.size ts wr) (fun _ _ _ _ i _ => (l.length - intOf i).toNat)
 case atStart => exact ⟨[],Nat.zero_le _,rfl,HST,World.ownsRow_nil _ _ _ _,HST3.out⟩
 obtain ⟨ts,hk,rfl,hT,hO,hS⟩:=hrel
 obtain ⟨oo,oc,rfl⟩:=ay hO
 have HOW:=ah hO
 have HS:=ah hS
 clear hO hS
 by_cases hlt:ts.length < l.length
 ·obtain ⟨f,hmf,hkf⟩:=HS.out.map
  have HFN:=ah (Nf (.slice ao l.length cap) l ts.length w.heap.size (w1.heap.size + 1) w1.heap.size ts.length f wr (HV.out.below HS.out.below) HO.out hlt (by omega) HS.out.cl HS.out.cm hmf hkf (by omega))
  have HKF:=ah hkf
  have HNX:=ah (fun s => tT (l:=l) (s:=s) ts hlt)
  have HBD:=ah (fun e => yc (l:=l) (e:=e) ts hlt)
  have i0:(0:Int) ≤ ts.length:=by omega
  have i1:(ts.length:Int) < l.length:=by omega
  have wi:IntKind.i64.wrap ((ts.length:Int) + 1) = (ts.length:Int) + 1:=by rw [IntKind.wrap_i64];omega
  clear hmf hkf
  go_wp2_with fail
  refine HFN.out.mono ?_
  rintro e w2 hans
  unfold Hr at hans
  have HB2:Hid (Below w.heap.size w w2):=ah (HS.out.below.grown hans.2 HS.out.below.size (fun j hj => by cases hj;have:=HL1.out;omega))
  have HOW2:=ah (bC HOW.out hans.2 (by omega))
  cases hx:bq l ts.length with
  | inl e =>
   rw [hx] at hans
   dsimp only at hans
   obtain ⟨rfl,hg⟩:=hans
   obtain ⟨he1,he2⟩:=o8 hx
   have HNO:Hid (cu l = .inl e):=ah (by rw [hT.out,HBD.out e hx])
   have d3:((e:Int) != 0) = true:=by rw [bne_iff_ne];omega
   clear hx hg
   go_wp2_with fail
   go_ret2
   exact oW HNO.out HB2.out
  | inr s =>
   rw [hx] at hans
   dsimp only at hans
   obtain ⟨⟨rfl,hm2⟩,hg⟩:=hans
   have HTN:Hid (cu l = preT (ts ++ [s]) (bJ l (ts.length + 1) (l.length - (ts.length + 1)))):=ah (by rw [hT.out,HNX.out s hx])
   have HKN:=ah (Fv HKF.out hx)
   have HC2:Hid (w2.cell? ⟨w.heap.size,0,none⟩ = some (.slice ao l.length cap)):=ah (hg.cell HS.out.cl (by have:=HL1.out;simp;omega))
   have HM2:Hid (w2.cell? ⟨w1.heap.size + 1,0,none⟩ = some (.map (some w1.heap.size))):=ah (hg.cell HS.out.cm (by simp))
   have HMM:=ah hm2
   have HB3:Hid (Below w2.heap.size w2 (w2.alloc (.cells #[.string s] 9))):=ah bal
   have HOW3:=ah (own_below HOW2.out HB3.out)
   have HCE:Hid ((w2.alloc (.cells #[.string s] 9)).cell? ⟨w2.heap.size,0,none⟩ = some (.string s)):=ah (by rw [World.cell?_alloc_new];rfl)
   have HB4:=ah (HB2.out.trans (HB3.out.mono HB2.out.size))
   have HSZ:Hid (w1.heap.size + 2 ≤ (w2.alloc (.cells #[.string s] 9)).heap.size):=ah (by have h1:=World.block_lt_of_cell? w2 _ HM2.out;have h2:=HB3.out.size;have h3:w1.heap.size + 1 < w2.heap.size:=h1;omega)
   have HC3:=ah (ak HC2.out HB3.out (World.block_lt_of_cell? w2 _ HC2.out))
   have HM3:=ah (ak HM2.out HB3.out (World.block_lt_of_cell? w2 _ HM2.out))
   have HMM3:=ah (HMM.out.on HB3.out)
   obtain ⟨W,hW⟩:∃ W,w2.alloc (.cells #[.string s] 9) = W:=⟨_,rfl⟩
   rw [hW] at HB3 HOW3 HCE HB4 HSZ HC3 HM3 HMM3
   have HW:=ah hW
   clear hx hW hg hm2 HC2 HM2 HMM
   go_wp2_with (rw [HW.out];refine jN _ rfl _ _ rfl (w1.heap.size + 2) _ ts.length (o9 ts) rfl HOW3.out w2.heap.size s rfl HCE.out (by omega) HSZ.out ?_)
   intro v5 w5 hown5 hg5 _
   have HOW5:Hid (w5.ownsRow (w1.heap.size + 2) 9 1 v5 (ts ++ [s]).length (o9 (ts ++ [s]))):=ah (by rw [uo,List.length_append];exact hown5)
   have hgt:∀ j,(Value.slice oo ts.length oc).ownBlock = some j → w1.heap.size + 2 ≤ j:=fun j hj => (HOW3.out.lt j hj).1
   have HLN:Hid ((ts ++ [s]).length = ts.length + 1):=ah (by simp)
   have HS5:Hid (Nj l (.slice ao l.length cap) w w1.heap.size (ts ++ [s]) w5):=ah ⟨hg5.cell HC3.out (fun x => by have:=hgt _ x.symm;have:=HL1.out;dsimp only at *;omega),hg5.cell HM3.out (fun x => by have:=hgt _ x.symm;dsimp only at *;omega),⟨_,by rw [HLN.out];exact HMM3.out.grown hg5 (fun x => by have:=hgt _ x.symm;omega),by rw [HLN.out];exact HKN.out⟩,HB4.out.grown hg5 HB4.out.size (fun j hj => by have:=hgt j hj;have:=HL1.out;omega)⟩
   clear hown5 hg5 hgt
   go_wp2_with fail
   go_roundw
   case rel => exact ⟨ts ++ [s],by rw [HLN.out];omega,by rw [HLN.out];go_num,by rw [HLN.out];exact HTN,HOW5.out,HS5.out⟩
   case measure => simp [intOf];omega
 have he:ts.length = l.length:=by omega
 have HYE:Hid (cu l = .inr ts):=ah (by rw [hT.out,he,x9])
 have HR:=ah (bT.aS HOW.out)
 have HFR:Hid (bB w (.slice oo ts.length oc)):=ah fun g hg => by have:=(HOW.out.lt g hg).1;have:=HL1.out;omega
 have d2:¬ (ts.length:Int) < l.length:=by omega
 clear he
 go_wp2_with fail
 go_ret2
 exact xZ HYE.out HR.out HFR.out HS.out.below
end
section
open Go.RowKit
theorem SX.mk {Sp S0:World → Prop} {m:Nat} {ls:Array Bool} {w:World} (h1:Sp w) (h2:S0 w):SX m Sp S0 ls w:=⟨h1,.inr h2⟩
theorem SX.done {Sp S0:World → Prop} {m:Nat} {ls:Array Bool} {w:World} (h1:Sp w) (h2:ls.getD m false = true):SX m Sp S0 ls w:=⟨h1,.inl h2⟩
section
variable {B:Nat} {E1 E2:TypeId} {s1 s2:Nat} {wz W W':World} {v1 v1':Value} {n1 n1':Nat} {x1 x1':List Value} {v2 v2':Value} {n2 n2':Nat} {x2 x2':List Value} {q1 q2:Option (Nat × List Value)}
theorem A2.start (h1:wz.ownsRow B E1 s1 v1 n1 x1) (h2:wz.ownsRow B E2 s2 v2 n2 x2):A2 B E1 E2 s1 s2 wz v1 n1 x1 v2 n2 x2 none none wz :=
 ⟨h1,h2,Below.refl _ _,Nat.le_refl _,fun _ _ h => (by cases h),fun _ _ h => by cases h⟩
theorem A2.drew (h:A2 B E1 E2 s1 s2 wz v1 n1 x1 v2 n2 x2 q1 q2 W):A2 B E1 E2 s1 s2 wz v1 n1 x1 v2 n2 x2 q1 q2 W.drew :=
 ⟨h.o1,h.o2,h.bel.drew,h.sz,h.q1,h.q2⟩
theorem A2.rE (h:A2 B E1 E2 s1 s2 wz v1 n1 x1 v2 n2 x2 none q2 W) (hB:B ≤ wz.heap.size) (cs:List Value) (E:TypeId):A2 B E1 E2 s1 s2 wz v1 n1 x1 v2 n2 x2 (some (W.heap.size,cs)) q2 (W.alloc (.cells cs.toArray E)):=by
 have hb:Below W.heap.size W (W.alloc (.cells cs.toArray E)):=bal
 have hs:=hb.size
 refine ⟨own_below h.o1 hb,own_below h.o2 hb,h.bel.trans (hb.mono (Nat.le_trans hB h.sz)),Nat.le_trans h.sz hs,fun b c e => ?_,fun b c e => ?_⟩
 ·cases e
  exact ⟨h.sz,by simp,(BoxL.new W E cs).range⟩
 obtain ⟨k1,k2,k3⟩:=h.q2 b c e
 exact ⟨k1,Nat.lt_of_lt_of_le k2 hs,au k3 hb k2⟩
theorem A2.mW (h:A2 B E1 E2 s1 s2 wz v1 n1 x1 v2 n2 x2 q1 none W) (hB:B ≤ wz.heap.size) (cs:List Value) (E:TypeId):A2 B E1 E2 s1 s2 wz v1 n1 x1 v2 n2 x2 q1 (some (W.heap.size,cs)) (W.alloc (.cells cs.toArray E)):=by
 have hb:Below W.heap.size W (W.alloc (.cells cs.toArray E)):=bal
 have hs:=hb.size
 refine ⟨own_below h.o1 hb,own_below h.o2 hb,h.bel.trans (hb.mono (Nat.le_trans hB h.sz)),Nat.le_trans h.sz hs,fun b c e => ?_,fun b c e => ?_⟩
 ·obtain ⟨k1,k2,k3⟩:=h.q1 b c e
  exact ⟨k1,Nat.lt_of_lt_of_le k2 hs,au k3 hb k2⟩
 cases e
 exact ⟨h.sz,by simp,(BoxL.new W E cs).range⟩
theorem A2.app1 (h:A2 B E1 E2 s1 s2 wz v1 n1 x1 v2 n2 x2 q1 q2 W) (hB:B ≤ wz.heap.size) (hv:∀ j,v1.ownBlock = some j → j < wz.heap.size) (hE:E2 ≠ E1) (ho:W'.ownsRow B E1 s1 v1' n1' x1') (hg:W.grownBy W' v1.ownBlock):A2 B E1 E2 s1 s2 wz v1' n1' x1' v2 n2 x2 none q2 W' :=
 ⟨ho,h.o2.kept hg (eX h.o2 h.o1 hE),h.bel.grown hg (Nat.le_trans hB h.sz) (fun k hk => (h.o1.lt k hk).1),Nat.le_trans h.sz hg.size,fun _ _ e => (by cases e),fun b c e => by
  obtain ⟨k1,k2,k3⟩:=h.q2 b c e
  exact ⟨k1,Nat.lt_of_lt_of_le k2 hg.size,dX k3 hg (fun x => by have:=hv b x;omega)⟩⟩
theorem A2.app2 (h:A2 B E1 E2 s1 s2 wz v1 n1 x1 v2 n2 x2 q1 q2 W) (hB:B ≤ wz.heap.size) (hv:∀ j,v2.ownBlock = some j → j < wz.heap.size) (hE:E1 ≠ E2) (ho:W'.ownsRow B E2 s2 v2' n2' x2') (hg:W.grownBy W' v2.ownBlock):A2 B E1 E2 s1 s2 wz v1 n1 x1 v2' n2' x2' q1 none W' :=
 ⟨h.o1.kept hg (eX h.o1 h.o2 hE),ho,h.bel.grown hg (Nat.le_trans hB h.sz) (fun k hk => (h.o2.lt k hk).1),Nat.le_trans h.sz hg.size,fun b c e => by
  obtain ⟨k1,k2,k3⟩:=h.q1 b c e
  exact ⟨k1,Nat.lt_of_lt_of_le k2 hg.size,dX k3 hg (fun x => by have:=hv b x;omega)⟩,fun _ _ e => (by cases e)⟩
end
def ptsF (l:List Pt):List Value:=(l.map ptF).flatten
theorem qP (l:List Pt) (p:Pt):ptsF (l ++ [p]) = ptsF l ++ ptF p:=by simp [ptsF]
theorem dQ.aS {w:World} {B:Nat} {v:Value} {l:List Pt} (h:w.ownsRow B 247 3 v l.length (ptsF l)):dQ w v l :=
 aK.aS (B:=B) (e:=247) (fun r hr => by obtain ⟨p,_,rfl⟩:=List.mem_map.1 hr;rfl) (by rw [List.length_map];exact h)
theorem FH:(prog.info? 247).map (fun i => (i.zero,i.size,i.bytes)) = some (some (.agg #[.bool false,.int .i64 0,.string ⟨#[]⟩]),3,32):=by kernel_rfl
theorem I6 (w:World):(sizeOf 247).run prog w = .ok 3 w:=by
 obtain ⟨i0,hi,hz0,hz1,hz2⟩:=info_parts FH
 simp [sizeOf,typeInfo,hi,hz1]
theorem K9 (w:World):(zeroValue 247).run prog w = .ok (.agg #[.bool false,.int .i64 0,.string ⟨#[]⟩]) w:=by
 obtain ⟨i0,hi,hz0,hz1,hz2⟩:=info_parts FH
 simp [zeroValue,typeInfo,hi,hz0]
theorem dR {ops:Array Oper} {rest:List Oper} {o:Oper} {a:Act} {Q:Exit → Act → World → Prop} (w:World) (hg:o.guard = none) (s x:Operand) (hop:o.op = Op.call { callee:=Callee.builtin Builtin.append,args:=#[s,x],argTypes:=#[74,74] })
  (base:Nat) (v:Value) (n:Nat) (xs:List Value) (hs:a.eval s = v) (hown:w.ownsRow base 247 3 v n xs) (b:Nat) (p:Pt) (hx:a.eval x = .slice (some ⟨b,0,none⟩) 1 1) (hr:w.rangeAt b 0 (ptF p)) (hn:n ≤ 1000000) (hbase:base ≤ w.heap.size)
  (hK:∀ v' w',w'.ownsRow base 247 3 v' (n + 1) (xs ++ ptF p) → w.grownBy w' v.ownBlock → Fr w v v' → wpList prog ops Q rest (a.put o.dst v') w'):wpList prog ops Q (o :: rest) a w:=by
 obtain ⟨i0,hi,hz0,hz1,hz2⟩:=info_parts FH
 refine aR w hg s x 74 hop base 247 i0 _ 3 32 underlying74 hi hz0 hz1 hz2 rfl (by decide) v n xs hs hown ⟨b,0,none⟩ 1 1 (ptF p) hx rfl (fun j u hu => ?_) (fun u hu => ?_) (by unfold maxLen;omega) (by omega) hbase hK
 ·have:=hr j u hu
  rw [Addr.add_mid]
  exact this
 unfold ptF at hu
 simp at hu
 rcases hu with rfl | rfl | rfl <;> rfl
def accP (ps:List (Pt × Nat)) (x:Rd × List (Pt × Nat)):Rd × List (Pt × Nat):=(x.1,ps ++ x.2)
theorem DX (x:Rd × List (Pt × Nat)):accP [] x = x:=rfl
theorem uZ {n i:Nat} {r:Rd} (ps:List (Pt × Nat)) (h:(r.part i).1.err = 0):accP ps (Rd.parts (n + 1) i r) = accP (ps ++ [((r.part i).2,r.pos)]) (Rd.parts n (i + 1) (r.part i).1):=by
 conv => lhs;unfold Rd.parts
 rw [if_neg (by omega)]
 simp [accP]
theorem uY {n i:Nat} {r:Rd} (ps:List (Pt × Nat)) (h:(r.part i).1.err ≠ 0):accP ps (Rd.parts (n + 1) i r) = ((r.part i).1,ps):=by
 unfold Rd.parts
 rw [if_pos h]
 simp [accP]
theorem Jm (r:Rd) (i:Nat) (h:r.fine):(r.part i).1.fine:=Rd.dK _ _ (Rd.aT r 200 h).1
theorem H9 (r:Rd) (most:Nat):(r.text most).2.size ≤ most:=by
 unfold Rd.text
 split
 ·exact Nat.zero_le _
 split
 ·exact Nat.zero_le _
 exact Nat.le_trans (Rd.jD _ _) (gY _ _)
theorem Gt (r:Rd) (i:Nat) (hi:i ≤ 200):-1000000 ≤ (r.part i).2.base ∧ (r.part i).2.base ≤ 1000000 ∧ (r.part i).2.text.size ≤ 1000000:=by
 have h1:=gY r 200
 have h2:=H9 (r.num 200).1 65536
 unfold Rd.part
 dsimp only
 refine ⟨?_,?_,by omega⟩
 ·split <;> omega
 split <;> omega
def pkC (rb:Nat) (vp vs:Value) (k:Nat):Value:=if k = 0 then .pointer (some ⟨rb,0,none⟩) else if k = 1 then vp else vs
theorem Lb (s:ByteArray) (w:World):(Instr.build 247 #[(2,.string s)]).run prog w = .ok (.agg #[.bool false,.int .i64 0,.string s]) w:=run_build w 247 _ _ (by kernel_rfl)
structure PkSt (B pk rb bx:Nat) (w:World) (r:Rd) (ps:List (Pt × Nat)) (vp vs:Value) (wr:World):Prop where
 pk:Arr wr pk 3 (pkC rb vp vs)
 rb:Arr wr rb 3 r.c
 fine:r.fine
 box:∃ cs,BoxL wr bx 247 cs ∧ cs.length = 3
 o1:wr.ownsRow (w.heap.size + 1) 247 3 vp ps.length (ptsF (ps.map (·.1)))
 o2:wr.ownsRow (w.heap.size + 1) 3 1 vs ps.length (ksV (ps.map (·.2)))
 bel:Below B w wr
 ok:PtOk (ps.map (·.1))
 lt:w.heap.size < wr.heap.size
theorem PkSt.read {B pk rb bx:Nat} {w wr w':World} {r r':Rd} {ps:List (Pt × Nat)} {vp vs:Value} (h:PkSt B pk rb bx w r ps vp vs wr) (hA:Arr w' rb 3 r'.c) (hf:r'.fine) (hg:wr.grownBy w' (some rb)) (hne:pk ≠ rb) (hrl:rb < w.heap.size) (hbx:bx = w.heap.size) (hB:B ≤ rb):PkSt B pk rb bx w r' ps vp vs w':=by
 subst hbx
 obtain ⟨cs,hb,hc⟩:=h.box
 exact ⟨h.pk.grown hg hne,hA,hf,⟨cs,hb.kept hg (fun e => by have:=Option.some.inj e;omega),hc⟩,bC h.o1 hg (by omega),bC h.o2 hg (by omega),h.bel.grown hg (by have:=h.lt;omega) (fun k hk => by cases hk;exact hB),h.ok,Nat.lt_of_lt_of_le h.lt hg.size⟩
theorem PkSt.put {B pk rb bx:Nat} {w wr:World} {r:Rd} {ps:List (Pt × Nat)} {vp vs:Value} (h:PkSt B pk rb bx w r ps vp vs wr) (us:List Value) (hu:us.length = 3) (hpk:pk < w.heap.size) (hrl:rb < w.heap.size) (hbx:bx = w.heap.size) (hB:B ≤ pk):PkSt B pk rb bx w r ps vp vs (wr.setCells bx 0 us):=by
 subst hbx
 obtain ⟨cs,hb,hc⟩:=h.box
 exact ⟨h.pk.eF (by omega) us 0,h.rb.eF (by omega) us 0,h.fine,⟨us,hb.set (by rw [hu,hc]),hu⟩,gX h.o1 (own_ne h.o1 (by omega)),gX h.o2 (own_ne h.o2 (by omega)),below_setCells _ (by omega) _ _ _ h.bel,h.ok,Nat.lt_of_lt_of_le h.lt (aH wr w.heap.size 0 us).size⟩
theorem PkSt.put1 {B pk rb bx:Nat} {w wr:World} {r:Rd} {ps:List (Pt × Nat)} {vp vs:Value} (h:PkSt B pk rb bx w r ps vp vs wr) (o:Nat) (u:Value) (hpk:pk < w.heap.size) (hrl:rb < w.heap.size) (hbx:bx = w.heap.size) (hB:B ≤ pk):PkSt B pk rb bx w r ps vp vs (wr.setCell ⟨bx,o,none⟩ u):=by
 subst hbx
 obtain ⟨cs,hb,hc⟩:=h.box
 exact ⟨h.pk.eF (by omega) [u] o,h.rb.eF (by omega) [u] o,h.fine,⟨_,hb.put o u,by rw [List.length_set];exact hc⟩,gX (us:=[u]) h.o1 (own_ne h.o1 (by omega)),gX (us:=[u]) h.o2 (own_ne h.o2 (by omega)),below_setCells w.heap.size (by omega) [u] o _ h.bel,h.ok,Nat.lt_of_lt_of_le h.lt (aH wr w.heap.size o [u]).size⟩
theorem PkSt.drew {B pk rb bx:Nat} {w wr:World} {r:Rd} {ps:List (Pt × Nat)} {vp vs:Value} (h:PkSt B pk rb bx w r ps vp vs wr):PkSt B pk rb bx w r ps vp vs wr.drew:=⟨h.pk.drew,h.rb.drew,h.fine,h.box,h.o1,h.o2,h.bel.drew,h.ok,h.lt⟩
theorem PkSt.next {B pk rb bx:Nat} {w wr W:World} {r:Rd} {ps:List (Pt × Nat)} {vp vs v1 v2:Value} {pt:Pt} {sp:Nat} (h:PkSt B pk rb bx w r ps vp vs wr) (hA:A2 (w.heap.size + 1) 247 3 3 1 wr v1 (ps.length + 1) (ptsF (ps.map (·.1)) ++ ptF pt) v2 (ps.length + 1) (ksV (ps.map (·.2)) ++ [.int .i64 (sp:Int)]) none none W) (hpk:pk < w.heap.size) (hrl:rb < w.heap.size) (hbx:bx = w.heap.size) (hne:pk ≠ rb) (hB:B ≤ pk)
  (hok:-1000000 ≤ pt.base ∧ pt.base ≤ 1000000 ∧ pt.text.size ≤ 1000000):PkSt B pk rb bx w r (ps ++ [(pt,sp)]) v1 v2 ((W.setCell ⟨pk,1,none⟩ v1).setCell ⟨pk,2,none⟩ v2):=by
 subst hbx
 obtain ⟨cs,hb,hc⟩:=h.box
 have hbw:Below wr.heap.size wr wr:=Below.refl _ _
 have hb2:BoxL W w.heap.size 247 cs:=(hA.bel.block _ (Nat.lt_succ_self _)).trans hb
 have hp2:=h.pk.below hA.bel (by omega)
 have hr2:=h.rb.below hA.bel (by omega)
 have e1:(ps ++ [(pt,sp)]).map (·.1) = ps.map (·.1) ++ [pt]:=by simp
 have e2:(ps ++ [(pt,sp)]).map (·.2) = ps.map (·.2) ++ [sp]:=by simp
 have e3:(ps ++ [(pt,sp)]).length = ps.length + 1:=by simp
 refine ⟨((hp2.set 1 (by decide) v1).set 2 (by decide) v2).congr fun k hk => ?_,(hr2.far hne _).far hne _,h.fine,⟨cs,?_,hc⟩,?_,?_,?_,?_,?_⟩
 ·unfold upd pkC
  obtain h | h | h:k = 0 ∨ k = 1 ∨ k = 2:=by omega
  all_goals subst h;rfl
 ·show ((W.setCell ⟨pk,1,none⟩ v1).setCell ⟨pk,2,none⟩ v2).heap[w.heap.size]? = _
  rw [Go.Deep.blk_setCell_other _ _ _ _ (by show w.heap.size ≠ pk;omega),Go.Deep.blk_setCell_other _ _ _ _ (by show w.heap.size ≠ pk;omega)]
  exact hb2
 ·rw [e1,e3,qP]
  have h1:=bE (o:=1) (u:=v1) hA.o1 (own_ne hA.o1 (b:=pk) (by omega))
  exact bE (o:=2) (u:=v2) h1 (own_ne h1 (b:=pk) (by omega))
 ·rw [e2,e3,mK]
  have h1:=bE (o:=1) (u:=v1) hA.o2 (own_ne hA.o2 (b:=pk) (by omega))
  exact bE (o:=2) (u:=v2) h1 (own_ne h1 (b:=pk) (by omega))
 ·exact (((h.bel.trans (hA.bel.mono (by omega))).setCell (p:=⟨pk,1,none⟩) hB _).setCell (p:=⟨pk,2,none⟩) hB _)
 ·rw [e1]
  intro p hp
  rcases List.mem_append.1 hp with hp | hp
  ·exact h.ok p hp
  rcases List.mem_singleton.1 hp with rfl;exact hok
 have:=hA.sz
 have:=h.lt
 have h1:=(aH W pk 1 [v1]).size
 have h2:=(aH (W.setCell ⟨pk,1,none⟩ v1) pk 2 [v2]).size
 show w.heap.size < ((W.setCell ⟨pk,1,none⟩ v1).setCell ⟨pk,2,none⟩ v2).heap.size
 have e:(W.setCells pk 1 [v1]) = W.setCell ⟨pk,1,none⟩ v1:=rfl
 have e':((W.setCell ⟨pk,1,none⟩ v1).setCells pk 2 [v2]) = (W.setCell ⟨pk,1,none⟩ v1).setCell ⟨pk,2,none⟩ v2:=rfl
 rw [e] at h1
 rw [e'] at h2
 omega
def xC (r0:Rd) (n:Nat) (r:Rd) (ps:List (Pt × Nat)):Prop:=Rd.parts n 0 r0 = accP ps (Rd.parts (n - ps.length) ps.length r) ∧ ps.length ≤ n
def PkJ (B pk rb n:Nat) (r0:Rd) (w:World):Nat → Act → World → Prop
 | 1,a,w' => ∃ (r:Rd) (ps:List (Pt × Nat)) (vp vs:Value) (v2 v3 v5 v6 v7 v8 v9 v10 v11 v12 v13 v14 v15 v16 v17 v18 v19 v20 v21 v22 v23 v24 v25 v26 v27 v28 v29 v30 v31 v32 v33 v34 v35 v36 v37 v38 v39 v40 v41 v42 v43 v44 v45 v46 v47 v48 v49 v50 v51 v52 v53 v54 v55 v56 v57 v58 v59 v60 v61 v62 v63 v64 v65 v66:Value),a = { tmps:=#[.pointer (some ⟨pk,0,none⟩),.int .i64 (n:Int),v2,v3,.pointer (some ⟨w.heap.size,0,none⟩),v5,v6,v7,v8,v9,v10,v11,v12,v13,v14,v15,v16,v17,v18,v19,v20,v21,v22,v23,v24,v25,v26,v27,v28,v29,v30,v31,v32,v33,v34,v35,v36,v37,v38,v39,v40,v41,v42,v43,v44,v45,v46,v47,v48,v49,v50,v51,v52,v53,v54,v55,v56,v57,v58,v59,v60,v61,v62,v63,v64,v65,v66],defers:=[] } ∧ PkSt B pk rb w.heap.size w r ps vp vs w' ∧ Hid (xC r0 n r ps)
 | 0,a,w' => ∃ (r:Rd) (ps:List (Pt × Nat)) (vp vs:Value) (v2 v3 v5 v6 v7 v8 v9 v10 v11 v12 v13 v14 v15 v16 v17 v18 v19 v20 v21 v22 v23 v24 v25 v26 v27 v28 v29 v30 v31 v32 v33 v34 v35 v36 v37 v38 v39 v40 v41 v42 v43 v44 v45 v46 v47 v48 v49 v50 v51 v52 v53 v54 v55 v56 v57 v58 v59 v60 v61 v62 v63 v64 v65 v66:Value),a = { tmps:=#[.pointer (some ⟨pk,0,none⟩),.int .i64 (n:Int),v2,v3,.pointer (some ⟨w.heap.size,0,none⟩),v5,v6,v7,v8,v9,v10,v11,v12,v13,v14,v15,v16,v17,v18,v19,v20,v21,v22,v23,v24,v25,v26,v27,v28,v29,v30,v31,v32,v33,v34,v35,v36,v37,v38,v39,v40,v41,v42,v43,v44,v45,v46,v47,v48,v49,v50,v51,v52,v53,v54,v55,v56,v57,v58,v59,v60,v61,v62,v63,v64,v65,v66],defers:=[] } ∧ PkSt B pk rb w.heap.size w r ps vp vs w' ∧ Hid (Rd.parts n 0 r0 = (r,ps))
 | _,_,_ => False
def cell1 (pk:Nat) (w:World):Nat:=match w.cell? ⟨pk,1,none⟩ with
 | some v => Gn v
 | none => 0
def PkM (pk:Nat):Nat → Act → World → Nat
 | 1,_,w => 1000 - cell1 pk w
 | _,_,_ => 0
def Pj (B pk rb n:Nat) (r0:Rd) (w:World) (e:Ending) (w':World):Prop:=e = .returned (.tuple #[]) ∧ ∃ r ps vp vs,Rd.parts n 0 r0 = (r,ps) ∧ PkSt B pk rb w.heap.size w r ps vp vs w'
theorem fP {w:World} {b o:Nat} {cs:List Value} (h:w.rangeAt b o cs) {p:Addr} (hp:p.block ≠ b) (v:Value):(w.setCell p v).rangeAt b o cs:=fun j u hu => by
 have h1:=h j u hu
 rw [World.cell?_of_block (w:=w) (a:=⟨b,o + j,none⟩) (Go.Deep.blk_setCell_other w p v b (fun e => hp e.symm))]
 exact h1
theorem I7 (B pk rb n:Nat) (r0:Rd) (w:World) (hpk:Arr w pk 3 (pkC rb (.slice none 0 0) (.slice none 0 0))) (hrb:Arr w rb 3 r0.c) (hf:r0.fine) (hn:n ≤ 200) (hB1:B ≤ pk) (hB2:B ≤ rb) (hne:pk ≠ rb) :
  Calls prog 78 #[.pointer (some ⟨pk,0,none⟩),.int .i64 (n:Int)] w (Pj B pk rb n r0 w):=by
 have hpl:=hpk.lt (show 0 < 3 by omega)
 have hrl:=hrb.lt (show 0 < 3 by omega)
 have HBX0:Hid (BoxL (w.alloc (.cells #[.bool false,.int .i64 0,.string ⟨#[]⟩] 247)) w.heap.size 247 [.bool false,.int .i64 0,.string ⟨#[]⟩]):=ah (BoxL.new w 247 [.bool false,.int .i64 0,.string ⟨#[]⟩])
 have HB0:Hid (Below w.heap.size w (w.alloc (.cells #[.bool false,.int .i64 0,.string ⟨#[]⟩] 247))):=ah bal
 have HST:Hid (PkSt B pk rb w.heap.size w r0 [] (.slice none 0 0) (.slice none 0 0) (w.alloc (.cells #[.bool false,.int .i64 0,.string ⟨#[]⟩] 247))):=ah ⟨hpk.below HB0.out hpl,hrb.below HB0.out hrl,hf,⟨_,HBX0.out,rfl⟩,World.ownsRow_nil _ _ _ _,World.ownsRow_nil _ _ _ _,HB0.out.mono (by omega),fun p hp => (by cases hp),HBX0.out.lt⟩
 have HRS:Hid (xC r0 n r0 []):=ah ⟨by rw [DX];rfl,Nat.zero_le _⟩
 clear hpk hrb hf
 go_enter func78,ntmps78
 refine xH (PkJ B pk rb n r0 w) (PkM pk) ?_ ?_
 ·rintro l0 a w' hJ hfall
  have HFALL:=ah hfall
  clear hfall
  match l0,hJ with
  | 1,hJ =>
   refine .inl ⟨_,rfl,?_⟩
   obtain ⟨r,ps,vp,vs,v2,v3,v5,v6,v7,v8,v9,v10,v11,v12,v13,v14,v15,v16,v17,v18,v19,v20,v21,v22,v23,v24,v25,v26,v27,v28,v29,v30,v31,v32,v33,v34,v35,v36,v37,v38,v39,v40,v41,v42,v43,v44,v45,v46,v47,v48,v49,v50,v51,v52,v53,v54,v55,v56,v57,v58,v59,v60,v61,v62,v63,v64,v65,v66,rfl,hS,hR⟩:=hJ
   obtain ⟨po,pc,rfl⟩:=ay hS.o1
   obtain ⟨so,sc,rfl⟩:=ay hS.o2
   have HS:=ah hS
   have c0:w'.cell? ⟨pk,0,none⟩ = some (.pointer (some ⟨rb,0,none⟩)):=hS.pk.cell 0 (by decide)
   have c1:w'.cell? ⟨pk,1,none⟩ = some (.slice po ps.length pc):=hS.pk.cell 1 (by decide)
   have HM:Hid (cell1 pk w' = ps.length):=ah (by unfold cell1;rw [c1];rfl)
   have hln:=hR.out.2
   clear hS
   by_cases hend:ps.length = n
   ·have d1:((ps.length:Int) == (n:Int)) = true:=by rw [beq_iff_eq];omega
    have HFN:Hid (Rd.parts n 0 r0 = (r,ps)):=ah (by rw [hR.out.1,hend,Nat.sub_self];show (r,ps ++ []) = _;rw [List.append_nil])
    clear hend
    go_wp2_with fail
    refine wp_goto ?_
    refine ⟨⟨r,ps,_,_,_,_,_,_,_,_,_,_,_,_,_,_,_,_,_,_,_,_,_,_,_,_,_,_,_,_,_,_,_,_,_,_,_,_,_,_,_,_,_,_,_,_,_,_,_,_,_,_,_,_,_,_,_,_,_,_,_,_,_,_,_,_,_,_,rfl,HS.out,HFN⟩,?_⟩
    show 0 < 1000 - cell1 pk _
    rw [HM.out];omega
   have d1:((ps.length:Int) == (n:Int)) = false:=by rw [beq_eq_false_iff_ne];omega
   have hlt:ps.length < n:=by omega
   have HAT:=ah (Gf rb r w' HS.out.rb)
   have HNM:=ah (gP rb r 200 w' HS.out.rb HS.out.fine (by decide))
   clear hend
   go_wp2_with fail
   refine HAT.out.mono ?_
   rintro e w2 ⟨rfl,rfl⟩
   go_wp2_with fail
   have HN0:=ah (Rd.aT r 200 HS.out.fine).1
   have HPA:Hid (r.part ps.length = (((r.num 200).1.text 65536).1,⟨decide (0 < (r.num 200).2),if 0 < (r.num 200).2 then (ps.length:Int) - ((r.num 200).2:Int) else 0,((r.num 200).1.text 65536).2⟩)):=ah rfl
   have HPO:=ah (Gt r ps.length (by omega))
   have HPF:=ah (Jm r ps.length HS.out.fine)
   have hnl:=gY r 200
   generalize (r.num 200).1 = r1 at HNM HN0 HPA
   generalize (r.num 200).2 = far at HNM HPA hnl
   refine HNM.out.mono ?_
   rintro e w3 ⟨rfl,hA3,hg3⟩
   have HS3:=ah (HS.out.read hA3 HN0.out hg3 hne hrl rfl hB2)
   have c0':w3.cell? ⟨pk,0,none⟩ = some (.pointer (some ⟨rb,0,none⟩)):=HS3.out.pk.cell 0 (by decide)
   have HTX:=ah (kC rb r1 65536 w3 HS3.out.rb HN0.out (by decide))
   have HT0:Hid (r1.text 65536).1.fine:=ah (Rd.dK _ _ HN0.out)
   generalize (r1.text 65536).1 = r2 at HTX HPA HT0
   generalize (r1.text 65536).2 = t at HTX HPA
   have hbt:=Lb
   clear hA3 hg3 HNM HS c0 c1
   go_wp2_with fail
   refine HTX.out.mono ?_
   rintro e w4 ⟨rfl,hA4,hg4⟩
   have HS4:=ah (HS3.out.read hA4 HT0.out hg4 hne hrl rfl hB2)
   have HIP:=ah jT
   have HTH:Hid (w4.there w.heap.size 0 3):=ah (by obtain ⟨cs,hb,hc⟩:=HS4.out.box;have:=hb.there;rwa [hc] at this)
   obtain ⟨W5,hW5⟩:∃ W5,w4.setCells w.heap.size 0 [.bool false,.int .i64 0,.string t] = W5:=⟨_,rfl⟩
   have HS5:Hid (PkSt B pk rb w.heap.size w r2 ps (.slice po ps.length pc) (.slice so ps.length sc) W5):=ah (by rw [← hW5];exact HS4.out.put _ rfl hpl hrl rfl hB1)
   have HBX5:Hid (BoxL W5 w.heap.size 247 [.bool false,.int .i64 0,.string t]):=ah (by rw [← hW5];obtain ⟨cs,hb,hc⟩:=HS4.out.box;exact hb.set (by rw [hc];rfl))
   have HW5:=ah hW5
   have HER:=ah (jy rb r2 W5 HS5.out.rb)
   have c5:W5.cell? ⟨pk,0,none⟩ = some (.pointer (some ⟨rb,0,none⟩)):=HS5.out.pk.cell 0 (by decide)
   have HRX:Hid (n - ps.length = (n - (ps.length + 1)) + 1):=ah (by omega)
   clear hA4 hg4 HTX HS3 c0' hW5
   go_upto_region 6 with (refine aj rfl 247 _ _ rfl w.heap.size 0 [.bool false,.int .i64 0,.string t] rfl rfl 3 rfl HTH.out HIP.out (by intro v hv;simp at hv;rcases hv with rfl | rfl | rfl <;> rfl) ?_;rw [HW5.out])
   go_wp2_with fail
   refine HER.out.mono ?_
   rintro e w6 ⟨rfl,rfl⟩
   by_cases herr:r2.err = 0
   ·have d2:((r2.err:Int) != 0) = false:=by rw [bne_eq_false_iff_eq];omega
    have HNX:Hid (xC r0 n r2 (ps ++ [((r.part ps.length).2,r.pos)])):=ah ⟨by
     have h1:=hR.out.1
     rw [HRX.out,uZ ps (by rw [HPA.out];exact herr)] at h1
     rw [h1,HPA.out,List.length_append];rfl,by rw [List.length_append];simp only [List.length_cons,List.length_nil];omega⟩
    have HOK1:=ah HPO.out
    obtain ⟨pt,hpt⟩:∃ pt,(r.part ps.length).2 = pt:=⟨_,rfl⟩
    rw [hpt] at HNX HOK1
    have HPT:Hid (pt = ⟨decide (0 < far),if 0 < far then (ps.length:Int) - (far:Int) else 0,t⟩):=ah (by rw [← hpt,HPA.out])
    clear herr hpt HPA HPO HER HBX0 HB0 HST HRS HAT HTH HIP HW5 HS4 HFALL hbt
    go_upto_if 37 with fail
    obtain ⟨bf,hbf⟩:∃ bf,decide (0 < far) = bf:=⟨_,rfl⟩
    rw [hbf]
    have HBF:=ah hbf
    clear hbf
    go_cut [] from 38 to 46 (fun wx => Hid (PkSt B pk rb w.heap.size w r2 ps (.slice po ps.length pc) (.slice so ps.length sc) wx ∧ BoxL wx w.heap.size 247 (ptF pt)))
    case first =>
     cases bf with
     | true =>
      have hfar:0 < far:=of_decide_eq_true HBF.out
      have HPE:Hid (ptF pt = [.bool true,.int .i64 ((ps.length:Int) - (far:Int)),.string t]):=ah (by rw [HPT.out,decide_eq_true hfar,if_pos hfar];rfl)
      clear hfar
      have hS0:w6.drew.cell? ⟨pk,1,none⟩ = some (.slice po ps.length pc):=HS5.out.pk.cell 1 (by decide)
      have wf:IntKind.i64.wrap ((ps.length:Int) - (far:Int)) = (ps.length:Int) - (far:Int):=by rw [IntKind.wrap_i64];omega
      have hpw:pk ≠ w.heap.size:=by omega
      have HB7:=ah (HBX5.out.put 0 (.bool true))
      have HB8:=ah (HB7.out.put 1 (.int .i64 ((ps.length:Int) - (far:Int))))
      have g0:w6.drew.cell? ⟨w.heap.size,0,none⟩ = some (.bool false):=HBX5.out.range 0 _ rfl
      have g0f:w6.drew.frozen? ⟨w.heap.size,0,none⟩ = false:=(HBX5.out.there 0 (Nat.succ_pos _)).2
      have g1:(w6.setCell ⟨w.heap.size,0,none⟩ (.bool true)).drew.cell? ⟨w.heap.size,1,none⟩ = some (.int .i64 0):=HB7.out.range 1 _ rfl
      have g1f:(w6.setCell ⟨w.heap.size,0,none⟩ (.bool true)).drew.frozen? ⟨w.heap.size,1,none⟩ = false:=(HB7.out.there 1 (by show 1 < 3;omega)).2
      have hS1:(w6.setCell ⟨w.heap.size,0,none⟩ (.bool true)).drew.cell? ⟨pk,1,none⟩ = some (.slice po ps.length pc):=(HS5.out.pk.far (p:=⟨w.heap.size,0,none⟩) (fun e => hpw e.symm) (.bool true)).cell 1 (by decide)
      go_upto_region 8 with fail
      refine wrL 10 (fun w' => w'.cell? ⟨pk,1,none⟩ = some (.slice po ps.length pc)) ?_
      refine WL.tk 0 hS0 ?_
      refine WL.tk 1 hS0 ?_
      refine WL.tk 2 hS0 ?_
      refine WL.tk 3 hS0 ?_
      refine WL.tk 4 hS0 ?_
      refine WL.tk 5 hS0 ?_
      refine WL.tk 6 hS0 ?_
      refine WL.tk 7 hS0 ?_
      refine WL.on 8 ?_
      go_wp2_with fail
      refine ⟨hS1,?_⟩
      refine WL.tk 9 hS1 ?_
      refine WL.la 10 ?_
      go_wp2_with fail
      go_meet
      refine ah ⟨?_,?_⟩
      ·exact ((HS5.out.put1 0 (.bool true) hpl hrl rfl hB1).put1 1 (.int .i64 ((ps.length:Int) - (far:Int))) hpl hrl rfl hB1).drew
      rw [HPE.out];exact HB8.out
     | false =>
      have hfar:¬ 0 < far:=of_decide_eq_false HBF.out
      have HPE:Hid (ptF pt = [.bool false,.int .i64 0,.string t]):=ah (by rw [HPT.out,decide_eq_false hfar,if_neg hfar];rfl)
      clear hfar
      go_wp2_with fail
      go_meet
      exact ah ⟨HS5.out,by rw [HPE.out];exact HBX5.out⟩
    have HSC:=ah hcut.out.1
    have HBC:=ah hcut.out.2
    clear hcut HS5 HBX5 d2 d1 c5
    go_upto_region 9 with fail
    obtain ⟨sp,hsp⟩:∃ sp,r.pos = sp:=⟨_,rfl⟩
    rw [hsp]
    rw [hsp] at HNX
    clear hsp
    go_cut [] from 47 to 66 (fun wx => ∃ v1 v2,Hid (PkSt B pk rb w.heap.size w r2 (ps ++ [(pt,sp)]) v1 v2 wx))
    case first =>
     have hB:w.heap.size + 1 ≤ wc.heap.size:=HSC.out.lt
     have hA0:=A2.start HSC.out.o1 HSC.out.o2
     have hA:=hA0.drew
     have hv1:∀ j,(Value.slice po ps.length pc).ownBlock = some j → j < wc.heap.size:=fun j hj => (HSC.out.o1.lt j hj).2
     have hv2:∀ j,(Value.slice so ps.length sc).ownBlock = some j → j < wc.heap.size:=fun j hj => (HSC.out.o2.lt j hj).2
     have hPK:∀ w',Below (w.heap.size + 1) wc w' → Arr w' pk 3 (pkC rb (.slice po ps.length pc) (.slice so ps.length sc)):=fun w' hb => HSC.out.pk.below hb (by omega)
     have HSF:=ah (show (prog.info? 247).map (·.size) = some (ptF pt).length from jT)
     have HZS:=ah (show ∀ w,(sizeOf 247).run prog w = .ok (ptF pt).length w from I6)
     have HZV:=ah K9
     have HCL:Hid (0 < (ptF pt).length ∧ (ptF pt).length ≤ 1000):=ah ⟨Nat.succ_pos _,(by show 3 ≤ 1000;omega)⟩
     generalize hcp:ptF pt = cp at HBC HSF HZS HCL
     have HCP:=ah hcp
     have hSB:∀ w',Below (w.heap.size + 1) wc w' → (w'.cell? ⟨pk,2,none⟩ = some (.slice so ps.length sc) ∧ w'.rangeAt w.heap.size 0 cp) ∧ w'.cell? ⟨pk,1,none⟩ = some (.slice po ps.length pc):=fun w' hb => ⟨⟨(hPK w' hb).cell 2 (by decide),au HBC.out.range hb (by omega)⟩,(hPK w' hb).cell 1 (by decide)⟩
     have hpw:pk ≠ w.heap.size:=by omega
     have HNXT:=ah (fun v1 v2 W (h:A2 (w.heap.size + 1) 247 3 3 1 wc v1 (ps.length + 1) (ptsF (ps.map (·.1)) ++ ptF pt) v2 (ps.length + 1) (ksV (ps.map (·.2)) ++ [.int .i64 (sp:Int)]) none none W) => HSC.out.next h hpl hrl rfl hne hB1 HOK1.out)
     clear hcp
     have hSZ:=hSB _ hA.bel
     refine rG 21 18 (fun w' => w'.cell? ⟨pk,2,none⟩ = some (.slice so ps.length sc) ∧ w'.rangeAt w.heap.size 0 cp) (fun w' => w'.cell? ⟨pk,1,none⟩ = some (.slice po ps.length pc)) (by kernel_rfl) (by kernel_rfl) ?_
     refine WX.tk 0 (SX.mk hSZ.1 hSZ.2) ?_
     refine WX.tk 1 (SX.mk hSZ.1 hSZ.2) ?_
     refine WX.tk 2 (SX.mk hSZ.1 hSZ.2) ?_
     refine WX.tk 3 (SX.mk hSZ.1 hSZ.2) ?_
     refine WX.tk 4 (SX.mk hSZ.1 hSZ.2) ?_
     refine WX.t2 5 (SX.mk hSZ.1 hSZ.2) ?_
     refine WX.tk 6 (SX.mk hSZ.1 hSZ.2) ?_ (hy:=(fun w' hSw => iB 247 _ (hSw.2) underlying247 rfl HSF.out _ rfl rfl))
     refine WX.tk 9 (SX.mk hSZ.1 hSZ.2) ?_
     refine WX.tk 10 (SX.mk hSZ.1 hSZ.2) ?_
     refine WX.tk 11 (SX.mk hSZ.1 hSZ.2) ?_
     refine WX.tk 12 (SX.mk hSZ.1 hSZ.2) ?_
     refine WX.tk 13 (SX.mk hSZ.1 hSZ.2) ?_
     refine WX.two (i:=7) (k:=14) rfl rfl (by decide) (by decide) (by decide +kernel) ?_ ?_
     ·
      refine av rfl _ 74 247 rfl (cp) #[.bool false,.int .i64 0,.string ⟨#[]⟩] rfl underlying74 HZS.out HZV.out HCL.out.1 HCL.out.2 ?_
      have hA1:=hA.rE hB (cp) 247
      simp only [Act.put,nz]
      generalize hW1:World.alloc wc.drew (.cells (cp).toArray 247) = wX1 at hA1 ⊢
      clear hW1
      have hS1:=hSB _ hA1.bel
      refine ⟨SX.mk hS1.1 hS1.2,?_⟩
      refine WX.two (i:=8) (k:=14) rfl rfl (by decide) (by decide) (by decide +kernel) ?_ ?_
      ·
       refine dR _ rfl _ _ rfl (w.heap.size + 1) (.slice po ps.length pc) ps.length (ptsF (ps.map (·.1))) rfl hA1.o1 _ pt rfl (by rw [HCP.out];exact (hA1.q1 _ _ rfl).2.2) (by omega) (Nat.le_trans hB hA1.sz) ?_
       intro v1_ wX2 ho2 hg2 _
       obtain ⟨vo2,vc2,rfl⟩:=ay ho2
       have hA2:=hA1.app1 hB hv1 (by decide) ho2 hg2
       clear ho2 hg2
       simp only [Act.put,nz]
       have hS2:=hSB _ hA2.bel
       refine ⟨SX.mk hS2.1 hS2.2,?_⟩
       refine WX.on 14 ?_
       go_wp2_with fail
       have hA3:=hA2.mW hB ([.int .i64 (sp:Int)]) 3
       generalize hW3:World.alloc wX2 (.cells ([.int .i64 (sp:Int)]).toArray 3) = wX3 at hA3 ⊢
       clear hW3
       have hS3:=hSB _ hA3.bel
       refine ⟨SX.mk hS3.1 hS3.2,?_⟩
       refine WX.on 15 ?_
       refine bO _ rfl _ _ rfl (w.heap.size + 1) (.slice so ps.length sc) ps.length (ksV (ps.map (·.2))) rfl hA3.o2 _ (sp:Int) rfl ((hA3.q2 _ _ rfl).2.2 0 _ rfl) (by omega) (Nat.le_trans hB hA3.sz) ?_
       intro v2_ wX4 ho4 hg4 _
       obtain ⟨vo4,vc4,rfl⟩:=ay ho4
       have hA4:=hA3.app2 hB hv2 (by decide) ho4 hg4
       clear ho4 hg4
       simp only [Act.put,nz]
       have hS4:=hSB _ hA4.bel
       refine ⟨SX.mk hS4.1 hS4.2,?_⟩
       have hAP:=hPK _ hA4.bel
       have c1W:=hAP.cell 1 (by decide)
       have f1W:=hAP.free 1 (by decide)
       refine WX.tk 16 (SX.mk hS4.1 hS4.2) ?_
       refine WX.tk 17 (SX.mk hS4.1 hS4.2) ?_
       refine WX.on 18 ?_
       go_wp2_with fail
       have hAQ:=hAP.set 1 (by decide) (Value.slice vo2 (ps.length + 1) vc2)
       have hSQ:=And.intro (hAQ.cell 2 (by decide)) (fP (p:=⟨pk,1,none⟩) hS4.1.2 hpw (Value.slice vo2 (ps.length + 1) vc2))
       have c2W:=hAQ.cell 2 (by decide)
       have f2W:=hAQ.free 2 (by decide)
       refine ⟨SX.done hSQ (by decide +kernel),?_⟩
       refine WX.tk 19 (SX.done hSQ (by decide +kernel)) ?_
       refine WX.tk 20 (SX.done hSQ (by decide +kernel)) ?_
       refine WX.la 21 ?_
       go_wp2_with fail
       have hAZ:=hAQ.set 2 (by decide) (Value.slice vo4 (ps.length + 1) vc4)
       go_meet
       exact ⟨_,_,ah (HNXT.out _ _ _ hA4)⟩
      go_wp2_with fail
      have hA2:=hA1.mW hB ([.int .i64 (sp:Int)]) 3
      generalize hW2:World.alloc wX1 (.cells ([.int .i64 (sp:Int)]).toArray 3) = wX2 at hA2 ⊢
      clear hW2
      have hS2:=hSB _ hA2.bel
      refine ⟨SX.mk hS2.1 hS2.2,?_⟩
      refine WX.on 8 ?_
      refine dR _ rfl _ _ rfl (w.heap.size + 1) (.slice po ps.length pc) ps.length (ptsF (ps.map (·.1))) rfl hA2.o1 _ pt rfl (by rw [HCP.out];exact (hA2.q1 _ _ rfl).2.2) (by omega) (Nat.le_trans hB hA2.sz) ?_
      intro v1_ wX3 ho3 hg3 _
      obtain ⟨vo3,vc3,rfl⟩:=ay ho3
      have hA3:=hA2.app1 hB hv1 (by decide) ho3 hg3
      clear ho3 hg3
      simp only [Act.put,nz]
      have hS3:=hSB _ hA3.bel
      refine ⟨SX.mk hS3.1 hS3.2,?_⟩
      refine WX.on 15 ?_
      refine bO _ rfl _ _ rfl (w.heap.size + 1) (.slice so ps.length sc) ps.length (ksV (ps.map (·.2))) rfl hA3.o2 _ (sp:Int) rfl ((hA3.q2 _ _ rfl).2.2 0 _ rfl) (by omega) (Nat.le_trans hB hA3.sz) ?_
      intro v2_ wX4 ho4 hg4 _
      obtain ⟨vo4,vc4,rfl⟩:=ay ho4
      have hA4:=hA3.app2 hB hv2 (by decide) ho4 hg4
      clear ho4 hg4
      simp only [Act.put,nz]
      have hS4:=hSB _ hA4.bel
      refine ⟨SX.mk hS4.1 hS4.2,?_⟩
      have hAP:=hPK _ hA4.bel
      have c1W:=hAP.cell 1 (by decide)
      have f1W:=hAP.free 1 (by decide)
      refine WX.tk 16 (SX.mk hS4.1 hS4.2) ?_
      refine WX.tk 17 (SX.mk hS4.1 hS4.2) ?_
      refine WX.on 18 ?_
      go_wp2_with fail
      have hAQ:=hAP.set 1 (by decide) (Value.slice vo3 (ps.length + 1) vc3)
      have hSQ:=And.intro (hAQ.cell 2 (by decide)) (fP (p:=⟨pk,1,none⟩) hS4.1.2 hpw (Value.slice vo3 (ps.length + 1) vc3))
      have c2W:=hAQ.cell 2 (by decide)
      have f2W:=hAQ.free 2 (by decide)
      refine ⟨SX.done hSQ (by decide +kernel),?_⟩
      refine WX.tk 19 (SX.done hSQ (by decide +kernel)) ?_
      refine WX.tk 20 (SX.done hSQ (by decide +kernel)) ?_
      refine WX.la 21 ?_
      go_wp2_with fail
      have hAZ:=hAQ.set 2 (by decide) (Value.slice vo4 (ps.length + 1) vc4)
      go_meet
      exact ⟨_,_,ah (HNXT.out _ _ _ hA4)⟩
     go_wp2_with fail
     have hA1:=(hA0.mW hB ([.int .i64 (sp:Int)]) 3).drew
     generalize hW1:World.drew (World.alloc wc (.cells ([.int .i64 (sp:Int)]).toArray 3)) = wX1 at hA1 ⊢
     clear hW1
     have hS1:=hSB _ hA1.bel
     refine ⟨SX.mk hS1.1 hS1.2,?_⟩
     refine WX.on 7 ?_
     refine av rfl _ 74 247 rfl (cp) #[.bool false,.int .i64 0,.string ⟨#[]⟩] rfl underlying74 HZS.out HZV.out HCL.out.1 HCL.out.2 ?_
     have hA2:=hA1.rE hB (cp) 247
     simp only [Act.put,nz]
     generalize hW2:World.alloc wX1 (.cells (cp).toArray 247) = wX2 at hA2 ⊢
     clear hW2
     have hS2:=hSB _ hA2.bel
     refine ⟨SX.mk hS2.1 hS2.2,?_⟩
     refine WX.on 8 ?_
     refine dR _ rfl _ _ rfl (w.heap.size + 1) (.slice po ps.length pc) ps.length (ptsF (ps.map (·.1))) rfl hA2.o1 _ pt rfl (by rw [HCP.out];exact (hA2.q1 _ _ rfl).2.2) (by omega) (Nat.le_trans hB hA2.sz) ?_
     intro v1_ wX3 ho3 hg3 _
     obtain ⟨vo3,vc3,rfl⟩:=ay ho3
     have hA3:=hA2.app1 hB hv1 (by decide) ho3 hg3
     clear ho3 hg3
     simp only [Act.put,nz]
     have hS3:=hSB _ hA3.bel
     refine ⟨SX.mk hS3.1 hS3.2,?_⟩
     refine WX.on 15 ?_
     refine bO _ rfl _ _ rfl (w.heap.size + 1) (.slice so ps.length sc) ps.length (ksV (ps.map (·.2))) rfl hA3.o2 _ (sp:Int) rfl ((hA3.q2 _ _ rfl).2.2 0 _ rfl) (by omega) (Nat.le_trans hB hA3.sz) ?_
     intro v2_ wX4 ho4 hg4 _
     obtain ⟨vo4,vc4,rfl⟩:=ay ho4
     have hA4:=hA3.app2 hB hv2 (by decide) ho4 hg4
     clear ho4 hg4
     simp only [Act.put,nz]
     have hS4:=hSB _ hA4.bel
     refine ⟨SX.mk hS4.1 hS4.2,?_⟩
     have hAP:=hPK _ hA4.bel
     have c1W:=hAP.cell 1 (by decide)
     have f1W:=hAP.free 1 (by decide)
     refine WX.tk 16 (SX.mk hS4.1 hS4.2) ?_
     refine WX.tk 17 (SX.mk hS4.1 hS4.2) ?_
     refine WX.on 18 ?_
     go_wp2_with fail
     have hAQ:=hAP.set 1 (by decide) (Value.slice vo3 (ps.length + 1) vc3)
     have hSQ:=And.intro (hAQ.cell 2 (by decide)) (fP (p:=⟨pk,1,none⟩) hS4.1.2 hpw (Value.slice vo3 (ps.length + 1) vc3))
     have c2W:=hAQ.cell 2 (by decide)
     have f2W:=hAQ.free 2 (by decide)
     refine ⟨SX.done hSQ (by decide +kernel),?_⟩
     refine WX.tk 19 (SX.done hSQ (by decide +kernel)) ?_
     refine WX.tk 20 (SX.done hSQ (by decide +kernel)) ?_
     refine WX.la 21 ?_
     go_wp2_with fail
     have hAZ:=hAQ.set 2 (by decide) (Value.slice vo4 (ps.length + 1) vc4)
     go_meet
     exact ⟨_,_,ah (HNXT.out _ _ _ hA4)⟩
    obtain ⟨v1,v2,HS9⟩:=hcut
    obtain ⟨po9,pc9,rfl⟩:=ay HS9.out.o1
    go_wp2_with fail
    refine wp_goto ?_
    refine ⟨⟨r2,ps ++ [(pt,sp)],_,v2,_,_,_,_,_,_,_,_,_,_,_,_,_,_,_,_,_,_,_,_,_,_,_,_,_,_,_,_,_,_,_,_,_,_,_,_,_,_,_,_,_,_,_,_,_,_,_,_,_,_,_,_,_,_,_,_,_,_,_,_,_,_,_,_,rfl,HS9.out,HNX⟩,?_⟩
    show 1000 - cell1 pk _ < 1000 - cell1 pk _
    have e9:cell1 pk wc = ps.length + 1:=by
     have:=HS9.out.pk.cell 1 (by decide)
     unfold cell1
     rw [this]
     show (ps ++ [(pt,sp)]).length = _
     simp
    rw [e9,HM.out]
    omega
   have d2:((r2.err:Int) != 0) = true:=by rw [bne_iff_ne];omega
   have HFN:Hid (Rd.parts n 0 r0 = (r2,ps)):=ah (by
    have h1:=hR.out.1
    rw [HRX.out,uY ps (by rw [HPA.out];exact herr)] at h1
    rw [h1,HPA.out])
   clear herr
   go_wp2_with fail
   refine wp_goto ?_
   refine ⟨⟨r2,ps,_,_,_,_,_,_,_,_,_,_,_,_,_,_,_,_,_,_,_,_,_,_,_,_,_,_,_,_,_,_,_,_,_,_,_,_,_,_,_,_,_,_,_,_,_,_,_,_,_,_,_,_,_,_,_,_,_,_,_,_,_,_,_,_,_,_,rfl,HS5.out,HFN⟩,?_⟩
   show 0 < 1000 - cell1 pk _
   rw [HM.out];omega
  | 0,hJ =>
   obtain ⟨r,ps,vp,vs,v2,v3,v5,v6,v7,v8,v9,v10,v11,v12,v13,v14,v15,v16,v17,v18,v19,v20,v21,v22,v23,v24,v25,v26,v27,v28,v29,v30,v31,v32,v33,v34,v35,v36,v37,v38,v39,v40,v41,v42,v43,v44,v45,v46,v47,v48,v49,v50,v51,v52,v53,v54,v55,v56,v57,v58,v59,v60,v61,v62,v63,v64,v65,v66,rfl,hS,hR⟩:=hJ
   refine .inr ⟨rfl,?_⟩
   go_end0
   exact ⟨rfl,r,ps,vp,vs,hR.out,hS⟩
  | _ + 2,hJ => exact hJ.elim
 intro hfall
 have HFALL:=ah hfall
 clear hfall
 go_wp2_with fail
 rename_i hK
 refine wp_label (hK _ _ (HFALL.out 1 _ rfl _ _ ?_))
 exact ⟨r0,[],_,_,_,_,_,_,_,_,_,_,_,_,_,_,_,_,_,_,_,_,_,_,_,_,_,_,_,_,_,_,_,_,_,_,_,_,_,_,_,_,_,_,_,_,_,_,_,_,_,_,_,_,_,_,_,_,_,_,_,_,_,_,_,_,_,_,rfl,HST.out,HRS⟩
def hdP (r:Rd):Rd × Nat × Bool:=if (r.raw 4).2.data.toList ≠ spk1 then ((r.raw 4).1,0,false) else (((r.raw 4).1.num 200).1,((r.raw 4).1.num 200).2,decide (((r.raw 4).1.num 200).1.err = 0))
theorem Mt (r:Rd) (h:r.fine):(hdP r).1.fine:=by
 unfold hdP
 split
 ·exact Rd.jE r 4 h
 exact (Rd.aT _ 200 (Rd.jE r 4 h)).1
theorem OX (r:Rd):(hdP r).2.1 ≤ 200:=by
 unfold hdP
 split
 ·exact Nat.zero_le _
 exact gY _ _
def spkB:ByteArray:=⟨#[83,80,75,49]⟩
theorem l9:spkB.toList = [83,80,75,49]:=by rw [ByteArray.toList_eq];rfl
theorem Ik:spkB.data.toList = spk1:=rfl
theorem Je (pk rb:Nat) (r:Rd) (vp vs:Value) (w:World) (hpk:Arr w pk 3 (pkC rb vp vs)) (hrb:Arr w rb 3 r.c) (hf:r.fine) (hne:pk ≠ rb) :
  Calls prog 77 #[.pointer (some ⟨pk,0,none⟩)] w fun e w' => e = .returned (.tuple #[.int .i64 ((hdP r).2.1:Int),.bool (hdP r).2.2]) ∧ Arr w' rb 3 (hdP r).1.c ∧ w.grownBy w' (some rb):=by
 have c0:w.cell? ⟨pk,0,none⟩ = some (.pointer (some ⟨rb,0,none⟩)):=hpk.cell 0 (by decide)
 have HP:=ah hpk
 have HRW:=ah (l5 rb r 4 w hrb hf (by decide))
 have hf1:=Rd.jE r 4 hf
 have HF1:=ah hf1
 have f0:((r.raw 4).2.toList == spkB.toList) = decide ((r.raw 4).2 = spkB):=iG _ _
 have HH:Hid (hdP r = if (r.raw 4).2 = spkB then (((r.raw 4).1.num 200).1,((r.raw 4).1.num 200).2,decide (((r.raw 4).1.num 200).1.err = 0)) else ((r.raw 4).1,0,false)):=ah (by
  unfold hdP
  by_cases h:(r.raw 4).2 = spkB
  ·rw [if_pos h,if_neg (by rw [h,Ik];exact fun h => h rfl)]
  rw [if_neg h,if_pos (fun e => h (ba_eq (by rw [e];rfl)))])
 generalize (r.raw 4).1 = r1 at HRW HF1 HH
 generalize (r.raw 4).2 = t at HRW f0 HH
 have HS:Hid (spkB = ⟨#[83,80,75,49]⟩):=rfl
 clear hpk hrb hf hf1
 by_cases h:t = spkB
 ·rw [if_pos h] at HH
  have HNM:=ah (fun w' (hA:Arr w' rb 3 r1.c) => gP rb r1 200 w' hA HF1.out (by decide))
  have f1:(t.toList == [83,80,75,49]) = true:=by
   rw [← l9,f0];exact decide_eq_true h
  clear f0 h
  go_enter func77,ntmps77
  go_wp2_with fail
  refine HRW.out.mono ?_
  rintro e w2 ⟨rfl,hA2,hg2⟩
  have c2:w2.cell? ⟨pk,0,none⟩ = some (.pointer (some ⟨rb,0,none⟩)):=(HP.out.grown hg2 hne).cell 0 (by decide)
  have HP2:=ah (HP.out.grown hg2 hne)
  have HG2:=ah hg2
  have HNB:=ah (HNM.out w2 hA2)
  have HF2:=ah (Rd.aT r1 200 HF1.out).1
  generalize (r1.num 200).1 = r2 at HNB HH HF2
  generalize (r1.num 200).2 = n at HNB HH
  clear hA2 hg2 c0
  go_wp2_with fail
  refine HNB.out.mono ?_
  rintro e w3 ⟨rfl,hA3,hg3⟩
  have c3:w3.cell? ⟨pk,0,none⟩ = some (.pointer (some ⟨rb,0,none⟩)):=(HP2.out.grown hg3 hne).cell 0 (by decide)
  have HG3:=ah (HG2.out.trans hg3)
  have HER:=ah (jy rb r2 w3 hA3)
  have HA3:=ah hA3
  clear hA3 hg3 c2
  go_wp2_with fail
  refine HER.out.mono ?_
  rintro e w4 ⟨rfl,rfl⟩
  have HB:Hid (decide (r2.err = 0) = ((r2.err:Int) == 0)):=ah (by
   by_cases h:r2.err = 0
   ·rw [decide_eq_true h,h];rfl
   rw [decide_eq_false h];symm;rw [beq_eq_false_iff_ne];omega)
  go_wp2_with fail
  go_ret2
  rw [HH.out]
  exact ⟨by rw [HB.out];rfl,HA3.out,HG3.out⟩
 rw [if_neg h] at HH
 have f1:(t.toList == [83,80,75,49]) = false:=by
  rw [← l9,f0];exact decide_eq_false h
 clear f0 h
 go_enter func77,ntmps77
 go_wp2_with fail
 refine HRW.out.mono ?_
 rintro e w2 ⟨rfl,hA2,hg2⟩
 go_wp2_with fail
 go_ret2
 rw [HH.out]
 exact ⟨rfl,hA2,hg2⟩
end
end Go.Proofs.YtijhemdnajlfnaaGreatDoor

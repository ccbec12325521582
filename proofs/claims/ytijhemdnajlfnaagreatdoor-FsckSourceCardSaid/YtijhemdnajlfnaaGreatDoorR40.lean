/- A part of this claim. -/
import Derived.Test.YtijhemdnajlfnaaGreatDoorR39
namespace Go.Proofs.YtijhemdnajlfnaaGreatDoor
open Tryz
set_option maxHeartbeats 64000000
set_option maxRecDepth 100000
set_option linter.all false
section
open Go.RowKit
def OfPk (l:List Pt) (vl:Value) (w:World) (e:Ending) (w':World):Prop :=
 (match aV l with
 | none => ∃ p i j q k m,e = .returned (.tuple #[.agg #[vl,.slice none 0 0,.slice p i j,.slice q k m],.bool false])
 | some os => ∃ vo vi,e = .returned (.tuple #[.agg #[vl,.slice none 0 0,vo,vi],.bool true]) ∧ dD w' vo os ∧ bD w' vi (os.map idO) ∧ bB w vo ∧ bB w vi) ∧ Below w.heap.size w w'
theorem Au {l:List Pt} {vl:Value} {p q:Option Addr} {i j k m:Nat} {w w':World} (h:aV l = none) (hb:Below w.heap.size w w'):OfPk l vl w (.returned (.tuple #[.agg #[vl,.slice none 0 0,.slice p i j,.slice q k m],.bool false])) w':=⟨by rw [h];exact ⟨p,i,j,q,k,m,rfl⟩,hb⟩
theorem Lx {l:List Pt} {vl vo vi:Value} {os:List Ob} {w w':World} (h:aV l = some os) (h1:dD w' vo os) (h2:bD w' vi (os.map idO)) (hf1:bB w vo) (hf2:bB w vi) (hb:Below w.heap.size w w'):OfPk l vl w (.returned (.tuple #[.agg #[vl,.slice none 0 0,vo,vi],.bool true])) w':=⟨by rw [h];exact ⟨vo,vi,rfl,h1,h2,hf1,hf2⟩,hb⟩
structure jg (vl:Value) (w:World) (B:Nat) (os:List Ob) (vo vi:Value) (wr:World):Prop where
 res:BoxL wr w.heap.size 77 [.slice none 0 0,.slice none 0 0,.slice none 0 0,.slice none 0 0]
 pa:BoxL wr (w.heap.size + 1) 77 [vl,.slice none 0 0,vo,vi]
 o1:wr.ownsRow B 40 2 vo os.length (obsF os)
 o2:wr.ownsRow B 24 32 vi os.length (idsF (os.map idO))
 bel:Below w.heap.size w wr
theorem jg.lt {B:Nat} {vl vo vi:Value} {w wr:World} {os:List Ob} (h:jg vl w B os vo vi wr):w.heap.size + 1 < wr.heap.size:=h.pa.lt
theorem jg.below {B:Nat} {vl vo vi:Value} {w wr w':World} {os:List Ob} (h:jg vl w B os vo vi wr) (hb:Below wr.heap.size wr w'):jg vl w B os vo vi w' :=
 ⟨h.res.below hb,h.pa.below hb,own_below h.o1 hb,own_below h.o2 hb,h.bel.trans (hb.mono (by have:=h.lt;omega))⟩
theorem jg.ids {B:Nat} {vl vo vi:Value} {w wr:World} {os:List Ob} (h:jg vl w B os vo vi wr):bD wr vi (os.map idO) :=
 aK.aS (B:=B) (e:=24) (fun r hr => by
  obtain ⟨x,hx,rfl⟩:=List.mem_map.1 hr
  obtain ⟨o,_,rfl⟩:=List.mem_map.1 hx
  rw [aD,dI]) (by rw [List.length_map,List.length_map];exact h.o2)
theorem jg.obs {B:Nat} {vl vo vi:Value} {w wr:World} {os:List Ob} (h:jg vl w B os vo vi wr):dD wr vo os :=
 aK.aS (B:=B) (e:=40) (fun r hr => by obtain ⟨x,_,rfl⟩:=List.mem_map.1 hr;rfl) (by rw [List.length_map];exact h.o1)
theorem jg.put1 {B:Nat} {vl vo vi v':Value} {w wr W:World} {os:List Ob} {o:Ob} (h:jg vl w B os vo vi wr) (hB:w.heap.size + 2 ≤ B) (ho:W.ownsRow B 40 2 v' (os.length + 1) (obsF os ++ obC o)) (hg:wr.grownBy W vo.ownBlock) :
  BoxL (W.setCell ⟨w.heap.size + 1,2,none⟩ v') w.heap.size 77 [.slice none 0 0,.slice none 0 0,.slice none 0 0,.slice none 0 0] ∧ BoxL (W.setCell ⟨w.heap.size + 1,2,none⟩ v') (w.heap.size + 1) 77 [vl,.slice none 0 0,v',vi] ∧
  (W.setCell ⟨w.heap.size + 1,2,none⟩ v').ownsRow B 40 2 v' (os.length + 1) (obsF os ++ obC o) ∧ (W.setCell ⟨w.heap.size + 1,2,none⟩ v').ownsRow B 24 32 vi os.length (idsF (os.map idO)) ∧ Below w.heap.size w (W.setCell ⟨w.heap.size + 1,2,none⟩ v'):=by
 have h0:vo.ownBlock ≠ some w.heap.size:=fun e => by have:=(h.o1.lt _ e).1;omega
 have h1:vo.ownBlock ≠ some (w.heap.size + 1):=fun e => by have:=(h.o1.lt _ e).1;omega
 have hl:=h.lt
 refine ⟨?_,?_,?_,?_,?_⟩
 ·exact BoxL.other (us:=[v']) (o:=2) (h.res.kept hg (fun e => h0 e.symm)) (by omega)
 ·exact (h.pa.kept hg (fun e => h1 e.symm)).put 2 v'
 ·exact bE ho (own_ne ho (by omega))
 ·have:=h.o2.kept hg (eX h.o2 h.o1 (by decide))
  exact bE this (own_ne this (by omega))
 exact (h.bel.grown hg (by omega) (fun k hk => by have:=(h.o1.lt k hk).1;omega)).setCell (p:=⟨w.heap.size + 1,2,none⟩) (by show w.heap.size ≤ w.heap.size + 1;omega) _
theorem jg.put2 {B:Nat} {vl vo vi v':Value} {w wr W:World} {os:List Ob} {o:Ob} (hB:w.heap.size + 2 ≤ B) (hr:BoxL wr w.heap.size 77 [.slice none 0 0,.slice none 0 0,.slice none 0 0,.slice none 0 0]) (hp:BoxL wr (w.heap.size + 1) 77 [vl,.slice none 0 0,vo,vi])
  (h1:wr.ownsRow B 40 2 vo (os.length + 1) (obsF os ++ obC o)) (h2:wr.ownsRow B 24 32 vi os.length (idsF (os.map idO))) (hb:Below w.heap.size w wr) (ho:W.ownsRow B 24 32 v' (os.length + 1) (idsF (os.map idO) ++ idC (idO o))) (hg:wr.grownBy W vi.ownBlock) :
  jg vl w B (os ++ [o]) vo v' (W.setCell ⟨w.heap.size + 1,3,none⟩ v'):=by
 have n0:vi.ownBlock ≠ some w.heap.size:=fun e => by have:=(h2.lt _ e).1;omega
 have n1:vi.ownBlock ≠ some (w.heap.size + 1):=fun e => by have:=(h2.lt _ e).1;omega
 have hl:=hp.lt
 have e1:(os ++ [o]).map idO = os.map idO ++ [idO o]:=by simp
 have e3:(os ++ [o]).length = os.length + 1:=by simp
 have e4:obsF (os ++ [o]) = obsF os ++ obC o:=by simp [obsF]
 refine ⟨?_,?_,?_,?_,?_⟩
 ·exact BoxL.other (us:=[v']) (o:=3) (hr.kept hg (fun e => n0 e.symm)) (by omega)
 ·exact (hp.kept hg (fun e => n1 e.symm)).put 3 v'
 ·rw [e3,e4]
  have:=h1.kept hg (eX h1 h2 (by decide))
  exact bE this (own_ne this (by omega))
 ·rw [e1,e3,nH]
  exact bE ho (own_ne ho (by omega))
 exact (hb.grown hg (by omega) (fun k hk => by have:=(h2.lt k hk).1;omega)).setCell (p:=⟨w.heap.size + 1,3,none⟩) (by show w.heap.size ≤ w.heap.size + 1;omega) _
theorem vW {w wr w':World} {b:Nat} (h:w.grownBy wr (some b)) (h2:Below w.heap.size wr w'):w.grownBy w' (some b):=⟨h2.os.trans h.os,h2.tape.trans h.tape,h2.output.trans h.output,Nat.le_trans h.size h2.size,fun k hk hn => (h2.block k hk).trans (h.block k hk hn)⟩
theorem ER (v:Option Addr) (a b:Nat) (w:World):(Instr.build 77 #[(0,.slice v a b)]).run prog w = .ok (.agg #[.slice v a b,.slice none 0 0,.slice none 0 0,.slice none 0 0]) w:=run_build w 77 _ _ (by kernel_rfl)
theorem eH:(prog.info? 77).map (·.size) = some 4:=by decide +kernel
theorem IG (vl:Value) (l:List Pt) (w:World) (hvl:dQ w vl l) (ho:PtOk l):Calls prog 85 #[vl] w (OfPk l vl w):=by
 obtain ⟨vpo,vpc,rfl,_,_⟩:=hvl.open
 obtain ⟨zi,j0,ji,jz0,jz1,jz2,hziv,hzil⟩:=gH
 have HZI:=ah hzil
 have hbp:=ER
 obtain ⟨W2,hW2⟩:∃ W,(w.alloc (.cells #[.slice none 0 0,.slice none 0 0,.slice none 0 0,.slice none 0 0] 77)).alloc (.cells #[.slice vpo l.length vpc,.slice none 0 0,.slice none 0 0,.slice none 0 0] 77) = W:=⟨_,rfl⟩
 have hb2:Below w.heap.size w W2:=by rw [← hW2];exact bal.alloc (by simp) _
 have HST0:Hid (∀ B,jg (.slice vpo l.length vpc) w B [] (.slice none 0 0) (.slice none 0 0) W2):=ah fun B => ⟨by
   rw [← hW2]
   exact (BoxL.new w 77 [.slice none 0 0,.slice none 0 0,.slice none 0 0,.slice none 0 0]).below bal,by
   have:=BoxL.new (w.alloc (.cells #[.slice none 0 0,.slice none 0 0,.slice none 0 0,.slice none 0 0] 77)) 77 [.slice vpo l.length vpc,.slice none 0 0,.slice none 0 0,.slice none 0 0]
   rw [World.size_alloc] at this
   rw [← hW2];exact this,World.ownsRow_nil _ _ _ _,World.ownsRow_nil _ _ _ _,hb2⟩
 have HAL:=ah (I4 (.slice vpo l.length vpc) l W2 (hvl.below hb2) ho)
 have HW2:=ah hW2
 have HIK:=ah eH
 clear hvl ho hW2 hb2 hzil
 unfold zT at HAL
 go_enter func85,ntmps85
 go_upto_region 2 with fail
 rw [HW2.out]
 go_wp2_with fail
 refine HAL.out.mono ?_
 rintro x w3 hans
 cases ht:cu l with
 | inl e =>
  rw [ht] at hans
  dsimp only at hans
  obtain ⟨rfl,hb3⟩:=hans
  obtain ⟨he1,he2⟩:=tX ht
  have d1:((e:Int) != 0) = true:=by rw [bne_iff_ne];omega
  have HNO:Hid (aV l = none):=ah (by unfold aV;rw [ht])
  have HS3:=ah ((HST0.out 0).below hb3)
  clear ht hb3
  go_upto_region 4 with fail
  have hpr:=HS3.out.pa.range
  have hth:w3.there w.heap.size 0 4:=HS3.out.res.there
  have h4i:(prog.info? 77).map (·.size) = some ([.slice vpo l.length vpc,.slice none 0 0,.slice none 0 0,.slice none 0 0]:List Value).length:=eH
  obtain ⟨WE,hWE⟩:∃ WE,w3.setCells w.heap.size 0 [.slice vpo l.length vpc,.slice none 0 0,.slice none 0 0,.slice none 0 0] = WE:=⟨_,rfl⟩
  have HRE:Hid (BoxL WE w.heap.size 77 [.slice vpo l.length vpc,.slice none 0 0,.slice none 0 0,.slice none 0 0]):=ah (by rw [← hWE];exact HS3.out.res.set rfl)
  have HBE:Hid (Below w.heap.size w WE):=ah (by rw [← hWE];exact below_setCells _ (Nat.le_refl _) _ _ _ HS3.out.bel)
  have HGE:Hid (w3.grownBy WE (some w.heap.size)):=ah (by rw [← hWE];exact aH _ _ _ _)
  have HWE:=ah hWE
  clear hWE
  go_wp2_with (first
   | refine wpList_load_mid rfl 77 _ rfl (w.heap.size + 1) 0 rfl [.slice vpo l.length vpc,.slice none 0 0,.slice none 0 0,.slice none 0 0] _ hpr underlying77 rfl h4i ?_
   | (refine aj rfl 77 _ _ rfl w.heap.size 0 [.slice vpo l.length vpc,.slice none 0 0,.slice none 0 0,.slice none 0 0] rfl rfl 4 rfl hth HIK.out (by intro v hv;simp at hv;rcases hv with rfl | rfl | rfl | rfl <;> rfl) ?_;rw [HWE.out]))
  have hre:=HRE.out.range
  (try simp only [Exit.inBlock,Exit.then])
  refine aB rfl w.heap.size 0 rfl [.slice vpo l.length vpc,.slice none 0 0,.slice none 0 0,.slice none 0 0] _ hre underlying77 rfl h4i rfl _ rfl ?_
  exact Au HNO.out HBE.out
 | inr ts =>
  rw [ht] at hans
  dsimp only at hans
  obtain ⟨⟨vt,rfl,hvt,hfr⟩,hb3⟩:=hans
  obtain ⟨htl,hl200,hts⟩:=oq ht
  have HFA:Hid (aV l = iJ ts []):=ah (by unfold aV;rw [ht])
  have HTS:=ah hts
  have hts200:ts.length ≤ 200:=by omega
  have HVT:=ah hvt
  have HST:=ah ((HST0.out w3.heap.size).below hb3)
  have hW2l:w.heap.size + 1 < W2.heap.size:=(HST0.out 0).lt
  have HFR:=ah hfr
  obtain ⟨tso,tsc,rfl,htm,_⟩:=hvt
  have HB3:Hid (w.heap.size + 2 ≤ w3.heap.size):=ah HST.out.lt
  clear ht hts htl hb3 hfr
  go_wp2_with fail
  go_loopw [7,8,9,10] (fun i _ _ _ wr => ∃ (os:List Ob) (vo vi:Value),i = .int .i64 (os.length:Int) ∧ Hid (iH ts os) ∧ jg (.slice vpo l.length vpc) w w3.heap.size os vo vi wr ∧ w3.grownBy wr (some (w.heap.size + 1))) (fun i _ _ _ _ => (ts.length - intOf i).toNat)
  case atStart => exact ⟨[],_,_,rfl,ah ⟨rfl,Nat.zero_le _⟩,HST.out,World.grownBy.refl _ _⟩
  obtain ⟨os,vo,vi,rfl,hF,hS,hgw⟩:=hrel
  obtain ⟨oo,oc,rfl⟩:=ay hS.o1
  obtain ⟨io,ic,rfl⟩:=ay hS.o2
  have HS:=ah hS
  have HGW:=ah hgw
  have hol:=hF.out.2
  have hwl:=hS.lt
  clear hS hgw
  by_cases hlt:os.length < ts.length
  ·obtain ⟨sao,scap,es,_,hv2⟩:=HVT.out.Mv HFR.out HGW.out hW2l
   cases es
   obtain ⟨sb,soff,rfl,hsbl,hscell⟩:=hv2 (by intro e;rw [e] at hlt;simp at hlt)
   have cs0:=hscell os.length hlt
   have i0:(0:Int) ≤ os.length:=by omega
   have i1:(os.length:Int) < ts.length:=by omega
   have wi:IntKind.i64.wrap ((os.length:Int) + 1) = (os.length:Int) + 1:=by rw [IntKind.wrap_i64];omega
   have HSZ:=ah (HTS.out ts[os.length] (List.getElem_mem hlt))
   have HNOF:=ah (GR hF.out hlt)
   have HTW:=ah (fun o => wF (o:=o) hF.out hlt)
   have HNX:=ah (fun o => zA (o:=o) hF.out hlt)
   have HOR:=ah (jR ts[os.length] wr (by have:=HSZ.out;omega))
   generalize ts[os.length] = s at cs0 HSZ HNOF HTW HNX HOR
   clear hscell hv2
   go_wp2_with fail
   refine HOR.out.mono ?_
   rintro e w4 hans
   have HB4:=ah hans.1
   obtain ⟨o,ok,rfl,hoc⟩:∃ (o:Ob) (ok:Bool),e = .returned (.tuple #[.agg (obC o).toArray,.bool ok]) ∧ ((ok = true ∧ aQ s.data.toList = some o) ∨ (ok = false ∧ aQ s.data.toList = none)):=by
    rcases hans.2 with ⟨o,h1,h2⟩ | ⟨h1,h2⟩
    ·exact ⟨o,true,h2,.inl ⟨rfl,h1⟩⟩
    exact ⟨ob0,false,h2,.inr ⟨rfl,h1⟩⟩
   clear hans cs0
   have HT1:=ah (there_alloc (n:=2) w4 #[.int .i64 0,.string ⟨#[]⟩] 40 rfl)
   have HIO:=ah aF
   obtain ⟨W5,hW5⟩:∃ W,(w4.alloc (.cells #[.int .i64 0,.string ⟨#[]⟩] 40)).setCells w4.heap.size 0 (obC o) = W:=⟨_,rfl⟩
   have HBX5:Hid (BoxL W5 w4.heap.size 40 (obC o)):=ah (by rw [← hW5];exact (BoxL.new w4 40 [.int .i64 0,.string ⟨#[]⟩]).set rfl)
   have HB5:Hid (Below wr.heap.size wr W5):=ah (by rw [← hW5];exact below_setCells _ HB4.out.size _ _ _ (HB4.out.alloc HB4.out.size _))
   have HLO:Hid (wr.heap.size ≤ w4.heap.size):=ah HB4.out.size
   have hr5:=HBX5.out.range
   have h2o:(prog.info? 40).map (·.size) = some (obC o).length:=aF
   have HOC1:=ah (dx o)
   have HOCL:Hid ((obC o).length = 2):=ah rfl
   have HS5:=ah (HS.out.below HB5.out)
   have HID:=ah (fun (h:o.body.size ≤ 100000) => (show Calls prog 32 #[.agg (obC o).toArray] W5 _ from uN o.kind o.body W5 h))
   have HW5:=ah hW5
   clear hW5
   generalize hco:obC o = co at hr5 h2o HOC1 HOCL HW5 HID HBX5 ⊢
   have HCO:Hid (obC o = co):=ah hco
   clear hco
   rcases hoc with ⟨rfl,hrd⟩ | ⟨rfl,hrd⟩
   ·have HRD:=ah hrd
    have hro:=dM hrd
    have hIDc:=ah (HID.out (by have:=mG (k:=o.kind) (s:=o.body) hro;omega))
    clear hrd hro HID
    go_upto_region 11 with (refine aj rfl 40 _ _ rfl w4.heap.size 0 co rfl rfl 2 HOCL.out HT1.out HIO.out HOC1.out ?_;rw [HW5.out])
    go_wp2_with (refine wpList_load_mid rfl 40 _ rfl w4.heap.size 0 rfl co _ hr5 underlying40 rfl h2o ?_)
    refine hIDc.out.mono ?_
    rintro e w6 ⟨rfl,hb6⟩
    have hyo:idO ⟨o.kind,o.body⟩ = idO o:=rfl
    rw [hyo]
    clear hyo
    have HY32:=ah (dI o)
    obtain ⟨y,hy⟩:∃ y,idO o = y:=⟨_,rfl⟩
    rw [hy] at HY32 ⊢
    have HY:=ah hy
    clear hy
    have HB6:=bth HB5 hb6
    have HBX6:=ah (HBX5.out.below hb6)
    clear hb6 hr5 h2o hIDc
    have HT7:=ah (there_alloc (n:=32) w6 zi 24 HZI.out)
    have HII:=ah AR
    have HCI:Hid ((idC y).length = 32 ∧ ∀ v ∈ idC y,v.oneCell' = true):=ah ⟨by rw [aD,HY32.out],bX y⟩
    obtain ⟨W7,hW7⟩:∃ W,(w6.alloc (.cells zi 24)).setCells w6.heap.size 0 (idC y) = W:=⟨_,rfl⟩
    have HBX7:Hid (BoxL W7 w6.heap.size 24 (idC y)):=ah (by rw [← hW7];exact BoxL.set (cs:=zi.toList) (by have:=BoxL.new w6 24 zi.toList;simpa using this) (by rw [HCI.out.1];simpa using HZI.out.symm))
    have HB7w:Hid (Below w6.heap.size w6 W7):=ah (by rw [← hW7];exact below_setCells _ (Nat.le_refl _) _ _ _ bal)
    have HB7:=ah (HB6.out.trans (HB7w.out.mono HB6.out.size))
    have HBX67:=ah (HBX6.out.below HB7w.out)
    have HLI:Hid (wr.heap.size ≤ w6.heap.size):=ah HB6.out.size
    have HS7:=ah (HS.out.below HB7.out)
    have HFI:=ah (Cg (.slice io os.length ic) (os.map idO) y W7 HS7.out.ids (fun z hz => by obtain ⟨u,_,rfl⟩:=List.mem_map.1 hz;exact dI u) HY32.out)
    have h32:=dG HCI.out.1
    have r7:=HBX7.out.range
    have c3:W7.cell? ⟨w.heap.size + 1,3,none⟩ = some (.slice io os.length ic):=HS7.out.pa.range 3 _ rfl
    have HW7:=ah hW7
    clear hW7 HB6 HBX6 HB7w
    generalize hci:idC y = ci at HCI HW7 HBX7 HFI h32 r7
    have HCIE:=ah hci
    clear hci
    go_upto_region 12 with (refine aj rfl 24 _ _ rfl w6.heap.size 0 ci rfl rfl 32 HCI.out.1 HT7.out HII.out HCI.out.2 ?_;rw [HW7.out])
    go_wp2_with (refine wpList_load_mid rfl 24 _ rfl w6.heap.size 0 rfl ci _ r7 underlying24 rfl h32 ?_)
    refine HFI.out.mono ?_
    rintro e w8 ⟨rfl,hb8⟩
    have HB8:=bth HB7 hb8
    have HS8:=ah (HS7.out.below hb8)
    have HBX8o:=ah (HBX67.out.below hb8)
    have HBX8i:=ah (HBX7.out.below hb8)
    clear hb8 r7 c3 HFI HS7 HBX67 HBX7
    by_cases hm:y ∈ os.map idO
    ·have HNO:Hid (aV l = none):=ah (by rw [HFA.out];exact HTW.out o HRD.out (by rw [HY.out];exact hm))
     have dp:(0:Int) ≤ plI (os.map idO) y:=by unfold plI;rw [if_pos hm];omega
     generalize plI (os.map idO) y = p at dp
     clear hm
     go_upto_region 13 with fail
     have hpr:=HS8.out.pa.range
     have hth:w8.there w.heap.size 0 4:=HS8.out.res.there
     have h4i:(prog.info? 77).map (·.size) = some ([.slice vpo l.length vpc,.slice none 0 0,.slice oo os.length oc,.slice io os.length ic]:List Value).length:=eH
     obtain ⟨WE,hWE⟩:∃ WE,w8.setCells w.heap.size 0 [.slice vpo l.length vpc,.slice none 0 0,.slice oo os.length oc,.slice io os.length ic] = WE:=⟨_,rfl⟩
     have HRE:Hid (BoxL WE w.heap.size 77 [.slice vpo l.length vpc,.slice none 0 0,.slice oo os.length oc,.slice io os.length ic]):=ah (by rw [← hWE];exact HS8.out.res.set rfl)
     have HBE:Hid (Below w.heap.size w WE):=ah (by rw [← hWE];exact below_setCells _ (Nat.le_refl _) _ _ _ HS8.out.bel)
     have HGE:Hid (w8.grownBy WE (some w.heap.size)):=ah (by rw [← hWE];exact aH _ _ _ _)
     have HWE:=ah hWE
     clear hWE
     go_wp2_with (first
      | refine wpList_load_mid rfl 77 _ rfl (w.heap.size + 1) 0 rfl [.slice vpo l.length vpc,.slice none 0 0,.slice oo os.length oc,.slice io os.length ic] _ hpr underlying77 rfl h4i ?_
      | (refine aj rfl 77 _ _ rfl w.heap.size 0 [.slice vpo l.length vpc,.slice none 0 0,.slice oo os.length oc,.slice io os.length ic] rfl rfl 4 rfl hth HIK.out (by intro v hv;simp at hv;rcases hv with rfl | rfl | rfl | rfl <;> rfl) ?_;rw [HWE.out]))
     have hre:=HRE.out.range
     (try simp only [Exit.inBlock,Exit.then])
     refine aB rfl w.heap.size 0 rfl [.slice vpo l.length vpc,.slice none 0 0,.slice oo os.length oc,.slice io os.length ic] _ hre underlying77 rfl h4i rfl _ rfl ?_
     exact Au HNO.out HBE.out
    have HFN:Hid (iH ts (os ++ [o])):=ah (HNX.out o HRD.out (by rw [HY.out];exact hm))
    rw [uV hm]
    clear hm
    have hos2:os.length ≤ 200:=by omega
    have c8:w8.cell? ⟨w.heap.size + 1,2,none⟩ = some (.slice oo os.length oc):=HS8.out.pa.range 2 _ rfl
    have r8:=HBX8o.out.range
    have h2c:(prog.info? 40).map (·.size) = some co.length:=by rw [HOCL.out];exact aF
    have HZSo:=ah (show ∀ w,(sizeOf 40).run prog w = .ok co.length w from fun w => by rw [HOCL.out];exact yU w)
    have HZVo:=ah CG
    have HCLo:Hid (0 < co.length ∧ co.length ≤ 1000):=ah (by rw [HOCL.out];omega)
    obtain ⟨W9,hW9⟩:∃ W,w8.alloc (.cells co.toArray 40) = W:=⟨_,rfl⟩
    have hb9:Below w8.heap.size w8 W9:=by rw [← hW9];exact bal
    have HR9:Hid (W9.rangeAt w8.heap.size 0 (obC o)):=ah (by rw [← hW9,HCO.out];exact (BoxL.new w8 40 co).range)
    have HS9:=ah (HS8.out.below hb9)
    have HB9i:=ah (HBX8i.out.below hb9)
    have HB89:=ah hb9
    have HZ38:Hid (w3.heap.size ≤ wr.heap.size ∧ wr.heap.size ≤ w8.heap.size ∧ w8.heap.size ≤ W9.heap.size):=ah ⟨HGW.out.size,HB8.out.size,hb9.size⟩
    have HB39:=ah ((HB8.out.mono HZ38.out.1).trans (hb9.mono (Nat.le_trans HZ38.out.1 HZ38.out.2.1)))
    have HW9:=ah hW9
    clear hW9 hb9
    go_upto_region 14 with fail
    go_upto_region 15 with (first
     | refine wpList_load_mid rfl 40 _ rfl w4.heap.size 0 rfl co _ r8 underlying40 rfl h2c ?_
     | (refine av rfl _ 32 40 rfl co #[.int .i64 0,.string ⟨#[]⟩] rfl underlying32 HZSo.out HZVo.out HCLo.out.1 HCLo.out.2 ?_;rw [HW9.out])
     | refine bN _ rfl _ _ rfl w3.heap.size (.slice oo os.length oc) os.length (obsF os) rfl HS9.out.o1 w8.heap.size o rfl HR9.out (by omega) (by have:=HZ38.out;omega) ?_)
    intro v9 w9 ho9 hg9 _
    have n9:(Value.slice oo os.length oc).ownBlock ≠ some (w.heap.size + 1):=fun e => by have:=(HS9.out.o1.lt _ e).1;have:=HB3.out;omega
    have n9i:(Value.slice oo os.length oc).ownBlock ≠ some w6.heap.size:=fun e => by have:=(HS.out.o1.lt _ e).2;have:=HLI.out;omega
    have HP1:=ah (HS9.out.put1 HB3.out ho9 hg9)
    have HI9:=ah (HB9i.out.kept hg9 (fun e => n9i e.symm))
    have HPA9:=ah (HS9.out.pa.kept hg9 (fun e => n9 e.symm))
    have HG9:=ah (vW HGW.out (HB39.out.grown hg9 (by have:=HZ38.out;omega) (fun k hk => (HS9.out.o1.lt k hk).1)))
    have HZ9:Hid (w8.heap.size ≤ w9.heap.size):=ah (Nat.le_trans HZ38.out.2.2 hg9.size)
    obtain ⟨oo9,oc9,rfl⟩:=ay ho9
    have c9:w9.cell? ⟨w.heap.size + 1,2,none⟩ = some (.slice oo os.length oc):=HPA9.out.range 2 _ rfl
    have f9:w9.frozen? ⟨w.heap.size + 1,2,none⟩ = false:=by have:=(HPA9.out.there 2 (by show 2 < 4;omega)).2;rwa [Nat.zero_add] at this
    obtain ⟨W10,hW10⟩:∃ W,w9.setCell ⟨w.heap.size + 1,2,none⟩ (.slice oo9 (os.length + 1) oc9) = W:=⟨_,rfl⟩
    have HP10:Hid (BoxL W10 w.heap.size 77 [.slice none 0 0,.slice none 0 0,.slice none 0 0,.slice none 0 0] ∧ BoxL W10 (w.heap.size + 1) 77 [.slice vpo l.length vpc,.slice none 0 0,.slice oo9 (os.length + 1) oc9,.slice io os.length ic] ∧
     W10.ownsRow w3.heap.size 40 2 (.slice oo9 (os.length + 1) oc9) (os.length + 1) (obsF os ++ obC o) ∧ W10.ownsRow w3.heap.size 24 32 (.slice io os.length ic) os.length (idsF (os.map idO)) ∧ Below w.heap.size w W10):=ah (by rw [← hW10];exact HP1.out)
    have HI10:Hid (BoxL W10 w6.heap.size 24 ci):=ah (by
     rw [← hW10]
     exact BoxL.other (us:=[.slice oo9 (os.length + 1) oc9]) (o:=2) HI9.out (by have:=HLI.out;omega))
    have HG10:Hid (w3.grownBy W10 (some (w.heap.size + 1))):=ah (by rw [← hW10];exact HG9.out.trans (aH w9 (w.heap.size + 1) 2 [.slice oo9 (os.length + 1) oc9]))
    have HZ10:Hid (w8.heap.size ≤ W10.heap.size):=ah (by rw [← hW10,World.size_setCell];exact HZ9.out)
    have HW10:=ah hW10
    clear hW10 ho9 hg9 n9 n9i c8 r8 h2c
    go_upto_region 15 with (rw [HW10.out])
    have c10:W10.cell? ⟨w.heap.size + 1,3,none⟩ = some (.slice io os.length ic):=HP10.out.2.1.range 3 _ rfl
    have r10:=HI10.out.range
    have h32b:=dG HCI.out.1
    have HZSi:=ah (show ∀ w,(sizeOf 24).run prog w = .ok ci.length w from fun w => by rw [HCI.out.1];exact zq w)
    have HZVi:=ah hziv
    have HCLi:Hid (0 < ci.length ∧ ci.length ≤ 1000):=ah (by rw [HCI.out.1];omega)
    obtain ⟨WB,hWB⟩:∃ W,W10.alloc (.cells ci.toArray 24) = W:=⟨_,rfl⟩
    have hbB:Below W10.heap.size W10 WB:=by rw [← hWB];exact bal
    have HRB:Hid (WB.rangeAt W10.heap.size 0 ci):=ah (by rw [← hWB];exact (BoxL.new W10 24 ci).range)
    have hw10:w.heap.size + 1 < W10.heap.size:=HP10.out.2.1.lt
    have HPB:=ah (And.intro (HP10.out.1.below hbB) (And.intro (HP10.out.2.1.below hbB) (And.intro (own_below HP10.out.2.2.1 hbB) (And.intro (own_below HP10.out.2.2.2.1 hbB) (HP10.out.2.2.2.2.trans (hbB.mono (by omega)))))))
    have HZB:Hid (w3.heap.size ≤ W10.heap.size ∧ W10.heap.size ≤ WB.heap.size):=ah ⟨by have:=HZ38.out;have:=HZ10.out;omega,hbB.size⟩
    have HBB:=ah (hbB.mono HZB.out.1)
    have HWB:=ah hWB
    clear hWB hbB c9 f9
    go_upto_region 7 with (first
     | refine wpList_load_mid rfl 24 _ rfl w6.heap.size 0 rfl ci _ r10 underlying24 rfl h32b ?_
     | (refine av rfl _ 33 24 rfl ci zi rfl underlying33 HZSi.out HZVi.out HCLi.out.1 HCLi.out.2 ?_;rw [HWB.out])
     | refine bP _ rfl _ _ rfl w3.heap.size (.slice io os.length ic) os.length (idsF (os.map idO)) rfl HPB.out.2.2.2.1 W10.heap.size ci HCI.out.1 HCI.out.2 rfl HRB.out (by omega) (by have:=HZB.out;omega) ?_)
    intro vB wB hoB hgB _
    have nB:(Value.slice io os.length ic).ownBlock ≠ some (w.heap.size + 1):=fun e => by have:=(HPB.out.2.2.2.1.lt _ e).1;have:=HB3.out;omega
    have HPAB:=ah (HPB.out.2.1.kept hgB (fun e => nB e.symm))
    have HPN:=ah (jg.put2 (o:=o) HB3.out HPB.out.1 HPB.out.2.1 HPB.out.2.2.1 HPB.out.2.2.2.1 HPB.out.2.2.2.2 (by rw [← HY.out.symm,HCIE.out] ;exact hoB) hgB)
    have HGB:=ah ((vW HG10.out (HBB.out.grown hgB (by have:=HZB.out;omega) (fun k hk => (HPB.out.2.2.2.1.lt k hk).1))).trans (aH wB (w.heap.size + 1) 3 [vB]))
    obtain ⟨ioB,icB,rfl⟩:=ay hoB
    have cB:wB.cell? ⟨w.heap.size + 1,3,none⟩ = some (.slice io os.length ic):=HPAB.out.range 3 _ rfl
    have fB:wB.frozen? ⟨w.heap.size + 1,3,none⟩ = false:=by have:=(HPAB.out.there 3 (by show 3 < 4;omega)).2;rwa [Nat.zero_add] at this
    clear hoB hgB nB c10 r10 h32b
    go_wp2_with fail
    go_roundw
    case rel => exact ⟨os ++ [o],_,_,by rw [List.length_append];go_num,HFN,HPN.out,HGB.out⟩
    case measure => simp [intOf];omega
   have HNO:Hid (aV l = none):=ah (by rw [HFA.out];exact HNOF.out hrd)
   clear hrd HID
   go_upto_region 10 with (refine aj rfl 40 _ _ rfl w4.heap.size 0 co rfl rfl 2 HOCL.out HT1.out HIO.out HOC1.out ?_;rw [HW5.out])
   clear hr5 h2o
   have hpr:=HS5.out.pa.range
   have hth:W5.there w.heap.size 0 4:=HS5.out.res.there
   have h4i:(prog.info? 77).map (·.size) = some ([.slice vpo l.length vpc,.slice none 0 0,.slice oo os.length oc,.slice io os.length ic]:List Value).length:=eH
   obtain ⟨WE,hWE⟩:∃ WE,W5.setCells w.heap.size 0 [.slice vpo l.length vpc,.slice none 0 0,.slice oo os.length oc,.slice io os.length ic] = WE:=⟨_,rfl⟩
   have HRE:Hid (BoxL WE w.heap.size 77 [.slice vpo l.length vpc,.slice none 0 0,.slice oo os.length oc,.slice io os.length ic]):=ah (by rw [← hWE];exact HS5.out.res.set rfl)
   have HBE:Hid (Below w.heap.size w WE):=ah (by rw [← hWE];exact below_setCells _ (Nat.le_refl _) _ _ _ HS5.out.bel)
   have HGE:Hid (W5.grownBy WE (some w.heap.size)):=ah (by rw [← hWE];exact aH _ _ _ _)
   have HWE:=ah hWE
   clear hWE
   go_wp2_with (first
    | refine wpList_load_mid rfl 77 _ rfl (w.heap.size + 1) 0 rfl [.slice vpo l.length vpc,.slice none 0 0,.slice oo os.length oc,.slice io os.length ic] _ hpr underlying77 rfl h4i ?_
    | (refine aj rfl 77 _ _ rfl w.heap.size 0 [.slice vpo l.length vpc,.slice none 0 0,.slice oo os.length oc,.slice io os.length ic] rfl rfl 4 rfl hth HIK.out (by intro v hv;simp at hv;rcases hv with rfl | rfl | rfl | rfl <;> rfl) ?_;rw [HWE.out]))
   have hre:=HRE.out.range
   (try simp only [Exit.inBlock,Exit.then])
   refine aB rfl w.heap.size 0 rfl [.slice vpo l.length vpc,.slice none 0 0,.slice oo os.length oc,.slice io os.length ic] _ hre underlying77 rfl h4i rfl _ rfl ?_
   exact Au HNO.out HBE.out
  have he:os.length = ts.length:=by omega
  have HYE:Hid (aV l = some os):=ah (by rw [HFA.out];exact Dw hF.out he)
  have d2:¬ (os.length:Int) < ts.length:=by omega
  have HOE:=ah HS.out.obs
  have HIE:=ah HS.out.ids
  have hno1:(Value.slice oo os.length oc).ownBlock ≠ some w.heap.size:=fun e => by have:=(HS.out.o1.lt _ e).1;have:=HB3.out;omega
  have hno2:(Value.slice io os.length ic).ownBlock ≠ some w.heap.size:=fun e => by have:=(HS.out.o2.lt _ e).1;have:=HB3.out;omega
  have hf1:bB w (Value.slice oo os.length oc):=fun g hg => by have:=(HS.out.o1.lt g hg).1;have:=HB3.out;omega
  have hf2:bB w (Value.slice io os.length ic):=fun g hg => by have:=(HS.out.o2.lt g hg).1;have:=HB3.out;omega
  clear he
  go_upto_region 16 with fail
  have hpr:=HS.out.pa.range
  have hth:wr.there w.heap.size 0 4:=HS.out.res.there
  have h4i:(prog.info? 77).map (·.size) = some ([.slice vpo l.length vpc,.slice none 0 0,.slice oo os.length oc,.slice io os.length ic]:List Value).length:=eH
  obtain ⟨WE,hWE⟩:∃ WE,wr.setCells w.heap.size 0 [.slice vpo l.length vpc,.slice none 0 0,.slice oo os.length oc,.slice io os.length ic] = WE:=⟨_,rfl⟩
  have HRE:Hid (BoxL WE w.heap.size 77 [.slice vpo l.length vpc,.slice none 0 0,.slice oo os.length oc,.slice io os.length ic]):=ah (by rw [← hWE];exact HS.out.res.set rfl)
  have HBE:Hid (Below w.heap.size w WE):=ah (by rw [← hWE];exact below_setCells _ (Nat.le_refl _) _ _ _ HS.out.bel)
  have HGE:Hid (wr.grownBy WE (some w.heap.size)):=ah (by rw [← hWE];exact aH _ _ _ _)
  have HWE:=ah hWE
  clear hWE
  go_wp2_with (first
   | refine wpList_load_mid rfl 77 _ rfl (w.heap.size + 1) 0 rfl [.slice vpo l.length vpc,.slice none 0 0,.slice oo os.length oc,.slice io os.length ic] _ hpr underlying77 rfl h4i ?_
   | (refine aj rfl 77 _ _ rfl w.heap.size 0 [.slice vpo l.length vpc,.slice none 0 0,.slice oo os.length oc,.slice io os.length ic] rfl rfl 4 rfl hth HIK.out (by intro v hv;simp at hv;rcases hv with rfl | rfl | rfl | rfl <;> rfl) ?_;rw [HWE.out]))
  have hre:=HRE.out.range
  (try simp only [Exit.inBlock,Exit.then])
  refine aB rfl w.heap.size 0 rfl [.slice vpo l.length vpc,.slice none 0 0,.slice oo os.length oc,.slice io os.length ic] _ hre underlying77 rfl h4i rfl _ rfl ?_
  exact Lx HYE.out (aK.offG HOE.out HGE.out hno1) (aK.offG HIE.out HGE.out hno2) hf1 hf2 HBE.out
def RPk (w:World) (cs:List Value) (p:Pk):Prop:=∃ x1 i1 j1 x2 i2 j2 x3 i3 j3 x4 i4 j4,cs = [.slice x1 i1 j1,.slice x2 i2 j2,.slice x3 i3 j3,.slice x4 i4 j4] ∧ dQ w (.slice x1 i1 j1) (p.parts.map (·.1)) ∧ fD w (.slice x2 i2 j2) (p.parts.map (·.2)) ∧ dD w (.slice x3 i3 j3) p.obs ∧ bD w (.slice x4 i4 j4) (p.obs.map idO)
theorem RPk.below {w w':World} {cs:List Value} {p:Pk} (h:RPk w cs p) (hb:Below w.heap.size w w'):RPk w' cs p:=by
 obtain ⟨x1,i1,j1,x2,i2,j2,x3,i3,j3,x4,i4,j4,h0,h1,h2,h3,h4⟩:=h
 exact ⟨x1,i1,j1,x2,i2,j2,x3,i3,j3,x4,i4,j4,h0,h1.below hb,h2.below hb,h3.below hb,h4.below hb⟩
def Bh (b:ByteArray) (w:World) (e:Ending) (w':World):Prop :=
 (match dJ b with
 | none => ∃ x1 i1 j1 x2 i2 j2 x3 i3 j3 x4 i4 j4,e = .returned (.tuple #[.agg #[.slice x1 i1 j1,.slice x2 i2 j2,.slice x3 i3 j3,.slice x4 i4 j4],.bool false])
 | some p => ∃ cs,e = .returned (.tuple #[.agg cs.toArray,.bool true]) ∧ RPk w' cs p ∧ ∀ v ∈ cs,bB w v) ∧ Below w.heap.size w w'
theorem kI {b:ByteArray} {w w':World} {x1 x2 x3 x4:Option Addr} {i1 j1 i2 j2 i3 j3 i4 j4:Nat} (h:dJ b = none) (hb:Below w.heap.size w w'):Bh b w (.returned (.tuple #[.agg #[.slice x1 i1 j1,.slice x2 i2 j2,.slice x3 i3 j3,.slice x4 i4 j4],.bool false])) w' :=
 ⟨by rw [h];exact ⟨x1,i1,j1,x2,i2,j2,x3,i3,j3,x4,i4,j4,rfl⟩,hb⟩
theorem Eu {b:ByteArray} {p:Pk} {w w':World} {x1 x2 x3 x4:Option Addr} {i1 j1 i2 j2 i3 j3 i4 j4:Nat} (h:dJ b = some p) (h1:dQ w' (.slice x1 i1 j1) (p.parts.map (·.1))) (h2:fD w' (.slice x2 i2 j2) (p.parts.map (·.2))) (h3:dD w' (.slice x3 i3 j3) p.obs) (h4:bD w' (.slice x4 i4 j4) (p.obs.map idO)) (f1:bB w (.slice x1 i1 j1)) (f2:bB w (.slice x2 i2 j2)) (f3:bB w (.slice x3 i3 j3)) (f4:bB w (.slice x4 i4 j4)) (hb:Below w.heap.size w w') :
  Bh b w (.returned (.tuple #[.agg #[.slice x1 i1 j1,.slice x2 i2 j2,.slice x3 i3 j3,.slice x4 i4 j4],.bool true])) w' :=
 ⟨by rw [h];exact ⟨[.slice x1 i1 j1,.slice x2 i2 j2,.slice x3 i3 j3,.slice x4 i4 j4],rfl,⟨x1,i1,j1,x2,i2,j2,x3,i3,j3,x4,i4,j4,rfl,h1,h2,h3,h4⟩,fun v hv => by
  simp only [List.mem_cons,List.not_mem_nil,or_false] at hv
  rcases hv with rfl | rfl | rfl | rfl
  ·exact f1
  ·exact f2
  ·exact f3
  exact f4⟩,hb⟩
theorem rV (b:ByteArray):dJ b = match bK b.data.toList with
 | none => none
 | some s => match eB (ofB s) with
  | none => none
  | some x => if x.2.2.length ≠ x.1 ∨ x.2.1.fin ≠ 0 then none else (aV (x.2.2.map (·.1))).map fun os => ⟨x.2.2,os⟩:=by
 unfold dJ
 cases bK b.data.toList with
 | none => rfl
 | some s =>
  dsimp only
  cases eB (ofB s) with
  | none => rfl
  | some x =>
   obtain ⟨n,r,ps⟩:=x
   dsimp only
   split
   ·rfl
   unfold aV
   cases cu _ with
   | inl e => rfl
   | inr ts => rfl
theorem Lj (w:World):(Instr.build 77 #[]).run prog w = .ok (.agg #[.slice none 0 0,.slice none 0 0,.slice none 0 0,.slice none 0 0]) w:=run_build w 77 _ _ (by kernel_rfl)
theorem BX (b:ByteArray) (w:World) (hb:b.size ≤ 1000000):Calls prog 47 #[.string b] w (Bh b w):=by
 have hbp:=Lj
 obtain ⟨W1,hW1⟩:∃ W,w.alloc (.cells #[.slice none 0 0,.slice none 0 0,.slice none 0 0,.slice none 0 0] 77) = W:=⟨_,rfl⟩
 have HX1:Hid (BoxL W1 w.heap.size 77 [.slice none 0 0,.slice none 0 0,.slice none 0 0,.slice none 0 0]):=ah (by rw [← hW1];exact BoxL.new w 77 [.slice none 0 0,.slice none 0 0,.slice none 0 0,.slice none 0 0])
 have HB1:Hid (Below w.heap.size w W1):=ah (by rw [← hW1];exact bal)
 have HUN:=ah (mo b W1 (by omega))
 have HOP:=ah (rV b)
 have HW1:=ah hW1
 have HIK:=ah eH
 clear hW1
 cases hu:bK b.data.toList with
 | none =>
  have e1:unS b = ⟨#[]⟩:=by unfold unS;rw [hu];rfl
  have e2:unOk b = false:=by unfold unOk;rw [hu];rfl
  rw [e1,e2] at HUN
  rw [hu] at HOP
  have HNO:Hid (dJ b = none):=HOP
  clear hu e1 e2 HOP
  go_enter func47,ntmps47
  go_upto_region 1 with fail
  rw [HW1.out]
  go_wp2_with fail
  refine HUN.out.mono ?_
  rintro e w2 ⟨rfl,hb2⟩
  have HX2:=ah (HX1.out.below hb2)
  have HB2:=bth HB1 hb2
  clear hb2
  go_upto_region 3 with fail
  have hth:w2.there w.heap.size 0 4:=HX2.out.there
  have h4i:(prog.info? 77).map (·.size) = some ([.slice none 0 0,.slice none 0 0,.slice none 0 0,.slice none 0 0]:List Value).length:=eH
  obtain ⟨WE,hWE⟩:∃ WE,w2.setCells w.heap.size 0 [.slice none 0 0,.slice none 0 0,.slice none 0 0,.slice none 0 0] = WE:=⟨_,rfl⟩
  have HRE:Hid (BoxL WE w.heap.size 77 [.slice none 0 0,.slice none 0 0,.slice none 0 0,.slice none 0 0]):=ah (by rw [← hWE];exact HX2.out.set rfl)
  have HBE:Hid (Below w.heap.size w WE):=ah (by rw [← hWE];exact below_setCells _ (Nat.le_refl _) _ _ _ HB2.out)
  have HWE:=ah hWE
  clear hWE
  go_wp2_with (refine aj rfl 77 _ _ rfl w.heap.size 0 [.slice none 0 0,.slice none 0 0,.slice none 0 0,.slice none 0 0] rfl rfl 4 rfl hth HIK.out (by intro v hv;simp at hv;subst hv;rfl) ?_;rw [HWE.out])
  have hre:=HRE.out.range
  (try simp only [Exit.inBlock,Exit.then])
  refine aB rfl w.heap.size 0 rfl [.slice none 0 0,.slice none 0 0,.slice none 0 0,.slice none 0 0] _ hre underlying77 rfl h4i rfl _ rfl ?_
  exact kI HNO.out HBE.out
 | some l =>
  have e1:unS b = ofB l:=by unfold unS;rw [hu];rfl
  have e2:unOk b = true:=by unfold unOk;rw [hu];rfl
  have hll:(ofB l).size ≤ 1000000:=by
   rw [aM]
   unfold bK at hu
   split at hu
   ·cases hu
    rw [List.length_take]
    have:b.data.toList.length = b.size:=by simp
    omega
   cases hu
  rw [e1,e2] at HUN
  rw [hu] at HOP
  dsimp only at HOP
  clear hu e1 e2
  generalize ofB l = s at HUN HOP hll
  have HRD:=ah (fun w => rP s w hll)
  go_enter func47,ntmps47
  go_upto_region 1 with fail
  rw [HW1.out]
  go_wp2_with fail
  refine HUN.out.mono ?_
  rintro e w2 ⟨rfl,hb2⟩
  have HX2:=ah (HX1.out.below hb2)
  have HB2:=bth HB1 hb2
  have HRW:=ah (HRD.out w2)
  clear hb2 HUN HRD
  go_wp2_with fail
  refine HRW.out.mono ?_
  rintro e w3 hans
  unfold DY at hans
  cases hpp:eB s with
  | none =>
   rw [hpp] at hans HOP
   dsimp only at hans
   obtain ⟨rfl,hb3⟩:=hans
   have HNO:Hid (dJ b = none):=HOP
   have HX3:=ah (HX2.out.below hb3)
   have HB3:=bth HB2 hb3
   clear hb3 hpp HOP
   go_upto_region 6 with fail
   have hth:w3.there w.heap.size 0 4:=HX3.out.there
   have h4i:(prog.info? 77).map (·.size) = some ([.slice none 0 0,.slice none 0 0,.slice none 0 0,.slice none 0 0]:List Value).length:=eH
   obtain ⟨WE,hWE⟩:∃ WE,w3.setCells w.heap.size 0 [.slice none 0 0,.slice none 0 0,.slice none 0 0,.slice none 0 0] = WE:=⟨_,rfl⟩
   have HRE:Hid (BoxL WE w.heap.size 77 [.slice none 0 0,.slice none 0 0,.slice none 0 0,.slice none 0 0]):=ah (by rw [← hWE];exact HX3.out.set rfl)
   have HBE:Hid (Below w.heap.size w WE):=ah (by rw [← hWE];exact below_setCells _ (Nat.le_refl _) _ _ _ HB3.out)
   have HWE:=ah hWE
   clear hWE
   go_wp2_with (refine aj rfl 77 _ _ rfl w.heap.size 0 [.slice none 0 0,.slice none 0 0,.slice none 0 0,.slice none 0 0] rfl rfl 4 rfl hth HIK.out (by intro v hv;simp at hv;subst hv;rfl) ?_;rw [HWE.out])
   have hre:=HRE.out.range
   (try simp only [Exit.inBlock,Exit.then])
   refine aB rfl w.heap.size 0 rfl [.slice none 0 0,.slice none 0 0,.slice none 0 0,.slice none 0 0] _ hre underlying77 rfl h4i rfl _ rfl ?_
   exact kI HNO.out HBE.out
  | some x =>
   rw [hpp] at hans HOP
   dsimp only at hans HOP
   obtain ⟨n,r,ps⟩:=x
   dsimp only at hans HOP
   obtain ⟨⟨vp,vs,at0,rfl,hvp,hvs,hok,hln,hn2,hfi,hrs,hat,hf1,hf2⟩,hb3⟩:=hans
   obtain ⟨vpo,vpc,rfl,_,_⟩:=hvp.open
   obtain ⟨vso,vsc,rfl,_,_⟩:=hvs.open
   rw [List.length_map] at hvp hvs hf1 hf2 ⊢
   have HVP:=ah hvp
   have HVS:=ah hvs
   have HX3:=ah (HX2.out.below hb3)
   have HW23:Hid (w2.heap.size ≤ w3.heap.size):=ah hb3.size
   have HB3:=bth HB2 hb3
   have HF:=ah (And.intro hf1 hf2)
   have HLS:Hid (w.heap.size < w2.heap.size):=ah HX2.out.lt
   have HOKP:=ah hok
   have hr0:=hfi.1
   clear hvp hvs hf1 hf2 hb3 hpp hok hfi
   by_cases hlen:ps.length = n
   ·obtain ⟨hat1,herr⟩:=hat hlen
    subst hat1
    rw [hrs] at hr0
    by_cases hfin:r.pos = s.size
    ·have HOP2:Hid (dJ b = (aV (ps.map (·.1))).map fun os => ⟨ps,os⟩):=ah (by
      rw [HOP.out,if_neg]
      rintro (h | h)
      ·exact h hlen
      refine h ?_
      unfold Rd.fin
      rw [if_neg (fun h => h herr),if_neg (by rw [hrs];omega)])
     have d1:((ps.length:Int) != (n:Int)) = false:=by rw [bne_eq_false_iff_eq];omega
     have d2:((r.pos:Int) != (s.size:Int)) = false:=by rw [bne_eq_false_iff_eq];omega
     have HOF:=ah (IG (.slice vpo ps.length vpc) (ps.map (·.1)) w3 HVP.out HOKP.out)
     clear hlen hat hfin HOP
     go_wp2_with fail
     refine HOF.out.mono ?_
     rintro e w4 hans
     unfold OfPk at hans
     have HX4:=ah (HX3.out.below hans.2)
     have HB4:=ah (HB3.out.trans (hans.2.mono HB3.out.size))
     have HVP4:=ah (HVP.out.below hans.2)
     have HVS4:=ah (HVS.out.below hans.2)
     have HSZ3:Hid (w2.heap.size ≤ w3.heap.size):=HW23
     have HT5:=ah (there_alloc (n:=4) w4 #[.slice none 0 0,.slice none 0 0,.slice none 0 0,.slice none 0 0] 77 rfl)
     cases hfa:aV (ps.map (·.1)) with
     | none =>
      rw [hfa] at hans HOP2
      dsimp only at hans
      obtain ⟨⟨x3,i3,j3,x4,i4,j4,rfl⟩,hb4⟩:=hans
      have HNO:Hid (dJ b = none):=HOP2
      clear hb4 hfa HOP2
      obtain ⟨W5,hW5⟩:∃ W,(w4.alloc (.cells #[.slice none 0 0,.slice none 0 0,.slice none 0 0,.slice none 0 0] 77)).setCells w4.heap.size 0 [.slice vpo ps.length vpc,.slice none 0 0,.slice x3 i3 j3,.slice x4 i4 j4] = W:=⟨_,rfl⟩
      have HX5:Hid (BoxL W5 w4.heap.size 77 [.slice vpo ps.length vpc,.slice none 0 0,.slice x3 i3 j3,.slice x4 i4 j4]):=ah (by rw [← hW5];exact (BoxL.new w4 77 [.slice none 0 0,.slice none 0 0,.slice none 0 0,.slice none 0 0]).set rfl)
      have hb5:Below w4.heap.size w4 W5:=by rw [← hW5];exact below_setCells _ (Nat.le_refl _) _ _ _ bal
      have c5:W5.cell? ⟨w4.heap.size,1,none⟩ = some (.slice none 0 0):=HX5.out.range 1 _ rfl
      have f5:W5.frozen? ⟨w4.heap.size,1,none⟩ = false:=by have:=(HX5.out.there 1 (by show 1 < 4;omega)).2;rwa [Nat.zero_add] at this
      have HW5:=ah hW5
      obtain ⟨W6,hW6⟩:∃ W,W5.setCell ⟨w4.heap.size,1,none⟩ (.slice vso ps.length vsc) = W:=⟨_,rfl⟩
      have HX6:Hid (BoxL W6 w4.heap.size 77 [.slice vpo ps.length vpc,.slice vso ps.length vsc,.slice x3 i3 j3,.slice x4 i4 j4]):=ah (by rw [← hW6];exact HX5.out.put 1 (.slice vso ps.length vsc))
      have hb6:Below w4.heap.size w4 W6:=by rw [← hW6];exact hb5.setCell (p:=⟨w4.heap.size,1,none⟩) (Nat.le_refl _) _
      have HR6:Hid (BoxL W6 w.heap.size 77 [.slice none 0 0,.slice none 0 0,.slice none 0 0,.slice none 0 0]):=ah (HX4.out.below hb6)
      have HB6:Hid (Below w.heap.size w W6):=bth HB4 hb6
      have HVP6:=ah (HVP4.out.below hb6)
      have HVS6:=ah (HVS4.out.below hb6)
      have HW6:=ah hW6
      obtain ⟨WE,hWE⟩:∃ WE,W6.setCells w.heap.size 0 [.slice vpo ps.length vpc,.slice vso ps.length vsc,.slice x3 i3 j3,.slice x4 i4 j4] = WE:=⟨_,rfl⟩
      have HRE:Hid (BoxL WE w.heap.size 77 [.slice vpo ps.length vpc,.slice vso ps.length vsc,.slice x3 i3 j3,.slice x4 i4 j4]):=ah (by rw [← hWE];exact HR6.out.set rfl)
      have HBE:Hid (Below w.heap.size w WE):=ah (by rw [← hWE];exact below_setCells _ (Nat.le_refl _) _ _ _ HB6.out)
      have HGE:Hid (W6.grownBy WE (some w.heap.size)):=ah (by rw [← hWE];exact aH _ _ _ _)
      have HWE:=ah hWE
      have r6:=HX6.out.range
      have hth:W6.there w.heap.size 0 4:=HR6.out.there
      have h4i:(prog.info? 77).map (·.size) = some ([.slice vpo ps.length vpc,.slice vso ps.length vsc,.slice x3 i3 j3,.slice x4 i4 j4]:List Value).length:=eH
      clear hW5 hW6 hWE hb5 hb6
      go_upto_region 8 with (refine aj rfl 77 _ _ rfl w4.heap.size 0 [.slice vpo ps.length vpc,.slice none 0 0,.slice x3 i3 j3,.slice x4 i4 j4] rfl rfl 4 rfl HT5.out HIK.out (by intro v hv;simp at hv;rcases hv with rfl | rfl | rfl | rfl <;> rfl) ?_;rw [HW5.out])
      go_upto_region 9 with fail
      rw [HW6.out]
      clear c5 f5
      go_wp2_with (first
       | refine wpList_load_mid rfl 77 _ rfl w4.heap.size 0 rfl [.slice vpo ps.length vpc,.slice vso ps.length vsc,.slice x3 i3 j3,.slice x4 i4 j4] _ r6 underlying77 rfl h4i ?_
       | (refine aj rfl 77 _ _ rfl w.heap.size 0 [.slice vpo ps.length vpc,.slice vso ps.length vsc,.slice x3 i3 j3,.slice x4 i4 j4] rfl rfl 4 rfl hth HIK.out (by intro v hv;simp at hv;rcases hv with rfl | rfl | rfl | rfl <;> rfl) ?_;rw [HWE.out]))
      have hre:=HRE.out.range
      (try simp only [Exit.inBlock,Exit.then])
      refine aB rfl w.heap.size 0 rfl [.slice vpo ps.length vpc,.slice vso ps.length vsc,.slice x3 i3 j3,.slice x4 i4 j4] _ hre underlying77 rfl h4i rfl _ rfl ?_
      exact kI HNO.out HBE.out
     | some os =>
      rw [hfa] at hans HOP2
      dsimp only at hans
      obtain ⟨⟨vo,vi,rfl,h1,h2,h3,h4⟩,hb4⟩:=hans
      have HYE:Hid (dJ b = some ⟨ps,os⟩):=HOP2
      obtain ⟨x3,j3,rfl,_,_⟩:=h1.open
      obtain ⟨x4,j4,rfl,_,_⟩:=h2.open
      rw [List.length_map] at h2 h4 ⊢
      obtain ⟨i3,hi3⟩:∃ i,os.length = i:=⟨_,rfl⟩
      rw [hi3] at h1 h2 h3 h4 ⊢
      have HVO4:=ah h1
      have HVI4:=ah h2
      have HF4:=ah (And.intro h3 h4)
      clear hb4 hfa HOP2 h1 h2 h3 h4 hi3
      obtain ⟨W5,hW5⟩:∃ W,(w4.alloc (.cells #[.slice none 0 0,.slice none 0 0,.slice none 0 0,.slice none 0 0] 77)).setCells w4.heap.size 0 [.slice vpo ps.length vpc,.slice none 0 0,.slice x3 i3 j3,.slice x4 i3 j4] = W:=⟨_,rfl⟩
      have HX5:Hid (BoxL W5 w4.heap.size 77 [.slice vpo ps.length vpc,.slice none 0 0,.slice x3 i3 j3,.slice x4 i3 j4]):=ah (by rw [← hW5];exact (BoxL.new w4 77 [.slice none 0 0,.slice none 0 0,.slice none 0 0,.slice none 0 0]).set rfl)
      have hb5:Below w4.heap.size w4 W5:=by rw [← hW5];exact below_setCells _ (Nat.le_refl _) _ _ _ bal
      have c5:W5.cell? ⟨w4.heap.size,1,none⟩ = some (.slice none 0 0):=HX5.out.range 1 _ rfl
      have f5:W5.frozen? ⟨w4.heap.size,1,none⟩ = false:=by have:=(HX5.out.there 1 (by show 1 < 4;omega)).2;rwa [Nat.zero_add] at this
      have HW5:=ah hW5
      obtain ⟨W6,hW6⟩:∃ W,W5.setCell ⟨w4.heap.size,1,none⟩ (.slice vso ps.length vsc) = W:=⟨_,rfl⟩
      have HX6:Hid (BoxL W6 w4.heap.size 77 [.slice vpo ps.length vpc,.slice vso ps.length vsc,.slice x3 i3 j3,.slice x4 i3 j4]):=ah (by rw [← hW6];exact HX5.out.put 1 (.slice vso ps.length vsc))
      have hb6:Below w4.heap.size w4 W6:=by rw [← hW6];exact hb5.setCell (p:=⟨w4.heap.size,1,none⟩) (Nat.le_refl _) _
      have HR6:Hid (BoxL W6 w.heap.size 77 [.slice none 0 0,.slice none 0 0,.slice none 0 0,.slice none 0 0]):=ah (HX4.out.below hb6)
      have HB6:Hid (Below w.heap.size w W6):=bth HB4 hb6
      have HVP6:=ah (HVP4.out.below hb6)
      have HVS6:=ah (HVS4.out.below hb6)
      have HVO6:=ah (HVO4.out.below hb6)
      have HVI6:=ah (HVI4.out.below hb6)
      have HW6:=ah hW6
      obtain ⟨WE,hWE⟩:∃ WE,W6.setCells w.heap.size 0 [.slice vpo ps.length vpc,.slice vso ps.length vsc,.slice x3 i3 j3,.slice x4 i3 j4] = WE:=⟨_,rfl⟩
      have HRE:Hid (BoxL WE w.heap.size 77 [.slice vpo ps.length vpc,.slice vso ps.length vsc,.slice x3 i3 j3,.slice x4 i3 j4]):=ah (by rw [← hWE];exact HR6.out.set rfl)
      have HBE:Hid (Below w.heap.size w WE):=ah (by rw [← hWE];exact below_setCells _ (Nat.le_refl _) _ _ _ HB6.out)
      have HGE:Hid (W6.grownBy WE (some w.heap.size)):=ah (by rw [← hWE];exact aH _ _ _ _)
      have HWE:=ah hWE
      have r6:=HX6.out.range
      have hth:W6.there w.heap.size 0 4:=HR6.out.there
      have h4i:(prog.info? 77).map (·.size) = some ([.slice vpo ps.length vpc,.slice vso ps.length vsc,.slice x3 i3 j3,.slice x4 i3 j4]:List Value).length:=eH
      clear hW5 hW6 hWE hb5 hb6
      go_upto_region 8 with (refine aj rfl 77 _ _ rfl w4.heap.size 0 [.slice vpo ps.length vpc,.slice none 0 0,.slice x3 i3 j3,.slice x4 i3 j4] rfl rfl 4 rfl HT5.out HIK.out (by intro v hv;simp at hv;rcases hv with rfl | rfl | rfl | rfl <;> rfl) ?_;rw [HW5.out])
      go_upto_region 9 with fail
      rw [HW6.out]
      clear c5 f5
      go_wp2_with (first
       | refine wpList_load_mid rfl 77 _ rfl w4.heap.size 0 rfl [.slice vpo ps.length vpc,.slice vso ps.length vsc,.slice x3 i3 j3,.slice x4 i3 j4] _ r6 underlying77 rfl h4i ?_
       | (refine aj rfl 77 _ _ rfl w.heap.size 0 [.slice vpo ps.length vpc,.slice vso ps.length vsc,.slice x3 i3 j3,.slice x4 i3 j4] rfl rfl 4 rfl hth HIK.out (by intro v hv;simp at hv;rcases hv with rfl | rfl | rfl | rfl <;> rfl) ?_;rw [HWE.out]))
      have hre:=HRE.out.range
      (try simp only [Exit.inBlock,Exit.then])
      refine aB rfl w.heap.size 0 rfl [.slice vpo ps.length vpc,.slice vso ps.length vsc,.slice x3 i3 j3,.slice x4 i3 j4] _ hre underlying77 rfl h4i rfl _ rfl ?_
      have hls:=HLS.out
      have hs3:=HSZ3.out
      exact Eu HYE.out (dQ.offG HVP6.out HGE.out (fun e => by have:=HF.out.1 _ e;omega)) (fD.offG HVS6.out HGE.out (fun e => by have:=HF.out.2 _ e;omega)) (aK.offG HVO6.out HGE.out (fun e => by have:=HF4.out.1 _ e;omega)) (aK.offG HVI6.out HGE.out (fun e => by have:=HF4.out.2 _ e;omega)) (fun g e => by have:=HF.out.1 _ e;omega) (fun g e => by have:=HF.out.2 _ e;omega) (fun g e => by have:=HF4.out.1 _ e;omega) (fun g e => by have:=HF4.out.2 _ e;omega) HBE.out
    have HNO:Hid (dJ b = none):=ah (by
     rw [HOP.out,if_pos]
     refine .inr ?_
     unfold Rd.fin
     rw [if_neg (fun h => h herr),if_pos (by rw [hrs];omega)]
     decide)
    have d1:((ps.length:Int) != (n:Int)) = false:=by rw [bne_eq_false_iff_eq];omega
    have d2:((r.pos:Int) != (s.size:Int)) = true:=by rw [bne_iff_ne];omega
    clear hlen hat hfin HOP
    go_upto_region 6 with fail
    have hth:w3.there w.heap.size 0 4:=HX3.out.there
    have h4i:(prog.info? 77).map (·.size) = some ([.slice none 0 0,.slice none 0 0,.slice none 0 0,.slice none 0 0]:List Value).length:=eH
    obtain ⟨WE,hWE⟩:∃ WE,w3.setCells w.heap.size 0 [.slice none 0 0,.slice none 0 0,.slice none 0 0,.slice none 0 0] = WE:=⟨_,rfl⟩
    have HRE:Hid (BoxL WE w.heap.size 77 [.slice none 0 0,.slice none 0 0,.slice none 0 0,.slice none 0 0]):=ah (by rw [← hWE];exact HX3.out.set rfl)
    have HBE:Hid (Below w.heap.size w WE):=ah (by rw [← hWE];exact below_setCells _ (Nat.le_refl _) _ _ _ HB3.out)
    have HWE:=ah hWE
    clear hWE
    go_wp2_with (refine aj rfl 77 _ _ rfl w.heap.size 0 [.slice none 0 0,.slice none 0 0,.slice none 0 0,.slice none 0 0] rfl rfl 4 rfl hth HIK.out (by intro v hv;simp at hv;subst hv;rfl) ?_;rw [HWE.out])
    have hre:=HRE.out.range
    (try simp only [Exit.inBlock,Exit.then])
    refine aB rfl w.heap.size 0 rfl [.slice none 0 0,.slice none 0 0,.slice none 0 0,.slice none 0 0] _ hre underlying77 rfl h4i rfl _ rfl ?_
    exact kI HNO.out HBE.out
   have HNO:Hid (dJ b = none):=ah (by rw [HOP.out,if_pos (.inl hlen)])
   have d1:((ps.length:Int) != (n:Int)) = true:=by rw [bne_iff_ne];omega
   clear hlen hat HOP
   go_upto_region 6 with fail
   have hth:w3.there w.heap.size 0 4:=HX3.out.there
   have h4i:(prog.info? 77).map (·.size) = some ([.slice none 0 0,.slice none 0 0,.slice none 0 0,.slice none 0 0]:List Value).length:=eH
   obtain ⟨WE,hWE⟩:∃ WE,w3.setCells w.heap.size 0 [.slice none 0 0,.slice none 0 0,.slice none 0 0,.slice none 0 0] = WE:=⟨_,rfl⟩
   have HRE:Hid (BoxL WE w.heap.size 77 [.slice none 0 0,.slice none 0 0,.slice none 0 0,.slice none 0 0]):=ah (by rw [← hWE];exact HX3.out.set rfl)
   have HBE:Hid (Below w.heap.size w WE):=ah (by rw [← hWE];exact below_setCells _ (Nat.le_refl _) _ _ _ HB3.out)
   have HWE:=ah hWE
   clear hWE
   go_wp2_with (refine aj rfl 77 _ _ rfl w.heap.size 0 [.slice none 0 0,.slice none 0 0,.slice none 0 0,.slice none 0 0] rfl rfl 4 rfl hth HIK.out (by intro v hv;simp at hv;subst hv;rfl) ?_;rw [HWE.out])
   have hre:=HRE.out.range
   (try simp only [Exit.inBlock,Exit.then])
   refine aB rfl w.heap.size 0 rfl [.slice none 0 0,.slice none 0 0,.slice none 0 0,.slice none 0 0] _ hre underlying77 rfl h4i rfl _ rfl ?_
   exact kI HNO.out HBE.out
def lZ (l:List Ob):Prop:=∀ o ∈ l,aC o = true
theorem lZ.snoc {l:List Ob} {o:Ob} (h:lZ l) (ho:aC o = true):lZ (l ++ [o]):=fun x hx => by
 rcases List.mem_append.1 hx with hx | hx
 ·exact h x hx
 rw [List.mem_singleton.1 hx];exact ho
def Ph (w:World) (e:Ending) (w':World):Prop:=∃ v os,e = .returned v ∧ dD w' v os ∧ os.length ≤ 200 ∧ lZ os ∧ Below w.heap.size w w'
def osV (l:List Ob):List Value:=(l.map obC).flatten
theorem Cy (l:List Ob) (p:Ob):osV (l ++ [p]) = osV l ++ obC p:=by simp [osV]
theorem dD.rW {w:World} {B:Nat} {v:Value} {l:List Ob} (h:w.ownsRow B 40 2 v l.length (osV l)):dD w v l :=
 aK.aS (B:=B) (e:=40) (fun r hr => by obtain ⟨p,_,rfl⟩:=List.mem_map.1 hr;rfl) (by rw [List.length_map];exact h)
theorem IC (b:ByteArray) (w:World) (hb:b.size ≤ 1000000):Calls prog 64 #[.string b] w (Ph w):=by
 have HRD:=ah (rP b w hb)
 unfold DY at HRD
 have HIO:=ah aF
 cases hps:eB b with
 | none =>
  rw [hps] at HRD
  dsimp only at HRD
  clear hps
  go_enter func64,ntmps64
  go_wp2_with fail
  refine HRD.out.mono ?_
  rintro e w1 ⟨rfl,hb1⟩
  go_wp2_with fail
  go_ret
  exact ⟨_,[],rfl,⟨none,0,rfl,(show 0 ≤ maxLen from Nat.zero_le _),fun h => absurd rfl h⟩,by decide,fun o ho => (by cases ho),hb1⟩
 | some x =>
  rw [hps] at HRD
  dsimp only at HRD
  clear hps
  obtain ⟨n,r,ps⟩:=x
  dsimp only at HRD
  go_enter func64,ntmps64
  go_wp2_with fail
  refine HRD.out.mono ?_
  rintro e w1 ⟨⟨vp,vs,at0,rfl,hpt,_,hok,hlen,hn,_⟩,hb1⟩
  obtain ⟨l,hl⟩:∃ l:List Pt,ps.map (·.1) = l:=⟨_,rfl⟩
  have hll:l.length ≤ 200:=by rw [← hl,List.length_map];omega
  rw [hl] at hpt hok
  have HPT:=ah hpt
  obtain ⟨pa,pc,hvp,hpm,_⟩:=hpt
  rw [List.length_map] at hvp hpm
  subst hvp
  have HOK:=ah hok
  have HB1:=ah hb1
  have HLL:=ah hll
  obtain ⟨vs0,hvs0⟩:∃ v0,vs = v0:=⟨_,rfl⟩
  clear hl hok hlen hn hb1 hvs0 hll
  go_wp2_with fail
  go_loopw [8,9,10,11,13,14,15] (fun ov i _ _ _ _ _ wr => ∃ (k:Nat) (os:List Ob),k ≤ l.length ∧ i = .int .i64 (k:Int) ∧ os.length ≤ k ∧ Hid (wr.ownsRow w1.heap.size 40 2 ov os.length (osV os)) ∧ Hid (lZ os) ∧ Hid (Below w1.heap.size w1 wr)) (fun _ i _ _ _ _ _ _ => (l.length - intOf i).toNat)
  case atStart => exact ⟨0,[],by omega,rfl,Nat.le_refl _,World.ownsRow_nil _ _ _ _,fun o ho => (by cases ho),Below.refl _ _⟩
  obtain ⟨wo,rfl⟩:∃ wo:World,wo = wr:=⟨_,rfl⟩
  obtain ⟨k,os,hk,rfl,hosk,HOW,HOO,HBK⟩:=hrel
  obtain ⟨oa,oc,rfl⟩:=ay HOW.out
  by_cases hlt:k < l.length
  ·have k0:(0:Int) ≤ k:=by omega
   have k1:(k:Int) < l.length:=by omega
   have wk:IntKind.i64.wrap ((k:Int) + 1) = (k:Int) + 1:=IntWalk.i64_in _ (by have:=HLL.out;omega)
   have HTX:=ah (uG (.slice pa l.length pc) l k wo (HPT.out.below HBK.out) HOK.out (by have:=HLL.out;omega))
   cases htx:bq l k with
   | inl er =>
    have her:=(o8 htx).1
    have e0:((er:Int) == 0) = false:=by rw [beq_eq_false_iff_ne];omega
    rw [htx] at HTX
    dsimp only [iV] at HTX
    clear htx
    go_wp2_with fail
    refine HTX.out.mono ?_
    rintro e w2 ⟨rfl,hb2⟩
    have HO2:=ah (own_below HOW.out hb2)
    have HB2:=bth HBK hb2
    clear hb2
    go_wp2_with fail
    go_roundw
    case rel => exact ⟨k + 1,os,by omega,by go_num,by omega,HO2,HOO,HB2⟩
    case measure => simp [intOf];omega
   | inr t =>
    have htz:=ug htx
    rw [htx] at HTX
    dsimp only [iV] at HTX
    clear htx
    go_wp2_with fail
    refine HTX.out.mono ?_
    rintro e w1' ⟨rfl,hb1'⟩
    have HO1:=ah (own_below HOW.out hb1')
    have HB1':=ah (HBK.out.trans (hb1'.mono HBK.out.size))
    have HOR:=ah (jR t w1' (by omega))
    clear hb1'
    go_wp2_with fail
    refine HOR.out.mono ?_
    rintro e w2 ⟨hb2,hans⟩
    have HO2:=ah (own_below HO1.out hb2)
    have HB2:=ah (HB1'.out.trans (hb2.mono HB1'.out.size))
    have HT2:=ah (there_alloc (n:=2) w2 #[.int .i64 0,.string ⟨#[]⟩] 40 rfl)
    clear hb2
    obtain ⟨ok,ob,he,hri⟩:∃ (ok:Bool) (ob:Ob),e = .returned (.tuple #[.agg (obC ob).toArray,.bool ok]) ∧ (ok = true → aC ob = true):=by
     rcases hans with ⟨o,hro,he⟩ | ⟨hro,he⟩
     ·exact ⟨true,o,he,fun _ => dM hro⟩
     exact ⟨false,ob0,he,fun h => by cases h⟩
    subst he
    have HRI:=ah hri
    clear hans hri
    have HOC1:=ah (dx ob)
    obtain ⟨W3,hW3⟩:∃ W,(w2.alloc (.cells #[.int .i64 0,.string ⟨#[]⟩] 40)).setCells w2.heap.size 0 (obC ob) = W:=⟨_,rfl⟩
    have HBX3:Hid (BoxL W3 w2.heap.size 40 (obC ob)):=ah (by rw [← hW3];exact (BoxL.new w2 40 [.int .i64 0,.string ⟨#[]⟩]).set rfl)
    have hb3:Below w2.heap.size w2 W3:=by rw [← hW3];exact below_setCells _ (Nat.le_refl _) _ _ _ bal
    have HO3:=ah (own_below HO2.out hb3)
    have HB3:=bth HB2 hb3
    obtain ⟨ao3,cap3,e3,hom,hro3⟩:=(dD.rW HO3.out).open
    have hoa:oa = ao3:=by injection e3
    have HRO3:=ah hro3
    subst hoa
    have HW3:=ah hW3
    clear hW3 hb3 hro3 e3 hom
    have hosm:os.length ≤ 200:=by have:=HLL.out;omega
    go_upto_region 13 with (refine aj rfl 40 _ _ rfl w2.heap.size 0 (obC ob) rfl rfl 2 rfl HT2.out HIO.out HOC1.out ?_;rw [HW3.out])
    have hbx3:=HBX3.out
    have r30:=hbx3.range
    go_loopw [14,15] (fun th i wr => ∃ (m:Nat) (tb:Bool),m ≤ os.length ∧ i = .int .i64 (m:Int) ∧ th = .bool tb ∧ Hid (Below W3.heap.size W3 wr)) (fun _ i _ => (os.length - intOf i).toNat)
    case atStart => exact ⟨0,false,by omega,rfl,rfl,Below.refl _ _⟩
    obtain ⟨wi,rfl⟩:∃ wi:World,wi = wr:=⟨_,rfl⟩
    obtain ⟨m,tb,hm,rfl,rfl,HBI⟩:=hrel
    by_cases hltm:m < os.length
    ·have m0:(0:Int) ≤ m:=by omega
     have m1:(m:Int) < os.length:=by omega
     have wkm:IntKind.i64.wrap ((m:Int) + 1) = (m:Int) + 1:=IntWalk.i64_in _ (by omega)
     cases tb with
     | true =>
      go_wp2_with fail
      refine wbq ?_
      repeat (go_big_quiet_step (fail))
      refine wpQuiet_nil ?_
      intro wq hbq
      have HBI2:=bth HBI hbq
      clear hbq
      go_wp2_with fail
      go_roundw
      case rel => exact ⟨m + 1,true,by omega,by go_num,rfl,HBI2⟩
      case measure => simp [intOf];omega
     | false =>
      obtain ⟨bo,bof,hao,hbol,hboc⟩:=HRO3.out (by intro e;rw [e] at hltm;simp at hltm)
      subst hao
      have f1:=au (hboc m hltm) HBI.out hbol
      have f2:=au r30 HBI.out HBX3.out.lt
      have l1:bo < wi.heap.size:=Nat.lt_of_lt_of_le hbol HBI.out.size
      have l2:w2.heap.size < wi.heap.size:=Nat.lt_of_lt_of_le HBX3.out.lt HBI.out.size
      obtain ⟨xb,hxb⟩:∃ xb,∀ W,(Op.equalIn 10000 40 (.agg #[.int .i64 os[m].kind,.string os[m].body]) (.agg #[.int .i64 ob.kind,.string ob.body])).run prog W = .ok xb W:=⟨_,fun W => Aw _ _ _ _ W⟩
      have s1:(prog.info? 40).map (·.size) = some (obC os[m]).length:=aF
      have s2:(prog.info? 40).map (·.size) = some (obC ob).length:=aF
      unfold obC at f1 f2 s1 s2
      generalize os[m].kind = ka at f1 hxb s1
      generalize os[m].body = sa at f1 hxb s1
      generalize ob.kind = kb at f2 hxb s2
      generalize ob.body = sb at f2 hxb s2
      clear hboc hbol
      go_wp2_with fail
      refine wbq ?_
      repeat (go_big_quiet_step (fail))
      refine bg 40 _ _ rfl rfl rfl f1 (by omega) underlying40 rfl s1 ?_
      simp only [Act.put,nz]
      repeat (go_big_quiet_step (fail))
      refine bg 40 _ _ rfl rfl rfl f2 (by omega) underlying40 rfl s2 ?_
      simp only [Act.put,nz]
      repeat (go_big_quiet_step (fail))
      refine wpQuiet_nil ?_
      intro wq hbq
      have HBI2:=bth HBI hbq
      clear hbq f1 f2
      go_wp2_with fail
      go_roundw
      case rel => exact ⟨m + 1,_,by omega,by go_num,rfl,HBI2⟩
      case measure => simp [intOf];omega
    obtain rfl:m = os.length:=by omega
    have HOI:=ah (own_below HO3.out HBI.out)
    have HBI2:=ah (HB3.out.trans (HBI.out.mono HB3.out.size))
    have HXI:=ah (HBX3.out.below HBI.out)
    cases ok with
    | false =>
     go_wp2_with fail
     go_roundw
     case rel => exact ⟨k + 1,os,by omega,by go_num,by omega,HOI,HOO,HBI2⟩
     case measure => simp [intOf];omega
    | true =>
     cases tb with
     | true =>
      go_wp2_with fail
      go_roundw
      case rel => exact ⟨k + 1,os,by omega,by go_num,by omega,HOI,HOO,HBI2⟩
      case measure => simp [intOf];omega
     | false =>
      have hrr:=HXI.out.range
      have h2o:(prog.info? 40).map (·.size) = some (obC ob).length:=aF
      have HRB:=ah (HRI.out rfl)
      obtain ⟨W4,hW4⟩:∃ W,wi.alloc (.cells (obC ob).toArray 40) = W:=⟨_,rfl⟩
      have hb4:Below wi.heap.size wi W4:=by rw [← hW4];exact bal
      have HRN:Hid (W4.rangeAt wi.heap.size 0 (obC ob)):=ah (by rw [← hW4];exact (BoxL.new wi 40 (obC ob)).range)
      have HO4:=ah (own_below HOI.out hb4)
      have HB4:=bth HBI2 hb4
      have HW4:=ah hW4
      clear hW4 hb4
      generalize hco:obC ob = co at hrr h2o HRN HW4 HOC1
      have HCO:=ah hco
      have hcl:co.length = 2:=by rw [← hco];rfl
      have HCL:=ah hcl
      clear hco hcl
      go_wp2_with (first
       | (rw [HW4.out];refine bN _ rfl _ _ rfl w1.heap.size (.slice oa os.length oc) os.length (osV os) rfl HO4.out wi.heap.size ob rfl (by rw [HCO.out];exact HRN.out) (by omega) HB4.out.size ?_)
       | refine wpList_load_mid rfl 40 _ rfl w2.heap.size 0 rfl co _ hrr underlying40 rfl h2o ?_
       | (refine av rfl _ 32 40 rfl co #[.int .i64 0,.string ⟨#[]⟩] rfl underlying32 (fun w => by rw [HCL.out];kernel_rfl) (fun w => by kernel_rfl) (by rw [HCL.out];decide) (by rw [HCL.out];decide) ?_))
      intro v5 w5 hown5 hg5 _
      have HO5:Hid (w5.ownsRow w1.heap.size 40 2 v5 (os ++ [ob]).length (osV (os ++ [ob]))):=ah (by rw [Cy];simpa only [List.length_append,List.length_cons,List.length_nil] using hown5)
      have HB5:Hid (Below w1.heap.size w1 w5):=ah (HB4.out.grown hg5 HB4.out.size (fun j hj => (HO4.out.lt j hj).1))
      obtain ⟨vo5,vc5,rfl⟩:=ay hown5
      clear hown5 hg5
      go_wp2_with fail
      go_roundw
      case rel => exact ⟨k + 1,os ++ [ob],by omega,by go_num,by simp only [List.length_append,List.length_cons,List.length_nil];omega,HO5,HOO.out.snoc HRB.out,HB5⟩
      case measure => simp [intOf];omega
  obtain rfl:k = l.length:=by omega
  go_wp2_with fail
  go_ret
  exact ⟨_,os,rfl,dD.rW HOW.out,by have:=HLL.out;omega,HOO.out,HB1.out.trans (HBK.out.mono HB1.out.size)⟩
end
end Go.Proofs.YtijhemdnajlfnaaGreatDoor

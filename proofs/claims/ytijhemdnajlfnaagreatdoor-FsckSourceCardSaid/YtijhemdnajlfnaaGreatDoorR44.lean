/- A part of this claim. -/
import Derived.Test.YtijhemdnajlfnaaGreatDoorR43
namespace Go.Proofs.YtijhemdnajlfnaaGreatDoor
open Tryz
set_option maxHeartbeats 64000000
set_option maxRecDepth 100000
section
open Go.RowKit
def RowX (w:World) (v u:Value) (sz:Nat) (rows:List (List Value)):Prop:=aK w u sz rows ∧ (rows = [] ∨ ∀ g,u.ownBlock = some g → g < w.heap.size ∧ v.ownBlock ≠ some g)
theorem RowX.below {w w':World} {v u:Value} {sz:Nat} {rows:List (List Value)} (h:RowX w v u sz rows) (hb:Below w.heap.size w w'):RowX w' v u sz rows :=
 ⟨h.1.below hb,h.2.imp id fun h2 g hg => ⟨Nat.lt_of_lt_of_le (h2 g hg).1 hb.size,(h2 g hg).2⟩⟩
theorem RowX.append {w w':World} {v v' u:Value} {sz:Nat} {rows:List (List Value)} (h:RowX w v u sz rows) (hg:w.grownBy w' v.ownBlock) (hf:Fr w v v'):RowX w' v' u sz rows:=by
 obtain ⟨h1,h2⟩:=h
 obtain ⟨ao,cap,rfl,hm,h3⟩:=h1
 rcases h2 with rfl | h2
 ·exact ⟨⟨ao,cap,rfl,hm,fun h => absurd rfl h⟩,.inl rfl⟩
 refine ⟨⟨ao,cap,rfl,hm,fun hne => ?_⟩,.inr fun g e => ⟨Nat.lt_of_lt_of_le (h2 g e).1 hg.size,fun e2 => ?_⟩⟩
 ·obtain ⟨b,off,rfl,hb,hc⟩:=h3 hne
  exact ⟨b,off,rfl,Nat.lt_of_lt_of_le hb hg.size,fun i hi j u hu => hg.cell (hc i hi j u hu) (fun e => (h2 b rfl).2 e.symm)⟩
 rcases hf with hf | hf
 ·exact (h2 g e).2 (hf ▸ e2)
 have:=hf g e2
 have:=(h2 g e).1
 omega
theorem RowX.fresh {w w':World} {v u:Value} {sz:Nat} {rows:List (List Value)} (h:aK w' u sz rows) (hf:bB w u) (hv:∀ g,v.ownBlock = some g → g < w.heap.size):RowX w' v u sz rows:=by
 refine ⟨h,?_⟩
 obtain ⟨ao,cap,rfl,hm,h3⟩:=h
 by_cases hne:rows = []
 ·exact .inl hne
 refine .inr fun g e => ?_
 obtain ⟨b,off,rfl,hb,_⟩:=h3 hne
 have eg:b = g:=Option.some.inj e
 subst eg
 exact ⟨hb,fun e2 => by have:=hv b e2;have:=hf b rfl;omega⟩
def kr (B:Nat) (v:Value):Prop:=∀ g,v.ownBlock = some g → B ≤ g
theorem kr.le {B B':Nat} {v:Value} (h:kr B v) (hl:B' ≤ B):kr B' v:=fun g hg => Nat.le_trans hl (h g hg)
def OneC (B:Nat) (w:World) (v:Value) (p:Sp) (r:List Value):Prop:=∃ x1 i1 j1 x2 i2 j2 x3 i3 j3 x4 i4 j4,r = [.string p.stem,.string p.bytes,.slice x1 i1 j1,.slice x2 i2 j2,.slice x3 i3 j3,.slice x4 i4 j4] ∧
 RowX w v (.slice x1 i1 j1) 3 ((p.pk.parts.map (·.1)).map ptF) ∧ RowX w v (.slice x2 i2 j2) 1 ((p.pk.parts.map (·.2)).map fun k:Nat => [Value.int .i64 (k:Int)]) ∧ RowX w v (.slice x3 i3 j3) 2 (p.pk.obs.map obC) ∧ RowX w v (.slice x4 i4 j4) 32 ((p.pk.obs.map idO).map idC) ∧ kr B (.slice x1 i1 j1) ∧ kr B (.slice x2 i2 j2) ∧ kr B (.slice x3 i3 j3) ∧ kr B (.slice x4 i4 j4)
theorem OneC.below {B:Nat} {w w':World} {v:Value} {p:Sp} {r:List Value} (h:OneC B w v p r) (hb:Below w.heap.size w w'):OneC B w' v p r:=by
 obtain ⟨x1,i1,j1,x2,i2,j2,x3,i3,j3,x4,i4,j4,h0,h1,h2,h3,h4,hf⟩:=h
 exact ⟨x1,i1,j1,x2,i2,j2,x3,i3,j3,x4,i4,j4,h0,h1.below hb,h2.below hb,h3.below hb,h4.below hb,hf⟩
theorem OneC.append {B:Nat} {w w':World} {v v':Value} {p:Sp} {r:List Value} (h:OneC B w v p r) (hg:w.grownBy w' v.ownBlock) (hf:Fr w v v'):OneC B w' v' p r:=by
 obtain ⟨x1,i1,j1,x2,i2,j2,x3,i3,j3,x4,i4,j4,h0,h1,h2,h3,h4,h5⟩:=h
 exact ⟨x1,i1,j1,x2,i2,j2,x3,i3,j3,x4,i4,j4,h0,h1.append hg hf,h2.append hg hf,h3.append hg hf,h4.append hg hf,h5⟩
theorem OneC.le {B B':Nat} {w:World} {v:Value} {p:Sp} {r:List Value} (h:OneC B w v p r) (hl:B' ≤ B):OneC B' w v p r:=by
 obtain ⟨x1,i1,j1,x2,i2,j2,x3,i3,j3,x4,i4,j4,h0,h1,h2,h3,h4,f1,f2,f3,f4⟩:=h
 exact ⟨x1,i1,j1,x2,i2,j2,x3,i3,j3,x4,i4,j4,h0,h1,h2,h3,h4,f1.le hl,f2.le hl,f3.le hl,f4.le hl⟩
theorem OneC.len {B:Nat} {w:World} {v:Value} {p:Sp} {r:List Value} (h:OneC B w v p r):r.length = 6:=by
 obtain ⟨x1,i1,j1,x2,i2,j2,x3,i3,j3,x4,i4,j4,rfl,_⟩:=h;rfl
def sK (B:Nat) (w:World) (v:Value) (ps:List Sp) (rows:List (List Value)):Prop:=rows.length = ps.length ∧ ∀ i (h:i < rows.length) (h':i < ps.length),OneC B w v ps[i] rows[i]
theorem sK.below {B:Nat} {w w':World} {v:Value} {ps:List Sp} {rows:List (List Value)} (h:sK B w v ps rows) (hb:Below w.heap.size w w'):sK B w' v ps rows:=⟨h.1,fun i h1 h2 => (h.2 i h1 h2).below hb⟩
theorem sK.append {B:Nat} {w w':World} {v v':Value} {ps:List Sp} {rows:List (List Value)} {p:Sp} {r:List Value} (h:sK B w v ps rows) (h1:OneC B w v p r) (hg:w.grownBy w' v.ownBlock) (hf:Fr w v v'):sK B w' v' (ps ++ [p]) (rows ++ [r]):=by
 refine ⟨by simp [h.1],fun i h2 h3 => ?_⟩
 by_cases hi:i < rows.length
 ·have hi':i < ps.length:=by have:=h.1;omega
  rw [List.getElem_append_left hi,List.getElem_append_left hi']
  exact (h.2 i hi hi').append hg hf
 have hi2:i = rows.length:=by simp at h2;omega
 have hi3:i = ps.length:=by have:=h.1;omega
 rw [List.getElem_append_right (by omega),List.getElem_append_right (by omega)]
 simp only [List.getElem_singleton]
 exact h1.append hg hf
def jW (B:Nat) (w:World) (v:Value) (ps:List Sp):Prop:=∃ rows,aK w v 6 rows ∧ sK B w v ps rows ∧ kr B v
theorem jW.below {B:Nat} {w w':World} {v:Value} {ps:List Sp} (h:jW B w v ps) (hb:Below w.heap.size w w'):jW B w' v ps:=by
 obtain ⟨rows,h1,h2,h3⟩:=h
 exact ⟨rows,h1.below hb,h2.below hb,h3⟩
theorem jW.le {B B':Nat} {w:World} {v:Value} {ps:List Sp} (h:jW B w v ps) (hl:B' ≤ B):jW B' w v ps:=by
 obtain ⟨rows,h1,h2,h3⟩:=h
 exact ⟨rows,h1,⟨h2.1,fun i a b => (h2.2 i a b).le hl⟩,h3.le hl⟩
def Ld18 (W1:World) (ps:List Sp) (v:Value) (w:World):Prop:=∃ rows,w.ownsRow W1.heap.size 79 6 v ps.length rows.flatten ∧ sK W1.heap.size w v ps rows ∧ Below W1.heap.size W1 w
theorem Ld18.below {W1:World} {ps:List Sp} {v:Value} {w w':World} (h:Ld18 W1 ps v w) (hb:Below w.heap.size w w'):Ld18 W1 ps v w':=by
 obtain ⟨rows,h1,h2,h3⟩:=h
 exact ⟨rows,own_below h1 hb,h2.below hb,h3.trans (hb.mono h3.size)⟩
theorem Ld18.bel {W1:World} {ps:List Sp} {v:Value} {w:World} (h:Ld18 W1 ps v w):Below W1.heap.size W1 w:=by
 obtain ⟨_,_,_,h3⟩:=h
 exact h3
theorem Ld18.form {W1:World} {ps:List Sp} {v:Value} {w:World} (h:Ld18 W1 ps v w):∃ oa oc,v = .slice oa ps.length oc:=by
 obtain ⟨rows,h1,_⟩:=h
 exact ay h1
theorem Ld18.row {W1:World} {ps:List Sp} {v:Value} {w:World} (h:Ld18 W1 ps v w):jW W1.heap.size w v ps:=by
 obtain ⟨rows,h1,h2,h3⟩:=h
 refine ⟨rows,aK.aS (B:=W1.heap.size) (e:=79) (fun r hr => ?_) (by rw [h2.1];exact h1),h2,fun g hg => (h1.lt g hg).1⟩
 obtain ⟨i,hi,rfl⟩:=List.getElem_of_mem hr
 exact (h2.2 i hi (by rw [← h2.1];exact hi)).len
theorem NP:∃ i0:TypeInfo,prog.info? 79 = some i0 ∧ i0.zero = some (.agg #[.string ⟨#[]⟩,.string ⟨#[]⟩,.slice none 0 0,.slice none 0 0,.slice none 0 0,.slice none 0 0]) ∧ i0.size = 6 ∧ i0.bytes = 128:=⟨_,rfl,by kernel_rfl,by kernel_rfl,by kernel_rfl⟩
theorem qH {ops:Array Oper} {rest:List Oper} {o:Oper} {a:Act} {Q:Exit → Act → World → Prop} (w:World) (hg:o.guard = none) (s x:Operand) (hop:o.op = Op.call { callee:=Callee.builtin Builtin.append,args:=#[s,x],argTypes:=#[72,72] })
  (base:Nat) (v:Value) (n:Nat) (xs:List Value) (hs:a.eval s = v) (hown:w.ownsRow base 79 6 v n xs) (b:Nat) (r:List Value) (hr6:r.length = 6) (hr1:∀ u ∈ r,u.oneCell' = true) (hx:a.eval x = .slice (some ⟨b,0,none⟩) 1 1) (hr:w.rangeAt b 0 r) (hn:n ≤ 10000000) (hbase:base ≤ w.heap.size)
  (hK:∀ v' w',w'.ownsRow base 79 6 v' (n + 1) (xs ++ r) → w.grownBy w' v.ownBlock → Fr w v v' → wpList prog ops Q rest (a.put o.dst v') w'):wpList prog ops Q (o :: rest) a w:=by
 obtain ⟨i0,hi,hz0,hz1,hz2⟩:=NP
 refine aR w hg s x 72 hop base 79 i0 _ 6 128 underlying72 hi hz0 hz1 hz2 rfl (by decide) v n xs hs hown ⟨b,0,none⟩ 1 1 r hx (by rw [hr6]) (fun j u hu => ?_) hr1 (by unfold maxLen;omega) (by omega) hbase hK
 have:=hr j u hu
 rw [Addr.add_mid]
 exact this
theorem Jw (a b:ByteArray) (x1 x2 x3 x4:Option Addr) (i1 j1 i2 j2 i3 j3 i4 j4:Nat) (w:World):(Instr.build 79 #[(0,.string a),(1,.string b),(2,.agg #[.slice x1 i1 j1,.slice x2 i2 j2,.slice x3 i3 j3,.slice x4 i4 j4])]).run prog w = .ok (.agg #[.string a,.string b,.slice x1 i1 j1,.slice x2 i2 j2,.slice x3 i3 j3,.slice x4 i4 j4]) w:=run_build w 79 _ _ (by kernel_rfl)
theorem Nw {d:Dk} {nm:ByteArray} (h:pkNm nm = false):pkAt d nm = none:=by unfold pkAt;rw [h];rfl
theorem Ny {d:Dk} {nm s:ByteArray} (h:pkNm nm = true) (hs:d 1 nm = some s):pkAt d nm = match dJ s with
  | none => none
  | some p => some ⟨ofB (nm.data.toList.take 8),s,p⟩:=by unfold pkAt;rw [if_pos h,hs];rfl
theorem Cw {d:Dk} {l:List ByteArray} {k:Nat} (hk:k < l.length) (h:pkAt d l[k] = none):aO d (l.take (k + 1)) = aO d (l.take k):=by
 unfold aO
 rw [List.take_succ_eq_append_getElem hk,List.filterMap_append]
 simp [h]
theorem Cv {d:Dk} {l:List ByteArray} {k:Nat} {p:Sp} (hk:k < l.length) (h:pkAt d l[k] = some p):aO d (l.take (k + 1)) = aO d (l.take k) ++ [p]:=by
 unfold aO
 rw [List.take_succ_eq_append_getElem hk,List.filterMap_append]
 simp [h]
theorem yR (d:Dk) (l:List ByteArray):(aO d l).length ≤ l.length:=List.length_filterMap_le _ _
theorem K6 {d:Dk} {nm s:ByteArray} (hf:aX nm = true) (hs:d 1 nm = some s):rdD d bn nm = (s,0):=by
 unfold rdD
 rw [if_pos hf,show aP bn = some 1 from rfl]
 dsimp only
 rw [hs]
def pkB:ByteArray:=⟨#[46,112,97,99,107]⟩
theorem Jd {nm:ByteArray} (h:nm.size ≠ 13):pkNm nm = false:=by unfold pkNm;rw [decide_eq_false h];rfl
theorem Jc {nm:ByteArray} (h:8 ≤ nm.size) (he:nm.extract 8 nm.size ≠ pkB):pkNm nm = false:=by
 have e:=iA nm 8 h
 unfold pkNm
 rw [decide_eq_false (show ¬ nm.data.toList.drop 8 = bF from fun h => he (fC (by rw [e,h];rfl))),Bool.and_false,Bool.false_and]
theorem Li {nm:ByteArray} (h:nm.size = 13) (he:nm.extract 8 nm.size = pkB):pkNm nm = decide (numP nm.data.toList ≠ 0):=by
 have e:=iA nm 8 (by omega)
 unfold pkNm
 rw [decide_eq_true h,decide_eq_true (show nm.data.toList.drop 8 = bF by rw [← e,he];rfl),Az]
 rfl
theorem GJ:(prog.info? 77).map (·.size) = some 4:=by decide +kernel
theorem BZ (g:Nat) (l:List Fl) (w:World) (hD:RdAt w g l) (hd:∀ k nm s,datF l k nm = some s → s.size ≤ 1000000) (hl:l.length ≤ 1000000):Calls prog 21 #[.pointer (some ⟨g,0,none⟩)] w fun e w' => ∃ v,e = .returned v ∧ jW w.heap.size w' v (aO (datF l) (namF l 1)) ∧ Below w.heap.size w w':=by
 have HLI:=ah (rR g l ⟨#[112,97,99,107]⟩ 1 w hD rfl hl)
 have HD:=ah hD
 have HSZ:=ah hd
 have hnl:(namF l 1).length ≤ 1000000:=Nat.le_trans (iX l 1) hl
 have HFN:Hid (∀ x ∈ namF l 1,aX x = true):=ah (fun x hx => qW hx)
 have HMM:Hid (∀ x,x ∈ namF l 1 ↔ (datF l 1 x).isSome = true):=ah (fun x => jF l 1 x)
 have HIP:=ah GJ
 clear hD hd hl
 obtain ⟨d,hdd⟩:∃ d,datF l = d:=⟨_,rfl⟩
 have HDD:=ah hdd
 rw [hdd] at HSZ HMM
 clear hdd
 obtain ⟨ns,hns⟩:∃ ns,namF l 1 = ns:=⟨_,rfl⟩
 rw [hns] at HLI hnl HFN HMM
 have HGOAL:Hid (aO (datF l) (namF l 1) = aO d ns):=ah (by rw [HDD.out,hns])
 clear hns
 go_enter func21,ntmps21
 go_wp2_with fail
 refine HLI.out.mono ?_
 rintro e w1 ⟨v,rfl,hv,hb1⟩
 have hv1:=hv
 obtain ⟨ao,cap,rfl,hmx,_⟩:=hv1
 have HV:=ah hv
 have HB1:=ah hb1
 have HD1:=ah (HD.out.below hb1)
 clear hv hb1 hmx
 go_wp2_with fail
 go_loopw [3,5,6,7,8,9] (fun ov i _ _ _ _ wr => ∃ k:Nat,k ≤ ns.length ∧ i = .int .i64 (k:Int) ∧ Hid (Ld18 w1 (aO d (ns.take k)) ov wr)) (fun _ i _ _ _ _ _ => (ns.length - intOf i).toNat)
 case atStart => exact ⟨0,by omega,rfl,[],World.ownsRow_nil _ _ _ _,⟨rfl,fun i h => by cases h⟩,Below.refl _ _⟩
 obtain ⟨wo,rfl⟩:∃ wo:World,wo = wr:=⟨_,rfl⟩
 obtain ⟨k,hk,rfl,HS⟩:=hrel
 by_cases hlt:k < ns.length
 ·obtain ⟨ao2,cap2,e2,_,hv2⟩:=HV.out.below HS.out.bel
  cases e2
  obtain ⟨b,off,rfl,hbl,hcell⟩:=hv2 (by intro e;rw [e] at hlt;simp at hlt)
  have k0:(0:Int) ≤ k:=by omega
  have k1:(k:Int) < ns.length:=by omega
  have wk:IntKind.i64.wrap ((k:Int) + 1) = (k:Int) + 1:=IntWalk.i64_in _ (by omega)
  have HCE:Hid (∀ W,Below w1.heap.size w1 W → W.cell? ⟨b,off + k,none⟩ = some (.string ns[k])):=ah (fun W hW => by
   obtain ⟨ao3,cap3,e3,_,hv3⟩:=HV.out.below hW
   obtain ⟨b3,off3,e4,_,hc3⟩:=hv3 (by intro e;rw [e] at hlt;simp at hlt)
   subst e4
   cases e3
   exact hc3 k hlt)
  have HN:Hid (pkAt d ns[k] = none → aO d (ns.take (k + 1)) = aO d (ns.take k)):=ah (Cw hlt)
  have HY:Hid (∀ p,pkAt d ns[k] = some p → aO d (ns.take (k + 1)) = aO d (ns.take k) ++ [p]):=ah (fun p => Cv hlt)
  have hmem:=List.getElem_mem hlt
  have hfin:=HFN.out _ hmem
  obtain ⟨s,hs⟩:∃ s,d 1 ns[k] = some s:=Option.isSome_iff_exists.1 ((HMM.out _).1 hmem)
  have hsz:=HSZ.out 1 _ s hs
  have hnz:=lJ hfin
  have hrd:=K6 hfin hs
  have HPN:=ah (Nw (d:=d) (nm:=ns[k]))
  have HPI:=ah (fun (h:pkNm ns[k] = true) => Ny (d:=d) h hs)
  have hxl:(aO d (ns.take k)).length ≤ 1000000:=Nat.le_trans (yR d _) (by rw [List.length_take];omega)
  clear hcell hv2 hmem hs
  generalize pkAt d ns[k] = pa at HN HY HPN HPI
  generalize ns[k] = nm at HCE hfin hnz hrd HPN HPI
  generalize aO d (ns.take k) = ps at HS HN HY hxl
  have c0:=HCE.out wo HS.out.bel
  have HNB:=ah (fun W => IJ nm W (by omega))
  obtain ⟨nu,hnu⟩:∃ nu,numP nm.data.toList = nu:=⟨_,rfl⟩
  obtain ⟨oa,oc,rfl⟩:=HS.out.form
  by_cases h13:nm.size = 13
  ·have HP13:=ah (Li h13)
   have HT13:=ah (Jc (nm:=nm) (by omega))
   have hsl:=fun w => ou nm 8 (by omega) w
   have hcmp:=rD (nm.extract 8 nm.size) pkB
   rw [show ((8:Nat):Int) = 8 from rfl] at hsl
   rw [show pkB.toList = [46,112,97,99,107] from by rw [ByteArray.toList_eq];rfl] at hcmp
   generalize nm.extract 8 nm.size = t at HP13 HT13 hsl hcmp
   have d13:(nm.size:Int) = 13:=by omega
   by_cases ht:t = pkB
   ·have HP:=ah (HP13.out ht)
    rw [hnu] at HP HNB
    rw [decide_eq_true ht] at hcmp
    clear HP13 HT13 ht hnu h13
    by_cases hn0:nu = 0
    ·have HE:=ah (HN.out (HPN.out (by rw [HP.out,hn0];rfl)))
     subst hn0
     clear HP HPN HPI
     go_wp2_with fail
     refine (HNB.out _).mono ?_
     rintro e w2 ⟨rfl,hb2⟩
     have HS2:=ah (HS.out.below hb2)
     clear hb2
     go_wp2_with fail
     go_roundw
     case rel => exact ⟨k + 1,by omega,by go_num,by rw [HE.out];exact HS2.out⟩
     case measure => simp [intOf];omega
    have HPA:=ah (HPI.out (by rw [HP.out,decide_eq_true hn0]))
    have dn:¬ (nu:Int) = 0:=by omega
    clear HP HPN HPI hn0
    go_wp2_with fail
    refine (HNB.out _).mono ?_
    rintro e w2 ⟨rfl,hb2⟩
    have HS2:=ah (HS.out.below hb2)
    have c2:=HCE.out w2 HS2.out.bel
    have HRD:Hid (Calls prog 44 #[.pointer (some ⟨g,0,none⟩),.string ⟨#[112,97,99,107]⟩,.string nm] w2 (lN d bn nm w2)):=ah (by rw [← HDD.out];exact rO g l bn nm w2 (HD1.out.below HS2.out.bel) (by omega))
    clear hb2
    go_wp2_with fail
    refine HRD.out.mono ?_
    rintro e w3 ⟨rfl,hb3⟩
    rw [hrd]
    dsimp only
    have HS3:=ah (HS2.out.below hb3)
    have HRO:=ah (BX s w3 hsz)
    unfold Bh at HRO
    clear hb3 hrd
    go_wp2_with fail
    refine HRO.out.mono ?_
    rintro e w4 ⟨ha,hb4⟩
    have HS4:=ah (HS3.out.below hb4)
    cases ho:dJ s with
    | none =>
     rw [ho] at ha HPA
     dsimp only at ha HPA
     have HE:=ah (HN.out HPA.out)
     obtain ⟨x1,i1,j1,x2,i2,j2,x3,i3,j3,x4,i4,j4,rfl⟩:=ha
     clear hb4 ho HRO
     have HT4:=ah (there_alloc (n:=4) w4 #[.slice none 0 0,.slice none 0 0,.slice none 0 0,.slice none 0 0] 77 rfl)
     obtain ⟨W5,hW5⟩:∃ W,(w4.alloc (.cells #[.slice none 0 0,.slice none 0 0,.slice none 0 0,.slice none 0 0] 77)).setCells w4.heap.size 0 [.slice x1 i1 j1,.slice x2 i2 j2,.slice x3 i3 j3,.slice x4 i4 j4] = W:=⟨_,rfl⟩
     have HX5:Hid (BoxL W5 w4.heap.size 77 [.slice x1 i1 j1,.slice x2 i2 j2,.slice x3 i3 j3,.slice x4 i4 j4]):=ah (by rw [← hW5];exact (BoxL.new w4 77 [.slice none 0 0,.slice none 0 0,.slice none 0 0,.slice none 0 0]).set rfl)
     have hb5:Below w4.heap.size w4 W5:=by rw [← hW5];exact below_setCells _ (Nat.le_refl _) _ _ _ bal
     have HS5:=ah (HS4.out.below hb5)
     have HB5:=ah hb5
     have HW5:=ah hW5
     clear hW5 hb5
     go_upto_region 9 with (refine aj rfl 77 _ _ rfl w4.heap.size 0 [.slice x1 i1 j1,.slice x2 i2 j2,.slice x3 i3 j3,.slice x4 i4 j4] rfl rfl 4 rfl HT4.out HIP.out (by intro v hv;simp at hv;rcases hv with rfl | rfl | rfl | rfl <;> rfl) ?_;rw [HW5.out])
     go_wp2_with fail
     go_roundw
     case rel => exact ⟨k + 1,by omega,by go_num,by rw [HE.out];exact HS5.out⟩
     case measure => simp [intOf];omega
    | some p =>
     rw [ho] at ha HPA
     dsimp only at ha HPA
     have HE:=ah (HY.out _ HPA.out)
     obtain ⟨cs,rfl,hpk,hfr⟩:=ha
     obtain ⟨x1,i1,j1,x2,i2,j2,x3,i3,j3,x4,i4,j4,rfl,hp1,hp2,hp3,hp4⟩:=hpk
     have hvl:∀ g,(Value.slice oa ps.length oc).ownBlock = some g → g < w3.heap.size:=fun g hg => by
      obtain ⟨rows,h1,_⟩:=HS3.out
      exact (h1.lt g hg).2
     have hw3:=HS3.out.bel.size
     have HOC4:Hid (∀ st:ByteArray,OneC w1.heap.size w4 (.slice oa ps.length oc) ⟨st,s,p⟩ [.string st,.string s,.slice x1 i1 j1,.slice x2 i2 j2,.slice x3 i3 j3,.slice x4 i4 j4]):=ah (fun st => ⟨x1,i1,j1,x2,i2,j2,x3,i3,j3,x4,i4,j4,rfl,RowX.fresh hp1 (hfr _ (by simp)) hvl,RowX.fresh hp2 (hfr _ (by simp)) hvl,RowX.fresh hp3 (hfr _ (by simp)) hvl,RowX.fresh hp4 (hfr _ (by simp)) hvl,fun g hg => Nat.le_trans hw3 (hfr _ (by simp) g hg),fun g hg => Nat.le_trans hw3 (hfr _ (by simp) g hg),fun g hg => Nat.le_trans hw3 (hfr _ (by simp) g hg),fun g hg => Nat.le_trans hw3 (hfr _ (by simp) g hg)⟩)
     clear hb4 ho HRO hp1 hp2 hp3 hp4 hfr hvl hw3
     have HT4:=ah (there_alloc (n:=4) w4 #[.slice none 0 0,.slice none 0 0,.slice none 0 0,.slice none 0 0] 77 rfl)
     obtain ⟨W5,hW5⟩:∃ W,(w4.alloc (.cells #[.slice none 0 0,.slice none 0 0,.slice none 0 0,.slice none 0 0] 77)).setCells w4.heap.size 0 [.slice x1 i1 j1,.slice x2 i2 j2,.slice x3 i3 j3,.slice x4 i4 j4] = W:=⟨_,rfl⟩
     have HX5:Hid (BoxL W5 w4.heap.size 77 [.slice x1 i1 j1,.slice x2 i2 j2,.slice x3 i3 j3,.slice x4 i4 j4]):=ah (by rw [← hW5];exact (BoxL.new w4 77 [.slice none 0 0,.slice none 0 0,.slice none 0 0,.slice none 0 0]).set rfl)
     have hb5:Below w4.heap.size w4 W5:=by rw [← hW5];exact below_setCells _ (Nat.le_refl _) _ _ _ bal
     have HS5:=ah (HS4.out.below hb5)
     have HB5:=ah hb5
     have HW5:=ah hW5
     clear hW5 hb5
     go_upto_region 9 with (refine aj rfl 77 _ _ rfl w4.heap.size 0 [.slice x1 i1 j1,.slice x2 i2 j2,.slice x3 i3 j3,.slice x4 i4 j4] rfl rfl 4 rfl HT4.out HIP.out (by intro v hv;simp at hv;rcases hv with rfl | rfl | rfl | rfl <;> rfl) ?_;rw [HW5.out])
     go_wp2_with fail
     have hsl8:=fun w => slice_head nm 8 (by omega) w
     rw [show ((8:Nat):Int) = 8 from rfl] at hsl8
     have hst:ofB (nm.data.toList.take 8) = nm.extract 0 8:=fC (by rw [aW,jr])
     rw [hst] at HE
     clear hst
     generalize nm.extract 0 8 = st at hsl8 HE
     have hbd:=fun w => Jw st s x1 x2 x3 x4 i1 j1 i2 j2 i3 j3 i4 j4 w
     have h4:(prog.info? 77).map (·.size) = some ([.slice x1 i1 j1,.slice x2 i2 j2,.slice x3 i3 j3,.slice x4 i4 j4]:List Value).length:=GJ
     have HSS:Hid (∀ W,Below W5.heap.size W5 W → W.cell? ⟨b,off + k,none⟩ = some (.string nm) ∧ W.rangeAt w4.heap.size 0 [.slice x1 i1 j1,.slice x2 i2 j2,.slice x3 i3 j3,.slice x4 i4 j4]):=ah (fun W hW => ⟨HCE.out W (HS5.out.bel.trans (hW.mono HS5.out.bel.size)),(HX5.out.below hW).range⟩)
     have hS0:=HSS.out W5.drew (Below.refl _ _).drew
     have HBD:=ah hbd
     clear hbd c0 c2
     refine wrL 11 (fun w' => w'.cell? ⟨b,off + k,none⟩ = some (.string nm) ∧ w'.rangeAt w4.heap.size 0 [.slice x1 i1 j1,.slice x2 i2 j2,.slice x3 i3 j3,.slice x4 i4 j4]) ?_
     refine WL.tk 0 hS0 ?_
     refine WL.tk 1 hS0 ?_
     refine WL.tk 2 hS0 ?_
     refine WL.tk 3 hS0 ?_
     refine WL.tk 4 hS0 ?_
     refine WL.tk 5 hS0 ?_
     refine WL.tk 6 hS0 ?_
     refine WL.tk 7 hS0 ?_ (hy:=(fun w' hSw => iB 77 _ (hSw.2) underlying77 rfl h4 _ rfl rfl))
     have hbd:=HBD.out
     refine WL.tk 8 hS0 ?_
     clear hbd
     refine WL.on 9 ?_
     go_wp2_with (refine av rfl _ 72 79 rfl [.string st,.string s,.slice x1 i1 j1,.slice x2 i2 j2,.slice x3 i3 j3,.slice x4 i4 j4] #[.string ⟨#[]⟩,.string ⟨#[]⟩,.slice none 0 0,.slice none 0 0,.slice none 0 0,.slice none 0 0] rfl underlying72 (fun w => by kernel_rfl) (fun w => by kernel_rfl) (by simp) (by simp) ?_)
     have hb9:Below W5.heap.size W5 (W5.drew.alloc (.cells [.string st,.string s,.slice x1 i1 j1,.slice x2 i2 j2,.slice x3 i3 j3,.slice x4 i4 j4].toArray 79)):=(Below.refl _ _).drew.alloc (Nat.le_refl _) _
     have hrn:(W5.drew.alloc (.cells [.string st,.string s,.slice x1 i1 j1,.slice x2 i2 j2,.slice x3 i3 j3,.slice x4 i4 j4].toArray 79)).rangeAt W5.heap.size 0 [.string st,.string s,.slice x1 i1 j1,.slice x2 i2 j2,.slice x3 i3 j3,.slice x4 i4 j4]:=(BoxL.new W5.drew 79 [.string st,.string s,.slice x1 i1 j1,.slice x2 i2 j2,.slice x3 i3 j3,.slice x4 i4 j4]).range
     obtain ⟨W9,hW9⟩:∃ W,W5.drew.alloc (.cells [.string st,.string s,.slice x1 i1 j1,.slice x2 i2 j2,.slice x3 i3 j3,.slice x4 i4 j4].toArray 79) = W:=⟨_,rfl⟩
     rw [hW9] at hb9 hrn ⊢
     have hS9:=HSS.out W9 hb9
     refine ⟨hS9,?_⟩
     have HS9:=ah (HS5.out.below hb9)
     have HOC9:=ah (((HOC4.out st).below HB5.out).below hb9)
     have HRN:=ah hrn
     have HB9:=ah hb9
     clear hW9 hb9 hrn hS9
     refine WL.on 10 ?_
     obtain ⟨rows,hown,hones,hbel⟩:=HS9.out
     have HOW:=ah hown
     have HON:=ah hones
     have HBE:=ah hbel
     clear hown hones hbel
     go_wp2_with (refine qH _ rfl _ _ rfl w1.heap.size (.slice oa ps.length oc) ps.length rows.flatten rfl HOW.out W5.heap.size [.string st,.string s,.slice x1 i1 j1,.slice x2 i2 j2,.slice x3 i3 j3,.slice x4 i4 j4] rfl (by intro v hv;simp at hv;rcases hv with rfl | rfl | rfl | rfl | rfl | rfl <;> rfl) rfl HRN.out (by omega) HBE.out.size ?_)
     intro v10 w10 hown10 hg10 hf10
     have HEND:Hid (Ld18 w1 (ps ++ [⟨st,s,p⟩]) v10 w10):=ah ⟨rows ++ [[.string st,.string s,.slice x1 i1 j1,.slice x2 i2 j2,.slice x3 i3 j3,.slice x4 i4 j4]],by simpa only [List.length_append,List.length_cons,List.length_nil,List.flatten_append,List.flatten_cons,List.flatten_nil,List.append_nil] using hown10,HON.out.append HOC9.out hg10 hf10,HBE.out.grown hg10 HBE.out.size (fun j hj => (HOW.out.lt j hj).1)⟩
     have hS10:w10.cell? ⟨b,off + k,none⟩ = some (.string nm) ∧ w10.rangeAt w4.heap.size 0 [.slice x1 i1 j1,.slice x2 i2 j2,.slice x3 i3 j3,.slice x4 i4 j4]:=⟨HCE.out w10 HEND.out.bel,by
      have h1:=(HX5.out.below HB9.out).kept hg10 (fun e => Gw HOW.out (HX5.out.below HB9.out) (by decide) e.symm)
      exact h1.range⟩
     obtain ⟨oa',oc',rfl⟩:=ay hown10
     clear hown10 hg10 hf10
     go_wp2
     refine ⟨hS10,?_⟩
     refine WL.la 11 ?_
     clear hS10 hS0
     go_wp2_with fail
     go_roundw
     case rel => exact ⟨k + 1,by omega,by go_num,by rw [HE.out];exact HEND.out⟩
     case measure => simp [intOf];omega
   have HE:=ah (HN.out (HPN.out (HT13.out ht)))
   rw [decide_eq_false ht] at hcmp
   clear HP13 HT13 ht hnu h13 HPN HPI
   go_wp2_with fail
   go_roundw
   case rel => exact ⟨k + 1,by omega,by go_num,by rw [HE.out];exact HS.out⟩
   case measure => simp [intOf];omega
  have HE:=ah (HN.out (HPN.out (Jd h13)))
  have d13:¬ (nm.size:Int) = 13:=by omega
  clear hnu h13 HPN HPI
  go_wp2_with fail
  go_roundw
  case rel => exact ⟨k + 1,by omega,by go_num,by rw [HE.out];exact HS.out⟩
  case measure => simp [intOf];omega
 obtain rfl:k = ns.length:=by omega
 rw [List.take_length] at HS
 generalize aO d ns = ps at HS HGOAL
 obtain ⟨oa,oc,rfl⟩:=HS.out.form
 go_wp2_with fail
 go_ret
 exact ⟨_,rfl,by rw [HGOAL.out];exact HS.out.row.le HB1.out.size,HB1.out.trans (HS.out.bel.mono HB1.out.size)⟩
theorem kD {P:Program} {w:World} {ops:Array Oper} {rest:List Oper} {o:Oper} {a:Act} {Q:Exit → Act → World → Prop} (hgd:o.guard = none) (s x:Operand) (t:TypeId)
  (ho:o.op = .call { callee:=.builtin .append,args:=#[s,x],argTypes:=#[t,t] })
  (base:Nat) (e:TypeId) (i:TypeInfo) (z:Value) (size bytes:Nat) (ht:P.underlying t = some (.slice e)) (hi:P.info? e = some i) (hz:i.zero = some z)
  (hsize:i.size = size) (hby:i.bytes = bytes) (hzs:z.cells.size = size) (hsz:0 < size)
  (v:Value) (n:Nat) (xs:List Value) (hs:a.eval s = v) (hown:w.ownsRow base e size v n xs)
  (ao:Option Addr) (m c:Nat) (news:List Value) (hx:a.eval x = .slice ao m c) (hl:news.length = m * size) (hnews:0 < m → ∃ ad,ao = some ad ∧ ∀ j u,news[j]? = some u → w.cell? (ad.add j) = some u) (h1:∀ u ∈ news,u.oneCell' = true)
  (h63:n + m ≤ maxLen) (hbytes:(n + m) * bytes ≤ 140737488355328) (hbase:base ≤ w.heap.size)
  (h:∀ v' w',w'.ownsRow base e size v' (n + m) (xs ++ news) → w.grownBy w' v.ownBlock → Fr w v v' → wpList P ops Q rest (a.put o.dst v') w'):wpList P ops Q (o :: rest) a w:=by
 rcases Nat.eq_zero_or_pos m with rfl | hm
 ·obtain rfl:news = []:=List.eq_nil_of_length_eq_zero (by simpa using hl)
  rw [List.append_nil,Nat.add_zero] at h
  rcases hown.2 with ⟨rfl,rfl⟩ | ⟨g,cap,cur,rfl,_,_,hn,_⟩
  ·refine wpList_plain hgd fun K hK' => ?_
   have hrun:=run_append_nil (P:=P) w t o.type e i ht hi ao c
   unfold Oper.wp
   simp [execOp,ho,resolve,invoke,builtin,hs,hx,hrun,Result.andThen]
   exact hK' _ _ (h _ w hown (World.grownBy.refl w _) (Fr.refl _ _))
  refine wpList_plain hgd fun K hK' => ?_
  have hrun:(Builtin.append_ #[t,t] o.type #[.slice (some ⟨g,0,none⟩) n cap,.slice ao 0 c]).run P w = .ok (.slice (some ⟨g,0,none⟩) n cap) w:=by
   cases ao <;> simp [Builtin.append_,run_underlying ht,sizeOf,typeInfo,hi,Builtin.lenOf,Builtin.firstCells,loadCells,loadCellsFrom,hn,storeCells]
  unfold Oper.wp
  simp [execOp,ho,resolve,invoke,builtin,hs,hx,hrun,Result.andThen]
  exact hK' _ _ (h _ w hown (World.grownBy.refl w _) (Fr.refl _ _))
 obtain ⟨ad,rfl,hc⟩:=hnews hm
 exact aR w hgd s x t ho base e i z size bytes ht hi hz hsize hby hzs hsz v n xs hs hown ad m c news hx hl hc h1 h63 hbytes hbase h
theorem Mg (a b:List (List UInt8)):idsV (a ++ b) = idsV a ++ idsV b:=by simp [idsV]
theorem Mf {l:List (List UInt8)} (h:∀ x ∈ l,x.length = 32):(idsV l).length = l.length * 32:=by
 unfold idsV
 induction l with
 | nil => rfl
 | cons p l ih =>
  rw [List.map_cons,List.flatten_cons,List.length_append,ih (fun x hx => h x (List.mem_cons_of_mem _ hx)),List.length_cons,aD,h p (by simp)]
  omega
theorem oQ {ops:Array Oper} {rest:List Oper} {o:Oper} {a:Act} {Q:Exit → Act → World → Prop} (w:World) (hg:o.guard = none) (s x:Operand) (hop:o.op = Op.call { callee:=Callee.builtin Builtin.append,args:=#[s,x],argTypes:=#[32,32] })
  (base:Nat) (v:Value) (n:Nat) (xs:List Value) (hs:a.eval s = v) (hown:w.ownsRow base 40 2 v n xs) (vx:Value) (os:List Ob) (hx:a.eval x = vx) (hr:dD w vx os) (hn:n + os.length ≤ 1000000) (hbase:base ≤ w.heap.size)
  (hK:∀ v' w',w'.ownsRow base 40 2 v' (n + os.length) (xs ++ osV os) → w.grownBy w' v.ownBlock → Fr w v v' → wpList prog ops Q rest (a.put o.dst v') w'):wpList prog ops Q (o :: rest) a w:=by
 obtain ⟨i0,hi,hz0,hz1,hz2⟩:=info_parts vQ
 obtain ⟨ao,cap,rfl,hm,hcell⟩:=hr.open
 refine kD (P:=prog) hg s x 32 hop base 40 i0 _ 2 24 underlying32 hi hz0 hz1 hz2 rfl (by decide) v n xs hs hown ao os.length cap (osV os) hx (Gx os) (fun h0 => ?_) (fun u hu => ?_) (by unfold maxLen;omega) (by omega) hbase hK
 ·obtain ⟨b,off,rfl,_,hc⟩:=hcell (by intro e;rw [e] at h0;simp at h0)
  refine ⟨_,rfl,fun j u hu => ?_⟩
  rw [Addr.add_mid]
  exact mZ (sz:=2) (rows:=os.map obC) (fun r hr => by obtain ⟨p,_,rfl⟩:=List.mem_map.1 hr;rfl) (fun k hk => by
   have:=hc k (by simpa using hk)
   rwa [List.getElem_map]) j u hu
 unfold osV at hu
 obtain ⟨r,hr,hu⟩:=List.mem_flatten.1 hu
 obtain ⟨p,_,rfl⟩:=List.mem_map.1 hr
 exact dx p u hu
theorem oU {ops:Array Oper} {rest:List Oper} {o:Oper} {a:Act} {Q:Exit → Act → World → Prop} (w:World) (hg:o.guard = none) (s x:Operand) (hop:o.op = Op.call { callee:=Callee.builtin Builtin.append,args:=#[s,x],argTypes:=#[33,33] })
  (base:Nat) (v:Value) (n:Nat) (xs:List Value) (hs:a.eval s = v) (hown:w.ownsRow base 24 32 v n xs) (vx:Value) (ps:List (List UInt8)) (hps:∀ x ∈ ps,x.length = 32) (hx:a.eval x = vx) (hr:bD w vx ps) (hn:n + ps.length ≤ 1000000) (hbase:base ≤ w.heap.size)
  (hK:∀ v' w',w'.ownsRow base 24 32 v' (n + ps.length) (xs ++ idsV ps) → w.grownBy w' v.ownBlock → Fr w v v' → wpList prog ops Q rest (a.put o.dst v') w'):wpList prog ops Q (o :: rest) a w:=by
 obtain ⟨zi,i0,hi,hz0,hz1,hz2,_,hzl⟩:=gH
 obtain ⟨ao,cap,rfl,hm,hcell⟩:=hr.open
 refine kD (P:=prog) hg s x 33 hop base 24 i0 _ 32 32 underlying33 hi hz0 hz1 hz2 hzl (by decide) v n xs hs hown ao ps.length cap (idsV ps) hx (Mf hps) (fun h0 => ?_) (fun u hu => ?_) (by unfold maxLen;omega) (by omega) hbase hK
 ·obtain ⟨b,off,rfl,_,hc⟩:=hcell (by intro e;rw [e] at h0;simp at h0)
  refine ⟨_,rfl,fun j u hu => ?_⟩
  rw [Addr.add_mid]
  exact mZ (sz:=32) (rows:=ps.map idC) (fun r hr => by obtain ⟨p,hp,rfl⟩:=List.mem_map.1 hr;rw [aD,hps p hp]) (fun k hk => by
   have:=hc k (by simpa using hk)
   rwa [List.getElem_map]) j u hu
 unfold idsV at hu
 obtain ⟨r,hr,hu⟩:=List.mem_flatten.1 hu
 obtain ⟨p,_,rfl⟩:=List.mem_map.1 hr
 exact bX p u hu
structure G24 (w0:World) (lo:Nat) (wm:World) (os:List Ob) (xs:List (List UInt8)) (vl vi:Value) (w:World):Prop where
 res:BoxL w w0.heap.size 35 [.slice none 0 0,.slice none 0 0]
 src:BoxL w (w0.heap.size + 1) 35 [vl,vi]
 ol:w.ownsRow (w0.heap.size + 2) 40 2 vl os.length (osV os)
 oi:w.ownsRow (w0.heap.size + 2) 24 32 vi xs.length (idsV xs)
 bel:Below w0.heap.size w0 w
 chg:Chg (fun b => b < lo) wm w
 okl:∀ g,vl.ownBlock = some g → g < lo ∨ wm.heap.size ≤ g
 oki:∀ g,vi.ownBlock = some g → g < lo ∨ wm.heap.size ≤ g
 len:∀ x ∈ xs,x.length = 32
 low:w0.heap.size + 2 ≤ lo
theorem G24.below {w0:World} {lo:Nat} {wm:World} {os:List Ob} {xs:List (List UInt8)} {vl vi:Value} {w w':World} (h:G24 w0 lo wm os xs vl vi w) (hb:Below w.heap.size w w'):G24 w0 lo wm os xs vl vi w' :=
 ⟨h.res.below hb,h.src.below hb,own_below h.ol hb,own_below h.oi hb,h.bel.trans (hb.mono h.bel.size),h.chg.trans (Chg.of_below hb),h.okl,h.oki,h.len,h.low⟩
theorem G24.turn {w0:World} {lo lo':Nat} {wm wm':World} {os:List Ob} {xs:List (List UInt8)} {vl vi:Value} {w:World} (h:G24 w0 lo wm os xs vl vi w) (hb:Below w.heap.size w wm') (hl:w.heap.size ≤ lo') (h2:w0.heap.size + 2 ≤ lo'):G24 w0 lo' wm' os xs vl vi wm' :=
 ⟨h.res.below hb,h.src.below hb,own_below h.ol hb,own_below h.oi hb,h.bel.trans (hb.mono h.bel.size),Chg.refl _ _,fun g hg => .inl (Nat.lt_of_lt_of_le (h.ol.lt g hg).2 hl),fun g hg => .inl (Nat.lt_of_lt_of_le (h.oi.lt g hg).2 hl),h.len,h2⟩
theorem Ov {w wm:World} {lo:Nat} {v v':Value} (h:∀ g,v.ownBlock = some g → g < lo ∨ wm.heap.size ≤ g) (hf:Fr w v v') (hs:wm.heap.size ≤ w.heap.size):∀ g,v'.ownBlock = some g → g < lo ∨ wm.heap.size ≤ g:=fun g hg => by
 rcases hf with hf | hf
 ·exact h g (hf ▸ hg)
 exact .inr (Nat.le_trans hs (hf g hg))
theorem jI {w w' wm:World} {lo:Nat} {v:Value} (h:Chg (fun b => b < lo) wm w) (hok:∀ g,v.ownBlock = some g → g < lo ∨ wm.heap.size ≤ g) (hg:w.grownBy w' v.ownBlock):Chg (fun b => b < lo) wm w' :=
 ⟨hg.os.trans h.os,hg.tape.trans h.tape,hg.output.trans h.output,Nat.le_trans h.size hg.size,fun k hk hs => (hg.block k (Nat.lt_of_lt_of_le hk h.size) (fun e => by
  rcases hok k e.symm with h1 | h1
  ·exact hs h1
  omega)).trans (h.block k hk hs)⟩
theorem nL {w:World} {b:Nat} {t:TypeId} {x y:Value} (h:BoxL w b t [x,y]):w.cell? ⟨b,0,none⟩ = some x ∧ w.frozen? ⟨b,0,none⟩ = false:=⟨h.range 0 _ rfl,by have:=(h.there 0 (by show 0 < 2;omega)).2;rwa [Nat.zero_add] at this⟩
theorem iQ {w:World} {b:Nat} {t:TypeId} {x y:Value} (h:BoxL w b t [x,y]):w.cell? ⟨b,1,none⟩ = some y ∧ w.frozen? ⟨b,1,none⟩ = false:=⟨h.range 1 _ rfl,by have:=(h.there 1 (by show 1 < 2;omega)).2;rwa [Nat.zero_add] at this⟩
theorem jS {w w':World} {B b sz n:Nat} {e t:TypeId} {v:Value} {xs cs:List Value} (h:w.ownsRow B e sz v n xs) (hx:BoxL w b t cs) (hb:b < B) (hg:w.grownBy w' v.ownBlock):BoxL w' b t cs:=hx.kept hg (fun e => by have:=(h.lt b e.symm).1;omega)
theorem G24.boxL {w0:World} {lo:Nat} {wm:World} {os:List Ob} {xs:List (List UInt8)} {vl vi:Value} {w w':World} (h:G24 w0 lo wm os xs vl vi w) (hg:w.grownBy w' vl.ownBlock):BoxL w' (w0.heap.size + 1) 35 [vl,vi]:=jS h.ol h.src (by omega) hg
theorem G24.boxI {w0:World} {lo:Nat} {wm:World} {os:List Ob} {xs:List (List UInt8)} {vl vi:Value} {w w':World} (h:G24 w0 lo wm os xs vl vi w) (hg:w.grownBy w' vi.ownBlock):BoxL w' (w0.heap.size + 1) 35 [vl,vi]:=jS h.oi h.src (by omega) hg
theorem G24.putL {w0:World} {lo:Nat} {wm:World} {os es:List Ob} {xs:List (List UInt8)} {vl vl' vi:Value} {w w':World} (h:G24 w0 lo wm os xs vl vi w) (hown:w'.ownsRow (w0.heap.size + 2) 40 2 vl' (os.length + es.length) (osV os ++ osV es)) (hg:w.grownBy w' vl.ownBlock) (hf:Fr w vl vl') :
  G24 w0 lo wm (os ++ es) xs vl' vi (w'.setCell ⟨w0.heap.size + 1,0,none⟩ vl'):=by
 have hb:=h.boxL hg
 have hc:=jI h.chg h.okl hg
 have hset:=aI (o:=0) (World.grownBy.refl w' (some (w0.heap.size + 1))) vl'
 refine ⟨(jS h.ol h.res (by omega) hg).kept hset (fun e => by injection e with e;omega),hb.put 0 vl',?_,?_,?_,?_,Ov h.okl hf h.chg.size,h.oki,h.len,h.low⟩
 ·rw [List.length_append,lq]
  exact bE hown (own_ne hown (by omega))
 ·have h1:=h.oi.kept hg (eX h.oi h.ol (by decide))
  exact bE h1 (own_ne h1 (by omega))
 ·have h1:Below w0.heap.size w0 w':=h.bel.grown hg h.bel.size (fun j hj => by have:=(h.ol.lt j hj).1;omega)
  exact h1.setCell (by show w0.heap.size ≤ w0.heap.size + 1;omega) _
 exact hc.trans (Chg.iW hset (fun k e => by have:=Option.some.inj e;have:=h.low;omega))
theorem G24.putI {w0:World} {lo:Nat} {wm:World} {os:List Ob} {xs es:List (List UInt8)} {vl vi vi':Value} {w w':World} (h:G24 w0 lo wm os xs vl vi w) (hown:w'.ownsRow (w0.heap.size + 2) 24 32 vi' (xs.length + es.length) (idsV xs ++ idsV es)) (hg:w.grownBy w' vi.ownBlock) (hf:Fr w vi vi') (hes:∀ x ∈ es,x.length = 32) :
  G24 w0 lo wm os (xs ++ es) vl vi' (w'.setCell ⟨w0.heap.size + 1,1,none⟩ vi'):=by
 have hb:=h.boxI hg
 have hc:=jI h.chg h.oki hg
 have hset:=aI (o:=1) (World.grownBy.refl w' (some (w0.heap.size + 1))) vi'
 refine ⟨(jS h.oi h.res (by omega) hg).kept hset (fun e => by injection e with e;omega),hb.put 1 vi',?_,?_,?_,?_,h.okl,Ov h.oki hf h.chg.size,fun x hx => (List.mem_append.1 hx).elim (h.len x) (hes x),h.low⟩
 ·have h1:=h.ol.kept hg (eX h.ol h.oi (by decide))
  exact bE h1 (own_ne h1 (by omega))
 ·rw [List.length_append,Mg]
  exact bE hown (own_ne hown (by omega))
 ·have h1:Below w0.heap.size w0 w':=h.bel.grown hg h.bel.size (fun j hj => by have:=(h.oi.lt j hj).1;omega)
  exact h1.setCell (by show w0.heap.size ≤ w0.heap.size + 1;omega) _
 exact hc.trans (Chg.iW hset (fun k e => by have:=Option.some.inj e;have:=h.low;omega))
theorem aK.G8 {w w':World} {lo:Nat} {v:Value} {sz:Nat} {rows:List (List Value)} (h:aK w v sz rows) (hc:Chg (fun b => b < lo) w w') (hf:kr lo v):aK w' v sz rows:=by
 obtain ⟨ao,cap,rfl,hm,h2⟩:=h
 refine ⟨ao,cap,rfl,hm,fun hne => ?_⟩
 obtain ⟨b,off,rfl,hb,hr⟩:=h2 hne
 have hbl:=hc.block b hb (by have:=hf b rfl;omega)
 exact ⟨b,off,rfl,Nat.lt_of_lt_of_le hb hc.size,fun i hi j u hu => by
  have:=hr i hi j u hu
  unfold World.cell? at this ⊢
  rw [hbl]
  exact this⟩
theorem JH {d:Dk} {nm:ByteArray} {p:List UInt8 × Ob} (h:loAt d nm = some p):bW d p.1 = .inr p.2 ∧ p.1.length = 32:=by
 cases hu:iL nm with
 | false => rw [vG hu] at h;cases h
 | true =>
  rw [AJ hu] at h
  cases hg:bW d (unId nm) with
  | inl e => rw [hg] at h;cases h
  | inr o =>
   rw [hg] at h
   cases h
   exact ⟨hg,tO nm⟩
theorem Ms {x y:List UInt8} (hx:x.length = 32) (hy:y.length = 32) (h:ofB (hexL x) = ofB (hexL y)):x = y:=by
 have h1:eu (ofB (hexL x)).data.toList = eu (ofB (hexL y)).data.toList:=by rw [h]
 rw [aW,aW,qK hx,qK hy] at h1
 exact Option.some.inj h1
theorem FU {d:Dk} {x:List UInt8} {o:Ob} (hx:x.length = 32) (h:bW d x = .inr o):idO o = x ∧ aC o = true:=by
 unfold bW at h
 split at h
 ·cases h
 split at h
 ·cases h
 rename_i o' hr
 cases h
 unfold rdLo at hr
 split at hr
 ·cases hr
 rename_i o2 hlo
 split at hr
 ·rename_i he
  cases hr
  refine ⟨Ms (dI _) hx he,?_⟩
  unfold loOb at hlo
  split at hlo
  ·cases hlo
  split at hlo
  ·exact dM hlo
  cases hlo
 cases hr
theorem lF {d:Dk} {l:List ByteArray} {p:List UInt8 × Ob} (h:p ∈ fG d l):bW d p.1 = .inr p.2 ∧ p.1.length = 32 ∧ idO p.2 = p.1 ∧ aC p.2 = true:=by
 obtain ⟨nm,_,h2⟩:=List.mem_filterMap.1 h
 obtain ⟨h3,h4⟩:=JH h2
 exact ⟨h3,h4,FU h4 h3⟩
def gB (ps:List Sp):List Ob:=ps.flatMap fun p => p.pk.obs
theorem LA {ps:List Sp} (h:∀ p ∈ ps,p.pk.obs.length ≤ 200):(gB ps).length ≤ 200 * ps.length:=by
 unfold gB
 induction ps with
 | nil => simp
 | cons p ps ih =>
  rw [List.flatMap_cons,List.length_append,List.length_cons]
  have h1:=h p (by simp)
  have h2:=ih (fun q hq => h q (List.mem_cons_of_mem _ hq))
  omega
theorem E5 {ps:List Sp} {k:Nat} (hk:k < ps.length):gB (ps.take (k + 1)) = gB (ps.take k) ++ ps[k].pk.obs:=by
 unfold gB
 rw [List.take_succ_eq_append_getElem hk,List.flatMap_append]
 simp
theorem EY {d:Dk} {l:List ByteArray} {p:Sp} (h:p ∈ aO d l):p.pk.obs.length ≤ 200:=by
 obtain ⟨nm,_,h2⟩:=List.mem_filterMap.1 h
 have h3:=vw (jw h2).2.2.2
 have h4:=h3.1
 have h5:=h3.2
 omega
theorem jm (b:Nat):∀ (vs:List Value) (o:Nat) (w:World),(w.setCells b o vs).heap.size = w.heap.size
 | [],_,_ => rfl
 | v :: vs,o,w => by
  show ((w.setCell ⟨b,o,none⟩ v).setCells b (o + 1) vs).heap.size = _
  rw [jm b vs (o + 1)]
  show (w.heap.modify b _).size = _
  simp
theorem BK (w:World):(Instr.build 35 #[]).run prog w = .ok (.agg #[.slice none 0 0,.slice none 0 0]) w:=run_build w 35 _ _ (by kernel_rfl)
theorem AQ:(prog.info? 35).map (·.size) = some 2:=by decide +kernel
theorem xO (g:Nat) (l:List Fl) (w:World) (hD:RdAt w g l) (hd:∀ k nm s,datF l k nm = some s → s.size ≤ 1000000) (hl:l.length ≤ 60):Calls prog 8 #[.pointer (some ⟨g,0,none⟩)] w fun e w' => ∃ vl vi,e = .returned (.agg #[vl,vi]) ∧ dD w' vl ((fG (datF l) (namF l 0)).map (·.2) ++ gB (aO (datF l) (namF l 1))) ∧ bD w' vi ((fG (datF l) (namF l 0)).map (·.1) ++ (gB (aO (datF l) (namF l 1))).map idO) ∧ Below w.heap.size w w':=by
 have hsb:=BK
 have HIS:=ah AQ
 have HIO:=ah aF
 obtain ⟨W0,hW0⟩:∃ W,((w.alloc (.cells #[.slice none 0 0,.slice none 0 0] 35)).alloc (.cells #[.slice none 0 0,.slice none 0 0] 35)).setCells (w.heap.size + 1) 0 [.slice none 0 0,.slice none 0 0] = W:=⟨_,rfl⟩
 have hx1:=BoxL.new w 35 [.slice none 0 0,.slice none 0 0]
 have hx2:=BoxL.new (w.alloc (.cells #[.slice none 0 0,.slice none 0 0] 35)) 35 [.slice none 0 0,.slice none 0 0]
 rw [World.size_alloc] at hx2
 have hbb:Below w.heap.size w ((w.alloc (.cells #[.slice none 0 0,.slice none 0 0] 35)).alloc (.cells #[.slice none 0 0,.slice none 0 0] 35)):=bal.alloc (by simp) _
 have HTH:Hid (World.there ((w.alloc (.cells #[.slice none 0 0,.slice none 0 0] 35)).alloc (.cells #[.slice none 0 0,.slice none 0 0] 35)) (w.heap.size + 1) 0 2):=ah hx2.there
 have HB0:Hid (Below w.heap.size w W0):=ah (by rw [← hW0];exact below_setCells _ (by omega) _ _ _ hbb)
 have HZ0:Hid (W0.heap.size = w.heap.size + 2):=ah (by rw [← hW0,jm];simp)
 have HG0:Hid (G24 w (w.heap.size + 2) W0 [] [] (.slice none 0 0) (.slice none 0 0) W0):=ah ⟨by
   rw [← hW0]
   exact BoxL.other (hx1.below bal) (by omega),by rw [← hW0];exact hx2.set rfl,World.ownsRow_nil _ _ _ _,World.ownsRow_nil _ _ _ _,HB0.out,Chg.refl _ _,fun g hg => (by cases hg),fun g hg => (by cases hg),fun x hx => (by cases hx),Nat.le_refl _⟩
 have HLI:=ah (Ca g l W0 (hD.below HB0.out) hd (by omega))
 have HW0:=ah hW0
 have HD:=ah hD
 have HSZ:=ah hd
 have HL:=ah hl
 have hlo:(fG (datF l) (namF l 0)).length ≤ 60:=Nat.le_trans (by have:=ze (datF l) (namF l 0);unfold fZ at this;rwa [List.length_map] at this) (Nat.le_trans (iX l 0) hl)
 have HLM:=ah (fun p (hp:p ∈ fG (datF l) (namF l 0)) => lF hp)
 unfold fZ at HLI
 clear hW0 hx1 hx2 hbb hD hd hl
 obtain ⟨d,hdd⟩:∃ d,datF l = d:=⟨_,rfl⟩
 have HDD:=ah hdd
 rw [hdd] at HSZ HLM HLI hlo ⊢
 clear hdd
 generalize fG d (namF l 0) = lo at HLM HLI hlo
 go_enter func8,ntmps8
 go_upto_region 2 with (refine aj rfl 35 _ _ rfl (w.heap.size + 1) 0 [.slice none 0 0,.slice none 0 0] rfl rfl 2 rfl HTH.out HIS.out (by intro v hv;simp at hv;subst hv;rfl) ?_;rw [HW0.out])
 go_wp2_with fail
 refine HLI.out.mono ?_
 rintro e w1 ⟨v,rfl,hv,hfv,hb1⟩
 have HG1:=ah (HG0.out.turn hb1 (by have:=HZ0.out;omega) (Nat.le_refl _))
 have HFV:Hid (kr (w.heap.size + 2) v):=ah (fun g hg => by have:=hfv g hg;have:=HZ0.out;omega)
 have hv1:=hv.open
 obtain ⟨ao,cap,rfl,hmx,_⟩:=hv1
 rw [List.length_map] at hv HFV ⊢
 have HV:=ah hv
 clear hv hfv hb1 hmx
 go_wp2_with fail
 go_loopw [5,6,7] (fun i _ _ wr => ∃ (k:Nat) (vl vi:Value),k ≤ lo.length ∧ i = .int .i64 (k:Int) ∧ Hid (G24 w (w.heap.size + 2) w1 ((lo.take k).map (·.2)) ((lo.take k).map (·.1)) vl vi wr)) (fun i _ _ _ => (lo.length - intOf i).toNat)
 case atStart => exact ⟨0,_,_,by omega,rfl,HG1.out⟩
 obtain ⟨wo,rfl⟩:∃ wo:World,wo = wr:=⟨_,rfl⟩
 obtain ⟨k,vl,vi,hk,rfl,HS⟩:=hrel
 by_cases hlt:k < lo.length
 ·have k0:(0:Int) ≤ k:=by omega
  have k1:(k:Int) < lo.length:=by omega
  have wk:IntKind.i64.wrap ((k:Int) + 1) = (k:Int) + 1:=IntWalk.i64_in _ (by omega)
  have HVC:Hid (∀ W,Chg (fun b => b < w.heap.size + 2) w1 W → bD W (.slice ao lo.length cap) (lo.map (·.1))):=ah (fun W hW => aK.G8 HV.out hW HFV.out)
  obtain ⟨ao2,cap2,e2,_,hv2⟩:=(HVC.out wo HS.out.chg).open
  have e2':ao = ao2:=by injection e2
  subst e2'
  clear e2
  obtain ⟨b,off,rfl,hbl,hcell⟩:=hv2 (by intro e;rw [List.map_eq_nil_iff] at e;rw [e] at hlt;simp at hlt)
  have HCE:Hid (∀ W,Chg (fun b => b < w.heap.size + 2) w1 W → W.rangeAt b (off + k * 32) (idC lo[k].1)):=ah (fun W hW => by
   obtain ⟨ao3,cap3,e3,_,hv3⟩:=(HVC.out W hW).open
   obtain ⟨b3,off3,e4,_,hc3⟩:=hv3 (by intro e;rw [List.map_eq_nil_iff] at e;rw [e] at hlt;simp at hlt)
   have e3':some (⟨b,off,none⟩:Addr) = ao3:=by injection e3
   rw [← e3'] at e4
   injection e4 with e4
   injection e4 with e5 e6
   subst e5
   subst e6
   have:=hc3 k (by rw [List.length_map];exact hlt)
   rwa [List.getElem_map] at this)
  have hmem:=HLM.out lo[k] (List.getElem_mem hlt)
  have HT2:Hid ((lo.take (k + 1)).map (·.2) = (lo.take k).map (·.2) ++ [lo[k].2]):=ah (by rw [List.take_succ_eq_append_getElem hlt,List.map_append];rfl)
  have HT1:Hid ((lo.take (k + 1)).map (·.1) = (lo.take k).map (·.1) ++ [lo[k].1]):=ah (by rw [List.take_succ_eq_append_getElem hlt,List.map_append];rfl)
  have hosl:((lo.take k).map (·.2)).length ≤ 60:=by rw [List.length_map,List.length_take];omega
  have hxsl:((lo.take k).map (·.1)).length ≤ 60:=by rw [List.length_map,List.length_take];omega
  clear hcell hv2
  generalize lo[k] = p at HCE hmem HT2 HT1
  obtain ⟨x,o⟩:=p
  dsimp only at HCE hmem HT2 HT1
  generalize (lo.take k).map (·.2) = os at HS HT2 hosl
  generalize (lo.take k).map (·.1) = xs at HS HT1 hxsl
  obtain ⟨la,lc,rfl⟩:=ay HS.out.ol
  obtain ⟨ia,ic,rfl⟩:=ay HS.out.oi
  have HLG:=ah (fun W (h:RdAt W g l) => yA g l d x W HDD.out hmem.2.1 h HSZ.out)
  have HGX:=ah hmem.1
  have HXL:=ah hmem.2.1
  have HXO:=ah (bX x)
  have hxc:(idC x).length = 32:=by rw [aD,hmem.2.1]
  have h32x:(prog.info? 24).map (·.size) = some (idC x).length:=dG hxc
  have HIV:Hid (idsV [x] = idC x):=ah (by simp [idsV])
  have r0:=HCE.out wo HS.out.chg
  clear hmem
  generalize hcx:idC x = cx at HCE HLG HXO hxc h32x HIV r0
  have HLG1:=HLG.out wo (HD.out.below HS.out.bel)
  unfold xD at HLG1
  rw [HGX.out] at HLG1
  dsimp only at HLG1
  have HLG2:=ah HLG1
  clear HLG1 HLG
  go_wp2_with (refine wpList_load_mid rfl 24 _ rfl b (off + k * 32) rfl cx _ r0 underlying24 rfl h32x ?_)
  refine HLG2.out.mono ?_
  rintro e w2 ⟨rfl,hb2⟩
  have HS2:=ah (HS.out.below hb2)
  have HOCL:Hid ((obC o).length = 2):=ah rfl
  have HOC1:=ah (dx o)
  have HT3:=ah (there_alloc (n:=2) w2 #[.int .i64 0,.string ⟨#[]⟩] 40 rfl)
  obtain ⟨W3,hW3⟩:∃ W,(w2.alloc (.cells #[.int .i64 0,.string ⟨#[]⟩] 40)).setCells w2.heap.size 0 (obC o) = W:=⟨_,rfl⟩
  have HX3:Hid (BoxL W3 w2.heap.size 40 (obC o)):=ah (by rw [← hW3];exact (BoxL.new w2 40 [.int .i64 0,.string ⟨#[]⟩]).set rfl)
  have hb3:Below w2.heap.size w2 W3:=by rw [← hW3];exact below_setCells _ (Nat.le_refl _) _ _ _ bal
  have HS3:=ah (HS2.out.below hb3)
  have HW3:=ah hW3
  have HOV:Hid (osV [o] = obC o):=ah (by simp [osV])
  clear hW3 hb2 hb3 r0 HS2 HS
  obtain ⟨W4,hW4⟩:∃ W,W3.alloc (.cells (obC o).toArray 40) = W:=⟨_,rfl⟩
  have hb4:Below W3.heap.size W3 W4:=by rw [← hW4];exact bal
  have HR4:Hid (W4.rangeAt W3.heap.size 0 (obC o)):=ah (by rw [← hW4];exact (BoxL.new W3 40 (obC o)).range)
  have HS4:=ah (HS3.out.below hb4)
  have HW4:=ah hW4
  clear hW4 hb4
  generalize hco:obC o = co at HOCL HOC1 HX3 HW3 HOV HR4 HW4
  have HCO:=ah hco
  clear hco
  go_upto_region 7 with (refine aj rfl 40 _ _ rfl w2.heap.size 0 co rfl rfl 2 HOCL.out HT3.out HIO.out HOC1.out ?_;rw [HW3.out])
  have h2o:(prog.info? 40).map (·.size) = some co.length:=by rw [HOCL.out];exact aF
  have r3:=HX3.out.range
  have c3:=(nL HS3.out.src).1
  go_upto_region 8 with (first
   | (rw [HW4.out];refine bN _ rfl _ _ rfl (w.heap.size + 2) (.slice la os.length lc) os.length (osV os) rfl HS4.out.ol W3.heap.size o rfl (by rw [HCO.out];exact HR4.out) (by omega) (Nat.le_trans (by have:=HS4.out.src.lt;omega) (Nat.le_refl _)) ?_)
   | refine wpList_load_mid rfl 40 _ rfl w2.heap.size 0 rfl co _ r3 underlying40 rfl h2o ?_
   | (refine av rfl _ 32 40 rfl co #[.int .i64 0,.string ⟨#[]⟩] rfl underlying32 (fun w => by rw [HOCL.out];kernel_rfl) (fun w => by kernel_rfl) (by rw [HOCL.out];decide) (by rw [HOCL.out];decide) ?_))
  intro v5 w5 hown5 hg5 hf5
  have hbx5:=HS4.out.boxL hg5
  obtain ⟨c5,k5⟩:=nL hbx5
  have HS6:Hid (G24 w (w.heap.size + 2) w1 (os ++ [o]) xs v5 (.slice ia xs.length ic) (w5.setCell ⟨w.heap.size + 1,0,none⟩ v5)):=ah (HS4.out.putL (es:=[o]) (by rw [HOV.out,← HCO.out];exact hown5) hg5 hf5)
  obtain ⟨va5,vc5,rfl⟩:=ay hown5
  obtain ⟨W6,hW6⟩:∃ W,w5.setCell ⟨w.heap.size + 1,0,none⟩ (.slice va5 (os.length + 1) vc5) = W:=⟨_,rfl⟩
  rw [hW6] at HS6
  have HW6:=ah hW6
  clear hown5 hg5 hf5 hbx5 hW6 c3 r3 HS3 HS4
  go_upto_region 8 with fail
  rw [HW6.out]
  clear c5 k5 HW6
  have HSS:Hid (∀ W,Below W6.heap.size W6 W → W.cell? ⟨w.heap.size + 1,1,none⟩ = some (.slice ia xs.length ic) ∧ W.rangeAt b (off + k * 32) cx):=ah (fun W hW => ⟨(iQ (HS6.out.below hW).src).1,HCE.out W (HS6.out.below hW).chg⟩)
  have hS0:=HSS.out W6.drew (Below.refl _ _).drew
  refine wrL 9 (fun w' => w'.cell? ⟨w.heap.size + 1,1,none⟩ = some (.slice ia xs.length ic) ∧ w'.rangeAt b (off + k * 32) cx) ?_
  refine WL.tk 0 hS0 ?_
  refine WL.tk 1 hS0 ?_
  refine WL.tk 2 hS0 ?_
  refine WL.tk 3 hS0 ?_
  refine WL.tk 4 hS0 ?_
  refine WL.tk 5 hS0 ?_ (hy:=(fun w' hSw => iB 24 _ (hSw.2) underlying24 rfl h32x _ rfl rfl))
  refine WL.on 6 ?_
  obtain ⟨zi,j0,ji,jz0,jz1,jz2,hziv,hzil⟩:=gH
  have HXC:=ah hxc
  have HSZI:Hid (∀ w,(sizeOf 24).run prog w = .ok cx.length w):=ah (fun w => by rw [HXC.out];kernel_rfl)
  have HZV:=ah hziv
  clear hxc hziv
  go_wp2_with (refine av rfl _ 33 24 rfl cx zi rfl underlying33 HSZI.out HZV.out (by rw [HXC.out];decide) (by rw [HXC.out];decide) ?_)
  have hb7:Below W6.heap.size W6 (W6.drew.alloc (.cells cx.toArray 24)):=(Below.refl _ _).drew.alloc (Nat.le_refl _) _
  have hrn:(W6.drew.alloc (.cells cx.toArray 24)).rangeAt W6.heap.size 0 cx:=(BoxL.new W6.drew 24 cx).range
  obtain ⟨W7,hW7⟩:∃ W,W6.drew.alloc (.cells cx.toArray 24) = W:=⟨_,rfl⟩
  rw [hW7] at hb7 hrn ⊢
  have hS7:=HSS.out W7 hb7
  refine ⟨hS7,?_⟩
  have HS7:=ah (HS6.out.below hb7)
  have HRN:=ah hrn
  clear hW7 hb7 hrn hS7
  refine WL.on 7 ?_
  go_wp2_with (refine bP _ rfl _ _ rfl (w.heap.size + 2) (.slice ia xs.length ic) xs.length (idsV xs) rfl HS7.out.oi W6.heap.size cx HXC.out HXO.out rfl HRN.out (by omega) (by have:=HS7.out.src.lt;omega) ?_)
  intro v8 w8 hown8 hg8 hf8
  have hbx8:=HS7.out.boxI hg8
  obtain ⟨c8,k8⟩:=iQ hbx8
  have hcg8:=jI HS7.out.chg HS7.out.oki hg8
  have hS8:w8.cell? ⟨w.heap.size + 1,1,none⟩ = some (.slice ia xs.length ic) ∧ w8.rangeAt b (off + k * 32) cx:=⟨c8,HCE.out w8 hcg8⟩
  have HEND:Hid (G24 w (w.heap.size + 2) w1 (os ++ [o]) (xs ++ [x]) (.slice va5 (os.length + 1) vc5) v8 (w8.setCell ⟨w.heap.size + 1,1,none⟩ v8)):=ah (HS7.out.putI (es:=[x]) (by rw [HIV.out];exact hown8) hg8 hf8 (fun y hy => by rw [List.mem_singleton.1 hy];exact HXL.out))
  obtain ⟨va8,vc8,rfl⟩:=ay hown8
  clear hown8 hg8 hf8 hbx8 hcg8
  go_wp2
  refine ⟨hS8,?_⟩
  refine WL.tk 8 hS8 ?_
  refine WL.la 9 ?_
  obtain ⟨W9,hW9⟩:∃ W,w8.setCell ⟨w.heap.size + 1,1,none⟩ (.slice va8 (xs.length + 1) vc8) = W:=⟨_,rfl⟩
  rw [hW9] at HEND
  have HW9:=ah hW9
  clear hW9 hS8 hS0
  go_wp2_with fail
  rw [HW9.out]
  go_roundw
  case rel => exact ⟨k + 1,_,_,by omega,by go_num,by rw [HT2.out,HT1.out];exact HEND.out⟩
  case measure => simp [intOf];omega
 obtain rfl:k = lo.length:=by omega
 rw [List.take_length] at HS
 have HLO1:Hid ((lo.map (·.2)).length ≤ 60):=ah (by rw [List.length_map];exact hlo)
 have HLO2:Hid ((lo.map (·.1)).length ≤ 60):=ah (by rw [List.length_map];exact hlo)
 have hsz2:w.heap.size + 2 ≤ wo.heap.size:=HS.out.src.lt
 have HLD:=ah (BZ g l wo (HD.out.below HS.out.bel) (by rw [HDD.out];exact HSZ.out) (by have:=HL.out;omega))
 rw [HDD.out] at HLD
 have HPM:=ah (fun p (hp:p ∈ aO d (namF l 1)) => EY hp)
 have hpl:(aO d (namF l 1)).length ≤ 60:=Nat.le_trans (yR d _) (Nat.le_trans (iX l 1) HL.out)
 obtain ⟨ps,hps⟩:∃ ps,aO d (namF l 1) = ps:=⟨_,rfl⟩
 obtain ⟨os0,hos0⟩:∃ os0,lo.map (·.2) = os0:=⟨_,rfl⟩
 obtain ⟨xs0,hxs0⟩:∃ xs0,lo.map (·.1) = xs0:=⟨_,rfl⟩
 rw [hps] at HLD HPM hpl
 rw [hos0,hxs0] at HS
 rw [hos0] at HLO1
 rw [hxs0] at HLO2
 have HEQ:=ah (And.intro hps (And.intro hos0 hxs0))
 clear hps hos0 hxs0
 go_wp2_with fail
 refine HLD.out.mono ?_
 rintro e w2 ⟨v2,rfl,⟨rows,hrow,hones,hfv2⟩,hb2⟩
 have HG2:=ah (HS.out.turn hb2 (Nat.le_refl _) hsz2)
 have hrow1:=hrow
 obtain ⟨ao2,cap2,rfl,hmx2,_⟩:=hrow1
 have HRO:=ah hrow
 have HON:=ah hones
 have HFV2:=ah hfv2
 have hrl:rows.length = ps.length:=hones.1
 have HRL:=ah hrl
 have hrl60:rows.length ≤ 60:=by omega
 clear hrow hones hfv2 hb2 hmx2 hrl HLD
 go_wp2_with fail
 go_loopw [9] (fun i wr => ∃ (k:Nat) (vl vi:Value),k ≤ rows.length ∧ i = .int .i64 (k:Int) ∧ Hid (G24 w wo.heap.size w2 (os0 ++ gB (ps.take k)) (xs0 ++ (gB (ps.take k)).map idO) vl vi wr)) (fun i _ => (rows.length - intOf i).toNat)
 case atStart => exact ⟨0,vl,vi,by omega,rfl,ah (by simpa [gB] using HG2.out)⟩
 obtain ⟨wp,rfl⟩:∃ wp:World,wp = wr:=⟨_,rfl⟩
 obtain ⟨k,vl',vi',hk,rfl,HT⟩:=hrel
 by_cases hlt2:k < rows.length
 ·have k0:(0:Int) ≤ k:=by omega
  have k1:(k:Int) < rows.length:=by omega
  have wk:IntKind.i64.wrap ((k:Int) + 1) = (k:Int) + 1:=IntWalk.i64_in _ (by omega)
  have hkp:k < ps.length:=by have:=HRL.out;omega
  have HRC:Hid (∀ W,Chg (fun b => b < wo.heap.size) w2 W → aK W (.slice ao2 rows.length cap2) 6 rows):=ah (fun W hW => aK.G8 HRO.out hW HFV2.out)
  obtain ⟨ao3,cap3,e3,_,hv3⟩:=HRC.out wp HT.out.chg
  have e3':ao2 = ao3:=by injection e3
  subst e3'
  clear e3
  obtain ⟨b,off,rfl,hbl,hcell⟩:=hv3 (by intro e;rw [e] at hlt2;simp at hlt2)
  have HCE:Hid (∀ W,Chg (fun b => b < wo.heap.size) w2 W → W.rangeAt b (off + k * 6) rows[k]):=ah (fun W hW => by
   obtain ⟨ao4,cap4,e3,_,hv4⟩:=HRC.out W hW
   obtain ⟨b3,off3,e4,_,hc3⟩:=hv4 (by intro e;rw [e] at hlt2;simp at hlt2)
   have e3':some (⟨b,off,none⟩:Addr) = ao4:=by injection e3
   rw [← e3'] at e4
   injection e4 with e4
   injection e4 with e5 e6
   subst e5
   subst e6
   exact hc3 k hlt2)
  have hone:=HON.out.2 k hlt2 hkp
  have hp200:=HPM.out ps[k] (List.getElem_mem hkp)
  have HOS:=ah (E5 hkp)
  have htl:(gB (ps.take k)).length ≤ 200 * k:=by
   have:=LA (ps:=ps.take k) (fun p hp => HPM.out p (List.mem_of_mem_take hp))
   rw [List.length_take] at this
   omega
  clear hcell hv3
  generalize rows[k] = r at HCE hone
  generalize ps[k] = p at hone hp200 HOS
  obtain ⟨x1,i1,j1,x2,i2,j2,x3,i3,j3,x4,i4,j4,rfl,_,_,hr3,hr4,_,_,hf3,hf4⟩:=hone
  have HO3:Hid (∀ W,Chg (fun b => b < wo.heap.size) w2 W → dD W (.slice x3 i3 j3) p.pk.obs):=ah (fun W hW => aK.G8 hr3.1 hW hf3)
  have HI4:Hid (∀ W,Chg (fun b => b < wo.heap.size) w2 W → bD W (.slice x4 i4 j4) (p.pk.obs.map idO)):=ah (fun W hW => aK.G8 hr4.1 hW hf4)
  clear hr3 hr4 hf3 hf4
  have HC4:Hid (∀ W,Chg (fun b => b < wo.heap.size) w2 W → W.cell? ⟨b,off + k * 6 + 4,none⟩ = some (.slice x3 i3 j3) ∧ W.cell? ⟨b,off + k * 6 + 5,none⟩ = some (.slice x4 i4 j4)):=ah (fun W hW => ⟨HCE.out W hW 4 _ rfl,HCE.out W hW 5 _ rfl⟩)
  clear HCE HRC
  generalize p.pk.obs = es at HO3 HI4 HOS hp200
  generalize gB (ps.take k) = os1 at HT HOS htl
  have hl1:(os0 ++ os1).length ≤ 20000:=by rw [List.length_append];have:=HLO1.out;omega
  have hl2:(xs0 ++ os1.map idO).length ≤ 20000:=by rw [List.length_append,List.length_map];have:=HLO2.out;omega
  have HE1:Hid (os0 ++ gB (ps.take (k + 1)) = (os0 ++ os1) ++ es):=ah (by rw [HOS.out,List.append_assoc])
  have HE2:Hid (xs0 ++ (gB (ps.take (k + 1))).map idO = (xs0 ++ os1.map idO) ++ es.map idO):=ah (by rw [HOS.out,List.map_append,List.append_assoc])
  generalize os0 ++ os1 = os at HT hl1 HE1
  generalize xs0 ++ os1.map idO = xs at HT hl2 HE2
  clear HOS htl
  obtain ⟨la,lc,rfl⟩:=ay HT.out.ol
  obtain ⟨ia,ic,rfl⟩:=ay HT.out.oi
  have HSS:Hid (∀ W,Below wp.heap.size wp W → W.cell? ⟨w.heap.size + 1,0,none⟩ = some (.slice la os.length lc) ∧ W.cell? ⟨b,off + k * 6 + 4,none⟩ = some (.slice x3 i3 j3)):=ah (fun W hW => ⟨(nL (HT.out.below hW).src).1,(HC4.out W (HT.out.below hW).chg).1⟩)
  have hS0:=HSS.out wp.drew (Below.refl _ _).drew
  have HTD:=ah (HT.out.below (Below.refl _ _).drew)
  go_wp2_with fail
  refine wrL 10 (fun w' => w'.cell? ⟨w.heap.size + 1,0,none⟩ = some (.slice la os.length lc) ∧ w'.cell? ⟨b,off + k * 6 + 4,none⟩ = some (.slice x3 i3 j3)) ?_
  refine WL.tk 0 hS0 ?_
  refine WL.tk 1 hS0 ?_
  refine WL.tk 2 hS0 ?_
  refine WL.tk 3 hS0 ?_
  refine WL.tk 4 hS0 ?_
  refine WL.tk 5 hS0 ?_
  refine WL.tk 6 hS0 ?_
  refine WL.tk 7 hS0 ?_
  refine WL.on 8 ?_
  go_wp2_with (refine oQ _ rfl _ _ rfl (w.heap.size + 2) (.slice la os.length lc) os.length (osV os) rfl HTD.out.ol (.slice x3 i3 j3) es rfl (HO3.out _ HTD.out.chg) (by omega) (by have:=HTD.out.src.lt;omega) ?_)
  intro v5 w5 hown5 hg5 hf5
  have hbx5:=HTD.out.boxL hg5
  obtain ⟨c5,k5⟩:=nL hbx5
  have hcg5:=jI HTD.out.chg HTD.out.okl hg5
  have hS5:w5.cell? ⟨w.heap.size + 1,0,none⟩ = some (.slice la os.length lc) ∧ w5.cell? ⟨b,off + k * 6 + 4,none⟩ = some (.slice x3 i3 j3):=⟨c5,(HC4.out w5 hcg5).1⟩
  have HS6:Hid (G24 w wo.heap.size w2 (os ++ es) xs v5 (.slice ia xs.length ic) (w5.setCell ⟨w.heap.size + 1,0,none⟩ v5)):=ah (HTD.out.putL hown5 hg5 hf5)
  obtain ⟨sl,hsl⟩:∃ sl,os.length + es.length = sl:=⟨_,rfl⟩
  rw [hsl] at hown5
  obtain ⟨va5,vc5,rfl⟩:=ay hown5
  obtain ⟨W6,hW6⟩:∃ W,w5.setCell ⟨w.heap.size + 1,0,none⟩ (.slice va5 sl vc5) = W:=⟨_,rfl⟩
  rw [hW6] at HS6
  have HW6:=ah hW6
  clear hown5 hg5 hf5 hbx5 hcg5 hW6 hsl
  go_wp2
  refine ⟨hS5,?_⟩
  refine WL.tk 9 hS5 ?_
  refine WL.la 10 ?_
  go_wp2_with fail
  rw [HW6.out]
  clear c5 k5 HW6 hS5 hS0
  have hl1':(os ++ es).length ≤ 30000:=by rw [List.length_append];omega
  obtain ⟨os',hos'⟩:∃ os',os ++ es = os':=⟨_,rfl⟩
  rw [hos'] at HS6 HE1 hl1'
  clear hos' hl1' HT HTD HSS HO3
  have HSS:Hid (∀ W,Below W6.heap.size W6 W → W.cell? ⟨w.heap.size + 1,1,none⟩ = some (.slice ia xs.length ic) ∧ W.cell? ⟨b,off + k * 6 + 5,none⟩ = some (.slice x4 i4 j4)):=ah (fun W hW => ⟨(iQ (HS6.out.below hW).src).1,(HC4.out W (HS6.out.below hW).chg).2⟩)
  have hS0:=HSS.out W6.drew (Below.refl _ _).drew
  have HTD:=ah (HS6.out.below (Below.refl _ _).drew)
  have HEI:Hid (∀ y ∈ es.map idO,y.length = 32):=ah (fun y hy => by obtain ⟨o,_,rfl⟩:=List.mem_map.1 hy;exact dI o)
  have hel:(es.map idO).length ≤ 200:=by rw [List.length_map];exact hp200
  generalize es.map idO = ys at HE2 HI4 HEI hel
  refine wrL 10 (fun w' => w'.cell? ⟨w.heap.size + 1,1,none⟩ = some (.slice ia xs.length ic) ∧ w'.cell? ⟨b,off + k * 6 + 5,none⟩ = some (.slice x4 i4 j4)) ?_
  refine WL.tk 0 hS0 ?_
  refine WL.tk 1 hS0 ?_
  refine WL.tk 2 hS0 ?_
  refine WL.tk 3 hS0 ?_
  refine WL.tk 4 hS0 ?_
  refine WL.tk 5 hS0 ?_
  refine WL.tk 6 hS0 ?_
  refine WL.tk 7 hS0 ?_
  refine WL.on 8 ?_
  go_wp2_with (refine oU _ rfl _ _ rfl (w.heap.size + 2) (.slice ia xs.length ic) xs.length (idsV xs) rfl HTD.out.oi (.slice x4 i4 j4) ys HEI.out rfl (HI4.out _ HTD.out.chg) (by omega) (by have:=HTD.out.src.lt;omega) ?_)
  intro v7 w7 hown7 hg7 hf7
  have hbx7:=HTD.out.boxI hg7
  obtain ⟨c7,k7⟩:=iQ hbx7
  have hcg7:=jI HTD.out.chg HTD.out.oki hg7
  have hS7:w7.cell? ⟨w.heap.size + 1,1,none⟩ = some (.slice ia xs.length ic) ∧ w7.cell? ⟨b,off + k * 6 + 5,none⟩ = some (.slice x4 i4 j4):=⟨c7,(HC4.out w7 hcg7).2⟩
  have HEND:Hid (G24 w wo.heap.size w2 os' (xs ++ ys) (.slice va5 sl vc5) v7 (w7.setCell ⟨w.heap.size + 1,1,none⟩ v7)):=ah (HTD.out.putI hown7 hg7 hf7 HEI.out)
  obtain ⟨sl2,hsl2⟩:∃ sl,xs.length + ys.length = sl:=⟨_,rfl⟩
  rw [hsl2] at hown7
  obtain ⟨va7,vc7,rfl⟩:=ay hown7
  obtain ⟨W9,hW9⟩:∃ W,w7.setCell ⟨w.heap.size + 1,1,none⟩ (.slice va7 sl2 vc7) = W:=⟨_,rfl⟩
  rw [hW9] at HEND
  have HW9:=ah hW9
  clear hown7 hg7 hf7 hbx7 hcg7 hW9 hsl2
  go_wp2
  refine ⟨hS7,?_⟩
  refine WL.tk 9 hS7 ?_
  refine WL.la 10 ?_
  go_wp2_with fail
  rw [HW9.out]
  clear c7 k7 HW9 hS7 hS0
  go_roundw
  case rel => exact ⟨k + 1,_,_,by omega,by go_num,by rw [HE1.out,HE2.out];exact HEND.out⟩
  case measure => simp [intOf];omega
 obtain rfl:k = rows.length:=by omega
 rw [HRL.out,List.take_length] at HT
 obtain ⟨os,hos⟩:∃ os,os0 ++ gB ps = os:=⟨_,rfl⟩
 obtain ⟨xs,hxs⟩:∃ xs,xs0 ++ (gB ps).map idO = xs:=⟨_,rfl⟩
 rw [hos,hxs] at HT
 have HEQ2:=ah (And.intro hos hxs)
 clear hos hxs
 obtain ⟨la,lc,rfl⟩:=ay HT.out.ol
 obtain ⟨ia,ic,rfl⟩:=ay HT.out.oi
 have rs:=HT.out.src.range
 have rt:=HT.out.res.there
 go_wp2_with (first
  | refine wpList_load_mid rfl 35 _ rfl (w.heap.size + 1) 0 rfl [.slice la os.length lc,.slice ia xs.length ic] _ rs underlying35 rfl HIS.out ?_
  | refine aj rfl 35 _ _ rfl w.heap.size 0 [.slice la os.length lc,.slice ia xs.length ic] rfl rfl 2 rfl rt HIS.out (by simp [Value.oneCell']) ?_)
 have hbF:Below w.heap.size w (wp.setCells w.heap.size 0 [.slice la os.length lc,.slice ia xs.length ic]):=below_setCells _ (Nat.le_refl _) _ _ _ HT.out.bel
 have hlF:=gX HT.out.ol (own_ne HT.out.ol (show w.heap.size < w.heap.size + 2 by omega)) (o:=0) (us:=[.slice la os.length lc,.slice ia xs.length ic])
 have hiF:=gX HT.out.oi (own_ne HT.out.oi (show w.heap.size < w.heap.size + 2 by omega)) (o:=0) (us:=[.slice la os.length lc,.slice ia xs.length ic])
 refine gU rfl w.heap.size 0 rfl [.slice la os.length lc,.slice ia xs.length ic] _ (World.rangeAt_setCells_same wp w.heap.size 0 _ rt) underlying35 rfl HIS.out rfl ⟨_,_,rfl,?_,?_,hbF⟩
 ·rw [HEQ.out.2.1,HEQ.out.1,HEQ2.out.1]
  exact dD.rW hlF
 rw [HEQ.out.2.2,HEQ.out.1,HEQ2.out.2]
 exact bD.rW hiF HT.out.len
end
end Go.Proofs.YtijhemdnajlfnaaGreatDoor

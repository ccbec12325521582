/- A part of this claim. -/
import Derived.Test.YtijhemdnajlfnaaGreatDoorR35
import Derived.Test.YtijhemdnajlfnaaGreatDoorR44
namespace Go.Proofs.YtijhemdnajlfnaaGreatDoor
open Tryz
set_option maxHeartbeats 64000000
set_option maxRecDepth 100000
set_option linter.all false
section
open Go.RowKit Go.Maps Go.Shelf
def jL (w:World) (f:ByteArray → Option Nat) (ps:List Sp):Prop:=∀ x,x.size ≤ maxLen → (f x = none ∧ ∀ p ∈ ps,p.stem ≠ x) ∨ ∃ b p,f x = some b ∧ p ∈ ps ∧ p.stem = x ∧ PkAt w b p.pk
def fV (w:World) (g:Nat) (ps:List Sp):Prop:=∃ m n f,BoxL w g 104 [.map (some m)] ∧ MapT encP w m n f ∧ n ≤ 1000000 ∧ jL w f ps
theorem jL.below {w w':World} {f:ByteArray → Option Nat} {ps:List Sp} (h:jL w f ps) (hb:Below w.heap.size w w'):jL w' f ps:=fun x hx => (h x hx).imp id fun ⟨b,p,h1,h2,h3,h4⟩ => ⟨b,p,h1,h2,h3,h4.below hb⟩
theorem fV.below {w w':World} {g:Nat} {ps:List Sp} (h:fV w g ps) (hb:Below w.heap.size w w'):fV w' g ps:=by
 obtain ⟨m,n,f,h1,h2,h3,h4⟩:=h
 exact ⟨m,n,f,h1.below hb,h2.on hb,h3,h4.below hb⟩
theorem BN (m:Nat) (w:World):(Instr.build 104 #[(0,.map (some m))]).run prog w = .ok (.agg #[.map (some m)]) w:=run_build w 104 _ _ (by kernel_rfl)
theorem MS (s:ByteArray) (w:World) (hs:s.size ≤ 1000000):Calls prog 34 #[.string s,.string ⟨#[46,112,97,99,107]⟩] w fun e w' => e = .returned (.tuple #[.string (csS s.data.toList bF),.bool (Lib.hasSuffix s.data.toList bF)]) ∧ w' = w :=
 Any.strings_CutSuffix Tryz.lays104 s ⟨#[46,112,97,99,107]⟩ w (by omega)
structure LdSt (w0:World) (d:Dk) (L:List ByteArray) (w:World):Prop where
 box:BoxL w (w0.heap.size + 1) 104 [.map (some w0.heap.size)]
 map:∃ n f,n ≤ L.length ∧ MapT encP w w0.heap.size n f ∧ jL w f (aO d L) ∧ ∀ x b,f x = some b → w0.heap.size < b
 bel:Below w0.heap.size w0 w
theorem LdSt.below {w0 w w':World} {d:Dk} {L:List ByteArray} (h:LdSt w0 d L w) (hb:Below w.heap.size w w'):LdSt w0 d L w':=by
 obtain ⟨h1,⟨n,f,p1,p2,p3,p4⟩,h3⟩:=h
 exact ⟨h1.below hb,⟨n,f,p1,p2.on hb,p3.below hb,p4⟩,h3.trans (hb.mono h3.size)⟩
theorem LdSt.skip {w0 w:World} {d:Dk} {L:List ByteArray} {nm:ByteArray} (h:LdSt w0 d L w) (hp:pkAt d nm = none):LdSt w0 d (L ++ [nm]) w:=by
 obtain ⟨h1,⟨n,f,p1,p2,p3,p4⟩,h3⟩:=h
 refine ⟨h1,⟨n,f,by simp;omega,p2,?_,p4⟩,h3⟩
 rw [u6,hp]
 simpa using p3
def jZ (w w':World):Prop:=w.heap.size ≤ w'.heap.size ∧ ∀ (k:Nat) cs ty fr,w.heap[k]? = some (Obj.cells cs ty fr) → w'.heap[k]? = some (Obj.cells cs ty fr)
theorem qx {w w':World} {a:Addr} {v:Value} (h:w.cell? a = some v) (hk:jZ w w'):w'.heap[a.block]? = w.heap[a.block]?:=by
 unfold World.cell? at h
 cases hb:w.heap[a.block]? with
 | none => rw [hb] at h;cases h
 | some o =>
  rw [hb] at h
  cases o with
  | cells cs t fr => exact hk.2 _ _ _ _ hb
  | _ => cases h
theorem mV {w w':World} {a:Addr} {v:Value} (h:w.cell? a = some v) (hk:jZ w w'):w'.cell? a = some v:=by
 rw [World.cell?_of_block (qx h hk)];exact h
theorem Arr.gJ {w w':World} {b n:Nat} {c:Nat → Value} (h:Arr w b n c) (hk:jZ w w'):Arr w' b n c :=
 ⟨fun j hj => mV (h.cell j hj) hk,fun j hj => by
  rw [World.frozen?_of_block (w:=w) (a:=⟨b,j,none⟩) (qx (h.cell j hj) hk)];exact h.free j hj⟩
theorem Ap {w w':World} {b o:Nat} {cs:List Value} (h:w.rangeAt b o cs) (hk:jZ w w'):w'.rangeAt b o cs:=fun j v hv => mV (h j v hv) hk
theorem aK.gJ {w w':World} {v:Value} {sz:Nat} {rows:List (List Value)} (h:aK w v sz rows) (hk:jZ w w'):aK w' v sz rows:=by
 obtain ⟨ao,cap,rfl,hm,h⟩:=h
 refine ⟨ao,cap,rfl,hm,fun hne => ?_⟩
 obtain ⟨b,off,e,hl,hc⟩:=h hne
 exact ⟨b,off,e,Nat.lt_of_lt_of_le hl hk.1,fun i hi => Ap (hc i hi) hk⟩
theorem BoxL.gJ {w w':World} {b:Nat} {t:TypeId} {cs:List Value} (h:BoxL w b t cs) (hk:jZ w w'):BoxL w' b t cs:=hk.2 _ _ _ _ h
theorem bT.gJ {w w':World} {v:Value} {ss:List ByteArray} (h:bT w v ss) (hk:jZ w w'):bT w' v ss:=by
 obtain ⟨ao,cap,rfl,hm,h⟩:=h
 refine ⟨ao,cap,rfl,hm,fun hne => ?_⟩
 obtain ⟨b,off,e,hl,hc⟩:=h hne
 exact ⟨b,off,e,Nat.lt_of_lt_of_le hl hk.1,fun i hi => mV (hc i hi) hk⟩
theorem PkAt.gJ {w w':World} {g:Nat} {p:Pk} (h:PkAt w g p) (hk:jZ w w'):PkAt w' g p:=by
 obtain ⟨vp,vs,vi,vo,h1,h2,h3,h4,h5⟩:=h
 exact ⟨vp,vs,vi,vo,h1.gJ hk,aK.gJ h2 hk,aK.gJ h3 hk,aK.gJ h4 hk,aK.gJ h5 hk⟩
theorem vL {α:Type} {enc:α → Value} {w w':World} {m n:Nat} {f:ByteArray → Option α} (h:MapT enc w m n f) (hg:w.grownBy w' (some m)):jZ w w':=by
 refine ⟨hg.size,fun k cs ty fr hk => ?_⟩
 obtain ⟨D,⟨es,clock,hb,_⟩,_⟩:=h
 exact (hg.block k (Array.getElem?_eq_some_iff.1 hk).1 (fun e => by
  rw [Option.some.inj e,hb] at hk
  cases hk)).trans hk
theorem jL.gJ {w w':World} {f:ByteArray → Option Nat} {ps:List Sp} (h:jL w f ps) (hk:jZ w w'):jL w' f ps:=fun x hx => (h x hx).imp id fun ⟨b,p,h1,h2,h3,h4⟩ => ⟨b,p,h1,h2,h3,h4.gJ hk⟩
theorem LdSt.put {w0 w w':World} {d:Dk} {L:List ByteArray} {nm:ByteArray} {p:Sp} {gp:Nat} {n:Nat} {f:ByteArray → Option Nat} (h:LdSt w0 d L w) (hp:pkAt d nm = some p)
  (p1:n ≤ L.length) (p2:MapT encP w w0.heap.size n f) (p3:jL w f (aO d L)) (p4:∀ x b,f x = some b → w0.heap.size < b) (hgp:w0.heap.size < gp) (hpk:PkAt w gp p.pk)
  (hm:MapT encP w' w0.heap.size (n + 1) fun x => if x = p.stem then some gp else f x) (hg:w.grownBy w' (some w0.heap.size)):LdSt w0 d (L ++ [nm]) w':=by
 have hk:=vL p2 hg
 refine ⟨h.box.gJ hk,⟨n + 1,_,by simp;omega,hm,?_,fun x b hx => ?_⟩,h.bel.grown hg h.bel.size (fun j e => by rw [← Option.some.inj e];exact Nat.le_refl _)⟩
 ·rw [u6,hp]
  intro x hx
  by_cases e:x = p.stem
  ·exact .inr ⟨gp,p,if_pos e,by simp,e.symm,hpk.gJ hk⟩
  dsimp only
  rw [if_neg e]
  rcases p3.gJ hk x hx with ⟨q1,q2⟩ | ⟨b,q,q1,q2,q3,q4⟩
  ·refine .inl ⟨q1,fun q hq => ?_⟩
   rcases List.mem_append.1 hq with hq | hq
   ·exact q2 q hq
   have:q = p:=by simpa using hq
   rw [this];exact fun h => e h.symm
  exact .inr ⟨b,q,q1,List.mem_append_left _ q2,q3,q4⟩
 split at hx
 ·cases hx;exact hgp
 exact p4 x b hx
theorem CX (g:Nat) (d:Dk) (l:List ByteArray) (w:World) (h:fu w g d) (hl:AscT l) (hm:∀ y,y ∈ l ↔ (d 1 y).isSome = true) (hz:∀ y ∈ l,aX y = true) (hlen:l.length ≤ 1000000) (hd:∀ k nm s,d k nm = some s → s.size ≤ 1000000) (hG:Glob w) :
  Calls prog 15 #[.pointer (some ⟨g,0,none⟩)] w fun e w' => ∃ s,e = .returned (.pointer (some ⟨s,0,none⟩)) ∧ fV w' s (aO d l) ∧ w.heap.size ≤ s ∧ Below w.heap.size w w':=by
 have hmm:=@run_makeMap prog
 have hbd:=BN
 obtain ⟨W,hW⟩:∃ W,(w.alloc (.map #[] 0)).alloc (.cells #[.map (some w.heap.size)] 104) = W:=⟨_,rfl⟩
 have hbW:Below w.heap.size w W:=by rw [← hW];exact bal.alloc (by simp) _
 have HST:Hid (LdSt w d [] W):=ah ⟨by
   rw [← hW]
   have:=BoxL.new (w.alloc (.map #[] 0)) 104 [.map (some w.heap.size)]
   rwa [World.size_alloc] at this,⟨0,_,Nat.le_refl _,by rw [← hW];exact (nE (enc:=encP) w).on bal,fun x _ => .inl ⟨rfl,fun p hp => by cases hp⟩,fun x b hx => by cases hx⟩,hbW⟩
 have HW:=ah hW
 have HB:=ah hbW
 have HLs:=ah (nJ g d bn 1 l W (h.below hbW) (by decide) rfl hl hm (fun y hy => by have:=lJ (hz y hy);omega))
 have HD:=ah h
 have HASC:=ah hl
 have HM:=ah hm
 have HZ:=ah hz
 have HLN:=ah hlen
 have HSZ:=ah hd
 have HG:=ah hG
 clear hW hbW h hl hm hz hlen hd hG
 go_enter func15,ntmps15
 go_upto_region 2 with fail
 rw [HW.out]
 go_wp2_with fail
 refine HLs.out.mono ?_
 rintro e w1 ⟨v,rfl,hv,hb1⟩
 have hv0:=hv
 obtain ⟨ao,cap,rfl,hmax,hv⟩:=hv
 have HV:=ah hv0
 have HS1:=ah (HST.out.below hb1)
 have HB1:=bth HB hb1
 clear hv hv0 hb1 HST HB HW
 obtain ⟨n0,hn0⟩:∃ n0,w.heap.size = n0:=⟨_,rfl⟩
 have HN0:=ah hn0
 rw [hn0]
 clear hn0
 go_wp2_with fail
 go_loopw [5,6,7,8,9,10,11,18] (fun _ _ _ _ _ _ _ i wr => ∃ k:Nat,k ≤ l.length ∧ i = .int .i64 (k:Int) ∧ Hid (LdSt w d (l.take k) wr) ∧ Hid (bT wr (.slice ao l.length cap) l)) (fun _ _ _ _ _ _ _ i _ => (l.length - intOf i).toNat)
 case atStart => exact ⟨0,by omega,rfl,HS1,HV⟩
 obtain ⟨wo,rfl⟩:∃ wo:World,wo = wr:=⟨_,rfl⟩
 obtain ⟨k,hk,rfl,HS,HVK⟩:=hrel
 by_cases hlt:k < l.length
 ·obtain ⟨ao2,cap2,e2,_,hv2⟩:=HVK.out
  cases e2
  obtain ⟨b,off,rfl,hbl,hcell⟩:=hv2 (by intro e;rw [e] at hlt;simp at hlt)
  have c0:=hcell k hlt
  have k0:(0:Int) ≤ k:=by omega
  have k1:(k:Int) < l.length:=by omega
  have wk:IntKind.i64.wrap ((k:Int) + 1) = (k:Int) + 1:=IntWalk.i64_in _ (by unfold maxLen at hmax;omega)
  have HMEM:=ah (List.getElem_mem hlt)
  have HT:=ah (List.take_succ_eq_append_getElem hlt)
  generalize l[k] = nm at c0 HMEM HT
  have hfin:=HZ.out nm HMEM.out
  have hns:=lJ hfin
  have HPC:=ah (Cq nm)
  have HCU:=ah (MS nm wo (by omega))
  have HIS:=ah (fun W => vN (csS nm.data.toList bF) W)
  have HWO:=ah HS.out.bel
  have hstz:(csS nm.data.toList bF).size ≤ 1000000:=by
   have:(csS nm.data.toList bF).size ≤ nm.size:=by
    rw [Lib.size_eq nm,Lib.size_eq]
    show (Lib.trimSuffix nm.data.toList bF).length ≤ _
    unfold Lib.trimSuffix
    split
    ·rw [List.length_take];omega
    exact Nat.le_refl _
   omega
  have HSTZ:=ah hstz
  obtain ⟨s,hs⟩:∃ s,(d 1 nm) = some s:=by
   have:=(HM.out nm).1 HMEM.out
   exact Option.isSome_iff_exists.1 this
  have hsz:=HSZ.out 1 nm s hs
  have HRD:=ah (fun W (hb:Below wo.heap.size wo W) => jV g d bn nm W (HD.out.below (HWO.out.trans (hb.mono HWO.out.size))) (by decide) (by omega))
  have HRDD:Hid (rdD d bn nm = (s,0)):=ah (by
   unfold rdD
   rw [if_pos hfin,show aP bn = some 1 from rfl]
   dsimp only
   rw [hs])
  have HPK:Hid (pkAt d nm = if pkNm nm = true then (match dJ s with
   | none => none
   | some p => some ⟨ofB (nm.data.toList.take 8),s,p⟩) else none):=ah (by
   unfold pkAt
   rw [hs];rfl)
  clear hcell hv2 hs hstz hfin
  cases hsf:Lib.hasSuffix nm.data.toList bF with
  | false =>
   rw [hsf] at HCU HPC
   have HEND:Hid (LdSt w d (l.take (k + 1)) wo):=ah (by
    rw [HT.out]
    exact HS.out.skip (by rw [HPK.out,HPC.out,Bool.false_and,if_neg (by simp)]))
   clear hsf
   go_wp2_with fail
   refine HCU.out.mono ?_
   rintro e w2 ⟨rfl,rfl⟩
   go_wp2_with fail
   go_roundw
   case rel => exact ⟨k + 1,by omega,by go_num,HEND,HVK⟩
   case measure => simp [intOf];omega
  | true =>
   rw [hsf,Bool.true_and] at HPC
   rw [hsf] at HCU
   cases hst:mO (csS nm.data.toList bF) with
   | false =>
    rw [hst] at HPC HIS
    clear hsf hst
    go_wp2_with fail
    refine HCU.out.mono ?_
    rintro e w2 ⟨rfl,rfl⟩
    go_wp2_with fail
    refine (HIS.out _ HSTZ.out).mono ?_
    rintro e w3 ⟨rfl,hb3⟩
    have HEND:Hid (LdSt w d (l.take (k + 1)) w3):=ah (by
     rw [HT.out]
     exact (HS.out.below hb3).skip (by rw [HPK.out,HPC.out,if_neg (by simp)]))
    have HV3:=ah (HVK.out.below hb3)
    clear hb3
    go_wp2_with fail
    go_roundw
    case rel => exact ⟨k + 1,by omega,by go_num,HEND,HV3⟩
    case measure => simp [intOf];omega
   | true =>
    rw [hst] at HPC HIS
    rw [HPC.out,if_pos rfl] at HPK
    have HSTE:=ah (ni HPC.out).1
    clear hsf hst
    go_wp2_with fail
    refine HCU.out.mono ?_
    rintro e w2 ⟨rfl,rfl⟩
    go_wp2_with fail
    refine (HIS.out _ HSTZ.out).mono ?_
    rintro e w3 ⟨rfl,hb3⟩
    have HR:=ah (HRD.out w3 hb3)
    unfold lN at HR
    rw [HRDD.out] at HR
    dsimp only at HR
    have HV3:=ah (HVK.out.below hb3)
    have HS3:=ah (HS.out.below hb3)
    clear hb3
    go_wp2_with fail
    refine HR.out.mono ?_
    rintro e w4 ⟨rfl,hb4⟩
    have HV4:=ah (HV3.out.below hb4)
    have HS4:=ah (HS3.out.below hb4)
    have HP4:=ah (Ja s w4 hsz (HG.out.below HS4.out.bel))
    unfold Ho at HP4
    clear hb4 HR
    cases hop:dJ s with
    | none =>
     rw [hop] at HP4 HPK
     dsimp only at HP4 HPK
     clear hop
     go_wp2_with fail
     refine HP4.out.mono ?_
     rintro e w5 ⟨rfl,hb5⟩
     have HEND:Hid (LdSt w d (l.take (k + 1)) w5):=ah (by
      rw [HT.out]
      exact (HS4.out.below hb5).skip HPK.out)
     have HV5:=ah (HV4.out.below hb5)
     clear hb5
     go_wp2_with fail
     go_roundw
     case rel => exact ⟨k + 1,by omega,by go_num,HEND,HV5⟩
     case measure => simp [intOf];omega
    | some p =>
     rw [hop] at HP4 HPK
     dsimp only at HP4 HPK
     clear hop
     go_wp2_with fail
     refine HP4.out.mono ?_
     rintro e w5 ⟨⟨gp,rfl,hpk,hgp⟩,hb5⟩
     have HV5:=ah (HV4.out.below hb5)
     have HS5:=ah (HS4.out.below hb5)
     have HPK5:=ah hpk
     have HGP:Hid (w.heap.size < gp):=ah (by have h1:=HS4.out.box.lt;omega)
     obtain ⟨n,f,p1,p2,p3,p4⟩:=HS5.out.map
     have d0:w5.cell? ⟨w.heap.size + 1,0,none⟩ = some (.map (some w.heap.size)):=HS5.out.box.range 0 _ rfl
     have HP1:=ah p1
     have HP2:=ah p2
     have HP3:=ah p3
     have HP4':=ah p4
     have hnm:n < maxLen:=by
      have h1:=HLN.out
      rw [List.length_take] at p1
      unfold maxLen;omega
     have hsm:(csS nm.data.toList bF).size ≤ maxLen:=by have:=HSTZ.out;unfold maxLen;omega
     rw [HN0.out] at d0 HP2
     clear hb5 hpk hgp p1 p2 p3 p4
     go_wp2_with (refine fK (enc:=encP) rfl _ _ _ 102 112 rfl underlying102 n0 n f rfl HP2.out (csS nm.data.toList bF) hsm gp rfl rfl hnm ?_)
     intro w' hm hg _
     have HEND:Hid (LdSt w d (l.take (k + 1)) w'):=ah (by
      rw [HT.out]
      rw [← HN0.out] at hm hg
      rw [HSTE.out] at hm
      exact HS5.out.put HPK.out HP1.out (by rw [HN0.out];exact HP2.out) HP3.out HP4'.out HGP.out HPK5.out hm hg)
     have HV6:=ah (HV5.out.gJ (vL HP2.out hg))
     clear hm hg
     go_wp2_with fail
     go_roundw
     case rel => exact ⟨k + 1,by omega,by go_num,HEND,HV6⟩
     case measure => simp [intOf];omega
 obtain rfl:k = l.length:=by omega
 rw [List.take_length] at HS
 go_wp2_with fail
 go_ret
 obtain ⟨n,f,p1,p2,p3,_⟩:=HS.out.map
 have h1:=HLN.out
 exact ⟨n0 + 1,rfl,⟨w.heap.size,n,f,by rw [← HN0.out];exact HS.out.box,p2,by omega,p3⟩,by rw [HN0.out];omega,HS.out.bel⟩
end
section
open Go.RowKit Go.Maps
structure Flw where
 kind:Nat
 dir:ByteArray
 name:ByteArray
def fwC (f:Flw):List Value:=[.int .i64 (f.kind:Int),.string f.dir,.string f.name]
def fwsF (l:List Flw):List Value:=l.flatMap fwC
theorem JQ (l:List Flw) (f:Flw):fwsF (l ++ [f]) = fwsF l ++ fwC f:=by unfold fwsF;rw [List.flatMap_append];simp
theorem Md:∃ i0:TypeInfo,prog.info? 50 = some i0 ∧ i0.zero = some (.agg #[.int .i64 0,.string ⟨#[]⟩,.string ⟨#[]⟩]) ∧ i0.size = 3 ∧ i0.bytes = 40:=⟨_,rfl,by kernel_rfl,by kernel_rfl,by kernel_rfl⟩
theorem Mx (k:Int) (d n:ByteArray) (w:World):(Instr.build 50 #[(0,.int .i64 k),(1,.string d),(2,.string n)]).run prog w = .ok (.agg #[.int .i64 k,.string d,.string n]) w:=run_build w 50 _ _ (by kernel_rfl)
def LkAt (B gl dk:Nat) (F:List Flw) (w:World):Prop:=∃ lv,BoxL w gl 97 [.pointer (some ⟨dk,0,none⟩),lv] ∧ B ≤ gl ∧ w.ownsRow B 50 3 lv F.length (fwsF F) ∧ B ≤ w.heap.size
def Nh (w w':World):Prop:=w.heap.size ≤ w'.heap.size ∧ ∀ (k:Nat) (o:Obj),w.heap[k]? = some o → (∀ cs fr,o ≠ Obj.cells cs 50 fr) → (∀ cs fr,o ≠ Obj.cells cs 97 fr) → w'.heap[k]? = some o
theorem LkAt.below {B gl dk:Nat} {F:List Flw} {w w':World} (h:LkAt B gl dk F w) (hb:Below w.heap.size w w'):LkAt B gl dk F w':=by
 obtain ⟨lv,h1,h2,h3,h4⟩:=h
 exact ⟨lv,h1.below hb,h2,own_below h3 hb,Nat.le_trans h4 hb.size⟩
theorem qI {ops:Array Oper} {rest:List Oper} {o:Oper} {a:Act} {Q:Exit → Act → World → Prop} (w:World) (hg:o.guard = none) (s x:Operand) (hop:o.op = Op.call { callee:=Callee.builtin Builtin.append,args:=#[s,x],argTypes:=#[47,47] })
  (base:Nat) (v:Value) (n:Nat) (xs:List Value) (hs:a.eval s = v) (hown:w.ownsRow base 50 3 v n xs) (b:Nat) (p:Flw) (hx:a.eval x = .slice (some ⟨b,0,none⟩) 1 1) (hr:w.rangeAt b 0 (fwC p)) (hn:n ≤ 10000000) (hbase:base ≤ w.heap.size)
  (hK:∀ v' w',w'.ownsRow base 50 3 v' (n + 1) (xs ++ fwC p) → w.grownBy w' v.ownBlock → Fr w v v' → wpList prog ops Q rest (a.put o.dst v') w'):wpList prog ops Q (o :: rest) a w:=by
 obtain ⟨i0,hi,hz0,hz1,hz2⟩:=Md
 refine aR w hg s x 47 hop base 50 i0 _ 3 40 underlying47 hi hz0 hz1 hz2 rfl (by decide) v n xs hs hown ⟨b,0,none⟩ 1 1 (fwC p) hx rfl (fun j u hu => ?_) (fun u hu => ?_) (by unfold maxLen;omega) (by omega) hbase hK
 ·have:=hr j u hu
  rw [Addr.add_mid]
  exact this
 unfold fwC at hu
 simp at hu
 rcases hu with rfl | rfl | rfl <;> rfl
theorem Dv (B gl dk:Nat) (F:List Flw) (k:Nat) (dir nm:ByteArray) (w:World) (h:LkAt B gl dk F w) (hn:F.length ≤ 1000000) :
  Calls prog 50 #[.pointer (some ⟨gl,0,none⟩),.int .i64 (k:Int),.string dir,.string nm] w fun e w' => e = .returned (.tuple #[]) ∧ LkAt B gl dk (F ++ [⟨k,dir,nm⟩]) w' ∧ Below B w w' ∧ Nh w w':=by
 have hbd:=Mx
 obtain ⟨lv,hx,hB,ho,hBw⟩:=h
 have c1:w.cell? ⟨gl,1,none⟩ = some lv:=hx.range 1 _ rfl
 have hgl:=hx.lt
 obtain ⟨W,hW⟩:∃ W,w.alloc (.cells (fwC ⟨k,dir,nm⟩).toArray 50) = W:=⟨_,rfl⟩
 have hbW:Below w.heap.size w W:=by rw [← hW];exact bal
 have HRN:Hid (W.rangeAt w.heap.size 0 (fwC ⟨k,dir,nm⟩)):=ah (by rw [← hW];exact (BoxL.new w 50 (fwC ⟨k,dir,nm⟩)).range)
 have HX:=ah (hx.below hbW)
 have HO:=ah (own_below ho hbW)
 have HOW:=ah ho
 have HXW:=ah hx
 have HB:=ah hbW
 have HW:=ah hW
 have hne:lv.ownBlock ≠ some gl:=fun e => by
  rcases ho.2 with ⟨rfl,_⟩ | ⟨g,cap,cur,rfl,_,hg,_⟩
  ·cases e
  have e2:g = gl:=Option.some.inj e
  subst e2
  have h2:w.heap[g]? = _:=hx
  rw [hg] at h2
  injection h2 with h2
  injection h2 with _ h3
  exact absurd h3 (by decide)
 have HNE:=ah hne
 have HBB:=ah hB
 have HBS:Hid (B ≤ W.heap.size):=ah (Nat.le_trans hBw hbW.size)
 obtain ⟨vo,vc,rfl⟩:=ay ho
 clear hW hbW ho hx hne hB
 obtain ⟨n,hnn⟩:∃ n,F.length = n:=⟨_,rfl⟩
 rw [hnn] at HO HOW c1 HX HXW hn HNE
 have HNN:=ah hnn
 clear hnn
 go_enter func50,ntmps50
 go_wp2_with (first
  | (rw [HW.out];refine qI _ rfl _ _ rfl B _ n (fwsF F) rfl HO.out w.heap.size ⟨k,dir,nm⟩ rfl HRN.out (by omega) HBS.out ?_)
  | (refine av rfl _ _ 50 rfl (fwC ⟨k,dir,nm⟩) #[.int .i64 0,.string ⟨#[]⟩,.string ⟨#[]⟩] rfl underlying47 (fun w => by kernel_rfl) (fun w => by kernel_rfl) (by simp [fwC]) (by simp [fwC]) ?_))
 intro v2 w2 hown2 hg2 hfr2
 have hx2:=HX.out.kept hg2 (fun e => HNE.out e.symm)
 have k1:w2.cell? ⟨gl,1,none⟩ = some (.slice vo n vc):=hx2.range 1 _ rfl
 have k1f:w2.frozen? ⟨gl,1,none⟩ = false:=by have:=(hx2.there 1 (by simp)).2;rwa [Nat.zero_add] at this
 have HX2:=ah hx2
 have HO2:=ah hown2
 have HG2:=ah hg2
 obtain ⟨vo2,vc2,rfl⟩:=ay hown2
 clear hown2 hg2 hx2 hfr2 c1
 go_wp2_with fail
 go_end0
 have hset:Chg (fun k => k = gl) w2 (w2.setCell ⟨gl,1,none⟩ (.slice vo2 (n + 1) vc2)):=⟨rfl,rfl,rfl,by simp [World.setCell],fun k _ hk => Below.heap_setCell _ _ _ _ hk⟩
 have hbl:Below w.heap.size w W:=HB.out
 have hne2:(Value.slice vo2 (n + 1) vc2).ownBlock ≠ some gl:=fun e => by
  rcases HO2.out.2 with ⟨e1,_⟩ | ⟨g,cap,cur,e1,_,hg,_⟩
  ·rw [e1] at e;cases e
  rw [e1] at e
  have e2:g = gl:=Option.some.inj e
  subst e2
  have h2:w2.heap[g]? = _:=HX2.out
  rw [hg] at h2
  injection h2 with h2
  injection h2 with _ h3
  exact absurd h3 (by decide)
 have hown3:(w2.setCell ⟨gl,1,none⟩ (.slice vo2 (n + 1) vc2)).ownsRow B 50 3 (.slice vo2 (n + 1) vc2) (n + 1) (fwsF F ++ fwC ⟨k,dir,nm⟩):=by
  refine ⟨HO2.out.1,HO2.out.2.imp id ?_⟩
  rintro ⟨g,cap,cur,e1,e2,e3,rest⟩
  refine ⟨g,cap,cur,e1,e2,?_,rest⟩
  rw [Below.heap_setCell _ _ _ _ (show g ≠ gl from fun e => hne2 (by rw [e1,e];rfl))]
  exact e3
 refine ⟨rfl,⟨_,HX2.out.put 1 (.slice vo2 (n + 1) vc2),HBB.out,?_,Nat.le_trans HBS.out (Nat.le_trans HG2.out.size hset.size)⟩,?_,?_,?_⟩
 ·rw [JQ,List.length_append,HNN.out];exact hown3
 ·have h1:Below B w W:=hbl.mono hBw
  have h2:Below B w w2:=h1.grown HG2.out HBS.out (fun j e => (HO.out.lt j e).1)
  exact h2.trans ⟨rfl,rfl,rfl,by simp [World.setCell],fun j hj => Below.heap_setCell _ _ _ _ (by show j ≠ gl;have:=HBB.out;omega)⟩
 ·exact Nat.le_trans hbl.size (Nat.le_trans HG2.out.size hset.size)
 intro j o hj h1 h2
 have hlj:j < w.heap.size:=(Array.getElem?_eq_some_iff.1 hj).1
 have hjl:j ≠ gl:=fun e => by
  subst e
  have:=HXW.out
  unfold BoxL at this
  rw [hj] at this
  exact h2 _ _ (Option.some.inj this)
 rw [Below.heap_setCell _ _ _ _ hjl]
 have hjo:some j ≠ (Value.slice vo n vc).ownBlock:=fun e => by
  rcases HOW.out.2 with ⟨e1,_⟩ | ⟨g,cap,cur,e1,_,hg,_⟩
  ·rw [e1] at e;cases e
  rw [e1] at e
  have e2:j = g:=Option.some.inj e
  subst e2
  rw [hj] at hg
  exact h1 _ _ (Option.some.inj hg)
 exact (HG2.out.block j (Nat.lt_of_lt_of_le hlj hbl.size) hjo).trans ((hbl.block j hlj).trans hj)
end
section
open Go.RowKit Go.Maps Go.Sort Go.Shelf
theorem Fx (mb:Option Nat) (w:World):Calls prog 91 #[.map mb] w fun e w' => e = .returned (.func (.func 154) #[] #[.pointer (some ⟨w.heap.size,0,none⟩)]) ∧ w' = w.alloc (.cells #[.map mb] 102) :=
 callsIn_wide.1 (AnyZ.keys_in Tryz.keysP Fence.wide 5 trivial rfl mb w)
theorem Af {α:Type} {enc:α → Value} (b n:Nat) (f:ByteArray → Option α) (l:List ByteArray) (w:World) (hm:MapT enc w b n f) (hn:n ≤ 1000000) (hl:AscT l) (hL:∀ x,x.size ≤ maxLen → ((f x).isSome = true ↔ x ∈ l)) (hz:∀ x ∈ l,x.size ≤ maxLen) :
  Calls prog 70 #[.func (.func 154) #[] #[.pointer (some ⟨w.heap.size,0,none⟩)]] (w.alloc (.cells #[.map (some b)] 102)) fun e w' => ∃ v,e = .returned v ∧ bT w' v l ∧ Below w.heap.size w w':=by
 obtain ⟨D,hown,hs⟩:=hm
 have hbl:=hown.lt
 have hsz:Maps.size D ≤ 1000000:=Nat.le_trans hown.size_le hn
 have hseq:SeqGives Fence.wide 2 prog 154 #[.pointer (some ⟨w.heap.size,0,none⟩)] encStr (fun ss => ss.Perm (strKeys D)) (Maps.size D) (w.alloc (.cells #[.map (some b)] 102)) :=
  AnyZ.keys_gives (ρ:=Tryz.keysP_ren) { Tryz.keysP with } Fence.wide _ trivial rfl (by omega) w.heap.size b n D _ (by simp) (by simp) (by
   obtain ⟨es,clock,hb,Ft,hs,hD⟩:=hown
   exact ⟨es,clock,(Below.heap_alloc _ _ b hbl).trans hb,Ft,hs,hD⟩)
 have h:=callsIn_wide.1 (AnyZ.sorted_in Tryz.sortedS Fence.wide 5 trivial trivial trivial trivial rfl (by omega) (KN _) (enters_of func137 (by kernel_rfl) rfl) 154 #[.pointer (some ⟨w.heap.size,0,none⟩)] trivial (enters_of func154 (by kernel_rfl) rfl) _ _ (by unfold maxLen;omega) (by omega) _ hseq)
 refine h.mono ?_
 rintro e w' ⟨v,ss,he,hS,hrow,_,hb⟩
 obtain ⟨e1,e2⟩:=rZ hown hs hl hL hz hS
 rw [e1,e2] at hrow
 refine ⟨v,he,bT.aS hrow,((Below.refl _ w).alloc (Nat.le_refl _) _).trans (hb.mono (by simp))⟩
theorem jL.KO {w:World} {f:ByteArray → Option Nat} {ps:List Sp} (h:jL w f ps) (x:ByteArray) (hx:x.size ≤ maxLen):(f x).isSome = true ↔ x ∈ ps.map Sp.stem:=by
 rw [List.mem_map]
 rcases h x hx with ⟨h1,h2⟩ | ⟨b,p,h1,h2,h3,_⟩
 ·rw [h1]
  exact ⟨fun h => (by cases h),fun ⟨p,hp,e⟩ => absurd e (h2 p hp)⟩
 rw [h1]
 exact ⟨fun _ => ⟨p,h2,h3⟩,fun _ => rfl⟩
theorem yu (g:Nat) (ps:List Sp) (w:World) (h:fV w g ps) (ha:AscT (ps.map Sp.stem)) (hz:∀ p ∈ ps,p.stem.size = 8):Calls prog 52 #[.pointer (some ⟨g,0,none⟩)] w fun e w' => ∃ v,e = .returned v ∧ bT w' v (ps.map Sp.stem) ∧ Below w.heap.size w w':=by
 obtain ⟨m,n,f,hx,hm,hn,hs⟩:=h
 have c0:w.cell? ⟨g,0,none⟩ = some (.map (some m)):=hx.range 0 _ rfl
 have HS:=ah (Af m n f (ps.map Sp.stem) w hm hn ha hs.KO (fun x hx => by
  obtain ⟨p,hp,rfl⟩:=List.mem_map.1 hx
  rw [hz p hp];unfold maxLen;omega))
 have HK:=ah (Fx (some m) w)
 obtain ⟨W,hW⟩:∃ W,w.alloc (.cells #[.map (some m)] 102) = W:=⟨_,rfl⟩
 rw [hW] at HS HK
 clear hW hx hm hs ha hz
 go_enter func52,ntmps52
 go_wp2_with fail
 refine HK.out.mono ?_
 rintro e w2 ⟨rfl,rfl⟩
 go_wp2_with fail
 refine HS.out.mono ?_
 rintro e w3 ⟨v,rfl,hv,hb3⟩
 have HB3:=ah hb3
 have HV:=ah hv
 clear hv hb3
 go_wp2_with fail
 go_ret
 exact ⟨v,rfl,HV.out,HB3.out⟩
theorem MG (l:List Ob) (x:List UInt8):l.find? (fun o => decide (idO o = x)) = if 0 ≤ plI (l.map idO) x then l[(plI (l.map idO) x).toNat]? else none:=by
 unfold plI
 by_cases h:x ∈ l.map idO
 ·rw [if_pos h,if_pos (by omega),Int.toNat_natCast]
  induction l with
  | nil => cases h
  | cons o l ih =>
   rw [List.find?_cons,List.map_cons,List.idxOf_cons]
   by_cases e:idO o = x
   ·rw [decide_eq_true e,beq_iff_eq.2 e];rfl
   have hb:(idO o == x) = false:=by rw [beq_eq_false_iff_ne];exact e
   rw [decide_eq_false e,hb]
   have h2:x ∈ l.map idO:=(List.mem_cons.1 h).resolve_left (fun h => e h.symm)
   rw [ih h2]
   rfl
 rw [if_neg h,if_neg (by omega),List.find?_eq_none]
 intro o ho e
 exact h (by rw [← of_decide_eq_true e];exact List.mem_map_of_mem ho)
theorem Jb (l:List Ob) (x:List UInt8):(∃ (i:Nat) (h:i < l.length),plI (l.map idO) x = (i:Int) ∧ l.find? (fun o => decide (idO o = x)) = some l[i]) ∨ (plI (l.map idO) x = -1 ∧ l.find? (fun o => decide (idO o = x)) = none):=by
 rw [MG]
 unfold plI
 by_cases h:x ∈ l.map idO
 ·have hi:(l.map idO).idxOf x < l.length:=by
   have:=List.idxOf_lt_length_iff.2 h
   rwa [List.length_map] at this
  refine .inl ⟨(l.map idO).idxOf x,hi,if_pos h,?_⟩
  rw [if_pos h,if_pos (by omega),Int.toNat_natCast,List.getElem?_eq_getElem hi]
 refine .inr ⟨if_neg h,?_⟩
 rw [if_neg h,if_neg (by omega)]
theorem nR (ps:List Sp) (p:Sp) (x:List UInt8):dw (ps ++ [p]) x = (dw ps x).or (p.pk.obs.find? fun o => decide (idO o = x)):=by
 unfold dw
 rw [List.findSome?_append]
 congr 1
 simp
theorem BO {ps:List Sp} {x:List UInt8} {k:Nat} (hk:k < ps.length) (h0:dw (ps.take k) x = none) {o:Ob} (h:(ps[k].pk.obs.find? fun o => decide (idO o = x)) = some o):dw ps x = some o:=by
 have e:ps = ps.take (k + 1) ++ ps.drop (k + 1):=(List.take_append_drop _ _).symm
 rw [e]
 unfold dw
 rw [List.findSome?_append]
 have h2:dw (ps.take (k + 1)) x = some o:=by
  rw [List.take_succ_eq_append_getElem hk,nR,h0,h];rfl
 unfold dw at h2
 rw [h2];rfl
theorem BI:∀ {ps:List Sp},AscT (ps.map Sp.stem) → ∀ {p q:Sp},p ∈ ps → q ∈ ps → p.stem = q.stem → p = q
 | [],_,_,_,h,_,_ => by cases h
 | r :: ps,ha,p,q,hp,hq,e => by
  unfold AscT at ha
  rw [List.map_cons,List.pairwise_cons] at ha
  rcases List.mem_cons.1 hp with h1 | h1 <;> rcases List.mem_cons.1 hq with h2 | h2
  ·rw [h1,h2]
  ·have:=ha.1 _ (List.mem_map_of_mem h2)
   rw [← e,h1,bS] at this;cases this
  ·have:=ha.1 _ (List.mem_map_of_mem h1)
   rw [e,h2,bS] at this;cases this
  exact BI ha.2 h1 h2 e
def sM (r:Option Ob) (w:World) (e:Ending) (w':World):Prop :=
 (match r with
 | none => e = .returned (.tuple #[.agg #[.int .i64 0,.string ⟨#[]⟩],.bool false])
 | some o => e = .returned (.tuple #[.agg (obC o).toArray,.bool true])) ∧ Below w.heap.size w w'
theorem CJ {r:Option Ob} {w w':World} (h:r = none) (hb:Below w.heap.size w w'):sM r w (.returned (.tuple #[.agg #[.int .i64 0,.string ⟨#[]⟩],.bool false])) w':=⟨by rw [h],hb⟩
theorem qR {r:Option Ob} {o:Ob} {c:List Value} {w w':World} (h:r = some o) (hc:obC o = c) (hb:Below w.heap.size w w'):sM r w (.returned (.tuple #[.agg c.toArray,.bool true])) w':=⟨by rw [h,← hc],hb⟩
theorem Hw (w:World):(zeroValue 112).run prog w = .ok (.pointer none) w:=by kernel_rfl
theorem Iq (g:Nat) (ps:List Sp) (x:List UInt8) (w:World) (h:fV w g ps) (ha:AscT (ps.map Sp.stem)) (hz:∀ p ∈ ps,p.stem.size = 8) (hf:∀ p ∈ ps,Bj p.pk) (hx:x.length = 32) :
  Calls prog 328 #[.pointer (some ⟨g,0,none⟩),.agg (idC x).toArray] w (sM (dw ps x) w):=by
 have hbn:=vC
 have h32x:(prog.info? 24).map (·.size) = some (idC x).length:=by rw [aD,hx];kernel_rfl
 obtain ⟨W0,hW0⟩:∃ W,(w.alloc (.cells (idC x).toArray 24)).alloc (.cells #[.int .i64 0,.string ⟨#[]⟩] 40) = W:=⟨_,rfl⟩
 have HI0:Hid (BoxL W0 w.heap.size 24 (idC x)):=ah (by
  rw [← hW0]
  exact (BoxL.new w 24 (idC x)).below bal)
 have HX0:Hid (BoxL W0 (w.heap.size + 1) 40 [.int .i64 0,.string ⟨#[]⟩]):=ah (by
  rw [← hW0]
  have:=BoxL.new (w.alloc (.cells (idC x).toArray 24)) 40 [.int .i64 0,.string ⟨#[]⟩]
  rwa [World.size_alloc] at this)
 have HB0:Hid (Below w.heap.size w W0):=ah (by rw [← hW0];exact bal.alloc (by simp) _)
 have HST:=ah (yu g ps W0 (h.below HB0.out) ha hz)
 have HSH:=ah h
 have HPF:=ah (fun (W:World) (b:Nat) (p:Pk) (hp:PkAt W b p) => Jf b p x W hp hx)
 have HF:=ah hf
 have HZ:=ah hz
 have HA:=ah ha
 have HIO:=ah aF
 have HXL:=ah hx
 have HW0:=ah hW0
 clear hW0 h ha hz hf hx
 generalize idC x = cx at HI0 HW0 h32x HPF ⊢
 go_enter func328,ntmps328
 go_upto_region 1 with fail
 rw [HW0.out]
 go_wp2_with fail
 refine HST.out.mono ?_
 rintro e w1 ⟨v,rfl,hv,hb1⟩
 have hv0:=hv
 obtain ⟨ao,cap,rfl,hmax,hv⟩:=hv
 have HV:=ah hv0
 have HB1:=bth HB0 hb1
 have HI1:=ah (HI0.out.below hb1)
 have HX1:=ah (HX0.out.below hb1)
 clear hv hv0 hb1 HB0 HW0 HST HI0 HX0
 rw [List.length_map] at hmax ⊢
 go_wp2_with fail
 go_loopw [7,8,9,16] (fun _ _ _ i wr => ∃ k:Nat,k ≤ ps.length ∧ i = .int .i64 (k:Int) ∧ Hid (dw (ps.take k) x = none) ∧ Hid (Below w1.heap.size w1 wr)) (fun _ _ _ i _ => (ps.length - intOf i).toNat)
 case atStart => exact ⟨0,by omega,rfl,ah rfl,ah (Below.refl _ _)⟩
 obtain ⟨wo,rfl⟩:∃ wo:World,wo = wr:=⟨_,rfl⟩
 obtain ⟨k,hk,rfl,HN,HBK⟩:=hrel
 by_cases hlt:k < ps.length
 ·obtain ⟨ao2,cap2,e2,_,hv2⟩:=HV.out.below HBK.out
  cases e2
  obtain ⟨b,off,rfl,hbl,hcell⟩:=hv2 (by intro e;rw [List.map_eq_nil_iff] at e;rw [e] at hlt;simp at hlt)
  have c0:=hcell k (by simpa using hlt)
  rw [List.getElem_map] at c0
  have k0:(0:Int) ≤ k:=by omega
  have k1:(k:Int) < ps.length:=by omega
  have wk:IntKind.i64.wrap ((k:Int) + 1) = (k:Int) + 1:=IntWalk.i64_in _ (by unfold maxLen at hmax;omega)
  have HMEM:=ah (List.getElem_mem hlt)
  have HT:=ah (List.take_succ_eq_append_getElem hlt)
  have HAT:=ah (fun o => BO (x:=x) (o:=o) hlt HN.out)
  have hwo:=HB1.out.trans (HBK.out.mono HB1.out.size)
  have HWO:=ah hwo
  have HIK:=ah (HI1.out.below HBK.out)
  have HXK:=ah (HX1.out.below HBK.out)
  generalize ps[k] = p at c0 HMEM HT HAT
  obtain ⟨m,n,f,hx,hm,hn,hs⟩:=HSH.out.below hwo
  have d0:wo.cell? ⟨g,0,none⟩ = some (.map (some m)):=hx.range 0 _ rfl
  have hsz8:=HZ.out p HMEM.out
  have hlk:=hm.look underlying102 (Hw wo) (x:=p.stem) (by unfold maxLen;omega)
  obtain ⟨bp,hpk,hfp⟩:∃ bp,PkAt wo bp p.pk ∧ f p.stem = some bp:=by
   rcases hs p.stem (by unfold maxLen;omega) with ⟨_,q2⟩ | ⟨bp,q,q1,q2,q3,q4⟩
   ·exact absurd rfl (q2 p HMEM.out)
   have:=BI HA.out q2 HMEM.out q3
   subst this
   exact ⟨bp,q4,q1⟩
  rw [hfp] at hlk
  dsimp only [Option.map,Option.getD,encP] at hlk
  have HPKO:=ah hpk
  have HFI:=ah (HPF.out wo bp p.pk hpk)
  have r2:=HIK.out.range
  have HFINE:=ah (HF.out p HMEM.out)
  clear hcell hv2 hwo hx hm hs hfp hpk hsz8
  generalize p.stem = st at c0 hlk
  rcases Jb p.pk.obs x with ⟨i,hi,hpl,hfo⟩ | ⟨hpl,hfo⟩
  ·rw [hpl] at HFI
   have HYE:=ah (HAT.out _ hfo)
   have hio:(0:Int) ≤ i:=by omega
   clear hpl hfo
   go_wp2_with (refine wpList_load_mid rfl 24 _ rfl w.heap.size 0 rfl cx _ r2 underlying24 rfl h32x ?_)
   refine HFI.out.mono ?_
   rintro e w2 ⟨rfl,hb2⟩
   have HBF0:=bth HWO hb2
   have HX2:=ah (HXK.out.below hb2)
   have HOB:=ah (Le bp p.pk i w2 (HPKO.out.below hb2) HFINE.out hi)
   have HOC1:=ah (dx p.pk.obs[i])
   have HOCL:Hid ((obC p.pk.obs[i]).length = 2):=ah rfl
   generalize hco:obC p.pk.obs[i] = co at HOB HOC1 HOCL
   have HCO:=ah hco
   clear hco hb2 r2 d0 hlk
   go_wp2_with fail
   refine HOB.out.mono ?_
   rintro e w3 ⟨rfl,hb3⟩
   have HBF:=bth HBF0 hb3
   have HX3:=ah (HX2.out.below hb3)
   clear hb3
   have hth:w3.there (w.heap.size + 1) 0 2:=HX3.out.there
   have h2r:(prog.info? 40).map (·.size) = some (co:List Value).length:=by rw [HOCL.out];exact aF
   obtain ⟨WE,hWE⟩:∃ WE,w3.setCells (w.heap.size + 1) 0 co = WE:=⟨_,rfl⟩
   have HRE:Hid (BoxL WE (w.heap.size + 1) 40 co):=ah (by rw [← hWE];exact HX3.out.set (by rw [HOCL.out];rfl))
   have HBE:Hid (Below w.heap.size w WE):=ah (by rw [← hWE];exact below_setCells _ (Nat.le_succ _) _ _ _ HBF.out)
   have HWE:=ah hWE
   clear hWE
   go_wp2_with (refine aj rfl 40 _ _ rfl (w.heap.size + 1) 0 co rfl rfl 2 HOCL.out hth HIO.out HOC1.out ?_;rw [HWE.out])
   have hre:=HRE.out.range
   (try simp only [Exit.inBlock,Exit.then])
   refine aB rfl (w.heap.size + 1) 0 rfl co _ hre underlying40 rfl h2r rfl _ rfl ?_
   exact qR HYE.out HCO.out HBE.out
  rw [hpl] at HFI
  have HNN:Hid (dw (ps.take (k + 1)) x = none):=ah (by rw [HT.out,nR,HN.out,hfo];rfl)
  clear hpl hfo
  go_wp2_with (refine wpList_load_mid rfl 24 _ rfl w.heap.size 0 rfl cx _ r2 underlying24 rfl h32x ?_)
  refine HFI.out.mono ?_
  rintro e w2 ⟨rfl,hb2⟩
  have HB2:=bth HBK hb2
  clear hb2 r2 d0 hlk
  go_wp2_with fail
  go_roundw
  case rel => exact ⟨k + 1,by omega,by go_num,HNN,HB2⟩
  case measure => simp [intOf];omega
 obtain rfl:k = ps.length:=by omega
 rw [List.take_length] at HN
 have HBF:=ah (HB1.out.trans (HBK.out.mono HB1.out.size))
 have HXK:=ah (HX1.out.below HBK.out)
 have hth:wo.there (w.heap.size + 1) 0 2:=HXK.out.there
 have h2r:(prog.info? 40).map (·.size) = some ([.int .i64 0,.string ⟨#[]⟩]:List Value).length:=by exact aF
 obtain ⟨WE,hWE⟩:∃ WE,wo.setCells (w.heap.size + 1) 0 [.int .i64 0,.string ⟨#[]⟩] = WE:=⟨_,rfl⟩
 have HRE:Hid (BoxL WE (w.heap.size + 1) 40 [.int .i64 0,.string ⟨#[]⟩]):=ah (by rw [← hWE];exact HXK.out.set rfl)
 have HBE:Hid (Below w.heap.size w WE):=ah (by rw [← hWE];exact below_setCells _ (Nat.le_succ _) _ _ _ HBF.out)
 have HWE:=ah hWE
 clear hWE
 go_wp2_with (refine aj rfl 40 _ _ rfl (w.heap.size + 1) 0 [.int .i64 0,.string ⟨#[]⟩] rfl rfl 2 rfl hth HIO.out (by intro v hv;simp at hv;rcases hv with rfl | rfl <;> rfl) ?_;rw [HWE.out])
 have hre:=HRE.out.range
 (try simp only [Exit.inBlock,Exit.then])
 refine aB rfl (w.heap.size + 1) 0 rfl [.int .i64 0,.string ⟨#[]⟩] _ hre underlying40 rfl h2r rfl _ rfl ?_
 exact CJ HN.out HBE.out
end
section
open Go.RowKit Go.Maps
theorem Ii (a b:Value) (w:World) (ha:a = .pointer none ∨ ∃ p,a = .pointer (some p)) (hb:∃ p,b = .pointer (some p)):(Instr.build 55 #[(0,a),(1,b)]).run prog w = .ok (.agg #[a,b]) w:=by
 obtain ⟨p,rfl⟩:=hb
 rcases ha with rfl | ⟨q,rfl⟩ <;> exact run_build w 55 _ _ (by kernel_rfl)
theorem Dq (g:Nat) (d:Dk) (l:List ByteArray) (w:World) (h:fu w g d) (hl:AscT l) (hm:∀ y,y ∈ l ↔ (d 1 y).isSome = true) (hz:∀ y ∈ l,aX y = true) (hlen:l.length ≤ 1000000) (hd:∀ k nm s,d k nm = some s → s.size ≤ 1000000) (hG:Glob w) :
  Calls prog 6 #[.pointer (some ⟨g,0,none⟩)] w fun e w' => ∃ s,e = .returned (.iface 55 (.agg #[.pointer (some ⟨g,0,none⟩),.pointer (some ⟨s,0,none⟩)])) ∧ fV w' s (aO d l) ∧ Below w.heap.size w w':=by
 have HL:=ah (CX g d l w h hl hm hz hlen hd hG)
 have hbd:=fun (s:Nat) w => Ii (.pointer (some ⟨g,0,none⟩)) (.pointer (some ⟨s,0,none⟩)) w (.inr ⟨_,rfl⟩) ⟨_,rfl⟩
 clear h hl hm hz hlen hd hG
 go_enter func6,ntmps6
 go_wp2_with fail
 refine HL.out.mono ?_
 rintro e w1 ⟨s,rfl,hs,_,hb⟩
 have HS:=ah hs
 have HB:=ah hb
 clear hs hb
 go_wp2_with fail
 go_ret
 exact ⟨s,rfl,HS.out,HB.out⟩
theorem KP (g s:Nat) (d:Dk) (ps:List Sp) (x:List UInt8) (w:World) (hD:fu w g d) (hS:fV w s ps) (ha:AscT (ps.map Sp.stem)) (hz:∀ p ∈ ps,p.stem.size = 8) (hf:∀ p ∈ ps,Bj p.pk) (hx:x.length = 32) (hd:∀ k nm s,d k nm = some s → s.size ≤ 1000000) (hG:Glob w) :
  Calls prog 332 #[.agg #[.pointer (some ⟨g,0,none⟩),.pointer (some ⟨s,0,none⟩)],.agg (idC x).toArray] w (sM (jC d ps x) w):=by
 have h32x:(prog.info? 24).map (·.size) = some (idC x).length:=by rw [aD,hx];kernel_rfl
 obtain ⟨W0,hW0⟩:∃ W,((w.alloc (.cells #[.pointer (some ⟨g,0,none⟩),.pointer (some ⟨s,0,none⟩)] 55)).alloc (.cells (idC x).toArray 24)).alloc (.cells #[.int .i64 0,.string ⟨#[]⟩] 40) = W:=⟨_,rfl⟩
 have b1:Below w.heap.size w (w.alloc (.cells #[.pointer (some ⟨g,0,none⟩),.pointer (some ⟨s,0,none⟩)] 55)):=bal
 have b2:=(Below.refl _ (w.alloc (.cells #[.pointer (some ⟨g,0,none⟩),.pointer (some ⟨s,0,none⟩)] 55))).alloc (Nat.le_refl _) (.cells (idC x).toArray 24)
 have HC0:Hid (BoxL W0 w.heap.size 55 [.pointer (some ⟨g,0,none⟩),.pointer (some ⟨s,0,none⟩)]):=ah (by
  rw [← hW0]
  exact ((BoxL.new w 55 [.pointer (some ⟨g,0,none⟩),.pointer (some ⟨s,0,none⟩)]).below b2).below bal)
 have HI0:Hid (BoxL W0 (w.heap.size + 1) 24 (idC x)):=ah (by
  rw [← hW0]
  have:=(BoxL.new (w.alloc (.cells #[.pointer (some ⟨g,0,none⟩),.pointer (some ⟨s,0,none⟩)] 55)) 24 (idC x))
  rw [World.size_alloc] at this
  exact this.below bal)
 have HX0:Hid (BoxL W0 (w.heap.size + 2) 40 [.int .i64 0,.string ⟨#[]⟩]):=ah (by
  rw [← hW0]
  have:=BoxL.new ((w.alloc (.cells #[.pointer (some ⟨g,0,none⟩),.pointer (some ⟨s,0,none⟩)] 55)).alloc (.cells (idC x).toArray 24)) 40 [.int .i64 0,.string ⟨#[]⟩]
  rwa [World.size_alloc,World.size_alloc] at this)
 have HB0:Hid (Below w.heap.size w W0):=ah (by rw [← hW0];exact (b1.alloc (by simp) _).alloc (by rw [World.size_alloc,World.size_alloc];omega) _)
 have HLG:=ah (LW g d x W0 hx (hD.below HB0.out) hd (hG.below HB0.out))
 unfold xD at HLG
 have HSG:=ah (fun W (hb:Below w.heap.size w W) => Iq s ps x W (hS.below hb) ha hz hf hx)
 have HIO:=ah aF
 have HW0:=ah hW0
 have r0:=HI0.out.range
 have c0:W0.cell? ⟨w.heap.size,0,none⟩ = some (.pointer (some ⟨g,0,none⟩)):=HC0.out.range 0 _ rfl
 clear hW0 b1 b2 hD hS ha hz hf hd hG
 cases hgl:bW d x with
 | inl k =>
  have HR:Hid (jC d ps x = dw ps x):=ah (by unfold jC;rw [hgl])
  have hk:=q8 hgl
  have hk3:((k:Int) == 0) = false:=by rw [beq_eq_false_iff_ne];omega
  rw [hgl] at HLG
  dsimp only at HLG
  clear hgl hx
  generalize idC x = cx at HLG HSG HI0 r0 h32x HW0 ⊢
  go_enter func332,ntmps332
  go_upto_region 1 with fail
  rw [HW0.out]
  go_wp2_with (refine wpList_load_mid rfl 24 _ rfl (w.heap.size + 1) 0 rfl cx _ r0 underlying24 rfl h32x ?_)
  refine HLG.out.mono ?_
  rintro e w1 ⟨rfl,hb1⟩
  have HB1:=bth HB0 hb1
  have HC1:=ah (HC0.out.below hb1)
  have HI1:=ah (HI0.out.below hb1)
  have HX1:=ah (HX0.out.below hb1)
  have HT1:=ah (there_alloc (n:=2) w1 #[.int .i64 0,.string ⟨#[]⟩] 40 rfl)
  obtain ⟨W2,hW2⟩:∃ W,(w1.alloc (.cells #[.int .i64 0,.string ⟨#[]⟩] 40)).setCells w1.heap.size 0 [.int .i64 0,.string ⟨#[]⟩] = W:=⟨_,rfl⟩
  have hb2:Below w1.heap.size w1 W2:=by rw [← hW2];exact below_setCells _ (Nat.le_refl _) _ _ _ bal
  have HB2:=bth HB1 hb2
  have HC2:=ah (HC1.out.below hb2)
  have HI2:=ah (HI1.out.below hb2)
  have HX2:=ah (HX1.out.below hb2)
  have HW2:=ah hW2
  clear hW2 hb1 hb2 c0 r0
  go_upto_region 2 with (refine aj rfl 40 _ _ rfl w1.heap.size 0 [.int .i64 0,.string ⟨#[]⟩] rfl rfl 2 rfl HT1.out HIO.out (by intro v hv;simp at hv;rcases hv with rfl | rfl <;> rfl) ?_;rw [HW2.out])
  have c2:W2.cell? ⟨w.heap.size,1,none⟩ = some (.pointer (some ⟨s,0,none⟩)):=HC2.out.range 1 _ rfl
  have r2:=HI2.out.range
  have HG2:=ah (HSG.out W2 HB2.out)
  unfold sM at HG2
  cases hsg:dw ps x with
  | none =>
   rw [hsg] at HG2 HR
   dsimp only at HG2
   clear hsg
   go_wp2_with (refine wpList_load_mid rfl 24 _ rfl (w.heap.size + 1) 0 rfl cx _ r2 underlying24 rfl h32x ?_)
   refine HG2.out.mono ?_
   rintro e w3 ⟨rfl,hb3⟩
   have HB3:=bth HB2 hb3
   have HX3:=ah (HX2.out.below hb3)
   have HOCL:Hid (([.int .i64 0,.string ⟨#[]⟩]:List Value).length = 2):=ah rfl
   clear hb3
   have hth:w3.there (w.heap.size + 2) 0 2:=HX3.out.there
   have h2r:(prog.info? 40).map (·.size) = some ([.int .i64 0,.string ⟨#[]⟩]:List Value).length:=by rw [HOCL.out];exact aF
   obtain ⟨WE,hWE⟩:∃ WE,w3.setCells (w.heap.size + 2) 0 [.int .i64 0,.string ⟨#[]⟩] = WE:=⟨_,rfl⟩
   have HRE:Hid (BoxL WE (w.heap.size + 2) 40 [.int .i64 0,.string ⟨#[]⟩]):=ah (by rw [← hWE];exact HX3.out.set rfl)
   have HBE:Hid (Below w.heap.size w WE):=ah (by rw [← hWE];exact below_setCells _ (by omega) _ _ _ HB3.out)
   have HWE:=ah hWE
   clear hWE
   go_wp2_with (refine aj rfl 40 _ _ rfl (w.heap.size + 2) 0 [.int .i64 0,.string ⟨#[]⟩] rfl rfl 2 rfl hth HIO.out (by intro v hv;simp at hv;rcases hv with rfl | rfl <;> rfl) ?_;rw [HWE.out])
   have hre:=HRE.out.range
   (try simp only [Exit.inBlock,Exit.then])
   refine aB rfl (w.heap.size + 2) 0 rfl [.int .i64 0,.string ⟨#[]⟩] _ hre underlying40 rfl h2r rfl _ rfl ?_
   exact CJ HR.out HBE.out
  | some o =>
   rw [hsg] at HG2 HR
   dsimp only at HG2
   have HOC1:=ah (dx o)
   have HOCL:Hid ((obC o).length = 2):=ah rfl
   clear hsg
   generalize hco:obC o = co at HG2 HOC1 HOCL
   have HCO:=ah hco
   clear hco
   go_wp2_with (refine wpList_load_mid rfl 24 _ rfl (w.heap.size + 1) 0 rfl cx _ r2 underlying24 rfl h32x ?_)
   refine HG2.out.mono ?_
   rintro e w3 ⟨rfl,hb3⟩
   have HB3:=bth HB2 hb3
   have HX3:=ah (HX2.out.below hb3)
   clear hb3
   have hth:w3.there (w.heap.size + 2) 0 2:=HX3.out.there
   have h2r:(prog.info? 40).map (·.size) = some (co:List Value).length:=by rw [HOCL.out];exact aF
   obtain ⟨WE,hWE⟩:∃ WE,w3.setCells (w.heap.size + 2) 0 co = WE:=⟨_,rfl⟩
   have HRE:Hid (BoxL WE (w.heap.size + 2) 40 co):=ah (by rw [← hWE];exact HX3.out.set (by rw [HOCL.out];rfl))
   have HBE:Hid (Below w.heap.size w WE):=ah (by rw [← hWE];exact below_setCells _ (by omega) _ _ _ HB3.out)
   have HWE:=ah hWE
   clear hWE
   go_wp2_with (refine aj rfl 40 _ _ rfl (w.heap.size + 2) 0 co rfl rfl 2 HOCL.out hth HIO.out HOC1.out ?_;rw [HWE.out])
   have hre:=HRE.out.range
   (try simp only [Exit.inBlock,Exit.then])
   refine aB rfl (w.heap.size + 2) 0 rfl co _ hre underlying40 rfl h2r rfl _ rfl ?_
   exact qR HR.out HCO.out HBE.out
 | inr o =>
  have HR:Hid (jC d ps x = some o):=ah (by unfold jC;rw [hgl])
  rw [hgl] at HLG
  dsimp only at HLG
  have HOC1:=ah (dx o)
  have HOCL:Hid ((obC o).length = 2):=ah rfl
  clear hgl hx
  generalize hco:obC o = co at HLG HOC1 HOCL
  have HCO:=ah hco
  clear hco
  generalize idC x = cx at HLG HSG HI0 r0 h32x HW0 ⊢
  go_enter func332,ntmps332
  go_upto_region 1 with fail
  rw [HW0.out]
  go_wp2_with (refine wpList_load_mid rfl 24 _ rfl (w.heap.size + 1) 0 rfl cx _ r0 underlying24 rfl h32x ?_)
  refine HLG.out.mono ?_
  rintro e w1 ⟨rfl,hb1⟩
  have HB1:=bth HB0 hb1
  have HX1:=ah (HX0.out.below hb1)
  have HT1:=ah (there_alloc (n:=2) w1 #[.int .i64 0,.string ⟨#[]⟩] 40 rfl)
  obtain ⟨W2,hW2⟩:∃ W,(w1.alloc (.cells #[.int .i64 0,.string ⟨#[]⟩] 40)).setCells w1.heap.size 0 co = W:=⟨_,rfl⟩
  have HOX2:Hid (BoxL W2 w1.heap.size 40 co):=ah (by rw [← hW2];exact (BoxL.new w1 40 [.int .i64 0,.string ⟨#[]⟩]).set (by rw [HOCL.out];rfl))
  have hb2:Below w1.heap.size w1 W2:=by rw [← hW2];exact below_setCells _ (Nat.le_refl _) _ _ _ bal
  have HB2:=bth HB1 hb2
  have HX2:=ah (HX1.out.below hb2)
  have HW2:=ah hW2
  clear hW2 hb1 hb2 c0 r0
  go_upto_region 2 with (refine aj rfl 40 _ _ rfl w1.heap.size 0 co rfl rfl 2 HOCL.out HT1.out HIO.out HOC1.out ?_;rw [HW2.out])
  have r7:=HOX2.out.range
  have hth:W2.there (w.heap.size + 2) 0 2:=HX2.out.there
  have h2r:(prog.info? 40).map (·.size) = some (co:List Value).length:=by rw [HOCL.out];exact aF
  obtain ⟨WE,hWE⟩:∃ WE,W2.setCells (w.heap.size + 2) 0 co = WE:=⟨_,rfl⟩
  have HRE:Hid (BoxL WE (w.heap.size + 2) 40 co):=ah (by rw [← hWE];exact HX2.out.set (by rw [HOCL.out];rfl))
  have HBE:Hid (Below w.heap.size w WE):=ah (by rw [← hWE];exact below_setCells _ (by omega) _ _ _ HB2.out)
  have HWE:=ah hWE
  clear hWE
  go_wp2_with (first
   | refine wpList_load_mid rfl 40 _ rfl w1.heap.size 0 rfl co _ r7 underlying40 rfl h2r ?_
   | (refine aj rfl 40 _ _ rfl (w.heap.size + 2) 0 co rfl rfl 2 HOCL.out hth HIO.out HOC1.out ?_;rw [HWE.out]))
  have hre:=HRE.out.range
  (try simp only [Exit.inBlock,Exit.then])
  refine aB rfl (w.heap.size + 2) 0 rfl co _ hre underlying40 rfl h2r rfl _ rfl ?_
  exact qR HR.out HCO.out HBE.out
end
section
open Go.RowKit Go.Maps Go.Shelf
def mh:ByteArray:=⟨#[98,111,111,107]⟩
def tF (w0:World) (gl dk:Nat) (F:List Flw) (e:Ending) (w':World):Prop:=e = .returned (.tuple #[]) ∧ LkAt w0.heap.size gl dk F w' ∧ Below w0.heap.size w0 w'
theorem Ke (s p:ByteArray) (w:World) (hs:s.size ≤ 1000000):Calls prog 34 #[.string s,.string p] w fun e w' => e = .returned (.tuple #[.string (csS s.data.toList p.data.toList),.bool (Lib.hasSuffix s.data.toList p.data.toList)]) ∧ w' = w :=
 Any.strings_CutSuffix Tryz.lays104 s p w (by omega)
theorem O1 (s:ByteArray) (p:List UInt8):(csS s.data.toList p).size ≤ s.size:=by
 rw [Lib.size_eq s,Lib.size_eq]
 show (Lib.trimSuffix s.data.toList p).length ≤ _
 unfold Lib.trimSuffix
 split
 ·rw [List.length_take];omega
 exact Nat.le_refl _
def fstm (s:ByteArray) (p:List UInt8):ByteArray:=if Lib.hasSuffix s.data.toList p = true ∧ mO (csS s.data.toList p) = true then csS s.data.toList p else ⟨#[]⟩
theorem zw (s p:ByteArray) (w:World) (hs:s.size ≤ 1000000):Calls prog 55 #[.string s,.string p] w fun e w' => e = .returned (.string (fstm s p.data.toList)) ∧ Below w.heap.size w w':=by
 have HC:=ah (Ke s p w hs)
 have HI:=ah (vN (csS s.data.toList p.data.toList) w (Nat.le_trans (O1 s _) hs))
 cases h1:Lib.hasSuffix s.data.toList p.data.toList with
 | false =>
  rw [h1] at HC
  have HR:Hid (fstm s p.data.toList = ⟨#[]⟩):=ah (by unfold fstm;rw [if_neg (by rw [h1];simp)])
  clear h1
  go_enter func55,ntmps55
  go_wp2_with fail
  refine HC.out.mono ?_
  rintro e w1 ⟨rfl,rfl⟩
  go_wp2_with fail
  go_ret
  exact ⟨by rw [HR.out];rfl,Below.refl _ _⟩
 | true =>
  rw [h1] at HC
  cases h2:mO (csS s.data.toList p.data.toList) with
  | false =>
   rw [h2] at HI
   have HR:Hid (fstm s p.data.toList = ⟨#[]⟩):=ah (by unfold fstm;rw [if_neg (by rw [h2];simp)])
   clear h1 h2
   go_enter func55,ntmps55
   go_wp2_with fail
   refine HC.out.mono ?_
   rintro e w1 ⟨rfl,rfl⟩
   go_wp2_with fail
   refine HI.out.mono ?_
   rintro e w2 ⟨rfl,hb2⟩
   go_wp2_with fail
   go_ret
   exact ⟨by rw [HR.out];rfl,hb2⟩
  | true =>
   rw [h2] at HI
   have HR:Hid (fstm s p.data.toList = csS s.data.toList p.data.toList):=ah (by unfold fstm;rw [if_pos ⟨h1,h2⟩])
   clear h1 h2
   go_enter func55,ntmps55
   go_wp2_with fail
   refine HC.out.mono ?_
   rintro e w1 ⟨rfl,rfl⟩
   go_wp2_with fail
   refine HI.out.mono ?_
   rintro e w2 ⟨rfl,hb2⟩
   go_wp2_with fail
   go_ret
   exact ⟨by rw [HR.out];rfl,hb2⟩
theorem Du (w0:World) (gl dk:Nat) (d:Dk) (F:List Flw) (w:World) (hD:fu w0 dk d) (h0:∀ y,d 0 y = none) (hL:LkAt w0.heap.size gl dk F w) (hB:Below w0.heap.size w0 w):Calls prog 26 #[.pointer (some ⟨gl,0,none⟩)] w (tF w0 gl dk F):=by
 have HL:=ah (nJ dk d bV 0 [] w (hD.below hB) (by decide) rfl List.Pairwise.nil (fun y => by rw [h0];simp) (fun y hy => by cases hy))
 have HLK:=ah hL
 obtain ⟨lv,hx,_⟩:=hL
 have c0:w.cell? ⟨gl,0,none⟩ = some (.pointer (some ⟨dk,0,none⟩)):=hx.range 0 _ rfl
 have HB:=ah hB
 clear hx hD hB h0
 go_enter func26,ntmps26
 go_wp2_with fail
 refine HL.out.mono ?_
 rintro e w1 ⟨v,rfl,hv,hb1⟩
 obtain ⟨ao,cap,rfl,_,_⟩:=hv
 have HL1:=ah (HLK.out.below hb1)
 have HB1:=bth HB hb1
 clear hb1 c0
 go_wp2_with fail
 refine wp_loop_rounds 1 ?_
 rw [rounds_succ]
 go_wp2_with fail
 go_end0
 exact ⟨rfl,HL1.out,HB1.out⟩
theorem F5 (w0:World) (gl dk:Nat) (d:Dk) (F:List Flw) (w:World) (hD:fu w0 dk d) (h0:∀ y,d 2 y = none) (hL:LkAt w0.heap.size gl dk F w) (hB:Below w0.heap.size w0 w) (hn:F.length ≤ 1000000):Calls prog 28 #[.pointer (some ⟨gl,0,none⟩)] w (tF w0 gl dk (F ++ [⟨3,sRef,mh⟩])):=by
 have HL:=ah (nJ dk d sRef 2 [] w (hD.below hB) (by decide) rfl List.Pairwise.nil (fun y => by rw [h0];simp) (fun y hy => by cases hy))
 have HLK:=ah hL
 obtain ⟨lv,hx,_⟩:=hL
 have c0:w.cell? ⟨gl,0,none⟩ = some (.pointer (some ⟨dk,0,none⟩)):=hx.range 0 _ rfl
 have HB:=ah hB
 clear hx hD hB h0
 go_enter func28,ntmps28
 go_wp2_with fail
 refine HL.out.mono ?_
 rintro e w1 ⟨v,rfl,hv,hb1⟩
 obtain ⟨ao,cap,rfl,_,_⟩:=hv
 have HL1:=ah (HLK.out.below hb1)
 have HB1:=bth HB hb1
 have HF:=ah (Dv w0.heap.size gl dk F 3 sRef mh w1 HL1.out hn)
 clear hb1 c0 hn
 go_wp2_with fail
 refine wp_loop_rounds 1 ?_
 rw [rounds_succ]
 go_wp2_with fail
 refine HF.out.mono ?_
 rintro e w2 ⟨rfl,hl2,hb2,_⟩
 have HL2:=ah hl2
 have HB2:=ah (HB1.out.trans hb2)
 clear hl2 hb2
 go_wp2_with fail
 go_end0
 exact ⟨rfl,HL2.out,HB2.out⟩
theorem NS:(prog.info? 140).map (·.size) = some 2:=by decide +kernel
theorem FV (w0:World) (gl dk:Nat) (d:Dk) (F:List Flw) (w:World) (hD:fu w0 dk d) (h0:∀ y,d 2 y = none) (hL:LkAt w0.heap.size gl dk F w) (hB:Below w0.heap.size w0 w) (hG:Glob w0):Calls prog 29 #[.pointer (some ⟨gl,0,none⟩)] w (tF w0 gl dk F):=by
 have HR:=ah (jV dk d sRef mh w (hD.below hB) (by decide) (by decide))
 unfold lN at HR
 have hrd:rdD d sRef mh = (⟨#[]⟩,6):=by
  unfold rdD
  rw [show (if aX mh = true then aP sRef else none) = some 2 from rfl]
  dsimp only
  rw [h0]
 rw [hrd] at HR
 dsimp only at HR
 have HLK:=ah hL
 obtain ⟨lv,hx,_⟩:=hL
 have c0:w.cell? ⟨gl,0,none⟩ = some (.pointer (some ⟨dk,0,none⟩)):=hx.range 0 _ rfl
 have HB:=ah hB
 have HCR:=ah (hG.below hB).crc
 have HIB:=ah NS
 clear hx hD hB h0 hrd hG
 go_enter func29,ntmps29
 go_wp2_with fail
 refine HR.out.mono ?_
 rintro e w1 ⟨rfl,hb1⟩
 have HL1:=ah (HLK.out.below hb1)
 have HB1:=bth HB hb1
 have HRD:=ah (IX w1 (HCR.out.below hb1))
 clear hb1 c0
 go_wp2_with fail
 refine HRD.out.mono ?_
 rintro e w2 ⟨rfl,hb2⟩
 have HL2:=ah (HL1.out.below hb2)
 have HB2:=bth HB1 hb2
 have HT2:=ah (there_alloc (n:=2) w2 #[.slice none 0 0,.slice none 0 0] 140 rfl)
 obtain ⟨W3,hW3⟩:∃ W,(w2.alloc (.cells #[.slice none 0 0,.slice none 0 0] 140)).setCells w2.heap.size 0 [.slice none 0 0,.slice none 0 0] = W:=⟨_,rfl⟩
 have hb3:Below w2.heap.size w2 W3:=by rw [← hW3];exact below_setCells _ (Nat.le_refl _) _ _ _ bal
 have HL3:=ah (HL2.out.below hb3)
 have HB3:=bth HB2 hb3
 have HW3:=ah hW3
 clear hb2 hb3 hW3
 go_wp2_with (refine aj rfl 140 _ _ rfl w2.heap.size 0 [.slice none 0 0,.slice none 0 0] rfl rfl 2 rfl HT2.out HIB.out (by intro v hv;simp at hv;rw [hv];rfl) ?_;rw [HW3.out])
 (try simp only [Exit.inBlock,Exit.then])
 refine bodyPost_ret (results_none rfl _ _ _) rfl ?_
 exact ⟨rfl,HL3.out,HB3.out⟩
def nmX:ByteArray:=⟨#[120]⟩
theorem fV.OU {w w':World} {g:Nat} (h:fV w g []) (hk:Nh w w'):fV w' g []:=by
 obtain ⟨m,n,f,h1,⟨D,⟨es,clock,hb,F,hs,hD⟩,hsy⟩,h3,h4⟩:=h
 refine ⟨m,n,f,hk.2 _ _ h1 (fun cs fr e => by injection e with _ e2;exact absurd e2 (by decide)) (fun cs fr e => by injection e with _ e2;exact absurd e2 (by decide)),⟨D,⟨es,clock,hk.2 _ _ hb (fun cs fr e => by cases e) (fun cs fr e => by cases e),F,hs,hD⟩,hsy⟩,h3,fun x hx => ?_⟩
 rcases h4 x hx with h | ⟨b,p,_,hp,_⟩
 ·exact .inl h
 cases hp
theorem Dt (w0:World) (gl dk:Nat) (d:Dk) (F:List Flw) (s:ByteArray) (w:World) (hD:fu w0 dk d) (h1:∀ y,d 1 y = if y = nmX then some s else none) (hd:∀ k nm s,d k nm = some s → s.size ≤ 1000000) (hL:LkAt w0.heap.size gl dk F w) (hB:Below w0.heap.size w0 w) (hG:Glob w0) (hn:F.length ≤ 1000000) :
  Calls prog 27 #[.pointer (some ⟨gl,0,none⟩)] w (tF w0 gl dk (F ++ [⟨1,bn,nmX⟩])):=by
 have hmem:∀ y,y ∈ [nmX] ↔ (d 1 y).isSome = true:=fun y => by
  rw [h1]
  by_cases e:y = nmX
  ·rw [if_pos e];simp [e]
  rw [if_neg e];simp [e]
 have hasc:AscT [nmX]:=List.pairwise_singleton _ _
 have hfn:∀ y ∈ [nmX],aX y = true:=fun y hy => by rw [List.mem_singleton.1 hy];rfl
 have hpk:aO d [nmX] = []:=by
  unfold aO
  rw [List.filterMap_cons,show pkAt d nmX = none from by unfold pkAt;rw [if_neg (by decide)]]
  simp
 have HLD:=ah (CX dk d [nmX] w (hD.below hB) hasc hmem hfn (by decide) hd (hG.below hB))
 rw [hpk] at HLD
 have HLI:=ah (fun W (hb:Below w0.heap.size w0 W) => nJ dk d bn 1 [nmX] W (hD.below hb) (by decide) rfl hasc hmem (fun y hy => by rw [List.mem_singleton.1 hy];decide))
 have HST:=ah (fun g W (h:fV W g []) => yu g [] W h List.Pairwise.nil (fun p hp => by cases hp))
 have hrd:rdD d bn nmX = (s,0):=by
  unfold rdD
  rw [show (if aX nmX = true then aP bn else none) = some 1 from rfl]
  dsimp only
  rw [h1,if_pos rfl]
 have HRE:=ah (fun W (hb:Below w0.heap.size w0 W) => jV dk d bn nmX W (hD.below hb) (by decide) (by decide))
 unfold lN at HRE
 rw [hrd] at HRE
 dsimp only at HRE
 have HCR:=ah (fun W (hb:Below w0.heap.size w0 W) => JD W (hG.below hb).crc)
 have hmm:=@run_makeMap prog
 have HLK:=ah hL
 obtain ⟨lv,hx,_⟩:=hL
 have c0:w.cell? ⟨gl,0,none⟩ = some (.pointer (some ⟨dk,0,none⟩)):=hx.range 0 _ rfl
 have HB:=ah hB
 have HS1:=ah (fun W => zw nmX ⟨#[46,112,97,99,107]⟩ W (by decide))
 rw [show fstm nmX (⟨#[46,112,97,99,107]⟩:ByteArray).data.toList = ⟨#[]⟩ from by decide +kernel] at HS1
 have HS2:=ah (fun W => zw nmX ⟨#[46,105,100,120]⟩ W (by decide))
 rw [show fstm nmX (⟨#[46,105,100,120]⟩:ByteArray).data.toList = ⟨#[]⟩ from by decide +kernel] at HS2
 have hmx:(nmX.toList == [109,117,108,116,105]) = false:=by decide +kernel
 clear hx hD hB h1 hd hG hmem hasc hfn hpk hrd
 go_enter func27,ntmps27
 go_wp2_with fail
 refine HLD.out.mono ?_
 rintro e w1 ⟨sh,rfl,hsh,hshf,hb1⟩
 have hb2:Below w1.heap.size w1 (w1.alloc (.map #[] 0)):=bal
 have HL2:=ah ((HLK.out.below hb1).below hb2)
 have HB2:=ah (HB.out.trans ((hb1.trans (hb2.mono hb1.size)).mono HB.out.size))
 have HSH2:=ah (hsh.below hb2)
 clear hb1 hsh hshf hb2 c0
 go_upto_region 3 with fail
 obtain ⟨W2,hW2⟩:∃ W,w1.alloc (.map #[] 0) = W:=⟨_,rfl⟩
 rw [hW2] at HL2 HB2 HSH2 ⊢
 have HST2:=ah (HST.out sh W2 HSH2.out)
 clear hW2
 go_wp2_with fail
 refine HST2.out.mono ?_
 rintro e w3 ⟨v3,rfl,hv3,hb3⟩
 obtain ⟨ao3,cap3,rfl,_,_⟩:=hv3
 have HL3:=ah (HL2.out.below hb3)
 have HB3:=bth HB2 hb3
 have HSH3:=ah (HSH2.out.below hb3)
 clear hb3
 go_wp2_with fail
 refine wp_loop_rounds 1 ?_
 rw [rounds_succ]
 have HMK:=ah (HCR.out w3 HB3.out)
 go_wp2_with fail
 refine HMK.out.mono ?_
 rintro e w4 ⟨⟨ms,rfl⟩,hb4⟩
 have hl4:=HL3.out.below hb4
 have HL4:=ah hl4
 have HB4:=bth HB3 hb4
 have HSH4:=ah (HSH3.out.below hb4)
 have HLI4:=ah (HLI.out w4 HB4.out)
 obtain ⟨lv4,hx4,_⟩:=hl4
 have c4:w4.cell? ⟨gl,0,none⟩ = some (.pointer (some ⟨dk,0,none⟩)):=hx4.range 0 _ rfl
 clear hb4 hx4
 go_wp2_with fail
 refine HLI4.out.mono ?_
 rintro e w5 ⟨v5,rfl,hv5,hb5⟩
 obtain ⟨ao5,cap5,rfl,_,hv5⟩:=hv5
 obtain ⟨b5,off5,rfl,hbl5,hc5⟩:=hv5 (by simp)
 have n5:w5.cell? ⟨b5,off5,none⟩ = some (.string nmX):=hc5 0 (by simp)
 have hl5:=HL4.out.below hb5
 have HL5:=ah hl5
 have HB5:=bth HB4 hb5
 have HSH5:=ah (HSH4.out.below hb5)
 have HRE5:=ah (HRE.out w5 HB5.out)
 obtain ⟨lv5,hx5,_⟩:=hl5
 have c5:w5.cell? ⟨gl,0,none⟩ = some (.pointer (some ⟨dk,0,none⟩)):=hx5.range 0 _ rfl
 clear hb5 hx5 c4 hv5 hc5
 go_wp2_with fail
 refine wp_loop_rounds 2 ?_
 rw [rounds_succ]
 go_wp2_with fail
 refine HRE5.out.mono ?_
 rintro e w6 ⟨rfl,hb6⟩
 have HL6:=ah (HL5.out.below hb6)
 have HB6:=bth HB5 hb6
 have HSH6:=ah (HSH5.out.below hb6)
 clear hb6 c5 n5
 go_wp2_with fail
 refine (HS1.out _).mono ?_
 rintro e w7 ⟨rfl,hb7⟩
 have HL7:=ah (HL6.out.below hb7)
 have HB7:=bth HB6 hb7
 have HSH7:=ah (HSH6.out.below hb7)
 clear hb7
 go_wp2_with fail
 refine (HS2.out _).mono ?_
 rintro e w8 ⟨rfl,hb8⟩
 have HL8:=ah (HL7.out.below hb8)
 have HB8:=bth HB7 hb8
 have HSH8:=ah (HSH7.out.below hb8)
 have HFW:=ah (Dv w0.heap.size gl dk F 1 bn nmX w8 HL8.out hn)
 clear hb8
 go_wp2_with fail
 refine HFW.out.mono ?_
 rintro e w9 ⟨rfl,hl9,hb9,hk9⟩
 have HL9:=ah hl9
 have HB9:=ah (HB8.out.trans hb9)
 have HSH9:=ah (HSH8.out.OU hk9)
 have HST9:=ah (HST.out sh w9 HSH9.out)
 clear hl9 hb9 hk9
 go_wp2_with fail
 rw [rounds_succ]
 go_wp2_with fail
 refine HST9.out.mono ?_
 rintro e w10 ⟨v10,rfl,hv10,hb10⟩
 obtain ⟨ao10,cap10,rfl,_,_⟩:=hv10
 have HL10:=ah (HL9.out.below hb10)
 have HB10:=bth HB9 hb10
 clear hb10
 go_wp2_with fail
 refine wp_loop_rounds 1 ?_
 rw [rounds_succ]
 go_wp2_with fail
 go_end0
 exact ⟨rfl,HL10.out,HB10.out⟩
theorem Fe (b:Nat) (w:World):(Instr.build 97 #[(0,.pointer (some ⟨b,0,none⟩))]).run prog w = .ok (.agg #[.pointer (some ⟨b,0,none⟩),.slice none 0 0]) w:=run_build w 97 _ _ (by kernel_rfl)
theorem FN (p:Value) (W:World):(Instr.index 98 (.agg #[.func (.func 26) #[p] #[],.func (.func 27) #[p] #[],.func (.func 28) #[p] #[],.func (.func 29) #[p] #[]]) (.int .i64 0)).run prog W = .ok (.func (.func 26) #[p] #[]) W:=by kernel_rfl
theorem FM (p:Value) (W:World):(Instr.index 98 (.agg #[.func (.func 26) #[p] #[],.func (.func 27) #[p] #[],.func (.func 28) #[p] #[],.func (.func 29) #[p] #[]]) (.int .i64 1)).run prog W = .ok (.func (.func 27) #[p] #[]) W:=by kernel_rfl
theorem FL (p:Value) (W:World):(Instr.index 98 (.agg #[.func (.func 26) #[p] #[],.func (.func 27) #[p] #[],.func (.func 28) #[p] #[],.func (.func 29) #[p] #[]]) (.int .i64 2)).run prog W = .ok (.func (.func 28) #[p] #[]) W:=by kernel_rfl
theorem FK (p:Value) (W:World):(Instr.index 98 (.agg #[.func (.func 26) #[p] #[],.func (.func 27) #[p] #[],.func (.func 28) #[p] #[],.func (.func 29) #[p] #[]]) (.int .i64 3)).run prog W = .ok (.func (.func 29) #[p] #[]) W:=by kernel_rfl
def Po (w:World) (v:Value) (l:List Flw):Prop:=aK w v 3 (l.map fwC)
theorem vZ (dk:Nat) (d:Dk) (s:ByteArray) (w:World) (hD:fu w dk d) (h0:∀ y,d 0 y = none) (h1:∀ y,d 1 y = if y = nmX then some s else none) (h2:∀ y,d 2 y = none) (hd:∀ k nm s,d k nm = some s → s.size ≤ 1000000) (hG:Glob w) :
  Calls prog 12 #[.pointer (some ⟨dk,0,none⟩)] w fun e w' => ∃ v,e = .returned v ∧ Po w' v [⟨1,bn,nmX⟩,⟨3,sRef,mh⟩] ∧ Below w.heap.size w w':=by
 have hbd:=Fe
 obtain ⟨W,hW⟩:∃ W,w.alloc (.cells #[.pointer (some ⟨dk,0,none⟩),.slice none 0 0] 97) = W:=⟨_,rfl⟩
 have HB:Hid (Below w.heap.size w W):=ah (by rw [← hW];exact bal)
 have HL:Hid (LkAt w.heap.size w.heap.size dk [] W):=ah ⟨.slice none 0 0,by rw [← hW];exact BoxL.new w 97 [.pointer (some ⟨dk,0,none⟩),.slice none 0 0],Nat.le_refl _,World.ownsRow_nil _ _ _ _,by rw [← hW];simp⟩
 have HP1:=ah (Du w w.heap.size dk d [] W hD h0 HL.out HB.out)
 have HP2:=ah (fun W' hl hb => Dt w w.heap.size dk d [] s W' hD h1 hd hl hb hG (by decide))
 have HP3:=ah (fun W' hl hb => F5 w w.heap.size dk d ([] ++ [⟨1,bn,nmX⟩]) W' hD h2 hl hb (by decide))
 have HP4:=ah (fun W' hl hb => FV w w.heap.size dk d ([] ++ [⟨1,bn,nmX⟩] ++ [⟨3,sRef,mh⟩]) W' hD h2 hl hb hG)
 have HW:=ah hW
 clear hW hD h0 h1 h2 hd hG
 go_enter func12,ntmps12
 go_upto_region 2 with fail
 rw [HW.out]
 go_wp2_with fail
 have hi0:∀ W,(Instr.index 98 (.agg #[.func (.func 26) #[.pointer (some ⟨w.heap.size,0,none⟩)] #[],.func (.func 27) #[.pointer (some ⟨w.heap.size,0,none⟩)] #[],.func (.func 28) #[.pointer (some ⟨w.heap.size,0,none⟩)] #[],.func (.func 29) #[.pointer (some ⟨w.heap.size,0,none⟩)] #[]]) (.int .i64 0)).run prog W = .ok (.func (.func 26) #[.pointer (some ⟨w.heap.size,0,none⟩)] #[]) W:=fun W => FN _ W
 have hi1:∀ W,(Instr.index 98 (.agg #[.func (.func 26) #[.pointer (some ⟨w.heap.size,0,none⟩)] #[],.func (.func 27) #[.pointer (some ⟨w.heap.size,0,none⟩)] #[],.func (.func 28) #[.pointer (some ⟨w.heap.size,0,none⟩)] #[],.func (.func 29) #[.pointer (some ⟨w.heap.size,0,none⟩)] #[]]) (.int .i64 1)).run prog W = .ok (.func (.func 27) #[.pointer (some ⟨w.heap.size,0,none⟩)] #[]) W:=fun W => FM _ W
 have hi2:∀ W,(Instr.index 98 (.agg #[.func (.func 26) #[.pointer (some ⟨w.heap.size,0,none⟩)] #[],.func (.func 27) #[.pointer (some ⟨w.heap.size,0,none⟩)] #[],.func (.func 28) #[.pointer (some ⟨w.heap.size,0,none⟩)] #[],.func (.func 29) #[.pointer (some ⟨w.heap.size,0,none⟩)] #[]]) (.int .i64 2)).run prog W = .ok (.func (.func 28) #[.pointer (some ⟨w.heap.size,0,none⟩)] #[]) W:=fun W => FL _ W
 have hi3:∀ W,(Instr.index 98 (.agg #[.func (.func 26) #[.pointer (some ⟨w.heap.size,0,none⟩)] #[],.func (.func 27) #[.pointer (some ⟨w.heap.size,0,none⟩)] #[],.func (.func 28) #[.pointer (some ⟨w.heap.size,0,none⟩)] #[],.func (.func 29) #[.pointer (some ⟨w.heap.size,0,none⟩)] #[]]) (.int .i64 3)).run prog W = .ok (.func (.func 29) #[.pointer (some ⟨w.heap.size,0,none⟩)] #[]) W:=fun W => FK _ W
 refine wp_loop_rounds 5 ?_
 rw [rounds_succ]
 go_wp2_with fail
 refine HP1.out.mono ?_
 rintro e w1 ⟨rfl,hl1,hb1⟩
 have HQ2:=ah (HP2.out w1 hl1 hb1)
 clear hl1 hb1
 go_wp2_with fail
 rw [rounds_succ]
 go_wp2_with fail
 refine HQ2.out.mono ?_
 rintro e w2 ⟨rfl,hl2,hb2⟩
 have HQ3:=ah (HP3.out w2 hl2 hb2)
 clear hl2 hb2
 go_wp2_with fail
 rw [rounds_succ]
 go_wp2_with fail
 refine HQ3.out.mono ?_
 rintro e w3 ⟨rfl,hl3,hb3⟩
 have HQ4:=ah (HP4.out w3 hl3 hb3)
 clear hl3 hb3
 go_wp2_with fail
 rw [rounds_succ]
 go_wp2_with fail
 refine HQ4.out.mono ?_
 rintro e w4 ⟨rfl,hl4,hb4⟩
 have HB4:=ah hb4
 obtain ⟨lv,hx,_,ho,_⟩:=hl4
 have c1:w4.cell? ⟨w.heap.size,1,none⟩ = some lv:=hx.range 1 _ rfl
 obtain ⟨vo,vc,rfl⟩:=ay ho
 have HO:=ah ho
 clear hx ho hb4
 go_wp2_with fail
 rw [rounds_succ]
 go_wp2_with fail
 go_ret
 refine ⟨_,rfl,?_,HB4.out⟩
 exact aK.aS (B:=w.heap.size) (e:=50) (rows:=([⟨1,bn,nmX⟩,⟨3,sRef,mh⟩]:List Flw).map fwC) (fun r hr => by obtain ⟨p,_,rfl⟩:=List.mem_map.1 hr;rfl) HO.out
theorem Dz (dk:Nat) (d:Dk) (s:ByteArray) (w:World) (hD:fu w dk d) (h0:∀ y,d 0 y = none) (h1:∀ y,d 1 y = if y = nmX then some s else none) (h2:∀ y,d 2 y = none) (hd:∀ k nm s,d k nm = some s → s.size ≤ 1000000) (hG:Glob w) :
  Calls prog 13 #[.pointer (some ⟨dk,0,none⟩)] w fun e w' => e = .returned (.bool false) ∧ Below w.heap.size w w':=by
 have HF:=ah (vZ dk d s w hD h0 h1 h2 hd hG)
 clear hD h0 h1 h2 hd hG
 go_enter func13,ntmps13
 go_wp2_with fail
 refine HF.out.mono ?_
 rintro e w1 ⟨v,rfl,hv,hb1⟩
 obtain ⟨ao,cap,rfl,_,_⟩:=hv
 rw [List.length_map]
 go_wp2_with fail
 go_ret
 exact ⟨rfl,hb1⟩
def fl1:Fl:=⟨bn,nmX,⟨#[]⟩⟩
theorem JX (w:World):(Instr.build 46 #[(0,.string ⟨#[112,97,99,107]⟩),(1,.string ⟨#[120]⟩)]).run prog w = .ok (.agg #[.string ⟨#[112,97,99,107]⟩,.string ⟨#[120]⟩,.string ⟨#[]⟩]) w:=run_build w 46 _ _ (by kernel_rfl)
theorem JU (k:Int) (a b:ByteArray) (w:World):(Instr.build 50 #[(0,.int .i64 k),(1,.string a),(2,.string b)]).run prog w = .ok (.agg #[.int .i64 k,.string a,.string b]) w:=run_build w 50 _ _ (by kernel_rfl)
theorem NY (w:World):(binOp .eql 50 (.agg #[.int .i64 1,.string bn,.string nmX]) (.agg #[.int .i64 1,.string ⟨#[112,97,99,107]⟩,.string ⟨#[120]⟩])).run prog w = .ok (.bool true) w:=by kernel_rfl
theorem NW (w:World):(binOp .eql 50 (.agg #[.int .i64 3,.string sRef,.string mh]) (.agg #[.int .i64 3,.string ⟨#[114,101,102]⟩,.string ⟨#[98,111,111,107]⟩])).run prog w = .ok (.bool true) w:=by kernel_rfl
theorem G6 (y:ByteArray):datF [fl1] 0 y = none:=by
 unfold datF
 rw [List.foldl_cons,List.foldl_nil,if_neg (fun h => absurd h.1 (by decide))]
theorem GZ (y:ByteArray):datF [fl1] 2 y = none:=by
 unfold datF
 rw [List.foldl_cons,List.foldl_nil,if_neg (fun h => absurd h.1 (by decide))]
theorem G5 (y:ByteArray):datF [fl1] 1 y = if y = nmX then some ⟨#[]⟩ else none:=by
 unfold datF
 rw [List.foldl_cons,List.foldl_nil]
 by_cases e:y = nmX
 ·rw [if_pos ⟨by decide,e.symm⟩,if_pos e];rfl
 rw [if_neg (fun h => e h.2.symm),if_neg e]
theorem wV (k:Nat) (nm s:ByteArray) (h:datF [fl1] k nm = some s):s.size ≤ 1000000:=by
 obtain ⟨f,hf,_,_,rfl⟩:=rz h
 rw [List.mem_singleton.1 hf];decide
theorem mX (w:World) (hG:Glob w):Calls prog 4 #[] w fun e w' => e = .returned (.bool true) ∧ Below w.heap.size w w':=by
 have hb1:=JX
 have hb2:=JU
 have hq1:=NY
 have hq2:=NW
 obtain ⟨W,hW⟩:∃ W,w.alloc (.cells #[.string ⟨#[112,97,99,107]⟩,.string ⟨#[120]⟩,.string ⟨#[]⟩] 46) = W:=⟨_,rfl⟩
 have hbW:Below w.heap.size w W:=by rw [← hW];exact bal
 have hrow:jX W (.slice (some ⟨w.heap.size,0,none⟩) 1 1) [fl1]:=⟨_,_,rfl,by decide,fun _ => ⟨_,_,rfl,by rw [← hW];simp,fun i hi => by
  have hi0:i = 0:=by simp at hi;omega
  subst hi0
  rw [← hW,Nat.zero_mul]
  exact (BoxL.new w 46 (flC fl1)).range⟩⟩
 have hok:FlOk [fl1]:=fun f hf => by rw [List.mem_singleton.1 hf];decide
 have HO:=ah (wR 1000 _ [fl1] W hrow hok (by decide) (hG.below hbW))
 have HG:=ah hG
 have HB:=ah hbW
 have HW:=ah hW
 have HIF:=ah Md
 clear hW hbW hrow hok hG
 go_enter func4,ntmps4
 go_wp2_with (first
  | (refine av rfl _ _ 46 rfl [.string ⟨#[112,97,99,107]⟩,.string ⟨#[120]⟩,.string ⟨#[]⟩] #[.string ⟨#[]⟩,.string ⟨#[]⟩,.string ⟨#[]⟩] rfl underlying22 (fun w => by kernel_rfl) (fun w => by kernel_rfl) (by simp) (by simp) ?_;rw [HW.out]))
 refine HO.out.mono ?_
 rintro e w1 ⟨rfl,hst⟩
 have hD:=hst.disk (by decide)
 have HB1:=ah (HB.out.trans (hst.bel.mono HB.out.size))
 have HG1:=HG.out.below HB1.out
 have HF:=ah (vZ _ _ _ w1 hD G6 G5 GZ wV HG1)
 have HC:=ah (fun W' (hb:Below w1.heap.size w1 W') => Dz _ _ _ W' (hD.below hb) G6 G5 GZ wV (HG1.below hb))
 clear hst hD HG1
 go_wp2_with fail
 refine HF.out.mono ?_
 rintro e w2 ⟨v,rfl,hv,hb2⟩
 obtain ⟨ao,cap,rfl,_,hv⟩:=hv
 obtain ⟨b,off,rfl,hbl,hc⟩:=hv (by simp)
 have r0:=hc 0 (by decide)
 have r1:=hc 1 (by decide)
 rw [List.length_map]
 have HB2:=bth HB1 hb2
 have HC2:=ah (HC.out w2 hb2)
 have h3:(prog.info? 50).map (·.size) = some 3:=by kernel_rfl
 clear hv hc hb2
 have a0:w2.cell? ⟨b,off,none⟩ = some (.int .i64 1):=by have:=r0 0 (.int .i64 1) rfl;rwa [Nat.zero_mul] at this
 have a1:w2.cell? ⟨b,off + 1,none⟩ = some (.string bn):=by have:=r0 1 (.string bn) rfl;rwa [Nat.zero_mul] at this
 have a2:w2.cell? ⟨b,off + 2,none⟩ = some (.string nmX):=by have:=r0 2 (.string nmX) rfl;rwa [Nat.zero_mul] at this
 have d0:w2.cell? ⟨b,off + 3,none⟩ = some (.int .i64 3):=by have:=r1 0 (.int .i64 3) rfl;rwa [Nat.one_mul] at this
 have d1:w2.cell? ⟨b,off + 3 + 1,none⟩ = some (.string sRef):=by have:=r1 1 (.string sRef) rfl;rwa [Nat.one_mul] at this
 have d2:w2.cell? ⟨b,off + 3 + 2,none⟩ = some (.string mh):=by have:=r1 2 (.string mh) rfl;rwa [Nat.one_mul] at this
 clear r0 r1 h3
 go_wp2_with fail
 refine HC2.out.mono ?_
 rintro e w3 ⟨rfl,hb3⟩
 have HB3:=bth HB2 hb3
 clear hb3
 go_wp2_with fail
 go_ret
 exact ⟨rfl,HB3.out⟩
end
section
open Go.RowKit
def bR (d:Dk) (l0 l1:List ByteArray):List Ob:=(fG d l0).map (·.2) ++ gB (aO d l1)
theorem sj:∀ (ts:List ByteArray) (os r:List Ob),iJ ts os = some r → (∀ o ∈ os,aC o = true) → ∀ o ∈ r,aC o = true
 | [],os,r,h,ho => by
  unfold iJ at h
  cases h
  exact ho
 | s :: ss,os,r,h,ho => by
  unfold iJ at h
  split at h
  ·cases h
  rename_i o hr
  split at h
  ·cases h
  exact sj ss _ r h (fun q hq => by
   rcases List.mem_append.1 hq with hq | hq
   ·exact ho q hq
   rw [List.mem_singleton.1 hq];exact dM hr)
theorem Cz {b:ByteArray} {p:Pk} (h:dJ b = some p):∀ o ∈ p.obs,aC o = true:=by
 rw [rV] at h
 split at h
 ·cases h
 split at h
 ·cases h
 split at h
 ·cases h
 rename_i x _ _
 cases hf:aV (x.2.2.map (·.1)) with
 | none => rw [hf] at h;cases h
 | some os =>
  rw [hf] at h
  cases h
  unfold aV at hf
  split at hf
  ·cases hf
  exact sj _ _ _ hf (fun o ho => by cases ho)
theorem Ae (d:Dk) (l0 l1:List ByteArray):∀ o ∈ bR d l0 l1,aC o = true:=fun o ho => by
 unfold bR at ho
 rcases List.mem_append.1 ho with ho | ho
 ·obtain ⟨p,hp,rfl⟩:=List.mem_map.1 ho
  exact (lF hp).2.2.2
 unfold gB at ho
 obtain ⟨p,hp,ho⟩:=List.mem_flatMap.1 ho
 obtain ⟨nm,_,h2⟩:=List.mem_filterMap.1 hp
 exact Cz (jw h2).2.2.2 o ho
theorem kX (d:Dk) (l0 l1:List ByteArray):rights (bR d l0 l1) = bR d l0 l1:=List.filter_eq_self.2 (Ae d l0 l1)
theorem Eh (d:Dk) (l0 l1:List ByteArray):(fG d l0).map (·.1) ++ (gB (aO d l1)).map idO = (bR d l0 l1).map idO:=by
 unfold bR
 rw [List.map_append,List.map_map]
 congr 1
 exact List.map_congr_left (fun p hp => (lF hp).2.2.1.symm)
theorem wD {x:List UInt8}:∀ {L:List (List UInt8 × Ob)},(∀ p ∈ L,idO p.2 = p.1) → (L.find? fun q => decide (q.1 = x)).map (·.2) = (L.map (·.2)).find? fun o => decide (idO o = x)
 | [],_ => rfl
 | p :: L,h => by
  have h1:=h p (by simp)
  rw [List.map_cons,List.find?_cons,List.find?_cons,h1]
  cases decide (p.1 = x) with
  | true => rfl
  | false => exact wD fun q hq => h q (List.mem_cons_of_mem _ hq)
theorem KM (d:Dk) (l0 l1:List ByteArray):(srcF d l0 l1).map (·.2) = bR d l0 l1:=by
 unfold srcF bR gB
 rw [List.map_append,List.map_flatMap]
 congr 1
 congr 1
 funext p
 unfold uq
 rw [List.map_map]
 exact List.map_id _
theorem Nq {d:Dk} {l0 l1:List ByteArray} {p:List UInt8 × Ob} (h:p ∈ srcF d l0 l1):idO p.2 = p.1:=by
 unfold srcF at h
 rcases List.mem_append.1 h with h | h
 ·exact (lF h).2.2.1
 obtain ⟨q,_,h2⟩:=List.mem_flatMap.1 h
 unfold uq at h2
 obtain ⟨o,_,rfl⟩:=List.mem_map.1 h2
 rfl
theorem Dn {d:Dk} {l0 l1:List ByteArray} (hm:∀ x,x ∈ l0 ↔ (d 0 x).isSome = true) {x:List UInt8} (hx:x.length = 32):getS (bR d l0 l1) x = jC d (aO d l1) x:=by
 rw [← Ij (l1:=l1) hm hx,wD (fun p hp => Nq hp),KM]
 unfold getS
 rw [kX]
theorem nX {x:List UInt8}:∀ {L:List Ob},(L.find? fun o => decide (idO o = x)).isSome = (L.map idO).contains x
 | [] => rfl
 | o :: L => by
  rw [List.map_cons,List.contains_cons,List.find?_cons]
  by_cases h:idO o = x
  ·subst h
   simp
  rw [decide_eq_false h,nX]
  have:(x == idO o) = false:=by simpa using fun e => h e.symm
  rw [this,Bool.false_or]
theorem pq {d:Dk} {l0 l1:List ByteArray} (hm:∀ x,x ∈ l0 ↔ (d 0 x).isSome = true) {x:List UInt8} (hx:x.length = 32):((bR d l0 l1).map idO).contains x = (jC d (aO d l1) x).isSome:=by
 rw [← Dn (l1:=l1) hm hx]
 unfold getS
 rw [kX,nX]
theorem KL {d:Dk} {l0 l1:List ByteArray} (hm:∀ x,x ∈ l0 ↔ (d 0 x).isSome = true) {x:List UInt8} (hx:x.length = 32) (h:x ∈ (bR d l0 l1).map idO):∃ o,jC d (aO d l1) x = some o:=by
 have:=pq (l1:=l1) hm hx
 rw [List.contains_iff_mem.2 h] at this
 exact Option.isSome_iff_exists.1 this.symm
theorem oO.of {w:World} {vl vi:Value} {d:Dk} {l0 l1:List ByteArray} (h1:dD w vl (bR d l0 l1)) (h2:bD w vi ((bR d l0 l1).map idO)):oO w (.agg #[vl,vi]) (bR d l0 l1):=⟨vl,vi,rfl,by rw [kX];exact h1,by rw [kX];exact h2⟩
theorem CS (g s:Nat) (w:World):(method 440 55 (.agg #[.pointer (some ⟨g,0,none⟩),.pointer (some ⟨s,0,none⟩)]) "Get").run prog w = .ok (332,.agg #[.pointer (some ⟨g,0,none⟩),.pointer (some ⟨s,0,none⟩)]) w:=by kernel_rfl
theorem NH (g s:Nat) (w:World):(nilAhead 537 55 (.agg #[.pointer (some ⟨g,0,none⟩),.pointer (some ⟨s,0,none⟩)]) "Get").run prog w = .ok (some false) w:=by kernel_rfl
structure FsW (l:List Fl) (w0:World) (gd s:Nat) (vl vi:Value) (mb:Nat) (x:List UInt8) (w:World):Prop where
 disk:fu w gd (datF l)
 shelf:fV w s (aO (datF l) (namF l 1))
 box:BoxL w mb 35 [vl,vi]
 objs:dD w vl (bR (datF l) (namF l 0) (namF l 1))
 ids:bD w vi ((bR (datF l) (namF l 0) (namF l 1)).map idO)
 id:BoxL w w0.heap.size 24 (idC x)
 glob:Glob w
 bel:Below w0.heap.size w0 w
theorem FsW.below {l:List Fl} {w0:World} {gd s:Nat} {vl vi:Value} {mb:Nat} {x:List UInt8} {w w':World} (h:FsW l w0 gd s vl vi mb x w) (hb:Below w.heap.size w w'):FsW l w0 gd s vl vi mb x w' :=
 ⟨h.disk.below hb,h.shelf.below hb,h.box.below hb,h.objs.below hb,h.ids.below hb,h.id.below hb,h.glob.below hb,h.bel.trans (hb.mono h.bel.size)⟩
theorem AX {l:List Fl} (h:FlOk l):∀ k nm s,datF l k nm = some s → s.size ≤ 1000000:=fun k nm s hs => by
 obtain ⟨f,hf,_,_,rfl⟩:=rz hs
 exact (h f hf).2.2
theorem E8 {r:Option Ob} {w w':World} {e:Ending} (h:sM r w e w'):∃ c b,e = .returned (.tuple #[.agg (List.toArray c),.bool b]) ∧ c.length = 2 ∧ (∀ u ∈ c,Value.oneCell' u = true) ∧ b = r.isSome ∧ (∀ o,r = some o → c = obC o) ∧ Below w.heap.size w w':=by
 unfold sM at h
 cases r with
 | none => exact ⟨[.int .i64 0,.string ⟨#[]⟩],false,h.1,rfl,by intro u hu;simp at hu;rcases hu with rfl | rfl <;> rfl,rfl,fun o ho => (by cases ho),h.2⟩
 | some o => exact ⟨obC o,true,h.1,rfl,dx o,rfl,fun q hq => by cases hq;rfl,h.2⟩
theorem FsW.get {l:List Fl} {w0:World} {gd s:Nat} {vl vi:Value} {mb:Nat} {x:List UInt8} {w:World} (h:FsW l w0 gd s vl vi mb x w) (hok:FlOk l) (y:List UInt8) (hy:y.length = 32) :
  Calls prog 332 #[.agg #[.pointer (some ⟨gd,0,none⟩),.pointer (some ⟨s,0,none⟩)],.agg (idC y).toArray] w (sM (jC (datF l) (aO (datF l) (namF l 1)) y) w) :=
 KP gd s (datF l) _ y w h.disk h.shelf (yQ _ (pV l 1)) (fun p hp => KH hp) (fun p hp => by
  obtain ⟨nm,_,h2⟩:=List.mem_filterMap.1 hp
  exact vw (jw h2).2.2.2) hy (AX hok) h.glob
theorem sQ (v:Value) (l:List Fl) (x:List UInt8) (w:World) (hv:jX w v l) (hz:Ht l) (hx:x.length = 32) (hG:Glob w):Calls prog 3 #[v,.agg (idC x).toArray] w fun e w' => e = .returned (.bool true) ∧ Below w.heap.size w w':=by
 have h32x:(prog.info? 24).map (·.size) = some (idC x).length:=by rw [aD,hx];kernel_rfl
 obtain ⟨W0,hW0⟩:∃ W,w.alloc (.cells (idC x).toArray 24) = W:=⟨_,rfl⟩
 have hb0:Below w.heap.size w W0:=by rw [← hW0];exact bal
 have HI0:Hid (BoxL W0 w.heap.size 24 (idC x)):=ah (by rw [← hW0];exact BoxL.new w 24 (idC x))
 have HV0:=ah (hv.below hb0)
 have HG0:=ah (hG.below hb0)
 have HB0:=ah hb0
 have HZ:=ah hz
 have HX:=ah hx
 have HAL:=ah (mX W0 HG0.out)
 have HH:=ah h32x
 obtain ⟨ao,cap,rfl,_,_⟩:=hv.open
 have HW0:=ah hW0
 obtain ⟨cx,hcx⟩:∃ cx,idC x = cx:=⟨_,rfl⟩
 rw [hcx] at HI0 HW0 HH ⊢
 have HCX:=ah hcx
 clear hW0 hb0 hv hz hx hG h32x hcx
 go_enter func3,ntmps3
 go_upto_region 1 with fail
 rw [HW0.out]
 go_wp2_with fail
 refine HAL.out.mono ?_
 rintro e w1 ⟨rfl,hb1⟩
 have HI1:=ah (HI0.out.below hb1)
 have HG1:=ah (HG0.out.below hb1)
 have HV1:=ah (HV0.out.below hb1)
 have HB1:=bth HB0 hb1
 have HGR:=ah (Ak _ l w1 HV1.out HZ.out)
 clear hb1 HI0 HG0 HV0 HB0 HAL
 go_wp2_with fail
 refine HGR.out.mono ?_
 rintro e w2 ⟨⟨b,rfl,hbf⟩,hb2⟩
 have HI2:=ah (HI1.out.below hb2)
 have HG2:=ah (HG1.out.below hb2)
 have HV2:=ah (HV1.out.below hb2)
 have HB2:=bth HB1 hb2
 clear hb2 HI1 HG1 HV1 HB1 HGR
 cases b with
 | true =>
  have HA2:=ah (mX w2 HG2.out)
  go_wp2_with fail
  refine HA2.out.mono ?_
  rintro e w3 ⟨rfl,hb3⟩
  go_wp2_with fail
  go_ret
  exact ⟨rfl,HB2.out.trans (hb3.mono HB2.out.size)⟩
 | false =>
  obtain ⟨hl60,hok⟩:=hbf rfl
  have HL:=ah hl60
  have HOK:=ah hok
  have HDO:=ah (wR 1000000 _ l w2 HV2.out hok (by omega) HG2.out)
  clear hl60 hok hbf
  go_wp2_with fail
  refine HDO.out.mono ?_
  rintro e w3 ⟨rfl,hst⟩
  have hb3:=hst.bel
  have HD3:=ah (hst.disk (by have:=HL.out;omega))
  have HI3:=ah (HI2.out.below hb3)
  have HG3:=ah (HG2.out.below hb3)
  have HV3:=ah (HV2.out.below hb3)
  have HB3:=bth HB2 hb3
  have HSO:=ah (Dq (w2.heap.size + 1) (datF l) (namF l 1) w3 HD3.out (pV l 1) (jF l 1) (fun y hy => qW hy) (Nat.le_trans (iX l 1) (by have:=HL.out;omega)) (AX HOK.out) HG3.out)
  clear hst hb3 HI2 HG2 HV2 HB2 HDO
  obtain ⟨gd,hgd⟩:∃ gd,w2.heap.size + 1 = gd:=⟨_,rfl⟩
  rw [hgd] at HD3 HSO ⊢
  clear hgd
  go_wp2_with fail
  refine HSO.out.mono ?_
  rintro e w4 ⟨s,rfl,hsh,hb4⟩
  have HD4:=ah (HD3.out.below hb4)
  have HI4:=ah (HI3.out.below hb4)
  have HG4:=ah (HG3.out.below hb4)
  have HV4:=ah (HV3.out.below hb4)
  have HB4:=bth HB3 hb4
  have HS4:=ah hsh
  have HRO:=ah (IE 1000000 _ l w4 HV4.out HOK.out (by have:=HL.out;omega))
  clear hb4 hsh HD3 HI3 HG3 HV3 HB3 HSO
  go_wp2_with fail
  refine HRO.out.mono ?_
  rintro e w5 ⟨vs,vt,fv,rfl,hrk,hb5⟩
  have HD5:=ah (HD4.out.below hb5)
  have HI5:=ah (HI4.out.below hb5)
  have HG5:=ah (HG4.out.below hb5)
  have HB5:=bth HB4 hb5
  have HS5:=ah (HS4.out.below hb5)
  have HRS:=ah (xO w4.heap.size l w5 ⟨_,vs,vt,fv,hrk⟩ (AX HOK.out) HL.out)
  rw [Eh,show (fG (datF l) (namF l 0)).map (·.2) ++ gB (aO (datF l) (namF l 1)) = bR (datF l) (namF l 0) (namF l 1) from rfl] at HRS
  clear hb5 hrk HD4 HI4 HG4 HV4 HB4 HS4 HRO
  go_wp2_with fail
  refine HRS.out.mono ?_
  rintro e w6 ⟨vl,vi,rfl,hob,hid,hb6⟩
  have HD6:=ah (HD5.out.below hb6)
  have HI6:=ah (HI5.out.below hb6)
  have HG6:=ah (HG5.out.below hb6)
  have HB6:=bth HB5 hb6
  have HS6:=ah (HS5.out.below hb6)
  obtain ⟨la,lc,rfl,hm1,_⟩:=hob.open
  obtain ⟨ia,ic,rfl,hm2,_⟩:=hid.open
  have HT6:=ah (there_alloc (n:=2) w6 #[.slice none 0 0,.slice none 0 0] 35 rfl)
  have HIS:=ah AQ
  have hone:∀ u ∈ ([.slice la (bR (datF l) (namF l 0) (namF l 1)).length lc,.slice ia ((bR (datF l) (namF l 0) (namF l 1)).map idO).length ic]:List Value),u.oneCell' = true:=by simp [Value.oneCell']
  obtain ⟨W7,hW7⟩:∃ W,w6.alloc (.cells #[.slice la (bR (datF l) (namF l 0) (namF l 1)).length lc,.slice ia ((bR (datF l) (namF l 0) (namF l 1)).map idO).length ic] 35) = W:=⟨_,rfl⟩
  have hbx7:BoxL W7 w6.heap.size 35 [.slice la (bR (datF l) (namF l 0) (namF l 1)).length lc,.slice ia ((bR (datF l) (namF l 0) (namF l 1)).map idO).length ic]:=by rw [← hW7];exact BoxL.new w6 35 [.slice la (bR (datF l) (namF l 0) (namF l 1)).length lc,.slice ia ((bR (datF l) (namF l 0) (namF l 1)).map idO).length ic]
  have hb7:Below w6.heap.size w6 W7:=by rw [← hW7];exact bal
  have HF:Hid (FsW l w gd s (.slice la (bR (datF l) (namF l 0) (namF l 1)).length lc) (.slice ia ((bR (datF l) (namF l 0) (namF l 1)).map idO).length ic) w6.heap.size x W7):=ah ⟨HD6.out.below hb7,HS6.out.below hb7,hbx7,hob.below hb7,hid.below hb7,by rw [HCX.out];exact HI6.out.below hb7,HG6.out.below hb7,HB6.out.trans (hb7.mono HB6.out.size)⟩
  rw [List.length_map] at hW7 HF hone ⊢
  have HONE:=ah hone
  have HW7:=ah hW7
  clear hob hid hb6 hbx7 hb7 hW7 hone hm2 HD5 HI5 HG5 HB5 HS5 HRS HD6 HI6 HG6 HB6 HS6
  obtain ⟨L,hL⟩:∃ L,bR (datF l) (namF l 0) (namF l 1) = L:=⟨_,rfl⟩
  have HLE:=ah hL
  rw [hL] at HW7 HF HONE hm1 ⊢
  clear hL
  go_upto_region 6 with fail
  rw [HW7.out]
  obtain ⟨mb,hmb⟩:∃ mb,w6.heap.size = mb:=⟨_,rfl⟩
  rw [hmb] at HF ⊢
  clear hmb HW7 HT6 HONE
  go_wp2_with fail
  go_loopw [7,8,9,10,11] (fun i _ _ _ _ wr => ∃ k:Nat,k ≤ L.length ∧ i = .int .i64 (k:Int) ∧ Hid (FsW l w gd s (.slice la L.length lc) (.slice ia L.length ic) mb x wr)) (fun i _ _ _ _ _ => (L.length - intOf i).toNat)
  case atStart => exact ⟨0,by omega,rfl,HF.out⟩
  obtain ⟨wo,rfl⟩:∃ wo:World,wo = wr:=⟨_,rfl⟩
  obtain ⟨k,hk,rfl,HS⟩:=hrel
  by_cases hlt:k < L.length
  ·have k0:(0:Int) ≤ k:=by omega
   have k1:(k:Int) < L.length:=by omega
   have hids:=HS.out.ids
   rw [HLE.out] at hids
   obtain ⟨ao2,cap2,e2,hm3,hv2⟩:=hids.open
   have e2':ia = ao2:=by injection e2
   subst e2'
   clear e2
   obtain ⟨b,off,rfl,hbl,hcell⟩:=hv2 (by intro e;rw [List.map_eq_nil_iff] at e;rw [e] at hlt;simp at hlt)
   have wk:IntKind.i64.wrap ((k:Int) + 1) = (k:Int) + 1:=IntWalk.i64_in _ (by unfold maxLen at hm1;omega)
   have r0:=hcell k (by rw [List.length_map];exact hlt)
   rw [List.getElem_map] at r0
   have hyl:(idO L[k]).length = 32:=dI _
   have hys:=KL (d:=datF l) (l1:=namF l 1) (jF l 0) hyl (by rw [HLE.out];exact List.mem_map.2 ⟨_,List.getElem_mem hlt,rfl⟩)
   have hgs:=Dn (d:=datF l) (l1:=namF l 1) (jF l 0) hyl
   rw [HLE.out] at hgs
   clear hcell hv2 hids hm3
   generalize idO L[k] = y at r0 hyl hys hgs
   obtain ⟨o,ho⟩:=hys
   rw [ho] at hgs
   have HGT:Hid (∀ W,Below wo.heap.size wo W → Calls prog 332 #[.agg #[.pointer (some ⟨gd,0,none⟩),.pointer (some ⟨s,0,none⟩)],.agg (idC y).toArray] W fun e w' => e = .returned (.tuple #[.agg (obC o).toArray,.bool true]) ∧ Below W.heap.size W w'):=ah (fun W hW => by
    have h1:=(HS.out.below hW).get HOK.out y hyl
    rw [ho] at h1
    exact h1)
   have HGM:Hid (∀ W,Below wo.heap.size wo W → Calls prog 10 #[.agg #[.slice la L.length lc,.slice (some ⟨b,off,none⟩) L.length ic],.agg (idC y).toArray] W fun e w' => e = .returned (.tuple #[.agg (obC o).toArray,.bool true]) ∧ Below W.heap.size W w'):=ah (fun W hW => by
    have h1:=KZ (.agg #[.slice la L.length lc,.slice (some ⟨b,off,none⟩) L.length ic]) (bR (datF l) (namF l 0) (namF l 1)) y W (oO.of (HS.out.below hW).objs (HS.out.below hW).ids) hyl
    rw [HLE.out,hgs] at h1
    exact h1)
   have h32y:(prog.info? 24).map (·.size) = some (idC y).length:=dG (by rw [aD,hyl])
   have HSX:Hid (∀ W,Below wo.heap.size wo W → W.cell? ⟨mb,1,none⟩ = some (.slice (some ⟨b,off,none⟩) L.length ic) ∧ W.rangeAt b (off + k * 32) (idC y) ∧ W.rangeAt mb 0 [.slice la L.length lc,.slice (some ⟨b,off,none⟩) L.length ic]):=ah (fun W h => ⟨(iQ (HS.out.below h).box).1,au r0 h hbl,(HS.out.below h).box.range⟩)
   have HOB1:Hid (∀ u ∈ ([.int .i64 o.kind,.string o.body]:List Value),u.oneCell' = true):=ah (by simp [Value.oneCell'])
   have HSI:=HSX.out wo (Below.refl _ _)
   have c1:=HSI.1
   clear HSI
   generalize hue:idC y = ue at r0 h32y HGT HGM HSX
   unfold obC at HGT HGM
   clear hue hyl ho hgs r0
   have hmg:=CS gd s
   have hng:=NH gd s
   go_upto_region 9 with fail
   clear c1
   go_cut [8,9] from 32 to 44 (fun s8 s9 wx => ∃ P,s8 = .pointer (some ⟨P,0,none⟩) ∧ s9 = .bool true ∧ wo.heap.size ≤ P ∧ P < wx.heap.size ∧ Hid (wx.rangeAt P 0 [.int .i64 o.kind,.string o.body]) ∧ Hid (Below wo.heap.size wo wx))
   case first =>
    have HS0:=HSX.out wo.drew (Below.refl _ _).drew
    refine wrL 15 (fun w' => w'.cell? ⟨mb,1,none⟩ = some (.slice (some ⟨b,off,none⟩) L.length ic) ∧ w'.rangeAt b (off + k * 32) ue ∧ w'.rangeAt mb 0 [.slice la L.length lc,.slice (some ⟨b,off,none⟩) L.length ic]) ?_
    refine WL.tk 0 HS0 ?_
    refine WL.tk 1 HS0 ?_
    refine WL.tk 2 HS0 ?_
    refine WL.tk 3 HS0 ?_
    refine WL.tk 4 HS0 ?_
    refine WL.tk 5 HS0 ?_ (hy:=(fun w' hSw => iB 24 _ (hSw.2.1) underlying24 rfl h32y _ rfl rfl))
    refine WL.tk 6 HS0 ?_
    refine WL.tk 7 HS0 ?_
    refine WL.tk 8 HS0 ?_
    refine WL.tw 9 13 ?_ ?_
    focus
     go_wp2_with fail
     refine (HGT.out _ (Below.refl _ _).drew).mono ?_
     rintro e w6 ⟨rfl,hb6⟩
     have HB6:=ah (oN hb6)
     have HS6:=HSX.out w6 HB6.out
     have HB7:Hid (Below wo.heap.size wo (w6.alloc (.cells #[.int .i64 0,.string ⟨#[]⟩] 40))):=ah (HB6.out.alloc HB6.out.size _)
     have HS7:=HSX.out _ HB7.out
     have hth:=ah (Arr.ofList w6 [.int .i64 0,.string ⟨#[]⟩] 40).there
     have hp6:=HB6.out.size
     clear hb6
     go_wp2
     refine ⟨HS6,?_⟩
     refine WL.tk 10 HS6 ?_
     refine WL.tk 11 HS6 ?_
     refine WL.tk 12 HS6 ?_
     refine WL.on 13 ?_
     go_wp2
     refine ⟨HS7,?_⟩
     obtain ⟨P,hP⟩:∃ P,w6.heap.size = P:=⟨_,rfl⟩
     obtain ⟨w7,hw7⟩:∃ w7,w6.alloc (.cells #[.int .i64 0,.string ⟨#[]⟩] 40) = w7:=⟨_,rfl⟩
     have hpl:P < w7.heap.size:=by rw [← hw7,← hP];simp
     rw [hw7] at HB7 HS7 hth ⊢
     rw [hP] at hth hp6
     simp only [hP]
     clear hP hw7 HS6
    rotate_left
    focus
     have HB6:Hid (Below wo.heap.size wo (wo.alloc (.cells #[.int .i64 0,.string ⟨#[]⟩] 40)).drew):=ah (bal.drew)
     have hth6:=(Arr.ofList wo [.int .i64 0,.string ⟨#[]⟩] 40).drew.there
     have HS6:=HSX.out _ HB6.out
     go_wp2
     refine ⟨HS6,?_⟩
     refine WL.on 9 ?_
     go_wp2_with fail
     refine (HGT.out _ HB6.out).mono ?_
     rintro e w7 ⟨rfl,hb7⟩
     have hth:=ah (gL hth6 hb7 (by simp))
     have HB7:=bth HB6 hb7
     have HS7:=HSX.out _ HB7.out
     have hp6:wo.heap.size ≤ wo.heap.size:=Nat.le_refl _
     have hpl0:wo.heap.size < w7.heap.size:=by have:=hb7.size;simp at this;omega
     clear hb7 hth6
     go_wp2
     refine ⟨HS7,?_⟩
     refine WL.tk 10 HS7 ?_
     refine WL.tk 11 HS7 ?_
     refine WL.tk 12 HS7 ?_
     obtain ⟨P,hP⟩:∃ P,P = wo.heap.size:=⟨_,rfl⟩
     rw [← hP] at hth
     have hp6:wo.heap.size ≤ P:=by omega
     have hpl:P < w7.heap.size:=by omega
     simp only [← hP]
     clear hP HS6
    all_goals
     refine WL.on 14 ?_
     refine aj rfl 40 _ _ rfl P 0 [.int .i64 o.kind,.string o.body] rfl rfl 2 rfl hth.out (by kernel_rfl) HOB1.out ?_
     simp only [Act.put,nz]
     have HB8:=ah (below_setCells (B:=wo.heap.size) (a:=wo) P hp6 [.int .i64 o.kind,.string o.body] 0 w7 HB7.out)
     have HR8:=ah (World.rangeAt_setCells_same w7 P 0 [.int .i64 o.kind,.string o.body] hth.out)
     have hpl8:P < (w7.setCells P 0 [.int .i64 o.kind,.string o.body]).heap.size:=by rw [jm];exact hpl
     generalize w7.setCells P 0 [.int .i64 o.kind,.string o.body] = w8 at HB8 HR8 hpl8
     have HS8:=HSX.out _ HB8.out
     refine ⟨HS8,?_⟩
     refine WL.la 15 ?_
     clear HS8 HS7 HS0
     go_wp2_with fail
     go_meet
     exact ⟨P,rfl,rfl,hp6,hpl8,HR8,HB8⟩
   obtain ⟨P,rfl,rfl,hP,hPl,HR8,HB8⟩:=hcut
   have HSY:Hid (∀ W,Below wc.heap.size wc W → W.cell? ⟨mb,1,none⟩ = some (.slice (some ⟨b,off,none⟩) L.length ic) ∧ W.rangeAt b (off + k * 32) ue ∧ W.rangeAt mb 0 [.slice la L.length lc,.slice (some ⟨b,off,none⟩) L.length ic]):=ah (fun W h => HSX.out W (HB8.out.trans (h.mono HB8.out.size)))
   have HGY:=ah (fun W (h:Below wc.heap.size wc W) => HGM.out W (HB8.out.trans (h.mono HB8.out.size)))
   have HSC:=ah (HS.out.below HB8.out)
   have hsrc:(prog.info? 35).map (·.size) = some ([.slice la L.length lc,.slice (some ⟨b,off,none⟩) L.length ic]:List Value).length:=AQ
   clear HGT HGM HSX HB8 hng hmg
   go_upto_region 10 with fail
   go_cut [10,11] from 45 to 54 (fun s10 s11 wx => ∃ P2,s10 = .pointer (some ⟨P2,0,none⟩) ∧ s11 = .bool true ∧ wc.heap.size ≤ P2 ∧ P2 < wx.heap.size ∧ Hid (wx.rangeAt P2 0 [.int .i64 o.kind,.string o.body]) ∧ Hid (Below wc.heap.size wc wx))
   case first =>
    have HS0:=HSY.out wc.drew (Below.refl _ _).drew
    refine wrL 12 (fun w' => w'.cell? ⟨mb,1,none⟩ = some (.slice (some ⟨b,off,none⟩) L.length ic) ∧ w'.rangeAt b (off + k * 32) ue ∧ w'.rangeAt mb 0 [.slice la L.length lc,.slice (some ⟨b,off,none⟩) L.length ic]) ?_
    refine WL.tk 1 HS0 ?_
    refine WL.tk 2 HS0 ?_
    refine WL.tk 3 HS0 ?_
    refine WL.tk 4 HS0 ?_
    refine WL.tk 0 HS0 ?_ (hy:=(fun w' hSw => iB 35 _ (hSw.2.2) underlying35 rfl hsrc _ rfl rfl))
    refine WL.tk 5 HS0 ?_ (hy:=(fun w' hSw => iB 24 _ (hSw.2.1) underlying24 rfl h32y _ rfl rfl))
    refine WL.tw 6 10 ?_ ?_
    focus
     go_wp2_with fail
     refine (HGY.out _ (Below.refl _ _).drew).mono ?_
     rintro e w6 ⟨rfl,hb6⟩
     have HB6:=ah (oN hb6)
     have HS6:=HSY.out w6 HB6.out
     have HB7:Hid (Below wc.heap.size wc (w6.alloc (.cells #[.int .i64 0,.string ⟨#[]⟩] 40))):=ah (HB6.out.alloc HB6.out.size _)
     have HS7:=HSY.out _ HB7.out
     have hth:=ah (Arr.ofList w6 [.int .i64 0,.string ⟨#[]⟩] 40).there
     have hp6:=HB6.out.size
     clear hb6
     go_wp2
     refine ⟨HS6,?_⟩
     refine WL.tk 7 HS6 ?_
     refine WL.tk 8 HS6 ?_
     refine WL.tk 9 HS6 ?_
     refine WL.on 10 ?_
     go_wp2
     refine ⟨HS7,?_⟩
     obtain ⟨P,hP⟩:∃ P,w6.heap.size = P:=⟨_,rfl⟩
     obtain ⟨w7,hw7⟩:∃ w7,w6.alloc (.cells #[.int .i64 0,.string ⟨#[]⟩] 40) = w7:=⟨_,rfl⟩
     have hpl:P < w7.heap.size:=by rw [← hw7,← hP];simp
     rw [hw7] at HB7 HS7 hth ⊢
     rw [hP] at hth hp6
     simp only [hP]
     clear hP hw7 HS6
    rotate_left
    focus
     have HB6:Hid (Below wc.heap.size wc (wc.alloc (.cells #[.int .i64 0,.string ⟨#[]⟩] 40)).drew):=ah (bal.drew)
     have hth6:=(Arr.ofList wc [.int .i64 0,.string ⟨#[]⟩] 40).drew.there
     have HS6:=HSY.out _ HB6.out
     go_wp2
     refine ⟨HS6,?_⟩
     refine WL.on 6 ?_
     go_wp2_with fail
     refine (HGY.out _ HB6.out).mono ?_
     rintro e w7 ⟨rfl,hb7⟩
     have hth:=ah (gL hth6 hb7 (by simp))
     have HB7:=bth HB6 hb7
     have HS7:=HSY.out _ HB7.out
     have hp6:wc.heap.size ≤ wc.heap.size:=Nat.le_refl _
     have hpl0:wc.heap.size < w7.heap.size:=by have:=hb7.size;simp at this;omega
     clear hb7 hth6
     go_wp2
     refine ⟨HS7,?_⟩
     refine WL.tk 7 HS7 ?_
     refine WL.tk 8 HS7 ?_
     refine WL.tk 9 HS7 ?_
     obtain ⟨P,hP⟩:∃ P,P = wc.heap.size:=⟨_,rfl⟩
     rw [← hP] at hth
     have hp6:wc.heap.size ≤ P:=by omega
     have hpl:P < w7.heap.size:=by omega
     simp only [← hP]
     clear hP HS6
    all_goals
     refine WL.on 11 ?_
     refine aj rfl 40 _ _ rfl P 0 [.int .i64 o.kind,.string o.body] rfl rfl 2 rfl hth.out (by kernel_rfl) HOB1.out ?_
     simp only [Act.put,nz]
     have HB8:=ah (below_setCells (B:=wc.heap.size) (a:=wc) P hp6 [.int .i64 o.kind,.string o.body] 0 w7 HB7.out)
     have HR8:=ah (World.rangeAt_setCells_same w7 P 0 [.int .i64 o.kind,.string o.body] hth.out)
     have hpl8:P < (w7.setCells P 0 [.int .i64 o.kind,.string o.body]).heap.size:=by rw [jm];exact hpl
     generalize w7.setCells P 0 [.int .i64 o.kind,.string o.body] = w8 at HB8 HR8 hpl8
     have HS8:=HSY.out _ HB8.out
     refine ⟨HS8,?_⟩
     refine WL.la 12 ?_
     clear HS8 HS7 HS0
     go_wp2_with fail
     go_meet
     exact ⟨P,rfl,rfl,hp6,hpl8,HR8,HB8⟩
   obtain ⟨P2,rfl,rfl,hP2,hPl2,HR9,HB9⟩:=hcut
   have HSE:=ah (HSC.out.below HB9.out)
   have q1:=au HR8.out HB9.out hPl
   have q2:=HR9.out
   have h2o:(prog.info? 40).map (·.size) = some ([.int .i64 o.kind,.string o.body]:List Value).length:=aF
   have heq:∀ W,(Op.equalIn 10000 40 (.agg #[.int .i64 o.kind,.string o.body]) (.agg #[.int .i64 o.kind,.string o.body])).run prog W = .ok true W:=fun W => by simpa using Aw o.kind o.kind o.body o.body W
   clear HSY HGY HSC hsrc HB9 HR8 HR9 hP hPl hP2 hPl2
   generalize o.kind = ka at q1 q2 h2o heq
   generalize o.body = sa at q1 q2 h2o heq
   go_wp2_with (first
    | refine aG rfl 40 _ rfl P 0 rfl [.int .i64 ka,.string sa] _ q1 underlying40 rfl h2o ?_
    | refine aG rfl 40 _ rfl P2 0 rfl [.int .i64 ka,.string sa] _ q2 underlying40 rfl h2o ?_)
   go_roundw
   case rel => exact ⟨k + 1,by omega,by go_num,HSE⟩
   case measure => simp [intOf];omega
  obtain rfl:k = L.length:=by omega
  have c1:=(iQ HS.out.box).1
  have r1:=HS.out.id.range
  rw [HCX.out] at r1
  have h32:=HH.out
  have hmg:=CS gd s
  have HGT:Hid (Calls prog 332 #[.agg #[.pointer (some ⟨gd,0,none⟩),.pointer (some ⟨s,0,none⟩)],.agg cx.toArray] wo _):=ah (by rw [← HCX.out];exact HS.out.get HOK.out x HX.out)
  have HCO:=pq (d:=datF l) (l1:=namF l 1) (jF l 0) HX.out
  rw [HLE.out] at HCO
  have HCN:=ah HCO
  clear HCO
  go_wp2_with (refine wpList_load_mid rfl 24 _ rfl w.heap.size 0 rfl cx _ r1 underlying24 rfl h32 ?_)
  refine HGT.out.mono ?_
  intro e w8 ha
  obtain ⟨c,b,rfl,hcl,hc1,hb,_,hb8⟩:=E8 ha
  have HS8:=ah (HS.out.below hb8)
  have HT8:=ah (there_alloc (n:=2) w8 #[.int .i64 0,.string ⟨#[]⟩] 40 rfl)
  have HIO:=ah aF
  obtain ⟨W9,hW9⟩:∃ W,(w8.alloc (.cells #[.int .i64 0,.string ⟨#[]⟩] 40)).setCells w8.heap.size 0 c = W:=⟨_,rfl⟩
  have hb9:Below w8.heap.size w8 W9:=by rw [← hW9];exact below_setCells _ (Nat.le_refl _) _ _ _ bal
  have HS9:=ah (HS8.out.below hb9)
  have HW9:=ah hW9
  have HCL:=ah hcl
  have HC1:=ah hc1
  rw [← hb] at HCN
  have HA9:=ah (mX W9 HS9.out.glob)
  clear hb hcl hc1 ha hb8 hb9 hW9 c1 r1 HS8 HGT
  go_upto_region 14 with (refine aj rfl 40 _ _ rfl w8.heap.size 0 c rfl rfl 2 HCL.out HT8.out HIO.out HC1.out ?_;rw [HW9.out])
  go_wp2_with fail
  refine HA9.out.mono ?_
  rintro e w10 ⟨rfl,hb10⟩
  have HS10:=ah (HS9.out.below hb10)
  have c10:=(iQ HS10.out.box).1
  have r10:=HS10.out.id.range
  rw [HCX.out] at r10
  have HIN:Hid (Calls prog 11 #[.slice ia L.length ic,.agg cx.toArray] w10 _):=ah (by rw [← HCX.out];exact Ns _ (L.map idO) x w10 (by have hids:=HS10.out.ids;rw [HLE.out] at hids;exact hids) (fun y hy => by obtain ⟨o,_,rfl⟩:=List.mem_map.1 hy;exact dI o) HX.out)
  rw [HCN.out] at HIN
  clear hb10
  go_wp2_with (refine aG rfl 24 _ rfl w.heap.size 0 rfl cx _ r10 underlying24 rfl h32 ?_)
  refine HIN.out.mono ?_
  rintro e w11 ⟨rfl,hb11⟩
  have HS11:=ah (HS10.out.below hb11)
  have hbe:(b == b) = true:=by simp
  go_wp2_with fail
  go_ret
  exact ⟨rfl,HS11.out.bel⟩
end
end Go.Proofs.YtijhemdnajlfnaaGreatDoor

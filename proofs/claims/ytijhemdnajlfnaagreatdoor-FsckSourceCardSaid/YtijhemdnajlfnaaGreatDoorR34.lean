/- A part of this claim. -/
import Derived.Test.YtijhemdnajlfnaaGreatDoorR28
import Derived.Test.YtijhemdnajlfnaaGreatDoorR32
namespace Go.Proofs.YtijhemdnajlfnaaGreatDoor
open Tryz
set_option maxHeartbeats 64000000
set_option maxRecDepth 100000
section
open Go.RowKit Fl
theorem Bc (B b:Nat) (w:World) (h:Wr B b [] w):Calls prog 211 #[.pointer (some ⟨b,0,none⟩)] w fun e w' => e = .returned (.string (ofB [])) ∧ Below B w w':=by
 obtain ⟨p,hB,v,hbk,hown,hne⟩:∃ p,Lib.BuilderAt 266 5 B b p (Lib.byteCells []) w:=by
  rcases h with h | h
  ·exact ⟨_,h⟩
  exact ⟨_,h⟩
 have c1:w.drew.cell? ⟨b,1,none⟩ = some v:=by
  have:w.drew.heap[b]? = some (.cells #[p,v] 266 (0,0)):=hbk
  rw [Lib.cell_of_heap this];rfl
 obtain ⟨ao,cap,q,W,rfl,hSD,hBW,c2⟩:∃ ao cap q W,v = .slice ao 0 cap ∧ (Builtin.unsafeSliceData_ #[221] 371 #[.slice ao 0 cap]).run prog w.drew = .ok (.pointer q) W ∧ Below B w W ∧ W.cell? ⟨b,1,none⟩ = some v:=by
  rcases hown.2 with ⟨hv,_⟩ | ⟨g,cap,cur,hv,hBg,hg,_⟩
  ·exact ⟨none,0,none,w.drew,hv,Lib.run_unsafeSliceData_nil _ _ _ _ _,Below.drew (Below.refl B w),c1⟩
  by_cases hc:cap = 0
  ·subst hc
   have hB2:Below w.drew.heap.size w.drew (w.drew.alloc (.view ⟨g,0,none⟩ 5)):=bal
   exact ⟨_,_,_,_,hv,Lib.run_unsafeSliceData_zero _ _ _ 5 underlying371 ⟨g,0,none⟩ _ (5,cur.size) (by have hg':w.drew.heap[g]? = some (.cells cur 5 (0,0)):=hg;simp [World.shape?,hg']),(Below.drew (Below.refl B w)).trans (hB2.mono (by have h2:=World.block_lt_of_cell? w.drew _ c1;exact Nat.le_trans hB (Nat.le_of_lt h2))),ak c1 hB2 (World.block_lt_of_cell? w.drew _ c1)⟩
  exact ⟨_,_,_,w.drew,hv,Lib.run_unsafeSliceData_row _ _ _ _ _ _ hc,Below.drew (Below.refl B w),c1⟩
 have hUS:(Builtin.unsafeString_ #[371,3] 9 #[.pointer q,.int .i64 0]).run prog W = .ok (.string .empty) W:=Lib.run_unsafeString_none _ _ _ _ _
 go_enter func211,ntmps211
 go_wp2
 go_region
 all_goals (go_wp2;go_ret;exact ⟨rfl,hBW⟩)
theorem D7 (B b:Nat) (l:List UInt8) (w:World) (h:Wr B b l w):Calls prog 163 #[.pointer (some ⟨b,0,none⟩)] w fun e w' => e = .returned (.string (ofB l)) ∧ Below B w w':=by
 by_cases h0:l = []
 ·subst h0
  have HS:=ah (Bc B b w h)
  clear h
  go_enter func163,ntmps163
  go_wp2_with fail
  refine HS.out.mono ?_
  rintro e w1 ⟨rfl,hb⟩
  go_wp2
  go_ret
  exact ⟨rfl,hb⟩
 exact qD B b l w h h0
def eG:Sum Nat (List UInt8) → Value
 | .inl e => .tuple #[.string ⟨#[]⟩,.int .i64 (e:Int)]
 | .inr t => .tuple #[.string (ofB t),.int .i64 0]
theorem jJ {b:Nat} {l:List Pc} {e:Nat} (h:bA b l = .inl e):0 < e ∧ e < 100:=by
 unfold bA at h
 split at h
 ·cases h;omega
 split at h
 ·cases h;omega
 split at h
 ·cases h;omega
 cases h
theorem rC {b:Nat} {l:List Pc} {n:Nat} (h:bA b l = .inr n):l.all (bI b) = true ∧ sumP b l = n ∧ n ≤ 4099 ∧ b ≤ 4099:=by
 unfold bA at h
 split at h
 ·cases h
 split at h
 ·cases h
 split at h
 ·cases h
 rename_i h1 h2 h3
 cases h
 exact ⟨by simpa using h2,rfl,by omega,by omega⟩
def eZ (base:ByteArray) (p:Pc):ByteArray:=match aN base.size p with
 | some x => base.extract x.1 (x.1 + x.2)
 | none => base.extract 0 0
theorem extract_drop (s:ByteArray) (a n:Nat):(s.extract a (a + n)).data.toList = (s.data.toList.drop a).take n:=by
 rw [ByteArray.data_extract,Array.toList_extract]
 simp [List.extract]
theorem mH (base:ByteArray) (p:Pc):cO base p = (eZ base p).data.toList ++ p.t.data.toList:=by
 unfold cO eZ
 cases h:aN base.size p with
 | none =>
  show p.t.data.toList = (base.extract 0 0).data.toList ++ p.t.data.toList
  have:=extract_drop base 0 0
  rw [Nat.zero_add] at this
  rw [this];simp
 | some x =>
  obtain ⟨rfl,h1,h2,h3,h4⟩:=fU h
  show (base.data.toList.drop p.pos).take p.n = (base.extract p.pos (p.pos + p.n)).data.toList ++ p.t.data.toList
  have ht:p.t.data.toList = []:=List.length_eq_zero_iff.1 (by simpa using h3)
  rw [extract_drop,ht,List.append_nil]
theorem yN (base:ByteArray) (p:Pc) (h:bI base.size p = true):(cO base p).length = lenP base.size p:=by
 have hd:=zG h
 unfold cO
 unfold wQ at hd
 cases hc:aN base.size p with
 | none =>
  rw [hc] at hd
  rw [← hd];simp
 | some x =>
  rw [hc] at hd
  rw [← hd]
  obtain ⟨rfl,h1,h2,h3,h4⟩:=fU hc
  show ((base.data.toList.drop p.pos).take p.n).length = p.n
  have:base.data.toList.length = base.size:=by simp
  rw [List.length_take,List.length_drop]
  omega
theorem kZ (base:ByteArray):∀ l:List Pc,l.all (bI base.size) = true → (l.flatMap (cO base)).length = sumP base.size l
 | [],_ => rfl
 | p :: l,h => by
  rw [List.all_cons,Bool.and_eq_true] at h
  rw [List.flatMap_cons,List.length_append,yN base p h.1,kZ base l h.2,yj]
theorem sw (base:ByteArray) (p:Pc) (h:bI base.size p = true):(eZ base p).size + p.t.size = lenP base.size p:=by
 have h1:=yN base p h
 rw [mH,List.length_append] at h1
 have e1:(eZ base p).data.toList.length = (eZ base p).size:=by simp
 have e2:p.t.data.toList.length = p.t.size:=by simp
 omega
theorem AY (base:ByteArray) (p:Pc):∃ at0 n:Nat,∃ ok:Bool,iD base.size p = .tuple #[.int .i64 (at0:Int),.int .i64 (n:Int),.bool ok] ∧ at0 + n ≤ base.size ∧ eZ base p = base.extract at0 (at0 + n):=by
 unfold iD eZ
 cases h:aN base.size p with
 | none => exact ⟨0,0,false,rfl,by omega,rfl⟩
 | some x =>
  obtain ⟨rfl,h1,h2,h3,h4⟩:=fU h
  exact ⟨p.pos,p.n,true,rfl,h4,rfl⟩
theorem Og (w:World) (s t:ByteArray):BoxL (w.alloc (.cells #[.string s,.string t] 9)) w.heap.size 9 [.string s,.string t]:=BoxL.new w 9 [.string s,.string t]
theorem J7 (base:ByteArray) (v:Value) (l:List Pc) (w:World) (hb:base.size ≤ 100000) (hv:jM w v l) (ho:PcOk l):Calls prog 283 #[.string base,v] w fun e w' => e = .returned (eG (iZ base l)) ∧ Below w.heap.size w w':=by
 have hv0:=hv
 obtain ⟨ao,cap,rfl,hmax,hv⟩:=hv.open
 have HC:=ah (wT base.size _ l w hb hv0 ho)
 have HV:=ah hv0
 have HO:=ah ho
 clear hv hv0 ho
 cases hck:bA base.size l with
 | inl e =>
  have HR:Hid (eG (iZ base l) = .tuple #[.string ⟨#[]⟩,.int .i64 (e:Int)]):=ah (by unfold iZ;rw [hck];rfl)
  obtain ⟨he1,he2⟩:=jJ hck
  have d1:((e:Int) != 0) = true:=by rw [bne_iff_ne];omega
  rw [hck] at HC
  dsimp only [iE] at HC
  clear hck
  go_enter func283,ntmps283
  go_wp2_with fail
  refine HC.out.mono ?_
  rintro x w1 ⟨rfl,hb1⟩
  go_wp2_with fail
  go_ret2
  exact ⟨by rw [HR.out];rfl,hb1⟩
 | inr n =>
  obtain ⟨hall,hsum,hn,hbs⟩:=rC hck
  have HR:Hid (eG (iZ base l) = .tuple #[.string (ofB (l.flatMap (cO base))),.int .i64 0]):=ah (by unfold iZ;rw [hck];rfl)
  have HSUM:Hid (∀ k,((l.take k).flatMap (cO base)).length ≤ 4099):=ah fun k => by
   have ha:(l.take k).all (bI base.size) = true:=List.all_eq_true.2 fun x hx => List.all_eq_true.1 hall x (List.mem_of_mem_take hx)
   rw [kZ base _ ha]
   have:=jo base.size l k
   omega
  have HALL:=ah hall
  rw [hck] at HC
  dsimp only [iE] at HC
  clear hck hall hsum
  go_enter func283,ntmps283
  go_wp2_with fail
  refine HC.out.mono ?_
  rintro x w1 ⟨rfl,hb1⟩
  have HB1:=ah hb1
  have HW0:Hid (Wr w1.heap.size w1.heap.size [] (w1.alloc (.cells #[.pointer none,.slice none 0 0] 266))):=ah (Lib.fresh_isBuilder 266 5 w1)
  have HB2:Hid (Below w.heap.size w (w1.alloc (.cells #[.pointer none,.slice none 0 0] 266))):=ah (hb1.alloc hb1.size _)
  have HB3:Hid (Below w1.heap.size w1 (w1.alloc (.cells #[.pointer none,.slice none 0 0] 266))):=ah bal
  clear hb1
  go_wp2_with fail
  go_loopw [26] (fun i wr => ∃ k:Nat,k ≤ l.length ∧ i = .int .i64 (k:Int) ∧ Wr w1.heap.size w1.heap.size ((l.take k).flatMap (cO base)) wr ∧ Below w1.heap.size w1 wr) (fun i _ => (l.length - intOf i).toNat)
  case atStart => exact ⟨0,by omega,rfl,HW0.out,HB3.out⟩
  obtain ⟨k,hk,rfl,hWr,hbr⟩:=hrel
  have HWR:=ah hWr
  have HBR:=ah hbr
  have hsr:=hbr.size
  clear hWr hbr
  by_cases hlt:k < l.length
  ·obtain ⟨ao2,cap2,e2,_,hv2⟩:=(HV.out.below (HB1.out.trans (HBR.out.mono HB1.out.size))).open
   cases e2
   obtain ⟨g,off,rfl,hbl,hcell⟩:=hv2 (by intro e;rw [e] at hlt;simp at hlt)
   have r0:=hcell k hlt
   have k0:(0:Int) ≤ k:=by omega
   have k1:(k:Int) < l.length:=by omega
   have wk:IntKind.i64.wrap ((k:Int) + 1) = (k:Int) + 1:=IntWalk.i64_in _ (by unfold maxLen at hmax;omega)
   have HO1:=ah (HO.out l[k] (List.getElem_mem hlt))
   have HRP:=ah (List.all_eq_true.1 HALL.out l[k] (List.getElem_mem hlt))
   have HF:Hid ((l.take (k + 1)).flatMap (cO base) = (l.take k).flatMap (cO base) ++ cO base l[k]):=ah (by rw [List.take_succ_eq_append_getElem hlt,List.flatMap_append];simp)
   have HL1:=ah (HSUM.out (k + 1))
   generalize hp:l[k] = p at r0 HO1 HRP HF
   have c0:wr.cell? ⟨g,off + k * 2,none⟩ = some (.complex .f64 (fb (p.pos:Int)) (fb (p.n:Int))):=r0 0 _ rfl
   have c1:wr.cell? ⟨g,off + k * 2 + 1,none⟩ = some (.string p.t):=r0 1 _ rfl
   clear hcell hv2 r0 hp
   have HT1:=ah (there_alloc (n:=2) wr #[.complex .f64 0 0,.string ⟨#[]⟩] 388 rfl)
   have HBX:=ah (BoxL.new wr 388 [.complex .f64 0 0,.string ⟨#[]⟩])
   have HIP:=ah p9
   obtain ⟨W,hW⟩:∃ W,(wr.alloc (.cells #[.complex .f64 0 0,.string ⟨#[]⟩] 388)).setCells wr.heap.size 0 (pcF p) = W:=⟨_,rfl⟩
   have hbx:BoxL W wr.heap.size 388 (pcF p):=by rw [← hW];exact HBX.out.set rfl
   have d0':W.cell? ⟨wr.heap.size,0,none⟩ = some (.complex .f64 (fb (p.pos:Int)) (fb (p.n:Int))):=hbx.range 0 _ rfl
   have d1':W.cell? ⟨wr.heap.size,1,none⟩ = some (.string p.t):=hbx.range 1 _ rfl
   have HBW:Hid (Below wr.heap.size wr W):=ah (by rw [← hW];exact below_setCells _ (Nat.le_refl _) _ _ _ bal)
   have hwl:wr.heap.size < W.heap.size:=hbx.lt
   have HW:=ah hW
   have HCP:=ah (show Calls prog 301 #[.agg #[.complex .f64 (fb (p.pos:Int)) (fb (p.n:Int)),.string p.t],.int .i64 (base.size:Int)] W _ from wX base.size p W hb HO1.out.1 HO1.out.2.1)
   obtain ⟨at0,n0,ok,hans,hle,hpart⟩:=AY base p
   rw [hans] at HCP
   have HSL:=ah (fun w => iM base at0 n0 hle w)
   rw [← hpart] at HSL
   have HPP:Hid (cO base p = (eZ base p).data.toList ++ p.t.data.toList):=ah (mH base p)
   have HSZ:=ah (sw base p HRP.out)
   have HLE:=ah (sW base.size p)
   generalize eZ base p = q at HSL HPP HSZ
   have wa:IntKind.i64.wrap ((at0:Int) + n0) = (at0:Int) + n0:=by rw [IntKind.wrap_i64];omega
   generalize hM:(l.take k).flatMap (cO base) = M at HWR HF
   have HM:Hid (M.length ≤ 4099):=ah (by have:=HSUM.out k;rwa [hM] at this)
   clear hbx hW hans hpart hM
   go_upto_region 8 with (refine aj rfl 388 _ _ rfl wr.heap.size 0 (pcF p) rfl rfl 2 rfl HT1.out HIP.out (by intro v hv;unfold pcF at hv;simp at hv;rcases hv with rfl | rfl <;> rfl) ?_;rw [HW.out])
   go_wp2_with fail
   refine HCP.out.mono ?_
   rintro e w2 ⟨rfl,hb2⟩
   have f1:w2.cell? ⟨wr.heap.size,1,none⟩ = some (.string p.t):=ak d1' hb2 hwl
   have HB2':=bth HBW hb2
   have h2l:wr.heap.size < w2.heap.size:=by have:=hb2.size;omega
   clear c0 c1 d0' d1' hb2 HCP
   have hsl:=HSL.out
   go_wp2_with fail
   refine dL 8 (by kernel_rfl) (by kernel_rfl) ?_
   simp only [List.take_succ_cons,List.take_zero,List.drop_succ_cons,List.drop_zero]
   have LQ0:=blq f1
   repeat (go_big_quiet_step (fail))
   refine wpQuiet_nil ?_
   intro wq hbq
   clear LQ0
   clear hsl
   have HQ:Hid (Below wr.heap.size wr wq):=ah (HB2'.out.trans (hbq.mono HB2'.out.size))
   have HWQ:Hid (Wr w1.heap.size w1.heap.size M (wq.alloc (.cells #[.string q,.string p.t] 9))):=ah ((HWR.out.below HQ.out).below bal)
   have HRW:=ah (D6 w1.heap.size w1.heap.size M wq.heap.size q p.t (wq.alloc (.cells #[.string q,.string p.t] 9)) HWQ.out (by have:=HSZ.out;have:=HM.out;have:=HLE.out;omega) (by have:=HQ.out.size;simp;omega) (Og wq q p.t))
   clear hbq f1
   go_wp2_with fail
   refine HRW.out.mono ?_
   rintro e w3 ⟨rfl,hW3,hb3⟩
   have HW3:=ah hW3
   have HB3':Hid (Below w1.heap.size w1 w3):=ah ((HBR.out.trans (((HQ.out.mono hsr).alloc (by have:=HQ.out.size;omega) _))).trans hb3)
   clear hW3 hb3
   go_wp2_with fail
   go_roundw
   case rel => exact ⟨k + 1,by omega,by go_num,by rw [HF.out,HPP.out,← List.append_assoc];exact HW3.out,HB3'.out⟩
   case measure => simp [intOf];omega
  obtain rfl:k = l.length:=by omega
  have HWL:Hid (Wr w1.heap.size w1.heap.size (l.flatMap (cO base)) wr):=ah (by have:=HWR.out;rwa [List.take_length] at this)
  have HS:=ah (D7 _ _ _ _ HWL.out)
  go_wp2_with fail
  refine HS.out.mono ?_
  rintro e w2 ⟨rfl,hb2⟩
  have HB4:Hid (Below w.heap.size w w2):=ah (HB1.out.trans ((HBR.out.trans hb2).mono HB1.out.size))
  clear hb2
  go_wp2_with fail
  go_ret2
  exact ⟨by rw [HR.out];rfl,HB4.out⟩
theorem Ep (base:ByteArray) (v:Value) (l:List Pc) (w:World) (hb:base.size ≤ 100000) (hv:jM w v l) (ho:PcOk l):Calls prog 234 #[.string base,v] w fun e w' => e = .returned (eG (iZ base l)) ∧ Below w.heap.size w w':=by
 have hv0:=hv
 obtain ⟨ao,cap,rfl,hmax,hv⟩:=hv.open
 have HC:=ah (uP base.size _ l w hb hv0 ho)
 have HV:=ah hv0
 have HO:=ah ho
 clear hv hv0 ho
 cases hck:bA base.size l with
 | inl e =>
  have HR:Hid (eG (iZ base l) = .tuple #[.string ⟨#[]⟩,.int .i64 (e:Int)]):=ah (by unfold iZ;rw [hck];rfl)
  obtain ⟨he1,he2⟩:=jJ hck
  have d1:((e:Int) != 0) = true:=by rw [bne_iff_ne];omega
  rw [hck] at HC
  dsimp only [iE] at HC
  clear hck
  go_enter func234,ntmps234
  go_wp2_with fail
  refine HC.out.mono ?_
  rintro x w1 ⟨rfl,hb1⟩
  go_wp2_with fail
  go_ret2
  exact ⟨by rw [HR.out];rfl,hb1⟩
 | inr n =>
  obtain ⟨hall,hsum,hn,hbs⟩:=rC hck
  have HR:Hid (eG (iZ base l) = .tuple #[.string (ofB (l.flatMap (cO base))),.int .i64 0]):=ah (by unfold iZ;rw [hck];rfl)
  have HSUM:Hid (∀ k,((l.take k).flatMap (cO base)).length ≤ 4099):=ah fun k => by
   have ha:(l.take k).all (bI base.size) = true:=List.all_eq_true.2 fun x hx => List.all_eq_true.1 hall x (List.mem_of_mem_take hx)
   rw [kZ base _ ha]
   have:=jo base.size l k
   omega
  have HALL:=ah hall
  rw [hck] at HC
  dsimp only [iE] at HC
  clear hck hall hsum
  go_enter func234,ntmps234
  go_wp2_with fail
  refine HC.out.mono ?_
  rintro x w1 ⟨rfl,hb1⟩
  have HB1:=ah hb1
  clear hb1
  go_wp2_with fail
  go_loopw [8,9] (fun s i wr => ∃ k:Nat,k ≤ l.length ∧ i = .int .i64 (k:Int) ∧ s = .string (ofB ((l.take k).flatMap (cO base))) ∧ Below w.heap.size w wr) (fun _ i _ => (l.length - intOf i).toNat)
  case atStart => exact ⟨0,by omega,rfl,rfl,HB1.out⟩
  obtain ⟨k,hk,rfl,rfl,hbr⟩:=hrel
  have HBR:=ah hbr
  clear hbr
  by_cases hlt:k < l.length
  ·obtain ⟨ao2,cap2,e2,_,hv2⟩:=(HV.out.below HBR.out).open
   cases e2
   obtain ⟨g,off,rfl,hbl,hcell⟩:=hv2 (by intro e;rw [e] at hlt;simp at hlt)
   have r0:=hcell k hlt
   have k0:(0:Int) ≤ k:=by omega
   have k1:(k:Int) < l.length:=by omega
   have wk:IntKind.i64.wrap ((k:Int) + 1) = (k:Int) + 1:=IntWalk.i64_in _ (by unfold maxLen at hmax;omega)
   have HO1:=ah (HO.out l[k] (List.getElem_mem hlt))
   have HRP:=ah (List.all_eq_true.1 HALL.out l[k] (List.getElem_mem hlt))
   have HF:Hid ((l.take (k + 1)).flatMap (cO base) = (l.take k).flatMap (cO base) ++ cO base l[k]):=ah (by rw [List.take_succ_eq_append_getElem hlt,List.flatMap_append];simp)
   have hM1:=HSUM.out k
   generalize hp:l[k] = p at r0 HO1 HRP HF
   have c0:wr.cell? ⟨g,off + k * 2,none⟩ = some (.complex .f64 (fb (p.pos:Int)) (fb (p.n:Int))):=r0 0 _ rfl
   have c1:wr.cell? ⟨g,off + k * 2 + 1,none⟩ = some (.string p.t):=r0 1 _ rfl
   have HCP:=ah (show Calls prog 277 #[.agg #[.complex .f64 (fb (p.pos:Int)) (fb (p.n:Int)),.string p.t],.int .i64 (base.size:Int)] wr _ from qM base.size p wr hb HO1.out.1 HO1.out.2.1 HO1.out.2.2)
   have HSZ:=ah (sw base p HRP.out)
   have HLE:=ah (sW base.size p)
   have HPP:Hid (cO base p = (eZ base p).data.toList ++ p.t.data.toList):=ah (mH base p)
   generalize hM:(l.take k).flatMap (cO base) = M at HF hM1
   have hS1:(ofB M).size ≤ 4099:=by rw [aM];exact hM1
   obtain ⟨S,hS⟩:∃ S,ofB M = S:=⟨_,rfl⟩
   rw [hS] at hS1 ⊢
   have HS:=ah hS
   clear hcell hv2 r0 hp hM hM1 hS
   cases hc:aN base.size p with
   | some x =>
    obtain ⟨rfl,h1,h2,h3,h4⟩:=fU hc
    have HSL:=ah (fun w => iM base p.pos p.n h4 w)
    have hq:eZ base p = base.extract p.pos (p.pos + p.n):=by unfold eZ;rw [hc]
    rw [← hq] at HSL
    have ht:p.t.data.toList = []:=List.length_eq_zero_iff.1 (by simpa using h3)
    rw [ht,List.append_nil] at HPP
    have wa:IntKind.i64.wrap ((p.pos:Int) + p.n) = (p.pos:Int) + p.n:=by rw [IntKind.wrap_i64];omega
    have HN:Hid (S ++ eZ base p = ofB ((l.take (k + 1)).flatMap (cO base))):=ah (by rw [HF.out,dh,HPP.out,lu,HS.out])
    have HCY:Hid (∀ v,fJ base.size p v → v = .tuple #[.int .i64 (p.pos:Int),.int .i64 (p.n:Int),.bool true]):=ah fun v h => by unfold fJ at h;rw [hc] at h;exact h
    have hszq:(eZ base p).size ≤ 4099:=by have:=HSZ.out;have:=HLE.out;omega
    generalize eZ base p = q at HSL HN hszq
    clear hq ht hc h1 h2 h3
    have hsl:=HSL.out
    go_wp2_with fail
    refine HCP.out.mono ?_
    rintro e w2 ⟨⟨v,rfl,hcy⟩,hb2⟩
    obtain rfl:=HCY.out v hcy
    have HB2:=bth HBR hb2
    clear hcy hb2
    go_wp2_with fail
    rw [HN.out]
    go_roundw
    case rel => exact ⟨k + 1,by omega,by go_num,rfl,HB2.out⟩
    case measure => simp [intOf];omega
   | none =>
    have hq:eZ base p = base.extract 0 0:=by unfold eZ;rw [hc]
    have h0:(eZ base p).data.toList = []:=by
     rw [hq]
     have:=extract_drop base 0 0
     rw [Nat.zero_add] at this
     rw [this];simp
    rw [h0,List.nil_append] at HPP
    have HN:Hid (S ++ p.t = ofB ((l.take (k + 1)).flatMap (cO base))):=ah (by rw [HF.out,dh,HPP.out,lu,HS.out])
    have HCY:Hid (∀ v,fJ base.size p v → ∃ i j:Int,v = .tuple #[.int .i64 i,.int .i64 j,.bool false]):=ah fun v h => by unfold fJ at h;rw [hc] at h;exact h
    have htz:p.t.size ≤ 4099:=by have:=HSZ.out;have:=HLE.out;omega
    clear hq h0 hc
    go_wp2_with fail
    refine HCP.out.mono ?_
    rintro e w2 ⟨⟨v,rfl,hcy⟩,hb2⟩
    obtain ⟨i,j,rfl⟩:=HCY.out v hcy
    have f1:w2.cell? ⟨g,off + k * 2 + 1,none⟩ = some (.string p.t):=ak c1 hb2 hbl
    have HB2:=bth HBR hb2
    clear hcy hb2 c0 c1
    go_wp2_with fail
    rw [HN.out]
    go_roundw
    case rel => exact ⟨k + 1,by omega,by go_num,rfl,HB2.out⟩
    case measure => simp [intOf];omega
  obtain rfl:k = l.length:=by omega
  rw [List.take_length]
  go_wp2_with fail
  go_ret2
  exact ⟨by rw [HR.out];rfl,HBR.out⟩
end
end Go.Proofs.YtijhemdnajlfnaaGreatDoor

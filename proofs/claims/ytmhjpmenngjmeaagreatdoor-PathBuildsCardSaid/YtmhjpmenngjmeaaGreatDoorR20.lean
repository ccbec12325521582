/- YtmhjpmenngjmeaaGreatDoorR20: texts RT, N3, SOB of this claim, in one. -/
import Derived.Test.YtmhjpmenngjmeaaGreatDoorR1
import Derived.Test.YtmhjpmenngjmeaaGreatDoorR14
import Derived.Test.YtmhjpmenngjmeaaGreatDoorR16
import Derived.Test.YtmhjpmenngjmeaaGreatDoorR8
namespace Go.Proofs.YtmhjpmenngjmeaaGreatDoor
theorem dl_len (s:ByteArray):s.data.toList.length = s.size:=Array.length_toList
theorem left_len (r:Rd):r.left.length = r.s.size - r.pos:=by unfold Rd.left;rw [List.length_drop];rfl
theorem left_next (r:Rd) (n:Nat) {x rest:List UInt8} (hl:r.left = x ++ rest) (hx:x.length = n):({ r with pos:=r.pos + n }:Rd).left = rest:=by
 show r.s.data.toList.drop (r.pos + n) = rest
 rw [← List.drop_drop]
 show r.left.drop n = rest
 rw [hl,← hx,List.drop_left]
theorem Rd.num_read (r:Rd) (most n:Nat) (rest:List UInt8) (h0:r.err = 0) (hn:n < 128) (hm:n ≤ most) (hl:r.left = numB n ++ rest):r.num most = ({ r with pos:=r.pos + 1 },n):=by
 rw [numB_small hn] at hl
 have hg:numGo r.left most 6 0 0 = .inr (n,1):=by
  unfold numGo
  rw [hl]
  have e1:(UInt8.ofNat n).toNat = n:=by rw [UInt8.toNat_ofNat'];omega
  have e2:n % 128 = n:=Nat.mod_eq_of_lt hn
  simp only [List.cons_append,List.nil_append,List.getElem?_cons_zero]
  rw [e1,if_neg (by omega),if_neg (by omega),e2,if_neg (by simp;omega)]
  simp
 unfold Rd.num
 rw [if_neg (by simp [h0]),hg]
theorem Rd.raw_read (r:Rd) (x rest:List UInt8) (h0:r.err = 0) (hl:r.left = x ++ rest):∃ b,r.raw x.length = ({ r with pos:=r.pos + x.length },b) ∧ b.data.toList = x:=by
 have hlen:=left_len r
 rw [hl,List.length_append] at hlen
 refine ⟨r.s.extract r.pos (r.pos + x.length),?_,?_⟩
 ·unfold Rd.raw
  rw [if_neg (by simp [h0]),if_neg (by omega)]
 ·rw [ByteArray.data_extract,Array.toList_extract,List.extract_eq_take_drop,Nat.add_sub_cancel_left]
  show r.left.take x.length = x
  rw [hl,List.take_left]
theorem Rd.text_read (r:Rd) (most:Nat) (x:ByteArray) (rest:List UInt8) (h0:r.err = 0) (hx:x.size < 128) (hm:x.size ≤ most) (hl:r.left = numB x.size ++ (x.data.toList ++ rest)):r.text most = ({ r with pos:=r.pos + 1 + x.size },x):=by
 have h1:=r.num_read most x.size _ h0 hx hm hl
 have hl2:({ r with pos:=r.pos + 1 }:Rd).left = x.data.toList ++ rest:=left_next r 1 hl (by rw [numB_small hx];rfl)
 obtain ⟨b,hb,hbx⟩:=Rd.raw_read { r with pos:=r.pos + 1 } x.data.toList rest h0 hl2
 have hxl:=dl_len x
 rw [hxl] at hb
 have e:b = x:=ba_ext hbx
 subst e
 unfold Rd.text
 rw [if_neg (by simp [h0]),h1]
 dsimp only
 rw [hb,if_neg (by show ¬ r.err ≠ 0;simp [h0])]
theorem Rd.id_read (r:Rd) (x rest:List UInt8) (h0:r.err = 0) (hx:x.length = 32) (hl:r.left = x ++ rest):r.id = ({ r with pos:=r.pos + 32 },x):=by
 obtain ⟨b,hb,hbx⟩:=r.raw_read x rest h0 hl
 rw [hx] at hb
 unfold Rd.id
 rw [hb,idOf_raw b (by rw [← hx,← hbx];exact (dl_len b).symm),hbx]
def entW (e:Ent):Prop:=e.name.size ≤ 32 ∧ e.kind ≤ 2 ∧ e.id.length = 32
theorem ent_len {e:Ent} (h:entW e):e.bytes.length = 34 + e.name.size:=by
 unfold Ent.bytes
 obtain ⟨h1,h2,h3⟩:=h
 rw [numB_small (by omega),numB_small (by omega)]
 simp only [List.length_append,List.length_cons,List.length_nil,h3]
 have:=dl_len e.name
 omega
theorem Rd.entry_read (r:Rd) (e:Ent) (rest:List UInt8) (h0:r.err = 0) (h:entW e) (hl:r.left = e.bytes ++ rest):r.entry = ({ r with pos:=r.pos + e.bytes.length },e):=by
 have hlen:=ent_len h
 obtain ⟨hn,hk,hi⟩:=h
 have e0:r.left = numB e.kind ++ (numB e.name.size ++ (e.name.data.toList ++ (e.id ++ rest))):=by rw [hl];unfold Ent.bytes;simp only [List.append_assoc]
 have h1:=r.num_read 2 e.kind _ h0 (by omega) hk e0
 have l1:({ r with pos:=r.pos + 1 }:Rd).left = numB e.name.size ++ (e.name.data.toList ++ (e.id ++ rest)):=left_next r 1 e0 (by rw [numB_small (by omega)];rfl)
 have h2:=Rd.text_read { r with pos:=r.pos + 1 } 32 e.name _ h0 (by omega) hn l1
 have l2:({ r with pos:=r.pos + 1 + 1 + e.name.size }:Rd).left = e.id ++ rest:=by
  have:=left_next r (1 + 1 + e.name.size) (x:=numB e.kind ++ (numB e.name.size ++ e.name.data.toList)) (rest:=e.id ++ rest) (by rw [e0];simp only [List.append_assoc]) (by
   rw [numB_small (by omega),numB_small (by omega)]
   simp only [List.length_append,List.length_cons,List.length_nil]
   have:=dl_len e.name
   omega)
  rw [← this];simp only [Nat.add_assoc]
 have h3:=Rd.id_read { r with pos:=r.pos + 1 + 1 + e.name.size } e.id rest h0 hi l2
 unfold Rd.entry
 rw [h1]
 dsimp only
 rw [h2]
 dsimp only
 rw [h3,hlen]
 simp only [Nat.add_assoc,Prod.mk.injEq,and_true,Rd.mk.injEq,true_and]
 omega
theorem Rd.ents_read:∀ (es:List Ent) (f:Nat) (r:Rd),r.err = 0 → (∀ e ∈ es,entW e) → es.length < f → r.pos ≤ r.s.size → r.left = treeB es → r.ents f = ({ r with pos:=r.s.size },es)
 | [],f + 1,r,h0,_,_,hp,hl => by
  have hlen:=left_len r
  rw [hl] at hlen
  have hs:r.s.size - r.pos = 0:=hlen.symm
  have e:r.pos = r.s.size:=by omega
  unfold Rd.ents
  rw [if_neg (by unfold Rd.more;simp;omega),← e]
 | e :: es,f + 1,r,h0,hw,hf,hp,hl => by
  have hl2:r.left = e.bytes ++ treeB es:=by rw [hl];simp [treeB]
  have hlen:=left_len r
  rw [hl2,List.length_append,ent_len (hw e List.mem_cons_self)] at hlen
  unfold Rd.ents
  rw [if_pos (by unfold Rd.more;rw [decide_eq_true_iff];exact ⟨h0,by omega⟩),r.entry_read e _ h0 (hw e List.mem_cons_self) hl2]
  dsimp only
  rw [Rd.ents_read es f { r with pos:=r.pos + e.bytes.length } h0 (fun x hx => hw x (List.mem_cons_of_mem _ hx)) (by simpa using hf) (by show r.pos + e.bytes.length ≤ r.s.size;rw [ent_len (hw e List.mem_cons_self)];omega) (left_next r _ hl2 rfl)]
 | [],0,_,_,_,h,_,_ => absurd h (by simp)
 | _ :: _,0,_,_,_,h,_,_ => absurd h (by simp)
theorem treeB_len:∀ {es:List Ent},(∀ e ∈ es,entW e) → (treeB es).length ≤ 66 * es.length ∧ es.length ≤ (treeB es).length
 | [],_ => ⟨Nat.le_refl _,Nat.le_refl _⟩
 | e :: es,h => by
  have h1:=ent_len (h e List.mem_cons_self)
  have h2:=(h e List.mem_cons_self).1
  obtain ⟨i1,i2⟩:=treeB_len fun x hx => h x (List.mem_cons_of_mem _ hx)
  have e1:(treeB (e :: es)).length = e.bytes.length + (treeB es).length:=by simp [treeB]
  rw [e1,h1,List.length_cons]
  omega
theorem treeOf_write {es:List Ent} (h:treeOk es = true) (h32:∀ e ∈ es,e.id.length = 32):treeOf (ofB (treeB es)) = some es:=by
 have hw:∀ e ∈ es,entW e:=fun e he => by
  unfold treeOk at h
  simp only [Bool.and_eq_true] at h
  have h1:=List.all_eq_true.1 h.1.1 e he
  unfold entOk nameOk at h1
  simp only [Bool.and_eq_true,decide_eq_true_eq] at h1
  exact ⟨h1.1.2.2,h1.2.2,h32 e he⟩
 have hr:treeRd (ofB (treeB es)) = (⟨ofB (treeB es),(ofB (treeB es)).size,0⟩,es):=by
  have hl:=treeB_len hw
  have hs:(ofB (treeB es)).size = (treeB es).length:=by simp [ByteArray.size,ofB]
  exact Rd.ents_read es _ (rd0 (ofB (treeB es))) rfl hw (by rw [hs];omega) (Nat.zero_le _) (by show (ofB (treeB es)).data.toList.drop 0 = _;rw [List.drop_zero,ofB_data])
 unfold treeOf
 rw [hr,if_pos ⟨by unfold Rd.fin;simp,h⟩]
theorem tree_right {es:List Ent} (h:treeOk es = true) (h32:∀ e ∈ es,e.id.length = 32):rightOb ⟨2,ofB (treeB es)⟩ = true:=by
 have hw:∀ e ∈ es,entW e:=fun e he => by
  unfold treeOk at h
  simp only [Bool.and_eq_true] at h
  have h1:=List.all_eq_true.1 h.1.1 e he
  unfold entOk nameOk at h1
  simp only [Bool.and_eq_true,decide_eq_true_eq] at h1
  exact ⟨h1.1.2.2,h1.2.2,h32 e he⟩
 have hl:=(treeB_len hw).1
 have h2:es.length ≤ 32:=by
  unfold treeOk at h
  simp only [Bool.and_eq_true,decide_eq_true_eq] at h
  exact h.2
 have hs:(ofB (treeB es)).size = (treeB es).length:=by simp [ByteArray.size,ofB]
 unfold rightOb
 rw [treeOf_write h h32]
 simp only [Option.isSome_some,Bool.and_eq_true,decide_eq_true_eq]
 exact ⟨by omega,by simp⟩
end Go.Proofs.YtmhjpmenngjmeaaGreatDoor
namespace Go.Proofs.YtmhjpmenngjmeaaGreatDoor
open Go.RowKit
def lastE (n:ByteArray):List Ent → Option Ent
 | [] => none
 | e :: l => match lastE n l with
  | some x => some x
  | none => if e.name = n then some e else none
def firstE (n:ByteArray):List Ent → Option Ent
 | [] => none
 | e :: l => if e.name = n then some e else firstE n l
theorem lastE_mem {n:ByteArray}:∀ {l:List Ent} {e:Ent},lastE n l = some e → e ∈ l ∧ e.name = n
 | [],_,h => by cases h
 | a :: l,e,h => by
  unfold lastE at h
  cases hl:lastE n l with
  | some x =>
   rw [hl] at h
   obtain rfl:x = e:=Option.some.inj h
   obtain ⟨h1,h2⟩:=lastE_mem hl
   exact ⟨List.mem_cons_of_mem _ h1,h2⟩
  | none =>
   rw [hl] at h
   by_cases hn:a.name = n
   ·simp only [hn,if_true] at h
    obtain rfl:a = e:=Option.some.inj h
    exact ⟨List.mem_cons_self,hn⟩
   ·simp only [hn,if_false] at h
    cases h
theorem lastE_first {n:ByteArray}:∀ {l:List Ent},l.Pairwise (fun a b => a.name ≠ b.name) → lastE n l = firstE n l
 | [],_ => rfl
 | a :: l,h => by
  obtain ⟨h1,h2⟩:=List.pairwise_cons.1 h
  unfold lastE firstE
  rw [lastE_first h2]
  by_cases hn:a.name = n
  ·have hnone:firstE n l = none:=by
    cases hl:firstE n l with
    | none => rfl
    | some x =>
     rw [← lastE_first h2] at hl
     obtain ⟨hx,hxn⟩:=lastE_mem hl
     exact absurd (hn.trans hxn.symm) (h1 x hx)
   rw [hnone,if_pos hn]
  ·rw [if_neg hn]
   cases firstE n l <;> simp [hn]
def findN (f:Idl → Option Ob):List ByteArray → Idl × Nat → (Idl × Nat) × Nat
 | [],c => (c,0)
 | n :: l,c => if c.2 ≠ 2 then ((zid,0),6) else match f c.1 with
  | none => ((zid,0),13)
  | some o => if o.kind ≠ 2 then ((zid,0),13) else match lastE n ((treeOf o.body).getD []) with
   | none => ((zid,0),6)
   | some e => findN f l (e.id,e.kind)
def findP (f:Idl → Option Ob) (root:Idl) (s:ByteArray):(Idl × Nat) × Nat:=if pathOk s = true then findN f (nms s) (root,2) else ((zid,0),1)
theorem rise_pair:∀ {l:List Ent},entsRise l = true → l.Pairwise fun a b => ltB a.name.data.toList b.name.data.toList = true
 | [],_ => List.Pairwise.nil
 | [a],_ => List.pairwise_singleton _ _
 | a :: b :: l,h => by
  unfold entsRise at h
  rw [Bool.and_eq_true] at h
  have ih:=rise_pair h.2
  refine List.pairwise_cons.2 ⟨fun x hx => ?_,ih⟩
  rcases List.mem_cons.1 hx with rfl | hx
  ·exact h.1
  ·exact ltB_trans h.1 ((List.pairwise_cons.1 ih).1 x hx)
theorem rise_ne {l:List Ent} (h:entsRise l = true):l.Pairwise fun a b => a.name ≠ b.name :=
 (rise_pair h).imp fun {a b} hab e => by rw [e,ltB_irrefl] at hab;cases hab
theorem treeOf_first {s:ByteArray} {es:List Ent} (h:treeOf s = some es) (n:ByteArray):lastE n es = firstE n es:=by
 refine lastE_first (rise_ne ?_)
 unfold treeOf at h
 split at h
 ·rename_i hh
  obtain rfl:=Option.some.inj h
  have h2:=hh.2
  unfold treeOk at h2
  simp only [Bool.and_eq_true] at h2
  exact h2.1.2
 ·cases h
end Go.Proofs.YtmhjpmenngjmeaaGreatDoor
namespace Go.Proofs.YtmhjpmenngjmeaaGreatDoor
open Go.RowKit
set_option maxRecDepth 100000 in
set_option maxHeartbeats 2000000 in
theorem rsameobjs_any (va vb:Value) (l:List Ob) (w:World) (ha:ObRow w va l) (hb:ObRow w vb l) :
  Calls Tryz.prog 9 #[va,vb] w fun e w' => e = .returned (.bool true) ∧ Below w.heap.size w w':=by
 obtain ⟨ao,ca,rfl,hma,hca⟩:=ha.open
 obtain ⟨bo,cb,rfl,hmb,hcb⟩:=hb.open
 unfold maxLen at hma hmb
 have HA:=Lib.hid hca
 have HB:=Lib.hid hcb
 clear ha hb hca hcb
 have d0:((l.length:Int) != (l.length:Int)) = false:=by simp
 go_enter Tryz.func9,Tryz.ntmps9
 go_wp2
 go_loopw [5] (fun i wr => ∃ k:Nat,i = .int .i64 k ∧ k ≤ l.length ∧ Below w.heap.size w wr) (fun i _ => (l.length - intOf i).toNat)
 case atStart => exact ⟨0,rfl,by omega,Below.refl _ _⟩
 case round =>
  obtain ⟨wi,rfl⟩:∃ wi:World,wi = wr:=⟨_,rfl⟩
  obtain ⟨k,rfl,hk,hb⟩:=hrel
  have HBI:=Lib.hid hb
  have hsz:=hb.size
  by_cases hlt:k < l.length
  ·obtain ⟨b1,o1,rfl,hb1,hc1⟩:=HA.out (by intro e;rw [e] at hlt;simp at hlt)
   obtain ⟨b2,o2,rfl,hb2,hc2⟩:=HB.out (by intro e;rw [e] at hlt;simp at hlt)
   have f1:wi.cell? ⟨b1,o1 + k * 2,none⟩ = some (.int .i64 l[k].kind):=below_load (by have:=hc1 k hlt 0 _ rfl;rwa [Nat.add_zero] at this) hb hb1
   have f2:wi.cell? ⟨b1,o1 + k * 2 + 1,none⟩ = some (.string l[k].body):=below_load (hc1 k hlt 1 _ rfl) hb hb1
   have g1:wi.cell? ⟨b2,o2 + k * 2,none⟩ = some (.int .i64 l[k].kind):=below_load (by have:=hc2 k hlt 0 _ rfl;rwa [Nat.add_zero] at this) hb hb2
   have g2:wi.cell? ⟨b2,o2 + k * 2 + 1,none⟩ = some (.string l[k].body):=below_load (hc2 k hlt 1 _ rfl) hb hb2
   generalize l[k].kind = p at f1 g1
   generalize l[k].body = q at f2 g2
   have k0:(0:Int) ≤ k:=by omega
   have k1:(k:Int) < l.length:=by omega
   have d1:decide ((k:Int) < l.length) = true:=decide_eq_true k1
   have hb1i:b1 < wi.heap.size:=by omega
   have hb2i:b2 < wi.heap.size:=by omega
   clear hc1 hc2 hb
   go_wp2
   refine wp_region_bq (by kernel_rfl) (by kernel_rfl) ?_
   have LQ0:=fun x:BW (World.heap wi).size wi => below_load f1 x.hb (by omega)
   have LQ1:=fun x:BW (World.heap wi).size wi => below_load f2 x.hb (by omega)
   have LQ2:=fun x:BW (World.heap wi).size wi => below_load g1 x.hb (by omega)
   have LQ3:=fun x:BW (World.heap wi).size wi => below_load g2 x.hb (by omega)
   repeat (go_big_quiet_step (fail))
   refine wpQuiet_nil ?_
   intro wq hbq
   clear LQ0 LQ1 LQ2 LQ3
   have HBQ:=Lib.hid (HBI.out.trans (hbq.mono hsz))
   clear hbq f1 f2 g1 g2
   go_wp2
   go_roundw
   case rel => exact ⟨k + 1,by go_num,by omega,HBQ.out⟩
   case measure => simp [intOf];omega
  ·have d1:decide ((k:Int) < l.length) = false:=decide_eq_false (by omega)
   clear hb
   go_wp2
   go_ret
   exact ⟨rfl,HBI.out⟩
end Go.Proofs.YtmhjpmenngjmeaaGreatDoor

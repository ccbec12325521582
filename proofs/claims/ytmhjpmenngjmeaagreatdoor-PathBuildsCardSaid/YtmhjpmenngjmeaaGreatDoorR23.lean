/- YtmhjpmenngjmeaaGreatDoorR23: texts Y4, Y5 of this claim, in one. -/
import Derived.Deep.CutRange
import Derived.Test.YtmhjpmenngjmeaaGreatDoorR18
import Derived.Test.YtmhjpmenngjmeaaGreatDoorR21
namespace Go.Proofs.YtmhjpmenngjmeaaGreatDoor
open Go.RowKit
set_option maxHeartbeats 400000 in
theorem oblob_any (p:Value) (w:World):Calls Tryz.prog 113 #[p] w fun e w' => e = .returned (.bool true) ∧ w' = w:=by
 go_enter Tryz.func113,Tryz.ntmps113
 go_wp2
 go_ret
 exact ⟨rfl,rfl⟩
set_option maxHeartbeats 400000 in
theorem wnewr_any (s:ByteArray) (w:World):Calls Tryz.prog 116 #[.string s] w fun e w' => e = .returned (.pointer (some ⟨w.heap.size,0,none⟩)) ∧ w' = w.alloc (.cells #[.string s,.int .i64 0,.int .i64 0] 208):=by
 go_enter Tryz.func116,Tryz.ntmps116
 go_wp2
 go_ret
 exact ⟨rfl,rfl⟩
def twoF (a v:Value) (k:Nat):Value:=if k = 0 then a else v
theorem twoF_v (a v u:Value):∀ k,k < 2 → upd (twoF a v) 1 u k = twoF a u k:=by
 intro k hk
 obtain h | h:k = 0 ∨ k = 1:=by omega
 all_goals subst h;rfl
theorem ent_built (kd:Nat) (nm:ByteArray) (w:World):(Instr.build 84 #[(1,.int .i64 (kd:Int)),(0,.string nm)]).run Tryz.prog w = .ok (.agg (entC ⟨nm,kd,zid⟩).toArray) w :=
 run_build w 84 _ _ (by kernel_rfl)
theorem entF_id (nm:ByteArray) (kd:Nat) (d:List UInt8) (h:d.length = 32) (k:Nat) (hk:k < 34):(if 2 ≤ k ∧ k < 2 + (idC d).length then (idC d).getD (k - 2) undef else entF ⟨nm,kd,zid⟩ k) = entF ⟨nm,kd,d⟩ k:=by
 have:=entF_upd ⟨nm,kd,d⟩ h k hk
 rw [← this]
 dsimp only
 have hl:(idC d).length = 32:=by rw [idC_len,h]
 rw [hl]
 obtain h0 | h0 | h0:k = 0 ∨ k = 1 ∨ 2 ≤ k:=by omega
 ·subst h0;rfl
 ·subst h0;rfl
 ·rw [if_pos ⟨h0,by omega⟩,if_pos ⟨h0,by omega⟩]
def FreshV (w:World) (v:Value):Prop:=∀ g,v.ownBlock = some g → w.heap.size ≤ g
structure TS (B rb b nb base:Nat) (ty:TypeId) (sz:Nat) (W0:World) (c fb:Nat → Value) (V:Value) (n:Nat) (xs:List Value) (W:World):Prop where
 a:Arr W rb 3 c
 f:Arr W b nb fb
 o:W.ownsRow base ty sz V n xs
 bl:Below B W0 W
section
variable {B rb b nb base:Nat} {ty:TypeId} {sz:Nat} {W0 W W':World} {c c' fb:Nat → Value} {V:Value} {n:Nat} {xs:List Value}
theorem TS.read (h:TS B rb b nb base ty sz W0 c fb V n xs W) (hA:Arr W' rb 3 c') (hg:W.grownBy W' (some rb)) (hne:rb ≠ b) (hrb:B ≤ rb) (hba:rb < base):TS B rb b nb base ty sz W0 c' fb V n xs W' :=
 ⟨hA,h.f.grown hg (Ne.symm hne),own_grown h.o hg hba,h.bl.grown hg (by have:=h.a.lt (show 0 < 3 by omega);omega) (fun k hk => by cases hk;exact hrb)⟩
theorem TS.below (h:TS B rb b nb base ty sz W0 c fb V n xs W) (hb:Below W.heap.size W W') (hnb:0 < nb) (hrb:B ≤ rb):TS B rb b nb base ty sz W0 c fb V n xs W' :=
 ⟨h.a.below hb (h.a.lt (by omega)),h.f.below hb (h.f.lt hnb),own_below h.o hb,h.bl.trans (hb.mono (by have:=h.a.lt (show 0 < 3 by omega);omega))⟩
theorem TS.lt (h:TS B rb b nb base ty sz W0 c fb V n xs W):rb < W.heap.size:=h.a.lt (by omega)
theorem TS.ltb (h:TS B rb b nb base ty sz W0 c fb V n xs W) (hnb:0 < nb):b < W.heap.size:=h.f.lt hnb
theorem TS.sets (h:TS B rb b nb base ty sz W0 c fb V n xs W) {E:Nat} (us:List Value) (o:Nat) (h1:E ≠ rb) (h2:E ≠ b) (h3:V.ownBlock = none ∨ V.ownBlock ≠ some E) (h4:B ≤ E):TS B rb b nb base ty sz W0 c fb V n xs (W.setCells E o us) :=
 ⟨h.a.farSets h1 us o,h.f.farSets h2 us o,own_sets h.o h3,below_setCells E h4 us o W h.bl⟩
end
set_option maxRecDepth 100000 in
set_option maxHeartbeats 8000000 in
theorem otree_any (B rb b:Nat) (s:ByteArray) (w:World) (hr:Arr w rb 3 (rd0 s).c) (hb:Arr w b 2 (twoF (.pointer (some ⟨rb,0,none⟩)) (.slice none 0 0))) (hrb:B ≤ rb) (hbb:B ≤ b) (hne:rb ≠ b) (hs:s.size ≤ 100000) :
  Calls Tryz.prog 114 #[.pointer (some ⟨b,0,none⟩)] w fun e w' => e = .returned (.bool (treeOf s).isSome) ∧ (∃ v,w'.cell? ⟨b,1,none⟩ = some v ∧ FreshV w v ∧ ((treeOf s).isSome = true → EntRow w' v ((treeOf s).getD []))) ∧ Below B w w':=by
 obtain ⟨zs,i0,hi,hz0,hz1,hz2,hzv,hbu,hzs⟩:=ent_zero
 have hzl:zs.size = 34:=by rw [hzs];simp
 have HZL:=Lib.hid hzl
 have HZS:=Lib.hid hzs
 clear hzl hzs hbu
 have hrl:=hr.lt (by omega)
 have hbl:=hb.lt (by omega)
 have HR0:=Lib.hid hr
 have HB0:=Lib.hid hb
 clear hr hb
 go_enter Tryz.func114,Tryz.ntmps114
 go_wp2
 go_loopw [] (fun wr => ∃ (r:Rd) (es:List Ent) (f:Nat) (v:Value),Arr wr rb 3 r.c ∧ Hid r.fine ∧ r.err ≤ 4 ∧ Hid (r.s = s) ∧ Hid (r.entsN f es = (rd0 s).entsN (s.size + 1) []) ∧ Hid (r.err = 0 → r.s.size - r.pos < f ∧ es.length ≤ r.pos) ∧ Hid (∀ e ∈ es,e.id.length = 32) ∧ es.length ≤ 100001 ∧ Arr wr b 2 (twoF (.pointer (some ⟨rb,0,none⟩)) v) ∧ wr.ownsRow w.heap.size 84 34 v es.length (entsF es) ∧ Below B w wr) (fun wr => leftM rb wr)
 case atStart => exact ⟨rd0 s,[],s.size + 1,_,HR0.out,rd0_fine s (by omega),by show 0 ≤ 4;omega,rfl,rfl,(fun _ => ⟨by show s.size - 0 < s.size + 1;omega,Nat.zero_le _⟩),(fun e he => by cases he),by simp,HB0.out,World.ownsRow_nil _ _ _ _,Below.refl _ _⟩
 case round =>
  obtain ⟨wo,rfl⟩:∃ wo:World,wo = wr:=⟨_,rfl⟩
  obtain ⟨r,es,f,v,hA,hf,h4,hrs,hN,hfu,hid,hlen,hA2,hown,hbw⟩:=hrel
  have c0:wo.cell? ⟨b,0,none⟩ = some (.pointer (some ⟨rb,0,none⟩)):=hA2.cell 0 (by omega)
  have HEND:=Lib.hid (wend_any rb r wo hA hf.out)
  have hszo:=hbw.size
  obtain ⟨co,cc,rfl⟩:=own_form hown
  have hmo:=r.more_of h4
  by_cases hm:r.more = true
  ·obtain ⟨he0,hps⟩:=of_decide_eq_true hm
   obtain ⟨hfu1,hfu2⟩:=hfu.out he0
   have hfin:r.fin = 5:=by rw [hm] at hmo;exact of_decide_eq_true hmo.symm
   rw [hfin] at HEND
   have HLM:=Lib.hid (leftM_eq hA)
   have HE0:=Lib.hid he0
   have hel:=Lib.hid (entry_left r hf.out)
   have hentry:Hid (r.entry = (((r.num 2).1.text 32).1.id.1,⟨((r.num 2).1.text 32).2,(r.num 2).2,((r.num 2).1.text 32).1.id.2⟩)):=Lib.hid rfl
   have hf1:=Lib.hid (Rd.num_fine r 2 hf.out)
   have hf2:=Lib.hid (Rd.text_fine _ 32 hf1.out.1)
   have HA:=Lib.hid hA
   have HN:=Lib.hid (fun W (hA:Arr W rb 3 r.c) => wnum_any rb r 2 W hA hf.out (by omega))
   have HT:=Lib.hid (fun W (hA:Arr W rb 3 (r.num 2).1.c) => wtext_any rb _ 32 W hA hf1.out.1 (by omega))
   have HI:=Lib.hid (fun W (hA:Arr W rb 3 ((r.num 2).1.text 32).1.c) => wid_any rb _ W hA hf2.out)
   have HIL:Hid ((((r.num 2).1.text 32).1.id.2).length = 32):=Lib.hid (idOf_len _)
   have HEF:=Lib.hid (r.entry_fine hf.out)
   have HE4:=Lib.hid (r.entry_err4 h4)
   have HES:=Lib.hid (r.entry_s)
   have HECN:=Lib.hid (r.entry_canon hf.out)
   have HST:Hid (r.entsN f es = r.entry.1.entsN (f - 1) (es ++ [r.entry.2])):=Lib.hid (ents_on r f es hm (by omega))
   clear hm he0 hfin hmo
   generalize r.entry = en at hentry hel HEF HE4 HES HECN HST
   obtain ⟨r',e⟩:=en
   generalize r.num 2 = x1 at hentry HN HT hf1 HI HIL hf2
   obtain ⟨r1,kd⟩:=x1
   dsimp only at hentry HN HT hf1 HI HIL hf2
   generalize r1.text 32 = x2 at hentry HT HI HIL hf2
   obtain ⟨r2,nm⟩:=x2
   dsimp only at hentry HT HI HIL hf2
   generalize r2.id = x3 at hentry HI HIL
   obtain ⟨r3,d⟩:=x3
   dsimp only at hentry HI HIL HEF HE4 HES hel HECN HST
   obtain ⟨rfl,rfl⟩:r' = r3 ∧ e = ⟨nm,kd,d⟩:=by have:=hentry.out;injection this with h1 h2;exact ⟨h1,h2⟩
   clear hentry
   have HA2:=Lib.hid hA2
   have HO:=Lib.hid hown
   have HBW:=Lib.hid hbw
   have hrbo:rb < wo.heap.size:=by omega
   have hbo:b < wo.heap.size:=by omega
   clear hA hA2 hown hbw
   go_wp2_with fail
   refine HEND.out.mono ?_
   rintro e w1 ⟨rfl,hbe⟩
   have T1:Hid (TS B rb b 2 w.heap.size 84 34 w r.c (twoF (.pointer (some ⟨rb,0,none⟩)) (.slice co es.length cc)) (.slice co es.length cc) es.length (entsF es) w1) :=
    Lib.hid (TS.below ⟨HA.out,HA2.out,HO.out,HBW.out⟩ hbe (by omega) hrb)
   have hNE0:=own_new T1.out.o
   have hs1:=hbe.size
   have hS0:w1.cell? ⟨b,0,none⟩ = some (.pointer (some ⟨rb,0,none⟩)):=T1.out.f.cell 0 (by omega)
   have hrb1:=T1.out.lt
   have hb1:=T1.out.ltb (by omega)
   have hbt:=ent_built kd nm
   have hi34:(Tryz.prog.info? 84).map (·.size) = some 34:=by rw [hi];exact congrArg some hz1
   have HNEW:Hid (∀ W:World,Arr (W.alloc (.cells zs 84)) W.heap.size 34 entZ):=Lib.hid (fun W => by
    rw [HZS.out]
    exact (Arr.ofList W ((List.range 34).map entZ) 84).congr fun k hk => by simp at hk;simp [hk])
   have HAL:Hid (∀ W:World,Below W.heap.size W (W.alloc (.cells zs 84))):=Lib.hid (fun W => (Below.refl _ _).alloc (Nat.le_refl _) _)
   clear c0 hbe HA HA2 HO HBW hNE0
   go_upto_region 2 with fail
   go_cut [3] from 4 to 36 (fun s3 wx => ∃ E,s3 = .pointer (some ⟨E,0,none⟩) ∧ w1.heap.size ≤ E ∧ Hid ((Value.slice co es.length cc).ownBlock = none ∨ (Value.slice co es.length cc).ownBlock ≠ some E) ∧ Hid (TS B rb b 2 w.heap.size 84 34 w r2.c (twoF (.pointer (some ⟨rb,0,none⟩)) (.slice co es.length cc)) (.slice co es.length cc) es.length (entsF es) wx) ∧ Hid (Arr wx E 34 (entF ⟨nm,kd,zid⟩)))
   case first =>
    have hS0:w1.drew.cell? ⟨b,0,none⟩ = some (.pointer (some ⟨rb,0,none⟩)):=hS0
    have TD:Hid (TS B rb b 2 w.heap.size 84 34 w r.c (twoF (.pointer (some ⟨rb,0,none⟩)) (.slice co es.length cc)) (.slice co es.length cc) es.length (entsF es) w1.drew) :=
     Lib.hid (T1.out.below (Below.refl _ _).drew (by omega) hrb)
    refine wp_region_L 12 (fun w' => w'.cell? ⟨b,0,none⟩ = some (.pointer (some ⟨rb,0,none⟩))) (by kernel_rfl) (by kernel_rfl) ?_
    refine WL.take (i:=0) (v:=?_) rfl (by kernel_rfl) (by decide) (by decide +kernel) (by decide +kernel) (fun _ _ _ h => h) rfl ?_ hS0 ?_
    rotate_left
    ·(intro w' hSw;(try dsimp only at hSw);go_simp;(try with_reducible rfl))
    simp only [Act.put];(try simp only [List.getElem_toArray]);(try simp only [List.getElem_cons_succ]);(try simp only [List.getElem_cons_zero]);(try simp only [List.setIfInBounds_toArray]);(try simp only [List.set_cons_succ]);(try simp only [List.set_cons_zero])
    refine WL.take (i:=1) (v:=?_) rfl (by kernel_rfl) (by decide) (by decide +kernel) (by decide +kernel) (fun _ _ _ h => h) rfl ?_ hS0 ?_
    rotate_left
    ·(intro w' hSw;(try dsimp only at hSw);go_simp;(try with_reducible rfl))
    simp only [Act.put];(try simp only [List.getElem_toArray]);(try simp only [List.getElem_cons_succ]);(try simp only [List.getElem_cons_zero]);(try simp only [List.setIfInBounds_toArray]);(try simp only [List.set_cons_succ]);(try simp only [List.set_cons_zero])
    refine WL.take (i:=2) (v:=?_) rfl (by kernel_rfl) (by decide) (by decide +kernel) (by decide +kernel) (fun _ _ _ h => h) rfl ?_ hS0 ?_
    rotate_left
    ·(intro w' hSw;(try dsimp only at hSw);go_simp;(try with_reducible rfl))
    simp only [Act.put];(try simp only [List.getElem_toArray]);(try simp only [List.getElem_cons_succ]);(try simp only [List.getElem_cons_zero]);(try simp only [List.setIfInBounds_toArray]);(try simp only [List.set_cons_succ]);(try simp only [List.set_cons_zero])
    refine WL.take (i:=3) (v:=?_) rfl (by kernel_rfl) (by decide) (by decide +kernel) (by decide +kernel) (fun _ _ _ h => h) rfl ?_ hS0 ?_
    rotate_left
    ·(intro w' hSw;(try dsimp only at hSw);go_simp;(try with_reducible rfl))
    simp only [Act.put];(try simp only [List.getElem_toArray]);(try simp only [List.getElem_cons_succ]);(try simp only [List.getElem_cons_zero]);(try simp only [List.setIfInBounds_toArray]);(try simp only [List.set_cons_succ]);(try simp only [List.set_cons_zero])
    refine WL.take (i:=5) (v:=?_) rfl (by kernel_rfl) (by decide) (by decide +kernel) (by decide +kernel) (fun _ _ _ h => h) rfl ?_ hS0 ?_
    rotate_left
    ·(intro w' hSw;(try dsimp only at hSw);go_simp;(try with_reducible rfl))
    simp only [Act.put];(try simp only [List.getElem_toArray]);(try simp only [List.getElem_cons_succ]);(try simp only [List.getElem_cons_zero]);(try simp only [List.setIfInBounds_toArray]);(try simp only [List.set_cons_succ]);(try simp only [List.set_cons_zero])
    refine WL.take (i:=6) (v:=?_) rfl (by kernel_rfl) (by decide) (by decide +kernel) (by decide +kernel) (fun _ _ _ h => h) rfl ?_ hS0 ?_
    rotate_left
    ·(intro w' hSw;(try dsimp only at hSw);go_simp;(try with_reducible rfl))
    simp only [Act.put];(try simp only [List.getElem_toArray]);(try simp only [List.getElem_cons_succ]);(try simp only [List.getElem_cons_zero]);(try simp only [List.setIfInBounds_toArray]);(try simp only [List.set_cons_succ]);(try simp only [List.set_cons_zero])
    refine WL.take (i:=7) (v:=?_) rfl (by kernel_rfl) (by decide) (by decide +kernel) (by decide +kernel) (fun _ _ _ h => h) rfl ?_ hS0 ?_
    rotate_left
    ·(intro w' hSw;(try dsimp only at hSw);go_simp;(try with_reducible rfl))
    simp only [Act.put];(try simp only [List.getElem_toArray]);(try simp only [List.getElem_cons_succ]);(try simp only [List.getElem_cons_zero]);(try simp only [List.setIfInBounds_toArray]);(try simp only [List.set_cons_succ]);(try simp only [List.set_cons_zero])
    refine WL.take (i:=8) (v:=?_) rfl (by kernel_rfl) (by decide) (by decide +kernel) (by decide +kernel) (fun _ _ _ h => h) rfl ?_ hS0 ?_
    rotate_left
    ·(intro w' hSw;(try dsimp only at hSw);go_simp;(try with_reducible rfl))
    simp only [Act.put];(try simp only [List.getElem_toArray]);(try simp only [List.getElem_cons_succ]);(try simp only [List.getElem_cons_zero]);(try simp only [List.setIfInBounds_toArray]);(try simp only [List.set_cons_succ]);(try simp only [List.set_cons_zero])
    refine WL.two (i:=4) (k:=11) rfl rfl (by decide) (by decide) (by decide +kernel) ?_ ?_
    focus
     go_wp2_with fail
     refine (HN.out _ TD.out.a).mono ?_
     rintro e w2 ⟨rfl,hA2,hg2⟩
     have T2:=Lib.hid (TD.out.read hA2 hg2 hne hrb hrl)
     have hS2:w2.cell? ⟨b,0,none⟩ = some (.pointer (some ⟨rb,0,none⟩)):=T2.out.f.cell 0 (by omega)
     have hs2:w1.heap.size ≤ w2.heap.size:=hg2.size
     clear hA2 hg2
     go_wp2
     refine ⟨hS2,?_⟩
     refine WL.two (i:=9) (k:=11) rfl rfl (by decide) (by decide) (by decide +kernel) ?_ ?_
     focus
      go_wp2_with fail
      refine (HT.out _ T2.out.a).mono ?_
      rintro e w3 ⟨rfl,hA3,hg3⟩
      have T3:=Lib.hid (T2.out.read hA3 hg3 hne hrb hrl)
      have hS3:w3.cell? ⟨b,0,none⟩ = some (.pointer (some ⟨rb,0,none⟩)):=T3.out.f.cell 0 (by omega)
      have T4:=Lib.hid (T3.out.below (HAL.out w3) (by omega) hrb)
      have hS4:(w3.alloc (.cells zs 84)).cell? ⟨b,0,none⟩ = some (.pointer (some ⟨rb,0,none⟩)):=T4.out.f.cell 0 (by omega)
      have HE4:=Lib.hid (HNEW.out w3)
      have hNE:=own_new T3.out.o
      have hE1:w1.heap.size ≤ w3.heap.size:=by have:=hg3.size;omega
      clear hA3 hg3
      go_wp2
      refine ⟨hS3,?_⟩
      refine WL.take (i:=10) (v:=.agg (entC ⟨nm,kd,zid⟩).toArray) rfl (by kernel_rfl) (by decide) (by decide +kernel) (by decide +kernel) (fun _ _ _ h => h) rfl (by intro w' _;clear hzv;go_simp;rfl) hS3 ?_
      simp only [Act.put];(try simp only [List.getElem_toArray]);(try simp only [List.getElem_cons_succ]);(try simp only [List.getElem_cons_zero]);(try simp only [List.setIfInBounds_toArray]);(try simp only [List.set_cons_succ]);(try simp only [List.set_cons_zero])
      clear hS3
      refine WL.one (i:=11) rfl (by decide) (by decide +kernel) ?_
      go_wp2
      refine ⟨hS4,?_⟩
      refine WL.last (n:=12) rfl rfl (by decide +kernel) (by decide +kernel) ?_
      obtain ⟨E,hE⟩:∃ E,w3.heap.size = E:=⟨_,rfl⟩
      obtain ⟨w4,hw4⟩:∃ w4,w3.alloc (.cells zs 84) = w4:=⟨_,rfl⟩
      rw [hw4,hE] at HE4
      rw [hw4] at T4
      rw [hE] at hE1 hNE
      simp only [hE,hw4]
      clear hE hw4 hS4 T3
     rotate_left
     focus
      have T3a:=Lib.hid (T2.out.below (HAL.out w2) (by omega) hrb)
      have hS3a:(w2.alloc (.cells zs 84)).cell? ⟨b,0,none⟩ = some (.pointer (some ⟨rb,0,none⟩)):=T3a.out.f.cell 0 (by omega)
      have HE3:=Lib.hid (HNEW.out w2)
      have hNE:=own_new T2.out.o
      have hb2:=T2.out.ltb (by omega)
      have hrb2:=T2.out.lt
      go_wp2
      refine ⟨hS3a,?_⟩
      refine WL.one (i:=9) rfl (by decide) (by decide +kernel) ?_
      go_wp2_with fail
      refine (HT.out _ T3a.out.a).mono ?_
      rintro e w3 ⟨rfl,hA3,hg3⟩
      have T4:=Lib.hid (T3a.out.read hA3 hg3 hne hrb hrl)
      have HE4:=Lib.hid (HE3.out.grown hg3 (by omega))
      have hS4:w3.cell? ⟨b,0,none⟩ = some (.pointer (some ⟨rb,0,none⟩)):=T4.out.f.cell 0 (by omega)
      clear hA3 hg3 HE3 T3a
      go_wp2
      refine ⟨hS4,?_⟩
      refine WL.take (i:=10) (v:=.agg (entC ⟨nm,kd,zid⟩).toArray) rfl (by kernel_rfl) (by decide) (by decide +kernel) (by decide +kernel) (fun _ _ _ h => h) rfl (by intro w' _;clear hzv;go_simp;rfl) hS4 ?_
      simp only [Act.put];(try simp only [List.getElem_toArray]);(try simp only [List.getElem_cons_succ]);(try simp only [List.getElem_cons_zero]);(try simp only [List.setIfInBounds_toArray]);(try simp only [List.set_cons_succ]);(try simp only [List.set_cons_zero])
      refine WL.last (n:=12) rfl rfl (by decide +kernel) (by decide +kernel) ?_
      have hE1:=hs2
      obtain ⟨E,hE⟩:∃ E,w2.heap.size = E:=⟨_,rfl⟩
      obtain ⟨w4,rfl⟩:∃ w4,w4 = w3:=⟨_,rfl⟩
      rw [hE] at HE4 hE1 hNE
      simp only [hE]
      clear hE hS4 hS3a
    rotate_left 2
    focus
     have hNE:=own_new T1.out.o
     have T2:=Lib.hid ((T1.out.below (HAL.out w1) (by omega) hrb).below (Below.refl _ _).drew (by omega) hrb)
     have hS2:(w1.alloc (.cells zs 84)).drew.cell? ⟨b,0,none⟩ = some (.pointer (some ⟨rb,0,none⟩)):=T2.out.f.cell 0 (by omega)
     have HE2:=Lib.hid ((HNEW.out w1).below (Below.refl _ _).drew ((HNEW.out w1).lt (by omega)))
     go_wp2
     refine ⟨hS2,?_⟩
     refine WL.one (i:=4) rfl (by decide) (by decide +kernel) ?_
     go_wp2_with fail
     refine (HN.out _ T2.out.a).mono ?_
     rintro e w2 ⟨rfl,hA2,hg2⟩
     have T3:=Lib.hid (T2.out.read hA2 hg2 hne hrb hrl)
     have HE3:=Lib.hid (HE2.out.grown hg2 (by omega))
     have hS3:w2.cell? ⟨b,0,none⟩ = some (.pointer (some ⟨rb,0,none⟩)):=T3.out.f.cell 0 (by omega)
     clear hA2 hg2
     go_wp2
     refine ⟨hS3,?_⟩
     refine WL.one (i:=9) rfl (by decide) (by decide +kernel) ?_
     go_wp2_with fail
     refine (HT.out _ T3.out.a).mono ?_
     rintro e w4 ⟨rfl,hA3,hg3⟩
     have T4:=Lib.hid (T3.out.read hA3 hg3 hne hrb hrl)
     have HE4:=Lib.hid (HE3.out.grown hg3 (by omega))
     have hS4:w4.cell? ⟨b,0,none⟩ = some (.pointer (some ⟨rb,0,none⟩)):=T4.out.f.cell 0 (by omega)
     clear hA3 hg3 HE3 T3 HE2
     go_wp2
     refine ⟨hS4,?_⟩
     refine WL.take (i:=10) (v:=.agg (entC ⟨nm,kd,zid⟩).toArray) rfl (by kernel_rfl) (by decide) (by decide +kernel) (by decide +kernel) (fun _ _ _ h => h) rfl (by intro w' _;clear hzv;go_simp;rfl) hS4 ?_
     simp only [Act.put];(try simp only [List.getElem_toArray]);(try simp only [List.getElem_cons_succ]);(try simp only [List.getElem_cons_zero]);(try simp only [List.setIfInBounds_toArray]);(try simp only [List.set_cons_succ]);(try simp only [List.set_cons_zero])
     refine WL.last (n:=12) rfl rfl (by decide +kernel) (by decide +kernel) ?_
     have hE1:w1.heap.size ≤ w1.heap.size:=Nat.le_refl _
     obtain ⟨E,hE⟩:∃ E,E = w1.heap.size:=⟨_,rfl⟩
     rw [← hE] at HE4 hNE
     rw [show w1.heap.size ≤ w1.heap.size ↔ w1.heap.size ≤ E by rw [hE]] at hE1
     simp only [← hE]
     clear hE hS4 hS3 T2 hS2
    all_goals
     clear T1 TD HN HT HNEW HAL
     (try clear T2);(try clear hs2);(try clear hS2)
     have hEr:E ≠ rb:=by omega
     have hEb:E ≠ b:=by omega
     have hBE:B ≤ E:=by omega
     have hcl0:(entC ⟨nm,kd,zid⟩).length = 34:=by simp [entC,idC_len,zid_len]
     have hE5:Arr (w4.setCells E 0 (entC ⟨nm,kd,zid⟩)) E 34 (entF ⟨nm,kd,zid⟩):=by
      refine (HE4.out.setCells 0 (entC ⟨nm,kd,zid⟩) (by rw [hcl0];omega)).congr fun k hk => ?_
      rw [hcl0,if_pos ⟨by omega,by omega⟩];rfl
     have T5:=Lib.hid (T4.out.sets (entC ⟨nm,kd,zid⟩) 0 hEr hEb hNE hBE)
     have HTH0:=Lib.hid HE4.out.there
     have HCL0:=Lib.hid hcl0
     have HON0:=Lib.hid (entC_one ⟨nm,kd,zid⟩)
     have HE5:=Lib.hid hE5
     clear hcl0 hE5 T4 HE4
     refine wpList_store_list rfl 84 _ _ rfl E 0 (entC ⟨nm,kd,zid⟩) rfl rfl 34 HCL0.out HTH0.out hi34 HON0.out ?_
     simp only [Act.put];(try simp only [List.getElem_toArray]);(try simp only [List.getElem_cons_succ]);(try simp only [List.getElem_cons_zero]);(try simp only [List.setIfInBounds_toArray]);(try simp only [List.set_cons_succ]);(try simp only [List.set_cons_zero])
     generalize w4.setCells E 0 (entC ⟨nm,kd,zid⟩) = w5 at T5 HE5
     go_wp2_with fail
     go_meet
     exact ⟨E,rfl,hE1,Lib.hid hNE,T5,HE5⟩
   case rest =>
    obtain ⟨E,rfl,hE1,HNE,T5,HE5⟩:=hcut
    have hNE:=HNE.out
    obtain ⟨w5,rfl⟩:∃ w5,w5 = wc:=⟨_,rfl⟩
    have hEr:E ≠ rb:=by omega
    have hEb:E ≠ b:=by omega
    have hBE:B ≤ E:=by omega
    have c5:w5.cell? ⟨b,0,none⟩ = some (.pointer (some ⟨rb,0,none⟩)):=T5.out.f.cell 0 (by omega)
    clear HNEW HAL T1 HN HT hbt
    go_wp2_with fail
    refine (HI.out _ T5.out.a).mono ?_
    rintro e w6 ⟨rfl,hA6,hg6⟩
    have T6:=Lib.hid (T5.out.read hA6 hg6 hne hrb hrl)
    have HE6:=Lib.hid (HE5.out.grown hg6 hEr)
    have hdl:(idC d).length = 32:=by rw [idC_len,HIL.out]
    have T7:=Lib.hid (T6.out.sets (idC d) 2 hEr hEb hNE hBE)
    have hE7:=(HE6.out.setCells 2 (idC d) (by omega)).congr (fun k hk => entF_id nm kd d HIL.out k hk)
    have hth:w6.there E 2 32:=fun j hj => ⟨by rw [HE6.out.cell _ (by omega)];rfl,HE6.out.free _ (by omega)⟩
    have hrg:=hE7.range
    rw [entF_list ⟨nm,kd,d⟩ HIL.out] at hrg
    have hel34:(entC ⟨nm,kd,d⟩).length = 34:=by simp [entC,idC_len,HIL.out]
    have h34:(Tryz.prog.info? 84).map (·.size) = some (entC ⟨nm,kd,d⟩).length:=by rw [hel34,hi];exact congrArg some hz1
    have HOC:=Lib.hid (entC_one ⟨nm,kd,d⟩)
    have HSN:=Lib.hid (entsF_snoc es ⟨nm,kd,d⟩)
    have HTH:=Lib.hid hth
    have HDO:=Lib.hid (idC_one d)
    have HDL:=Lib.hid hdl
    have h32:(Tryz.prog.info? 27).map (·.size) = some 32:=by kernel_rfl
    generalize entC ⟨nm,kd,d⟩ = cs at hrg hel34 h34 HOC HSN
    have HSZC:Hid (∀ w,(sizeOf 84).run Tryz.prog w = .ok cs.length w):=Lib.hid (fun w => by rw [hel34];kernel_rfl)
    have HEL34:=Lib.hid hel34
    have HPC:=Lib.hid (show 0 < cs.length by rw [hel34];omega)
    have HLC:=Lib.hid (show cs.length ≤ 1000 by rw [hel34];omega)
    have hdv:idV d = .agg (idC d).toArray:=rfl
    rw [hdv]
    clear hdv hel34 hth hdl hE7 hA6 hg6 c5
    generalize hus:idC d = us at T7 HDL HDO hrg
    clear hus
    have f7:=T7.out.f.cell 1 (by omega)
    have f7f:=T7.out.f.free 1 (by omega)
    obtain ⟨w7,hw7⟩:∃ w7,w6.setCells E 2 us = w7:=⟨_,rfl⟩
    rw [hw7] at T7 hrg f7 f7f
    have HW7:=Lib.hid hw7
    have HRG:=Lib.hid hrg
    clear hw7
    have hs7:E < w7.heap.size:=World.block_lt_of_cell? w7 ⟨E,0,none⟩ (hrg 0 (cs[0]'(by have:=HPC.out;omega)) (by simp))
    go_wp2_with (refine wpList_store_list rfl 27 _ _ rfl E 2 us rfl rfl 32 HDL.out HTH.out h32 HDO.out ?_)
    simp only [Act.put];(try simp only [List.getElem_toArray]);(try simp only [List.getElem_cons_succ]);(try simp only [List.getElem_cons_zero]);(try simp only [List.setIfInBounds_toArray]);(try simp only [List.set_cons_succ]);(try simp only [List.set_cons_zero])
    rw [HW7.out]
    have T7D:=Lib.hid (T7.out.below (Below.refl _ _).drew (by omega) hrb)
    have HS7:w7.drew.cell? ⟨b,1,none⟩ = some (.slice co es.length cc) ∧ w7.drew.rangeAt E 0 cs:=⟨f7,HRG.out⟩
    refine wp_region_L 10 (fun w' => w'.cell? ⟨b,1,none⟩ = some (.slice co es.length cc) ∧ w'.rangeAt E 0 cs) (by kernel_rfl) (by kernel_rfl) ?_
    refine WL.take (i:=0) (v:=?_) rfl (by kernel_rfl) (by decide) (by decide +kernel) (by decide +kernel) (fun _ _ _ h => h) rfl ?_ HS7 ?_
    rotate_left
    ·(intro w' hSw;(try dsimp only at hSw);go_simp;(try with_reducible rfl))
    simp only [Act.put];(try simp only [List.getElem_toArray]);(try simp only [List.getElem_cons_succ]);(try simp only [List.getElem_cons_zero]);(try simp only [List.setIfInBounds_toArray]);(try simp only [List.set_cons_succ]);(try simp only [List.set_cons_zero])
    refine WL.take (i:=1) (v:=?_) rfl (by kernel_rfl) (by decide) (by decide +kernel) (by decide +kernel) (fun _ _ _ h => h) rfl ?_ HS7 ?_
    rotate_left
    ·(intro w' hSw;(try dsimp only at hSw);go_simp;(try with_reducible rfl))
    simp only [Act.put];(try simp only [List.getElem_toArray]);(try simp only [List.getElem_cons_succ]);(try simp only [List.getElem_cons_zero]);(try simp only [List.setIfInBounds_toArray]);(try simp only [List.set_cons_succ]);(try simp only [List.set_cons_zero])
    refine WL.take (i:=2) (v:=?_) rfl (by kernel_rfl) (by decide) (by decide +kernel) (by decide +kernel) (fun _ _ _ h => h) rfl ?_ HS7 ?_
    rotate_left
    ·(intro w' hSw;(try dsimp only at hSw);go_simp;(try with_reducible rfl))
    simp only [Act.put];(try simp only [List.getElem_toArray]);(try simp only [List.getElem_cons_succ]);(try simp only [List.getElem_cons_zero]);(try simp only [List.setIfInBounds_toArray]);(try simp only [List.set_cons_succ]);(try simp only [List.set_cons_zero])
    refine WL.take (i:=3) (v:=?_) rfl (by kernel_rfl) (by decide) (by decide +kernel) (by decide +kernel) (fun _ _ _ h => h) rfl ?_ HS7 ?_
    rotate_left
    ·(intro w' hSw;(try dsimp only at hSw);go_simp;(try with_reducible rfl))
    simp only [Act.put];(try simp only [List.getElem_toArray]);(try simp only [List.getElem_cons_succ]);(try simp only [List.getElem_cons_zero]);(try simp only [List.setIfInBounds_toArray]);(try simp only [List.set_cons_succ]);(try simp only [List.set_cons_zero])
    refine WL.take (i:=4) (v:=?_) rfl (by kernel_rfl) (by decide) (by decide +kernel) (by decide +kernel) (fun _ _ _ h => h) rfl ?_ HS7 ?_
    rotate_left
    ·(intro w' hSw;(try dsimp only at hSw);go_simp;(try with_reducible rfl))
    simp only [Act.put];(try simp only [List.getElem_toArray]);(try simp only [List.getElem_cons_succ]);(try simp only [List.getElem_cons_zero]);(try simp only [List.setIfInBounds_toArray]);(try simp only [List.set_cons_succ]);(try simp only [List.set_cons_zero])
    refine WL.take (i:=5) (v:=_) rfl (by kernel_rfl) (by decide) (by decide +kernel) (by decide +kernel) (fun _ _ _ h => h) rfl (fun w' hSw => exec_row 84 _ (hSw.2) Tryz.underlying84 rfl h34 _ rfl rfl) HS7 ?_
    simp only [Act.put];(try simp only [List.getElem_toArray]);(try simp only [List.getElem_cons_succ]);(try simp only [List.getElem_cons_zero]);(try simp only [List.setIfInBounds_toArray]);(try simp only [List.set_cons_succ]);(try simp only [List.set_cons_zero])
    refine WL.one (i:=6) rfl (by decide) (by decide +kernel) ?_
    refine wpList_buildSlice_one rfl (.tmp 32) 79 84 rfl cs zs rfl Tryz.underlying79 HSZC.out hzv HPC.out HLC.out ?_
    simp only [Act.put];(try simp only [List.getElem_toArray]);(try simp only [List.getElem_cons_succ]);(try simp only [List.getElem_cons_zero]);(try simp only [List.setIfInBounds_toArray]);(try simp only [List.set_cons_succ]);(try simp only [List.set_cons_zero])
    have hown0:=T7D.out.o.lt
    have hs7D:w7.drew.heap.size = w7.heap.size:=rfl
    have hNE7:(Value.slice co es.length cc).ownBlock ≠ some E:=by
     rcases hNE with h | h
     ·rw [h];simp
     ·exact h
    have T8a:=T7D.out.a.alloc (by omega) (.cells cs.toArray 84)
    have T8f:=T7D.out.f.alloc (by omega) (.cells cs.toArray 84)
    have T8o:=T7D.out.o.alloc (.cells cs.toArray 84)
    have T8b:=T7D.out.bl.alloc (by have:=T7D.out.lt;omega) (.cells cs.toArray 84)
    have S8:(w7.drew.alloc (.cells cs.toArray 84)).cell? ⟨b,1,none⟩ = some (.slice co es.length cc) ∧ (w7.drew.alloc (.cells cs.toArray 84)).rangeAt E 0 cs :=
     ⟨T8f.cell 1 (by omega),rangeAt_below HRG.out ((Below.refl w7.heap.size w7).drew.alloc (Nat.le_refl _) _) hs7⟩
    refine ⟨S8,?_⟩
    refine WL.one (i:=7) rfl (by decide) (by decide +kernel) ?_
    refine wpList_append_own _ rfl (.tmp 31) (.tmp 33) 79 rfl w.heap.size 84 i0 (.agg zs) 34 56 Tryz.underlying79 hi hz0 hz1 hz2 HZL.out (by decide) _ es.length (entsF es) rfl T8o ⟨w7.heap.size,0,none⟩ 1 1 cs rfl HEL34.out (fun j u hj => cells_newL _ cs _ j u hj) HOC.out (by unfold maxLen;omega) (by omega) (by rw [World.size_alloc,hs7D];omega) ?_
    intro v' w9 hown9 hg9 _
    obtain ⟨co9,cc9,rfl⟩:=own_form hown9
    have T9a:=T8a.grownV hg9 (fun e => by have:=(hown0 _ e).1;omega)
    have T9f:=T8f.grownV hg9 (fun e => by have:=(hown0 _ e).1;omega)
    have T9b:=T8b.grown hg9 (by have:=T8b.size;rw [World.size_alloc,hs7D];have:=T7D.out.bl.size;omega) (fun j hj => by have:=(hown0 j hj).1;omega)
    have S9:w9.cell? ⟨b,1,none⟩ = some (.slice co es.length cc) ∧ w9.rangeAt E 0 cs:=⟨T9f.cell 1 (by omega),range_grown S8.2 hg9 hNE7⟩
    have HNE9:=Lib.hid (own_ne hown9 hbl)
    simp only [Act.put];(try simp only [List.getElem_toArray]);(try simp only [List.getElem_cons_succ]);(try simp only [List.getElem_cons_zero]);(try simp only [List.setIfInBounds_toArray]);(try simp only [List.set_cons_succ]);(try simp only [List.set_cons_zero])
    refine ⟨S9,?_⟩
    refine WL.take (i:=8) (v:=?_) rfl (by kernel_rfl) (by decide) (by decide +kernel) (by decide +kernel) (fun _ _ _ h => h) rfl ?_ S9 ?_
    rotate_left
    ·(intro w' hSw;(try dsimp only at hSw);go_simp;(try with_reducible rfl))
    simp only [Act.put];(try simp only [List.getElem_toArray]);(try simp only [List.getElem_cons_succ]);(try simp only [List.getElem_cons_zero]);(try simp only [List.setIfInBounds_toArray]);(try simp only [List.set_cons_succ]);(try simp only [List.set_cons_zero])
    refine WL.take (i:=9) (v:=?_) rfl (by kernel_rfl) (by decide) (by decide +kernel) (by decide +kernel) (fun _ _ _ h => h) rfl ?_ S9 ?_
    rotate_left
    ·(intro w' hSw;(try dsimp only at hSw);go_simp;(try with_reducible rfl))
    simp only [Act.put];(try simp only [List.getElem_toArray]);(try simp only [List.getElem_cons_succ]);(try simp only [List.getElem_cons_zero]);(try simp only [List.setIfInBounds_toArray]);(try simp only [List.set_cons_succ]);(try simp only [List.set_cons_zero])
    refine WL.last (n:=10) rfl rfl (by decide +kernel) (by decide +kernel) ?_
    rw [← HSN.out] at hown9
    have f9:=T9f.free 1 (by omega)
    have g9:=T9f.cell 1 (by omega)
    have HO9:=Lib.hid hown9
    have HA9:=Lib.hid T9a
    have HF9:=Lib.hid T9f
    have HB9:=Lib.hid T9b
    clear T8a T8f T8o T8b S8 hown0 hs7D hNE7 hown9 hg9 T9a T9f T9b S9 HS7 f7 f7f
    go_wp2
    have hrs':r.s.size = s.size:=by rw [hrs.out]
    have hpos:=hf.out.pos
    go_roundw
    case rel =>
     refine ⟨r',es ++ [⟨nm,kd,d⟩],f - 1,.slice co9 (es.length + 1) cc9,HA9.out.far (p:=⟨b,1,none⟩) (by show b ≠ rb;omega) _,HEF.out,HE4.out,HES.out.trans hrs.out,Lib.hid (HST.out.symm.trans hN.out),fun h0 => ?_,fun e he => ?_,by simp;omega,(HF9.out.set 1 (by omega) _).congr (twoF_v _ _ _),by rw [List.length_append];exact own_set HO9.out HNE9.out,HB9.out.setCell (p:=⟨b,1,none⟩) hbb _⟩
     ·obtain ⟨_,_,q3,_⟩:=HECN.out h0
      rw [HES.out,List.length_append,List.length_singleton]
      omega
     ·rcases List.mem_append.1 he with h | h
      ·exact hid.out e h
      ·rw [List.mem_singleton.1 h];exact HIL.out
    case measure =>
     rw [leftM_eq (HA9.out.far (p:=⟨b,1,none⟩) (by show b ≠ rb;omega) _),HLM.out,if_pos HE0.out];exact hel.out
  ·have hm2:r.more = false:=by simpa using hm
   have hst:(rd0 s).entsN (s.size + 1) [] = (r,es):=by rw [← hN.out];exact ents_stop r f es hm2
   rw [Rd.entsN_eq] at hst
   have e1:(treeRd s).1 = r:=congrArg Prod.fst hst
   have e2:(treeRd s).2 = es:=congrArg Prod.snd hst
   have HTO:Hid (treeOf s = if r.fin = 0 ∧ treeOk es = true then some es else none):=by unfold Hid treeOf;rw [e1,e2]
   have hf5:r.fin ≠ 5:=by rw [hm2] at hmo;exact of_decide_eq_false hmo.symm
   have d5:((r.fin:Int) == 5) = false:=by rw [beq_eq_false_iff_ne];omega
   have T:=Lib.hid (show TS B rb b 2 w.heap.size 84 34 w r.c (twoF (.pointer (some ⟨rb,0,none⟩)) (.slice co es.length cc)) (.slice co es.length cc) es.length (entsF es) wo from ⟨hA,hA2,hown,hbw⟩)
   have HW:=Lib.hid (fun W (hA:Arr W rb 3 r.c) => wend_any rb r W hA hf.out)
   have HER:Hid (∀ W,W.ownsRow w.heap.size 84 34 (.slice co es.length cc) es.length (entsF es) → EntRow W (.slice co es.length cc) es):=Lib.hid (fun W h => RowOf.of_own (B:=w.heap.size) (e:=84) (sz:=34) (rows:=es.map entC) (fun r hr => by
     obtain ⟨e,he,rfl⟩:=List.mem_map.1 hr
     simp [entC,idC_len,hid.out e he]) (by rw [List.length_map];exact h))
   have HSM:Hid (r.err = 0 → ∀ e ∈ es,e.name.size ≤ 1000000 ∧ e.kind ≤ 2 ∧ e.id.length = 32):=Lib.hid (fun h0 e he => by
    have e0:(treeRd s).1.err = 0:=by rw [e1];exact h0
    have hsm:=Rd.ents_small (s.size + 1) (rd0 s) (rd0_fine s (by omega)) e0
    have e3:((rd0 s).ents (s.size + 1)).2 = es:=e2
    rw [e3] at hsm
    have:=hsm e he
    exact ⟨by omega,by omega,hid.out e he⟩)
   have HF0:Hid (r.fin = 0 → r.err = 0):=Lib.hid (fun h => (Rd.fin_zero r h).1)
   have hbo:b < wo.heap.size:=T.out.ltb (by omega)
   clear hst hN hA hA2 hown hbw hm hm2 hmo HEND hfu hid
   generalize r.fin = n at d5 hf5 HTO HW HF0
   by_cases h0:n = 0
   ·have HF:=Lib.hid (HF0.out h0)
    have d0:((n:Int) == 0) = true:=by rw [beq_iff_eq];omega
    have HOE:=Lib.hid (fun W (h:EntRow W (.slice co es.length cc) es) => oentries_any _ es W h (HSM.out HF.out))
    have HTR:Hid (treeOf s = if treeOk es = true then some es else none):=by
     unfold Hid;rw [HTO.out]
     by_cases ht:treeOk es = true
     ·rw [if_pos ⟨h0,ht⟩,if_pos ht]
     ·rw [if_neg (fun h => ht h.2),if_neg ht]
    clear h0 HTO HF0
    generalize treeOk es = ok at HOE HTR
    go_wp2_with fail
    refine (HW.out _ T.out.a).mono ?_
    rintro e w1 ⟨rfl,hb1⟩
    have T1:=Lib.hid (T.out.below hb1 (by omega) hrb)
    have c1:w1.cell? ⟨b,0,none⟩ = some (.pointer (some ⟨rb,0,none⟩)):=T1.out.f.cell 0 (by omega)
    clear hb1 c0
    go_wp2_with fail
    refine (HW.out _ T1.out.a).mono ?_
    rintro e w2 ⟨rfl,hb2⟩
    have T2:=Lib.hid (T1.out.below hb2 (by omega) hrb)
    have c2:w2.cell? ⟨b,1,none⟩ = some (.slice co es.length cc):=T2.out.f.cell 1 (by omega)
    have hER:=Lib.hid (HER.out w2 T2.out.o)
    clear hb2 c1
    go_wp2_with fail
    refine (HOE.out w2 hER.out).mono ?_
    rintro e w3 ⟨rfl,hb3⟩
    have T3:=Lib.hid (T2.out.below hb3 (by omega) hrb)
    have c3:w3.cell? ⟨b,1,none⟩ = some (.slice co es.length cc):=T3.out.f.cell 1 (by omega)
    clear hb3
    go_wp2
    go_ret
    rw [HTR.out]
    cases ok with
    | false => exact ⟨rfl,⟨_,c3,fun g hg => (T3.out.o.lt g hg).1,fun h => by cases h⟩,T3.out.bl⟩
    | true => exact ⟨rfl,⟨_,c3,fun g hg => (T3.out.o.lt g hg).1,fun _ => HER.out _ T3.out.o⟩,T3.out.bl⟩
   ·have d0:((n:Int) == 0) = false:=by rw [beq_eq_false_iff_ne];omega
    have HR:Hid (treeOf s = none):=by unfold Hid;rw [HTO.out,if_neg (fun h => h0 h.1)]
    go_wp2_with fail
    refine (HW.out _ T.out.a).mono ?_
    rintro e w1 ⟨rfl,hb1⟩
    have T1:=Lib.hid (T.out.below hb1 (by omega) hrb)
    have c1:w1.cell? ⟨b,0,none⟩ = some (.pointer (some ⟨rb,0,none⟩)):=T1.out.f.cell 0 (by omega)
    clear hb1 c0
    go_wp2_with fail
    refine (HW.out _ T1.out.a).mono ?_
    rintro e w2 ⟨rfl,hb2⟩
    have T2:=Lib.hid (T1.out.below hb2 (by omega) hrb)
    have c2:w2.cell? ⟨b,1,none⟩ = some (.slice co es.length cc):=T2.out.f.cell 1 (by omega)
    go_wp2
    go_ret
    exact ⟨by rw [HR.out];rfl,⟨_,c2,fun g hg => (T2.out.o.lt g hg).1,fun h => by rw [HR.out] at h;cases h⟩,T2.out.bl⟩
end Go.Proofs.YtmhjpmenngjmeaaGreatDoor
namespace Go.Proofs.YtmhjpmenngjmeaaGreatDoor
open Go.RowKit
def bodyF (rb:Nat) (t:List UInt8) (v:Value) (x:ByteArray) (k:Nat):Value:=if k = 0 then .pointer (some ⟨rb,0,none⟩) else if k = 1 then .slice none 0 0 else cmF t v x (k - 2)
theorem bodyF_lo (rb:Nat) (t:List UInt8) (v:Value) (x:ByteArray) {k:Nat} (h:2 ≤ k):bodyF rb t v x k = cmF t v x (k - 2):=by unfold bodyF;rw [if_neg (by omega),if_neg (by omega)]
theorem bodyF_t {rb:Nat} {t d:List UInt8} (h:t.length = 32) (hd:d.length = 32) (v:Value) (x:ByteArray):∀ k,k < 36 → (if 2 ≤ k ∧ k < 2 + (idC d).length then (idC d).getD (k - 2) undef else bodyF rb t v x k) = bodyF rb d v x k:=by
 intro k hk
 have hl:(idC d).length = 32:=by rw [idC_len,hd]
 by_cases h2:2 ≤ k
 ·rw [bodyF_lo rb t v x h2,bodyF_lo rb d v x h2]
  have:=cmF_t h hd v x (k - 2) (by omega)
  rw [← this]
  by_cases h3:k < 2 + (idC d).length
  ·rw [if_pos ⟨h2,h3⟩,if_pos ⟨by omega,by omega⟩];rfl
  ·rw [if_neg (fun h => h3 h.2),if_neg (fun h => h3 (by omega))]
 ·rw [if_neg (fun h => h2 h.1)]
  obtain h0 | h0:k = 0 ∨ k = 1:=by omega
  all_goals subst h0;rfl
theorem bodyF_v {rb:Nat} {t:List UInt8} (h:t.length = 32) (v u:Value) (x:ByteArray):∀ k,k < 36 → upd (bodyF rb t v x) 34 u k = bodyF rb t u x k:=by
 intro k hk
 by_cases h2:2 ≤ k
 ·have:=cmF_v h v u x (k - 2) (by omega)
  rw [bodyF_lo rb t u x h2,← this]
  unfold upd
  by_cases h3:k = 34
  ·subst h3;simp
  ·rw [if_neg h3,if_neg (show ¬ k - 2 = 32 by omega),bodyF_lo rb t v x h2]
 ·obtain h0 | h0:k = 0 ∨ k = 1:=by omega
  all_goals subst h0;rfl
theorem bodyF_x {rb:Nat} {t:List UInt8} (h:t.length = 32) (v:Value) (x y:ByteArray):∀ k,k < 36 → upd (bodyF rb t v x) 35 (.string y) k = bodyF rb t v y k:=by
 intro k hk
 by_cases h2:2 ≤ k
 ·have:=cmF_x h v x y (k - 2) (by omega)
  rw [bodyF_lo rb t v y h2,← this]
  unfold upd
  by_cases h3:k = 35
  ·subst h3;simp
  ·rw [if_neg h3,if_neg (show ¬ k - 2 = 33 by omega),bodyF_lo rb t v x h2]
 ·obtain h0 | h0:k = 0 ∨ k = 1:=by omega
  all_goals subst h0;rfl
theorem bodyF_34 {t:List UInt8} (rb:Nat) (h:t.length = 32) (v:Value) (x:ByteArray):bodyF rb t v x 34 = v:=by rw [bodyF_lo rb t v x (by omega)];exact cmF_32 h v x
theorem bodyF_row {w:World} {b rb:Nat} {t:List UInt8} {v:Value} {x:ByteArray} (h:t.length = 32) (hA:Arr w b 36 (bodyF rb t v x)):w.rangeAt b 2 (cmC t v x):=by
 intro j u hu
 have hj:j < 34:=by
  have:=(List.getElem?_eq_some_iff.1 hu).1
  rwa [cmC_len _ _ _ h] at this
 rw [hA.cell (2 + j) (by omega),bodyF_lo rb t v x (by omega),Nat.add_sub_cancel_left]
 have e:=cmF_list h v x
 rw [← e,List.getElem?_map,List.getElem?_range hj] at hu
 exact hu
theorem wpList_load_midG {P:Program} {ops:Array Oper} {rest:List Oper} {op:Oper} {a:Act} {w:World} {Q:Exit → Act → World → Prop} (hw:Region.wanted op (yielded ops a.tmps) = true) (ty:TypeId) (x:Operand) (ho:op.op = .load ty x)
  (b o:Nat) (hx:a.eval x = .pointer (some ⟨b,o,none⟩)) (cs:List Value) (d:TypeDesc) (hc:w.rangeAt b o cs) (hu:P.underlying ty = some d) (hd:d.isRow = true) (hi:(P.info? ty).map (·.size) = some cs.length)
  (h:wpList P ops Q rest (a.put op.dst (.agg cs.toArray)) w):wpList P ops Q (op :: rest) a w:=by
 simp only [wpList]
 rw [if_pos hw]
 exact .inl (wp_load_mid ty x ho b o hx cs d hc hu hd hi h)
theorem own_cap {w:World} {B:Nat} {e:TypeId} {sz:Nat} {v:Value} {n:Nat} {xs:List Value} (h:w.ownsRow B e sz v n xs):CapI v:=by
 intro ao m c hv
 rcases h.2 with ⟨h1,_⟩ | ⟨g,cap,cur,h1,_,_,h4,_⟩
 ·rw [h1] at hv;cases hv;exact Nat.le_refl _
 ·rw [h1] at hv;cases hv;exact h4
set_option maxRecDepth 100000 in
set_option maxHeartbeats 8000000 in
theorem ocommitbody_any (B rb b:Nat) (s:ByteArray) (w:World) (hr:Arr w rb 3 (rd0 s).c) (hb:Arr w b 36 (bodyF rb zid (.slice none 0 0) ⟨#[]⟩)) (hrb:B ≤ rb) (hbb:B ≤ b) (hne:rb ≠ b) (hs:s.size ≤ 100000) :
  Calls Tryz.prog 115 #[.pointer (some ⟨b,0,none⟩)] w fun e w' => e = .returned (.bool (commitOf s).isSome) ∧ ((commitOf s).isSome = true → ∃ t v l x,commitOf s = some (t,l,x) ∧ w'.rangeAt b 2 (cmC t v x) ∧ FreshV w v ∧ IdRow w' v l) ∧ Below B w w':=by
 obtain ⟨zi,i0,hi,hz0,hz1,hz2,hziv,hzil⟩:=id_zero
 have HZI:=Lib.hid hzil
 clear hzil
 have hrl:=hr.lt (by omega)
 have hbl:=hb.lt (by omega)
 have c0:w.cell? ⟨b,0,none⟩ = some (.pointer (some ⟨rb,0,none⟩)):=hb.cell 0 (by omega)
 have HC:=Lib.hid hb
 have hfd:=Lib.hid (rd0_fine s (show s.size ≤ 1000000 by omega))
 have HID:=Lib.hid (wid_any rb (rd0 s) w hr hfd.out)
 have hf0:=Lib.hid ((rd0 s).id_fine hfd.out)
 have HTL:Hid ((rd0 s).id.2.length = 32):=Lib.hid (idOf_len _)
 have HCM:Hid ((rd0 s).commit = ((((((rd0 s).id.1.num 4).1.ids ((rd0 s).id.1.num 4).2).1.text 64).1,(rd0 s).id.2,(((rd0 s).id.1.num 4).1.ids ((rd0 s).id.1.num 4).2).2,((((rd0 s).id.1.num 4).1.ids ((rd0 s).id.1.num 4).2).1.text 64).2))):=Lib.hid rfl
 have HCO:Hid (commitOf s = if (rd0 s).commit.1.fin = 0 ∧ commitOk (rd0 s).commit.2 = true then some (rd0 s).commit.2 else none):=Lib.hid rfl
 have HCF:=Lib.hid ((rd0 s).commit_fine hfd.out)
 generalize (rd0 s).commit = cm at HCM HCO HCF
 generalize (rd0 s).id = x0 at HID hf0 HTL HCM
 obtain ⟨r0,t⟩:=x0
 dsimp only at HID hf0 HTL HCM
 clear hr hb
 go_enter Tryz.func115,Tryz.ntmps115
 go_wp2_with fail
 refine HID.out.mono ?_
 rintro e w1 ⟨rfl,hB1,hg1⟩
 have hdl:(idC t).length = 32:=by rw [idC_len,HTL.out]
 have hC1:=HC.out.grown hg1 (by omega)
 have hth:w1.there b 2 32:=fun j hj => ⟨by rw [hC1.cell _ (by omega)];rfl,hC1.free _ (by omega)⟩
 have HTH:=Lib.hid hth
 have HB1:=Lib.hid (hB1.farSets (B:=b) (by omega) (idC t) 2)
 have HC1:=Lib.hid ((hC1.setCells 2 (idC t) (by omega)).congr (bodyF_t zid_len HTL.out _ _))
 have HBL1:=Lib.hid (below_setCells (B:=B) (a:=w) b hbb (idC t) 2 w1 ((Below.refl B w).grown hg1 (by omega) (fun k hk => by cases hk;omega)))
 have HDL:=Lib.hid hdl
 have HDO:=Lib.hid (idC_one t)
 have h32:(Tryz.prog.info? 27).map (·.size) = some 32:=by kernel_rfl
 clear hB1 hC1 hg1 hth hdl HC HID c0
 have hdv:idV t = .agg (idC t).toArray:=rfl
 rw [hdv]
 clear hdv
 generalize hus:idC t = us at HB1 HC1 HBL1 HDL HDO
 clear hus
 have HT1:=Lib.hid (show TS B rb b 36 w.heap.size 27 32 w r0.c (bodyF rb t (.slice none 0 0) ⟨#[]⟩) (.slice none 0 0) 0 (idsF []) (w1.setCells b 2 us) from ⟨HB1.out,HC1.out,World.ownsRow_nil _ _ _ _,HBL1.out⟩)
 clear HB1 HC1 HBL1
 have c2:(w1.setCells b 2 us).cell? ⟨b,0,none⟩ = some (.pointer (some ⟨rb,0,none⟩)):=HT1.out.f.cell 0 (by omega)
 have HNU:=Lib.hid (fun W (hA:Arr W rb 3 r0.c) => wnum_any rb r0 4 W hA hf0.out (by omega))
 have hnf:=Lib.hid (Rd.num_fine r0 4 hf0.out)
 generalize r0.num 4 = x1 at HNU hnf HCM
 obtain ⟨r1,n⟩:=x1
 dsimp only at HNU hnf HCM
 have hn4:n ≤ 4:=hnf.out.2
 have hf1:=Lib.hid hnf.out.1
 go_wp2_with (refine wpList_store_list rfl 27 _ _ rfl b 2 us rfl rfl 32 HDL.out HTH.out h32 HDO.out ?_)
 refine (HNU.out _ HT1.out.a).mono ?_
 rintro e w3 ⟨rfl,hA3,hg3⟩
 have HT3:=Lib.hid (HT1.out.read hA3 hg3 hne hrb hrl)
 clear hA3 hg3 HT1 HNU hnf c2 HTH
 go_wp2
 have HL:Hid (∀ k,((r1.ids k).2).length = k):=Lib.hid (fun k => Rd.ids_len k r1)
 go_loopw [17] (fun i wr => ∃ (k:Nat) (v:Value),k ≤ n ∧ i = .int .i64 k ∧ Hid (TS B rb b 36 w.heap.size 27 32 w (r1.ids k).1.c (bodyF rb t v ⟨#[]⟩) v k (idsF (r1.ids k).2) wr)) (fun i _ => (n - intOf i).toNat)
 case atStart => exact ⟨0,.slice none 0 0,by omega,rfl,HT3⟩
 case round =>
  obtain ⟨wo,rfl⟩:∃ wo:World,wo = wr:=⟨_,rfl⟩
  obtain ⟨k,v,hk,rfl,T⟩:=hrel
  obtain ⟨co,cc,rfl⟩:=own_form T.out.o
  by_cases hlt:k < n
  ·have d1:decide ((k:Int) < n) = true:=decide_eq_true (by omega)
   have d2:decide (k < n) = true:=decide_eq_true hlt
   have TD:=Lib.hid (T.out.below (Below.refl _ _).drew (by omega) hrb)
   have hS0:wo.drew.cell? ⟨b,0,none⟩ = some (.pointer (some ⟨rb,0,none⟩)) ∧ wo.drew.cell? ⟨b,34,none⟩ = some (.slice co k cc) :=
    ⟨TD.out.f.cell 0 (by omega),by rw [TD.out.f.cell 34 (by omega),bodyF_34 rb HTL.out]⟩
   have HI:=Lib.hid (wid_any rb (r1.ids k).1 wo.drew TD.out.a (Rd.ids_fine k r1 hf1.out))
   have HSN:=Lib.hid (Rd.ids_snoc k r1)
   clear T
   go_wp2
   refine wp_region_L 16 (fun w' => w'.cell? ⟨b,0,none⟩ = some (.pointer (some ⟨rb,0,none⟩)) ∧ w'.cell? ⟨b,34,none⟩ = some (.slice co k cc)) (by kernel_rfl) (by kernel_rfl) ?_
   refine WL.take (i:=0) (v:=?_) rfl (by kernel_rfl) (by decide) (by decide +kernel) (by decide +kernel) (fun _ _ _ h => h) rfl ?_ hS0 ?_
   rotate_left
   ·(intro w' hSw;(try dsimp only at hSw);go_simp;(try with_reducible rfl))
   simp only [Act.put];(try simp only [List.getElem_toArray]);(try simp only [List.getElem_cons_succ]);(try simp only [List.getElem_cons_zero]);(try simp only [List.setIfInBounds_toArray]);(try simp only [List.set_cons_succ]);(try simp only [List.set_cons_zero])
   refine WL.take (i:=1) (v:=?_) rfl (by kernel_rfl) (by decide) (by decide +kernel) (by decide +kernel) (fun _ _ _ h => h) rfl ?_ hS0 ?_
   rotate_left
   ·(intro w' hSw;(try dsimp only at hSw);go_simp;(try with_reducible rfl))
   simp only [Act.put];(try simp only [List.getElem_toArray]);(try simp only [List.getElem_cons_succ]);(try simp only [List.getElem_cons_zero]);(try simp only [List.setIfInBounds_toArray]);(try simp only [List.set_cons_succ]);(try simp only [List.set_cons_zero])
   refine WL.take (i:=2) (v:=?_) rfl (by kernel_rfl) (by decide) (by decide +kernel) (by decide +kernel) (fun _ _ _ h => h) rfl ?_ hS0 ?_
   rotate_left
   ·(intro w' hSw;(try dsimp only at hSw);go_simp;(try with_reducible rfl))
   simp only [Act.put];(try simp only [List.getElem_toArray]);(try simp only [List.getElem_cons_succ]);(try simp only [List.getElem_cons_zero]);(try simp only [List.setIfInBounds_toArray]);(try simp only [List.set_cons_succ]);(try simp only [List.set_cons_zero])
   refine WL.take (i:=3) (v:=?_) rfl (by kernel_rfl) (by decide) (by decide +kernel) (by decide +kernel) (fun _ _ _ h => h) rfl ?_ hS0 ?_
   rotate_left
   ·(intro w' hSw;(try dsimp only at hSw);go_simp;(try with_reducible rfl))
   simp only [Act.put];(try simp only [List.getElem_toArray]);(try simp only [List.getElem_cons_succ]);(try simp only [List.getElem_cons_zero]);(try simp only [List.setIfInBounds_toArray]);(try simp only [List.set_cons_succ]);(try simp only [List.set_cons_zero])
   refine WL.take (i:=4) (v:=?_) rfl (by kernel_rfl) (by decide) (by decide +kernel) (by decide +kernel) (fun _ _ _ h => h) rfl ?_ hS0 ?_
   rotate_left
   ·(intro w' hSw;(try dsimp only at hSw);go_simp;(try with_reducible rfl))
   simp only [Act.put];(try simp only [List.getElem_toArray]);(try simp only [List.getElem_cons_succ]);(try simp only [List.getElem_cons_zero]);(try simp only [List.setIfInBounds_toArray]);(try simp only [List.set_cons_succ]);(try simp only [List.set_cons_zero])
   refine WL.take (i:=5) (v:=?_) rfl (by kernel_rfl) (by decide) (by decide +kernel) (by decide +kernel) (fun _ _ _ h => h) rfl ?_ hS0 ?_
   rotate_left
   ·(intro w' hSw;(try dsimp only at hSw);go_simp;(try with_reducible rfl))
   simp only [Act.put];(try simp only [List.getElem_toArray]);(try simp only [List.getElem_cons_succ]);(try simp only [List.getElem_cons_zero]);(try simp only [List.setIfInBounds_toArray]);(try simp only [List.set_cons_succ]);(try simp only [List.set_cons_zero])
   refine WL.take (i:=6) (v:=?_) rfl (by kernel_rfl) (by decide) (by decide +kernel) (by decide +kernel) (fun _ _ _ h => h) rfl ?_ hS0 ?_
   rotate_left
   ·(intro w' hSw;(try dsimp only at hSw);go_simp;(try with_reducible rfl))
   simp only [Act.put];(try simp only [List.getElem_toArray]);(try simp only [List.getElem_cons_succ]);(try simp only [List.getElem_cons_zero]);(try simp only [List.setIfInBounds_toArray]);(try simp only [List.set_cons_succ]);(try simp only [List.set_cons_zero])
   refine WL.take (i:=7) (v:=?_) rfl (by kernel_rfl) (by decide) (by decide +kernel) (by decide +kernel) (fun _ _ _ h => h) rfl ?_ hS0 ?_
   rotate_left
   ·(intro w' hSw;(try dsimp only at hSw);go_simp;(try with_reducible rfl))
   simp only [Act.put];(try simp only [List.getElem_toArray]);(try simp only [List.getElem_cons_succ]);(try simp only [List.getElem_cons_zero]);(try simp only [List.setIfInBounds_toArray]);(try simp only [List.set_cons_succ]);(try simp only [List.set_cons_zero])
   refine WL.take (i:=8) (v:=?_) rfl (by kernel_rfl) (by decide) (by decide +kernel) (by decide +kernel) (fun _ _ _ h => h) rfl ?_ hS0 ?_
   rotate_left
   ·(intro w' hSw;(try dsimp only at hSw);go_simp;(try with_reducible rfl))
   simp only [Act.put];(try simp only [List.getElem_toArray]);(try simp only [List.getElem_cons_succ]);(try simp only [List.getElem_cons_zero]);(try simp only [List.setIfInBounds_toArray]);(try simp only [List.set_cons_succ]);(try simp only [List.set_cons_zero])
   refine WL.take (i:=9) (v:=?_) rfl (by kernel_rfl) (by decide) (by decide +kernel) (by decide +kernel) (fun _ _ _ h => h) rfl ?_ hS0 ?_
   rotate_left
   ·(intro w' hSw;(try dsimp only at hSw);go_simp;(try with_reducible rfl))
   simp only [Act.put];(try simp only [List.getElem_toArray]);(try simp only [List.getElem_cons_succ]);(try simp only [List.getElem_cons_zero]);(try simp only [List.setIfInBounds_toArray]);(try simp only [List.set_cons_succ]);(try simp only [List.set_cons_zero])
   refine WL.one (i:=10) rfl (by decide) (by decide +kernel) ?_
   go_wp2_with fail
   refine HI.out.mono ?_
   rintro e w3 ⟨rfl,hA3,hg3⟩
   have T3:=Lib.hid (TD.out.read hA3 hg3 hne hrb hrl)
   have hS3:w3.cell? ⟨b,0,none⟩ = some (.pointer (some ⟨rb,0,none⟩)) ∧ w3.cell? ⟨b,34,none⟩ = some (.slice co k cc) :=
    ⟨T3.out.f.cell 0 (by omega),by rw [T3.out.f.cell 34 (by omega),bodyF_34 rb HTL.out]⟩
   have HS3:=Lib.hid hS3
   have hdk:(idC (r1.ids k).1.id.2).length = 32:=by rw [idC_len];exact idOf_len _
   have hone:=idC_one (r1.ids k).1.id.2
   have hdv:idV (r1.ids k).1.id.2 = .agg (idC (r1.ids k).1.id.2).toArray:=rfl
   rw [hdv]
   clear hdv
   have HUK:Hid (idsF (r1.ids (k + 1)).2 = idsF (r1.ids k).2 ++ idC (r1.ids k).1.id.2):=by unfold Hid;rw [HSN.out];exact idsF_snoc _ _
   have HRK:Hid ((r1.ids (k + 1)).1 = (r1.ids k).1.id.1):=by unfold Hid;rw [HSN.out]
   clear hA3 hg3 hS3 HI HSN TD hS0
   generalize idC (r1.ids k).1.id.2 = uk at hdk hone HUK
   have HDK:=Lib.hid hdk
   have HON2:=Lib.hid hone
   have HSZC:Hid (∀ w,(sizeOf 27).run Tryz.prog w = .ok uk.length w):=Lib.hid (fun w => by rw [HDK.out];kernel_rfl)
   clear hdk hone
   go_wp2
   refine ⟨HS3.out,?_⟩
   refine WL.one (i:=11) rfl (by decide) (by decide +kernel) ?_
   refine wpList_buildSlice_one rfl (.tmp 29) 53 27 rfl uk zi rfl Tryz.underlying53 HSZC.out hziv (by rw [HDK.out];omega) (by rw [HDK.out];omega) ?_
   simp only [Act.put];(try simp only [List.getElem_toArray]);(try simp only [List.getElem_cons_succ]);(try simp only [List.getElem_cons_zero]);(try simp only [List.setIfInBounds_toArray]);(try simp only [List.set_cons_succ]);(try simp only [List.set_cons_zero])
   have hlt3:=T3.out.lt
   have hown0:=T3.out.o.lt
   have T8a:=T3.out.a.alloc (by omega) (.cells uk.toArray 27)
   have T8f:=T3.out.f.alloc (by omega) (.cells uk.toArray 27)
   have T8o:=T3.out.o.alloc (.cells uk.toArray 27)
   have T8b:=T3.out.bl.alloc (by have:=T3.out.lt;omega) (.cells uk.toArray 27)
   have S8:(w3.alloc (.cells uk.toArray 27)).cell? ⟨b,0,none⟩ = some (.pointer (some ⟨rb,0,none⟩)) ∧ (w3.alloc (.cells uk.toArray 27)).cell? ⟨b,34,none⟩ = some (.slice co k cc) :=
    ⟨T8f.cell 0 (by omega),by rw [T8f.cell 34 (by omega),bodyF_34 rb HTL.out]⟩
   refine ⟨S8,?_⟩
   refine WL.one (i:=12) rfl (by decide) (by decide +kernel) ?_
   refine wpList_append_own _ rfl (.tmp 24) (.tmp 30) 53 rfl w.heap.size 27 i0 (.agg zi) 32 32 Tryz.underlying53 hi hz0 hz1 hz2 HZI.out (by decide) _ k (idsF (r1.ids k).2) rfl T8o ⟨w3.heap.size,0,none⟩ 1 1 uk rfl HDK.out (fun j u hj => cells_newL _ uk _ j u hj) HON2.out (by unfold maxLen;omega) (by omega) (by rw [World.size_alloc];have:=T3.out.bl.size;omega) ?_
   intro v' w5 hown5 hg5 _
   obtain ⟨co5,cc5,rfl⟩:=own_form hown5
   have T5a:=T8a.grownV hg5 (fun e => by have:=(hown0 _ e).1;omega)
   have T5f:=T8f.grownV hg5 (fun e => by have:=(hown0 _ e).1;omega)
   have T5b:=T8b.grown hg5 (by rw [World.size_alloc];have:=T3.out.lt;omega) (fun j hj => by have:=(hown0 j hj).1;omega)
   have S5:w5.cell? ⟨b,0,none⟩ = some (.pointer (some ⟨rb,0,none⟩)) ∧ w5.cell? ⟨b,34,none⟩ = some (.slice co k cc) :=
    ⟨T5f.cell 0 (by omega),by rw [T5f.cell 34 (by omega),bodyF_34 rb HTL.out]⟩
   have HNE5:=Lib.hid (own_ne hown5 hbl)
   have f5:=T5f.free 34 (by omega)
   have HA5:=Lib.hid T5a
   have HF5:=Lib.hid T5f
   have HB5:=Lib.hid T5b
   have HO5:=Lib.hid hown5
   have HS5:=Lib.hid S5
   simp only [Act.put];(try simp only [List.getElem_toArray]);(try simp only [List.getElem_cons_succ]);(try simp only [List.getElem_cons_zero]);(try simp only [List.setIfInBounds_toArray]);(try simp only [List.set_cons_succ]);(try simp only [List.set_cons_zero])
   refine ⟨S5,?_⟩
   clear T8a T8f T8o T8b S8 hown0 hown5 hg5 T5a T5f T5b S5 hlt3
   have S5:=HS5.out
   refine WL.take (i:=13) (v:=?_) rfl (by kernel_rfl) (by decide) (by decide +kernel) (by decide +kernel) (fun _ _ _ h => h) rfl ?_ S5 ?_
   rotate_left
   ·(intro w' hSw;(try dsimp only at hSw);go_simp;(try with_reducible rfl))
   simp only [Act.put];(try simp only [List.getElem_toArray]);(try simp only [List.getElem_cons_succ]);(try simp only [List.getElem_cons_zero]);(try simp only [List.setIfInBounds_toArray]);(try simp only [List.set_cons_succ]);(try simp only [List.set_cons_zero])
   refine WL.take (i:=14) (v:=?_) rfl (by kernel_rfl) (by decide) (by decide +kernel) (by decide +kernel) (fun _ _ _ h => h) rfl ?_ S5 ?_
   rotate_left
   ·(intro w' hSw;(try dsimp only at hSw);go_simp;(try with_reducible rfl))
   simp only [Act.put];(try simp only [List.getElem_toArray]);(try simp only [List.getElem_cons_succ]);(try simp only [List.getElem_cons_zero]);(try simp only [List.setIfInBounds_toArray]);(try simp only [List.set_cons_succ]);(try simp only [List.set_cons_zero])
   refine WL.take (i:=15) (v:=?_) rfl (by kernel_rfl) (by decide) (by decide +kernel) (by decide +kernel) (fun _ _ _ h => h) rfl ?_ S5 ?_
   rotate_left
   ·(intro w' hSw;(try dsimp only at hSw);go_simp;(try with_reducible rfl))
   simp only [Act.put];(try simp only [List.getElem_toArray]);(try simp only [List.getElem_cons_succ]);(try simp only [List.getElem_cons_zero]);(try simp only [List.setIfInBounds_toArray]);(try simp only [List.set_cons_succ]);(try simp only [List.set_cons_zero])
   refine WL.last (n:=16) rfl rfl (by decide +kernel) (by decide +kernel) ?_
   have g5:=S5.2
   clear S5
   go_wp2
   go_roundw
   case rel =>
    refine ⟨k + 1,.slice co5 (k + 1) cc5,by omega,by go_num,Lib.hid ⟨?_,(HF5.out.set 34 (by omega) _).congr (bodyF_v HTL.out _ _ _),?_,HB5.out.setCell (p:=⟨b,34,none⟩) hbb _⟩⟩
    ·rw [HRK.out];exact HA5.out.far (p:=⟨b,34,none⟩) (by show b ≠ rb;omega) _
    ·rw [HUK.out];exact own_set HO5.out HNE5.out
   case measure => simp [intOf];omega
  ·obtain rfl:k = n:=by omega
   have d1:decide ((k:Int) < k) = false:=decide_eq_false (by omega)
   have hft:=Lib.hid (Rd.text_fine _ 64 (Rd.ids_fine k r1 hf1.out))
   have HT:=Lib.hid (wtext_any rb (r1.ids k).1 64 wo T.out.a (Rd.ids_fine k r1 hf1.out) (by omega))
   have hidl:=Lib.hid (Rd.ids_all k r1)
   have hil:=HL.out k
   have c0:wo.cell? ⟨b,0,none⟩ = some (.pointer (some ⟨rb,0,none⟩)):=T.out.f.cell 0 (by omega)
   generalize hir:r1.ids k = x2 at HT HCM hft hidl hil T
   obtain ⟨r2,l⟩:=x2
   dsimp only at HT HCM hft hidl hil T
   clear hir
   generalize r2.text 64 = x3 at HT HCM hft
   obtain ⟨r3,x⟩:=x3
   dsimp only at HT HCM hft
   obtain rfl:cm = (r3,t,l,x):=HCM.out
   dsimp only at HCO HCF
   clear HCM hft
   have HIL:=Lib.hid hil
   clear hil
   go_wp2_with fail
   refine HT.out.mono ?_
   rintro e w3 ⟨rfl,hA3,hg3⟩
   have T3:=Lib.hid (T.out.read hA3 hg3 hne hrb hrl)
   have f35:=T3.out.f.free 35 (by omega)
   have c35:=T3.out.f.cell 35 (by omega)
   have T4:=Lib.hid (show TS B rb b 36 w.heap.size 27 32 w r3.c (bodyF rb t (.slice co k cc) x) (.slice co k cc) k (idsF l) (w3.setCell ⟨b,35,none⟩ (.string x)) from
    ⟨T3.out.a.far (p:=⟨b,35,none⟩) (by show b ≠ rb;omega) _,(T3.out.f.set 35 (by omega) _).congr (bodyF_x HTL.out _ _ x),own_set T3.out.o (own_ne T3.out.o hbl),T3.out.bl.setCell (p:=⟨b,35,none⟩) hbb _⟩)
   have c4:(w3.setCell ⟨b,35,none⟩ (.string x)).cell? ⟨b,0,none⟩ = some (.pointer (some ⟨rb,0,none⟩)):=T4.out.f.cell 0 (by omega)
   have HEND:=Lib.hid (fun W hA => wend_any rb r3 W hA HCF.out)
   clear hA3 hg3 T3 c0
   go_wp2_with fail
   refine (HEND.out _ T4.out.a).mono ?_
   rintro e w4 ⟨rfl,hb4⟩
   have T5:=Lib.hid (T4.out.below hb4 (by omega) hrb)
   clear hb4 c4 c35 f35 T4
   by_cases hfin:r3.fin = 0
   ·have d0:((r3.fin:Int) == 0) = true:=by rw [beq_iff_eq];omega
    have HTR:Hid (commitOf s = if commitOk (t,l,x) = true then some (t,l,x) else none):=by
     unfold Hid;rw [HCO.out]
     by_cases ht:commitOk (t,l,x) = true
     ·rw [if_pos ⟨hfin,ht⟩,if_pos ht]
     ·rw [if_neg (fun h => ht h.2),if_neg ht]
    have HROW:Hid (∀ W,W.ownsRow w.heap.size 27 32 (.slice co k cc) k (idsF l) → IdRow W (.slice co k cc) l):=Lib.hid (fun W h => RowOf.of_own (B:=w.heap.size) (e:=27) (sz:=32) (rows:=l.map idC) (fun r hr => by
     obtain ⟨y,hy,rfl⟩:=List.mem_map.1 hr
     rw [idC_len];exact hidl.out y hy) (by rw [List.length_map,HIL.out];exact h))
    have hl4:l.length ≤ 4:=by rw [HIL.out];omega
    have HOC:=Lib.hid (fun W (h:W.ownsRow w.heap.size 27 32 (.slice co k cc) k (idsF l)) => ocommit_any t (.slice co k cc) l x W (HROW.out W h) HTL.out hidl.out (by omega) (own_cap h))
    have hrg:=bodyF_row HTL.out T5.out.f
    have hlenC:(cmC t (.slice co k cc) x).length = 34:=cmC_len _ _ _ HTL.out
    have h34c:(Tryz.prog.info? 103).map (·.size) = some (cmC t (.slice co k cc) x).length:=by rw [hlenC];kernel_rfl
    have c5:w4.cell? ⟨b,0,none⟩ = some (.pointer (some ⟨rb,0,none⟩)):=T5.out.f.cell 0 (by omega)
    clear hfin HCO HCF hlenC hl4
    generalize commitOk (t,l,x) = ok at HTR HOC
    have HRG:=Lib.hid hrg
    clear hrg
    go_wp2_with (refine wpList_load_midG rfl 103 _ rfl b 2 rfl (cmC t (.slice co k cc) x) _ HRG.out Tryz.underlying103 rfl h34c ?_)
    refine (HOC.out w4 T5.out.o).mono ?_
    rintro e w5 ⟨rfl,hb5⟩
    have T6:=Lib.hid (T5.out.below hb5 (by omega) hrb)
    clear hb5 c5
    go_wp2
    go_ret
    rw [HTR.out]
    cases ok with
    | false => exact ⟨rfl,fun h => (by cases h),T6.out.bl⟩
    | true => exact ⟨rfl,fun _ => ⟨t,_,l,x,rfl,bodyF_row HTL.out T6.out.f,fun g hg => (T6.out.o.lt g hg).1,HROW.out _ T6.out.o⟩,T6.out.bl⟩
   ·have d0:((r3.fin:Int) == 0) = false:=by rw [beq_eq_false_iff_ne];omega
    have HR:Hid (commitOf s = none):=by unfold Hid;rw [HCO.out,if_neg (fun h => hfin h.1)]
    clear hfin HCO HCF
    go_wp2
    go_ret
    rw [HR.out]
    exact ⟨rfl,fun h => (by cases h),T5.out.bl⟩
end Go.Proofs.YtmhjpmenngjmeaaGreatDoor

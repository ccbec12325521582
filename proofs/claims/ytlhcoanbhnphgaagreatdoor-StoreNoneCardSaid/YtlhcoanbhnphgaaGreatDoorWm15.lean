/- A part of this claim. -/
import Derived.Deep.CutRange
import Derived.Laws.EntriesVeiled
import Derived.Test.YtlhcoanbhnphgaaGreatDoorWm13
namespace Go.Proofs.YtlhcoanbhnphgaaGreatDoor
open Tryz
set_option maxHeartbeats 64000000
set_option maxRecDepth 100000
set_option linter.all false
section
open Go.RowKit
theorem Eh (p:Value) (w:World):Calls prog 241 #[p] w fun e w' => e = .returned (.bool true) ∧ w' = w:=by
 go_enter func241,ntmps241
 go_wp2
 go_ret
 exact ⟨rfl,rfl⟩
theorem oN (s:ByteArray) (w:World):Calls prog 128 #[.string s] w fun e w' => e = .returned (.pointer (some ⟨w.heap.size,0,none⟩)) ∧ w' = w.alloc (.cells #[.string s,.int .i64 0,.int .i64 0] 276):=by
 go_enter func128,ntmps128
 go_wp2
 go_ret
 exact ⟨rfl,rfl⟩
def twoF (a v:Value) (k:Nat):Value:=if k = 0 then a else v
theorem KN (a v u:Value):∀ k,k < 2 → upd (twoF a v) 1 u k = twoF a u k:=by
 intro k hk
 obtain h | h:k = 0 ∨ k = 1:=by omega
 all_goals subst h;rfl
theorem E9 (kd:Nat) (nm:ByteArray) (w:World):(Instr.build 217 #[(1,.int .i64 (kd:Int)),(0,.string nm)]).run prog w = .ok (.agg (entC ⟨nm,kd,zid⟩).toArray) w :=
 run_build w 217 _ _ (by kernel_rfl)
theorem JV (nm:ByteArray) (kd:Nat) (d:List UInt8) (h:d.length = 32) (k:Nat) (hk:k < 34):(if 2 ≤ k ∧ k < 2 + (idC d).length then (idC d).getD (k - 2) undef else entF ⟨nm,kd,zid⟩ k) = entF ⟨nm,kd,d⟩ k:=by
 have:=Iy ⟨nm,kd,d⟩ h k hk
 rw [← this]
 dsimp only
 have hl:(idC d).length = 32:=by rw [au,h]
 rw [hl]
 obtain h0 | h0 | h0:k = 0 ∨ k = 1 ∨ 2 ≤ k:=by omega
 ·subst h0;rfl
 ·subst h0;rfl
 rw [if_pos ⟨h0,by omega⟩,if_pos ⟨h0,by omega⟩]
def kY (w:World) (v:Value):Prop:=∀ g,v.ownBlock = some g → w.heap.size ≤ g
structure TS (B rb b nb base:Nat) (ty:TypeId) (sz:Nat) (W0:World) (c fb:Nat → Value) (V:Value) (n:Nat) (xs:List Value) (W:World):Prop where
 a:Arr W rb 3 c
 f:Arr W b nb fb
 o:W.ownsRow base ty sz V n xs
 bl:Below B W0 W
section
variable {B rb b nb base:Nat} {ty:TypeId} {sz:Nat} {W0 W W':World} {c c' fb:Nat → Value} {V:Value} {n:Nat} {xs:List Value}
theorem TS.read (h:TS B rb b nb base ty sz W0 c fb V n xs W) (hA:Arr W' rb 3 c') (hg:W.grownBy W' (some rb)) (hne:rb ≠ b) (hrb:B ≤ rb) (hba:rb < base):TS B rb b nb base ty sz W0 c' fb V n xs W' :=
 ⟨hA,h.f.grown hg (Ne.symm hne),jy h.o hg hba,h.bl.grown hg (by have:=h.a.lt (show 0 < 3 by omega);omega) (fun k hk => by cases hk;exact hrb)⟩
theorem TS.below (h:TS B rb b nb base ty sz W0 c fb V n xs W) (hb:Below W.heap.size W W') (hnb:0 < nb) (hrb:B ≤ rb):TS B rb b nb base ty sz W0 c fb V n xs W' :=
 ⟨h.a.below hb (h.a.lt (by omega)),h.f.below hb (h.f.lt hnb),own_below h.o hb,h.bl.trans (hb.mono (by have:=h.a.lt (show 0 < 3 by omega);omega))⟩
theorem TS.lt (h:TS B rb b nb base ty sz W0 c fb V n xs W):rb < W.heap.size:=h.a.lt (by omega)
theorem TS.ltb (h:TS B rb b nb base ty sz W0 c fb V n xs W) (hnb:0 < nb):b < W.heap.size:=h.f.lt hnb
theorem TS.sets (h:TS B rb b nb base ty sz W0 c fb V n xs W) {E:Nat} (us:List Value) (o:Nat) (h1:E ≠ rb) (h2:E ≠ b) (h3:V.ownBlock = none ∨ V.ownBlock ≠ some E) (h4:B ≤ E):TS B rb b nb base ty sz W0 c fb V n xs (W.setCells E o us) :=
 ⟨h.a.iQ h1 us o,h.f.iQ h2 us o,sH h.o h3,below_setCells E h4 us o W h.bl⟩
end
theorem Ed (B rb b:Nat) (s:ByteArray) (w:World) (hr:Arr w rb 3 (rd0 s).c) (hb:Arr w b 2 (twoF (.pointer (some ⟨rb,0,none⟩)) (.slice none 0 0))) (hrb:B ≤ rb) (hbb:B ≤ b) (hne:rb ≠ b) (hs:s.size ≤ 100000) :
  Calls prog 242 #[.pointer (some ⟨b,0,none⟩)] w fun e w' => e = .returned (.bool (dz s).isSome) ∧ (∃ v,w'.cell? ⟨b,1,none⟩ = some v ∧ kY w v ∧ ((dz s).isSome = true → fD w' v ((dz s).getD []))) ∧ Below B w w':=by
 obtain ⟨zs,i0,hi,hz0,hz1,hz2,hzv,hbu,hzs⟩:=zR
 have hzl:zs.size = 34:=by rw [hzs];simp
 have HZL:=ah hzl
 have HZS:=ah hzs
 clear hzl hzs hbu
 have hrl:=hr.lt (by omega)
 have hbl:=hb.lt (by omega)
 have HR0:=ah hr
 have HB0:=ah hb
 clear hr hb
 go_enter func242,ntmps242
 go_wp2
 go_loopw [] (fun wr => ∃ (r:Rd) (es:List Ent) (f:Nat) (v:Value),Arr wr rb 3 r.c ∧ Hid r.fine ∧ r.err ≤ 4 ∧ Hid (r.s = s) ∧ Hid (r.iR f es = (rd0 s).iR (s.size + 1) []) ∧ Hid (r.err = 0 → r.s.size - r.pos < f ∧ es.length ≤ r.pos) ∧ Hid (∀ e ∈ es,e.id.length = 32) ∧ es.length ≤ 100001 ∧ Arr wr b 2 (twoF (.pointer (some ⟨rb,0,none⟩)) v) ∧ wr.ownsRow w.heap.size 217 34 v es.length (l6 es) ∧ Below B w wr) (fun wr => Hf rb wr)
 case atStart => exact ⟨rd0 s,[],s.size + 1,_,HR0.out,dO s (by omega),by show 0 ≤ 4;omega,rfl,rfl,(fun _ => ⟨by show s.size - 0 < s.size + 1;omega,Nat.zero_le _⟩),(fun e he => by cases he),by simp,HB0.out,World.ownsRow_nil _ _ _ _,Below.refl _ _⟩
 obtain ⟨wo,rfl⟩:∃ wo:World,wo = wr:=⟨_,rfl⟩
 obtain ⟨r,es,f,v,hA,hf,h4,hrs,hN,hfu,hid,hlen,hA2,hown,hbw⟩:=hrel
 have c0:wo.cell? ⟨b,0,none⟩ = some (.pointer (some ⟨rb,0,none⟩)):=hA2.cell 0 (by omega)
 have HEND:=ah (iD rb r wo hA hf.out)
 have hszo:=hbw.size
 obtain ⟨co,cc,rfl⟩:=aG hown
 have hmo:=r.JB h4
 by_cases hm:r.more = true
 ·obtain ⟨he0,hps⟩:=of_decide_eq_true hm
  obtain ⟨hfu1,hfu2⟩:=hfu.out he0
  have hfin:r.fin = 5:=by rw [hm] at hmo;exact of_decide_eq_true hmo.symm
  rw [hfin] at HEND
  have HLM:=ah (zF hA)
  have HE0:=ah he0
  have hel:=ah (BM r hf.out)
  have hentry:Hid (r.entry = (((r.num 2).1.text 32).1.id.1,⟨((r.num 2).1.text 32).2,(r.num 2).2,((r.num 2).1.text 32).1.id.2⟩)):=ah rfl
  have hf1:=ah (Rd.cu r 2 hf.out)
  have hf2:=ah (Rd.bX _ 32 hf1.out.1)
  have HA:=ah hA
  have HN:=ah (fun W (hA:Arr W rb 3 r.c) => kr rb r 2 W hA hf.out (by omega))
  have HT:=ah (fun W (hA:Arr W rb 3 (r.num 2).1.c) => jk rb _ 32 W hA hf1.out.1 (by omega))
  have HI:=ah (fun W (hA:Arr W rb 3 ((r.num 2).1.text 32).1.c) => qJ rb _ W hA hf2.out)
  have HIL:Hid ((((r.num 2).1.text 32).1.id.2).length = 32):=ah (gU _)
  have HEF:=ah (r.jM hf.out)
  have HE4:=ah (r.BN h4)
  have HES:=ah (r.JU)
  have HECN:=ah (r.iT hf.out)
  have HST:Hid (r.iR f es = r.entry.1.iR (f - 1) (es ++ [r.entry.2])):=ah (JR r f es hm (by omega))
  clear hm he0 hfin hmo
  generalize r.entry = en at hentry hel HEF HE4 HES HECN HST
  obtain ⟨r',e⟩:=en
  generalize r.num 2 = x1 at hentry HN HT hf1 HI HIL hf2
  obtain ⟨r1,kd⟩:=x1
  dsimp only at hentry HN HT hf1 HI HIL hf2
  generalize r1.text 32 = x2 at hentry HT HI HIL hf2
  obtain ⟨r2,nm⟩:=x2
  dsimp only at hentry HT HI HIL hf2
  generalize r2.id = x3 at hentry HI HIL
  obtain ⟨r3,d⟩:=x3
  dsimp only at hentry HI HIL HEF HE4 HES hel HECN HST
  obtain ⟨rfl,rfl⟩:r' = r3 ∧ e = ⟨nm,kd,d⟩:=by have:=hentry.out;injection this with h1 h2;exact ⟨h1,h2⟩
  clear hentry
  have HA2:=ah hA2
  have HO:=ah hown
  have HBW:=ah hbw
  have hrbo:rb < wo.heap.size:=by omega
  have hbo:b < wo.heap.size:=by omega
  clear hA hA2 hown hbw
  go_wp2_with fail
  refine HEND.out.mono ?_
  rintro e w1 ⟨rfl,hbe⟩
  have T1:Hid (TS B rb b 2 w.heap.size 217 34 w r.c (twoF (.pointer (some ⟨rb,0,none⟩)) (.slice co es.length cc)) (.slice co es.length cc) es.length (l6 es) w1) :=
   ah (TS.below ⟨HA.out,HA2.out,HO.out,HBW.out⟩ hbe (by omega) hrb)
  have hNE0:=qN T1.out.o
  have hs1:=hbe.size
  have hS0:w1.cell? ⟨b,0,none⟩ = some (.pointer (some ⟨rb,0,none⟩)):=T1.out.f.cell 0 (by omega)
  have hrb1:=T1.out.lt
  have hb1:=T1.out.ltb (by omega)
  have hbt:=E9 kd nm
  have hi34:(prog.info? 217).map (·.size) = some 34:=by rw [hi];exact congrArg some hz1
  have HNEW:Hid (∀ W:World,Arr (W.alloc (.cells zs 217)) W.heap.size 34 entZ):=ah (fun W => by
   rw [HZS.out]
   exact (Arr.ofList W ((List.range 34).map entZ) 217).congr fun k hk => by simp at hk;simp [hk])
  have HAL:Hid (∀ W:World,Below W.heap.size W (W.alloc (.cells zs 217))):=ah (fun W => bal)
  clear c0 hbe HA HA2 HO HBW hNE0
  go_upto_region 2 with fail
  go_cut [3] from 4 to 36 (fun s3 wx => ∃ E,s3 = .pointer (some ⟨E,0,none⟩) ∧ w1.heap.size ≤ E ∧ Hid ((Value.slice co es.length cc).ownBlock = none ∨ (Value.slice co es.length cc).ownBlock ≠ some E) ∧ Hid (TS B rb b 2 w.heap.size 217 34 w r2.c (twoF (.pointer (some ⟨rb,0,none⟩)) (.slice co es.length cc)) (.slice co es.length cc) es.length (l6 es) wx) ∧ Hid (Arr wx E 34 (entF ⟨nm,kd,zid⟩)))
  case first =>
   have hS0:w1.drew.cell? ⟨b,0,none⟩ = some (.pointer (some ⟨rb,0,none⟩)):=hS0
   have TD:Hid (TS B rb b 2 w.heap.size 217 34 w r.c (twoF (.pointer (some ⟨rb,0,none⟩)) (.slice co es.length cc)) (.slice co es.length cc) es.length (l6 es) w1.drew) :=
    ah (T1.out.below (Below.refl _ _).drew (by omega) hrb)
   refine wrL 12 (fun w' => w'.cell? ⟨b,0,none⟩ = some (.pointer (some ⟨rb,0,none⟩))) ?_
   refine WL.tk 0 hS0 ?_
   refine WL.tk 1 hS0 ?_
   refine WL.tk 2 hS0 ?_
   refine WL.tk 3 hS0 ?_
   refine WL.tk 5 hS0 ?_
   refine WL.tk 6 hS0 ?_
   refine WL.tk 7 hS0 ?_
   refine WL.tk 8 hS0 ?_
   refine WL.tw 4 11 ?_ ?_
   focus
    go_wp2_with fail
    refine (HN.out _ TD.out.a).mono ?_
    rintro e w2 ⟨rfl,hA2,hg2⟩
    have T2:=ah (TD.out.read hA2 hg2 hne hrb hrl)
    have hS2:w2.cell? ⟨b,0,none⟩ = some (.pointer (some ⟨rb,0,none⟩)):=T2.out.f.cell 0 (by omega)
    have hs2:w1.heap.size ≤ w2.heap.size:=hg2.size
    clear hA2 hg2
    go_wp2
    refine ⟨hS2,?_⟩
    refine WL.tw 9 11 ?_ ?_
    focus
     go_wp2_with fail
     refine (HT.out _ T2.out.a).mono ?_
     rintro e w3 ⟨rfl,hA3,hg3⟩
     have T3:=ah (T2.out.read hA3 hg3 hne hrb hrl)
     have hS3:w3.cell? ⟨b,0,none⟩ = some (.pointer (some ⟨rb,0,none⟩)):=T3.out.f.cell 0 (by omega)
     have T4:=ah (T3.out.below (HAL.out w3) (by omega) hrb)
     have hS4:(w3.alloc (.cells zs 217)).cell? ⟨b,0,none⟩ = some (.pointer (some ⟨rb,0,none⟩)):=T4.out.f.cell 0 (by omega)
     have HE4:=ah (HNEW.out w3)
     have hNE:=qN T3.out.o
     have hE1:w1.heap.size ≤ w3.heap.size:=by have:=hg3.size;omega
     clear hA3 hg3
     go_wp2
     refine ⟨hS3,?_⟩
     refine WL.take (i:=10) (v:=.agg (entC ⟨nm,kd,zid⟩).toArray) rfl (by kernel_rfl) (by decide) (by decide +kernel) (by decide +kernel) (fun _ _ _ h => h) rfl (by intro w' _;clear hzv;go_simp;rfl) hS3 ?_
     simp only [Act.put,nz]
     clear hS3
     refine WL.on 11 ?_
     go_wp2
     refine ⟨hS4,?_⟩
     refine WL.la 12 ?_
     obtain ⟨E,hE⟩:∃ E,w3.heap.size = E:=⟨_,rfl⟩
     obtain ⟨w4,hw4⟩:∃ w4,w3.alloc (.cells zs 217) = w4:=⟨_,rfl⟩
     rw [hw4,hE] at HE4
     rw [hw4] at T4
     rw [hE] at hE1 hNE
     simp only [hE,hw4]
     clear hE hw4 hS4 T3
    rotate_left
    focus
     have T3a:=ah (T2.out.below (HAL.out w2) (by omega) hrb)
     have hS3a:(w2.alloc (.cells zs 217)).cell? ⟨b,0,none⟩ = some (.pointer (some ⟨rb,0,none⟩)):=T3a.out.f.cell 0 (by omega)
     have HE3:=ah (HNEW.out w2)
     have hNE:=qN T2.out.o
     have hb2:=T2.out.ltb (by omega)
     have hrb2:=T2.out.lt
     go_wp2
     refine ⟨hS3a,?_⟩
     refine WL.on 9 ?_
     go_wp2_with fail
     refine (HT.out _ T3a.out.a).mono ?_
     rintro e w3 ⟨rfl,hA3,hg3⟩
     have T4:=ah (T3a.out.read hA3 hg3 hne hrb hrl)
     have HE4:=ah (HE3.out.grown hg3 (by omega))
     have hS4:w3.cell? ⟨b,0,none⟩ = some (.pointer (some ⟨rb,0,none⟩)):=T4.out.f.cell 0 (by omega)
     clear hA3 hg3 HE3 T3a
     go_wp2
     refine ⟨hS4,?_⟩
     refine WL.take (i:=10) (v:=.agg (entC ⟨nm,kd,zid⟩).toArray) rfl (by kernel_rfl) (by decide) (by decide +kernel) (by decide +kernel) (fun _ _ _ h => h) rfl (by intro w' _;clear hzv;go_simp;rfl) hS4 ?_
     simp only [Act.put,nz]
     refine WL.la 12 ?_
     have hE1:=hs2
     obtain ⟨E,hE⟩:∃ E,w2.heap.size = E:=⟨_,rfl⟩
     obtain ⟨w4,rfl⟩:∃ w4,w4 = w3:=⟨_,rfl⟩
     rw [hE] at HE4 hE1 hNE
     simp only [hE]
     clear hE hS4 hS3a
   rotate_left 2
   focus
    have hNE:=qN T1.out.o
    have T2:=ah ((T1.out.below (HAL.out w1) (by omega) hrb).below (Below.refl _ _).drew (by omega) hrb)
    have hS2:(w1.alloc (.cells zs 217)).drew.cell? ⟨b,0,none⟩ = some (.pointer (some ⟨rb,0,none⟩)):=T2.out.f.cell 0 (by omega)
    have HE2:=ah ((HNEW.out w1).below (Below.refl _ _).drew ((HNEW.out w1).lt (by omega)))
    go_wp2
    refine ⟨hS2,?_⟩
    refine WL.on 4 ?_
    go_wp2_with fail
    refine (HN.out _ T2.out.a).mono ?_
    rintro e w2 ⟨rfl,hA2,hg2⟩
    have T3:=ah (T2.out.read hA2 hg2 hne hrb hrl)
    have HE3:=ah (HE2.out.grown hg2 (by omega))
    have hS3:w2.cell? ⟨b,0,none⟩ = some (.pointer (some ⟨rb,0,none⟩)):=T3.out.f.cell 0 (by omega)
    clear hA2 hg2
    go_wp2
    refine ⟨hS3,?_⟩
    refine WL.on 9 ?_
    go_wp2_with fail
    refine (HT.out _ T3.out.a).mono ?_
    rintro e w4 ⟨rfl,hA3,hg3⟩
    have T4:=ah (T3.out.read hA3 hg3 hne hrb hrl)
    have HE4:=ah (HE3.out.grown hg3 (by omega))
    have hS4:w4.cell? ⟨b,0,none⟩ = some (.pointer (some ⟨rb,0,none⟩)):=T4.out.f.cell 0 (by omega)
    clear hA3 hg3 HE3 T3 HE2
    go_wp2
    refine ⟨hS4,?_⟩
    refine WL.take (i:=10) (v:=.agg (entC ⟨nm,kd,zid⟩).toArray) rfl (by kernel_rfl) (by decide) (by decide +kernel) (by decide +kernel) (fun _ _ _ h => h) rfl (by intro w' _;clear hzv;go_simp;rfl) hS4 ?_
    simp only [Act.put,nz]
    refine WL.la 12 ?_
    have hE1:w1.heap.size ≤ w1.heap.size:=Nat.le_refl _
    obtain ⟨E,hE⟩:∃ E,E = w1.heap.size:=⟨_,rfl⟩
    rw [← hE] at HE4 hNE
    rw [show w1.heap.size ≤ w1.heap.size ↔ w1.heap.size ≤ E by rw [hE]] at hE1
    simp only [← hE]
    clear hE hS4 hS3 T2 hS2
   all_goals
    clear T1 TD HN HT HNEW HAL
    (try clear T2);(try clear hs2);(try clear hS2)
    have hEr:E ≠ rb:=by omega
    have hEb:E ≠ b:=by omega
    have hBE:B ≤ E:=by omega
    have hcl0:(entC ⟨nm,kd,zid⟩).length = 34:=by simp [entC,au,aV]
    have hE5:Arr (w4.setCells E 0 (entC ⟨nm,kd,zid⟩)) E 34 (entF ⟨nm,kd,zid⟩):=by
     refine (HE4.out.setCells 0 (entC ⟨nm,kd,zid⟩) (by rw [hcl0];omega)).congr fun k hk => ?_
     rw [hcl0,if_pos ⟨by omega,by omega⟩];rfl
    have T5:=ah (T4.out.sets (entC ⟨nm,kd,zid⟩) 0 hEr hEb hNE hBE)
    have HTH0:=ah HE4.out.there
    have HCL0:=ah hcl0
    have HON0:=ah (tY ⟨nm,kd,zid⟩)
    have HE5:=ah hE5
    clear hcl0 hE5 T4 HE4
    refine aj rfl 217 _ _ rfl E 0 (entC ⟨nm,kd,zid⟩) rfl rfl 34 HCL0.out HTH0.out hi34 HON0.out ?_
    simp only [Act.put,nz]
    generalize w4.setCells E 0 (entC ⟨nm,kd,zid⟩) = w5 at T5 HE5
    go_wp2_with fail
    go_meet
    exact ⟨E,rfl,hE1,ah hNE,T5,HE5⟩
  obtain ⟨E,rfl,hE1,HNE,T5,HE5⟩:=hcut
  have hNE:=HNE.out
  obtain ⟨w5,rfl⟩:∃ w5,w5 = wc:=⟨_,rfl⟩
  have hEr:E ≠ rb:=by omega
  have hEb:E ≠ b:=by omega
  have hBE:B ≤ E:=by omega
  have c5:w5.cell? ⟨b,0,none⟩ = some (.pointer (some ⟨rb,0,none⟩)):=T5.out.f.cell 0 (by omega)
  clear HNEW HAL T1 HN HT hbt
  go_wp2_with fail
  refine (HI.out _ T5.out.a).mono ?_
  rintro e w6 ⟨rfl,hA6,hg6⟩
  have T6:=ah (T5.out.read hA6 hg6 hne hrb hrl)
  have HE6:=ah (HE5.out.grown hg6 hEr)
  have hdl:(idC d).length = 32:=by rw [au,HIL.out]
  have T7:=ah (T6.out.sets (idC d) 2 hEr hEb hNE hBE)
  have hE7:=(HE6.out.setCells 2 (idC d) (by omega)).congr (fun k hk => JV nm kd d HIL.out k hk)
  have hth:w6.there E 2 32:=fun j hj => ⟨by rw [HE6.out.cell _ (by omega)];rfl,HE6.out.free _ (by omega)⟩
  have hrg:=hE7.range
  rw [Fb ⟨nm,kd,d⟩ HIL.out] at hrg
  have hel34:(entC ⟨nm,kd,d⟩).length = 34:=by simp [entC,au,HIL.out]
  have h34:(prog.info? 217).map (·.size) = some (entC ⟨nm,kd,d⟩).length:=by rw [hel34,hi];exact congrArg some hz1
  have HOC:=ah (tY ⟨nm,kd,d⟩)
  have HSN:=ah (BL es ⟨nm,kd,d⟩)
  have HTH:=ah hth
  have HDO:=ah (aM d)
  have HDL:=ah hdl
  have h32:(prog.info? 42).map (·.size) = some 32:=by kernel_rfl
  generalize entC ⟨nm,kd,d⟩ = cs at hrg hel34 h34 HOC HSN
  have HSZC:Hid (∀ w,(sizeOf 217).run prog w = .ok cs.length w):=ah (fun w => by rw [hel34];kernel_rfl)
  have HEL34:=ah hel34
  have HPC:=ah (show 0 < cs.length by rw [hel34];omega)
  have HLC:=ah (show cs.length ≤ 1000 by rw [hel34];omega)
  have hdv:idV d = .agg (idC d).toArray:=rfl
  rw [hdv]
  clear hdv hel34 hth hdl hE7 hA6 hg6 c5
  generalize hus:idC d = us at T7 HDL HDO hrg
  clear hus
  have f7:=T7.out.f.cell 1 (by omega)
  have f7f:=T7.out.f.free 1 (by omega)
  obtain ⟨w7,hw7⟩:∃ w7,w6.setCells E 2 us = w7:=⟨_,rfl⟩
  rw [hw7] at T7 hrg f7 f7f
  have HW7:=ah hw7
  have HRG:=ah hrg
  clear hw7
  have hs7:E < w7.heap.size:=World.block_lt_of_cell? w7 ⟨E,0,none⟩ (hrg 0 (cs[0]'(by have:=HPC.out;omega)) (by simp))
  go_wp2_with (refine aj rfl 42 _ _ rfl E 2 us rfl rfl 32 HDL.out HTH.out h32 HDO.out ?_)
  simp only [Act.put,nz]
  rw [HW7.out]
  have T7D:=ah (T7.out.below (Below.refl _ _).drew (by omega) hrb)
  have HS7:w7.drew.cell? ⟨b,1,none⟩ = some (.slice co es.length cc) ∧ w7.drew.rangeAt E 0 cs:=⟨f7,HRG.out⟩
  refine wrL 10 (fun w' => w'.cell? ⟨b,1,none⟩ = some (.slice co es.length cc) ∧ w'.rangeAt E 0 cs) ?_
  refine WL.tk 0 HS7 ?_
  refine WL.tk 1 HS7 ?_
  refine WL.tk 2 HS7 ?_
  refine WL.tk 3 HS7 ?_
  refine WL.tk 4 HS7 ?_
  refine WL.tk 5 HS7 ?_ (hy:=(fun w' hSw => aK 217 _ (hSw.2) underlying217 rfl h34 _ rfl rfl))
  refine WL.on 6 ?_
  refine av rfl (.tmp 32) 137 217 rfl cs zs rfl underlying137 HSZC.out hzv HPC.out HLC.out ?_
  simp only [Act.put,nz]
  have hown0:=T7D.out.o.lt
  have hs7D:w7.drew.heap.size = w7.heap.size:=rfl
  have hNE7:(Value.slice co es.length cc).ownBlock ≠ some E:=by
   rcases hNE with h | h
   ·rw [h];simp
   exact h
  have T8a:=T7D.out.a.alloc (by omega) (.cells cs.toArray 217)
  have T8f:=T7D.out.f.alloc (by omega) (.cells cs.toArray 217)
  have T8o:=T7D.out.o.alloc (.cells cs.toArray 217)
  have T8b:=T7D.out.bl.alloc (by have:=T7D.out.lt;omega) (.cells cs.toArray 217)
  have S8:(w7.drew.alloc (.cells cs.toArray 217)).cell? ⟨b,1,none⟩ = some (.slice co es.length cc) ∧ (w7.drew.alloc (.cells cs.toArray 217)).rangeAt E 0 cs :=
   ⟨T8f.cell 1 (by omega),aF HRG.out ((Below.refl w7.heap.size w7).drew.alloc (Nat.le_refl _) _) hs7⟩
  refine ⟨S8,?_⟩
  refine WL.on 7 ?_
  refine wpList_append_own _ rfl (.tmp 31) (.tmp 33) 137 rfl w.heap.size 217 i0 (.agg zs) 34 56 underlying137 hi hz0 hz1 hz2 HZL.out (by decide) _ es.length (l6 es) rfl T8o ⟨w7.heap.size,0,none⟩ 1 1 cs rfl HEL34.out (fun j u hj => mQ _ cs _ j u hj) HOC.out (by unfold maxLen;omega) (by omega) (by rw [World.size_alloc,hs7D];omega) ?_
  intro v' w9 hown9 hg9 _
  obtain ⟨co9,cc9,rfl⟩:=aG hown9
  have T9a:=T8a.mJ hg9 (fun e => by have:=(hown0 _ e).1;omega)
  have T9f:=T8f.mJ hg9 (fun e => by have:=(hown0 _ e).1;omega)
  have T9b:=T8b.grown hg9 (by have:=T8b.size;rw [World.size_alloc,hs7D];have:=T7D.out.bl.size;omega) (fun j hj => by have:=(hown0 j hj).1;omega)
  have S9:w9.cell? ⟨b,1,none⟩ = some (.slice co es.length cc) ∧ w9.rangeAt E 0 cs:=⟨T9f.cell 1 (by omega),gP S8.2 hg9 hNE7⟩
  have HNE9:=ah (own_ne hown9 hbl)
  simp only [Act.put,nz]
  refine ⟨S9,?_⟩
  refine WL.tk 8 S9 ?_
  refine WL.tk 9 S9 ?_
  refine WL.la 10 ?_
  rw [← HSN.out] at hown9
  have f9:=T9f.free 1 (by omega)
  have g9:=T9f.cell 1 (by omega)
  have HO9:=ah hown9
  have HA9:=ah T9a
  have HF9:=ah T9f
  have HB9:=ah T9b
  clear T8a T8f T8o T8b S8 hown0 hs7D hNE7 hown9 hg9 T9a T9f T9b S9 HS7 f7 f7f
  go_wp2
  have hrs':r.s.size = s.size:=by rw [hrs.out]
  have hpos:=hf.out.pos
  go_roundw
  case rel =>
   refine ⟨r',es ++ [⟨nm,kd,d⟩],f - 1,.slice co9 (es.length + 1) cc9,HA9.out.far (p:=⟨b,1,none⟩) (by show b ≠ rb;omega) _,HEF.out,HE4.out,HES.out.trans hrs.out,ah (HST.out.symm.trans hN.out),fun h0 => ?_,fun e he => ?_,by simp;omega,(HF9.out.set 1 (by omega) _).congr (KN _ _ _),by rw [List.length_append];exact fO HO9.out HNE9.out,HB9.out.setCell (p:=⟨b,1,none⟩) hbb _⟩
   ·obtain ⟨_,_,q3,_⟩:=HECN.out h0
    rw [HES.out,List.length_append,List.length_singleton]
    omega
   rcases List.mem_append.1 he with h | h
   ·exact hid.out e h
   rw [List.mem_singleton.1 h];exact HIL.out
  rw [zF (HA9.out.far (p:=⟨b,1,none⟩) (by show b ≠ rb;omega) _),HLM.out,if_pos HE0.out];exact hel.out
 have hm2:r.more = false:=by simpa using hm
 have hst:(rd0 s).iR (s.size + 1) [] = (r,es):=by rw [← hN.out];exact E8 r f es hm2
 rw [Rd.zQ] at hst
 have e1:(mo s).1 = r:=congrArg Prod.fst hst
 have e2:(mo s).2 = es:=congrArg Prod.snd hst
 have HTO:Hid (dz s = if r.fin = 0 ∧ gW es = true then some es else none):=by unfold Hid dz;rw [e1,e2]
 have hf5:r.fin ≠ 5:=by rw [hm2] at hmo;exact of_decide_eq_false hmo.symm
 have d5:((r.fin:Int) == 5) = false:=by rw [beq_eq_false_iff_ne];omega
 have T:=ah (show TS B rb b 2 w.heap.size 217 34 w r.c (twoF (.pointer (some ⟨rb,0,none⟩)) (.slice co es.length cc)) (.slice co es.length cc) es.length (l6 es) wo from ⟨hA,hA2,hown,hbw⟩)
 have HW:=ah (fun W (hA:Arr W rb 3 r.c) => iD rb r W hA hf.out)
 have HER:Hid (∀ W,W.ownsRow w.heap.size 217 34 (.slice co es.length cc) es.length (l6 es) → fD W (.slice co es.length cc) es):=ah (fun W h => aS.bZ (B:=w.heap.size) (e:=217) (sz:=34) (rows:=es.map entC) (fun r hr => by
   obtain ⟨e,he,rfl⟩:=List.mem_map.1 hr
   simp [entC,au,hid.out e he]) (by rw [List.length_map];exact h))
 have HSM:Hid (r.err = 0 → ∀ e ∈ es,e.name.size ≤ 1000000 ∧ e.kind ≤ 2 ∧ e.id.length = 32):=ah (fun h0 e he => by
  have e0:(mo s).1.err = 0:=by rw [e1];exact h0
  have hsm:=Rd.tV (s.size + 1) (rd0 s) (dO s (by omega)) e0
  have e3:((rd0 s).ents (s.size + 1)).2 = es:=e2
  rw [e3] at hsm
  have:=hsm e he
  exact ⟨by omega,by omega,hid.out e he⟩)
 have HF0:Hid (r.fin = 0 → r.err = 0):=ah (fun h => (Rd.Iq r h).1)
 have hbo:b < wo.heap.size:=T.out.ltb (by omega)
 clear hst hN hA hA2 hown hbw hm hm2 hmo HEND hfu hid
 generalize r.fin = n at d5 hf5 HTO HW HF0
 by_cases h0:n = 0
 ·have HF:=ah (HF0.out h0)
  have d0:((n:Int) == 0) = true:=by rw [beq_iff_eq];omega
  have HOE:=ah (fun W (h:fD W (.slice co es.length cc) es) => xE _ es W h (HSM.out HF.out))
  have HTR:Hid (dz s = if gW es = true then some es else none):=by
   unfold Hid;rw [HTO.out]
   by_cases ht:gW es = true
   ·rw [if_pos ⟨h0,ht⟩,if_pos ht]
   rw [if_neg (fun h => ht h.2),if_neg ht]
  clear h0 HTO HF0
  generalize gW es = ok at HOE HTR
  go_wp2_with fail
  refine (HW.out _ T.out.a).mono ?_
  rintro e w1 ⟨rfl,hb1⟩
  have T1:=ah (T.out.below hb1 (by omega) hrb)
  have c1:w1.cell? ⟨b,0,none⟩ = some (.pointer (some ⟨rb,0,none⟩)):=T1.out.f.cell 0 (by omega)
  clear hb1 c0
  go_wp2_with fail
  refine (HW.out _ T1.out.a).mono ?_
  rintro e w2 ⟨rfl,hb2⟩
  have T2:=ah (T1.out.below hb2 (by omega) hrb)
  have c2:w2.cell? ⟨b,1,none⟩ = some (.slice co es.length cc):=T2.out.f.cell 1 (by omega)
  have hER:=ah (HER.out w2 T2.out.o)
  clear hb2 c1
  go_wp2_with fail
  refine (HOE.out w2 hER.out).mono ?_
  rintro e w3 ⟨rfl,hb3⟩
  have T3:=ah (T2.out.below hb3 (by omega) hrb)
  have c3:w3.cell? ⟨b,1,none⟩ = some (.slice co es.length cc):=T3.out.f.cell 1 (by omega)
  clear hb3
  go_wp2
  go_ret
  rw [HTR.out]
  cases ok with
  | false => exact ⟨rfl,⟨_,c3,fun g hg => (T3.out.o.lt g hg).1,fun h => by cases h⟩,T3.out.bl⟩
  | true => exact ⟨rfl,⟨_,c3,fun g hg => (T3.out.o.lt g hg).1,fun _ => HER.out _ T3.out.o⟩,T3.out.bl⟩
 have d0:((n:Int) == 0) = false:=by rw [beq_eq_false_iff_ne];omega
 have HR:Hid (dz s = none):=by unfold Hid;rw [HTO.out,if_neg (fun h => h0 h.1)]
 go_wp2_with fail
 refine (HW.out _ T.out.a).mono ?_
 rintro e w1 ⟨rfl,hb1⟩
 have T1:=ah (T.out.below hb1 (by omega) hrb)
 have c1:w1.cell? ⟨b,0,none⟩ = some (.pointer (some ⟨rb,0,none⟩)):=T1.out.f.cell 0 (by omega)
 clear hb1 c0
 go_wp2_with fail
 refine (HW.out _ T1.out.a).mono ?_
 rintro e w2 ⟨rfl,hb2⟩
 have T2:=ah (T1.out.below hb2 (by omega) hrb)
 have c2:w2.cell? ⟨b,1,none⟩ = some (.slice co es.length cc):=T2.out.f.cell 1 (by omega)
 go_wp2
 go_ret
 exact ⟨by rw [HR.out];rfl,⟨_,c2,fun g hg => (T2.out.o.lt g hg).1,fun h => by rw [HR.out] at h;cases h⟩,T2.out.bl⟩
def gq (rb:Nat) (t:List UInt8) (v:Value) (x:ByteArray) (k:Nat):Value:=if k = 0 then .pointer (some ⟨rb,0,none⟩) else if k = 1 then .slice none 0 0 else cmF t v x (k - 2)
theorem fU (rb:Nat) (t:List UInt8) (v:Value) (x:ByteArray) {k:Nat} (h:2 ≤ k):gq rb t v x k = cmF t v x (k - 2):=by unfold gq;rw [if_neg (by omega),if_neg (by omega)]
theorem Ka {rb:Nat} {t d:List UInt8} (h:t.length = 32) (hd:d.length = 32) (v:Value) (x:ByteArray):∀ k,k < 36 → (if 2 ≤ k ∧ k < 2 + (idC d).length then (idC d).getD (k - 2) undef else gq rb t v x k) = gq rb d v x k:=by
 intro k hk
 have hl:(idC d).length = 32:=by rw [au,hd]
 by_cases h2:2 ≤ k
 ·rw [fU rb t v x h2,fU rb d v x h2]
  have:=L9 h hd v x (k - 2) (by omega)
  rw [← this]
  by_cases h3:k < 2 + (idC d).length
  ·rw [if_pos ⟨h2,h3⟩,if_pos ⟨by omega,by omega⟩];rfl
  rw [if_neg (fun h => h3 h.2),if_neg (fun h => h3 (by omega))]
 rw [if_neg (fun h => h2 h.1)]
 obtain h0 | h0:k = 0 ∨ k = 1:=by omega
 all_goals subst h0;rfl
theorem J9 {rb:Nat} {t:List UInt8} (h:t.length = 32) (v u:Value) (x:ByteArray):∀ k,k < 36 → upd (gq rb t v x) 34 u k = gq rb t u x k:=by
 intro k hk
 by_cases h2:2 ≤ k
 ·have:=L8 h v u x (k - 2) (by omega)
  rw [fU rb t u x h2,← this]
  unfold upd
  by_cases h3:k = 34
  ·subst h3;simp
  rw [if_neg h3,if_neg (show ¬ k - 2 = 32 by omega),fU rb t v x h2]
 obtain h0 | h0:k = 0 ∨ k = 1:=by omega
 all_goals subst h0;rfl
theorem J8 {rb:Nat} {t:List UInt8} (h:t.length = 32) (v:Value) (x y:ByteArray):∀ k,k < 36 → upd (gq rb t v x) 35 (.string y) k = gq rb t v y k:=by
 intro k hk
 by_cases h2:2 ≤ k
 ·have:=LZ h v x y (k - 2) (by omega)
  rw [fU rb t v y h2,← this]
  unfold upd
  by_cases h3:k = 35
  ·subst h3;simp
  rw [if_neg h3,if_neg (show ¬ k - 2 = 33 by omega),fU rb t v x h2]
 obtain h0 | h0:k = 0 ∨ k = 1:=by omega
 all_goals subst h0;rfl
theorem oq {t:List UInt8} (rb:Nat) (h:t.length = 32) (v:Value) (x:ByteArray):gq rb t v x 34 = v:=by rw [fU rb t v x (by omega)];exact mO h v x
theorem wL {w:World} {b rb:Nat} {t:List UInt8} {v:Value} {x:ByteArray} (h:t.length = 32) (hA:Arr w b 36 (gq rb t v x)):w.rangeAt b 2 (cmC t v x):=by
 intro j u hu
 have hj:j < 34:=by
  have:=(List.getElem?_eq_some_iff.1 hu).1
  rwa [jP _ _ _ h] at this
 rw [hA.cell (2 + j) (by omega),fU rb t v x (by omega),Nat.add_sub_cancel_left]
 have e:=IW h v x
 rw [← e,List.getElem?_map,List.getElem?_range hj] at hu
 exact hu
theorem oI {P:Program} {ops:Array Oper} {rest:List Oper} {op:Oper} {a:Act} {w:World} {Q:Exit → Act → World → Prop} (hw:Region.wanted op (yielded ops a.tmps) = true) (ty:TypeId) (x:Operand) (ho:op.op = .load ty x)
  (b o:Nat) (hx:a.eval x = .pointer (some ⟨b,o,none⟩)) (cs:List Value) (d:TypeDesc) (hc:w.rangeAt b o cs) (hu:P.underlying ty = some d) (hd:d.isRow = true) (hi:(P.info? ty).map (·.size) = some cs.length)
  (h:wpList P ops Q rest (a.put op.dst (.agg cs.toArray)) w):wpList P ops Q (op :: rest) a w:=by
 simp only [wpList]
 rw [if_pos hw]
 exact .inl (wp_load_mid ty x ho b o hx cs d hc hu hd hi h)
theorem Jw {w:World} {B:Nat} {e:TypeId} {sz:Nat} {v:Value} {n:Nat} {xs:List Value} (h:w.ownsRow B e sz v n xs):CapI v:=by
 intro ao m c hv
 rcases h.2 with ⟨h1,_⟩ | ⟨g,cap,cur,h1,_,_,h4,_⟩
 ·rw [h1] at hv;cases hv;exact Nat.le_refl _
 rw [h1] at hv;cases hv;exact h4
theorem qI (B rb b:Nat) (s:ByteArray) (w:World) (hr:Arr w rb 3 (rd0 s).c) (hb:Arr w b 36 (gq rb zid (.slice none 0 0) ⟨#[]⟩)) (hrb:B ≤ rb) (hbb:B ≤ b) (hne:rb ≠ b) (hs:s.size ≤ 100000) :
  Calls prog 243 #[.pointer (some ⟨b,0,none⟩)] w fun e w' => e = .returned (.bool (bH s).isSome) ∧ ((bH s).isSome = true → (∃ t v l x,bH s = some (t,l,x) ∧ w'.rangeAt b 2 (cmC t v x) ∧ kY w v ∧ bB w' v l) ∧ w'.cell? ⟨b,1,none⟩ = some (.slice none 0 0)) ∧ Below B w w':=by
 obtain ⟨zi,i0,hi,hz0,hz1,hz2,hziv,hzil⟩:=dH
 have HZI:=ah hzil
 clear hzil
 have hrl:=hr.lt (by omega)
 have hbl:=hb.lt (by omega)
 have c0:w.cell? ⟨b,0,none⟩ = some (.pointer (some ⟨rb,0,none⟩)):=hb.cell 0 (by omega)
 have HC:=ah hb
 have hfd:=ah (dO s (show s.size ≤ 1000000 by omega))
 have HID:=ah (qJ rb (rd0 s) w hr hfd.out)
 have hf0:=ah ((rd0 s).qP hfd.out)
 have HTL:Hid ((rd0 s).id.2.length = 32):=ah (gU _)
 have HCM:Hid ((rd0 s).commit = ((((((rd0 s).id.1.num 4).1.ids ((rd0 s).id.1.num 4).2).1.text 64).1,(rd0 s).id.2,(((rd0 s).id.1.num 4).1.ids ((rd0 s).id.1.num 4).2).2,((((rd0 s).id.1.num 4).1.ids ((rd0 s).id.1.num 4).2).1.text 64).2))):=ah rfl
 have HCO:Hid (bH s = if (rd0 s).commit.1.fin = 0 ∧ dw (rd0 s).commit.2 = true then some (rd0 s).commit.2 else none):=ah rfl
 have HCF:=ah ((rd0 s).Aa hfd.out)
 generalize (rd0 s).commit = cm at HCM HCO HCF
 generalize (rd0 s).id = x0 at HID hf0 HTL HCM
 obtain ⟨r0,t⟩:=x0
 dsimp only at HID hf0 HTL HCM
 clear hr hb
 go_enter func243,ntmps243
 go_wp2_with fail
 refine HID.out.mono ?_
 rintro e w1 ⟨rfl,hB1,hg1⟩
 have hdl:(idC t).length = 32:=by rw [au,HTL.out]
 have hC1:=HC.out.grown hg1 (by omega)
 have hth:w1.there b 2 32:=fun j hj => ⟨by rw [hC1.cell _ (by omega)];rfl,hC1.free _ (by omega)⟩
 have HTH:=ah hth
 have HB1:=ah (hB1.iQ (B:=b) (by omega) (idC t) 2)
 have HC1:=ah ((hC1.setCells 2 (idC t) (by omega)).congr (Ka aV HTL.out _ _))
 have HBL1:=ah (below_setCells (B:=B) (a:=w) b hbb (idC t) 2 w1 ((Below.refl B w).grown hg1 (by omega) (fun k hk => by cases hk;omega)))
 have HDL:=ah hdl
 have HDO:=ah (aM t)
 have h32:(prog.info? 42).map (·.size) = some 32:=by kernel_rfl
 clear hB1 hC1 hg1 hth hdl HC HID c0
 have hdv:idV t = .agg (idC t).toArray:=rfl
 rw [hdv]
 clear hdv
 generalize hus:idC t = us at HB1 HC1 HBL1 HDL HDO
 clear hus
 have HT1:=ah (show TS B rb b 36 w.heap.size 42 32 w r0.c (gq rb t (.slice none 0 0) ⟨#[]⟩) (.slice none 0 0) 0 (idsF []) (w1.setCells b 2 us) from ⟨HB1.out,HC1.out,World.ownsRow_nil _ _ _ _,HBL1.out⟩)
 clear HB1 HC1 HBL1
 have c2:(w1.setCells b 2 us).cell? ⟨b,0,none⟩ = some (.pointer (some ⟨rb,0,none⟩)):=HT1.out.f.cell 0 (by omega)
 have HNU:=ah (fun W (hA:Arr W rb 3 r0.c) => kr rb r0 4 W hA hf0.out (by omega))
 have hnf:=ah (Rd.cu r0 4 hf0.out)
 generalize r0.num 4 = x1 at HNU hnf HCM
 obtain ⟨r1,n⟩:=x1
 dsimp only at HNU hnf HCM
 have hn4:n ≤ 4:=hnf.out.2
 have hf1:=ah hnf.out.1
 go_wp2_with (refine aj rfl 42 _ _ rfl b 2 us rfl rfl 32 HDL.out HTH.out h32 HDO.out ?_)
 refine (HNU.out _ HT1.out.a).mono ?_
 rintro e w3 ⟨rfl,hA3,hg3⟩
 have HT3:=ah (HT1.out.read hA3 hg3 hne hrb hrl)
 clear hA3 hg3 HT1 HNU hnf c2 HTH
 go_wp2
 have HL:Hid (∀ k,((r1.ids k).2).length = k):=ah (fun k => Rd.CK k r1)
 go_loopw [17] (fun i wr => ∃ (k:Nat) (v:Value),k ≤ n ∧ i = .int .i64 k ∧ Hid (TS B rb b 36 w.heap.size 42 32 w (r1.ids k).1.c (gq rb t v ⟨#[]⟩) v k (idsF (r1.ids k).2) wr)) (fun i _ => (n - intOf i).toNat)
 case atStart => exact ⟨0,.slice none 0 0,by omega,rfl,HT3⟩
 obtain ⟨wo,rfl⟩:∃ wo:World,wo = wr:=⟨_,rfl⟩
 obtain ⟨k,v,hk,rfl,T⟩:=hrel
 obtain ⟨co,cc,rfl⟩:=aG T.out.o
 by_cases hlt:k < n
 ·have d1:decide ((k:Int) < n) = true:=decide_eq_true (by omega)
  have d2:decide (k < n) = true:=decide_eq_true hlt
  have TD:=ah (T.out.below (Below.refl _ _).drew (by omega) hrb)
  have hS0:wo.drew.cell? ⟨b,0,none⟩ = some (.pointer (some ⟨rb,0,none⟩)) ∧ wo.drew.cell? ⟨b,34,none⟩ = some (.slice co k cc) :=
   ⟨TD.out.f.cell 0 (by omega),by rw [TD.out.f.cell 34 (by omega),oq rb HTL.out]⟩
  have HI:=ah (qJ rb (r1.ids k).1 wo.drew TD.out.a (Rd.kP k r1 hf1.out))
  have HSN:=ah (Rd.zH k r1)
  clear T
  go_wp2
  refine wrL 16 (fun w' => w'.cell? ⟨b,0,none⟩ = some (.pointer (some ⟨rb,0,none⟩)) ∧ w'.cell? ⟨b,34,none⟩ = some (.slice co k cc)) ?_
  refine WL.tk 0 hS0 ?_
  refine WL.tk 1 hS0 ?_
  refine WL.tk 2 hS0 ?_
  refine WL.tk 3 hS0 ?_
  refine WL.tk 4 hS0 ?_
  refine WL.tk 5 hS0 ?_
  refine WL.tk 6 hS0 ?_
  refine WL.tk 7 hS0 ?_
  refine WL.tk 8 hS0 ?_
  refine WL.tk 9 hS0 ?_
  refine WL.on 10 ?_
  go_wp2_with fail
  refine HI.out.mono ?_
  rintro e w3 ⟨rfl,hA3,hg3⟩
  have T3:=ah (TD.out.read hA3 hg3 hne hrb hrl)
  have hS3:w3.cell? ⟨b,0,none⟩ = some (.pointer (some ⟨rb,0,none⟩)) ∧ w3.cell? ⟨b,34,none⟩ = some (.slice co k cc) :=
   ⟨T3.out.f.cell 0 (by omega),by rw [T3.out.f.cell 34 (by omega),oq rb HTL.out]⟩
  have HS3:=ah hS3
  have hdk:(idC (r1.ids k).1.id.2).length = 32:=by rw [au];exact gU _
  have hone:=aM (r1.ids k).1.id.2
  have hdv:idV (r1.ids k).1.id.2 = .agg (idC (r1.ids k).1.id.2).toArray:=rfl
  rw [hdv]
  clear hdv
  have HUK:Hid (idsF (r1.ids (k + 1)).2 = idsF (r1.ids k).2 ++ idC (r1.ids k).1.id.2):=by unfold Hid;rw [HSN.out];exact lG _ _
  have HRK:Hid ((r1.ids (k + 1)).1 = (r1.ids k).1.id.1):=by unfold Hid;rw [HSN.out]
  clear hA3 hg3 hS3 HI HSN TD hS0
  generalize idC (r1.ids k).1.id.2 = uk at hdk hone HUK
  have HDK:=ah hdk
  have HON2:=ah hone
  have HSZC:Hid (∀ w,(sizeOf 42).run prog w = .ok uk.length w):=ah (fun w => by rw [HDK.out];kernel_rfl)
  clear hdk hone
  go_wp2
  refine ⟨HS3.out,?_⟩
  refine WL.on 11 ?_
  refine av rfl (.tmp 29) 44 42 rfl uk zi rfl underlying44 HSZC.out hziv (by rw [HDK.out];omega) (by rw [HDK.out];omega) ?_
  simp only [Act.put,nz]
  have hlt3:=T3.out.lt
  have hown0:=T3.out.o.lt
  have T8a:=T3.out.a.alloc (by omega) (.cells uk.toArray 42)
  have T8f:=T3.out.f.alloc (by omega) (.cells uk.toArray 42)
  have T8o:=T3.out.o.alloc (.cells uk.toArray 42)
  have T8b:=T3.out.bl.alloc (by have:=T3.out.lt;omega) (.cells uk.toArray 42)
  have S8:(w3.alloc (.cells uk.toArray 42)).cell? ⟨b,0,none⟩ = some (.pointer (some ⟨rb,0,none⟩)) ∧ (w3.alloc (.cells uk.toArray 42)).cell? ⟨b,34,none⟩ = some (.slice co k cc) :=
   ⟨T8f.cell 0 (by omega),by rw [T8f.cell 34 (by omega),oq rb HTL.out]⟩
  refine ⟨S8,?_⟩
  refine WL.on 12 ?_
  refine wpList_append_own _ rfl (.tmp 24) (.tmp 30) 44 rfl w.heap.size 42 i0 (.agg zi) 32 32 underlying44 hi hz0 hz1 hz2 HZI.out (by decide) _ k (idsF (r1.ids k).2) rfl T8o ⟨w3.heap.size,0,none⟩ 1 1 uk rfl HDK.out (fun j u hj => mQ _ uk _ j u hj) HON2.out (by unfold maxLen;omega) (by omega) (by rw [World.size_alloc];have:=T3.out.bl.size;omega) ?_
  intro v' w5 hown5 hg5 _
  obtain ⟨co5,cc5,rfl⟩:=aG hown5
  have T5a:=T8a.mJ hg5 (fun e => by have:=(hown0 _ e).1;omega)
  have T5f:=T8f.mJ hg5 (fun e => by have:=(hown0 _ e).1;omega)
  have T5b:=T8b.grown hg5 (by rw [World.size_alloc];have:=T3.out.lt;omega) (fun j hj => by have:=(hown0 j hj).1;omega)
  have S5:w5.cell? ⟨b,0,none⟩ = some (.pointer (some ⟨rb,0,none⟩)) ∧ w5.cell? ⟨b,34,none⟩ = some (.slice co k cc) :=
   ⟨T5f.cell 0 (by omega),by rw [T5f.cell 34 (by omega),oq rb HTL.out]⟩
  have HNE5:=ah (own_ne hown5 hbl)
  have f5:=T5f.free 34 (by omega)
  have HA5:=ah T5a
  have HF5:=ah T5f
  have HB5:=ah T5b
  have HO5:=ah hown5
  have HS5:=ah S5
  simp only [Act.put,nz]
  refine ⟨S5,?_⟩
  clear T8a T8f T8o T8b S8 hown0 hown5 hg5 T5a T5f T5b S5 hlt3
  have S5:=HS5.out
  refine WL.tk 13 S5 ?_
  refine WL.tk 14 S5 ?_
  refine WL.tk 15 S5 ?_
  refine WL.la 16 ?_
  have g5:=S5.2
  clear S5
  go_wp2
  go_roundw
  case rel =>
   refine ⟨k + 1,.slice co5 (k + 1) cc5,by omega,by go_num,ah ⟨?_,(HF5.out.set 34 (by omega) _).congr (J9 HTL.out _ _ _),?_,HB5.out.setCell (p:=⟨b,34,none⟩) hbb _⟩⟩
   ·rw [HRK.out];exact HA5.out.far (p:=⟨b,34,none⟩) (by show b ≠ rb;omega) _
   rw [HUK.out];exact fO HO5.out HNE5.out
  case measure => simp [intOf];omega
 obtain rfl:k = n:=by omega
 have d1:decide ((k:Int) < k) = false:=decide_eq_false (by omega)
 have hft:=ah (Rd.bX _ 64 (Rd.kP k r1 hf1.out))
 have HT:=ah (jk rb (r1.ids k).1 64 wo T.out.a (Rd.kP k r1 hf1.out) (by omega))
 have hidl:=ah (Rd.xP k r1)
 have hil:=HL.out k
 have c0:wo.cell? ⟨b,0,none⟩ = some (.pointer (some ⟨rb,0,none⟩)):=T.out.f.cell 0 (by omega)
 generalize hir:r1.ids k = x2 at HT HCM hft hidl hil T
 obtain ⟨r2,l⟩:=x2
 dsimp only at HT HCM hft hidl hil T
 clear hir
 generalize r2.text 64 = x3 at HT HCM hft
 obtain ⟨r3,x⟩:=x3
 dsimp only at HT HCM hft
 obtain rfl:cm = (r3,t,l,x):=HCM.out
 dsimp only at HCO HCF
 clear HCM hft
 have HIL:=ah hil
 clear hil
 go_wp2_with fail
 refine HT.out.mono ?_
 rintro e w3 ⟨rfl,hA3,hg3⟩
 have T3:=ah (T.out.read hA3 hg3 hne hrb hrl)
 have f35:=T3.out.f.free 35 (by omega)
 have c35:=T3.out.f.cell 35 (by omega)
 have T4:=ah (show TS B rb b 36 w.heap.size 42 32 w r3.c (gq rb t (.slice co k cc) x) (.slice co k cc) k (idsF l) (w3.setCell ⟨b,35,none⟩ (.string x)) from
  ⟨T3.out.a.far (p:=⟨b,35,none⟩) (by show b ≠ rb;omega) _,(T3.out.f.set 35 (by omega) _).congr (J8 HTL.out _ _ x),fO T3.out.o (own_ne T3.out.o hbl),T3.out.bl.setCell (p:=⟨b,35,none⟩) hbb _⟩)
 have c4:(w3.setCell ⟨b,35,none⟩ (.string x)).cell? ⟨b,0,none⟩ = some (.pointer (some ⟨rb,0,none⟩)):=T4.out.f.cell 0 (by omega)
 have HEND:=ah (fun W hA => iD rb r3 W hA HCF.out)
 clear hA3 hg3 T3 c0
 go_wp2_with fail
 refine (HEND.out _ T4.out.a).mono ?_
 rintro e w4 ⟨rfl,hb4⟩
 have T5:=ah (T4.out.below hb4 (by omega) hrb)
 clear hb4 c4 c35 f35 T4
 by_cases hfin:r3.fin = 0
 ·have d0:((r3.fin:Int) == 0) = true:=by rw [beq_iff_eq];omega
  have HTR:Hid (bH s = if dw (t,l,x) = true then some (t,l,x) else none):=by
   unfold Hid;rw [HCO.out]
   by_cases ht:dw (t,l,x) = true
   ·rw [if_pos ⟨hfin,ht⟩,if_pos ht]
   rw [if_neg (fun h => ht h.2),if_neg ht]
  have HROW:Hid (∀ W,W.ownsRow w.heap.size 42 32 (.slice co k cc) k (idsF l) → bB W (.slice co k cc) l):=ah (fun W h => aS.bZ (B:=w.heap.size) (e:=42) (sz:=32) (rows:=l.map idC) (fun r hr => by
   obtain ⟨y,hy,rfl⟩:=List.mem_map.1 hr
   rw [au];exact hidl.out y hy) (by rw [List.length_map,HIL.out];exact h))
  have hl4:l.length ≤ 4:=by rw [HIL.out];omega
  have HOC:=ah (fun W (h:W.ownsRow w.heap.size 42 32 (.slice co k cc) k (idsF l)) => zm t (.slice co k cc) l x W (HROW.out W h) HTL.out hidl.out (by omega) (Jw h))
  have hrg:=wL HTL.out T5.out.f
  have hlenC:(cmC t (.slice co k cc) x).length = 34:=jP _ _ _ HTL.out
  have h34c:(prog.info? 141).map (·.size) = some (cmC t (.slice co k cc) x).length:=by rw [hlenC];kernel_rfl
  have c5:w4.cell? ⟨b,0,none⟩ = some (.pointer (some ⟨rb,0,none⟩)):=T5.out.f.cell 0 (by omega)
  clear hfin HCO HCF hlenC hl4
  generalize dw (t,l,x) = ok at HTR HOC
  have HRG:=ah hrg
  clear hrg
  go_wp2_with (refine oI rfl 141 _ rfl b 2 rfl (cmC t (.slice co k cc) x) _ HRG.out underlying141 rfl h34c ?_)
  refine (HOC.out w4 T5.out.o).mono ?_
  rintro e w5 ⟨rfl,hb5⟩
  have T6:=ah (T5.out.below hb5 (by omega) hrb)
  clear hb5 c5
  go_wp2
  go_ret
  rw [HTR.out]
  cases ok with
  | false => exact ⟨rfl,fun h => (by cases h),T6.out.bl⟩
  | true => exact ⟨rfl,fun _ => ⟨⟨t,_,l,x,rfl,wL HTL.out T6.out.f,fun g hg => (T6.out.o.lt g hg).1,HROW.out _ T6.out.o⟩,T6.out.f.cell 1 (by omega)⟩,T6.out.bl⟩
 have d0:((r3.fin:Int) == 0) = false:=by rw [beq_eq_false_iff_ne];omega
 have HR:Hid (bH s = none):=by unfold Hid;rw [HCO.out,if_neg (fun h => hfin h.1)]
 clear hfin HCO HCF
 go_wp2
 go_ret
 rw [HR.out]
 exact ⟨rfl,fun h => (by cases h),T5.out.bl⟩
def oC (k:Int) (s:ByteArray) (w:World) (e:Ending) (w':World):Prop:=(∃ p,e = .returned (.tuple #[p,.bool (aB ⟨k,s⟩)]) ∧
 (aB ⟨k,s⟩ = true → k = 2 → ∃ b v,p = .pointer (some ⟨b,0,none⟩) ∧ b < w'.heap.size ∧ w'.cell? ⟨b,1,none⟩ = some v ∧ kY w v ∧ fD w' v ((dz s).getD [])) ∧
 (aB ⟨k,s⟩ = true → k = 3 → ∃ b t v l x,p = .pointer (some ⟨b,0,none⟩) ∧ b < w'.heap.size ∧ bH s = some (t,l,x) ∧ w'.rangeAt b 2 (cmC t v x) ∧ kY w v ∧ bB w' v l) ∧
 (aB ⟨k,s⟩ = true → k ≠ 2 → ∃ b,p = .pointer (some ⟨b,0,none⟩) ∧ w'.cell? ⟨b,1,none⟩ = some (.slice none 0 0))) ∧ Below w.heap.size w w'
theorem mD {k:Int} {s:ByteArray} {w w':World} (h:aB ⟨k,s⟩ = false) (p:Value) (hb:Below w.heap.size w w'):oC k s w (.returned (.tuple #[p,.bool false])) w' :=
 ⟨⟨p,by rw [h],fun h' => (by rw [h] at h';cases h'),fun h' => (by rw [h] at h';cases h'),fun h' => (by rw [h] at h';cases h')⟩,hb⟩
theorem y9 {s:ByteArray} {w w':World} {b:Nat} (h:aB ⟨1,s⟩ = true) (hc:w'.cell? ⟨b,1,none⟩ = some (.slice none 0 0)) (hb:Below w.heap.size w w'):oC 1 s w (.returned (.tuple #[.pointer (some ⟨b,0,none⟩),.bool true])) w' :=
 ⟨⟨_,by rw [h],fun _ h' => (by cases h'),fun _ h' => (by cases h'),fun _ _ => ⟨b,rfl,hc⟩⟩,hb⟩
theorem y8 {s:ByteArray} {w w':World} {b:Nat} {v:Value} (h:aB ⟨2,s⟩ = (dz s).isSome) (hv:w'.cell? ⟨b,1,none⟩ = some v) (hfr:kY w v) (h2:(dz s).isSome = true → fD w' v ((dz s).getD [])) (hb:Below w.heap.size w w') :
  oC 2 s w (.returned (.tuple #[.pointer (some ⟨b,0,none⟩),.bool (dz s).isSome])) w' :=
 ⟨⟨_,by rw [h],fun h' _ => ⟨b,v,rfl,World.block_lt_of_cell? w' _ hv,hv,hfr,h2 (by rw [← h];exact h')⟩,fun _ h' => (by cases h'),fun _ h' => absurd rfl h'⟩,hb⟩
theorem uS {s:ByteArray} {w w':World} {b:Nat} (h:aB ⟨3,s⟩ = (bH s).isSome) (hl:b < w'.heap.size) (h2:(bH s).isSome = true → (∃ t v l x,bH s = some (t,l,x) ∧ w'.rangeAt b 2 (cmC t v x) ∧ kY w v ∧ bB w' v l) ∧ w'.cell? ⟨b,1,none⟩ = some (.slice none 0 0)) (hb:Below w.heap.size w w') :
  oC 3 s w (.returned (.tuple #[.pointer (some ⟨b,0,none⟩),.bool (bH s).isSome])) w':=by
 refine ⟨⟨_,by rw [h],fun _ h' => (by cases h'),fun h' _ => ?_,fun h' _ => ⟨b,rfl,(h2 (by rw [← h];exact h')).2⟩⟩,hb⟩
 obtain ⟨⟨t,v,l,x,q1,q2,q2b,q3⟩,_⟩:=h2 (by rw [← h];exact h')
 exact ⟨b,t,v,l,x,rfl,hl,q1,q2,q2b,q3⟩
theorem BZ (rb:Nat):(Value.pointer (some ⟨rb,0,none⟩) :: .slice none 0 0 :: (cmC zid (.slice none 0 0) ⟨#[]⟩)).toArray = #[.pointer (some ⟨rb,0,none⟩),.slice none 0 0,.int .u8 0,.int .u8 0,.int .u8 0,.int .u8 0,.int .u8 0,.int .u8 0,.int .u8 0,.int .u8 0,.int .u8 0,.int .u8 0,.int .u8 0,.int .u8 0,.int .u8 0,.int .u8 0,.int .u8 0,.int .u8 0,.int .u8 0,.int .u8 0,.int .u8 0,.int .u8 0,.int .u8 0,.int .u8 0,.int .u8 0,.int .u8 0,.int .u8 0,.int .u8 0,.int .u8 0,.int .u8 0,.int .u8 0,.int .u8 0,.int .u8 0,.int .u8 0,.slice none 0 0,.string ⟨#[]⟩]:=by kernel_rfl
theorem Ad (w:World) (rb:Nat) (e:TypeId):Arr (w.alloc (.cells #[.pointer (some ⟨rb,0,none⟩),.slice none 0 0,.int .u8 0,.int .u8 0,.int .u8 0,.int .u8 0,.int .u8 0,.int .u8 0,.int .u8 0,.int .u8 0,.int .u8 0,.int .u8 0,.int .u8 0,.int .u8 0,.int .u8 0,.int .u8 0,.int .u8 0,.int .u8 0,.int .u8 0,.int .u8 0,.int .u8 0,.int .u8 0,.int .u8 0,.int .u8 0,.int .u8 0,.int .u8 0,.int .u8 0,.int .u8 0,.int .u8 0,.int .u8 0,.int .u8 0,.int .u8 0,.int .u8 0,.int .u8 0,.slice none 0 0,.string ⟨#[]⟩] e)) w.heap.size 36 (gq rb zid (.slice none 0 0) ⟨#[]⟩):=by
 rw [← BZ]
 have h:=Arr.ofList w (Value.pointer (some ⟨rb,0,none⟩) :: .slice none 0 0 :: (cmC zid (.slice none 0 0) ⟨#[]⟩)) e
 have hl:(Value.pointer (some ⟨rb,0,none⟩) :: .slice none 0 0 :: (cmC zid (.slice none 0 0) ⟨#[]⟩)).length = 36:=by
  simp only [List.length_cons,jP _ _ _ aV]
 rw [hl] at h
 refine h.congr fun k hk => ?_
 obtain h0 | h0 | h0:k = 0 ∨ k = 1 ∨ 2 ≤ k:=by omega
 ·subst h0;rfl
 ·subst h0;rfl
 rw [fU _ _ _ _ h0]
 obtain ⟨j,rfl⟩:∃ j,k = j + 2:=⟨k - 2,by omega⟩
 rfl
theorem I7 {w:World} {b rb:Nat} (h:Arr w b 36 (gq rb zid (.slice none 0 0) ⟨#[]⟩)):Arr w b 2 (twoF (.pointer (some ⟨rb,0,none⟩)) (.slice none 0 0)) :=
 ⟨fun k hk => by
  have:=h.cell k (by omega)
  obtain h0 | h0:k = 0 ∨ k = 1:=by omega
  all_goals subst h0;exact this,fun k hk => h.free k (by omega)⟩
theorem vT (k:Int) (s:ByteArray) (w:World) :
  Calls prog 214 #[.agg #[.int .i64 k,.string s]] w (oC k s w):=by
 have HB2:Hid (∀ (o1 o2:Obj),Below w.heap.size w ((w.alloc o1).alloc o2)):=ah (fun o1 o2 => bal.alloc (by simp) _)
 have HB4:Hid (∀ (o1 o2 o3 o4:Obj),Below w.heap.size w ((((w.alloc o1).alloc o2).alloc o3).alloc o4)):=ah (fun o1 o2 o3 o4 => ((bal.alloc (by simp) _).alloc (by simp;omega) _).alloc (by simp;omega) _)
 have HC4:Hid (∀ (o1 o2 o3:Obj) (cs:Array Value) (t:TypeId),((((w.alloc o1).alloc o2).alloc o3).alloc (.cells cs t)).cell? ⟨w.heap.size + 1 + 1 + 1,1,none⟩ = cs[1]?):=ah (fun o1 o2 o3 cs t => by
  have h:=World.cell?_alloc_new (w:=((w.alloc o1).alloc o2).alloc o3) cs t 1
  rw [World.size_alloc,World.size_alloc,World.size_alloc] at h
  exact h)
 by_cases h1:k < 1
 ·have d1:decide (k < 1) = true:=decide_eq_true h1
  have HR:Hid (aB ⟨k,s⟩ = false):=by
   unfold Hid aB;rw [if_neg (show ¬ k = 1 by omega),if_neg (show ¬ k = 2 by omega),if_neg (show ¬ k = 3 by omega),Bool.and_false]
  go_enter func214,ntmps214
  go_wp2_with fail
  go_ret2
  exact mD HR.out _ (HB2.out _ _)
 have d1:decide (k < 1) = false:=decide_eq_false h1
 by_cases h2:3 < k
 ·have d2:decide (3 < k) = true:=decide_eq_true h2
  have HR:Hid (aB ⟨k,s⟩ = false):=by
   unfold Hid aB;rw [if_neg (show ¬ k = 1 by omega),if_neg (show ¬ k = 2 by omega),if_neg (show ¬ k = 3 by omega),Bool.and_false]
  go_enter func214,ntmps214
  go_wp2_with fail
  go_ret2
  exact mD HR.out _ (HB2.out _ _)
 have d2:decide (3 < k) = false:=decide_eq_false h2
 by_cases h3:4096 < s.size
 ·have d3:decide ((4096:Int) < s.size) = true:=decide_eq_true (by omega)
  have HR:Hid (aB ⟨k,s⟩ = false):=by unfold Hid aB;rw [decide_eq_false (show ¬ s.size ≤ 4096 by omega),Bool.false_and]
  go_enter func214,ntmps214
  go_wp2_with fail
  go_ret2
  exact mD HR.out _ (HB2.out _ _)
 have d3:decide ((4096:Int) < s.size) = false:=decide_eq_false (by omega)
 have HS:Hid (aB ⟨k,s⟩ = (if k = 1 then true else if k = 2 then (dz s).isSome else if k = 3 then (bH s).isSome else false)):=by
  unfold Hid aB;rw [decide_eq_true (show s.size ≤ 4096 by omega),Bool.true_and]
 have hs5:s.size ≤ 100000:=by omega
 obtain rfl | rfl | rfl:k = 1 ∨ k = 2 ∨ k = 3:=by omega
 ·have HR:Hid (aB ⟨1,s⟩ = true):=by unfold Hid;rw [HS.out];rfl
  clear h1 h2 h3 HS d1 d2
  go_enter func214,ntmps214
  go_wp2_with (go_at_call 128;refine (oN s _).mono ?_;rintro e w' ⟨rfl,rfl⟩)
  refine (Eh _ _).mono ?_
  rintro e w' ⟨rfl,rfl⟩
  go_wp2
  go_ret2
  exact y9 HR.out (HC4.out _ _ _ _ _) (HB4.out _ _ _ _)
 ·have HR:Hid (aB ⟨2,s⟩ = (dz s).isSome):=by unfold Hid;rw [HS.out];rfl
  clear h1 h2 h3 d1 d2 HS
  have HOT:=ah (fun W (hr:Arr W (w.heap.size + 1 + 1) 3 (rd0 s).c) (hb:Arr W (w.heap.size + 1 + 1 + 1) 36 (gq (w.heap.size + 1 + 1) zid (.slice none 0 0) ⟨#[]⟩)) =>
   Ed w.heap.size _ _ s W hr (I7 hb) (by omega) (by omega) (by omega) hs5)
  go_enter func214,ntmps214
  go_wp2_with (go_at_call 128;refine (oN s _).mono ?_;rintro e w' ⟨rfl,rfl⟩)
  obtain ⟨W2,hW2⟩:∃ W2:World,W2.heap.size = w.heap.size + 1 + 1 ∧ W2 = (w.alloc (.cells #[.int .i64 2,.string s] 33)).alloc (.cells #[.nilFunc,.func (.func 241) #[] #[],.func (.func 242) #[] #[],.func (.func 243) #[] #[]] 318):=⟨_,by simp,rfl⟩
  rw [← hW2.2]
  have hA:=(Cq W2 s 276).alloc (by omega) (.cells #[.pointer (some ⟨w.heap.size + 1 + 1,0,none⟩),.slice none 0 0,.int .u8 0,.int .u8 0,.int .u8 0,.int .u8 0,.int .u8 0,.int .u8 0,.int .u8 0,.int .u8 0,.int .u8 0,.int .u8 0,.int .u8 0,.int .u8 0,.int .u8 0,.int .u8 0,.int .u8 0,.int .u8 0,.int .u8 0,.int .u8 0,.int .u8 0,.int .u8 0,.int .u8 0,.int .u8 0,.int .u8 0,.int .u8 0,.int .u8 0,.int .u8 0,.int .u8 0,.int .u8 0,.int .u8 0,.int .u8 0,.int .u8 0,.int .u8 0,.slice none 0 0,.string ⟨#[]⟩] 320)
  have hB:=Ad (W2.alloc (.cells #[.string s,.int .i64 0,.int .i64 0] 276)) (w.heap.size + 1 + 1) 320
  rw [World.size_alloc,hW2.1] at hB
  rw [hW2.1] at hA
  have HBB:=ah (HB4.out (.cells #[.int .i64 2,.string s] 33) (.cells #[.nilFunc,.func (.func 241) #[] #[],.func (.func 242) #[] #[],.func (.func 243) #[] #[]] 318) (.cells #[.string s,.int .i64 0,.int .i64 0] 276) (.cells #[.pointer (some ⟨w.heap.size + 1 + 1,0,none⟩),.slice none 0 0,.int .u8 0,.int .u8 0,.int .u8 0,.int .u8 0,.int .u8 0,.int .u8 0,.int .u8 0,.int .u8 0,.int .u8 0,.int .u8 0,.int .u8 0,.int .u8 0,.int .u8 0,.int .u8 0,.int .u8 0,.int .u8 0,.int .u8 0,.int .u8 0,.int .u8 0,.int .u8 0,.int .u8 0,.int .u8 0,.int .u8 0,.int .u8 0,.int .u8 0,.int .u8 0,.int .u8 0,.int .u8 0,.int .u8 0,.int .u8 0,.int .u8 0,.int .u8 0,.slice none 0 0,.string ⟨#[]⟩] 320))
  rw [← hW2.2] at HBB
  refine (HOT.out _ hA hB).mono ?_
  rintro e w' ⟨rfl,⟨v,hv1,hv0,hv2⟩,hb⟩
  have HV:=ah hv1
  have HV0:=ah (fun g hg => Nat.le_trans HBB.out.size (hv0 g hg))
  have HV2:=ah hv2
  have HBL:=ah hb
  clear hA hB hv1 hv0 hv2 hb hW2 HOT
  have HF:=ah (HBB.out.trans HBL.out)
  go_wp2
  go_ret2
  exact y8 HR.out HV.out HV0.out HV2.out HF.out
 have HR:Hid (aB ⟨3,s⟩ = (bH s).isSome):=by unfold Hid;rw [HS.out];rfl
 clear h1 h2 h3 d1 d2 HS
 have HOT:=ah (fun W (hr:Arr W (w.heap.size + 1 + 1) 3 (rd0 s).c) (hb:Arr W (w.heap.size + 1 + 1 + 1) 36 (gq (w.heap.size + 1 + 1) zid (.slice none 0 0) ⟨#[]⟩)) =>
  qI w.heap.size _ _ s W hr hb (by omega) (by omega) (by omega) hs5)
 go_enter func214,ntmps214
 go_wp2_with (go_at_call 128;refine (oN s _).mono ?_;rintro e w' ⟨rfl,rfl⟩)
 obtain ⟨W2,hW2⟩:∃ W2:World,W2.heap.size = w.heap.size + 1 + 1 ∧ W2 = (w.alloc (.cells #[.int .i64 3,.string s] 33)).alloc (.cells #[.nilFunc,.func (.func 241) #[] #[],.func (.func 242) #[] #[],.func (.func 243) #[] #[]] 318):=⟨_,by simp,rfl⟩
 rw [← hW2.2]
 have hA:=(Cq W2 s 276).alloc (by omega) (.cells #[.pointer (some ⟨w.heap.size + 1 + 1,0,none⟩),.slice none 0 0,.int .u8 0,.int .u8 0,.int .u8 0,.int .u8 0,.int .u8 0,.int .u8 0,.int .u8 0,.int .u8 0,.int .u8 0,.int .u8 0,.int .u8 0,.int .u8 0,.int .u8 0,.int .u8 0,.int .u8 0,.int .u8 0,.int .u8 0,.int .u8 0,.int .u8 0,.int .u8 0,.int .u8 0,.int .u8 0,.int .u8 0,.int .u8 0,.int .u8 0,.int .u8 0,.int .u8 0,.int .u8 0,.int .u8 0,.int .u8 0,.int .u8 0,.int .u8 0,.slice none 0 0,.string ⟨#[]⟩] 320)
 have hB:=Ad (W2.alloc (.cells #[.string s,.int .i64 0,.int .i64 0] 276)) (w.heap.size + 1 + 1) 320
 rw [World.size_alloc,hW2.1] at hB
 rw [hW2.1] at hA
 have HBB:=ah (HB4.out (.cells #[.int .i64 3,.string s] 33) (.cells #[.nilFunc,.func (.func 241) #[] #[],.func (.func 242) #[] #[],.func (.func 243) #[] #[]] 318) (.cells #[.string s,.int .i64 0,.int .i64 0] 276) (.cells #[.pointer (some ⟨w.heap.size + 1 + 1,0,none⟩),.slice none 0 0,.int .u8 0,.int .u8 0,.int .u8 0,.int .u8 0,.int .u8 0,.int .u8 0,.int .u8 0,.int .u8 0,.int .u8 0,.int .u8 0,.int .u8 0,.int .u8 0,.int .u8 0,.int .u8 0,.int .u8 0,.int .u8 0,.int .u8 0,.int .u8 0,.int .u8 0,.int .u8 0,.int .u8 0,.int .u8 0,.int .u8 0,.int .u8 0,.int .u8 0,.int .u8 0,.int .u8 0,.int .u8 0,.int .u8 0,.int .u8 0,.int .u8 0,.int .u8 0,.slice none 0 0,.string ⟨#[]⟩] 320))
 rw [← hW2.2] at HBB
 have hlW:=hB.lt (show 0 < 36 by omega)
 refine (HOT.out _ hA hB).mono ?_
 rintro e w' ⟨rfl,hv2,hb⟩
 have HV2:Hid ((bH s).isSome = true → (∃ t v l x,bH s = some (t,l,x) ∧ w'.rangeAt (w.heap.size + 1 + 1 + 1) 2 (cmC t v x) ∧ kY w v ∧ bB w' v l) ∧ w'.cell? ⟨w.heap.size + 1 + 1 + 1,1,none⟩ = some (.slice none 0 0)):=ah (fun h => by
  obtain ⟨⟨t,v,l,x,q1,q2,q3,q4⟩,q5⟩:=hv2 h
  exact ⟨⟨t,v,l,x,q1,q2,fun g hg => Nat.le_trans HBB.out.size (q3 g hg),q4⟩,q5⟩)
 have HBL:=ah hb
 clear hA hB hv2 hb hW2 HOT
 have HF:=ah (HBB.out.trans HBL.out)
 have HLT:=ah hlW
 clear hlW
 go_wp2
 go_ret2
 exact uS HR.out (Nat.lt_of_lt_of_le HLT.out HBL.out.size) HV2.out HF.out
theorem sI (k:Int) (s:ByteArray) (w:World) :
  Calls prog 164 #[.agg #[.int .i64 k,.string s]] w fun e w' => e = .returned (.bool (aB ⟨k,s⟩)) ∧ Below w.heap.size w w':=by
 have HR:=ah (fun w => vT k s w)
 have HB0:Hid (∀ o,Below w.heap.size w (w.alloc o)):=ah (fun o => bal)
 go_enter func164,ntmps164
 go_wp2_with fail
 refine (HR.out _).mono ?_
 intro e w1 h
 obtain ⟨⟨p,rfl,_,_⟩,hb⟩:=h
 have HB:=ah ((HB0.out _).trans (hb.mono (HB0.out _).size))
 clear hb
 go_wp2
 go_ret
 exact ⟨rfl,HB.out⟩
def okI (b:Bool):Int:=if b = true then 0 else 1
theorem xK (k:Nat) (h:k = 1 ∨ k = 2 ∨ k = 3) (w:World):(Instr.slice 9 (.string ⟨#[32,98,116,99]⟩) (some (.int .i64 (k:Int))) (some (.int .i64 ((k:Int) + 1))) none).run prog w = .ok (.string (ofB [kL k])) w:=by
 rcases h with rfl | rfl | rfl
 ·exact kZ ⟨#[32,98,116,99]⟩ 1 1 (by decide) w
 ·exact kZ ⟨#[32,98,116,99]⟩ 2 1 (by decide) w
 exact kZ ⟨#[32,98,116,99]⟩ 3 1 (by decide) w
theorem nE {o:Ob} (h:aB o = true):(o.kind = 1 ∨ o.kind = 2 ∨ o.kind = 3) ∧ o.body.size ≤ 4096:=by
 unfold aB at h
 simp only [Bool.and_eq_true,decide_eq_true_eq] at h
 refine ⟨?_,h.1⟩
 have h2:=h.2
 split at h2
 ·exact .inl (by assumption)
 split at h2
 ·exact .inr (.inl (by assumption))
 split at h2
 ·exact .inr (.inr (by assumption))
 cases h2
def Di (k:Int) (s:ByteArray) (w:World) (e:Ending) (w':World):Prop:=e = .returned (.tuple #[.string (if aB ⟨k,s⟩ = true then ofB (dh ⟨k,s⟩) else ⟨#[]⟩),.int .i64 (okI (aB ⟨k,s⟩))]) ∧ Below w.heap.size w w'
theorem Il {k:Int} {s:ByteArray} {w w':World} (h:aB ⟨k,s⟩ = false) (hb:Below w.heap.size w w'):Di k s w (.returned (.tuple #[.string ⟨#[]⟩,.int .i64 1])) w':=⟨by rw [h];rfl,hb⟩
theorem EW {k:Int} {s q:ByteArray} {w w':World} (h:aB ⟨k,s⟩ = true) (hq:q = ofB (dh ⟨k,s⟩)) (hb:Below w.heap.size w w'):Di k s w (.returned (.tuple #[.string q,.int .i64 0])) w':=⟨by rw [h,hq];rfl,hb⟩
theorem sM (k:Int) (s:ByteArray) (w:World) :
  Calls prog 93 #[.agg #[.int .i64 k,.string s]] w (Di k s w):=by
 have HR:=ah (fun w => sI k s w)
 have HB0:Hid (∀ o,Below w.heap.size w (w.alloc o)):=ah (fun o => bal)
 cases hr:aB ⟨k,s⟩ with
 | false =>
  have HRB:=ah hr
  rw [hr] at HR
  clear hr
  go_enter func93,ntmps93
  go_wp2_with fail
  refine (HR.out _).mono ?_
  rintro e w1 ⟨rfl,hb⟩
  have HB:=ah ((HB0.out _).trans (hb.mono (HB0.out _).size))
  clear hb
  go_wp2
  go_ret2
  exact Il HRB.out HB.out
 | true =>
  obtain ⟨hk,hs⟩:=nE hr
  have HRB:=ah hr
  rw [hr] at HR
  clear hr
  dsimp only at hk hs
  obtain ⟨n,rfl,hn⟩:∃ n:Nat,k = (n:Int) ∧ (n = 1 ∨ n = 2 ∨ n = 3):=⟨k.toNat,by omega,by omega⟩
  have hls:=fun w => xK n hn w
  have k0:(0:Int) ≤ n:=by omega
  have k3:(n:Int) ≤ 3:=by omega
  clear hk hn
  go_enter func93,ntmps93
  go_wp2_with fail
  refine (HR.out _).mono ?_
  rintro e w1 ⟨rfl,hb⟩
  have hsz1:w.heap.size < w1.heap.size:=by have:=hb.size;simp at this;omega
  have c0:w1.cell? ⟨w.heap.size,0,none⟩ = some (.int .i64 n):=by rw [hb.cell (p:=⟨w.heap.size,0,none⟩) (by simp),World.cell?_alloc_new];rfl
  have c1:w1.cell? ⟨w.heap.size,1,none⟩ = some (.string s):=by rw [hb.cell (p:=⟨w.heap.size,1,none⟩) (by simp),World.cell?_alloc_new];rfl
  have HB:=ah ((HB0.out _).trans (hb.mono (HB0.out _).size))
  clear hb
  go_wp2_with fail
  generalize hlt:kL (n:Int) = lt
  have hz1:(ofB [lt]).size = 1:=by rw [bq];rfl
  have hd1:(ofB [lt]).data.toList = [lt]:=by rw [aX]
  have hW0:Wr w1.heap.size w1.heap.size [] ((w1.alloc (.cells #[.pointer none,.slice none 0 0] 193)).alloc (.cells #[.string (ofB [lt])] 9)) :=
   Wr.below (Lib.fresh_isBuilder 193 5 w1) bal
  have hBB:Below w1.heap.size w1 ((w1.alloc (.cells #[.pointer none,.slice none 0 0] 193)).alloc (.cells #[.string (ofB [lt])] 9)):=bal.alloc (by simp) _
  have hcg:((w1.alloc (.cells #[.pointer none,.slice none 0 0] 193)).alloc (.cells #[.string (ofB [lt])] 9)).cell? ⟨w1.heap.size + 1,0,none⟩ = some (.string (ofB [lt])):=by
   have:=World.cell?_alloc_new (w1.alloc (.cells #[.pointer none,.slice none 0 0] 193)) #[.string (ofB [lt])] 9 0
   rw [World.size_alloc] at this
   rw [this];rfl
  have hRW:=jh w1.heap.size w1.heap.size [] (w1.heap.size + 1) (ofB [lt]) _ hW0 hcg (by rw [hz1];simp) hBB.size
  rw [hd1,List.nil_append] at hRW
  have HBB:=ah hBB
  have HLT:=ah hlt
  clear hlt hz1 hd1 hW0 hBB hcg
  refine hRW.mono ?_
  rintro e w2 ⟨rfl,hW2,hb2⟩
  have HB2:=ah (HBB.out.trans hb2)
  have c2:w2.cell? ⟨w.heap.size,1,none⟩ = some (.string s):=aA c1 HB2.out hsz1
  have HW2:=ah hW2
  have hs2:=HB2.out.size
  clear hRW hW2 hb2 HBB hls c0 c1
  go_wp2_with fail
  have hBB2:Below w2.heap.size w2 (w2.alloc (.cells #[.string s] 9)):=bal
  have hTX:=mg w1.heap.size w1.heap.size [lt] w2.heap.size s _ (HW2.out.below hBB2) (by rw [World.cell?_alloc_new];rfl) (by omega) (by simp) (by have:=hBB2.size;omega)
  have HBB2:=ah hBB2
  clear hBB2
  refine hTX.mono ?_
  rintro e w3 ⟨rfl,hW3,hb3⟩
  have HB3:=ah ((HB2.out.trans (HBB2.out.mono hs2)).trans hb3)
  have hST:=uY w1.heap.size w1.heap.size _ w3 hW3 (by simp)
  clear hTX hW3 hb3 c2
  go_wp2_with fail
  refine hST.mono ?_
  rintro e w4 ⟨rfl,hb4⟩
  have HB4:=ah (HB.out.trans ((HB3.out.trans hb4).mono HB.out.size))
  clear hST hb4
  go_wp2
  go_ret2
  exact EW HRB.out (by unfold dh;rw [HLT.out]) HB4.out
theorem cK:(∀ w,(zeroValue 42).run prog w = .ok (.agg (idC zid).toArray) w) ∧ ∀ w,(Instr.build 42 #[]).run prog w = .ok (.agg (idC zid).toArray) w :=
 ⟨fun w => by kernel_rfl,fun w => run_build w 42 #[] _ (by kernel_rfl)⟩
def oF (k:Int) (s:ByteArray) (w:World) (e:Ending) (w':World):Prop:=e = .returned (.tuple #[.agg (idC (if aB ⟨k,s⟩ = true then idO ⟨k,s⟩ else zid)).toArray,.bool (aB ⟨k,s⟩)]) ∧ Below w.heap.size w w'
theorem Ie {k:Int} {s:ByteArray} {w w':World} (h:aB ⟨k,s⟩ = false) (hb:Below w.heap.size w w'):oF k s w (.returned (.tuple #[.agg (idC zid).toArray,.bool false])) w':=⟨by rw [h];rfl,hb⟩
theorem EM {k:Int} {s:ByteArray} {x:List UInt8} {w w':World} (h:aB ⟨k,s⟩ = true) (hq:x = idO ⟨k,s⟩) (hb:Below w.heap.size w w'):oF k s w (.returned (.tuple #[.agg (idC x).toArray,.bool true])) w':=⟨by rw [h,hq];rfl,hb⟩
theorem xD (k:Int) (s:ByteArray) (w:World) (hL:Laid w) :
  Calls prog 51 #[.agg #[.int .i64 k,.string s]] w (oF k s w):=by
 obtain ⟨hz,hbu⟩:=cK
 have hcl:(idC zid).length = 32:=by rw [au,aV]
 have HR:=ah (fun w => sM k s w)
 have hon:=aM zid
 have HNA:Hid (∀ w',aB ⟨k,s⟩ = false → Below w.heap.size w w' → oF k s w (.returned (.tuple #[.agg (idC zid).toArray,.bool false])) w'):=ah (fun w' h hb => Ie h hb)
 generalize idC zid = cz at hz hbu hcl hon HNA
 obtain ⟨W0,hW0⟩:∃ W0,W0 = (w.alloc (.cells #[.int .i64 k,.string s] 33)).alloc (.cells cz.toArray 42):=⟨_,rfl⟩
 have hA:W0.there (w.heap.size + 1) 0 32:=by
  have:=(Arr.ofList (w.alloc (.cells #[.int .i64 k,.string s] 33)) cz 42).there
  rw [World.size_alloc,hcl] at this;rw [hW0];exact this
 have hB0:Below w.heap.size w W0:=by rw [hW0];exact bal.alloc (by simp) _
 have hs0:W0.heap.size = w.heap.size + 1 + 1:=by rw [hW0];simp
 have h32:(prog.info? 42).map (·.size) = some 32:=by kernel_rfl
 have h32z:(prog.info? 42).map (·.size) = some cz.length:=by rw [hcl];exact h32
 have HB0:=ah hB0
 have HS0:=ah hs0
 have HCL:=ah hcl
 have HON:=ah hon
 have HL:=ah (hL.below hB0)
 have HNO:Hid (∀ w1,Below W0.heap.size W0 w1 → w1.there (w.heap.size + 1) 0 32):=ah (fun w1 hb => pO hA hb (by rw [hs0];omega))
 have HST:Hid (∀ w1 cs,cs.length = 32 → Below W0.heap.size W0 w1 → (w1.setCells (w.heap.size + 1) 0 cs).rangeAt (w.heap.size + 1) 0 cs ∧ Below w.heap.size w (w1.setCells (w.heap.size + 1) 0 cs)):=ah (fun w1 cs hl hb => 
  ⟨World.rangeAt_setCells_same w1 _ 0 _ (by rw [hl];exact HNO.out w1 hb),below_setCells _ (by omega) _ _ _ (HB0.out.trans (hb.mono HB0.out.size))⟩)
 clear hB0 hA hs0 hcl hon hL
 cases hr:aB ⟨k,s⟩ with
 | false =>
  have HRB:=ah hr
  clear hr
  go_enter func51,ntmps51
  go_wp2_with fail
  rw [← hW0]
  clear hW0
  refine (HR.out _).mono ?_
  intro e w1 h
  obtain ⟨rfl,hb⟩:=h
  rw [HRB.out]
  have HB:=ah hb
  clear hb
  rw [if_neg (show ¬ (false = true) by simp),show okI false = 1 from rfl]
  go_wp2_with (refine aj rfl 42 _ _ rfl (w.heap.size + 1) 0 cz rfl rfl 32 HCL.out (HNO.out _ HB.out) h32 HON.out ?_)
  refine aL rfl (w.heap.size + 1) 0 rfl _ _ (HST.out _ cz HCL.out HB.out).1 underlying42 rfl h32z rfl _ rfl (HNA.out _ HRB.out (HST.out _ cz HCL.out HB.out).2)
 | true =>
  have HRB:=ah hr
  have hfz:(ofB (dh ⟨k,s⟩)).size ≤ 1000000000:=by
   rw [bq];unfold dh
   have:=(nE hr).2
   have h6:=sO (n:=s.size) (by dsimp only at this;omega)
   simp at *;omega
  clear hr
  go_enter func51,ntmps51
  go_wp2_with fail
  rw [← hW0]
  clear hW0
  refine (HR.out _).mono ?_
  intro e w1 h
  obtain ⟨rfl,hb⟩:=h
  rw [HRB.out]
  have HB:=ah hb
  have HL1:=ah (HL.out.below hb)
  clear hb
  rw [if_pos rfl,show okI true = 0 from rfl]
  have hix:shaP (ofB (dh ⟨k,s⟩)) = idO ⟨k,s⟩:=KT _
  have hil:=eP ⟨k,s⟩
  generalize ofB (dh ⟨k,s⟩) = q at hfz hix
  have hDS:=fun (W:World) (hL:Laid W) (p:Nat) (hc:W.cell? ⟨p,0,none⟩ = some (.string q)) => IC p 0 1 q W hc hL hfz
  rw [hix] at hDS
  have HDS:=ah hDS
  have HFY:Hid (∀ w',Below w.heap.size w w' → oF k s w (.returned (.tuple #[.agg (idC (idO ⟨k,s⟩)).toArray,.bool true])) w'):=ah (fun w' hb => EM HRB.out rfl hb)
  clear hDS hix
  go_wp2_with fail
  refine (HDS.out _ (HL1.out.below bal) _ (by rw [World.cell?_alloc_new];rfl)).mono ?_
  rintro e w2 ⟨rfl,hb2⟩
  have HB2:=ah (HB.out.trans ((bal.trans (hb2.mono (by simp))).mono HB.out.size))
  clear hb2
  have hdv:idV (idO ⟨k,s⟩) = .agg (idC (idO ⟨k,s⟩)).toArray:=rfl
  rw [hdv]
  clear hdv
  have hcx:(idC (idO ⟨k,s⟩)).length = 32:=by rw [au,hil]
  have hox:=aM (idO ⟨k,s⟩)
  generalize idC (idO ⟨k,s⟩) = cx at hcx hox HFY
  have h32x:(prog.info? 42).map (·.size) = some cx.length:=by rw [hcx];exact h32
  have HCX:=ah hcx
  have HOX:=ah hox
  clear hcx hox hil
  go_wp2_with (refine aj rfl 42 _ _ rfl (w.heap.size + 1) 0 cx rfl rfl 32 HCX.out (HNO.out _ HB2.out) h32 HOX.out ?_)
  refine aL rfl (w.heap.size + 1) 0 rfl _ _ (HST.out _ cx HCX.out HB2.out).1 underlying42 rfl h32x rfl _ rfl (HFY.out _ (HST.out _ cx HCX.out HB2.out).2)
end
end Go.Proofs.YtlhcoanbhnphgaaGreatDoor

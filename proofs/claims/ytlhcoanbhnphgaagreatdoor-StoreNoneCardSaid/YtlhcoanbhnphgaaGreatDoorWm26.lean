/- A part of this claim. -/
import Derived.Test.YtlhcoanbhnphgaaGreatDoorWm19
import Derived.Test.YtlhcoanbhnphgaaGreatDoorWm23
namespace Go.Proofs.YtlhcoanbhnphgaaGreatDoor
open Tryz
set_option maxHeartbeats 64000000
set_option maxRecDepth 100000
section
open Go.RowKit Go.Maps Go.Sort Go.Shelf
def l8 (S:List Idl) (w:World) (e:Ending) (w':World):Prop:=∃ v m,e = .returned v ∧ bB w' v m ∧ (∀ x,x ∈ m ↔ x ∈ S) ∧ m.length = S.length ∧ (∀ k,v.ownBlock = some k → w.heap.size ≤ k) ∧ Below w.heap.size w w'
theorem l8.from {S:List Idl} {w0 w w':World} {e:Ending} (h:l8 S w e w') (hb:Below w0.heap.size w0 w):l8 S w0 e w':=by
 obtain ⟨v,m,h1,h2,h3,h4,h5,h6⟩:=h
 exact ⟨v,m,h1,h2,h3,h4,fun k hk => Nat.le_trans hb.size (h5 k hk),hb.trans (h6.mono hb.size)⟩
theorem Gj (it cf:FuncId) (lb:Array Value) (hcf:CfI cf) (S:List Idl) (W:World) (h32:∀ x ∈ S,x.length = 32) (hlen:S.length ≤ 100000)
  (HC:Hid (Calls prog 151 #[.func (.func it) #[] lb] W fun e w' => ∃ (v:Value) (ss:List I32),e = .returned v ∧ (rawI ss).Perm S ∧ w'.ownsRow W.heap.size 42 32 v ss.length (idsF (rawI ss)) ∧ Below W.heap.size W w')) :
  Calls prog 84 #[.func (.func it) #[] lb,.func (.func cf) #[] #[]] W (l8 S W):=by
 have H32:=ah h32
 have HCF:=ah hcf
 clear h32 hcf
 go_enter func84,ntmps84
 go_wp2_with fail
 refine HC.out.mono ?_
 rintro e w1 ⟨v,ss,rfl,hp,hrow,hb⟩
 have HB1:=ah hb
 have hq:OwnQ w1 W.heap.size 32 v (rawI ss).length (idsF (rawI ss)):=by rw [sj];exact OwnQ.bZ hrow
 have hle:(rawI ss).length ≤ 1000000:=by rw [hp.length_eq];omega
 have HS:=ah (Bq cf HCF.out W.heap.size v (rawI ss) w1 hq (Ju ss) hle)
 have HP:=ah hp
 have HLT:=ah (fun k (hk:v.ownBlock = some k) => (hrow.lt k hk).1)
 clear hp hrow hb hq hle HC
 go_wp2_with fail
 refine HS.out.mono ?_
 rintro e w2 ⟨rfl,m,hpm,_,hq2,hg2⟩
 have HB2:=ah (HB1.out.grown hg2 HB1.out.size (fun k hk => HLT.out k hk))
 have hml:=hpm.length_eq
 rw [← hml] at hq2
 have HR:=ah (hq2.row (fun x hx => H32.out x (HP.out.mem_iff.1 (hpm.mem_iff.1 hx))))
 have HM:Hid (∀ x,x ∈ m ↔ x ∈ S):=ah (fun x => hpm.mem_iff.trans HP.out.mem_iff)
 have HN:Hid (m.length = S.length):=ah (hml.trans HP.out.length_eq)
 clear hml hq2 hpm hg2 HS HP
 go_wp2
 go_ret
 exact ⟨_,m,rfl,HR.out,HM.out,HN.out,HLT.out,HB2.out⟩
theorem KU (cf:FuncId) (hcf:CfI cf) (b n:Nat) (S:List Idl) (w:World) (hm:SetI w b n S) (hlen:S.length ≤ 100000) :
  Calls prog 84 #[.func (.func 152) #[] #[.pointer (some ⟨w.heap.size,0,none⟩)],.func (.func cf) #[] #[]] (w.alloc (.cells #[.map (some b)] 70)) (l8 S w):=by
 have hb0:Below w.heap.size w (w.alloc (.cells #[.map (some b)] 70)):=(Below.refl _ w).alloc (Nat.le_refl _) _
 have hseq:=xM (enc:=encB) 3 (by omega) w.heap.size b n (setF S) S (w.alloc (.cells #[.map (some b)] 70)) (by simp) (by simp) (hm.1.on hb0) hm.2.1 hm.2.2 (fun x _ => vJ)
 have hc:=callsIn_wide.1 (Ab 5 (by omega) 152 #[.pointer (some ⟨w.heap.size,0,none⟩)] (enters_of func152 (by kernel_rfl) rfl) _ S.length (by omega) _ hseq)
 exact (Gj _ cf _ hcf S _ hm.2.2 hlen (ah hc)).mono fun _ _ h => h.from hb0
theorem KW (cf:FuncId) (hcf:CfI cf) (b n:Nat) (S:List Idl) (w:World) (hm:SetI w b n S) (hlen:S.length ≤ 100000) :
  Calls prog 84 #[.func (.func 250) #[] #[.pointer (some ⟨w.heap.size,0,none⟩)],.func (.func cf) #[] #[]] (w.alloc (.cells #[.map (some b)] 69)) (l8 S w):=by
 have hb0:Below w.heap.size w (w.alloc (.cells #[.map (some b)] 69)):=(Below.refl _ w).alloc (Nat.le_refl _) _
 have hseq:=xO (enc:=encB) 3 (by omega) w.heap.size b n (setF S) S (w.alloc (.cells #[.map (some b)] 69)) (by simp) (by simp) (hm.1.on hb0) hm.2.1 hm.2.2 (fun x _ => vJ)
 have hc:=callsIn_wide.1 (Ab 5 (by omega) 250 #[.pointer (some ⟨w.heap.size,0,none⟩)] (enters_of func250 (by kernel_rfl) rfl) _ S.length (by omega) _ hseq)
 exact (Gj _ cf _ hcf S _ hm.2.2 hlen (ah hc)).mono fun _ _ h => h.from hb0
theorem IY (x y:Idl) (w:World) (hx:x.length = 32) (hy:y.length = 32):Calls prog 86 #[.agg (idC x).toArray,.agg (idC y).toArray] w fun e w' => e = .returned (.int .i64 (cmpL x y)) ∧ ∃ q os',w' = grow (w.drewN q) os':=by
 obtain ⟨W,hW⟩:∃ W,W = (w.alloc (.cells (idC x).toArray 42)).alloc (.cells (idC y).toArray 42):=⟨_,rfl⟩
 have hrx:W.rangeAt w.heap.size 0 (idC x):=by
  rw [hW];exact aF (w:=w.alloc (.cells (idC x).toArray 42)) (fun j u hu => by rw [World.cell?_alloc_new,Nat.zero_add];simpa using hu) bal (by simp)
 have hry:W.rangeAt (w.heap.size + 1) 0 (idC y):=by
  rw [hW]
  have:(w.alloc (.cells (idC x).toArray 42)).heap.size = w.heap.size + 1:=by simp
  rw [← this]
  exact fun j u hu => by rw [World.cell?_alloc_new,Nat.zero_add];simpa using hu
 have HC:=ah (fun k => (ou (W.drewN k) x y w.heap.size 0 (w.heap.size + 1) 0 hx hy hrx hry).mono fun _ _ h => And.intro h.1 h.2.symm)
 have HG:Hid (∀ k,∃ q os',W.drewN k = grow (w.drewN q) os'):=ah (fun k => ⟨k,#[.cells (idC x).toArray 42,.cells (idC y).toArray 42],by rw [hW,alloc_eq_grow,alloc_eq_grow,grow_grow];rfl⟩)
 generalize cmpL x y = c at HC
 clear hrx hry
 generalize idC x = ux at hW HG
 generalize idC y = uy at hW HG
 go_enter func86,ntmps86
 go_wp2
 rw [← hW]
 clear hW
 go_quiet ((go_at_call 48;exact Calls.quiet_of_same (HC.out _)))
 go_wp2
 go_ret
 exact ⟨rfl,HG.out _⟩
theorem Ma:CfI 86:=⟨enters_of func86 (by kernel_rfl) rfl,IY⟩
theorem IZ (x y:Idl) (w:World) (hx:x.length = 32) (hy:y.length = 32):Calls prog 226 #[.agg (idC x).toArray,.agg (idC y).toArray] w fun e w' => e = .returned (.int .i64 (cmpL x y)) ∧ ∃ q os',w' = grow (w.drewN q) os':=by
 obtain ⟨W,hW⟩:∃ W,W = (w.alloc (.cells (idC x).toArray 42)).alloc (.cells (idC y).toArray 42):=⟨_,rfl⟩
 have hrx:W.rangeAt w.heap.size 0 (idC x):=by
  rw [hW];exact aF (w:=w.alloc (.cells (idC x).toArray 42)) (fun j u hu => by rw [World.cell?_alloc_new,Nat.zero_add];simpa using hu) bal (by simp)
 have hry:W.rangeAt (w.heap.size + 1) 0 (idC y):=by
  rw [hW]
  have:(w.alloc (.cells (idC x).toArray 42)).heap.size = w.heap.size + 1:=by simp
  rw [← this]
  exact fun j u hu => by rw [World.cell?_alloc_new,Nat.zero_add];simpa using hu
 have HC:=ah (fun k => (ou (W.drewN k) x y w.heap.size 0 (w.heap.size + 1) 0 hx hy hrx hry).mono fun _ _ h => And.intro h.1 h.2.symm)
 have HG:Hid (∀ k,∃ q os',W.drewN k = grow (w.drewN q) os'):=ah (fun k => ⟨k,#[.cells (idC x).toArray 42,.cells (idC y).toArray 42],by rw [hW,alloc_eq_grow,alloc_eq_grow,grow_grow];rfl⟩)
 generalize cmpL x y = c at HC
 clear hrx hry
 generalize idC x = ux at hW HG
 generalize idC y = uy at hW HG
 go_enter func226,ntmps226
 go_wp2
 rw [← hW]
 clear hW
 go_quiet ((go_at_call 48;exact Calls.quiet_of_same (HC.out _)))
 go_wp2
 go_ret
 exact ⟨rfl,HG.out _⟩
theorem Mc:CfI 226:=⟨enters_of func226 (by kernel_rfl) rfl,IZ⟩
theorem kE (b n:Nat) (S:List Idl) (w:World) (hm:SetI w b n S) (hlen:S.length ≤ 100000):Calls prog 42 #[.map (some b)] w (l8 S w):=by
 have HS:=ah (KU _ Ma b n S w hm hlen)
 have HK:=ah (Bv (some b) w)
 clear hm
 go_enter func42,ntmps42
 go_wp2_with fail
 refine HK.out.mono ?_
 rintro e w1 ⟨rfl,rfl⟩
 go_wp2_with fail
 refine HS.out.mono ?_
 rintro e w2 ⟨v,m,rfl,hr⟩
 have HR:=ah hr
 clear hr
 go_wp2
 go_ret
 exact ⟨_,m,rfl,HR.out⟩
theorem p8 (b n:Nat) (S:List Idl) (w:World) (hm:SetI w b n S) (hlen:S.length ≤ 100000):Calls prog 180 #[.map (some b)] w (l8 S w):=by
 have HS:=ah (KW _ Mc b n S w hm hlen)
 have HK:=ah (Bw (some b) w)
 clear hm
 go_enter func180,ntmps180
 go_wp2_with fail
 refine HK.out.mono ?_
 rintro e w1 ⟨rfl,rfl⟩
 go_wp2_with fail
 refine HS.out.mono ?_
 rintro e w2 ⟨v,m,rfl,hr⟩
 have HR:=ah hr
 clear hr
 go_wp2
 go_ret
 exact ⟨_,m,rfl,HR.out⟩
end
end Go.Proofs.YtlhcoanbhnphgaaGreatDoor

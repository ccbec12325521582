/- YtmhjpmenngjmeaaGreatDoorR29: texts EF, PR, SO of this claim, in one. -/
import Derived.Deep.Cut
import Derived.Shelf.SlSortCmp.InsertionK
import Derived.Test.YtmhjpmenngjmeaaGreatDoorR15
import Derived.Test.YtmhjpmenngjmeaaGreatDoorR21
import Derived.Test.YtmhjpmenngjmeaaGreatDoorR28
import Derived.Test.YtmhjpmenngjmeaaGreatDoorR8
import Derived.Test.YtmhjpmenngjmeaaGreatDoorShelf5
namespace Go.Proofs.YtmhjpmenngjmeaaGreatDoor
open Go.RowKit Go.Sort Go.Shelf
section
variable {α:Type} (enc:α → List Value) (k:Nat)
def flatC (l:List α):List Value:=(l.map enc).flatten
theorem flatC_cons (a:α) (l:List α):flatC enc (a :: l) = enc a ++ flatC enc l:=by simp [flatC]
theorem flatC_append (l m:List α):flatC enc (l ++ m) = flatC enc l ++ flatC enc m:=by simp [flatC]
variable (hk:∀ x,(enc x).length = k)
include hk
theorem flatC_len:∀ l:List α,(flatC enc l).length = l.length * k
 | [] => by simp [flatC]
 | a :: l => by rw [flatC_cons,List.length_append,hk,flatC_len l,List.length_cons,Nat.add_mul];omega
theorem flatC_get:∀ (l:List α) (i j:Nat) (hi:i < l.length),j < k → (flatC enc l)[i * k + j]? = (enc l[i])[j]?
 | [],i,j,hi,_ => by simp at hi
 | a :: l,0,j,_,hj => by
  rw [flatC_cons,List.getElem?_append_left (by rw [hk];omega)];simp
 | a :: l,i + 1,j,hi,hj => by
  rw [flatC_cons,List.getElem?_append_right (by rw [hk,Nat.add_mul];omega),hk,show (i + 1) * k + j - k = i * k + j from by rw [Nat.add_mul];omega]
  exact flatC_get l i j (by simpa using hi) hj
theorem rowOf_ownQ {w:World} {B:Nat} {v:Value} {l:List α} (h:OwnQ w B k v l.length (flatC enc l)):RowOf w v k (l.map enc):=by
 rcases h.2 with ⟨rfl,h0⟩ | ⟨g,off,cap,rfl,_,hg,hn,hcm,_,hr⟩
 ·obtain rfl:l = []:=List.eq_nil_of_length_eq_zero h0
  exact ⟨none,0,rfl,by simp,fun h => absurd rfl h⟩
 ·refine ⟨some ⟨g,off,none⟩,cap,by rw [List.length_map],by rw [List.length_map];omega,fun _ => ⟨g,off,rfl,hg,fun i hi j u hu => ?_⟩⟩
  rw [List.length_map] at hi
  rw [List.getElem_map] at hu
  have hj:j < k:=by
   have:=(List.getElem?_eq_some_iff.1 hu).1
   rwa [hk] at this
  have:=hr _ u ((flatC_get enc k hk l i j hi hj).trans hu)
  rwa [← Nat.add_assoc] at this
variable [Inhabited α]
theorem get_flatC (d:Array α) (t:Nat) (ht:t < d.size * k):(flatC enc d.toList)[t]? = some (flatK enc k d)[t]!:=by
 have hk0:0 < k:=by
  cases k with
  | zero => simp at ht
  | succ k => omega
 have hi:t / k < d.size:=by rw [Nat.div_lt_iff_lt_mul hk0];exact ht
 have e:t / k * k + t % k = t:=by rw [Nat.mul_comm];exact Nat.div_add_mod t k
 have h2:=flatC_get enc k hk d.toList (t / k) (t % k) (by simpa using hi) (Nat.mod_lt _ hk0)
 rw [e] at h2
 rw [h2,get_flatK _ _ _ _ ht,getElem!_pos d _ hi]
 have hm:t % k < (enc d[t / k]).length:=by rw [hk];exact Nat.mod_lt _ hk0
 rw [getElem!_pos (enc d[t / k]) _ hm]
 show (enc d[t / k])[t % k]? = _
 rw [List.getElem?_eq_getElem hm]
theorem holdsK_row {w:World} {g off cap n:Nat} {d:Array α} (hd:d.size = n) (hn:n ≤ cap) (hth:w.there g off (cap * k)) (hr:w.rangeAt g off (flatC enc d.toList)):HoldsK enc k w g off d:=by
 intro j hj
 rw [size_flatK] at hj
 exact ⟨hr j _ (get_flatC enc k hk d j hj),(hth j (Nat.lt_of_lt_of_le hj (by rw [hd];exact Nat.mul_le_mul_right k hn))).2⟩
omit hk in
theorem heap_sortedK {w:World} {g off n:Nat} {os:Array Obj} {cur:Array Value} {e:TypeId} {fr:Nat × Nat} (d:Array α) (hb:w.heap[g]? = some (.cells cur e fr)) :
  (sortWorldK enc k w g off n d os).heap[g]? = some (.cells (putCells id off (flatK enc k d) cur) e fr):=by
 have hg:g < w.heap.size:=(Array.getElem?_eq_some_iff.1 hb).1
 unfold sortWorldK putRowK
 rw [heap_grow_old _ _ (by simpa using hg)]
 simp [putRow,mapBlock,Sort.ahead,Array.getElem?_modify,hb,onCells]
omit hk in
theorem grownBy_sortedK {w:World} {g off n:Nat} {os:Array Obj} (d:Array α):w.grownBy (sortWorldK enc k w g off n d os) (some g):=by
 unfold sortWorldK putRowK
 refine ⟨rfl,rfl,rfl,by simp,fun j hj hne => ?_⟩
 rw [heap_grow_old _ _ (by simpa using hj)]
 have:g ≠ j:=fun e => hne (by rw [e])
 simp [putRow,mapBlock,Sort.ahead,Array.getElem?_modify,this]
omit hk in
theorem cells_of_cellK {w:World} {g o:Nat} {u:Value} (h:w.cell? ⟨g,o,none⟩ = some u):∃ cur e fr,w.heap[g]? = some (.cells cur e fr):=by
 unfold World.cell? at h
 dsimp only at h
 split at h
 ·rename_i cs e fr hh;exact ⟨_,_,_,hh⟩
 ·cases h
theorem ownQ_sorted {w:World} {B g off cap n nq:Nat} {os:Array Obj} {d:Array α} (hB:B ≤ g) (hg:g < w.heap.size) (hnc:n ≤ cap) (hcm:cap ≤ maxLen) (hth:w.there g off (cap * k)) (hs:d.size = n) (h0:0 < n) (hk0:0 < k) :
  OwnQ (sortWorldK enc k w g off nq d os) B k (.slice (some ⟨g,off,none⟩) n cap) n (flatC enc d.toList):=by
 have hdl:d.toList.length = n:=Array.length_toList.trans hs
 have hlen:(flatC enc d.toList).length = n * k:=by rw [flatC_len enc k hk d.toList,hdl]
 have hck:0 < cap * k:=Nat.mul_pos (by omega) hk0
 obtain ⟨cur,e2,fr,hcur⟩:∃ cur e fr,w.heap[g]? = some (.cells cur e fr):=by
  obtain ⟨u,hu⟩:=Option.isSome_iff_exists.1 (hth 0 hck).1
  exact cells_of_cellK hu
 have hcur':=heap_sortedK enc k (off:=off) (n:=nq) (os:=os) d hcur
 have hgr:=grownBy_sortedK enc k (w:=w) (g:=g) (off:=off) (n:=nq) (os:=os) d
 have cb:∀ {x:World} {cur:Array Value} {e:TypeId} {fr:Nat × Nat} (_:x.heap[g]? = some (.cells cur e fr)) (j:Nat),x.cell? ⟨g,j,none⟩ = cur[j]?:=fun h j => by simp [World.cell?,h]
 have fb:∀ {x:World} {cur:Array Value} {e:TypeId} {fr:Nat × Nat} (_:x.heap[g]? = some (.cells cur e fr)) (j:Nat),x.frozen? ⟨g,j,none⟩ = (decide (fr.1 ≤ j) && decide (j < fr.2)):=fun {x cur e fr} h j => by
  obtain ⟨lo,hi⟩:=fr
  simp [World.frozen?,h]
 refine ⟨hlen,.inr ⟨g,off,cap,rfl,hB,Nat.lt_of_lt_of_le hg hgr.size,hnc,hcm,fun j hj => ?_,fun j u hu => ?_⟩⟩
 ·have h1:=hth j hj
  rw [cb hcur,fb hcur] at h1
  rw [cb hcur',fb hcur']
  refine ⟨?_,h1.2⟩
  obtain ⟨u,hu⟩:=Option.isSome_iff_exists.1 h1.1
  have:=(Array.getElem?_eq_some_iff.1 hu).1
  simp [putCells,this]
 ·have hj:j < d.size * k:=by
   have:=(List.getElem?_eq_some_iff.1 hu).1
   rw [hlen,← hs] at this
   exact this
  rw [get_flatC enc k hk d j hj] at hu
  rw [cb hcur']
  have h1:=(hth j (Nat.lt_of_lt_of_le hj (by rw [hs];exact Nat.mul_le_mul_right k hnc))).1
  rw [cb hcur] at h1
  obtain ⟨v,hv⟩:=Option.isSome_iff_exists.1 h1
  have hlt:=(Array.getElem?_eq_some_iff.1 hv).1
  rw [← hu]
  simp [putCells,hlt,hj]
end
abbrev EJ:={ e:Ent // e.id.length = 32 }
instance:Inhabited EJ:=⟨⟨⟨⟨#[]⟩,0,List.replicate 32 0⟩,by simp⟩⟩
def encE (x:EJ):List Value:=entC x.1
theorem encE_len (x:EJ):(encE x).length = 34:=by simp [encE,entC,idC_len,x.2]
theorem encE_one (x:EJ):∀ v ∈ encE x,v.oneCell' = true:=fun v hv => by
 unfold encE entC at hv
 rcases List.mem_append.1 hv with h | h
 ·rcases List.mem_cons.1 h with rfl | h
  ·rfl
  ·rw [List.mem_singleton.1 h];rfl
 ·exact idC_one _ v h
theorem entRow_up {w:World} {v:Value} {l:List EJ} (h:RowOf w v 34 (l.map encE)):EntRow w v (l.map (·.1)):=by
 unfold EntRow
 rw [List.map_map]
 exact h
end Go.Proofs.YtmhjpmenngjmeaaGreatDoor
namespace Go.Proofs.YtmhjpmenngjmeaaGreatDoor
open Go.RowKit
set_option maxRecDepth 100000
theorem elemEnts:Tryz.prog.underlying 79 = some (.slice 84):=Tryz.underlying79
theorem elemObjs:Tryz.prog.underlying 25 = some (.slice 59):=Tryz.underlying25
theorem run_to_ents (W:World) (ao:Option Addr) (n cap k:Nat) (h:k ≤ cap):(Instr.sliceAt 79 (.slice ao n cap) none (some (.int .i64 k)) none).run Tryz.prog W = .ok (.slice ao k cap) W:=by
 have hs:(sizeOf (Tryz.prog.elem 79)).run Tryz.prog W = .ok 34 W:=by kernel_rfl
 rw [run_sliceAt_slice _ _ _ _ _ _ elemEnts,run_slice_h _ _ _ _ _ elemEnts _ _ (by omega) (by omega),hs]
 show Result.ok _ W = _
 unfold sliced
 rw [Int.toNat_natCast,Nat.zero_mul,Nat.sub_zero,Nat.sub_zero]
 have:ao.map (fun p:Addr => p.add 0) = ao:=by
  cases ao with
  | none => rfl
  | some p => obtain ⟨b,o,s⟩:=p;cases s <;> simp [Addr.add]
 rw [this,ite_self]
theorem run_from_ents (W:World) (ao:Option Addr) (n cap k:Nat) (h:k ≤ n):(Instr.sliceAt 79 (.slice ao n cap) (some (.int .i64 k)) none none).run Tryz.prog W = .ok (.slice (if cap = k then ao else ao.map (fun p:Addr => p.add (k * 34))) (n - k) (cap - k)) W:=by
 have hs:(sizeOf (Tryz.prog.elem 79)).run Tryz.prog W = .ok 34 W:=by kernel_rfl
 rw [run_sliceAt_slice _ _ _ _ _ _ elemEnts,run_slice_l _ _ _ _ _ elemEnts _ _ (by omega) (by omega),hs]
 show Result.ok _ W = _
 unfold sliced
 rw [Int.toNat_natCast]
theorem run_to_objs (W:World) (ao:Option Addr) (n cap k:Nat) (h:k ≤ cap):(Instr.sliceAt 25 (.slice ao n cap) none (some (.int .i64 k)) none).run Tryz.prog W = .ok (.slice ao k cap) W:=by
 have hs:(sizeOf (Tryz.prog.elem 25)).run Tryz.prog W = .ok 2 W:=by kernel_rfl
 rw [run_sliceAt_slice _ _ _ _ _ _ elemObjs,run_slice_h _ _ _ _ _ elemObjs _ _ (by omega) (by omega),hs]
 show Result.ok _ W = _
 unfold sliced
 rw [Int.toNat_natCast,Nat.zero_mul,Nat.sub_zero,Nat.sub_zero]
 have:ao.map (fun p:Addr => p.add 0) = ao:=by
  cases ao with
  | none => rfl
  | some p => obtain ⟨b,o,s⟩:=p;cases s <;> simp [Addr.add]
 rw [this,ite_self]
theorem run_from_objs (W:World) (ao:Option Addr) (n cap k:Nat) (h:k ≤ n):(Instr.sliceAt 25 (.slice ao n cap) (some (.int .i64 k)) none none).run Tryz.prog W = .ok (.slice (if cap = k then ao else ao.map (fun p:Addr => p.add (k * 2))) (n - k) (cap - k)) W:=by
 have hs:(sizeOf (Tryz.prog.elem 25)).run Tryz.prog W = .ok 2 W:=by kernel_rfl
 rw [run_sliceAt_slice _ _ _ _ _ _ elemObjs,run_slice_l _ _ _ _ _ elemObjs _ _ (by omega) (by omega),hs]
 show Result.ok _ W = _
 unfold sliced
 rw [Int.toNat_natCast]
theorem rows_sub {w:World} {b off sz:Nat}:∀ {rows:List (List Value)},(∀ r ∈ rows,r.length = sz) → (∀ k (hk:k < rows.length),w.rangeAt b (off + k * sz) rows[k]) → ∀ j u,rows.flatten[j]? = some u → w.cell? ⟨b,off + j,none⟩ = some u
 | [],_,_,j,u,h => by simp at h
 | r :: rows,hl,hc,j,u,h => by
  have hr:=hl r (by simp)
  rw [List.flatten_cons] at h
  by_cases hj:j < sz
  ·rw [List.getElem?_append_left (by omega)] at h
   have:=hc 0 (by simp) j u h
   rwa [Nat.zero_mul,Nat.add_zero] at this
  ·rw [List.getElem?_append_right (by omega),hr] at h
   have:=rows_sub (off:=off + sz) (rows:=rows) (fun r' h' => hl r' (by simp [h'])) (fun k hk => by
    have:=hc (k + 1) (by simpa using hk)
    rw [Nat.add_mul,Nat.one_mul] at this
    rw [show off + sz + k * sz = off + (k * sz + sz) from by omega]
    simpa using this) (j - sz) u h
   rwa [show off + sz + (j - sz) = off + j from by omega] at this
theorem flat_sub {α:Type} {enc:α → List Value} {sz:Nat} (hk:∀ x,(enc x).length = sz) {w:World} {b off:Nat} {l:List α} (hc:∀ k (hk:k < l.length),w.rangeAt b (off + k * sz) (enc l[k])) (k m:Nat):∀ j u,(flatC enc ((l.drop k).take m))[j]? = some u → w.cell? ⟨b,off + k * sz + j,none⟩ = some u:=by
 unfold flatC
 refine rows_sub (sz:=sz) (off:=off + k * sz) (fun r hr => ?_) (fun i hi => ?_)
 ·obtain ⟨x,_,rfl⟩:=List.mem_map.1 hr
  exact hk x
 ·have hi':i < ((l.drop k).take m).length:=by simpa using hi
  have h1:k + i < l.length:=by simp at hi';omega
  have:=hc (k + i) h1
  rw [List.getElem_map,List.getElem_take,List.getElem_drop,show off + k * sz + i * sz = off + (k + i) * sz from by rw [Nat.add_mul];omega]
  exact this
end Go.Proofs.YtmhjpmenngjmeaaGreatDoor
namespace Go.Proofs.YtmhjpmenngjmeaaGreatDoor
open Go.RowKit Go.Sort Go.Shelf
set_option maxRecDepth 100000
def nmE (x:EJ):List UInt8:=x.1.name.data.toList
def cfE (x y:EJ):Int:=cmpB (nmE x) (nmE y)
theorem ltE (x y:EJ):ltOf cfE x y = ltB (nmE x) (nmE y):=by
 show decide (cmpB (nmE x) (nmE y) < 0) = _
 rw [← bl_ltB]
 cases h:Op.bytesLess (nmE x) (nmE y) with
 | true => exact decide_eq_true ((cmpB_neg _ _).2 h)
 | false => exact decide_eq_false (fun e => by rw [(cmpB_neg _ _).1 e] at h;cases h)
theorem swoE:SWO (ltOf cfE) where
 irrefl x:=by rw [ltE,ltB_irrefl]
 trans x y z h1 h2:=by rw [ltE] at *;exact ltB_trans h1 h2
 ntrans x y z h1 h2:=by
  rw [ltE] at *
  cases h:ltB (nmE x) (nmE z) with
  | false => rfl
  | true =>
   by_cases e:ltB (nmE y) (nmE x) = true
   ·have:=ltB_trans e h
    rw [h2] at this;cases this
   ·have:=ltB_total h1 (by simpa using e)
    rw [this,h2] at h;cases h
set_option maxHeartbeats 1000000 in
theorem ocmp_any (x y:EJ) (w:World) :
  Calls Tryz.prog 55 #[.agg (encE x).toArray,.agg (encE y).toArray] w fun e w' => e = .returned (.int .i64 (cfE x y)) ∧ ∃ q os',w' = grow (w.drewN q) os':=by
 obtain ⟨W,hW⟩:∃ W,W = (w.alloc (.cells (encE x).toArray 84)).alloc (.cells (encE y).toArray 84):=⟨_,rfl⟩
 have hc0:W.cell? ⟨w.heap.size,0,none⟩ = some (.string x.1.name):=by
  rw [hW,World.cell?_alloc_old _ _ _ (by simp),World.cell?_alloc_new];rfl
 have hc1:W.cell? ⟨w.heap.size + 1,0,none⟩ = some (.string y.1.name):=by
  have e:(w.alloc (.cells (encE x).toArray 84)).heap.size = w.heap.size + 1:=by simp
  rw [hW,← e,World.cell?_alloc_new];rfl
 have HC:=Lib.hid (fun W => compare_any x.1.name y.1.name W)
 have HCF:Hid (cfE x y = cmpB x.1.name.data.toList y.1.name.data.toList):=Lib.hid rfl
 have HG:Hid (∃ q os',W = grow (w.drewN q) os'):=Lib.hid ⟨0,#[.cells (encE x).toArray 84,.cells (encE y).toArray 84],by rw [hW,alloc_eq_grow,alloc_eq_grow,grow_grow];rfl⟩
 generalize cfE x y = c at HCF ⊢
 generalize encE x = ux at hW ⊢
 generalize encE y = uy at hW ⊢
 go_enter Tryz.func55,Tryz.ntmps55
 go_upto_region 1 with fail
 rw [← hW]
 clear hW
 go_wp2_with fail
 refine (HC.out W).mono ?_
 rintro e w' ⟨rfl,rfl⟩
 go_wp2
 go_ret
 exact ⟨by rw [HCF.out];rfl,HG.out⟩
def Row2 (m:List EJ):Prop:=m.Pairwise fun x y => ltB (nmE y) (nmE x) = false
def StbAns (B:Nat) (q:Value) (l:List EJ) (w:World) (e:Ending) (w':World):Prop :=
 e = .returned (.tuple #[]) ∧ ∃ m:List EJ,m.Perm l ∧ Row2 m ∧ OwnQ w' B 34 q l.length (flatC encE m) ∧ w.grownBy w' q.ownBlock
theorem row2_of (d d':Array EJ) (hp:PermIn 0 d.size d d') (hs:SortedIn (ltOf cfE) 0 d.size d'):d'.size = d.size ∧ d'.toList.Perm d.toList ∧ Row2 d'.toList:=by
 obtain ⟨hsz,_,hperm⟩:=hp
 have e1:d'.extract 0 d.size = d':=by rw [← hsz];exact Array.extract_size
 rw [e1,Array.extract_size] at hperm
 refine ⟨hsz,hperm,?_⟩
 unfold Row2
 rw [List.pairwise_iff_getElem]
 intro i j hi hj hij
 rw [Array.length_toList] at hi hj
 have h:=hs i j (Nat.zero_le _) hij (by rw [← hsz];exact hj)
 rw [ltE,getElem!_pos d' j hj,getElem!_pos d' i hi] at h
 simpa using h
theorem insE_any (B:Nat) (q:Value) (l:List EJ) (w:World) (hq:OwnQ w B 34 q l.length (flatC encE l)) (hn:l.length ≤ 1000000) :
  Calls Tryz.prog 135 #[q,.int .i64 0,.int .i64 (l.length:Int),.func (.func 55) #[] #[]] w (StbAns B q l w):=by
 by_cases h0:l.length = 0
 ·obtain rfl:l = []:=List.eq_nil_of_length_eq_zero h0
  have HQ:=Lib.hid hq
  clear hq h0
  go_enter Tryz.func135,Tryz.ntmps135
  go_wp2
  refine wp_loop_rounds 1 ?_
  rw [rounds_succ]
  go_wp2
  go_end0
  exact ⟨rfl,[],List.Perm.refl _,List.Pairwise.nil,HQ.out,World.grownBy.refl _ _⟩
 ·rcases hq.2 with ⟨_,hz⟩ | ⟨g,off,cap,rfl,hB,hg,hnc,hcm,hth,hr⟩
  ·exact absurd hz h0
  ·have hd:l.toArray.size = l.length:=by simp
   have hH:HoldsK encE 34 w g off l.toArray:=holdsK_row encE 34 encE_len hd hnc hth (by simpa using hr)
   have eg:∀ args w,(callFunc 55 args).run Tryz.prog w = .ok (.enter 55 args) w:=enters_of Tryz.func55 (by kernel_rfl) rfl
   have hS:=AnyQ.insertionSortCmpFunc Tryz.insE 34 (fun w => by kernel_rfl) (fun w => by kernel_rfl) encE encE_len encE_one cfE 55 #[] g off cap 0 l.toArray.size l.toArray w eg
    (fun m os dk _ x y => ocmp_any x y _) hH hg (Nat.zero_le _) (Nat.le_refl _) (by omega)
   have hho:=insertionSort_holds (lt:=ltOf cfE) swoE l.toArray 0 l.toArray.size (Nat.zero_le _) (Nat.le_refl _)
   rw [hd] at hS
   change Calls Tryz.prog 135 #[.slice (some ⟨g,off,none⟩) l.length cap,.int .i64 0,.int .i64 (l.length:Int),.func (.func 55) #[] #[]] _ _ at hS
   refine hS.mono ?_
   rintro e w' ⟨he,nq,os,rfl⟩
   rw [← hd]
   obtain ⟨h1,h2,h3⟩:=row2_of _ _ hho.1 hho.2
   exact ⟨he,_,h2,h3,ownQ_sorted encE 34 encE_len hB hg (by omega) hcm hth h1 (by omega) (by omega),grownBy_sortedK encE 34 _⟩
set_option maxHeartbeats 1000000 in
theorem stable_small (B:Nat) (q:Value) (l:List EJ) (w:World) (hq:OwnQ w B 34 q l.length (flatC encE l)) (hn:l.length < 20) :
  Calls Tryz.prog 122 #[q,.int .i64 (l.length:Int),.func (.func 55) #[] #[]] w (StbAns B q l w):=by
 have HI:=Lib.hid (insE_any B q l w hq (by omega))
 obtain ⟨n,hnn⟩:∃ n,l.length = n:=⟨_,rfl⟩
 rw [hnn] at hn HI ⊢
 have d1:decide ((20:Int) ≤ (n:Int)) = false:=decide_eq_false (by omega)
 have d2:decide ((20:Int) < (n:Int)) = false:=decide_eq_false (by omega)
 clear hnn hq
 go_enter Tryz.func122,Tryz.ntmps122
 go_wp2_with fail
 refine wp_loop_rounds 1 ?_
 rw [rounds_succ]
 go_wp2_with fail
 refine HI.out.mono ?_
 rintro e w1 ⟨rfl,hans⟩
 go_wp2_with fail
 refine wp_loop_rounds 1 ?_
 rw [rounds_succ]
 go_wp2_with fail
 go_end0
 exact ⟨rfl,hans⟩
end Go.Proofs.YtmhjpmenngjmeaaGreatDoor

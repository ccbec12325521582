/- YtmhjpmenngjmeaaGreatDoorR27: texts JK of this claim, in one. -/
import Derived.ChangeOld
import Derived.Deep.SlicePairs
import Derived.LaidLaws
import Derived.LaidMore
import Derived.ProofKit
import Derived.Shelf.SlSortCmp.InsertionK
import Derived.Shelf.Vars
import Derived.SizedLaws
import Derived.Sort.OwnSorted
import Derived.Test.YtmhjpmenngjmeaaGreatDoorR12
namespace Go.Proofs.YtmhjpmenngjmeaaGreatDoor
open Go.RowKit Go.Maps Go.Sort Go.Shelf
set_option maxRecDepth 100000
end Go.Proofs.YtmhjpmenngjmeaaGreatDoor
namespace Go.Proofs.YtmhjpmenngjmeaaGreatDoor
open Go.RowKit Go.Maps Go.Sort
set_option maxRecDepth 100000
end Go.Proofs.YtmhjpmenngjmeaaGreatDoor
namespace Go.Proofs.YtmhjpmenngjmeaaGreatDoor
open Go.RowKit Go.Maps Go.Sort
set_option maxRecDepth 100000
theorem StrMap.mono {w:World} {b n m:Nat} {f:ByteArray → Option ByteArray} (h:StrMap w b n f) (hn:n ≤ m):StrMap w b m f:=by
 obtain ⟨D,h1,h2⟩:=h
 exact ⟨D,h1.mono hn,h2⟩
def two {α:Type} (x y:α) (i:Nat):α:=if i = 0 then x else y
end Go.Proofs.YtmhjpmenngjmeaaGreatDoor
namespace Go.Proofs.YtmhjpmenngjmeaaGreatDoor
open Go.RowKit
set_option maxRecDepth 100000
end Go.Proofs.YtmhjpmenngjmeaaGreatDoor
namespace Go.Proofs.YtmhjpmenngjmeaaGreatDoor
open Go.RowKit Go.ChangeShapes Go.WideShapes
theorem mem_weightsAll {H:Type} {P:Program} {e:TypeId} {n:Nat}:∀ {l:List (DataW H)} {d:DataW H},d ∈ l → n ∈ d.weights P e → n ∈ DataW.weightsAll P e l
 | x :: l,d,hd,hn => by
  rw [DataW.weightsAll,List.mem_append]
  rcases List.mem_cons.1 hd with rfl | hd
  ·exact .inl hn
  ·exact .inr (mem_weightsAll hd hn)
theorem leaf_open {H:Type} {enc:TypeId × Value → H} {W:World} {spare:Nat → Bool} {held:Bool} {fuel:Nat} {cs:List Value} {x:DataW H × List MemPlace}
  (h:DataW.trod enc Tryz.prog W 0 spare held fuel 22 cs = some x):∃ ao len cap l,cs = [.slice ao len cap] ∧ LeafRow W (.slice ao len cap) l ∧ ∀ f ∈ l,f.2.size ∈ x.1.weights Tryz.prog 22:=by
 rcases Go.Deep.open_slice_pairs Tryz.underlying22 Tryz.underlying36 (by kernel_rfl) rfl rfl (by kernel_rfl) (by kernel_rfl) h with ⟨rfl,_⟩ | ⟨a,len,cap,m,n,V0,V1,D0,D1,P0,P1,rfl,_,hl,hm,hmm,rfl,hc⟩
 ·exact ⟨none,0,0,[],rfl,⟨none,0,rfl,by simp,fun h => absurd rfl h⟩,fun f hf => by simp at hf⟩
 ·have hlm:len ≤ m:=by rw [hmm];split <;> omega
  have hex:∀ i,∃ q:Lf,i < len → W.cell? (a.add (i * 2)) = some (.string q.1) ∧ W.cell? (a.add (i * 2 + 1)) = some (.string q.2) ∧ D1 i = .lit (.string q.2.data.toList):=fun i => by
   by_cases hi:i < len
   ·obtain ⟨h1,h2,h3,h4⟩:=hc i (by omega)
    obtain ⟨s0,e0,_,_⟩:=DataW.trod_string Tryz.underlying9 h3
    obtain ⟨s1,e1,e2,_⟩:=DataW.trod_string Tryz.underlying9 h4
    refine ⟨(s0,s1),fun _ => ⟨?_,?_,?_⟩⟩
    ·rw [h1];injection e0 with e;rw [e]
    ·rw [h2];injection e1 with e;rw [e]
    ·exact congrArg Prod.fst e2
   ·exact ⟨(ByteArray.empty,ByteArray.empty),fun h => absurd h hi⟩
  obtain ⟨q,hq⟩:=Classical.axiomOfChoice hex
  refine ⟨some a,len,cap,(List.range len).map q,rfl,?_,?_⟩
  ·refine ⟨some a,cap,by simp,by simp;omega,fun hne => ?_⟩
   have hpos:0 < len:=by
    rcases Nat.eq_zero_or_pos len with h0 | h0
    ·subst h0;simp at hne
    ·exact h0
   obtain ⟨b,off,spot⟩:=a
   have hc0:=(hq 0 hpos).1
   have hspot:spot = none:=by simpa [Addr.add] using World.cell?_spot hc0
   subst hspot
   refine ⟨b,off,rfl,?_,fun i hi j u hu => ?_⟩
   ·exact World.block_lt_of_cell? W _ (by rw [Addr.add_mid] at hc0;exact hc0)
   ·have hi2:i < len:=by simpa using hi
    obtain ⟨h1,h2,_⟩:=hq i hi2
    rw [Addr.add_mid] at h1 h2
    simp only [List.getElem_map,List.getElem_range,leafC] at hu
    rcases j with _ | _ | j
    ·simp at hu;rw [← hu];exact h1
    ·simp at hu;rw [← hu];exact h2
    ·simp at hu
  ·intro f hf
   obtain ⟨i,hi,rfl⟩:=List.mem_map.1 hf
   have hi2:=List.mem_range.1 hi
   obtain ⟨_,_,h3⟩:=hq i hi2
   simp only [DataW.weights,Tryz.underlying22]
   refine List.mem_cons_of_mem _ (List.mem_append.2 (.inl (mem_weightsAll (d:=.agg [D0 i,D1 i]) (List.mem_map.2 ⟨i,hi,rfl⟩) ?_)))
   simp only [DataW.weights,Tryz.underlying36]
   simp [DataW.weightsEach,h3,DataW.weights]
end Go.Proofs.YtmhjpmenngjmeaaGreatDoor

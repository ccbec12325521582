/- A part of this claim. -/
import Derived.Test.YtlhcoanbhnphgaaGreatDoorShelf8
import Derived.Test.YtlhcoanbhnphgaaGreatDoorWm19
import Derived.Test.YtlhcoanbhnphgaaGreatDoorWm21
namespace Go.Proofs.YtlhcoanbhnphgaaGreatDoor
open Tryz
set_option maxHeartbeats 64000000
set_option maxRecDepth 100000
section
open Go.RowKit Go.Sort Go.Shelf Go.Maps
abbrev R33:={ x:Rf // x.2.length = 32 }
instance:Inhabited R33:=⟨⟨(⟨#[]⟩,zid),aV⟩⟩
theorem Ky:∃ zi:Array Value,(∀ w,(zeroValue 42).run prog w = .ok (.agg zi) w) ∧ zi.size = 32:=⟨#[.int .u8 0,.int .u8 0,.int .u8 0,.int .u8 0,.int .u8 0,.int .u8 0,.int .u8 0,.int .u8 0,.int .u8 0,.int .u8 0,.int .u8 0,.int .u8 0,.int .u8 0,.int .u8 0,.int .u8 0,.int .u8 0,.int .u8 0,.int .u8 0,.int .u8 0,.int .u8 0,.int .u8 0,.int .u8 0,.int .u8 0,.int .u8 0,.int .u8 0,.int .u8 0,.int .u8 0,.int .u8 0,.int .u8 0,.int .u8 0,.int .u8 0,.int .u8 0],fun w => by kernel_rfl,rfl⟩
section
variable {P:Program} {ops:Array Oper} {Q:Exit → Act → World → Prop} {S:World → Prop}
end
theorem BX {t l:List Rf} (k:Nat) (h:aR t l = true):∃ V,dx t (l.take k) = some V:=by
 unfold aR at h
 rw [Bool.and_eq_true] at h
 obtain ⟨U,hU⟩:=Option.isSome_iff_exists.1 h.1
 unfold dx at hU ⊢
 cases ht:tabV [] t with
 | none => rw [ht] at hU;cases hU
 | some T =>
  rw [ht] at hU
  have hU:logV T l = some U:=hU
  rw [← List.take_append_drop k l,kK] at hU
  cases hl:logV T (l.take k) with
  | none => rw [hl] at hU;cases hU
  | some V => exact ⟨V,hl⟩
theorem bK.from {w:World} {ao:Option Addr} {n cap:Nat} {l:List Rf} (h:bK w (.slice ao n cap) l) (k:Nat) (hk:k ≤ n) (hcp:n ≤ cap):bK w (.slice (if cap = k then ao else ao.map (fun p:Addr => p.add (k * 33))) (n - k) (cap - k)) (l.drop k):=by
 obtain ⟨a2,c2,e,hm,hc⟩:=h
 rw [List.length_map] at e hm
 injection e with e1 e2 e3
 subst e1 e2 e3
 refine ⟨_,cap - k,by rw [List.length_map,List.length_drop],by rw [List.length_map,List.length_drop];omega,fun hne => ?_⟩
 have hkl:k < l.length:=by
  apply Nat.lt_of_not_ge
  intro h
  exact hne (by rw [List.drop_eq_nil_of_le h];rfl)
 obtain ⟨b,off,rfl,hb,hr⟩:=hc (by
  intro e
  have:=congrArg List.length e
  rw [List.length_map] at this
  simp at this
  rw [this] at hkl
  simp at hkl)
 rw [if_neg (by omega)]
 refine ⟨b,off + k * 33,by rw [Option.map_some,Addr.add_mid],hb,fun i hi j u hu => ?_⟩
 rw [List.length_map,List.length_drop] at hi
 have:=hr (k + i) (by rw [List.length_map];omega) j u (by
  rw [List.getElem_map] at hu ⊢
  rw [List.getElem_drop] at hu
  exact hu)
 rw [show off + k * 33 + i * 33 + j = off + (k + i) * 33 + j from by omega]
 exact this
theorem rV {P:Program} {fn:Func} {R:Ending → World → Prop} {a:Act} {w:World} {p q:Tmp} {ty:TypeId} (h:fn.results = #[.cell p ty,.tmp q]) (b o:Nat)
  (hp:a.tmps.getD p undef = .pointer (some ⟨b,o,none⟩)) (cs:List Value) (d:TypeDesc) (hc:w.rangeAt b o cs)
  (hu:P.underlying ty = some d) (hd:d.isRow = true) (hi:(P.info? ty).map (·.size) = some cs.length) (hdef:a.defers = []) (u:Value) (hq:a.tmps.getD q undef = u) (hR:R (.returned (.tuple #[.agg cs.toArray,u])) w):bodyPost P fn R .ret a w:=by
 refine bodyPost_ret (v:=.tuple #[.agg cs.toArray,u]) ?_ hdef hR
 have:=run_loadVar_mid (P:=P) w b o ty cs d hc hu hd hi
 simp only [results,h]
 rw [Array.getD_eq_getD_getElem?] at hp hq
 simp [asAddr,hp,hq,this]
end
end Go.Proofs.YtlhcoanbhnphgaaGreatDoor

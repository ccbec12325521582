/- A part of this claim. -/
namespace Go.Proofs.YtlhcoanbhnphgaaGreatDoor
set_option maxHeartbeats 64000000
set_option maxRecDepth 100000
section
abbrev Idl:=List UInt8
structure Cmt where
 tree:Idl
 pars:List Idl
 text:ByteArray
section
variable (cm:Idl → Option Cmt)
def par (x:Idl):List Idl:=match cm x with
 | some c => c.pars
 | none => []
inductive Reach:Idl → Idl → Prop
 | refl (x):Reach x x
 | tail {x y z} (h:Reach x y) (hz:z ∈ par cm y):Reach x z
variable {cm}
theorem Reach.trans {x y z:Idl} (h:Reach cm x y) (k:Reach cm y z):Reach cm x z:=by
 induction k with
 | refl => exact h
 | tail _ hz ih => exact ih.tail hz
theorem Reach.one {x y:Idl} (h:y ∈ par cm x):Reach cm x y:=(Reach.refl x).tail h
theorem Reach.head {x y z:Idl} (h:y ∈ par cm x) (k:Reach cm y z):Reach cm x z:=(Reach.one h).trans k
theorem Reach.BS {x z:Idl} (h:Reach cm x z):x = z ∨ ∃ y,y ∈ par cm x ∧ Reach cm y z:=by
 induction h with
 | refl => exact .inl rfl
 | tail _ hz ih =>
  rcases ih with rfl | ⟨y,hy,h⟩
  ·exact .inr ⟨_,hz,.refl _⟩
  exact .inr ⟨y,hy,h.tail hz⟩
variable (cm)
structure yg (id:Idl) (S:List Idl):Prop where
 nodup:S.Nodup
 mem:∀ x,x ∈ S ↔ Reach cm id x
 there:∀ x,x ∈ S → (cm x).isSome = true
def Je (id:Idl):Prop:=∃ x,Reach cm id x ∧ cm x = none
theorem Je.not {cm:Idl → Option Cmt} {id:Idl} {S:List Idl} (h:Je cm id) (k:yg cm id S):False:=by
 obtain ⟨x,hx,hn⟩:=h
 have:=k.there x ((k.mem x).2 hx)
 rw [hn] at this;cases this
structure Bfs (id:Idl) (V:Idl → Prop) (Q:List Idl):Prop where
 vis:∀ v,V v → (cm v).isSome = true ∧ Reach cm id v
 que:∀ q ∈ Q,Reach cm id q
 root:V id ∨ id ∈ Q
 shut:∀ v,V v → ∀ p ∈ par cm v,V p ∨ p ∈ Q
variable {cm}
theorem Bfs.skip {id x:Idl} {V:Idl → Prop} {Q:List Idl} (h:Bfs cm id V (x :: Q)) (hx:V x):Bfs cm id V Q:=by
 refine ⟨h.vis,fun q hq => h.que q (List.mem_cons_of_mem _ hq),?_,fun v hv p hp => ?_⟩
 ·rcases h.root with h1 | h1
  ·exact .inl h1
  rcases List.mem_cons.1 h1 with rfl | h2
  ·exact .inl hx
  exact .inr h2
 rcases h.shut v hv p hp with h1 | h1
 ·exact .inl h1
 rcases List.mem_cons.1 h1 with rfl | h2
 ·exact .inl hx
 exact .inr h2
theorem Bfs.take {id x:Idl} {V W:Idl → Prop} {Q:List Idl} {c:Cmt} (h:Bfs cm id V (x :: Q)) (hc:cm x = some c) (hW:∀ y,W y ↔ V y ∨ y = x):Bfs cm id W (Q ++ c.pars):=by
 have hp:par cm x = c.pars:=by unfold par;rw [hc]
 have hx:Reach cm id x:=h.que x (by simp)
 refine ⟨fun v hv => ?_,fun q hq => ?_,?_,fun v hv p hpp => ?_⟩
 ·rcases (hW v).1 hv with h1 | rfl
  ·exact h.vis v h1
  exact ⟨by rw [hc];rfl,hx⟩
 ·rcases List.mem_append.1 hq with h1 | h1
  ·exact h.que q (List.mem_cons_of_mem _ h1)
  exact hx.tail (by rw [hp];exact h1)
 ·rcases h.root with h1 | h1
  ·exact .inl ((hW _).2 (.inl h1))
  rcases List.mem_cons.1 h1 with rfl | h2
  ·exact .inl ((hW _).2 (.inr rfl))
  exact .inr (List.mem_append_left _ h2)
 rcases (hW v).1 hv with h1 | rfl
 ·rcases h.shut v h1 p hpp with h2 | h2
  ·exact .inl ((hW _).2 (.inl h2))
  rcases List.mem_cons.1 h2 with rfl | h3
  ·exact .inl ((hW _).2 (.inr rfl))
  exact .inr (List.mem_append_left _ h3)
 exact .inr (List.mem_append_right _ (by rw [← hp];exact hpp))
theorem Bfs.done {id : Idl} {V : Idl → Prop} (h : Bfs cm id V []) (x : Idl) : V x ↔ Reach cm id x := by
  refine ⟨fun hx => (h.vis x hx).2, fun hx => ?_⟩
  induction hx with
  | refl => rcases h.root with h1 | h1
            · exact h1
            · cases h1
  | tail _ hz ih =>
    rcases h.shut _ ih _ hz with h1 | h1
    · exact h1
    · cases h1
def Acyc (cm:Idl → Option Cmt):Prop:=∀ x y,y ∈ par cm x → ¬ Reach cm y x
def AU (cm:Idl → Option Cmt) (L T:List Idl) (x:Idl):Bool:=L.all (fun y => !(par cm y).contains x || T.contains y) && !T.contains x
theorem AR {L T:List Idl} {x:Idl}:AU cm L T x = true ↔ (∀ y ∈ L,x ∈ par cm y → y ∈ T) ∧ x ∉ T:=by
 unfold AU
 simp only [Bool.and_eq_true,List.all_eq_true,Bool.or_eq_true,Bool.not_eq_true',List.contains_eq_mem,decide_eq_true_eq,decide_eq_false_iff_not]
 constructor
 ·rintro ⟨h1,h2⟩
  exact ⟨fun y hy hx => (h1 y hy).resolve_left (fun h => h hx),h2⟩
 rintro ⟨h1,h2⟩
 exact ⟨fun y hy => by
  by_cases hx:x ∈ par cm y
  ·exact .inr (h1 y hy hx)
  exact .inl hx,h2⟩
structure ow (cm:Idl → Option Cmt) (L T:List Idl):Prop where
 nodup:T.Nodup
 sub:∀ x ∈ T,x ∈ L
 ahead:∀ i (h:i < T.length),∀ y ∈ L,T[i] ∈ par cm y → y ∈ T.take i
theorem ow.nil (L:List Idl):ow cm L []:=⟨List.nodup_nil,fun _ h => (by cases h),fun i h => by simp at h⟩
theorem ow.step {L T:List Idl} {x:Idl} (h:ow cm L T) (hx:x ∈ L) (hr:AU cm L T x = true):ow cm L (T ++ [x]):=by
 obtain ⟨h1,h2⟩:=AR.1 hr
 refine ⟨?_,fun y hy => ?_,fun i hi y hy hp => ?_⟩
 ·rw [List.nodup_append]
  exact ⟨h.nodup,by simp,fun a ha b hb e => h2 (by rw [List.mem_singleton.1 hb] at e;rw [← e];exact ha)⟩
 ·rcases List.mem_append.1 hy with h3 | h3
  ·exact h.sub y h3
  rw [List.mem_singleton.1 h3];exact hx
 by_cases hlt:i < T.length
 ·rw [List.take_append_of_le_length (Nat.le_of_lt hlt)]
  rw [List.getElem_append_left hlt] at hp
  exact h.ahead i hlt y hy hp
 have he:i = T.length:=by simp at hi;omega
 subst he
 rw [List.take_left]
 rw [List.getElem_append_right (Nat.le_refl _)] at hp
 simp at hp
 exact h1 y hy hp
def Dc (cm:Idl → Option Cmt) (x y:Idl):Prop:=x ≠ y ∧ Reach cm y x
theorem Acyc.anti (ha:Acyc cm) {x y:Idl} (h1:Reach cm x y) (h2:Reach cm y x):x = y:=by
 rcases h1.BS with e | ⟨p,hp,h3⟩
 ·exact e
 exact absurd (h3.trans h2) (ha x p hp)
theorem Dc.trans (ha:Acyc cm) {x y z:Idl} (h1:Dc cm x y) (h2:Dc cm y z):Dc cm x z :=
 ⟨fun e => h1.1 (ha.anti (e ▸ h2.2) h1.2),h2.2.trans h1.2⟩
end
end
end Go.Proofs.YtlhcoanbhnphgaaGreatDoor

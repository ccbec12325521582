/- YtbmiiiccnoiffaaGreatDoorC1: texts G0 of this claim, in one. -/
namespace Go.Proofs.YtbmiiiccnoiffaaGreatDoor
abbrev Idl:=List UInt8
structure Cmt where
 tree:Idl
 pars:List Idl
 text:ByteArray
section
variable (cm:Idl → Option Cmt)
def par (x:Idl):List Idl:=match cm x with
 | some c => c.pars
 | none => []
inductive Reach:Idl → Idl → Prop
 | refl (x):Reach x x
 | tail {x y z} (h:Reach x y) (hz:z ∈ par cm y):Reach x z
variable {cm}
theorem Reach.trans {x y z:Idl} (h:Reach cm x y) (k:Reach cm y z):Reach cm x z:=by
 induction k with
 | refl => exact h
 | tail _ hz ih => exact ih.tail hz
theorem Reach.one {x y:Idl} (h:y ∈ par cm x):Reach cm x y:=(Reach.refl x).tail h
theorem Reach.head {x y z:Idl} (h:y ∈ par cm x) (k:Reach cm y z):Reach cm x z:=(Reach.one h).trans k
theorem Reach.cases_head {x z:Idl} (h:Reach cm x z):x = z ∨ ∃ y,y ∈ par cm x ∧ Reach cm y z:=by
 induction h with
 | refl => exact .inl rfl
 | tail _ hz ih =>
  rcases ih with rfl | ⟨y,hy,h⟩
  ·exact .inr ⟨_,hz,.refl _⟩
  ·exact .inr ⟨y,hy,h.tail hz⟩
variable (cm)
structure IsLine (id:Idl) (S:List Idl):Prop where
 nodup:S.Nodup
 mem:∀ x,x ∈ S ↔ Reach cm id x
 there:∀ x,x ∈ S → (cm x).isSome = true
def NoLine (id:Idl):Prop:=∃ x,Reach cm id x ∧ cm x = none
theorem NoLine.not {cm:Idl → Option Cmt} {id:Idl} {S:List Idl} (h:NoLine cm id) (k:IsLine cm id S):False:=by
 obtain ⟨x,hx,hn⟩:=h
 have:=k.there x ((k.mem x).2 hx)
 rw [hn] at this;cases this
structure Bfs (id:Idl) (V:Idl → Prop) (Q:List Idl):Prop where
 vis:∀ v,V v → (cm v).isSome = true ∧ Reach cm id v
 que:∀ q ∈ Q,Reach cm id q
 root:V id ∨ id ∈ Q
 shut:∀ v,V v → ∀ p ∈ par cm v,V p ∨ p ∈ Q
theorem Bfs.start (id:Idl):Bfs cm id (fun _ => False) [id] :=
 ⟨fun _ h => h.elim,fun q h => by rw [List.mem_singleton.1 h];exact .refl _,.inr (by simp),fun _ h => h.elim⟩
variable {cm}
theorem Bfs.skip {id x:Idl} {V:Idl → Prop} {Q:List Idl} (h:Bfs cm id V (x :: Q)) (hx:V x):Bfs cm id V Q:=by
 refine ⟨h.vis,fun q hq => h.que q (List.mem_cons_of_mem _ hq),?_,fun v hv p hp => ?_⟩
 ·rcases h.root with h1 | h1
  ·exact .inl h1
  ·rcases List.mem_cons.1 h1 with rfl | h2
   ·exact .inl hx
   ·exact .inr h2
 ·rcases h.shut v hv p hp with h1 | h1
  ·exact .inl h1
  ·rcases List.mem_cons.1 h1 with rfl | h2
   ·exact .inl hx
   ·exact .inr h2
theorem Bfs.take {id x:Idl} {V W:Idl → Prop} {Q:List Idl} {c:Cmt} (h:Bfs cm id V (x :: Q)) (hc:cm x = some c) (hW:∀ y,W y ↔ V y ∨ y = x):Bfs cm id W (Q ++ c.pars):=by
 have hp:par cm x = c.pars:=by unfold par;rw [hc]
 have hx:Reach cm id x:=h.que x (by simp)
 refine ⟨fun v hv => ?_,fun q hq => ?_,?_,fun v hv p hpp => ?_⟩
 ·rcases (hW v).1 hv with h1 | rfl
  ·exact h.vis v h1
  ·exact ⟨by rw [hc];rfl,hx⟩
 ·rcases List.mem_append.1 hq with h1 | h1
  ·exact h.que q (List.mem_cons_of_mem _ h1)
  ·exact hx.tail (by rw [hp];exact h1)
 ·rcases h.root with h1 | h1
  ·exact .inl ((hW _).2 (.inl h1))
  ·rcases List.mem_cons.1 h1 with rfl | h2
   ·exact .inl ((hW _).2 (.inr rfl))
   ·exact .inr (List.mem_append_left _ h2)
 ·rcases (hW v).1 hv with h1 | rfl
  ·rcases h.shut v h1 p hpp with h2 | h2
   ·exact .inl ((hW _).2 (.inl h2))
   ·rcases List.mem_cons.1 h2 with rfl | h3
    ·exact .inl ((hW _).2 (.inr rfl))
    ·exact .inr (List.mem_append_left _ h3)
  ·exact .inr (List.mem_append_right _ (by rw [← hp];exact hpp))
theorem Bfs.stop {id x:Idl} {V:Idl → Prop} {Q:List Idl} (h:Bfs cm id V (x :: Q)) (hc:cm x = none):NoLine cm id:=⟨x,h.que x (by simp),hc⟩
theorem Bfs.done {id : Idl} {V : Idl → Prop} (h : Bfs cm id V []) (x : Idl) : V x ↔ Reach cm id x := by
  refine ⟨fun hx => (h.vis x hx).2, fun hx => ?_⟩
  induction hx with
  | refl => rcases h.root with h1 | h1
            · exact h1
            · cases h1
  | tail _ hz ih =>
    rcases h.shut _ ih _ hz with h1 | h1
    · exact h1
    · cases h1
theorem Bfs.line {id:Idl} {V:Idl → Prop} {S:List Idl} (h:Bfs cm id V []) (hn:S.Nodup) (hS:∀ x,x ∈ S ↔ V x):IsLine cm id S :=
 ⟨hn,fun x => by rw [hS,h.done],fun x hx => (h.vis x ((hS x).1 hx)).1⟩
def Acyc (cm:Idl → Option Cmt):Prop:=∀ x y,y ∈ par cm x → ¬ Reach cm y x
open Classical in
noncomputable def height (cm:Idl → Option Cmt) (S:List Idl) (x:Idl):Nat:=(S.filter fun y => decide (Reach cm x y)).length
theorem height_le (S:List Idl) (x:Idl):height cm S x ≤ S.length:=List.length_filter_le _ _
theorem filter_lt {α:Type} (p q:α → Bool) (l:List α) (x:α) (hx:x ∈ l) (hq:q x = true) (hp:p x = false) (h:∀ y,p y = true → q y = true):(l.filter p).length < (l.filter q).length:=by
 induction l with
 | nil => cases hx
 | cons a l ih =>
  have hle:(l.filter p).length ≤ (l.filter q).length:=by
   clear ih hx
   induction l with
   | nil => exact Nat.le_refl _
   | cons b l ih =>
    by_cases hb:p b = true
    ·simp [hb,h b hb,ih]
    ·cases hb':q b <;> simp [hb,hb',ih];omega
  rcases List.mem_cons.1 hx with rfl | h2
  ·simp [hp,hq];omega
  ·have:=ih h2
   by_cases ha:p a = true
   ·simp [ha,h a ha,this]
   ·cases hb':q a <;> simp [ha,hb',this];omega
theorem height_par (ha:Acyc cm) {S:List Idl} {x y:Idl} (hx:x ∈ S) (hy:y ∈ par cm x):height cm S y < height cm S x:=by
 classical
 refine filter_lt _ _ S x hx (by simp [Reach.refl]) (by simpa using ha x y hy) fun z hz => ?_
 have:=of_decide_eq_true hz
 exact decide_eq_true (Reach.head hy this)
theorem height_pos {S:List Idl} {x:Idl} (hx:x ∈ S):0 < height cm S x:=by
 classical
 unfold height
 exact List.length_pos_of_mem (List.mem_filter.2 ⟨hx,decide_eq_true (.refl _)⟩)
theorem max_of {α:Type} (f:α → Nat):∀ (l:List α),l ≠ [] → ∃ x ∈ l,∀ y ∈ l,f y ≤ f x
 | [],h => absurd rfl h
 | a :: l,_ => by
  by_cases hl:l = []
  ·subst hl;exact ⟨a,by simp,fun y hy => by rw [List.mem_singleton.1 hy];exact Nat.le_refl _⟩
  ·obtain ⟨x,hx,h⟩:=max_of f l hl
   by_cases hax:f x ≤ f a
   ·exact ⟨a,by simp,fun y hy => by
     rcases List.mem_cons.1 hy with rfl | h2
     ·exact Nat.le_refl _
     ·exact Nat.le_trans (h y h2) hax⟩
   ·exact ⟨x,List.mem_cons_of_mem _ hx,fun y hy => by
     rcases List.mem_cons.1 hy with rfl | h2
     ·omega
     ·exact h y h2⟩
def readyB (cm:Idl → Option Cmt) (L T:List Idl) (x:Idl):Bool:=L.all (fun y => !(par cm y).contains x || T.contains y) && !T.contains x
theorem readyB_iff {L T:List Idl} {x:Idl}:readyB cm L T x = true ↔ (∀ y ∈ L,x ∈ par cm y → y ∈ T) ∧ x ∉ T:=by
 unfold readyB
 simp only [Bool.and_eq_true,List.all_eq_true,Bool.or_eq_true,Bool.not_eq_true',List.contains_eq_mem,decide_eq_true_eq,decide_eq_false_iff_not]
 constructor
 ·rintro ⟨h1,h2⟩
  exact ⟨fun y hy hx => (h1 y hy).resolve_left (fun h => h hx),h2⟩
 ·rintro ⟨h1,h2⟩
  exact ⟨fun y hy => by
   by_cases hx:x ∈ par cm y
   ·exact .inr (h1 y hy hx)
   ·exact .inl hx,h2⟩
def logStep (cm:Idl → Option Cmt) (L T:List Idl):List Idl:=match L.find? (readyB cm L T) with
 | some x => T ++ [x]
 | none => T
def logN (cm:Idl → Option Cmt) (L:List Idl):Nat → List Idl
 | 0 => []
 | n + 1 => logStep cm L (logN cm L n)
def logOf (cm:Idl → Option Cmt) (L:List Idl):List Idl:=logN cm L L.length
structure Telling (cm:Idl → Option Cmt) (L T:List Idl):Prop where
 nodup:T.Nodup
 sub:∀ x ∈ T,x ∈ L
 ahead:∀ i (h:i < T.length),∀ y ∈ L,T[i] ∈ par cm y → y ∈ T.take i
theorem Telling.nil (L:List Idl):Telling cm L []:=⟨List.nodup_nil,fun _ h => (by cases h),fun i h => by simp at h⟩
theorem Telling.step {L T:List Idl} {x:Idl} (h:Telling cm L T) (hx:x ∈ L) (hr:readyB cm L T x = true):Telling cm L (T ++ [x]):=by
 obtain ⟨h1,h2⟩:=readyB_iff.1 hr
 refine ⟨?_,fun y hy => ?_,fun i hi y hy hp => ?_⟩
 ·rw [List.nodup_append]
  exact ⟨h.nodup,by simp,fun a ha b hb e => h2 (by rw [List.mem_singleton.1 hb] at e;rw [← e];exact ha)⟩
 ·rcases List.mem_append.1 hy with h3 | h3
  ·exact h.sub y h3
  ·rw [List.mem_singleton.1 h3];exact hx
 ·by_cases hlt:i < T.length
  ·rw [List.take_append_of_le_length (Nat.le_of_lt hlt)]
   rw [List.getElem_append_left hlt] at hp
   exact h.ahead i hlt y hy hp
  ·have he:i = T.length:=by simp at hi;omega
   subst he
   rw [List.take_left]
   rw [List.getElem_append_right (Nat.le_refl _)] at hp
   simp at hp
   exact h1 y hy hp
theorem logStep_telling {L T:List Idl} (h:Telling cm L T):Telling cm L (logStep cm L T):=by
 unfold logStep
 split
 ·rename_i x hx
  exact h.step (List.mem_of_find?_eq_some hx) (List.find?_some hx)
 ·exact h
theorem logN_telling (L:List Idl):∀ n,Telling cm L (logN cm L n)
 | 0 => Telling.nil L
 | n + 1 => logStep_telling (logN_telling L n)
theorem nodup_sub_len {α:Type} [DecidableEq α]:∀ (T L:List α),T.Nodup → (∀ x ∈ T,x ∈ L) → T.length ≤ L.length
 | [],_,_,_ => Nat.zero_le _
 | a :: T,L,hn,hs => by
  have ha:a ∈ L:=hs a (by simp)
  have h1:=nodup_sub_len T (L.erase a) (List.nodup_cons.1 hn).2 (fun x hx => (List.mem_erase_of_ne (fun e => (List.nodup_cons.1 hn).1 (by rw [← e];exact hx))).2 (hs x (List.mem_cons_of_mem _ hx)))
  have h2:=List.length_erase_of_mem ha
  have h3:=List.length_pos_of_mem ha
  simp;omega
theorem ready_ex (ha:Acyc cm) {L T:List Idl} (hl:T.length < L.length) (hn:L.Nodup):∃ x ∈ L,readyB cm L T x = true:=by
 have hne:L.filter (fun x => decide (x ∉ T)) ≠ []:=by
  intro h
  have:∀ x ∈ L,x ∈ T:=fun x hx => by
   by_cases hx':x ∈ T
   ·exact hx'
   ·have:=List.filter_eq_nil_iff.1 h x hx
    simp [hx'] at this
  have:=nodup_sub_len L T hn this
  omega
 obtain ⟨x,hx,hm⟩:=max_of (height cm L) _ hne
 obtain ⟨hxL,hxT⟩:=List.mem_filter.1 hx
 refine ⟨x,hxL,readyB_iff.2 ⟨fun y hy hp => ?_,by simpa using hxT⟩⟩
 by_cases hyT:y ∈ T
 ·exact hyT
 ·have h1:=hm y (List.mem_filter.2 ⟨hy,by simpa using hyT⟩)
  have h2:=height_par ha hy hp
  omega
theorem find_ex {α:Type} (p:α → Bool) (l:List α) (h:∃ x ∈ l,p x = true):∃ x,l.find? p = some x:=by
 obtain ⟨x,hx,hp⟩:=h
 cases e:l.find? p with
 | some y => exact ⟨y,rfl⟩
 | none => exact absurd hp (by simpa using List.find?_eq_none.1 e x hx)
theorem logN_len (ha:Acyc cm) {L:List Idl} (hn:L.Nodup):∀ n,n ≤ L.length → (logN cm L n).length = n
 | 0,_ => rfl
 | n + 1,h => by
  have ih:=logN_len ha hn n (by omega)
  obtain ⟨x,hx⟩:=find_ex _ _ (ready_ex (T:=logN cm L n) ha (by omega) hn)
  show (logStep cm L (logN cm L n)).length = n + 1
  unfold logStep
  rw [hx];simp [ih]
theorem logOf_telling (L:List Idl):Telling cm L (logOf cm L):=logN_telling L _
theorem logOf_len (ha:Acyc cm) {L:List Idl} (hn:L.Nodup):(logOf cm L).length = L.length:=logN_len ha hn _ (Nat.le_refl _)
theorem mem_of_len {α:Type} [DecidableEq α] {T L:List α} (hn:T.Nodup) (hs:∀ x ∈ T,x ∈ L) (hl:L.length ≤ T.length):∀ x ∈ L,x ∈ T:=by
 intro x hx
 by_cases h:x ∈ T
 ·exact h
 ·have:=nodup_sub_len (x :: T) L (List.nodup_cons.2 ⟨h,hn⟩) (fun y hy => by
   rcases List.mem_cons.1 hy with rfl | h2
   ·exact hx
   ·exact hs y h2)
  simp at this;omega
theorem logOf_mem (ha:Acyc cm) {L:List Idl} (hn:L.Nodup) (x:Idl):x ∈ logOf cm L ↔ x ∈ L :=
 ⟨fun h => (logOf_telling L).sub x h,fun h => mem_of_len (logOf_telling L).nodup (logOf_telling L).sub (by rw [logOf_len ha hn];exact Nat.le_refl _) x h⟩
def ageN (cm:Idl → Option Cmt):Nat → Idl → Nat
 | 0,_ => 0
 | n + 1,x => ((par cm x).map (ageN cm n)).foldl max 0 + 1
theorem foldl_max_lub (l:List Nat) (m:Nat):∀ a,a ≤ m → (∀ x ∈ l,x ≤ m) → l.foldl max a ≤ m:=by
 induction l with
 | nil => exact fun a h _ => h
 | cons b l ih => exact fun a h h2 => ih _ (Nat.max_le.2 ⟨h,h2 b (by simp)⟩) fun x hx => h2 x (List.mem_cons_of_mem _ hx)
theorem ageN_stable (ha:Acyc cm) {S:List Idl} (hS:∀ x ∈ S,∀ y ∈ par cm x,y ∈ S):∀ n m x,x ∈ S → height cm S x ≤ n → height cm S x ≤ m → ageN cm n x = ageN cm m x
 | 0,_,x,hx,h,_ => by have:=height_pos (cm:=cm) hx;omega
 | _,0,x,hx,_,h => by have:=height_pos (cm:=cm) hx;omega
 | n + 1,m + 1,x,hx,h1,h2 => by
  unfold ageN
  congr 2
  refine List.map_congr_left fun y hy => ?_
  have:=height_par ha hx hy
  exact ageN_stable ha hS n m y (hS x hx y hy) (by omega) (by omega)
def ageOf (cm:Idl → Option Cmt) (x:Idl):Nat:=ageN cm 1000 x
theorem ageOf_eq (ha:Acyc cm) {S:List Idl} (hS:∀ x ∈ S,∀ y ∈ par cm x,y ∈ S) (hl:S.length ≤ 1000) {x:Idl} (hx:x ∈ S):ageOf cm x = ((par cm x).map (ageOf cm)).foldl max 0 + 1:=by
 have h1:=height_le (cm:=cm) S x
 show ageN cm 1000 x = _
 rw [show ageN cm 1000 x = ageN cm 1001 x from ageN_stable ha hS _ _ x hx (by omega) (by omega)]
 rfl
theorem age_height (ha:Acyc cm) {S:List Idl} (hS:∀ x ∈ S,∀ y ∈ par cm x,y ∈ S) (hl:S.length ≤ 1000):∀ n x,x ∈ S → height cm S x ≤ n → ageOf cm x ≤ height cm S x
 | 0,x,hx,h => by have:=height_pos (cm:=cm) hx;omega
 | n + 1,x,hx,h => by
  rw [ageOf_eq ha hS hl hx]
  have hp:=height_pos (cm:=cm) hx
  have:((par cm x).map (ageOf cm)).foldl max 0 ≤ height cm S x - 1:=foldl_max_lub _ _ _ (Nat.zero_le _) fun m hm => by
   obtain ⟨y,hy,rfl⟩:=List.mem_map.1 hm
   have h1:=height_par ha hx hy
   have h2:=age_height ha hS hl n y (hS x hx y hy) (by omega)
   omega
  omega
theorem age_le (ha:Acyc cm) {S:List Idl} (hS:∀ x ∈ S,∀ y ∈ par cm x,y ∈ S) (hl:S.length ≤ 1000) {x:Idl} (hx:x ∈ S):ageOf cm x ≤ S.length:=Nat.le_trans (age_height ha hS hl _ x hx (Nat.le_refl _)) (height_le S x)
theorem age_pos (ha:Acyc cm) {S:List Idl} (hS:∀ x ∈ S,∀ y ∈ par cm x,y ∈ S) (hl:S.length ≤ 1000) {x:Idl} (hx:x ∈ S):1 ≤ ageOf cm x:=by rw [ageOf_eq ha hS hl hx];omega
def Older (cm:Idl → Option Cmt) (x y:Idl):Prop:=x ≠ y ∧ Reach cm y x
theorem Acyc.anti (ha:Acyc cm) {x y:Idl} (h1:Reach cm x y) (h2:Reach cm y x):x = y:=by
 rcases h1.cases_head with e | ⟨p,hp,h3⟩
 ·exact e
 ·exact absurd (h3.trans h2) (ha x p hp)
theorem Older.trans (ha:Acyc cm) {x y z:Idl} (h1:Older cm x y) (h2:Older cm y z):Older cm x z :=
 ⟨fun e => h1.1 (ha.anti (e ▸ h2.2) h1.2),h2.2.trans h1.2⟩
end
end Go.Proofs.YtbmiiiccnoiffaaGreatDoor

/-
  Insertion sort of increasing places by a weak order is their order by rank.
  No condition.
-/
import Derived.Sort.LotA
import Derived.Test.YtifconapjfdkcaaGreatDoorBAA
namespace Go.Proofs.YtifconapjfdkcaaGreatDoor
set_option linter.unusedSimpArgs false
set_option linter.unusedVariables false
open Go
section
variable {α : Type} {lt : α → α → Bool}
theorem place_count (hi : ∀ x,lt x x=false) (ha : ∀ x y,lt x y=true→lt y x=false) (ht : ∀ x y,x≠y→lt x y=true∨lt y x=true) :
 ∀ {o:List α},o.Nodup→(∀ (i j:Nat) (hij:i<j) (hj:j<o.length),lt o[j] (o[i]'(by omega))=false) → ∀ (p:Nat) (hp:p<o.length),o.countP (fun y=>lt y o[p])=p
 | [],_,_,p,hp=>by simp at hp
 | a::o,hn,hs,p,hp=>by
  have hna:a ∉ o:=(List.nodup_cons.1 hn).1
  have hno:o.Nodup:=(List.nodup_cons.1 hn).2
  have hs' : ∀ (i j:Nat) (hij:i<j) (hj:j<o.length),lt o[j] (o[i]'(by omega))=false:=fun i j hij hj=>by
   have:=hs (i+1) (j+1) (by omega) (by simpa using hj)
   simpa using this
  have hfirst : ∀ y∈o,lt y a=false:=fun y hy=>by
   obtain ⟨j,hj,rfl⟩:=List.getElem_of_mem hy
   have:=hs 0 (j+1) (by omega) (by simpa using hj)
   simpa using this
  rcases p with _ | p
  ·show (a::o).countP (fun y=>lt y a)=0
   rw [List.countP_cons,hi a,List.countP_eq_zero.2 fun y hy=>by rw [hfirst y hy];simp]
   simp
  ·have hp':p<o.length:=by simpa using hp
   have hm:o[p]∈o:=List.getElem_mem hp'
   have hlt:lt a o[p]=true:=by
    rcases ht a o[p] (fun e=>hna (e▸hm)) with h | h
    ·exact h
    ·rw [hfirst _ hm] at h;cases h
   show (a::o).countP (fun y=>lt y o[p])=p+1
   rw [List.countP_cons,place_count hi ha ht hno hs' p hp',hlt]
   simp
end
def tieB (lt:Int→Int→Bool) (x y:Int):Bool:=lt x y||(!lt y x&&decide (x<y))
theorem tie_of {lt:Int→Int→Bool} {x y:Int} (h:y<x):tieB lt x y=lt x y:=by
 unfold tieB
 rw [decide_eq_false (by omega),Bool.and_false,Bool.or_false]
theorem swp_size {α : Type} [Inhabited α] (d:Array α) (i j:Nat):(Sort.swp d i j).size=d.size:=by unfold Sort.swp;simp
theorem swp_get {α : Type} [Inhabited α] (d:Array α) {i j:Nat} (hi:i<d.size) (hj:j<d.size) (p:Nat):(Sort.swp d i j)[p]! = if p=j then d[i]! else if p=i then d[j]! else d[p]! :=by
 unfold Sort.swp
 rw [Array.getElem!_eq_getD,Array.getElem!_eq_getD,Array.getElem!_eq_getD,Array.getElem!_eq_getD,Array.getD_eq_getD_getElem?,Array.getD_eq_getD_getElem?,Array.getD_eq_getD_getElem?,Array.getD_eq_getD_getElem?,Array.getElem?_setIfInBounds,Array.getElem?_setIfInBounds]
 by_cases h1:j=p
 ·subst h1
  rw [if_pos rfl,if_pos rfl,if_pos (by rw [Array.size_setIfInBounds];exact hj)]
  simp [hi]
 ·rw [if_neg h1,if_neg (show ¬p=j from fun e=>h1 e.symm)]
  by_cases h2:i=p
  ·subst h2
   rw [if_pos rfl,if_pos rfl,if_pos hi]
   simp [hj]
  ·rw [if_neg h2,if_neg (show ¬p=i from fun e=>h2 e.symm)]
theorem outer_step (lt:Int→Int→Bool) {b i:Nat} (d:Array Int) (h:i<b):Sort.insOuter lt 0 b i d=Sort.insOuter lt 0 b (i+1) (Sort.insInner lt 0 i d):=by rw [Sort.insOuter,if_pos h]
theorem outer_end (lt:Int→Int→Bool) {b i:Nat} (d:Array Int) (h : ¬i<b):Sort.insOuter lt 0 b i d=d:=by rw [Sort.insOuter,if_neg h]
section
variable (lt:Int→Int→Bool)
theorem inner_size : ∀ (j:Nat) (d:Array Int),(Sort.insInner lt 0 j d).size=d.size
 | 0,d=>rfl
 | j+1,d=>by
  rw [Sort.insInner]
  split
  ·rw [inner_size j,swp_size]
  ·rfl
theorem inner_eq : ∀ (j:Nat) (d:Array Int),j<d.size→(∀ p,p<j→d[p]! < d[j]!)→Sort.insInner lt 0 j d=Sort.insInner (tieB lt) 0 j d
 | 0,d,_,_=>rfl
 | j+1,d,hj,h=>by
  rw [Sort.insInner,Sort.insInner,tie_of (h j (by omega))]
  split
  ·refine inner_eq j _ (by rw [swp_size];omega) fun p hp =>?_
   rw [swp_get d hj (by omega),swp_get d hj (by omega),if_neg (by omega),if_neg (by omega),if_pos rfl]
   exact h p (by omega)
  ·rfl
theorem inner_far : ∀ (j:Nat) (d:Array Int),j<d.size → ∀ p,j<p→(Sort.insInner lt 0 j d)[p]! = d[p]!
 | 0,d,_,_,_=>rfl
 | j+1,d,hj,p,hp=>by
  rw [Sort.insInner]
  split
  ·rw [inner_far j _ (by rw [swp_size];omega) p (by omega),swp_get d hj (by omega),if_neg (by omega),if_neg (by omega)]
  ·rfl
theorem inner_le : ∀ (j:Nat) (d:Array Int) (z:Int),j<d.size→(∀ p,p≤j→d[p]! < z) → ∀ p,p≤j→(Sort.insInner lt 0 j d)[p]! < z
 | 0,d,z,_,h,p,hp=>h p hp
 | j+1,d,z,hj,h,p,hp=>by
  rw [Sort.insInner]
  split
  ·rcases Nat.lt_or_eq_of_le hp with h1 | rfl
   ·refine inner_le j _ z (by rw [swp_size];omega) (fun q hq =>?_) p (by omega)
    rw [swp_get d hj (by omega)]
    split
    ·exact h _ (Nat.le_refl _)
    ·split
     ·exact h _ (by omega)
     ·exact h _ (by omega)
   ·rw [inner_far lt j _ (by rw [swp_size];omega) _ (by omega),swp_get d hj (by omega),if_neg (by omega),if_pos rfl]
    exact h _ (by omega)
  ·exact h p hp
theorem outer_eq : ∀ (m i:Nat) (d:Array Int),d.size-i=m→1≤i→(∀ p q,p<i→i≤q→q<d.size→d[p]! < d[q]!)→(∀ p q,i≤p→p<q→q<d.size→d[p]! < d[q]!)→Sort.insOuter lt 0 d.size i d=Sort.insOuter (tieB lt) 0 d.size i d
 | 0,i,d,hm,h1,hA,hB=>by
  rw [outer_end lt d (by omega),outer_end (tieB lt) d (by omega)]
 | m+1,i,d,hm,h1,hA,hB=>by
  have hi:i<d.size:=by omega
  rw [outer_step lt d hi,outer_step (tieB lt) d hi]
  rw [←inner_eq lt i d hi fun p hp=>hA p i hp (Nat.le_refl _) hi]
  have hz:=inner_size lt i d
  have key:=outer_eq m (i+1) (Sort.insInner lt 0 i d) (by omega) (by omega) (fun p q hp hq hqs =>?_) (fun p q hp hq hqs =>?_)
  ·rwa [hz] at key
  ·rw [inner_far lt i d hi q (by omega)]
   refine inner_le lt i d _ hi (fun r hr =>?_) p (by omega)
   rcases Nat.lt_or_eq_of_le hr with h2 | rfl
   ·exact hA r q h2 (by omega) (by omega)
   ·exact hB r q (Nat.le_refl _) (by omega) (by omega)
  ·rw [inner_far lt i d hi p (by omega),inner_far lt i d hi q (by omega)]
   exact hB p q (by omega) hq (by omega)
theorem sort_tie (d:Array Int) (h : ∀ p q,p<q→q<d.size→d[p]! < d[q]!):Sort.insertionSort lt d 0 d.size=Sort.insertionSort (tieB lt) d 0 d.size:=by
 unfold Sort.insertionSort
 exact outer_eq lt _ 1 d rfl (Nat.le_refl _) (fun p q hp hq hqs=>h p q (by omega) hqs) (fun p q hp hq hqs=>h p q hq hqs)
end
theorem tie_swo {lt:Int→Int→Bool} (hS:Sort.SWO lt):Sort.SWO (tieB lt):=by
 have asym : ∀ x y,lt x y=true→lt y x=false:=fun x y h=>by
  cases h':lt y x with
  | false=>rfl
  | true=>have:=hS.trans x y x h h';rw [hS.irrefl] at this;cases this
 refine ⟨fun x =>?_,fun x y z h1 h2 =>?_,fun x y z h1 h2 =>?_⟩
 ·unfold tieB
  rw [hS.irrefl]
  simp
 ·unfold tieB at *
  simp only [Bool.or_eq_true,Bool.and_eq_true,Bool.not_eq_true',decide_eq_true_eq] at *
  rcases h1 with h1 | ⟨h1,h1'⟩ <;> rcases h2 with h2 | ⟨h2,h2'⟩
  ·exact .inl (hS.trans x y z h1 h2)
  ·left
   cases h3:lt x z with
   | true=>rfl
   | false=>have:=hS.ntrans x z y h3 h2;rw [h1] at this;cases this
  ·left
   cases h3:lt x z with
   | true=>rfl
   | false=>have:=hS.ntrans y x z h1 h3;rw [h2] at this;cases this
  ·exact .inr ⟨hS.ntrans z y x h2 h1,by omega⟩
 ·unfold tieB at *
  simp only [Bool.or_eq_false_iff,Bool.and_eq_false_iff,Bool.not_eq_false',decide_eq_false_iff_not] at *
  obtain ⟨a1,a2⟩:=h1
  obtain ⟨b1,b2⟩:=h2
  refine ⟨hS.ntrans x y z a1 b1, ?_⟩
  rcases a2 with a2 | a2
  ·left
   cases h3:lt z x with
   | true=>rfl
   | false=>have:=hS.ntrans y z x b1 h3;rw [a2] at this;cases this
  ·rcases b2 with b2 | b2
   ·left
    cases h3:lt z x with
    | true=>rfl
    | false=>have:=hS.ntrans z x y h3 a1;rw [b2] at this;cases this
   ·exact .inr (by omega)
theorem tie_total {lt:Int→Int→Bool} {x y:Int} (h:x≠y):tieB lt x y=true∨tieB lt y x=true:=by
 unfold tieB
 cases h1:lt x y <;> cases h2:lt y x <;> simp
 omega
theorem nodup_of_inc (d:Array Int) (h : ∀ p q,p<q→q<d.size→d[p]! < d[q]!):d.toList.Nodup:=by
 rw [List.nodup_iff_pairwise_ne,List.pairwise_iff_getElem]
 intro i j hi hj hij e
 have hj':j<d.size:=by simpa using hj
 have hi':i<d.size:=by omega
 have:=h i j hij hj'
 rw [getElem!_pos d i hi',getElem!_pos d j hj'] at this
 simp at e
 omega
theorem sort_rank {lt:Int→Int→Bool} (hS:Sort.SWO lt) (d:Array Int) (h : ∀ p q,p<q→q<d.size→d[p]! < d[q]!) :
 (Sort.insertionSort lt d 0 d.size).size=d.size∧(Sort.insertionSort lt d 0 d.size).toList.Perm d.toList ∧
 ∀ p,p<d.size→d.toList.countP (fun y=>tieB lt y (Sort.insertionSort lt d 0 d.size)[p]!)=p:=by
 have hT:=tie_swo hS
 obtain ⟨⟨hz, -,hp⟩,hs⟩:=Sort.insertionSort_holds (lt:=tieB lt) hT d 0 d.size (Nat.zero_le _) (Nat.le_refl _)
 rw [sort_tie lt d h]
 generalize Sort.insertionSort (tieB lt) d 0 d.size=o at *
 have hp':o.toList.Perm d.toList:=by
  rw [show d.extract 0 d.size=d by simp,show o.extract 0 d.size=o by rw [←hz];simp] at hp
  exact hp
 refine ⟨hz,hp',fun p hpl =>?_⟩
 have hpo:p<o.toList.length:=by simpa [hz] using hpl
 have hn:o.toList.Nodup:=hp'.nodup_iff.2 (nodup_of_inc d h)
 have hasym : ∀ x y,tieB lt x y=true→tieB lt y x=false:=fun x y h=>by
  cases h':tieB lt y x with
  | false=>rfl
  | true=>have:=hT.trans x y x h h';rw [hT.irrefl] at this;cases this
 have key:=place_count hT.irrefl hasym (fun x y=>tie_total) hn (fun i j hij hj=>by
  have hj':j<o.size:=by simpa using hj
  have:=hs i j (Nat.zero_le _) hij (by omega)
  rw [getElem!_pos o i (by omega),getElem!_pos o j hj'] at this
  simpa using this) p hpo
 have e:o[p]! = o.toList[p]:=by
  rw [getElem!_pos o p (by omega)]
  simp
 rw [e, ←hp'.countP_eq]
 exact key
end Go.Proofs.YtifconapjfdkcaaGreatDoor

/-
  How an argument's reading gives a descriptor's datum: for integers, bools, strings, slices and structs, at any depth.
  No condition.
-/
import Derived.Test.YtifconapjfdkcaaGreatDoorBAA
import Derived.ProofKit
import Derived.Deep.Slices
namespace Go.Proofs.YtifconapjfdkcaaGreatDoor
set_option linter.unusedSimpArgs false
set_option linter.unusedVariables false
open Go.ChangeShapes Go.WideShapes Go.ChangeAt Go.RowKit Go.Deep
def Fits {α : Type} (P:Program) (t:TypeId) (T:Ty α):Prop :=
 P.cellsOf t=T.size ∧ ∀ {H:Type} (enc:TypeId×Value→H) (w:World) (spare:Nat→Bool) (held:Bool) (fuel:Nat) (cs:List Value) (x:DataW H×List MemPlace),
  DataW.trod enc P w 0 spare held fuel t cs=some x→(∀ p∈x.2,p.block<w.heap.size) → ∃ d : α,T.rep w (all_ w) cs d∧T.ok d
theorem fits_int {P:Program} {t:TypeId} {k:IntKind} (ht:P.underlying t=some (.int k)) (hc:P.cellsOf t=1):Fits P t (Ty.int k):=by
 refine ⟨hc,fun enc w spare held fuel cs x h _ =>?_⟩
 obtain ⟨n,rfl,_,hw⟩:=DataW.trod_int ht h
 simp only [Lit.wf,Bool.and_eq_true,decide_eq_true_eq] at hw
 exact ⟨n,rfl,hw⟩
theorem fits_str {P:Program} {t:TypeId} (ht:P.underlying t=some .string) (hc:P.cellsOf t=1):Fits P t Ty.str:=by
 refine ⟨hc,fun enc w spare held fuel cs x h _ =>?_⟩
 obtain ⟨s,rfl,_,hs⟩:=DataW.trod_string ht h
 exact ⟨s,rfl,hs⟩
theorem choose_list {α : Type} (R:Nat → α → Prop) : ∀ n,(∀ i,i<n → ∃ x,R i x) → ∃ l:List α,l.length=n ∧ ∀ i x,l[i]? = some x→R i x
 | 0,_=>⟨[],rfl,fun i x h=>by simp at h⟩
 | n+1,h=>by
  obtain ⟨l,hl,hr⟩:=choose_list R n fun i hi=>h i (by omega)
  obtain ⟨x,hx⟩:=h n (by omega)
  refine ⟨l++[x],by simp [hl],fun i y hi =>?_⟩
  rcases Nat.lt_trichotomy i n with h1 | h1 | h1
  ·rw [List.getElem?_append_left (by omega)] at hi
   exact hr i y hi
  ·subst h1
   rw [List.getElem?_append_right (by omega),hl] at hi
   simp at hi
   subst hi
   exact hx
  ·rw [List.getElem?_append_right (by omega),hl] at hi
   have:i-n≠0:=by omega
   rw [List.getElem?_eq_none (by simp;omega)] at hi
   cases hi
theorem fits_slice {α : Type} {P:Program} {t e:TypeId} {T:Ty α} (ht:P.underlying t=some (.slice e)) (hc:P.cellsOf t=1) (he:Fits P e T):Fits P t (Ty.slice T):=by
 refine ⟨hc,fun enc w spare held fuel cs x h hlt =>?_⟩
 rcases open_slice ht h with ⟨rfl,_⟩ | ⟨a,len,cap,m,n,D,Pl,rfl,_,hl,hm,hmm,rfl,hi⟩
 ·exact ⟨[],⟨none,0,0,rfl,Sl.nil0⟩,fun x hx=>by cases hx⟩
 ·have hml:len≤m:=by rw [hmm];split <;> omega
  have key : ∀ i,i<len → ∃ d : α,(∃ cs',T.rep w (all_ w) cs' d ∧ ∀ j u,cs'[j]? = some u→w.cell? (a.add (i*T.size+j))=some u)∧T.ok d:=by
   intro i hil
   obtain ⟨cs',h1,h2⟩:=hi i (by omega)
   obtain ⟨d,hd,ho⟩:=he.2 enc w spare held n cs' _ h2 fun p hp=>hlt p (by
    rw [List.mem_append]
    exact .inr (List.mem_flatMap.2 ⟨i,List.mem_range.2 (by omega),hp⟩))
   refine ⟨d,⟨cs',hd,fun j u hu =>?_⟩,ho⟩
   obtain ⟨_,hcl,hat⟩:=World.cells?_some h1
   have hj:j<cs'.length:=(List.getElem?_eq_some_iff.1 hu).1
   rw [←Go.Deep.add_add, ←he.1,hat j (by omega),hu]
  obtain ⟨l,hll,hlr⟩:=choose_list _ len key
  refine ⟨l,⟨some a,len,cap,rfl,hll.symm,hl,hm,fun hpos =>?_⟩,fun y hy =>?_⟩
  ·have h0:=hlr 0 l[0] (List.getElem?_eq_getElem (by omega))
   obtain ⟨⟨cs0,hr0,hc0⟩,_⟩:=h0
   have hl0:=T.len hr0
   have hp:=T.pos
   obtain ⟨b,off,spot⟩:=a
   have hspot:spot=none:=by
    have:=hc0 0 cs0[0] (List.getElem?_eq_getElem (by omega))
    simpa [Addr.add] using World.cell?_spot this
   subst hspot
   have hrow:(0:Nat)<m*P.cellsOf e:=Nat.mul_pos (by omega) (by rw [he.1];exact hp)
   have hb:b<w.heap.size:=by
    have hcell:=hc0 0 cs0[0] (List.getElem?_eq_getElem (by omega))
    have:=World.block_lt_of_cell? w _ hcell
    rw [addr_add] at this
    exact this
   refine ⟨b,off,rfl,hb,fun i x hx =>?_⟩
   obtain ⟨⟨cs',hr,hcc⟩,_⟩:=hlr i x hx
   refine ⟨cs',hr,fun j u hu =>?_⟩
   have:=hcc j u hu
   rw [addr_add] at this
   rw [Nat.add_assoc]
   exact this
  ·obtain ⟨i,hi',rfl⟩:=List.getElem_of_mem hy
   exact (hlr i _ (List.getElem?_eq_getElem hi')).2
theorem open_fits {α : Type} {P:Program} {t:TypeId} {T:Ty α} (hf:Fits P t T) {H:Type} {enc:TypeId×Value→H} {w:World} {spare:Nat→Bool} {held:Bool} {v:Value} {d:DataW H} {p:List MemPlace}
 (h:DataW.Trod enc P w 0 spare held t v d p) (hlt : ∀ x∈p,x.block<w.heap.size) : ∃ y : α,T.rep w (all_ w) v.cells.toList y∧T.ok y:=by
 obtain ⟨fuel,hfu⟩:=h
 exact hf.2 enc w spare held fuel _ _ hfu hlt
theorem open_fits_slice {α : Type} {P:Program} {t e:TypeId} {T:Ty α} (ht:P.underlying t=some (.slice e)) (hc:P.cellsOf t=1) (hf:Fits P e T) {H:Type} {enc:TypeId×Value→H} {w:World} {base:Nat} {spare:Nat→Bool} {held:Bool} {v:Value} {d:DataW H} {p:List MemPlace}
 (hv:Value.okWide P w .any base t v) (h:DataW.Trod enc P w 0 spare held t v d p) (hlt : ∀ x∈p,x.block<w.heap.size) : ∃ A n c l,v = .slice A n c∧Sl T w (all_ w) A n c l ∧ ∀ x∈l,T.ok x:=by
 obtain ⟨a0,len,cap,rfl⟩:=okWide_slice ht hv
 obtain ⟨l,⟨A,n,c,e1,hs⟩,ho⟩:=open_fits (fits_slice ht hc hf) h hlt
 simp only [Value.cells,List.cons.injEq,Value.slice.injEq,and_true] at e1
 obtain ⟨rfl,rfl,rfl⟩:=e1
 exact ⟨_,_,_,l,rfl,hs,ho⟩
end Go.Proofs.YtifconapjfdkcaaGreatDoor

/-
  Plain data of crews, how they lie in memory, and the plain function of their validation.
  No condition.
-/
import Derived.Test.YtifconapjfdkcaaGreatDoorBAF
namespace Go.Proofs.YtifconapjfdkcaaGreatDoor
set_option linter.unusedSimpArgs false
set_option linter.unusedVariables false
open Go.ChangeShapes Go.WideShapes Go.ChangeAt Go.RowKit Go.Deep
structure GPerson where
 id:Int
 name:ByteArray
 base:ByteArray
 rank:Int
 sen:Int
 types:List ByteArray
 vacs:List GShift
def GPerson.ok (p:GPerson):Prop:=(-9223372036854775808≤p.id∧p.id≤9223372036854775807)∧p.name.size≤maxLen∧p.base.size≤maxLen∧(-9223372036854775808≤p.rank∧p.rank≤9223372036854775807) ∧
 (-9223372036854775808≤p.sen∧p.sen≤9223372036854775807)∧(∀ s∈p.types,s.size≤maxLen) ∧ ∀ v∈p.vacs,v.ok
def noPerson:GPerson:=⟨0,⟨#[]⟩,⟨#[]⟩,0,0,[],[]⟩
def noStr:ByteArray:=⟨#[]⟩
def leB (a b:ByteArray):Bool:=Op.bytesLess a.toList b.toList||a.toList==b.toList
def typeErr (l:List ByteArray) (i:Nat):Int :=
 if isNameB (l.getD i noStr)=false then 1 else if 0<i∧leB (l.getD i noStr) (l.getD (i-1) noStr)=true then 8 else 0
def vacOk (v:GShift):Bool:=decide (0≤v.at_)&&decide (v.at_<v.off)&&decide (v.off≤52596000)
def vacErr (l:List GShift) (i:Nat):Int :=
 if vacOk (l.getD i noShift)=false then 5 else if 0<i∧(l.getD i noShift).at_<(l.getD (i-1) noShift).off then 8 else 0
def listsE (p:GPerson):Int :=
 if firstErr (typeErr p.types) p.types.length≠0 then firstErr (typeErr p.types) p.types.length else firstErr (vacErr p.vacs) p.vacs.length
def idOk (n:Int):Bool:=decide (1≤n)&&decide (n≤999999)
def rankOk (n:Int):Bool:=decide (0≤n)&&decide (n<3)
def hasI (l:List Int) (a:Int):Bool:=l.any fun b=>decide (a=b)
theorem hasI_snoc (b:Int) (l:List Int) (a:Int):hasI (l++[b]) a=(hasI l a||decide (a=b)):=by simp [hasI]
def sens (l:List GPerson):List Int:=l.map (·.sen)
def pErr (codes:List ByteArray) (l:List GPerson) (i:Nat):Int :=
 if idOk (l.getD i noPerson).id=false then 5 else
  if 0<i∧(l.getD i noPerson).id≤(l.getD (i-1) noPerson).id then 8 else
   if isNameB (l.getD i noPerson).name=false then 1 else
    if hasB codes (l.getD i noPerson).base=false then 6 else
     if rankOk (l.getD i noPerson).rank=false∨idOk (l.getD i noPerson).sen=false then 5 else
      if hasI (sens (l.take i)) (l.getD i noPerson).sen=true then 7 else
       if 8<(l.getD i noPerson).types.length∨8<(l.getD i noPerson).vacs.length then 10 else listsE (l.getD i noPerson)
def crewE (t:GTT) (l:List GPerson):Int :=
 if ttE t≠0 then ttE t else if 64<l.length then 10 else firstErr (pErr (aCodes t.airports) l) l.length
def PIs (w:World) (S:Nat→Prop) (cs:List Value) (p:GPerson):Prop :=
 ∃ A1 n1 c1 A2 n2 c2,cs=[.int .i64 p.id, .string p.name, .string p.base, .int .i64 p.rank, .int .i64 p.sen, .slice A1 n1 c1, .slice A2 n2 c2]∧Sl Ty.str w S A1 n1 c1 p.types∧Sl Ty.shift w S A2 n2 c2 p.vacs
def Ty.person:Ty GPerson:={
 size:=7
 rep:=PIs
 ok:=GPerson.ok
 pos:=by decide
 len:=by rintro _ _ _ _ ⟨_,_,_,_,_,_,rfl,_⟩;rfl
 keep:=by rintro _ _ _ _ _ ⟨A1,n1,c1,A2,n2,c2,rfl,h1,h2⟩ hk;exact ⟨A1,n1,c1,A2,n2,c2,rfl,h1.keep hk,h2.keep hk⟩
 more:=by rintro _ _ _ _ _ ⟨A1,n1,c1,A2,n2,c2,rfl,h1,h2⟩ hk;exact ⟨A1,n1,c1,A2,n2,c2,rfl,h1.more hk,h2.more hk⟩
 one:=by rintro _ _ _ _ ⟨_,_,_,_,_,_,rfl,_⟩ u hu;simp at hu;rcases hu with rfl | rfl | rfl | rfl | rfl | rfl | rfl <;> rfl }
section
variable {w:World} {S:Nat→Prop} {A:Option Addr} {n c:Nat}
theorem Sl.name_at {xs:List ByteArray} (h:Sl Ty.str w S A n c xs) {k:Nat} (hk:k<xs.length) : ∃ b o,A=some ⟨b,o,none⟩∧S b∧w.cell? ⟨b,o+k,none⟩=some (.string (xs.getD k noStr)):=by
 obtain ⟨b,o,cs,e,hs,hr,ha⟩:=h.at_ hk
 have hr':cs=[.string xs[k]]:=hr
 subst hr'
 have e1:xs.getD k noStr=xs[k]:=by rw [List.getD_eq_getElem?_getD,List.getElem?_eq_getElem hk];rfl
 rw [e1]
 exact ⟨b,o,e,hs,by simpa [Ty.str] using ha 0 _ rfl⟩
theorem Sl.person_at {xs:List GPerson} (h:Sl Ty.person w S A n c xs) {k:Nat} (hk:k<xs.length) : ∃ b o A1 n1 c1 A2 n2 c2,A=some ⟨b,o,none⟩∧S b ∧
 At w b (o+k*7) [.int .i64 (xs.getD k noPerson).id, .string (xs.getD k noPerson).name, .string (xs.getD k noPerson).base, .int .i64 (xs.getD k noPerson).rank, .int .i64 (xs.getD k noPerson).sen, .slice A1 n1 c1, .slice A2 n2 c2] ∧
 Sl Ty.str w S A1 n1 c1 (xs.getD k noPerson).types∧Sl Ty.shift w S A2 n2 c2 (xs.getD k noPerson).vacs:=by
 obtain ⟨b,o,cs,e,hs,hr,ha⟩:=h.at_ hk
 obtain ⟨A1,n1,c1,A2,n2,c2,rfl,h1,h2⟩:=hr
 have e1:xs.getD k noPerson=xs[k]:=by rw [List.getD_eq_getElem?_getD,List.getElem?_eq_getElem hk];rfl
 rw [e1]
 exact ⟨b,o,A1,n1,c1,A2,n2,c2,e,hs,ha,h1,h2⟩
end
theorem getD_in {α : Type} {l:List α} {k:Nat} (h:k<l.length) (d : α):l.getD k d∈l:=by
 rw [List.getD_eq_getElem?_getD,List.getElem?_eq_getElem h]
 exact List.getElem_mem h
theorem leB_true {a b:ByteArray} (h:leB a b=true):Op.bytesLess a.toList b.toList=true∨(Op.bytesLess a.toList b.toList=false∧(a.toList==b.toList)=true):=by
 unfold leB at h
 cases h1:Op.bytesLess a.toList b.toList
 ·rw [h1,Bool.false_or] at h;exact .inr ⟨rfl,h⟩
 ·exact .inl rfl
theorem leB_false {a b:ByteArray} (h:leB a b=false):Op.bytesLess a.toList b.toList=false∧(a.toList==b.toList)=false:=by
 unfold leB at h
 exact Bool.or_eq_false_iff.1 h
end Go.Proofs.YtifconapjfdkcaaGreatDoor

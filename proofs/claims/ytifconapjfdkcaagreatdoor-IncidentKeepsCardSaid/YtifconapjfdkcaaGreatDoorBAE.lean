/-
  Plain facts on splitting lists of bytes at one byte: what strings.Split and strings.Cut hand back, said by structural recursion; the fields and lines of a text.
  No condition.
-/
import Derived.Lib.SplitLaws
import Derived.Lib.IndexMore
import Derived.Lib.Strings
import Derived.Test.YtifconapjfdkcaaGreatDoorBAA
namespace Go.Proofs.YtifconapjfdkcaaGreatDoor
set_option linter.unusedSimpArgs false
set_option linter.unusedVariables false
open Go
def bs (l:List UInt8):ByteArray:=⟨l.toArray⟩
theorem bs_data (l:List UInt8):(bs l).data.toList=l:=rfl
theorem bs_of (s:ByteArray):bs s.data.toList=s:=rfl
theorem bs_size (l:List UInt8):(bs l).size=l.length:=by rw [Lib.size_eq];rfl
theorem map_bs (l:List ByteArray):(l.map (·.data.toList)).map bs=l:=by
 rw [List.map_map]
 exact List.map_id' l
def splitL (c:UInt8):List UInt8→List (List UInt8)
 | []=>[[]]
 | b::l=>if b=c then []::splitL c l else (b::(splitL c l).headD [])::(splitL c l).tail
theorem splitL_ne (c:UInt8) (l:List UInt8):splitL c l≠[]:=by
 cases l with
 | nil=>simp [splitL]
 | cons b l=>unfold splitL;split <;> simp
theorem splitL_eq (c:UInt8) (l:List UInt8):splitL c l=(splitL c l).headD []::(splitL c l).tail:=by
 have h:=splitL_ne c l
 revert h
 cases splitL c l with
 | nil=>intro h;exact absurd rfl h
 | cons a r=>intro _;rfl
theorem index_one_cons (b c:UInt8) (l:List UInt8):Lib.index (b::l) [c]=if b=c then 0 else if Lib.index l [c] == -1 then -1 else Lib.index l [c]+1:=by
 rw [Lib.index]
 have:List.isPrefixOf [c] (b::l)=decide (b=c):=by
  simp only [List.isPrefixOf,Bool.and_true]
  by_cases h:b=c
  ·subst h;simp
  ·simp [h];exact fun e=>h e.symm
 rw [this]
 by_cases h:b=c <;> simp [h]
theorem splitK_one (c:UInt8) : ∀ (l:List UInt8) (k:Nat),l.count c≤k→Lib.splitK [c] 0 k l=splitL c l:=by
 intro l
 induction l with
 | nil=>intro k _;cases k <;> simp [Lib.splitK,splitL,Lib.index]
 | cons b l ih =>
  intro k hk
  by_cases hb:b=c
  ·subst hb
   obtain ⟨k,rfl⟩ : ∃ j,k=j+1:=⟨k-1,by simp at hk;omega⟩
   simp only [List.count_cons_self] at hk
   rw [Lib.splitK,index_one_cons]
   simp [splitL,ih k (by omega)]
  ·have hk':l.count c≤k:=by rwa [List.count_cons_of_ne hb] at hk
   have h1:=ih k hk'
   have hs:splitL c (b::l)=(b::(splitL c l).headD [])::(splitL c l).tail:=by rw [splitL,if_neg hb]
   rw [hs, ←h1]
   cases k with
   | zero=>simp [Lib.splitK]
   | succ k =>
    rw [Lib.splitK,Lib.splitK,index_one_cons,if_neg hb]
    by_cases hi:Lib.index l [c] = -1
    ·simp [hi]
    ·have hge:=Lib.index_ge l [c]
     have h2:(Lib.index l [c] == -1)=false:=by simp [hi]
     have h3:(Lib.index l [c]+1 == -1)=false:=by simp;omega
     rw [h2]
     simp only [Bool.false_eq_true,if_false]
     rw [h3]
     simp only [Bool.false_eq_true,if_false,List.headD_cons,List.tail_cons,Nat.add_zero]
     have h4:(Lib.index l [c]+1).toNat=(Lib.index l [c]).toNat+1:=by omega
     rw [h4]
     simp [Nat.add_right_comm]
theorem splitB_one (c:UInt8) (s:ByteArray):Lib.splitB ⟨#[c]⟩ 0 (Lib.countB s ⟨#[c]⟩) s=(splitL c s.data.toList).map bs:=by
 rw [←map_bs (Lib.splitB _ _ _ _),Lib.splitB_data]
 congr 1
 refine splitK_one c _ _ ?_
 show _≤Lib.count s.data.toList [c]
 rw [Lib.count_one]
 exact Nat.le_refl _
theorem splitL_length (c:UInt8) (l:List UInt8):(splitL c l).length=l.count c+1:=by
 induction l with
 | nil=>rfl
 | cons b l ih =>
  by_cases hb:b=c
  ·subst hb;simp [splitL,ih]
  ·rw [splitL,if_neg hb,List.count_cons_of_ne hb, ←ih,List.length_cons,List.length_tail]
   have:=List.length_pos_iff.2 (splitL_ne c l)
   omega
def fieldsL (l:List UInt8):List (List UInt8):=(splitL 32 (l.takeWhile (fun b=>b != 35))).filter (fun f => !f.isEmpty)
def fieldsB (s:ByteArray):List ByteArray:=(fieldsL s.data.toList).map bs
theorem splitL_snoc {c b:UInt8} {p:List UInt8} {ps:List (List UInt8)} {cur:List UInt8} (h:splitL c p=ps++[cur]) :
 splitL c (p++[b])=if b=c then ps++[cur]++[[]] else ps++[cur++[b]]:=by
 induction p generalizing ps cur with
 | nil =>
  have h':ps=[]∧cur=[]:=by
   cases ps with
   | nil=>simp [splitL] at h;exact ⟨rfl,h⟩
   | cons q ps=>simp [splitL] at h
  obtain ⟨rfl,rfl⟩:=h'
  by_cases hb:b=c <;> simp [splitL,hb]
 | cons a p ih =>
  by_cases ha:a=c
  ·subst ha
   rw [splitL,if_pos rfl] at h
   cases ps with
   | nil=>simp at h;exact absurd h.2 (splitL_ne a p)
   | cons q ps =>
    simp only [List.cons_append,List.cons.injEq] at h
    obtain ⟨rfl,h⟩:=h
    rw [List.cons_append,splitL,if_pos rfl,ih h]
    split <;> rfl
  ·rw [splitL,if_neg ha] at h
   have he:=splitL_eq c p
   cases ps with
   | nil =>
    simp only [List.nil_append,List.cons.injEq] at h
    obtain ⟨h1,h2⟩:=h
    rw [h2] at he
    rw [List.cons_append,splitL,if_neg ha,ih (ps:=[]) he]
    subst h1
    by_cases hb:b=c <;> simp [hb]
   | cons q ps =>
    simp only [List.cons_append,List.cons.injEq] at h
    obtain ⟨h1,h2⟩:=h
    rw [h2] at he
    rw [List.cons_append,splitL,if_neg ha,ih (ps:=(splitL c p).headD []::ps) (by rw [List.cons_append];exact he)]
    subst h1
    by_cases hb:b=c <;> simp [hb]
theorem splitL_last (c:UInt8) (l:List UInt8) : ∃ ps cur,splitL c l=ps++[cur] :=
 ⟨(splitL c l).dropLast,(splitL c l).getLast (splitL_ne c l),(List.dropLast_concat_getLast (splitL_ne c l)).symm⟩
def linesL (l:List UInt8):List (List UInt8):=if (splitL 10 l).getLast (splitL_ne 10 l)=[] then (splitL 10 l).dropLast else splitL 10 l
theorem linesL_of {l:List UInt8} {ps:List (List UInt8)} {cur:List UInt8} (h:splitL 10 l=ps++[cur]):linesL l=if cur=[] then ps else ps++[cur]:=by
 have e1:(splitL 10 l).getLast (splitL_ne 10 l)=cur:=by
  simp only [h,List.getLast_append,List.getLast_singleton]
  simp
 unfold linesL
 rw [e1,h,List.dropLast_concat]
theorem linesL_trim (l:List UInt8) (hne:l≠[]):splitL 10 (Lib.trimSuffix l [10])=linesL l:=by
 obtain ⟨p,b,rfl⟩ : ∃ p b,l=p++[b]:=⟨l.dropLast,l.getLast hne,(List.dropLast_concat_getLast hne).symm⟩
 obtain ⟨ps,cur,h⟩:=splitL_last 10 p
 have h2:=splitL_snoc (b:=b) h
 unfold Lib.trimSuffix Lib.hasSuffix
 by_cases hb:b=10
 ·subst hb
  rw [if_pos rfl] at h2
  have h3:List.isSuffixOf [10] (p++[(10:UInt8)])=true:=by rw [List.isSuffixOf_iff_suffix];exact List.suffix_append _ _
  rw [h3,if_pos rfl,linesL_of h2,if_pos rfl]
  simpa using h
 ·rw [if_neg hb] at h2
  have h3:List.isSuffixOf [10] (p++[b])=false:=by
   rw [Bool.eq_false_iff]
   intro e
   rw [List.isSuffixOf_iff_suffix] at e
   obtain ⟨t,ht⟩:=e
   have:=congrArg List.getLast? ht
   simp at this
   exact hb this.symm
  rw [h3,linesL_of h2,if_neg (by simp)]
  simpa using h2
def okByte (s:ByteArray) (i:Nat):Bool:=(byteAt s i==10)||(decide (32≤byteAt s i)&&decide (byteAt s i≤126))
def linesB (s:ByteArray):List ByteArray×Int :=
 if 20000<s.size then ([],10) else if allTo (okByte s) s.size=false then ([],1) else
  if 1000<(linesL s.data.toList).length then ([],10) else ((linesL s.data.toList).map bs,0)
theorem extract_take (s:ByteArray) (f k:Nat):s.extract f k=bs ((s.data.toList.take k).drop f):=by
 obtain ⟨⟨l⟩⟩:=s
 rw [ByteArray.extract_mk]
 unfold bs
 congr 1
 simp [List.drop_take]
end Go.Proofs.YtifconapjfdkcaaGreatDoor

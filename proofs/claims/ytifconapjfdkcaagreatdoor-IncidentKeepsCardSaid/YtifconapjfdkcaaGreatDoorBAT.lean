/-
  Plain facts on decimal numbers in texts: what ParseInt answers, that it inverts the decimal notation of a number of at most ten digits.
  No condition.
-/
import Derived.Test.YtifconapjfdkcaaGreatDoorBAE
import Derived.Test.YtifconapjfdkcaaGreatDoorBAB
import Derived.Lib.ItoaNum
namespace Go.Proofs.YtifconapjfdkcaaGreatDoor
set_option linter.unusedSimpArgs false
set_option linter.unusedVariables false
open Go
def digAt (s:ByteArray) (i:Nat):Bool:=numberI (byteAt s i)
def numTo (s:ByteArray):Nat→Int
 | 0=>0
 | k+1=>10*numTo s k+(byteAt s k-48)
def bnd:Nat→Int
 | 0=>0
 | k+1=>10*bnd k+9
theorem numTo_bd (s:ByteArray) : ∀ k,allTo (digAt s) k=true→0≤numTo s k∧numTo s k≤bnd k
 | 0,_=>⟨Int.le_refl _,Int.le_refl _⟩
 | k+1,h=>by
  rw [allTo_succ,Bool.and_eq_true] at h
  have ih:=numTo_bd s k h.1
  have h2:=h.2
  unfold digAt numberI at h2
  simp only [Bool.and_eq_true,decide_eq_true_eq] at h2
  simp only [numTo,bnd]
  omega
theorem bnd_mono {j k:Nat} (h:j≤k):bnd j≤bnd k:=by
 induction k with
 | zero=>have:j=0:=by omega
         subst this;exact Int.le_refl _
 | succ k ih =>
  have hp : ∀ i,0≤bnd i:=fun i=>by induction i with
   | zero=>exact Int.le_refl _
   | succ i ih=>simp only [bnd];omega
  rcases Nat.lt_or_eq_of_le h with h1 | rfl
  ·have:=ih (by omega)
   have:=hp k
   simp only [bnd]
   omega
  ·exact Int.le_refl _
def stripB (s:ByteArray):ByteArray:=bs (Lib.trimPrefix s.data.toList [45])
theorem stripB_eq (s:ByteArray):stripB s=if 0<s.size∧byteAt s 0=45 then s.extract 1 s.size else s:=by
 unfold stripB Lib.trimPrefix Lib.hasPrefix
 obtain ⟨⟨l⟩⟩:=s
 cases l with
 | nil=>rfl
 | cons a l =>
  have e1:(⟨⟨a::l⟩⟩:ByteArray).size=l.length+1:=rfl
  have e2:byteAt ⟨⟨a::l⟩⟩ 0=(a.toNat:Int):=rfl
  have e3:List.isPrefixOf [45] (a::l)=decide (a=45):=by
   simp only [List.isPrefixOf,Bool.and_true]
   by_cases h:a=45
   ·subst h;rfl
   ·rw [decide_eq_false h];simp;exact fun e=>h e.symm
  simp only [e1,e2,e3]
  by_cases h:a=45
  ·subst h
   rw [if_pos (decide_eq_true rfl),if_pos ⟨by omega,rfl⟩,extract_take]
   congr 1
   simp
  ·rw [if_neg (by simpa using h),if_neg (by
    rintro ⟨_,h2⟩
    exact h (UInt8.toNat.inj (by have:(45:UInt8).toNat=45:=rfl;omega)))]
   rfl
theorem stripB_size (s:ByteArray):(stripB s).size=if 0<s.size∧byteAt s 0=45 then s.size-1 else s.size:=by
 rw [stripB_eq]
 split
 ·rw [ByteArray.size_extract];omega
 ·rfl
def parseB (s:ByteArray):Int×Int :=
 if (stripB s).size<1∨10<(stripB s).size then (0,1) else
  if byteAt (stripB s) 0=48∧(1<(stripB s).size∨(stripB s).size<s.size) then (0,1) else
   if allTo (digAt (stripB s)) (stripB s).size=false then (0,1) else
    (if (stripB s).size<s.size then-numTo (stripB s) (stripB s).size else numTo (stripB s) (stripB s).size,0)
theorem numTo_bs (l:List UInt8) (k:Nat) (h:k<l.length):numTo (bs l) (k+1)=10*numTo (bs l) k+((l[k].toNat:Int)-48):=by
 simp only [numTo,byteAt,bs_data]
 rw [List.getD_eq_getElem?_getD,List.getElem?_eq_getElem h]
 rfl
theorem numTo_app (a b:List UInt8) : ∀ k,k≤a.length→numTo (bs (a++b)) k=numTo (bs a) k
 | 0,_=>rfl
 | k+1,h=>by
  have ih:=numTo_app a b k (by omega)
  rw [numTo_bs _ _ (by simp;omega),numTo_bs _ _ (by omega),ih,List.getElem_append_left (by omega)]
theorem dec_facts (u:Nat):(∀ i,i<(Lib.decDigits u).length→digAt (bs (Lib.decDigits u)) i=true)∧numTo (bs (Lib.decDigits u)) (Lib.decDigits u).length=u∧(byteAt (bs (Lib.decDigits u)) 0=48→u=0):=by
 induction u using Nat.strongRecOn with
 | _ u ih =>
  by_cases h:u<10
  ·rw [Lib.decDigits_one h]
   have hn:(UInt8.ofNat (48+u)).toNat=48+u:=by
    rw [UInt8.toNat_ofNat'];omega
   have hb:byteAt (bs [UInt8.ofNat (48+u)]) 0=48+u:=by
    show (((UInt8.ofNat (48+u)).toNat:Nat):Int)=_
    rw [hn];omega
   refine ⟨fun i hi =>?_, ?_,fun he =>?_⟩
   ·have:i=0:=by simpa using hi
    subst this
    unfold digAt numberI
    rw [hb]
    simp
    omega
   ·show 10*0+(byteAt _ 0-48)=_
    rw [hb];omega
   ·rw [hb] at he;omega
  ·have e:Lib.decDigits u=Lib.decDigits (u/10)++[UInt8.ofNat (48+u%10)]:=by rw [Lib.decDigits,dif_neg h]
   obtain ⟨i1,i2,i3⟩:=ih (u/10) (by omega)
   have hn:(UInt8.ofNat (48+u%10)).toNat=48+u%10:=by
    rw [UInt8.toNat_ofNat'];omega
   have hpos:1≤(Lib.decDigits (u/10)).length:=by rw [Lib.decDigits_length];exact Lib.nDigits_pos _
   rw [e]
   have hbo : ∀ i,i<(Lib.decDigits (u/10)).length→byteAt (bs (Lib.decDigits (u/10)++[UInt8.ofNat (48+u%10)])) i=byteAt (bs (Lib.decDigits (u/10))) i:=by
    intro i hi
    unfold byteAt
    rw [bs_data,bs_data,List.getD_eq_getElem?_getD,List.getD_eq_getElem?_getD,List.getElem?_append_left hi]
   refine ⟨fun i hi =>?_, ?_,fun he =>?_⟩
   ·rw [List.length_append,List.length_singleton] at hi
    by_cases hlt:i<(Lib.decDigits (u/10)).length
    ·unfold digAt
     rw [hbo i hlt]
     exact i1 i hlt
    ·have:i=(Lib.decDigits (u/10)).length:=by omega
     subst this
     unfold digAt byteAt
     rw [bs_data,List.getD_eq_getElem?_getD,List.getElem?_append_right (Nat.le_refl _),Nat.sub_self]
     show numberI (((UInt8.ofNat (48+u%10)).toNat:Nat):Int)=true
     rw [hn]
     unfold numberI
     simp
     omega
   ·rw [List.length_append,List.length_singleton,numTo_bs _ _ (by simp),numTo_app _ _ _ (Nat.le_refl _),i2,List.getElem_append_right (Nat.le_refl _)]
    simp only [Nat.sub_self,List.getElem_singleton]
    rw [hn]
    omega
   ·rw [hbo 0 (by omega)] at he
    have:=i3 he
    omega
theorem nDigits_ten (u:Nat):Lib.nDigits u≤10↔u≤9999999999:=by
 refine ⟨fun h =>?_,fun h =>?_⟩
 ·have h1:=Lib.lt_pow_nDigits u
  have h2:10^Lib.nDigits u≤10^10:=Nat.pow_le_pow_right (by decide) h
  omega
 ·by_cases h1:u<10
  ·rw [Lib.nDigits_small h1];decide
  ·rcases Nat.lt_or_ge 10 (Lib.nDigits u) with h2 | h2
   ·exfalso
    have hk : ∀ k v,k<Lib.nDigits v→10^k≤v∨k=0:=by
     intro k
     induction k with
     | zero=>intro v _;exact .inr rfl
     | succ k ih =>
      intro v hv
      left
      by_cases hv1:v<10
      ·rw [Lib.nDigits_small hv1] at hv;omega
      ·rw [Lib.nDigits_big hv1] at hv
       rcases ih (v/10) (by omega) with h5 | h5
       ·rw [Nat.pow_succ];omega
       ·subst h5;omega
    rcases hk 10 u h2 with h3 | h3
    ·have:(10:Nat)^10=10000000000:=by decide
     omega
    ·cases h3
   ·exact h2
theorem dec_pos (u:Nat):1≤(Lib.decDigits u).length:=by rw [Lib.decDigits_length];exact Lib.nDigits_pos u
theorem dec_head (u:Nat):byteAt (bs (Lib.decDigits u)) 0≠45:=by
 have h:=(dec_facts u).1 0 (dec_pos u)
 unfold digAt numberI at h
 simp only [Bool.and_eq_true,decide_eq_true_eq] at h
 omega
theorem parse_format (n:Int):parseB (bs (Lib.itoa n))=if -9999999999≤n∧n≤9999999999 then (n,0) else (0,1):=by
 have key : ∀ u:Nat, ∀ s:ByteArray,stripB s=bs (Lib.decDigits u)→(s.size=(stripB s).size∨(s.size=(stripB s).size+1∧u≠0)) →
  parseB s=if u≤9999999999 then (if (stripB s).size<s.size then -(u:Int) else u,0) else (0,1):=by
  intro u s hs hsz
  obtain ⟨h1,h2,h3⟩:=dec_facts u
  have hl:=dec_pos u
  have hlen:=Lib.decDigits_length u
  have h10:=nDigits_ten u
  unfold parseB
  rw [hs,bs_size]
  rw [hs,bs_size] at hsz
  by_cases hu:u≤9999999999
  ·rw [if_neg (by omega),if_pos hu,if_neg,if_neg,h2]
   ·have:allTo (digAt (bs (Lib.decDigits u))) (Lib.decDigits u).length=true:=allTo_iff.2 h1
    rw [this];decide
   ·rintro ⟨h4,h5⟩
    have h6:=h3 h4
    subst h6
    rcases h5 with h5 | h5
    ·have:(Lib.decDigits 0).length=1:=by rw [Lib.decDigits_one (by decide)];rfl
     omega
    ·rcases hsz with h7 | ⟨_,h7⟩
     ·omega
     ·exact h7 rfl
  ·rw [if_neg hu,if_pos (by omega)]
 unfold Lib.itoa
 by_cases hn:n<0
 ·rw [if_pos hn]
  have e1:stripB (bs (45::Lib.decDigits n.natAbs))=bs (Lib.decDigits n.natAbs):=by
   rw [stripB_eq,if_pos ⟨by rw [bs_size];simp,rfl⟩,extract_take,bs_size,bs_data,List.take_length]
   rfl
  have e2:=key n.natAbs _ e1 (.inr ⟨by rw [e1,bs_size,bs_size,List.length_cons],by omega⟩)
  rw [e2,e1,bs_size,bs_size,List.length_cons]
  by_cases h:n.natAbs≤9999999999
  ·rw [if_pos h,if_pos (Nat.lt_succ_self _),if_pos (by omega)]
   congr 1
   omega
  ·rw [if_neg h,if_neg (by omega)]
 ·rw [if_neg hn]
  have e1:stripB (bs (Lib.decDigits n.toNat))=bs (Lib.decDigits n.toNat):=by
   rw [stripB_eq,if_neg]
   rintro ⟨_,h⟩
   exact dec_head _ h
  have e2:=key n.toNat _ e1 (.inl (by rw [e1]))
  rw [e2,e1,if_neg (Nat.lt_irrefl _)]
  by_cases h:n.toNat≤9999999999
  ·rw [if_pos h,if_pos (by omega)]
   congr 1
   omega
  ·rw [if_neg h,if_neg (by omega)]
end Go.Proofs.YtifconapjfdkcaaGreatDoor

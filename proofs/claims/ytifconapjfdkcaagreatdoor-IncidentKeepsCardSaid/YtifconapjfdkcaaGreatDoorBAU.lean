/-
  Plain dates, clock times and instants: what their parsing answers, and that the reference's conditions are the program's.
  No condition.
-/
import Derived.Test.YtifconapjfdkcaaGreatDoorBAT
namespace Go.Proofs.YtifconapjfdkcaaGreatDoor
set_option linter.unusedSimpArgs false
set_option linter.unusedVariables false
open Go
def leapB (y:Int):Bool:=decide (y%4=0)&&(decide (y%100≠0)||decide (y%400=0))
def mTab:List Int:=[31,28,31,30,31,30,31,31,30,31,30,31]
def mDays (y m:Int):Int:=if m=2∧leapB y=true then 29 else mTab.getD (m-1).toNat 0
def yDays (y:Int):Int:=if leapB y=true then 366 else 365
def validB (y m d:Int):Bool:=decide (1999≤y)&&decide (y≤2100)&&decide (1≤m)&&decide (m≤12)&&decide (1≤d)&&decide (d≤mDays y m)
def sumTo (f:Nat→Int):Nat→Int
 | 0=>0
 | k+1=>sumTo f k+f k
theorem sumTo_bd {f:Nat→Int} {lo hi:Int} (h : ∀ i,lo≤f i∧f i≤hi) : ∀ n:Nat,lo*n≤sumTo f n∧sumTo f n≤hi*n
 | 0=>⟨by simp [sumTo],by simp [sumTo]⟩
 | n+1=>by
  have h1:=sumTo_bd h n
  have h2:=h n
  simp only [sumTo,Int.natCast_add,Int.natCast_one,Int.mul_add,Int.mul_one]
  omega
theorem mTab_bd (n:Nat):0≤mTab.getD n 0∧mTab.getD n 0≤31:=by
 unfold mTab
 rcases n with _ | _ | _ | _ | _ | _ | _ | _ | _ | _ | _ | _ | n <;> simp
theorem mDays_bd (y m:Int):0≤mDays y m∧mDays y m≤31:=by
 unfold mDays
 split
 ·omega
 ·exact mTab_bd _
theorem yDays_bd (y:Int):0≤yDays y∧yDays y≤366:=by
 unfold yDays
 split <;> omega
theorem validB_iff {y m d:Int}:validB y m d=true↔(1999≤y∧y≤2100)∧(1≤m∧m≤12)∧1≤d∧d≤mDays y m:=by
 unfold validB
 simp only [Bool.and_eq_true,decide_eq_true_eq]
 constructor
 ·rintro ⟨⟨⟨⟨⟨a,b⟩,c⟩,d⟩,e⟩,f⟩;exact ⟨⟨a,b⟩,⟨c,d⟩,e,f⟩
 ·rintro ⟨⟨a,b⟩,⟨c,d⟩,e,f⟩;exact ⟨⟨⟨⟨⟨a,b⟩,c⟩,d⟩,e⟩,f⟩
def yearSum (k:Nat):Int:=sumTo (fun i=>yDays (1999+i)) k
def monSum (y:Int) (k:Nat):Int:=sumTo (fun i=>mDays y (1+i)) k
theorem yearSum_bd (k:Nat):0≤yearSum k∧yearSum k≤366*k:=by
 have:=sumTo_bd (f:=fun i=>yDays (1999+i)) (fun i=>yDays_bd _) k
 unfold yearSum
 omega
theorem monSum_bd (y:Int) (k:Nat):0≤monSum y k∧monSum y k≤31*k:=by
 have:=sumTo_bd (f:=fun i=>mDays y (1+i)) (fun i=>mDays_bd _ _) k
 unfold monSum
 omega
def dayB (y m d:Int):Int := -365+yearSum (y-1999).toNat+monSum y (m-1).toNat+d-1
theorem dayB_bd {y m d:Int} (h:validB y m d=true) : -365≤dayB y m d∧dayB y m d≤40000:=by
 obtain ⟨h1,h2,h3,h4⟩:=validB_iff.1 h
 have a:=yearSum_bd (y-1999).toNat
 have b:=monSum_bd y (m-1).toNat
 have c:=mDays_bd y m
 unfold dayB
 omega
def mAt (s p:ByteArray) (i:Nat):Bool:=if byteAt p i=48 then digAt s i else decide (byteAt s i=byteAt p i)
def matchB (s p:ByteArray):Bool:=decide (s.size=p.size)&&allTo (mAt s p) s.size
def patD:ByteArray:=⟨#[48,48,48,48,45,48,48,45,48,48]⟩
def patC:ByteArray:=⟨#[48,48,58,48,48]⟩
def patI:ByteArray:=⟨#[48,48,48,48,45,48,48,45,48,48,32,48,48,58,48,48]⟩
def subN (s:ByteArray) (a b:Nat):Int:=numTo (s.extract a b) (s.extract a b).size
def dateB (s:ByteArray):(Int×Int×Int)×Int :=
 if matchB s patD=false then ((0,0,0),1) else
  if validB (subN s 0 4) (subN s 5 7) (subN s 8 s.size)=false then ((0,0,0),5) else ((subN s 0 4,subN s 5 7,subN s 8 s.size),0)
def clockB (s:ByteArray):Int×Int :=
 if matchB s patC=false then (0,1) else if 23<subN s 0 2∨59<subN s 3 s.size then (0,5) else (subN s 0 2*60+subN s 3 s.size,0)
def insB (s:ByteArray):Int×Int :=
 if matchB s patI=false then (0,1) else
  if (dateB (s.extract 0 10)).2≠0 then (0,(dateB (s.extract 0 10)).2) else
   if (clockB (s.extract 11 s.size)).2≠0 then (0,(clockB (s.extract 11 s.size)).2) else
    if dayB (dateB (s.extract 0 10)).1.1 (dateB (s.extract 0 10)).1.2.1 (dateB (s.extract 0 10)).1.2.2*1440+(clockB (s.extract 11 s.size)).1<0∨52596000≤dayB (dateB (s.extract 0 10)).1.1 (dateB (s.extract 0 10)).1.2.1 (dateB (s.extract 0 10)).1.2.2*1440+(clockB (s.extract 11 s.size)).1 then (0,5) else
     (dayB (dateB (s.extract 0 10)).1.1 (dateB (s.extract 0 10)).1.2.1 (dateB (s.extract 0 10)).1.2.2*1440+(clockB (s.extract 11 s.size)).1,0)
theorem insB_bd (s:ByteArray):0≤(insB s).1∧(insB s).1<52596000:=by
 unfold insB
 repeat' split
 all_goals first | decide | (dsimp only;omega)
theorem byteAt_extract (s:ByteArray) (a b i:Nat) (h:a+i<b):byteAt (s.extract a b) i=byteAt s (a+i):=by
 unfold byteAt
 rw [extract_take,bs_data]
 congr 2
 rw [List.getD_eq_getElem?_getD,List.getD_eq_getElem?_getD,List.getElem?_drop,List.getElem?_take,if_pos h]
theorem digAt_extract (s:ByteArray) (a b i:Nat) (h:a+i<b):digAt (s.extract a b) i=digAt s (a+i):=by
 unfold digAt
 rw [byteAt_extract _ _ _ _ h]
theorem size_sub {s:ByteArray} {a b:Nat} (h:b≤s.size):(s.extract a b).size=b-a:=by
 rw [ByteArray.size_extract];omega
theorem allTo_ext {p q:Nat→Bool} {n:Nat} (h : ∀ i,i<n→p i=q i):allTo p n=allTo q n:=by
 rw [Bool.eq_iff_iff,allTo_iff,allTo_iff]
 exact ⟨fun g i hi=>(h i hi)▸g i hi,fun g i hi=>(h i hi).symm▸g i hi⟩
def digOn (s:ByteArray) (a n:Nat):Bool:=allTo (fun i=>digAt s (a+i)) n
theorem dig_sub {s:ByteArray} {a b:Nat} (h:b≤s.size):allTo (digAt (s.extract a b)) (s.extract a b).size=digOn s a (b-a):=by
 rw [size_sub h]
 exact allTo_ext fun i hi=>digAt_extract s a b i (by omega)
theorem matchD_iff (s:ByteArray):matchB s patD=(decide (s.size=10)&&(digOn s 0 4&&decide (byteAt s 4=45)&&digOn s 5 2&&decide (byteAt s 7=45)&&digOn s 8 2)):=by
 unfold matchB
 have hp:patD.size=10:=rfl
 rw [hp]
 by_cases h:s.size=10
 ·rw [h]
  simp only [allTo,digOn,List.range_succ,List.range_zero,List.nil_append,List.all_append,List.all_cons,List.all_nil,Bool.and_true,mAt]
  have e : ∀ i,byteAt patD i=(([48,48,48,48,45,48,48,45,48,48]:List UInt8).getD i 0).toNat:=fun i=>rfl
  simp [e,Bool.and_assoc]
 ·rw [decide_eq_false h];rfl
theorem matchC_iff (s:ByteArray):matchB s patC=(decide (s.size=5)&&(digOn s 0 2&&decide (byteAt s 2=58)&&digOn s 3 2)):=by
 unfold matchB
 have hp:patC.size=5:=rfl
 rw [hp]
 by_cases h:s.size=5
 ·rw [h]
  simp only [allTo,digOn,List.range_succ,List.range_zero,List.nil_append,List.all_append,List.all_cons,List.all_nil,Bool.and_true,mAt]
  have e : ∀ i,byteAt patC i=(([48,48,58,48,48]:List UInt8).getD i 0).toNat:=fun i=>rfl
  simp [e,Bool.and_assoc]
 ·rw [decide_eq_false h];rfl
theorem matchI_iff (s:ByteArray):matchB s patI=(decide (s.size=16)&&(decide (byteAt s 10=32)&&matchB (s.extract 0 10) patD&&matchB (s.extract 11 s.size) patC)):=by
 rw [matchD_iff,matchC_iff]
 unfold matchB
 have hp:patI.size=16:=rfl
 rw [hp]
 by_cases h:s.size=16
 ·have z1:(s.extract 0 10).size=10:=size_sub (by omega)
  have z2:(s.extract 11 s.size).size=5:=by rw [size_sub (Nat.le_refl _)];omega
  rw [z1,z2,h]
  simp only [allTo,digOn,List.range_succ,List.range_zero,List.nil_append,List.all_append,List.all_cons,List.all_nil,Bool.and_true,mAt]
  have e : ∀ i,byteAt patI i=(([48,48,48,48,45,48,48,45,48,48,32,48,48,58,48,48]:List UInt8).getD i 0).toNat:=fun i=>rfl
  rw [←h]
  rw [digAt_extract s 0 10 _ (by omega),digAt_extract s 0 10 _ (by omega),digAt_extract s 0 10 _ (by omega),digAt_extract s 0 10 _ (by omega),digAt_extract s 0 10 _ (by omega),digAt_extract s 0 10 _ (by omega),digAt_extract s 0 10 _ (by omega),digAt_extract s 0 10 _ (by omega),
   digAt_extract s 11 _ _ (by omega),digAt_extract s 11 _ _ (by omega),digAt_extract s 11 _ _ (by omega),digAt_extract s 11 _ _ (by omega),byteAt_extract s 0 10 _ (by omega),byteAt_extract s 0 10 _ (by omega),byteAt_extract s 11 _ _ (by omega)]
  simp [e]
  grind
 ·rw [decide_eq_false h];rfl
theorem dateB_valid {s:ByteArray} (h:(dateB s).2=0):validB (dateB s).1.1 (dateB s).1.2.1 (dateB s).1.2.2=true:=by
 unfold dateB at h ⊢
 split at h
 ·simp at h
 ·rename_i h1
  rw [if_neg h1]
  split at h
  ·simp at h
  ·rename_i h2
   rw [if_neg h2]
   simpa using h2
theorem clockB_bd (s:ByteArray):0≤(clockB s).1∧(clockB s).1≤1439:=by
 unfold clockB
 split
 ·decide
 ·rename_i h
  split
  ·decide
  ·rename_i h2
   have hm:matchB s patC=true:=by simpa using h
   rw [matchC_iff] at hm
   simp only [Bool.and_eq_true,decide_eq_true_eq] at hm
   obtain ⟨hs,⟨h3, -⟩,h4⟩:=hm
   have d1:=numTo_bd (s.extract 0 2) (s.extract 0 2).size (by rw [dig_sub (by omega)];exact h3)
   have d2:=numTo_bd (s.extract 3 s.size) (s.extract 3 s.size).size (by rw [dig_sub (Nat.le_refl _),hs];exact h4)
   unfold subN at h2 ⊢
   dsimp only
   omega
end Go.Proofs.YtifconapjfdkcaaGreatDoor

/-
  The plain function of pairingdata.People, and that its lists are valid.
  No condition.
-/
import Derived.Test.YtifconapjfdkcaaGreatDoorBAN
namespace Go.Proofs.YtifconapjfdkcaaGreatDoor
set_option linter.unusedSimpArgs false
set_option linter.unusedVariables false
open Go
def dNames:List ByteArray:=[⟨#[97,110,110,97]⟩,⟨#[98,111]⟩,⟨#[99,108,101,111]⟩,⟨#[100,97,110]⟩]
def dName (i:Nat):ByteArray:=dNames.getD i noStr
def dSen0 (k:Int) (i:Nat):Int:=[4,2,9,1].getD ((i+(k/2%4).toNat)%4) 0
def dSens (l:List Int):Nat→List Int
 | 0=>[]
 | i+1=>dSens l i++[if hasI (dSens l i) (dSen0 (atL l (1+i)) i)=true then 20+(i:Int) else dSen0 (atL l (1+i)) i]
def dTypes (k:Int):List ByteArray:=if k/256%8=7 then [] else if k/64%4=3 then [a320S,b737S] else [b737S]
def dVacs (k:Int):List GShift:=if k/2048%4=3 then [⟨12960360+60*(k%16),12960360+60*(k%16)+300⟩] else []
def dPerson (k:Int) (i:Nat) (sen:Int):GPerson:=⟨1+3*i+k%2,dName i,if k/8%8=7 then dCode 1 else dCode 0,(i:Int)%2,sen,dTypes k,dVacs k⟩
def pCount (l:List Int):Nat:=(2+atL l 0%3).toNat
def dPeopleN (l:List Int) (n:Nat):List GPerson:=(List.range n).map fun i=>dPerson (atL l (1+i)) i ((dSens l n).getD i 0)
def dPeople (l:List Int):List GPerson:=dPeopleN l (pCount l)
theorem pCount_range (l:List Int):2≤pCount l∧pCount l≤4:=by unfold pCount;omega
theorem dPeopleN_len (l:List Int) (n:Nat):(dPeopleN l n).length=n:=by unfold dPeopleN;simp
theorem dSens_len (l:List Int) : ∀ n,(dSens l n).length=n
 | 0=>rfl
 | n+1=>by simp [dSens,dSens_len l n]
theorem dSens_take (l:List Int) : ∀ {n i:Nat},i≤n→(dSens l n).take i=dSens l i
 | 0,i,h=>by
  obtain rfl:i=0:=by omega
  rfl
 | n+1,i,h=>by
  rcases Nat.lt_or_eq_of_le h with h1 | rfl
  ·have e:dSens l (n+1)=dSens l n++[if hasI (dSens l n) (dSen0 (atL l (1+n)) n)=true then 20+(n:Int) else dSen0 (atL l (1+n)) n]:=rfl
   rw [e,List.take_append_of_le_length (by rw [dSens_len];omega)]
   exact dSens_take l (by omega)
  ·rw [List.take_of_length_le (by rw [dSens_len];omega)]
theorem dSens_get (l:List Int) {n i:Nat} (h:i<n):(dSens l n).getD i 0=if hasI (dSens l i) (dSen0 (atL l (1+i)) i)=true then 20+(i:Int) else dSen0 (atL l (1+i)) i:=by
 have h1:((dSens l n).take (i+1)).getD i 0=(dSens l n).getD i 0:=by
  rw [List.getD_eq_getElem?_getD,List.getElem?_take,if_pos (by omega), ←List.getD_eq_getElem?_getD]
 rw [←h1,dSens_take l (by omega)]
 have e:dSens l (i+1)=dSens l i++[if hasI (dSens l i) (dSen0 (atL l (1+i)) i)=true then 20+(i:Int) else dSen0 (atL l (1+i)) i]:=rfl
 rw [e,List.getD_eq_getElem?_getD,List.getElem?_append_right (by rw [dSens_len];omega),dSens_len]
 simp
theorem dSen0_range (k:Int) (i:Nat):1≤dSen0 k i∧dSen0 k i≤9:=by
 unfold dSen0
 have h:(i+(k/2%4).toNat)%4<4:=Nat.mod_lt _ (by decide)
 generalize (i+(k/2%4).toNat)%4=j at *
 have:j=0∨j=1∨j=2∨j=3:=by omega
 rcases this with rfl | rfl | rfl | rfl <;> decide
end Go.Proofs.YtifconapjfdkcaaGreatDoor

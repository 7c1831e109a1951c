/-
  The texts of instants, numbers, names and airports as fields of rendered lines.
  No condition.
-/
import Derived.Test.YtifconapjfdkcaaGreatDoorBAS
import Derived.Test.YtifconapjfdkcaaGreatDoorBAV
import Derived.Test.YtifconapjfdkcaaGreatDoorBAW
import Derived.Test.YtifconapjfdkcaaGreatDoorBAB
namespace Go.Proofs.YtifconapjfdkcaaGreatDoor
set_option linter.unusedSimpArgs false
set_option linter.unusedVariables false
open Go.RowKit
theorem sum_find {f:Nat→Int} {x:Int} : ∀ {n:Nat},0≤x→x<sumTo f n → ∃ k,k<n∧sumTo f k≤x∧x<sumTo f (k+1):=by
 intro n
 induction n with
 | zero=>intro h0 h1;simp [sumTo] at h1;omega
 | succ n ih =>
  intro h0 h1
  by_cases h:x<sumTo f n
  ·obtain ⟨k,hk,a,b⟩:=ih h0 h
   exact ⟨k,by omega,a,b⟩
  ·exact ⟨n,by omega,by omega,h1⟩
theorem yearSum_all:yearSum 102=37255:=by decide +kernel
theorem day_ex {day:Int} (h0:0≤day) (h1:day≤36889) : ∃ y m d,validB y m d=true∧dayB y m d=day:=by
 obtain ⟨k,hk,a,b⟩:=sum_find (f:=fun i=>yDays (1999+i)) (x:=day+365) (n:=102) (by omega) (by have:=yearSum_all;unfold yearSum at this;omega)
 have b':day+365<sumTo (fun i=>yDays (1999+i)) k+yDays (1999+k):=b
 have e:=monSum_year (1999+k)
 obtain ⟨j,hj,c,d⟩:=sum_find (f:=fun i=>mDays (1999+k) (1+i)) (x:=day+365-sumTo (fun i=>yDays (1999+i)) k) (n:=12) (by omega) (by unfold monSum at e;omega)
 have d':day+365-sumTo (fun i=>yDays (1999+i)) k<sumTo (fun i=>mDays (1999+k) (1+i)) j+mDays (1999+k) (1+j):=d
 refine ⟨1999+k,1+j,day+365-sumTo (fun i=>yDays (1999+i)) k-sumTo (fun i=>mDays (1999+k) (1+i)) j+1,validB_iff.2 ⟨by omega,by omega,by omega,by omega⟩, ?_⟩
 unfold dayB yearSum monSum
 have e1:(1999+(k:Int)-1999).toNat=k:=by omega
 have e2:(1+(j:Int)-1).toNat=j:=by omega
 rw [e1,e2]
 omega
noncomputable def insD (t:Int):ByteArray:=open Classical in if h : ∃ x:Int×Int×Int,validB x.1 x.2.1 x.2.2=true∧dayB x.1 x.2.1 x.2.2=t/1440 then fmtDate h.choose.1 h.choose.2.1 h.choose.2.2 else (⟨#[]⟩:ByteArray)
noncomputable def insC (t:Int):ByteArray:=fmtClock (t%1440)
theorem ins_is {t:Int} (h0:0≤t) (h1:t<52596000):IsIns t (insD t++blankS++insC t):=by
 obtain ⟨y,m,d,a,b⟩:=day_ex (day:=t/1440) (by omega) (by omega)
 have h : ∃ x:Int×Int×Int,validB x.1 x.2.1 x.2.2=true∧dayB x.1 x.2.1 x.2.2=t/1440:=⟨(y,m,d),a,b⟩
 refine ⟨h.choose.1,h.choose.2.1,h.choose.2.2,h.choose_spec.1,h.choose_spec.2, ?_⟩
 unfold insD insC
 rw [dif_pos h]
theorem IsIns.eqT {t:Int} {s:ByteArray} (h:IsIns t s) (h0:0≤t) (h1:t<52596000):s=insD t++blankS++insC t:=h.eq (ins_is h0 h1)
theorem dgt_fld {n:Nat} (h:n<10):33≤(dgt n).toNat∧(dgt n).toNat≤126∧dgt n≠35:=by
 have:=dgt_nat h
 refine ⟨by omega,by omega,fun e =>?_⟩
 rw [e] at this
 have h35:(35:UInt8).toNat=35:=rfl
 omega
theorem fld_of {l:List UInt8} (hne:l≠[]) (h : ∀ b∈l,33≤b.toNat∧b.toNat≤126∧b≠35):fldOk (bs l):=⟨hne,h⟩
theorem insD_fld {t:Int} (h0:0≤t) (h1:t<52596000):fldOk (insD t)∧(insD t).size=10:=by
 obtain ⟨y,m,d,a,b,e⟩:=ins_is h0 h1
 have e':insD t=fmtDate y m d:=by
  have h : ∃ x:Int×Int×Int,validB x.1 x.2.1 x.2.2=true∧dayB x.1 x.2.1 x.2.2=t/1440:=⟨(y,m,d),a,b⟩
  unfold insD
  rw [dif_pos h]
  obtain ⟨q1,q2,q3⟩:=dayB_inj h.choose_spec.1 a (h.choose_spec.2.trans b.symm)
  rw [q1,q2,q3]
 obtain ⟨v1,v2,v3,v4⟩:=validB_iff.1 a
 have v5:=mDays_bd y m
 have p1:=pad4 (n:=y.toNat) (by omega) (by omega)
 have p2:=pad2 (n:=m.toNat) (by omega)
 have p3:=pad2 (n:=d.toNat) (by omega)
 rw [show ((y.toNat:Nat):Int)=y by omega] at p1
 rw [show ((m.toNat:Nat):Int)=m by omega] at p2
 rw [show ((d.toNat:Nat):Int)=d by omega] at p3
 have e2:insD t=bs ([dgt (y.toNat/1000),dgt (y.toNat/100%10),dgt (y.toNat/10%10),dgt (y.toNat%10),45,dgt (m.toNat/10),dgt (m.toNat%10),45,dgt (d.toNat/10),dgt (d.toNat%10)]):=by
  rw [e']
  unfold fmtDate
  rw [p1,p2,p3]
  show bs _++bs [45]++bs _++bs [45]++bs _=_
  simp only [bs_app]
  rfl
 rw [e2]
 refine ⟨fld_of (by simp) fun c hc =>?_,by rw [bs_size];rfl⟩
 simp only [List.mem_cons,List.not_mem_nil,or_false] at hc
 rcases hc with rfl | rfl | rfl | rfl | rfl | rfl | rfl | rfl | rfl | rfl
 all_goals first | exact dgt_fld (by omega) | decide
theorem insC_fld {t:Int}:fldOk (insC t)∧(insC t).size=5:=by
 unfold insC fmtClock
 have p2:=pad2 (n:=(t%1440/60).toNat) (by omega)
 have p3:=pad2 (n:=(t%1440%60).toNat) (by omega)
 rw [show (((t%1440/60).toNat:Nat):Int)=t%1440/60 by omega] at p2
 rw [show (((t%1440%60).toNat:Nat):Int)=t%1440%60 by omega] at p3
 rw [p2,p3]
 have e:bs [dgt ((t%1440/60).toNat/10),dgt ((t%1440/60).toNat%10)]++colS++bs [dgt ((t%1440%60).toNat/10),dgt ((t%1440%60).toNat%10)]=bs [dgt ((t%1440/60).toNat/10),dgt ((t%1440/60).toNat%10),58,dgt ((t%1440%60).toNat/10),dgt ((t%1440%60).toNat%10)]:=by
  show bs _++bs [58]++bs _=_
  simp only [bs_app]
  rfl
 rw [e]
 refine ⟨fld_of (by simp) fun c hc =>?_,by rw [bs_size];rfl⟩
 simp only [List.mem_cons,List.not_mem_nil,or_false] at hc
 rcases hc with rfl | rfl | rfl | rfl | rfl
 all_goals first | exact dgt_fld (by omega) | decide
theorem ins_read {t:Int} (h0:0≤t) (h1:t<52596000):insB (insD t++spS++insC t)=(t,0):=(ins_is h0 h1).back h0 h1
theorem numS_fld {n:Int} (h0:0≤n):fldOk (numS n):=by
 unfold numS
 rw [Lib.itoa,if_neg (by omega)]
 obtain ⟨h1,_,_⟩:=dec_facts n.toNat
 refine fld_of (fun e=>by have:=dec_pos n.toNat;rw [e] at this;simp at this) fun b hb =>?_
 obtain ⟨i,hi,rfl⟩:=List.getElem_of_mem hb
 have:=h1 i hi
 unfold digAt numberI byteAt at this
 rw [bs_data,List.getD_eq_getElem?_getD,List.getElem?_eq_getElem hi] at this
 simp only [Option.getD_some,Bool.and_eq_true,decide_eq_true_eq] at this
 refine ⟨by omega,by omega,fun e =>?_⟩
 rw [e] at this
 have h35:(35:UInt8).toNat=35:=rfl
 omega
theorem bytes_fld {s:ByteArray} (h1:1≤s.size) (h : ∀ i,i<s.size→36≤byteAt s i∧byteAt s i≤126):fldOk s:=by
 refine ⟨fun e=>by rw [Lib.size_eq,e] at h1;simp at h1,fun b hb =>?_⟩
 obtain ⟨i,hi,rfl⟩:=List.getElem_of_mem hb
 have:=h i (by rw [Lib.size_eq];exact hi)
 unfold byteAt at this
 rw [List.getD_eq_getElem?_getD,List.getElem?_eq_getElem hi] at this
 simp only [Option.getD_some] at this
 refine ⟨by omega,by omega,fun e =>?_⟩
 rw [e] at this
 have h35:(35:UInt8).toNat=35:=rfl
 omega
theorem name_fld {s:ByteArray} (h:isNameB s=true):fldOk s:=by
 unfold isNameB at h
 simp only [Bool.and_eq_true,decide_eq_true_eq] at h
 obtain ⟨⟨h1,h2⟩,h3⟩:=h
 refine bytes_fld h1 fun i hi =>?_
 have:=allTo_iff.1 h3 i hi
 unfold nmAt lowerI numberI at this
 simp only [Bool.or_eq_true,Bool.and_eq_true,decide_eq_true_eq,beq_iff_eq] at this
 omega
theorem airport_fld {s:ByteArray} (h:isAirportB s=true):fldOk s:=by
 unfold isAirportB at h
 simp only [Bool.and_eq_true,beq_iff_eq] at h
 refine bytes_fld (by omega) fun i hi =>?_
 have:=allTo_iff.1 h.2 i hi
 unfold upAt upperI at this
 simp only [Bool.and_eq_true,decide_eq_true_eq] at this
 omega
end Go.Proofs.YtifconapjfdkcaaGreatDoor

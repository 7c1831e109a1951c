/-
  Plain texts of dates, clock times and instants; that an instant is read back from its text; that a day has one date.
  No condition.
-/
import Derived.Test.YtifconapjfdkcaaGreatDoorBAU
namespace Go.Proofs.YtifconapjfdkcaaGreatDoor
set_option linter.unusedSimpArgs false
set_option linter.unusedVariables false
open Go
def zS:ByteArray:=⟨#[48]⟩
def dashS:ByteArray:=⟨#[45]⟩
def colS:ByteArray:=⟨#[58]⟩
def blankS:ByteArray:=⟨#[32]⟩
def numS (n:Int):ByteArray:=bs (Lib.itoa n)
def padB (n:Int) (d:Nat):ByteArray:=if (numS n).size<d then zS++numS n else numS n
def fmtDate (y m d:Int):ByteArray:=padB y 4++dashS++padB m 2++dashS++padB d 2
def fmtClock (c:Int):ByteArray:=padB (c/60) 2++colS++padB (c%60) 2
def dgt (n:Nat):UInt8:=UInt8.ofNat (48+n)
theorem bs_app (a b:List UInt8):bs a++bs b=bs (a++b):=by
 have:(bs a++bs b).data.toList=(bs (a++b)).data.toList:=by
  rw [ByteArray.data_append,Array.toList_append];rfl
 rw [←bs_of (bs a++bs b),this]
 rfl
theorem numS_one {n:Nat} (h:n<10):numS n=bs [dgt n]:=by
 unfold numS
 rw [Lib.itoa,if_neg (by omega),Int.toNat_natCast,Lib.decDigits_one h]
 rfl
theorem numS_two {n:Nat} (h1 : ¬n<10) (h2:n<100):numS n=bs [dgt (n/10),dgt (n%10)]:=by
 unfold numS
 rw [Lib.itoa,if_neg (by omega),Int.toNat_natCast,Lib.decDigits_two h1 h2]
 rfl
theorem numS_four {n:Nat} (h1:1000≤n) (h2:n<10000):numS n=bs [dgt (n/1000),dgt (n/100%10),dgt (n/10%10),dgt (n%10)]:=by
 unfold numS
 have e1:Lib.decDigits n=Lib.decDigits (n/10)++[UInt8.ofNat (48+n%10)]:=by rw [Lib.decDigits,dif_neg (by omega)]
 have e2:Lib.decDigits (n/10)=Lib.decDigits (n/10/10)++[UInt8.ofNat (48+n/10%10)]:=by rw [Lib.decDigits,dif_neg (by omega)]
 rw [Lib.itoa,if_neg (by omega),Int.toNat_natCast,e1,e2,Lib.decDigits_two (by omega) (by omega)]
 have a1:n/10/10/10=n/1000:=by omega
 have a2:n/10/10%10=n/100%10:=by omega
 rw [a1,a2]
 rfl
theorem pad2 {n:Nat} (h:n<100):padB n 2=bs [dgt (n/10),dgt (n%10)]:=by
 unfold padB
 by_cases h1:n<10
 ·rw [numS_one h1,if_pos (by rw [bs_size];simp)]
  have e1:n/10=0:=by omega
  have e2:n%10=n:=by omega
  rw [e1,e2]
  exact bs_app [48] [dgt n]
 ·rw [numS_two h1 h,if_neg (by rw [bs_size];simp)]
theorem pad4 {n:Nat} (h1:1000≤n) (h2:n<10000):padB n 4=bs [dgt (n/1000),dgt (n/100%10),dgt (n/10%10),dgt (n%10)]:=by
 unfold padB
 rw [numS_four h1 h2,if_neg (by rw [bs_size];simp)]
theorem dgt_nat {n:Nat} (h:n<10):(dgt n).toNat=48+n:=by
 unfold dgt
 rw [UInt8.toNat_ofNat'];omega
def insL (y m d h i:Nat):List UInt8:=[dgt (y/1000),dgt (y/100%10),dgt (y/10%10),dgt (y%10),45,dgt (m/10),dgt (m%10),45,dgt (d/10),dgt (d%10),32,dgt (h/10),dgt (h%10),58,dgt (i/10),dgt (i%10)]
theorem fmt_bytes {y m d h i:Nat} (hy:1000≤y) (hy2:y<10000) (hm:m<100) (hd:d<100) (hh:h<100) (hi:i<60):fmtDate y m d++blankS++fmtClock (60*h+i)=bs (insL y m d h i):=by
 unfold fmtDate fmtClock
 have e1:(60*(h:Int)+i)/60=(h:Nat):=by omega
 have e2:(60*(h:Int)+i)%60=(i:Nat):=by omega
 rw [e1,e2,pad4 hy hy2,pad2 hm,pad2 hd,pad2 hh,pad2 (by omega)]
 show bs _++bs [45]++bs _++bs [45]++bs _++bs [32]++(bs _++bs [58]++bs _)=_
 simp only [bs_app]
 rfl
section
variable {y m d h i:Nat}
theorem byteAt_dgt {s:ByteArray} {k n:Nat} (e:s.data.toList.getD k 0=dgt n) (hn:n<10):byteAt s k=48+n:=by
 unfold byteAt
 rw [e,dgt_nat hn]
 omega
theorem digAt_dgt {s:ByteArray} {k n:Nat} (e:s.data.toList.getD k 0=dgt n) (hn:n<10):digAt s k=true:=by
 unfold digAt numberI
 rw [byteAt_dgt e hn]
 simp
 omega
theorem sub_two {s:ByteArray} {a b n:Nat} (hb:b=a+2) (hs:b≤s.size) (e0:byteAt s a=48+(n/10:Nat)) (e1:byteAt s (a+1)=48+(n%10:Nat)):subN s a b=n:=by
 subst hb
 unfold subN
 rw [size_sub hs]
 have:a+2-a=2:=by omega
 rw [this]
 show 10*(10*0+(byteAt (s.extract a (a+2)) 0-48))+(byteAt (s.extract a (a+2)) 1-48)=_
 rw [byteAt_extract _ _ _ _ (by omega),byteAt_extract _ _ _ _ (by omega),Nat.add_zero,e0,e1]
 omega
theorem sub_four {s:ByteArray} {n:Nat} (hs:4≤s.size) (e0:byteAt s 0=48+(n/1000:Nat)) (e1:byteAt s 1=48+(n/100%10:Nat)) (e2:byteAt s 2=48+(n/10%10:Nat)) (e3:byteAt s 3=48+(n%10:Nat)):subN s 0 4=n:=by
 unfold subN
 rw [size_sub hs]
 show 10*(10*(10*(10*0+(byteAt (s.extract 0 4) 0-48))+(byteAt (s.extract 0 4) 1-48))+(byteAt (s.extract 0 4) 2-48))+(byteAt (s.extract 0 4) 3-48)=_
 rw [byteAt_extract _ _ _ _ (by omega),byteAt_extract _ _ _ _ (by omega),byteAt_extract _ _ _ _ (by omega),byteAt_extract _ _ _ _ (by omega)]
 simp only [Nat.zero_add]
 rw [e0,e1,e2,e3]
 omega
theorem ins_match (hy2:y<10000) (hm:m<100) (hd:d<100) (hh:h<100) (hi:i<100):matchB (bs (insL y m d h i)) patI=true:=by
 unfold matchB
 have hz:(bs (insL y m d h i)).size=16:=bs_size _
 rw [hz]
 rw [Bool.and_eq_true]
 refine ⟨by decide, ?_⟩
 rw [allTo_iff]
 intro k hk
 have hk':k=0∨k=1∨k=2∨k=3∨k=4∨k=5∨k=6∨k=7∨k=8∨k=9∨k=10∨k=11∨k=12∨k=13∨k=14∨k=15:=by omega
 unfold mAt
 rcases hk' with rfl | rfl | rfl | rfl | rfl | rfl | rfl | rfl | rfl | rfl | rfl | rfl | rfl | rfl | rfl | rfl
 all_goals first
  | (rw [if_neg (by decide)];rfl)
  | (rw [if_pos (by decide)];exact digAt_dgt (n:=_) rfl (by omega))
theorem ins_parts (s:ByteArray) (hs:s=bs (insL y m d h i)) (hy2:y<10000) (hm:m<100) (hd:d<100) (hh:h<100) (hi:i<100) :
 s.size=16∧matchB s patI=true∧matchB (s.extract 0 10) patD=true∧matchB (s.extract 11 s.size) patC=true ∧
 subN (s.extract 0 10) 0 4=y∧subN (s.extract 0 10) 5 7=m∧subN (s.extract 0 10) 8 (s.extract 0 10).size=d∧subN (s.extract 11 s.size) 0 2=h∧subN (s.extract 11 s.size) 3 (s.extract 11 s.size).size=i:=by
 have hz:s.size=16:=by rw [hs];exact bs_size _
 have hM:matchB s patI=true:=by rw [hs];exact ins_match hy2 hm hd hh hi
 have hM2:=hM
 rw [matchI_iff] at hM2
 simp only [Bool.and_eq_true,decide_eq_true_eq] at hM2
 obtain ⟨-,⟨-,hD⟩,hC⟩:=hM2
 have z1:(s.extract 0 10).size=10:=size_sub (by omega)
 have z2:(s.extract 11 s.size).size=5:=by rw [size_sub (Nat.le_refl _)];omega
 have bd : ∀ k n,s.data.toList.getD k 0=dgt n→n<10→k<10→byteAt (s.extract 0 10) k=48+n:=fun k n e hn hk=>by
  rw [byteAt_extract _ _ _ _ (by omega),Nat.zero_add];exact byteAt_dgt e hn
 have bc : ∀ k n,s.data.toList.getD (11+k) 0=dgt n→n<10→11+k<16→byteAt (s.extract 11 s.size) k=48+n:=fun k n e hn hk=>by
  rw [byteAt_extract _ _ _ _ (by omega)];exact byteAt_dgt e hn
 refine ⟨hz,hM,hD,hC, ?_, ?_, ?_, ?_, ?_⟩
 ·exact sub_four (by omega) (bd 0 _ (by rw [hs];rfl) (by omega) (by omega)) (bd 1 _ (by rw [hs];rfl) (by omega) (by omega)) (bd 2 _ (by rw [hs];rfl) (by omega) (by omega)) (bd 3 _ (by rw [hs];rfl) (by omega) (by omega))
 ·exact sub_two (by omega) (by omega) (bd 5 _ (by rw [hs];rfl) (by omega) (by omega)) (bd 6 _ (by rw [hs];rfl) (by omega) (by omega))
 ·exact sub_two (by omega) (by omega) (bd 8 _ (by rw [hs];rfl) (by omega) (by omega)) (bd 9 _ (by rw [hs];rfl) (by omega) (by omega))
 ·exact sub_two (by omega) (by omega) (bc 0 _ (by rw [hs];rfl) (by omega) (by omega)) (bc 1 _ (by rw [hs];rfl) (by omega) (by omega))
 ·exact sub_two (by omega) (by omega) (bc 3 _ (by rw [hs];rfl) (by omega) (by omega)) (bc 4 _ (by rw [hs];rfl) (by omega) (by omega))
theorem ins_back (hv:validB y m d=true) (hh:h<24) (hi:i<60) (h0:0≤dayB y m d*1440+(h*60+i)) (h1:dayB y m d*1440+(h*60+i)<52596000):insB (bs (insL y m d h i))=(dayB y m d*1440+(h*60+i),0):=by
 obtain ⟨v1,v2,v3,v4⟩:=validB_iff.1 hv
 have v5:=mDays_bd y m
 obtain ⟨hz,p1,p2,p3,p4,p5,p6,p7,p8⟩:=ins_parts (y:=y) (m:=m) (d:=d) (h:=h) (i:=i) _ rfl (by omega) (by omega) (by omega) (by omega) (by omega)
 generalize bs (insL y m d h i)=s at *
 have eD:dateB (s.extract 0 10)=(((y:Int),(m:Int),(d:Int)),(0:Int)):=by
  unfold dateB
  rw [p2,p4,p5,p6,hv]
  rfl
 have eC:clockB (s.extract 11 s.size)=((h:Int)*60+(i:Int),(0:Int)):=by
  unfold clockB
  rw [p3,p7,p8,if_neg (by simp),if_neg (by omega)]
 unfold insB
 rw [p1,eD,eC,if_neg (by simp),if_neg (by simp),if_neg (by simp)]
 dsimp only
 rw [if_neg (by omega)]
end
theorem monSum_year (y:Int):monSum y 12=yDays y:=by
 have e:monSum y 12=337+mDays y 2:=by
  show sumTo _ 12=_
  simp only [sumTo]
  have f : ∀ k:Nat,k≠1→mDays y (1+(k:Int))=mTab.getD k 0:=fun k hk=>by
   unfold mDays
   rw [if_neg (by omega)]
   congr 1
   omega
  have g:mDays y (1+((1:Nat):Int))=mDays y 2:=rfl
  rw [f 0 (by decide),g,f 2 (by decide),f 3 (by decide),f 4 (by decide),f 5 (by decide),f 6 (by decide),f 7 (by decide),f 8 (by decide),f 9 (by decide),f 10 (by decide),f 11 (by decide)]
  simp only [mTab,List.getD_cons_succ,List.getD_cons_zero]
  omega
 rw [e]
 unfold mDays yDays
 by_cases hl:leapB y=true
 ·rw [if_pos ⟨rfl,hl⟩,if_pos hl];rfl
 ·rw [if_neg (by rintro ⟨-,h⟩;exact hl h),if_neg hl];rfl
theorem sumTo_le {f:Nat→Int} (h : ∀ i,0≤f i) : ∀ {a b:Nat},a≤b→sumTo f a≤sumTo f b:=by
 intro a b hab
 induction b with
 | zero =>
  have:a=0:=by omega
  rw [this]
  exact Int.le_refl _
 | succ b ih =>
  rcases Nat.lt_or_eq_of_le hab with h1 | h1
  ·have:=ih (by omega);have:=h b;simp only [sumTo];omega
  ·rw [h1];exact Int.le_refl _
theorem mon_lt {y m d m' d':Int} (h1:1≤m) (hm:m<m') (hd:d≤mDays y m) (hd':1≤d'):monSum y (m-1).toNat+d<monSum y (m'-1).toNat+d':=by
 have e:monSum y ((m-1).toNat+1)=monSum y (m-1).toNat+mDays y m:=by
  show monSum y (m-1).toNat+mDays y (1+((m-1).toNat:Int))=_
  congr 2
  omega
 have:=sumTo_le (f:=fun i=>mDays y (1+i)) (fun i=>(mDays_bd _ _).1) (a:=(m-1).toNat+1) (b:=(m'-1).toNat) (by omega)
 have:monSum y ((m-1).toNat+1)≤monSum y (m'-1).toNat:=this
 omega
theorem mon_le {y m d:Int} (h1:1≤m) (h2:m≤12) (hd:d≤mDays y m):monSum y (m-1).toNat+d≤yDays y:=by
 have e:monSum y ((m-1).toNat+1)=monSum y (m-1).toNat+mDays y m:=by
  show monSum y (m-1).toNat+mDays y (1+((m-1).toNat:Int))=_
  congr 2
  omega
 have:monSum y ((m-1).toNat+1)≤monSum y 12:=sumTo_le (f:=fun i=>mDays y (1+i)) (fun i=>(mDays_bd _ _).1) (by omega)
 rw [monSum_year] at this
 omega
theorem year_lt {y m d y' m' d':Int} (hv:validB y m d=true) (hv':validB y' m' d'=true) (h:y<y'):dayB y m d<dayB y' m' d':=by
 obtain ⟨a1,a2,a3,a4⟩:=validB_iff.1 hv
 obtain ⟨b1,b2,b3,b4⟩:=validB_iff.1 hv'
 have c:=mon_le a2.1 a2.2 a4
 have e:yearSum ((y-1999).toNat+1)=yearSum (y-1999).toNat+yDays y:=by
  show yearSum (y-1999).toNat+yDays (1999+((y-1999).toNat:Int))=_
  congr 2
  omega
 have f:yearSum ((y-1999).toNat+1)≤yearSum (y'-1999).toNat:=sumTo_le (f:=fun i=>yDays (1999+i)) (fun i=>(yDays_bd _).1) (by omega)
 have g:=monSum_bd y' (m'-1).toNat
 unfold dayB
 omega
theorem dayB_inj {y m d y' m' d':Int} (hv:validB y m d=true) (hv':validB y' m' d'=true) (h:dayB y m d=dayB y' m' d'):y=y'∧m=m'∧d=d':=by
 have e1:y=y':=by
  rcases Int.lt_trichotomy y y' with h1 | h1 | h1
  ·have:=year_lt hv hv' h1;omega
  ·exact h1
  ·have:=year_lt hv' hv h1;omega
 subst e1
 obtain ⟨a1,a2,a3,a4⟩:=validB_iff.1 hv
 obtain ⟨b1,b2,b3,b4⟩:=validB_iff.1 hv'
 unfold dayB at h
 have e2:m=m':=by
  rcases Int.lt_trichotomy m m' with h1 | h1 | h1
  ·have:=mon_lt a2.1 h1 a4 b3;omega
  ·exact h1
  ·have:=mon_lt b2.1 h1 b4 a3;omega
 subst e2
 exact ⟨rfl,rfl,by omega⟩
def IsIns (t:Int) (s:ByteArray):Prop := ∃ y m d,validB y m d=true∧dayB y m d=t/1440∧s=fmtDate y m d++blankS++fmtClock (t%1440)
theorem IsIns.eq {t:Int} {s s':ByteArray} (h:IsIns t s) (h':IsIns t s'):s=s':=by
 obtain ⟨y,m,d,a1,a2,rfl⟩:=h
 obtain ⟨y',m',d',b1,b2,rfl⟩:=h'
 obtain ⟨rfl,rfl,rfl⟩:=dayB_inj a1 b1 (a2.trans b2.symm)
 rfl
theorem IsIns.bytes {t:Int} {s:ByteArray} (h:IsIns t s) : ∃ y m d hh i:Nat,(1999≤y∧y≤2100)∧(1≤m∧m≤12)∧(1≤d∧d≤31)∧hh<24∧i<60∧s=bs (insL y m d hh i)∧validB y m d=true∧dayB y m d*1440+(hh*60+i)=t:=by
 obtain ⟨y,m,d,hv,hd,rfl⟩:=h
 obtain ⟨a1,a2,a3,a4⟩:=validB_iff.1 hv
 have a5:=mDays_bd y m
 refine ⟨y.toNat,m.toNat,d.toNat,(t%1440/60).toNat,(t%1440%60).toNat,by omega,by omega,by omega,by omega,by omega, ?_, ?_, ?_⟩
 ·have e:=fmt_bytes (y:=y.toNat) (m:=m.toNat) (d:=d.toNat) (h:=(t%1440/60).toNat) (i:=(t%1440%60).toNat) (by omega) (by omega) (by omega) (by omega) (by omega) (by omega)
  rw [←e]
  have c1:((y.toNat:Nat):Int)=y:=by omega
  have c2:((m.toNat:Nat):Int)=m:=by omega
  have c3:((d.toNat:Nat):Int)=d:=by omega
  have c4:60*(((t%1440/60).toNat:Nat):Int)+(((t%1440%60).toNat:Nat):Int)=t%1440:=by omega
  rw [c1,c2,c3,c4]
 ·have c1:((y.toNat:Nat):Int)=y:=by omega
  have c2:((m.toNat:Nat):Int)=m:=by omega
  have c3:((d.toNat:Nat):Int)=d:=by omega
  rw [c1,c2,c3];exact hv
 ·have c1:((y.toNat:Nat):Int)=y:=by omega
  have c2:((m.toNat:Nat):Int)=m:=by omega
  have c3:((d.toNat:Nat):Int)=d:=by omega
  rw [c1,c2,c3,hd];omega
theorem IsIns.back {t:Int} {s:ByteArray} (h:IsIns t s) (h0:0≤t) (h1:t<52596000):insB s=(t,0):=by
 obtain ⟨y,m,d,hh,i, -, -, -,b1,b2,rfl,hv,e⟩:=h.bytes
 rw [ins_back hv b1 b2 (by omega) (by omega),e]
end Go.Proofs.YtifconapjfdkcaaGreatDoor

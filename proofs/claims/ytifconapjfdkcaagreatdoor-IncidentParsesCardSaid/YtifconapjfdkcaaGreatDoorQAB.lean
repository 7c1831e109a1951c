/-
  Joined texts: ValidateRef; Sorts; NumPlain; CalPlain; Numbers; RefFields; Text40; ReadPlain; FindRef. What each proves stands ahead of it, with its conditions.
-/
import Derived.Test.YtifconapjfdkcaaGreatDoorQAA
import Derived.Deep.QuietTactic
import Derived.BigQuiet
import Derived.Ground.SlsfProg
import Derived.Shelf.SlSortCmp.Insertion
import Derived.Test.YtifconapjfdkcaaGreatDoorProg
import Derived.WalkKit
import Derived.WalkLawsBesides
import Derived.WalkSpells
import Derived.Lib.Hide
import Derived.Maps.AppendAt
import Derived.Lib.ItoaNum
import Derived.Shelf.Strings.Builder1
import Derived.Shelf.Strings.Builder2
import Derived.Shelf.Small.Strs
import Derived.Shelf.Strings.BuilderF
import Derived.Shelf.Strconv.Itoa0
import Derived.Shelf.Strconv.Itoa1
import Derived.Shelf.LaysM
import Derived.Shelf.Strconv.Itoa2
import Derived.Shelf.Strconv.Itoa3
import Derived.Shelf.Strings.Search1
import Derived.Shelf.Strings.Search2
import Derived.Shelf.Strings.Search3
import Derived.Shelf.Strings.Cut
import Derived.Shelf.Strings.Count
import Derived.Shelf.Strings.Shaped
import Derived.Shelf.Strings.Prefix
import Derived.Shelf.Strings.Split
import Derived.Shelf.Strings.SplitShaped
import Derived.Shelf.Bits.Mul64
import Derived.Shelf.Strings.Repeat
import Derived.Shelf.Unicode.DecodeSlow
import Derived.Shelf.SlSortCmp.Insertion1
import Derived.Sort.Grow
import Derived.ProofKit
import Derived.Deep.Slices
import Derived.Lib.AppendStr
import Derived.Laws.Rows
import Derived.Laws.Tables
import Derived.Deep.RegionWith
import Derived.Deep.AppendLies
import Derived.Deep.RegionLaw
import Derived.StillTail
import Derived.RegionTactic
import Derived.Deep.DeepCutAuto
import Derived.IntWalk
import Derived.Maps.OwnOps
import Derived.Maps.Views
import Derived.StillTailTactics
import Derived.Sort.LotA
import Derived.Sort.Walk0
import Derived.Lib.Bytealg
import Derived.Sort.OwnSortedInts
import Derived.Sort.WalkA
import Derived.Deep.OwnRows
import Derived.Laws.Externs
import Derived.OwnWalk
import Derived.Test.YtifconapjfdkcaaGreatDoorDAA
import Derived.Test.YtifconapjfdkcaaGreatDoorDAB
import Derived.Test.YtifconapjfdkcaaGreatDoorDAC
import Derived.Test.YtifconapjfdkcaaGreatDoorDAD
import Derived.Test.YtifconapjfdkcaaGreatDoorDAE
import Derived.Test.YtifconapjfdkcaaGreatDoorDAF
import Derived.Test.YtifconapjfdkcaaGreatDoorDAG
import Derived.Test.YtifconapjfdkcaaGreatDoorDAH
import Derived.Test.YtifconapjfdkcaaGreatDoorDAI
import Derived.Test.YtifconapjfdkcaaGreatDoorDAJ
import Derived.Test.YtifconapjfdkcaaGreatDoorDAK
import Derived.Test.YtifconapjfdkcaaGreatDoorDAL
import Derived.Test.YtifconapjfdkcaaGreatDoorDAM
import Derived.Test.YtifconapjfdkcaaGreatDoorDAN
import Derived.Test.YtifconapjfdkcaaGreatDoorDAO
import Derived.Test.YtifconapjfdkcaaGreatDoorDAP
import Derived.Test.YtifconapjfdkcaaGreatDoorDAQ
import Derived.Test.YtifconapjfdkcaaGreatDoorDAR
import Derived.Test.YtifconapjfdkcaaGreatDoorDAS
import Derived.Test.YtifconapjfdkcaaGreatDoorDAT
import Derived.Test.YtifconapjfdkcaaGreatDoorDAU
import Derived.Test.YtifconapjfdkcaaGreatDoorDAV
import Derived.Test.YtifconapjfdkcaaGreatDoorDAW
import Derived.Test.YtifconapjfdkcaaGreatDoorDAX
import Derived.Test.YtifconapjfdkcaaGreatDoorDAY
import Derived.Test.YtifconapjfdkcaaGreatDoorDAZ
import Derived.Test.YtifconapjfdkcaaGreatDoorDBA
import Derived.Test.YtifconapjfdkcaaGreatDoorDBB
import Derived.Test.YtifconapjfdkcaaGreatDoorDBC
import Derived.Test.YtifconapjfdkcaaGreatDoorDBD
import Derived.Test.YtifconapjfdkcaaGreatDoorDBE
import Derived.Test.YtifconapjfdkcaaGreatDoorDBF
import Derived.Test.YtifconapjfdkcaaGreatDoorDBG
import Derived.Test.YtifconapjfdkcaaGreatDoorDBH
import Derived.Test.YtifconapjfdkcaaGreatDoorDBI
import Derived.Test.YtifconapjfdkcaaGreatDoorDBJ
set_option linter.unusedSimpArgs false
set_option linter.unusedVariables false
set_option maxRecDepth 100000
set_option maxHeartbeats 12800000
namespace Go.Proofs.YtifconapjfdkcaaGreatDoor
open Go.RowKit
theorem Sl.drewN{α : Type}{t:Ty α}{w:World}{S:Nat→Prop}{A:Option Addr}{n c:Nat}{xs:List α}(h:Sl t w S A n c xs)(m:Nat):Sl t (w.drewN m) S A n c xs:=h.keep fun _ _=>rfl
theorem validateR_any(t:GTT)(A1 A2 A3:Option Addr)(n1 n2 n3 c1 c2 c3:Nat)(w:World)(ht:t.ok)(hs1:Sl Ty.zone w (all_ w) A1 n1 c1 t.zones)(hs2:Sl Ty.airport w (all_ w) A2 n2 c2 t.airports)(hs3:Sl Ty.flight w (all_ w) A3 n3 c3 t.flights) :
 Calls Tryz.prog 47 #[.agg #[.slice A1 n1 c1,.slice A2 n2 c2,.slice A3 n3 c3]] w (ErrPost (ttE t) w):=by
 have HT:=qH ht;obtain⟨ok1,ok2,ok3⟩:=ht;have e1:=hs1.len;have e2:=hs2.len;have e3:=hs3.len;have m1:=hs1.le;have m2:=hs2.le;have m3:=hs3.le;have q1:=hs1.2.1;have q2:=hs2.2.1;unfold maxLen at m1 m2 m3;have HB1:Hid (∀ o1,Below w.heap.size w (w.alloc o1)):=fun o1=>(qC _ _).alloc (qD _) _
 by_cases hbig:16<n1∨64<n2∨200<n3
 case pos =>
  have HR:Hid (ttE t=10):=by show _=_;unfold ttE;rw[qR (by omega)]
  have hb':16<n1∨(¬16<n1∧64<n2)∨(¬16<n1 ∧ ¬64<n2∧200<n3):=by omega
  clear hbig e1 e2 e3 hs1 hs2 hs3 ok1 ok2 ok3;rcases hb' with h|⟨h,h'⟩|⟨h,h',h''⟩
  all_goals
   go_enter Tryz.func47,Tryz.ntmps47
   go_wp2_with fail
   go_ret
   exact⟨by rw[HR.out];rfl,HB1.out _⟩
 have b1:n1≤16:=by omega
 have b2:n2≤64:=by omega
 have b3:n3≤200:=by omega
 have HR:Hid (ttE t=if firstErr (zErr t.zones) t.zones.length≠0 then firstErr (zErr t.zones) t.zones.length else
  if firstErr (aErr t.zones t.airports) t.airports.length≠0 then firstErr (aErr t.zones t.airports) t.airports.length else firstErr (fErr (aCodes t.airports) t.flights) t.flights.length):=by show _=_;unfold ttE;rw[qN (by omega)]
 have l1:n1≤t.zones.length:=by omega
 have l1':t.zones.length≤n1:=by omega
 have l2:n2≤t.airports.length:=by omega
 have l2':t.airports.length≤n2:=by omega
 have l3:n3≤t.flights.length:=by omega
 have l3':t.flights.length≤n3:=by omega
 clear hbig e1 e2 e3;have OK1:=qH ok1;have OK2:=qH ok2;clear ok1 ok2 ok3
 go_enter Tryz.func47,Tryz.ntmps47
 go_wp2_with fail
 have hb0:=HB1.out (.cells #[.slice A1 n1 c1,.slice A2 n2 c2,.slice A3 n3 c3] 27);have hx0 : ∀ j,(w.alloc (.cells #[.slice A1 n1 c1,.slice A2 n2 c2,.slice A3 n3 c3] 27)).cell? ⟨w.heap.size,j,none⟩=(#[Value.slice A1 n1 c1,.slice A2 n2 c2,.slice A3 n3 c3])[j]? :=fun j=>by
  rw[World.cell?_alloc_at _ _ _ _ rfl]
 have hsw:(w.alloc (.cells #[.slice A1 n1 c1,.slice A2 n2 c2,.slice A3 n3 c3] 27)).heap.size=w.heap.size+1:=by simp
 generalize hW:w.alloc (.cells #[.slice A1 n1 c1,.slice A2 n2 c2,.slice A3 n3 c3] 27)=W at*;have HX0:Hid (W.cell? ⟨w.heap.size,0,none⟩=some (.slice A1 n1 c1)):=hx0 0;have HX1:Hid (W.cell? ⟨w.heap.size,1,none⟩=some (.slice A2 n2 c2)):=hx0 1;have HX2:Hid (W.cell? ⟨w.heap.size,2,none⟩=some (.slice A3 n3 c3)):=hx0 2;have HS1:=qH (hs1.next hb0);have HS2:=qH (hs2.next hb0);have HS3:=qH (hs3.next hb0);have HW:=qH hsw;have HB0:=qH hb0;clear hs1 hs2 hs3 hW hx0 hsw hb0 HB1;go_loopw [2,3] (fun _ i wr => ∃ k:Nat,k≤n1∧i=.int .i64 k∧Below W.heap.size W wr∧Hid (zeroTo (zErr t.zones) k)) (fun _ i _=>n1-(intOf i).toNat)
 case atStart=>exact⟨0,qV _,rfl,qC _ _,zeroTo_zero _⟩
 case round =>
  obtain⟨k,hk,rfl,hbr,HK⟩:=hrel;have hx0:wr.cell? ⟨w.heap.size,0,none⟩=some (.slice A1 n1 c1):=(hbr.cell (by have:=HW.out;simp;omega)).trans HX0.out;have hsz:w.heap.size+1≤wr.heap.size:=by have:=hbr.size;have:=HW.out;omega
  by_cases hlt:k<n1
  ·have hsr:=HS1.out.next hbr;obtain⟨b,o,A',n',c',rfl,hbS,hc0,hc1,hc2,hsh⟩:=hsr.zone_at (k:=k) (by omega);have hzok:=OK1.out _ (getD_mem0 (show k<t.zones.length by omega) noZone);have HERR:Hid (zErr t.zones k=if zoneE (t.zones.getD k noZone)≠0 then zoneE (t.zones.getD k noZone) else if hasB (zNames (t.zones.take k)) (t.zones.getD k noZone).name=true then 7 else 0):=rfl;generalize hz:t.zones.getD k noZone=z at*;have HZC:=qH (zoneValidateR_any z A' n' c' _ hzok hsh);have HSR:=qH hsr;have HC:=qH hc0;clear hz hsh hzok hsr;go_wp2_with fail
   refine HZC.out.mono ?_;rintro e w2 ⟨rfl,hb2⟩;have hc02:=cell_kept HC.out hb2;have hx02:=cell_kept hx0 hb2;have HB2:=qH (hbr.trans (hb2.mono hbr.size));have HS2':=qH ((HSR.out.next hb2).take hk);clear hc0 hc1 hc2 hx0 HZC
   by_cases hz0:zoneE z=0
   ·rw[hz0];have t1:(0:Int)≤(k:Int):=by omega
    have t2:(k:Int)≤(n1:Int):=by omega
    have t3:(k:Int)≤(c1:Int):=by omega
    have t4:k≤c1:=by omega
    by_cases hdup:hasB (zNames (t.zones.take k)) z.name=true
    ·have hge:0≤idxOf (zNames (t.zones.take k)) z.name:=by
      have:=idxOf_neg (zNames (t.zones.take k)) z.name;rw[hdup]at this;simpa using this
     have HF:Hid (ttE t=7):=by
      have h9:zErr t.zones k=7:=by rw[HERR.out,qN (by simp[hz0]),qR hdup]
      have h8:firstErr (zErr t.zones) t.zones.length=7:=by rw[firstErr_hit HK.out (by rw[h9];decide) (by omega),h9]
      rw[HR.out,h8,qR (by decide)];rfl
     go_wp2_with fail
     go_quiet ((go_at_call 82;exact quiet_left (zoneIndex_any (t.zones.take k) z.name _ _ _ _ _ (HS2'.out.drewN _))))
     go_wp2_with fail
     go_ret
     exact⟨by rw[HF.out];rfl,below_drewN (HB0.out.trans (HB2.out.mono (by have:=HW.out;omega))) _⟩
    ·have hdup':hasB (zNames (t.zones.take k)) z.name=false:=by simpa using hdup
     have HZ:Hid (zeroTo (zErr t.zones) (k+1)):=zeroTo_succ HK.out (by rw[HERR.out,qN (by simp[hz0]),qN hdup]);have hn1:=idxOf_none hdup';clear hdup hdup';go_wp2_with fail
     go_quiet ((go_at_call 82;exact quiet_left (zoneIndex_any (t.zones.take k) z.name _ _ _ _ _ (HS2'.out.drewN _))))
     go_wp2_with fail
     go_roundw
     case rel=>exact⟨k+1,by omega,by go_num,below_drewN HB2.out _,HZ⟩
     case measure=>simp[intOf];omega
   ·have hne:(zoneE z != 0)=true:=by simpa using hz0
    have HF:Hid (ttE t=zoneE z):=by
     have h9:zErr t.zones k=zoneE z:=by rw[HERR.out,qR hz0]
     have h8:firstErr (zErr t.zones) t.zones.length=zoneE z:=by rw[firstErr_hit HK.out (by rw[h9];exact hz0) (by omega),h9]
     rw[HR.out,h8,qR hz0];rfl
    clear hz0;go_wp2_with fail
    go_ret
    exact⟨by rw[HF.out];rfl,HB0.out.trans (HB2.out.mono (by have:=HW.out;omega))⟩
  ·have HZ0:Hid (firstErr (zErr t.zones) t.zones.length=0):=firstErr_none (by rw[show t.zones.length=k by omega];exact HK.out);go_wp2_with fail
   generalize hV:wr=V at*;have HBV:=qH (HB0.out.trans (hbr.mono (by have:=HW.out;omega)));have HVW:=qH hbr;have HSV1:=qH (HS1.out.next hbr);have HSV2:=qH (HS2.out.next hbr);have HSV3:=qH (HS3.out.next hbr);have HY1:=qH ((hbr.cell (by have:=HW.out;simp;omega)).trans HX1.out);have HY2:=qH ((hbr.cell (by have:=HW.out;simp;omega)).trans HX2.out);have HY0:=qH hx0;clear HX0 HX1 HX2 HS1 HS2 HS3 hV hx0 hbr HK HVW;have HVS:Hid (w.heap.size+1≤V.heap.size):=hsz;go_loopw [2,5] (fun _ i wr => ∃ k:Nat,k≤n2∧i=.int .i64 k∧Below V.heap.size V wr∧Hid (zeroTo (aErr t.zones t.airports) k)) (fun _ i _=>n2-(intOf i).toNat)
   case atStart=>exact⟨0,qV _,rfl,qC _ _,zeroTo_zero _⟩
   case round =>
    obtain⟨q,hq,rfl,hbr,HK⟩:=hrel;have hx1:wr.cell? ⟨w.heap.size,1,none⟩=some (.slice A2 n2 c2):=(hbr.cell (by have:=HVS.out;simp;omega)).trans HY1.out;have hsz2:w.heap.size+1≤wr.heap.size:=by have:=hbr.size;omega
    by_cases hlt2:q<n2
    ·have hsr:=HSV2.out.next hbr;obtain⟨b,o,rfl,hbS,hc0,hc1⟩:=hsr.airport_at (k:=q) (by omega);have haok:=OK2.out _ (getD_mem0 (show q<t.airports.length by omega) noAirport);have HERR:Hid (aErr t.zones t.airports q=if isAirportB (t.airports.getD q noAirport).code=false then 1 else if hasB (aCodes (t.airports.take q)) (t.airports.getD q noAirport).code=true then 7 else if hasB (zNames t.zones) (t.airports.getD q noAirport).zone=false then 6 else 0):=rfl;have hbl:b<wr.heap.size:=by unfold all_ at hbS;omega
     have hbne:b≠wr.heap.size:=by omega
     generalize hz:t.airports.getD q noAirport=a at*;have hba:Below wr.heap.size wr (wr.alloc (.cells #[.string a.code,.string a.zone] 101)):=(qC _ _).alloc (qD _) _;have HSA:=qH ((hsr.next hba).take hq);have HSZ:=qH ((HSV1.out.next hbr).next hba);have HBA:=qH (hbr.trans (hba.mono hbr.size));have g1:(wr.alloc (.cells #[.string a.code,.string a.zone] 101)).cell? ⟨wr.heap.size,0,none⟩=some (.string a.code):=by rw[World.cell?_alloc_at _ _ _ _ rfl];rfl
     have g2:(wr.alloc (.cells #[.string a.code,.string a.zone] 101)).cell? ⟨wr.heap.size,1,none⟩=some (.string a.zone):=by rw[World.cell?_alloc_at _ _ _ _ rfl];rfl
     have g3:=cell_kept hx1 hba;have hx0:wr.cell? ⟨w.heap.size,0,none⟩=some (.slice A1 n1 c1):=(hbr.cell (by have:=HVS.out;simp;omega)).trans HY0.out;have g4:=cell_kept hx0 hba;have HNM:=qH haok.1;clear hz haok hsr hba hx0;go_wp2_with fail
     refine(isAirportR_any a.code _ HNM.out).mono ?_;rintro e w' ⟨rfl,rfl⟩;generalize hW1:wr.alloc (.cells #[.string a.code,.string a.zone] 101)=W1 at*;clear hW1 hc0 hc1 hx1
     by_cases ha1:isAirportB a.code=true
     case neg =>
      have ha1':isAirportB a.code=false:=by simpa using ha1
      have HF:Hid (ttE t=1):=by
       have h9:aErr t.zones t.airports q=1:=by rw[HERR.out,qR ha1']
       have h8:firstErr (aErr t.zones t.airports) t.airports.length=1:=by rw[firstErr_hit HK.out (by rw[h9];decide) (by omega),h9]
       rw[HR.out,HZ0.out,h8];rfl
      rw[ha1'];clear ha1;go_wp2_with fail
      go_ret
      exact⟨by rw[HF.out];rfl,HBV.out.trans (HBA.out.mono (by have:=HVS.out;omega))⟩
     rw[ha1];have t1:(0:Int)≤(q:Int):=by omega
     have t2:(q:Int)≤(n2:Int):=by omega
     have t3:(q:Int)≤(c2:Int):=by omega
     have t4:q≤c2:=by omega
     by_cases ha2:hasB (aCodes (t.airports.take q)) a.code=true
     case pos =>
      have hge:0≤idxOf (aCodes (t.airports.take q)) a.code:=by
       have:=idxOf_neg (aCodes (t.airports.take q)) a.code;rw[ha2]at this;simpa using this
      have HF:Hid (ttE t=7):=by
       have h9:aErr t.zones t.airports q=7:=by rw[HERR.out,qN (by rw[ha1];decide),qR ha2]
       have h8:firstErr (aErr t.zones t.airports) t.airports.length=7:=by rw[firstErr_hit HK.out (by rw[h9];decide) (by omega),h9]
       rw[HR.out,HZ0.out,h8];rfl
      go_wp2_with fail
      go_quiet ((go_at_call 74;exact quiet_left (airportIndex_any (t.airports.take q) a.code _ _ _ _ _ (HSA.out.drewN _))))
      go_wp2_with fail
      go_ret
      exact⟨by rw[HF.out];rfl,below_drewN (HBV.out.trans (HBA.out.mono (by have:=HVS.out;omega))) _⟩
     have ha2':hasB (aCodes (t.airports.take q)) a.code=false:=by simpa using ha2
     have hn1:=idxOf_none ha2';clear ha2;go_wp2_with fail
     go_quiet ((go_at_call 74;exact quiet_left (airportIndex_any (t.airports.take q) a.code _ _ _ _ _ (HSA.out.drewN _))))
     go_wp2_with fail
     refine(zoneIndex_any t.zones a.zone _ _ _ _ _ (HSZ.out.drewN _)).mono ?_;rintro e w' ⟨rfl,rfl⟩
     by_cases ha3:hasB (zNames t.zones) a.zone=true
     case neg =>
      have ha3':hasB (zNames t.zones) a.zone=false:=by simpa using ha3
      have HF:Hid (ttE t=6):=by
       have h9:aErr t.zones t.airports q=6:=by rw[HERR.out,qN (by rw[ha1];decide),qN (by rw[ha2'];decide),qR ha3']
       have h8:firstErr (aErr t.zones t.airports) t.airports.length=6:=by rw[firstErr_hit HK.out (by rw[h9];decide) (by omega),h9]
       rw[HR.out,HZ0.out,h8];rfl
      rw[idxOf_none ha3'];clear ha3 ha3';go_wp2_with fail
      go_ret
      exact⟨by rw[HF.out];rfl,below_drewN (HBV.out.trans (HBA.out.mono (by have:=HVS.out;omega))) _⟩
     have hge3:0≤idxOf (zNames t.zones) a.zone:=by
      have:=idxOf_neg (zNames t.zones) a.zone;rw[ha3]at this;simpa using this
     have HZ:Hid (zeroTo (aErr t.zones t.airports) (q+1)):=zeroTo_succ HK.out (by rw[HERR.out,qN (by rw[ha1];decide),qN (by rw[ha2'];decide),qN (by rw[ha3];decide)]);clear ha3;go_wp2_with fail
     go_roundw
     case rel=>exact⟨q+1,by omega,by go_num,below_drewN HBA.out _,HZ⟩
     case measure=>simp[intOf];omega
    ·have HA0:Hid (firstErr (aErr t.zones t.airports) t.airports.length=0):=firstErr_none (by rw[show t.airports.length=q by omega];exact HK.out);go_wp2_with fail
     generalize hU:wr=U at*;have HBU:=qH (HBV.out.trans (hbr.mono (by have:=HVS.out;omega)));have HSU1:=qH (HSV1.out.next hbr);have HSU2:=qH (HSV2.out.next hbr);have HSU3:=qH (HSV3.out.next hbr);have HZY0:=qH ((hbr.cell (by have:=HVS.out;simp;omega)).trans HY0.out);have HZY1:=qH hx1;have HZY2:=qH ((hbr.cell (by have:=HVS.out;simp;omega)).trans HY2.out);have HUS:Hid (w.heap.size+1≤U.heap.size):=hsz2;clear HY0 HY1 HY2 HSV1 HSV2 HSV3 hU hx1 hbr HK HBV;go_loopw [2,7] (fun _ i wr => ∃ k:Nat,k≤n3∧i=.int .i64 k∧Below U.heap.size U wr∧Hid (zeroTo (fErr (aCodes t.airports) t.flights) k)) (fun _ i _=>n3-(intOf i).toNat)
     case atStart=>exact⟨0,qV _,rfl,qC _ _,zeroTo_zero _⟩
     case round =>
      obtain⟨r,hr,rfl,hbr,HK⟩:=hrel;have hx2:wr.cell? ⟨w.heap.size,2,none⟩=some (.slice A3 n3 c3):=(hbr.cell (by have:=HUS.out;simp;omega)).trans HZY2.out;have hx1:wr.cell? ⟨w.heap.size,1,none⟩=some (.slice A2 n2 c2):=(hbr.cell (by have:=HUS.out;simp;omega)).trans HZY1.out;have hx0:wr.cell? ⟨w.heap.size,0,none⟩=some (.slice A1 n1 c1):=(hbr.cell (by have:=HUS.out;simp;omega)).trans HZY0.out
      by_cases hlt3:r<n3
      ·have HC:=qH (flightR_any t r A1 A2 A3 n1 n2 n3 c1 c2 c3 wr HT.out (HSU2.out.next hbr) (HSU3.out.next hbr) hlt3);go_wp2_with fail
       refine HC.out.mono ?_;rintro e w2 ⟨rfl,hb2⟩;have HB2:=qH (hbr.trans (hb2.mono hbr.size));clear hx0 hx1 hx2 HC
       by_cases hz0:fErr (aCodes t.airports) t.flights r=0
       ·rw[hz0];have HZ:Hid (zeroTo (fErr (aCodes t.airports) t.flights) (r+1)):=zeroTo_succ HK.out hz0;clear hz0;go_wp2_with fail
        go_roundw
        case rel=>exact⟨r+1,by omega,by go_num,HB2.out,HZ⟩
        case measure=>simp[intOf];omega
       ·have hne:(fErr (aCodes t.airports) t.flights r != 0)=true:=by simpa using hz0
        have HF:Hid (ttE t=fErr (aCodes t.airports) t.flights r):=by
         have h8:firstErr (fErr (aCodes t.airports) t.flights) t.flights.length=fErr (aCodes t.airports) t.flights r:=firstErr_hit HK.out hz0 (by omega);rw[HR.out,HZ0.out,HA0.out,h8];rfl
        clear hz0;go_wp2_with fail
        go_ret
        exact⟨by rw[HF.out];rfl,HBU.out.trans (HB2.out.mono (by have:=HUS.out;omega))⟩
      ·have HF0:Hid (ttE t=0):=by
        have h8:firstErr (fErr (aCodes t.airports) t.flights) t.flights.length=0:=firstErr_none (by rw[show t.flights.length=r by omega];exact HK.out);rw[HR.out,HZ0.out,HA0.out,h8];rfl
       go_wp2_with fail
       go_ret
       exact⟨by rw[HF0.out];rfl,HBU.out.trans (hbr.mono (by have:=HUS.out;omega))⟩
end Go.Proofs.YtifconapjfdkcaaGreatDoor
namespace Go.Proofs
open Go.Shelf
def Tryz.laysSlF20_sort_ren:Go.Shelf.Ren:=⟨fun|20=>156|n=>n,fun|24=>3|22=>22|3=>3|25=>139|4=>4|0=>0|n=>n,fun|n=>n⟩
theorem Tryz.laysSlF20_sort:Go.Proofs.SlLaysF.n20 Tryz.prog Tryz.laysSlF20_sort_ren:={
 mixed:=by kernel_rfl
 f20:=⟨Tryz.f156.name,by decide,Tryz.func156.trans (congrArg some (by kernel_rfl))⟩
 t0:=Tryz.underlying0
 a0:=Tryz.isAgg0
 z0:=Tryz.sizeOf0
 v0:=Tryz.zeroValue0
 t3:=Tryz.underlying3
 a3:=Tryz.isAgg3
 z3:=Tryz.sizeOf3
 v3:=Tryz.zeroValue3
 t4:=Tryz.underlying4
 a4:=Tryz.isAgg4
 z4:=Tryz.sizeOf4
 v4:=Tryz.zeroValue4
 t22:=Tryz.underlying22
 a22:=Tryz.isAgg22
 z22:=Tryz.sizeOf22
 v22:=Tryz.zeroValue22
 a24:=Tryz.isAgg3
 z24:=Tryz.sizeOf3
 t25:=Tryz.underlying139
 a25:=Tryz.isAgg139
 z25:=Tryz.sizeOf139
 v25:=Tryz.zeroValue139 }
end Go.Proofs
namespace Go.Proofs.YtifconapjfdkcaaGreatDoor
open Go
theorem bnd_ten:bnd 10=9999999999:=rfl
end Go.Proofs.YtifconapjfdkcaaGreatDoor
namespace Go.Proofs.YtifconapjfdkcaaGreatDoor
open Go
theorem dateB_err(s:ByteArray):((dateB s).2=1↔matchB s patD=false)∧((dateB s).2=0∨(dateB s).2=1∨(dateB s).2=5):=by
 unfold dateB;split
 ·rename_i h;exact⟨⟨fun _=>h,fun _=>rfl⟩,.inr (.inl rfl)⟩
 ·rename_i h;split
  ·exact⟨⟨fun e=>by simp at e,fun e=>absurd e h⟩,.inr (.inr rfl)⟩
  ·exact⟨⟨fun e=>by simp at e,fun e=>absurd e h⟩,.inl rfl⟩
theorem clockB_err(s:ByteArray):((clockB s).2=1↔matchB s patC=false)∧((clockB s).2=0∨(clockB s).2=1∨(clockB s).2=5):=by
 unfold clockB;split
 ·rename_i h;exact⟨⟨fun _=>h,fun _=>rfl⟩,.inr (.inl rfl)⟩
 ·rename_i h;split
  ·exact⟨⟨fun e=>by simp at e,fun e=>absurd e h⟩,.inr (.inr rfl)⟩
  ·exact⟨⟨fun e=>by simp at e,fun e=>absurd e h⟩,.inl rfl⟩
theorem insB_ref(s:ByteArray):insB s=if ¬s.size=16 ∨ ¬byteAt s 10=32 then (0,1) else
 if (dateB (s.extract 0 10)).2=1∨(clockB (s.extract 11 s.size)).2=1 then (0,1) else
  if (dateB (s.extract 0 10)).2≠0∨(clockB (s.extract 11 s.size)).2≠0 then (0,5) else
   if 1440*dayB (dateB (s.extract 0 10)).1.1 (dateB (s.extract 0 10)).1.2.1 (dateB (s.extract 0 10)).1.2.2+(clockB (s.extract 11 s.size)).1<0∨52596000≤1440*dayB (dateB (s.extract 0 10)).1.1 (dateB (s.extract 0 10)).1.2.1 (dateB (s.extract 0 10)).1.2.2+(clockB (s.extract 11 s.size)).1 then (0,5) else
    (1440*dayB (dateB (s.extract 0 10)).1.1 (dateB (s.extract 0 10)).1.2.1 (dateB (s.extract 0 10)).1.2.2+(clockB (s.extract 11 s.size)).1,0):=by
 have e1:=dateB_err (s.extract 0 10);have e2:=clockB_err (s.extract 11 s.size);unfold insB;rw[matchI_iff];generalize matchB (s.extract 0 10) patD=md at*;generalize matchB (s.extract 11 s.size) patC=mc at*;generalize dateB (s.extract 0 10)=D at*;generalize clockB (s.extract 11 s.size)=C at*;obtain⟨⟨y,m,d⟩,e⟩:=D;obtain⟨c,f⟩:=C;simp only at e1 e2 ⊢;rw[Int.mul_comm 1440];generalize dayB y m d*1440+c=t
 by_cases h1:s.size=16
 ·by_cases h2:byteAt s 10=32
  ·simp only[h1,h2,decide_true,Bool.true_and,not_true_eq_false,or_self,if_false];obtain⟨e1,e1'⟩:=e1;obtain⟨e2,e2'⟩:=e2
   cases md <;> cases mc <;> rcases e1' with rfl|rfl|rfl <;> rcases e2' with rfl|rfl|rfl <;> simp at e1 e2 ⊢
  ·simp[h1,h2]
 ·simp[h1]
end Go.Proofs.YtifconapjfdkcaaGreatDoor
namespace Go.Proofs.YtifconapjfdkcaaGreatDoor
open Go.RowKit Go.Sort
def digitsB(s:ByteArray)(lo hi:Int):Int×Bool :=
 if (s.size:Int)<lo∨hi<(s.size:Int) then (0,false) else if allTo (digAt s) s.size=false then (0,false) else (numTo s s.size,true)
def DigitsPost(s:ByteArray)(lo hi:Int)(w:World)(e:Ending)(w':World):Prop:=e=.returned (.tuple #[.int .i64 (digitsB s lo hi).1,.bool (digitsB s lo hi).2])∧w=w'
theorem digits_any(s:ByteArray)(lo hi:Int)(w:World)(hhi:hi≤16):Calls Tryz.prog 138 #[.string s,.int .i64 lo,.int .i64 hi] w (DigitsPost s lo hi w):=by
 by_cases h1:(s.size:Int)<lo
 ·have HR:Hid (digitsB s lo hi=(0,false)):=by show digitsB _ _ _=_;unfold digitsB;rw[qR (.inl h1)]
  go_enter Tryz.func138,Tryz.ntmps138
  go_wp2_with fail
  go_ret2
  exact⟨by rw[HR.out];rfl,rfl⟩
 by_cases h2:hi<(s.size:Int)
 ·have HR:Hid (digitsB s lo hi=(0,false)):=by show digitsB _ _ _=_;unfold digitsB;rw[qR (.inr h2)]
  go_enter Tryz.func138,Tryz.ntmps138
  go_wp2_with fail
  go_ret2
  exact⟨by rw[HR.out];rfl,rfl⟩
 have HR:Hid (digitsB s lo hi=if allTo (digAt s) s.size=false then (0,false) else (numTo s s.size,true)):=by
  show digitsB _ _ _=_;unfold digitsB;rw[qN (by omega)]
 have hsz:s.size≤16:=by omega
 go_enter Tryz.func138,Tryz.ntmps138
 go_wp2_with fail
 go_loop [6,7,8,9] (fun _ _ n i => ∃ k:Nat,k≤s.size∧n=.int .i64 (numTo s k)∧i=.int .i64 k∧Hid (allTo (digAt s) k=true)) (fun _ _ _ i=>s.size-(intOf i).toNat)
 case atStart=>exact⟨0,by omega,rfl,rfl,rfl⟩
 case round =>
  obtain⟨k,hk,rfl,rfl,HA⟩:=hrel;obtain⟨hn1,hn2⟩:=numTo_bd s k HA.out;have hb:bnd k≤9999999999999999:=bnd_mono (k:=16) (by omega)
  by_cases hlt:k<s.size
  ·have HB:=qH (byteAt_eq s k hlt);have hb1:=byteAt_lo s k;have hb2:=byteAt_hi s k
   by_cases hdg:digAt s k=true
   ·have hdd:=hdg;unfold digAt at hdd;rw[←HB.out]at hdd;have HD:=qH hdd;unfold numberI at hdd;simp only[qI,qL]at hdd;have l1:48≤(s[k].toNat:Int):=hdd.1;have l2:(s[k].toNat:Int)≤57:=hdd.2;have HA2:Hid (allTo (digAt s) (k+1)=true):=by show allTo _ _=true;rw[allTo_succ,HA.out,hdg];rfl
    have HN:Hid (numTo s (k+1)=10*numTo s k+((s[k].toNat:Int)-48)):=by show _=_;rw[HB.out];rfl
    clear hdd hdg HA;go_wp2_with fail
    refine(number_any _ _).mono ?_;rintro e w' ⟨rfl,rfl⟩;rw[HD.out];go_wp2_with fail
    go_round
    case rel=>exact⟨k+1,by omega,by rw[HN.out],by go_num,HA2⟩
    case measure=>simp[intOf];omega
   ·have hdd:digAt s k=false:=by simpa using hdg
    have HF:=qH (allTo_false hlt hdd);unfold digAt at hdd;rw[←HB.out]at hdd;have HD:=qH hdd;clear hdd hdg;go_wp2_with fail
    refine(number_any _ _).mono ?_;rintro e w' ⟨rfl,rfl⟩;rw[HD.out];go_wp2_with fail
    go_ret2
    exact⟨by rw[HR.out,qR HF.out];rfl,rfl⟩
  ·obtain rfl:k=s.size:=by omega
   have HR2:Hid (digitsB s lo hi=(numTo s s.size,true)):=by rw[HR.out,qN (by rw[HA.out];decide)];rfl
   go_wp2_with fail
   go_ret2
   exact⟨by rw[HR2.out];rfl,rfl⟩
def plainB(s:ByteArray):Bool:=(s.size==1)||(decide (1<s.size) && !(byteAt s 0==48))
theorem plain_any(s:ByteArray)(w:World):Calls Tryz.prog 139 #[.string s] w fun e w'=>e=.returned (.bool (plainB s))∧w=w':=by
 by_cases h1:s.size=1
 ·have hb:((s.size:Int)==1)=true:=by simp[h1]
  have HR:Hid (plainB s=true):=by show _=_;unfold plainB;rw[h1];rfl
  clear h1
  go_enter Tryz.func139,Tryz.ntmps139
  go_wp2_with fail
  go_ret
  exact⟨ret_bool HR.out.symm,rfl⟩
 ·have hb:((s.size:Int)==1)=false:=by simp;omega
  have hb':(s.size==1)=false:=by simpa using h1
  by_cases h2:1<s.size
  ·have HB:=qH (byteAt_eq s 0 (by omega));have HR:Hid (plainB s = !(byteAt s 0==48)):=by show _=_;unfold plainB;rw[hb',decide_eq_true h2];rfl
   clear h1 hb'
   go_enter Tryz.func139,Tryz.ntmps139
   go_wp2_with fail
   go_ret
   exact⟨ret_bool (by rw[HR.out, ←HB.out];rfl),rfl⟩
  ·have HR:Hid (plainB s=false):=by show _=_;unfold plainB;rw[hb',decide_eq_false h2];rfl
   clear h1 hb'
   go_enter Tryz.func139,Tryz.ntmps139
   go_wp2_with fail
   go_ret
   exact⟨ret_bool HR.out.symm,rfl⟩
theorem numTo_zero{d:ByteArray}{k:Nat}(h:allTo (digAt d) (k+1)=true)(h0:numTo d (k+1)=0):byteAt d 0=48:=by
 have h1:=(allTo_iff.1 h) 0 (by omega)
 induction k with
 | zero =>
  simp only[numTo]at h0;omega
 | succ k ih =>
  have h2:=h;rw[allTo_succ,qI]at h2;have hb:=numTo_bd d (k+1) h2.1;have h3:=h2.2;unfold digAt numberI at h3;simp only[qI,qL]at h3;rw[numTo]at h0;exact ih h2.1 (by omega)
theorem parse_ref(d:ByteArray)(neg:Prop)[Decidable neg]:parseD d neg=if (digitsB d 1 10).2=false∨plainB d=false∨(neg∧(digitsB d 1 10).1=0) then (0,1) else
 (if neg then-(digitsB d 1 10).1 else (digitsB d 1 10).1,0):=by
 have big:digitsB d 1 10=if d.size<1∨10<d.size then (0,false) else if allTo (digAt d) d.size=false then (0,false) else (numTo d d.size,true):=by
  unfold digitsB
  by_cases h1:d.size<1∨10<d.size
  ·rw[qR h1,qR (by omega)]
  ·rw[qN h1,qN (by omega)]
 unfold parseD
 by_cases h1:d.size<1∨10<d.size
 ·rw[qR h1]at big ⊢;rw[big,qR (.inl rfl)]
 ·rw[qN h1]at big ⊢
  by_cases h2:allTo (digAt d) d.size=false
  ·rw[qR h2]at big ⊢;rw[big,ite_self,qR (.inl rfl)]
  ·have h3:allTo (digAt d) d.size=true:=by simpa using h2
   obtain⟨k,hk⟩ : ∃ k,d.size=k+1:=⟨d.size-1,by omega⟩
   rw[qN h2]at big ⊢;rw[big]
   dsimp only
   by_cases h4:byteAt d 0=48
   ·by_cases h5:d.size=1
    ·have hp:plainB d=true:=by unfold plainB;rw[h5];rfl
     have hz:numTo d d.size=0:=by rw[h5];simp only[numTo];omega
     by_cases h6:neg
     ·rw[qR ⟨h4,.inr h6⟩,qR (.inr (.inr ⟨h6,hz⟩))]
     ·have c1 : ¬(byteAt d 0=48∧(1<d.size∨neg)):=by
       rintro⟨_,h|h⟩
       ·omega
       ·exact h6 h
      have c2 : ¬(true=false∨plainB d=false∨neg∧numTo d d.size=0):=by
       rintro (h|h|⟨h,_⟩)
       ·cases h
       ·rw[hp]at h;cases h
       ·exact h6 h
      rw[qN c1,qN c2]
    ·have hp:plainB d=false:=by
      unfold plainB;rw[h4,show(d.size==1)=false by simpa using h5];simp
     rw[qR ⟨h4,.inl (by omega)⟩,qR (.inr (.inl hp))]
   ·have hp:plainB d=true:=by
     unfold plainB
     by_cases h5:d.size=1
     ·rw[h5];rfl
     ·rw[decide_eq_true (show 1<d.size by omega)];simp[h4]
    have c2 : ¬(true=false∨plainB d=false∨neg∧numTo d d.size=0):=by
     rintro (h|h|⟨_,h⟩)
     ·cases h
     ·rw[hp]at h;cases h
     ·rw[hk]at h h3;exact h4 (numTo_zero h3 h)
    rw[qN (fun h=>h4 h.1),qN c2]
theorem parseIntR_any(s:ByteArray)(w:World)(hs:s.size≤maxLen):Calls Tryz.prog 104 #[.string s] w (ParsePost s w):=by
 unfold maxLen at hs;have HP:=qH ((parseB_D s).trans (parse_ref _ _));have hse:=stripB_eq s;have hds:=stripB_size s;have hdb:0≤(digitsB (stripB s) 1 10).1∧(digitsB (stripB s) 1 10).1≤9999999999:=by
  unfold digitsB;split
  ·decide
  ·split
   ·decide
   ·rename_i h1 h2;have h:=numTo_bd (stripB s) (stripB s).size (by simpa using h2);have hb:bnd (stripB s).size≤bnd 10:=bnd_mono (by omega);rw[bnd_ten]at hb
    dsimp only
    omega
 obtain⟨hd1,hd2⟩:=hdb
 by_cases h0:0<s.size
 ·have HB:=qH (byteAt_eq s 0 h0)
  by_cases h45:byteAt s 0=45
  ·have e0:((s[0].toNat:Int)==45)=true:=by rw[HB.out];simpa using h45
   rw[qR ⟨h0,h45⟩]at hse hds;have hneg:(stripB s).size<s.size:=by omega
   have HSE:=qH hse;clear h45 hse hds
   go_enter Tryz.func104,Tryz.ntmps104
   go_wp2_with fail
   rw[←HSE.out];refine(digits_any (stripB s) 1 10 w (by decide)).mono ?_;rintro e w' ⟨rfl,rfl⟩;generalize hn:(digitsB (stripB s) 1 10).1=n at*;generalize hok:(digitsB (stripB s) 1 10).2=ok at*;clear hn hok
   cases ok
   ·have HR:Hid (parseB s=(0,1)):=by rw[HP.out,qR (.inl rfl)];rfl
    clear HP;go_wp2_with fail
    go_ret2
    exact⟨by rw[HR.out];rfl,rfl⟩
   ·go_wp2_with fail
    refine(plain_any (stripB s) w).mono ?_;rintro e w' ⟨rfl,rfl⟩;generalize hpl:plainB (stripB s)=pl at*;clear hpl
    cases pl
    ·have HR:Hid (parseB s=(0,1)):=by rw[HP.out,qR (.inr (.inl rfl))];rfl
     clear HP;go_wp2_with fail
     go_ret2
     exact⟨by rw[HR.out];rfl,rfl⟩
    ·by_cases hz:n=0
     ·have HR:Hid (parseB s=(0,1)):=by rw[HP.out,qR (.inr (.inr ⟨hneg,hz⟩))];rfl
      have hzb:(n==0)=true:=by simpa using hz
      clear HP hz;go_wp2_with fail
      go_ret2
      exact⟨by rw[HR.out];rfl,rfl⟩
     ·have HR:Hid (parseB s=(-n,0)):=by rw[HP.out,qN (by rintro (h|h|⟨_,h⟩);cases h;cases h;exact hz h),qR hneg];rfl
      have hzb:(n==0)=false:=by simpa using hz
      clear HP hz;go_wp2_with fail
      go_ret2
      exact⟨by rw[HR.out];rfl,rfl⟩
  ·have e0:((s[0].toNat:Int)==45)=false:=by rw[HB.out];simpa using h45
   rw[qN (fun h=>h45 h.2)]at hse hds;have hneg : ¬(stripB s).size<s.size:=by omega
   rw[hse]at HP hd1 hd2 hneg;clear h45 hse hds
   go_enter Tryz.func104,Tryz.ntmps104
   go_wp2_with fail
   refine(digits_any (s) 1 10 w (by decide)).mono ?_;rintro e w' ⟨rfl,rfl⟩;generalize hn:(digitsB (s) 1 10).1=n at*;generalize hok:(digitsB (s) 1 10).2=ok at*;clear hn hok
   cases ok
   ·have HR:Hid (parseB s=(0,1)):=by rw[HP.out,qR (.inl rfl)];rfl
    clear HP;go_wp2_with fail
    go_ret2
    exact⟨by rw[HR.out];rfl,rfl⟩
   ·go_wp2_with fail
    refine(plain_any (s) w).mono ?_;rintro e w' ⟨rfl,rfl⟩;generalize hpl:plainB (s)=pl at*;clear hpl
    cases pl
    ·have HR:Hid (parseB s=(0,1)):=by rw[HP.out,qR (.inr (.inl rfl))];rfl
     clear HP;go_wp2_with fail
     go_ret2
     exact⟨by rw[HR.out];rfl,rfl⟩
    ·have HR:Hid (parseB s=(n,0)):=by rw[HP.out,qN (by rintro (h|h|⟨h,_⟩);cases h;cases h;exact hneg h),qN hneg];rfl
     clear HP;go_wp2_with fail
     go_ret2
     exact⟨by rw[HR.out];rfl,rfl⟩
 ·rw[qN (fun h=>h0 h.1)]at hse hds;have hneg : ¬(stripB s).size<s.size:=by omega
  rw[hse]at HP hd1 hd2 hneg;clear hse hds
  go_enter Tryz.func104,Tryz.ntmps104
  go_wp2_with fail
  refine(digits_any (s) 1 10 w (by decide)).mono ?_;rintro e w' ⟨rfl,rfl⟩;generalize hn:(digitsB (s) 1 10).1=n at*;generalize hok:(digitsB (s) 1 10).2=ok at*;clear hn hok
  cases ok
  ·have HR:Hid (parseB s=(0,1)):=by rw[HP.out,qR (.inl rfl)];rfl
   clear HP;go_wp2_with fail
   go_ret2
   exact⟨by rw[HR.out];rfl,rfl⟩
  ·go_wp2_with fail
   refine(plain_any (s) w).mono ?_;rintro e w' ⟨rfl,rfl⟩;generalize hpl:plainB (s)=pl at*;clear hpl
   cases pl
   ·have HR:Hid (parseB s=(0,1)):=by rw[HP.out,qR (.inr (.inl rfl))];rfl
    clear HP;go_wp2_with fail
    go_ret2
    exact⟨by rw[HR.out];rfl,rfl⟩
   ·have HR:Hid (parseB s=(n,0)):=by rw[HP.out,qN (by rintro (h|h|⟨h,_⟩);cases h;cases h;exact hneg h),qN hneg];rfl
    clear HP;go_wp2_with fail
    go_ret2
    exact⟨by rw[HR.out];rfl,rfl⟩
end Go.Proofs.YtifconapjfdkcaaGreatDoor
namespace Go.Proofs.YtifconapjfdkcaaGreatDoor
open Go.RowKit
theorem byte_is{s:ByteArray}{k:Nat}(h:k<s.size)(c:UInt8):((s[k].toNat:Int)==(c.toNat:Int))=decide (s[k]=c):=by
 rw[Bool.eq_iff_iff,beq_iff_eq,qL];refine⟨fun e=>UInt8.toNat.inj (by omega),fun e=>by rw[e]⟩
theorem refFields_own(s:ByteArray)(w:World)(hs:s.size<2147483648) :
 Calls Tryz.prog 64 #[.string s] w fun e w' => ∃ v,e=.returned v∧Own Ty.str 9 w' w.heap.size v (fieldsB s)∧Below w.heap.size w w':=by
 go_enter Tryz.func64,Tryz.ntmps64
 go_wp2_with fail
 go_loopw [3,4,5] (fun v f i wr => ∃ (k:Nat) (fr:Int) (l:List ByteArray),i=.int .i64 k∧f=.int .i64 fr∧Own Ty.str 9 wr w.heap.size v l∧Below w.heap.size w wr∧Hid (RF s k fr l)) (fun _ _ i _=>s.size+2-(intOf i).toNat)
 case atStart=>exact⟨0, -1,[],rfl,rfl,Own.nil,qC _ _,RF.start s⟩
 case round =>
  obtain⟨k,fr,l,rfl,rfl,hown,hbr,HR⟩:=hrel;obtain⟨hb1,hb2,hb3⟩:=HR.out.bd;have hll:=HR.out.len;have hbs:=hbr.size
  by_cases hlt:k<s.size
  ·have e1:=byte_is hlt 32;have e2:=byte_is hlt 35;simp only[show((32:UInt8).toNat:Int)=32 from rfl,show((35:UInt8).toNat:Int)=35 from rfl]at e1 e2;have hkk:((k:Int)==(s.size:Int))=false:=by simp;omega
   by_cases h32:s[k]=32
   ·have hR:=HR.out.blank hlt h32;rw[decide_eq_true h32]at e1;rw[h32,decide_eq_false (by decide)]at e2;have e2':((s[k].toNat:Int)==35)=false:=by rw[h32];rfl
    have H32:=qH h32;clear h32 e2
    by_cases hfr:0≤fr
    ·rw[qR hfr]at hR;have HR2:=qH hR;clear hR;go_wp2_with (at_builtin;refine wpList_push_str rfl _ _ rfl strElem rfl (hown.alloc _) wr.heap.size (s.extract fr.toNat k) rfl ?c1 ?c2 ?c3 (qD _) (hbr.alloc hbs _) ?_)
     case c1=>simp
     case c2=>omega
     case c3=>simp;omega
     intro v' w1 hown2 hbr2;clear hown;go_wp2_with fail
     go_roundw
     case rel=>exact⟨k+1, -1,_,by go_num,rfl,hown2,hbr2,HR2⟩
     case measure=>simp[intOf];omega
    ·obtain rfl:fr = -1:=by omega
     rw[qN hfr]at hR;have HR2:=qH hR;clear hR;go_wp2_with fail
     go_roundw
     case rel=>exact⟨k+1, -1,_,by go_num,rfl,hown,hbr,HR2⟩
     case measure=>simp[intOf];omega
   ·rw[decide_eq_false h32]at e1
    by_cases h35:s[k]=35
    ·have hR:=HR.out.stop (.inr ⟨hlt,h35⟩);rw[decide_eq_true h35]at e2;have H35:=qH h35;clear h32 h35
     by_cases hfr:0≤fr
     ·rw[qR hfr]at hR;have HR2:=qH hR;clear hR;go_wp2_with (at_builtin;refine wpList_push_str rfl _ _ rfl strElem rfl (hown.alloc _) wr.heap.size (s.extract fr.toNat k) rfl ?c1 ?c2 ?c3 (qD _) (hbr.alloc hbs _) ?_)
      case c1=>simp
      case c2=>omega
      case c3=>simp;omega
      intro v' w1 hown2 hbr2;clear hown;go_wp2_with fail
      go_ret
      rw[HR2.out]at hown2;exact⟨_,rfl,hown2,hbr2⟩
     ·rw[qN hfr]at hR;have HR2:=qH hR;clear hR;go_wp2_with fail
      go_ret
      rw[HR2.out]at hown;exact⟨_,rfl,hown,hbr⟩
    ·have hR:=HR.out.byte hlt h32 h35;rw[decide_eq_false h35]at e2;have H35:=qH h35;clear h32 h35
     by_cases hfr:fr<0
     ·rw[qR hfr]at hR;have HR2:=qH hR;clear hR;go_wp2_with fail
      go_roundw
      case rel=>exact⟨k+1,k,_,by go_num,rfl,hown,hbr,HR2⟩
      case measure=>simp[intOf];omega
     ·rw[qN hfr]at hR;have HR2:=qH hR;clear hR;go_wp2_with fail
      go_roundw
      case rel=>exact⟨k+1,fr,_,by go_num,rfl,hown,hbr,HR2⟩
      case measure=>simp[intOf];omega
  ·by_cases heq:k=s.size
   ·have hR:=HR.out.stop (.inl heq);have hkk:((k:Int)==(s.size:Int))=true:=by simp;omega
    have hle:k≤s.size:=by omega
    have HE:=qH heq;clear heq
    by_cases hfr:0≤fr
    ·rw[qR hfr]at hR;have HR2:=qH hR;clear hR;go_wp2_with (at_builtin;refine wpList_push_str rfl _ _ rfl strElem rfl (hown.alloc _) wr.heap.size (s.extract fr.toNat k) rfl ?c1 ?c2 ?c3 (qD _) (hbr.alloc hbs _) ?_)
     case c1=>simp
     case c2=>omega
     case c3=>simp;omega
     intro v' w1 hown2 hbr2;clear hown;go_wp2_with fail
     go_roundw
     case rel=>exact⟨k+1, -1,_,by go_num,rfl,hown2,hbr2,by rw[HR2.out,HE.out];exact RF.done⟩
     case measure=>simp[intOf];omega
    ·obtain rfl:fr = -1:=by omega
     rw[qN hfr]at hR;have HR2:=qH hR;clear hR;go_wp2_with fail
     go_roundw
     case rel=>exact⟨k+1, -1,_,by go_num,rfl,hown,hbr,by rw[HR2.out,HE.out];exact RF.done⟩
     case measure=>simp[intOf];omega
   ·have hR:=HR.out.end_ (by omega);have HR2:=qH hR;clear hR;have hgt:s.size<k:=by omega
    clear heq;go_wp2_with fail
    go_ret
    rw[HR2.out]at hown;exact⟨_,rfl,hown,hbr⟩
end Go.Proofs.YtifconapjfdkcaaGreatDoor
namespace Go.Proofs.YtifconapjfdkcaaGreatDoor
open Go.RowKit
theorem word_cell(r:Nat)(hr:r<21)(V:World) : ∃ s:ByteArray,s.size≤41∧(V.alloc (.cells #[.string ⟨#[100,101,108,97,121]⟩,.string ⟨#[99,97,110,99,101,108]⟩,.string ⟨#[100,105,118,101,114,116]⟩,.string ⟨#[115,105,99,107]⟩,.string ⟨#[70,48]⟩,.string ⟨#[70,49]⟩,.string ⟨#[49]⟩,.string ⟨#[52]⟩,.string ⟨#[51,48]⟩,.string ⟨#[65,65,65]⟩,.string ⟨#[67,67,67]⟩,.string ⟨#[50,48,50,52,45,48,56,45,50,50]⟩,.string ⟨#[48,54,58,48,48]⟩,.string ⟨#[48,55,58,49,53]⟩,.string ⟨#[48,57,58,48,48]⟩,.string ⟨#[10]⟩,.string ⟨#[100,101,108,97,121,32,70,48,32,50,48,50,52,45,48,56,45,50,50,32,48,54,58,48,48,32,51,48,10]⟩,.string ⟨#[99,97,110,99,101,108,32,70,48,32,50,48,50,52,45,48,56,45,50,50,32,48,54,58,48,48,10]⟩,.string ⟨#[100,105,118,101,114,116,32,70,48,32,50,48,50,52,45,48,56,45,50,50,32,48,54,58,48,48,32,67,67,67,32,50,48,10]⟩,.string ⟨#[115,105,99,107,32,49,32,50,48,50,52,45,48,56,45,50,50,32,48,54,58,48,48,32,50,48,50,52,45,48,56,45,50,50,32,48,57,58,48,48,10]⟩,.string ⟨#[35,32,120,10]⟩] 9)).cell? ⟨V.heap.size,r,none⟩=some (.string s):=by
 have h:=qK V (.cells #[.string ⟨#[100,101,108,97,121]⟩,.string ⟨#[99,97,110,99,101,108]⟩,.string ⟨#[100,105,118,101,114,116]⟩,.string ⟨#[115,105,99,107]⟩,.string ⟨#[70,48]⟩,.string ⟨#[70,49]⟩,.string ⟨#[49]⟩,.string ⟨#[52]⟩,.string ⟨#[51,48]⟩,.string ⟨#[65,65,65]⟩,.string ⟨#[67,67,67]⟩,.string ⟨#[50,48,50,52,45,48,56,45,50,50]⟩,.string ⟨#[48,54,58,48,48]⟩,.string ⟨#[48,55,58,49,53]⟩,.string ⟨#[48,57,58,48,48]⟩,.string ⟨#[10]⟩,.string ⟨#[100,101,108,97,121,32,70,48,32,50,48,50,52,45,48,56,45,50,50,32,48,54,58,48,48,32,51,48,10]⟩,.string ⟨#[99,97,110,99,101,108,32,70,48,32,50,48,50,52,45,48,56,45,50,50,32,48,54,58,48,48,10]⟩,.string ⟨#[100,105,118,101,114,116,32,70,48,32,50,48,50,52,45,48,56,45,50,50,32,48,54,58,48,48,32,67,67,67,32,50,48,10]⟩,.string ⟨#[115,105,99,107,32,49,32,50,48,50,52,45,48,56,45,50,50,32,48,54,58,48,48,32,50,48,50,52,45,48,56,45,50,50,32,48,57,58,48,48,10]⟩,.string ⟨#[35,32,120,10]⟩] 9);have:r=0∨r=1∨r=2∨r=3∨r=4∨r=5∨r=6∨r=7∨r=8∨r=9∨r=10∨r=11∨r=12∨r=13∨r=14∨r=15∨r=16∨r=17∨r=18∨r=19∨r=20:=by omega
 rcases this with rfl|rfl|rfl|rfl|rfl|rfl|rfl|rfl|rfl|rfl|rfl|rfl|rfl|rfl|rfl|rfl|rfl|rfl|rfl|rfl|rfl
 all_goals exact⟨_,by decide,block_cell h _⟩
theorem text40_any(l:List Int)(A:Option Addr)(n c:Nat)(w:World)(h:Sl (Ty.int .i64) w (all_ w) A n c l):Calls Tryz.prog 28 #[.slice A n c] w (fun e w' => ∃ s:ByteArray,e=.returned (.string s)∧s.size≤700∧Below w.heap.size w w'):=by
 have HS:Hid (∀ V,Below w.heap.size w V→Sl (Ty.int .i64) V (all_ V) A n c l):=fun V hV=>h.next hV
 have hnl:=h.len;subst hnl;have hle:=h.le;unfold maxLen at hle;have HWC:Hid (∀ r,r<21 → ∃ s:ByteArray,s.size≤41∧(w.alloc (.cells #[.string ⟨#[100,101,108,97,121]⟩,.string ⟨#[99,97,110,99,101,108]⟩,.string ⟨#[100,105,118,101,114,116]⟩,.string ⟨#[115,105,99,107]⟩,.string ⟨#[70,48]⟩,.string ⟨#[70,49]⟩,.string ⟨#[49]⟩,.string ⟨#[52]⟩,.string ⟨#[51,48]⟩,.string ⟨#[65,65,65]⟩,.string ⟨#[67,67,67]⟩,.string ⟨#[50,48,50,52,45,48,56,45,50,50]⟩,.string ⟨#[48,54,58,48,48]⟩,.string ⟨#[48,55,58,49,53]⟩,.string ⟨#[48,57,58,48,48]⟩,.string ⟨#[10]⟩,.string ⟨#[100,101,108,97,121,32,70,48,32,50,48,50,52,45,48,56,45,50,50,32,48,54,58,48,48,32,51,48,10]⟩,.string ⟨#[99,97,110,99,101,108,32,70,48,32,50,48,50,52,45,48,56,45,50,50,32,48,54,58,48,48,10]⟩,.string ⟨#[100,105,118,101,114,116,32,70,48,32,50,48,50,52,45,48,56,45,50,50,32,48,54,58,48,48,32,67,67,67,32,50,48,10]⟩,.string ⟨#[115,105,99,107,32,49,32,50,48,50,52,45,48,56,45,50,50,32,48,54,58,48,48,32,50,48,50,52,45,48,56,45,50,50,32,48,57,58,48,48,10]⟩,.string ⟨#[35,32,120,10]⟩] 9)).cell? ⟨w.heap.size,r,none⟩=some (.string s)):=fun r hr=>word_cell r hr w
 have HB0:Hid (Below w.heap.size w (w.alloc (.cells #[.string ⟨#[100,101,108,97,121]⟩,.string ⟨#[99,97,110,99,101,108]⟩,.string ⟨#[100,105,118,101,114,116]⟩,.string ⟨#[115,105,99,107]⟩,.string ⟨#[70,48]⟩,.string ⟨#[70,49]⟩,.string ⟨#[49]⟩,.string ⟨#[52]⟩,.string ⟨#[51,48]⟩,.string ⟨#[65,65,65]⟩,.string ⟨#[67,67,67]⟩,.string ⟨#[50,48,50,52,45,48,56,45,50,50]⟩,.string ⟨#[48,54,58,48,48]⟩,.string ⟨#[48,55,58,49,53]⟩,.string ⟨#[48,57,58,48,48]⟩,.string ⟨#[10]⟩,.string ⟨#[100,101,108,97,121,32,70,48,32,50,48,50,52,45,48,56,45,50,50,32,48,54,58,48,48,32,51,48,10]⟩,.string ⟨#[99,97,110,99,101,108,32,70,48,32,50,48,50,52,45,48,56,45,50,50,32,48,54,58,48,48,10]⟩,.string ⟨#[100,105,118,101,114,116,32,70,48,32,50,48,50,52,45,48,56,45,50,50,32,48,54,58,48,48,32,67,67,67,32,50,48,10]⟩,.string ⟨#[115,105,99,107,32,49,32,50,48,50,52,45,48,56,45,50,50,32,48,54,58,48,48,32,50,48,50,52,45,48,56,45,50,50,32,48,57,58,48,48,10]⟩,.string ⟨#[35,32,120,10]⟩] 9))):=(qC _ _).alloc (qD _) _;clear h
 go_enter Tryz.func28,Tryz.ntmps28
 go_upto_region 2 with (fail)
 generalize w.alloc (.cells #[.string ⟨#[100,101,108,97,121]⟩,.string ⟨#[99,97,110,99,101,108]⟩,.string ⟨#[100,105,118,101,114,116]⟩,.string ⟨#[115,105,99,107]⟩,.string ⟨#[70,48]⟩,.string ⟨#[70,49]⟩,.string ⟨#[49]⟩,.string ⟨#[52]⟩,.string ⟨#[51,48]⟩,.string ⟨#[65,65,65]⟩,.string ⟨#[67,67,67]⟩,.string ⟨#[50,48,50,52,45,48,56,45,50,50]⟩,.string ⟨#[48,54,58,48,48]⟩,.string ⟨#[48,55,58,49,53]⟩,.string ⟨#[48,57,58,48,48]⟩,.string ⟨#[10]⟩,.string ⟨#[100,101,108,97,121,32,70,48,32,50,48,50,52,45,48,56,45,50,50,32,48,54,58,48,48,32,51,48,10]⟩,.string ⟨#[99,97,110,99,101,108,32,70,48,32,50,48,50,52,45,48,56,45,50,50,32,48,54,58,48,48,10]⟩,.string ⟨#[100,105,118,101,114,116,32,70,48,32,50,48,50,52,45,48,56,45,50,50,32,48,54,58,48,48,32,67,67,67,32,50,48,10]⟩,.string ⟨#[115,105,99,107,32,49,32,50,48,50,52,45,48,56,45,50,50,32,48,54,58,48,48,32,50,48,50,52,45,48,56,45,50,50,32,48,57,58,48,48,10]⟩,.string ⟨#[35,32,120,10]⟩] 9)=W at*;go_wp2_with fail
 go_loopw [4,5] (fun s4 s5 wr => ∃ (k:Nat) (s:ByteArray),k≤16∧s4=.string s∧s5=.int .i64 k∧s.size≤42*k∧wr=W) (fun _ s5 _=>16-(intOf s5).toNat)
 case atStart=>exact⟨0,⟨#[]⟩,qV _,rfl,rfl,qV _,rfl⟩
 case round =>
  obtain⟨k,s,hk,rfl,rfl,hsz,rfl⟩:=hrel;have HSZ:=qH hsz
  by_cases hkn:k<l.length
  case neg =>
   have hkn' : ¬(k:Int)<(l.length:Int):=by omega
   clear hkn hsz;go_wp2_with fail
   go_ret
   exact⟨_,rfl,by have:=HSZ.out;omega,HB0.out⟩
  have hkn':(k:Int)<(l.length:Int):=by omega
  by_cases h16:k<16
  case neg =>
   have h16' : ¬(k:Int)<16:=by omega
   clear h16 hsz hkn;go_wp2_with fail
   go_ret
   exact⟨_,rfl,by have:=HSZ.out;omega,HB0.out⟩
  have h16':(k:Int)<16:=by omega
  obtain⟨b,o,rfl,hbS,hc⟩:=(HS.out wr HB0.out).int_at (k:=k) (by omega);generalize l[k]'(by omega)=x at*;obtain⟨r,hr⟩ : ∃ r:Nat,x%65536%21=(r:Int):=⟨(x%65536%21).toNat,by omega⟩
  have hr21:r<21:=by omega
  have hr21':(r:Int)<21:=by omega
  have hr0:(0:Int)≤(r:Int):=by omega
  obtain⟨q,hqz,hqc⟩:=HWC.out r hr21;have v0:bits .and .i64 x 65535=x%65536:=and_ffff x;have v1:(x%65536).tmod 21=(r:Int):=by rw[qQ (by omega)];exact hr
  have v2:IntKind.i64.wrap (r:Int)=(r:Int):=qM _ (by omega);have v3:=and_3 (x/65536);have vv : ¬9223372036854775807<s.size+q.size:=by omega
  have HQZ:Hid ((s++q).size≤42*k+41):=by show _≤_;rw[qJ];omega
  clear HWC hr hr21 hkn h16 hsz hqz;go_upto_region 7 with (fail)
  generalize s++q=s2 at*;clear vv hqc v0 v1 v2 hr21' hr0;have hz2:=HQZ.out;have vv : ¬9223372036854775807<s2.size+1:=by omega
  have HQY:Hid ((s2++(⟨#[32]⟩:ByteArray)).size≤42*k+42):=by show _≤_;rw[qJ];have:(⟨#[32]⟩:ByteArray).size=1:=rfl;omega
  by_cases hq:x/65536%4=3
  ·have hq':(x/65536%4==3)=true:=by simpa using hq
   clear hq;go_wp2_with fail
   go_roundw
   case rel=>exact⟨k+1,s2,by omega,rfl,by go_num,by omega,by first|rfl|trivial⟩
   case measure=>simp[intOf];omega
  ·have hq':(x/65536%4==3)=false:=by simpa using hq
   clear hq;go_wp2_with fail
   go_roundw
   case rel=>exact⟨k+1,_,by omega,rfl,by go_num,by have:=HQY.out;omega,by first|rfl|trivial⟩
   case measure=>simp[intOf];omega
end Go.Proofs.YtifconapjfdkcaaGreatDoor
namespace Go.Proofs.YtifconapjfdkcaaGreatDoor
open Go.RowKit
def kindOf(s:ByteArray):Int×Nat:=if s=delayS then (1,5) else if s=cancelS then (2,4) else if s=divertS then (3,6) else if s=sickS then (4,6) else (0,0)
def lineK(t:GTT)(len:Nat)(f1 f2 f3 f4 f5:ByteArray)(kd:Int)(nn:Nat):GInc×Int :=
 if nn=0∨len≠nn then (noInc,1)
 else if (insB (f2++spS++f3)).2≠0 then (noInc,1)
 else if kd=4 then (if (insB (f4++spS++f5)).2≠0∨(parseB f1).2≠0 then (noInc,1) else (⟨4,0,0,noStr,(parseB f1).1,⟨(insB (f2++spS++f3)).1,(insB (f4++spS++f5)).1+1⟩⟩,0))
 else if kd≠2∧(parseB (if nn=5 then f4 else f5)).2≠0 then (noInc,1)
 else onFl2 t f1 (insB (f2++spS++f3)).1 fun i=>⟨kd,i,if kd=2 then 0 else (parseB (if nn=5 then f4 else f5)).1,if kd=3 then f4 else noStr,0,noShift⟩
theorem onFl_eq(t:GTT)(f:List ByteArray)(x:Nat→GInc):onFl t f x=onFl2 t (f.getD 1 noStr) (insI f 2).1 x:=by
 unfold onFl onFl2
 cases flAt t.flights (f.getD 1 noStr) (insI f 2).1 <;> rfl
theorem lineK_eq(t:GTT)(f:List ByteArray):lineI t f=lineK t f.length (f.getD 1 noStr) (f.getD 2 noStr) (f.getD 3 noStr) (f.getD 4 noStr) (f.getD 5 noStr) (kindOf (f.getD 0 noStr)).1 (kindOf (f.getD 0 noStr)).2:=by
 unfold lineI lineK kindOf;simp only[onFl_eq];unfold insI;generalize f.getD 0 noStr=f0;generalize f.getD 1 noStr=f1;generalize f.getD 2 noStr=f2;rw[show f.getD (2+1) noStr=f.getD 3 noStr from rfl,show f.getD (4+1) noStr=f.getD 5 noStr from rfl];generalize f.getD 3 noStr=f3;generalize f.getD 4 noStr=f4;generalize f.getD 5 noStr=f5
 by_cases h1:f0=delayS
 ·rw[qR h1,qR h1]
  by_cases hl:f.length=5 <;> by_cases hi:(insB (f2++spS++f3)).2=0 <;> by_cases hp:(parseB f4).2=0 <;> simp[hl,hi,hp]
 rw[qN h1,qN h1]
 by_cases h2:f0=cancelS
 ·rw[qR h2,qR h2]
  by_cases hl:f.length=4 <;> by_cases hi:(insB (f2++spS++f3)).2=0 <;> simp[hl,hi]
 rw[qN h2,qN h2]
 by_cases h3:f0=divertS
 ·rw[qR h3,qR h3]
  by_cases hl:f.length=6 <;> by_cases hi:(insB (f2++spS++f3)).2=0 <;> by_cases hp:(parseB f5).2=0 <;> simp[hl,hi,hp]
 rw[qN h3,qN h3]
 by_cases h4:f0=sickS
 ·rw[qR h4,qR h4]
  by_cases hl:f.length=6 <;> by_cases hi:(insB (f2++spS++f3)).2=0 <;> by_cases hj:(insB (f4++spS++f5)).2=0 <;> by_cases hp:(parseB f1).2=0 <;> simp[hl,hi,hj,hp]
 rw[qN h4,qN h4];simp
theorem findR_at{t:GTT}(hv:ttE t=0)(n:ByteArray)(d:Int):findR t n d=match flAt t.flights n d with
 | some i=>((i:Int),0)
 | none=>(0,6):=by
 unfold findR;rw[qN (by simp[hv])];have e:firstHit (fun i=>fMatch n d (t.flights.getD i noFlight)) t.flights.length=flAt t.flights n d:=by
  cases h:firstHit (fun i=>fMatch n d (t.flights.getD i noFlight)) t.flights.length with
  | none =>
   unfold firstHit at h;rw[List.find?_eq_none]at h;refine(flAt_none fun j hj hc =>?_).symm;exact h j (List.mem_range.2 hj) (by unfold fMatch;rw[decide_eq_true hc.1,decide_eq_true hc.2];rfl)
  | some k =>
   unfold firstHit at h;have h1:=List.find?_some h;have h2:=List.mem_of_find?_eq_some h;rw[List.mem_range]at h2;refine(flAt_hit h2 (fun j hj =>?_) h1).symm;have h3:=List.find?_eq_some_iff_append.1 h;obtain⟨-,as1,bs1,he,hall⟩:=h3;have hk:as1.length=k:=by
    have h4:(List.range t.flights.length)[as1.length]? = some k:=by rw[he];simp
    rw[qT]at h4;obtain⟨hlt,h5⟩:=h4;simpa using h5
   have h6:j∈as1:=by
    have h7:(List.range t.flights.length)[j]? = as1[j]? :=by rw[he,List.getElem?_append_left (by omega)]
    rw[List.getElem?_range (by omega),qG (by omega)]at h7;injection h7 with h7
    rw[h7];exact List.getElem_mem _
   have h8:=hall j h6;simp only[Bool.not_eq_true']at h8;exact h8
 rw[e]
 cases flAt t.flights n d <;> rfl
structure RX(w V:World)(tc:Array Value)(x:GInc):Prop where
 t:V.heap[w.heap.size]? = some (.cells tc 27 (0,0))
 r:V.heap[w.heap.size+1]? = some (.cells (incCells noInc).toArray 59 (0,0))
 x:V.heap[w.heap.size+2]? = some (.cells (incCells x).toArray 59 (0,0))
 b:Below w.heap.size w V
 z:w.heap.size+3≤V.heap.size
section
variable {w V V':World} {tc:Array Value} {x y:GInc}
theorem RX.next(h:RX w V tc x)(hb:Below V.heap.size V V'):RX w V' tc x:=by
 have:=h.z;have:=hb.size;exact⟨(hb.block _ (by omega)).trans h.t,(hb.block _ (by omega)).trans h.r,(hb.block _ (by omega)).trans h.x,h.b.trans (hb.mono h.b.size),by omega⟩
theorem RX.set(h:RX w V tc x){j:Nat}{u:Value}(hy:(incCells x).set j u=incCells y):RX w (V.setCell ⟨w.heap.size+2,j,none⟩ u) tc y:=by
 have hk : ∀ q,q≠w.heap.size+2→(V.setCell ⟨w.heap.size+2,j,none⟩ u).heap[q]? = V.heap[q]? :=fun q hq=>qO _ _ _ _ hq
 refine⟨(hk _ (by omega)).trans h.t,(hk _ (by omega)).trans h.r, ?_,h.b.setCell (show w.heap.size≤w.heap.size+2 by omega) _,by have:=h.z;simpa using this⟩;rw[qS _ _ _ _ _ _ h.x, ←hy];simp
end
def ReadPost(r:GInc×Int)(w:World)(e:Ending)(w':World):Prop := ∃ x:GInc,e=.returned (.tuple #[.agg (incCells x).toArray,.int .i64 r.2])∧(r.2=0→x=r.1)∧Below w.heap.size w w'
end Go.Proofs.YtifconapjfdkcaaGreatDoor
namespace Go.Proofs.YtifconapjfdkcaaGreatDoor
open Go.RowKit
theorem findFlightR_any(t:GTT)(A1 A2 A3:Option Addr)(n1 n2 n3 c1 c2 c3:Nat)(num:ByteArray)(dep:Int)(w:World)(ht:t.ok)(hs1:Sl Ty.zone w (all_ w) A1 n1 c1 t.zones)(hs2:Sl Ty.airport w (all_ w) A2 n2 c2 t.airports)(hs3:Sl Ty.flight w (all_ w) A3 n3 c3 t.flights) :
 Calls Tryz.prog 105 #[.agg #[.slice A1 n1 c1,.slice A2 n2 c2,.slice A3 n3 c3],.string num,.int .i64 dep] w (PairPost (findR t num dep) w):=by
 have hn1:n3≤t.flights.length:=Nat.le_of_eq hs3.len;have hn2:t.flights.length≤n3:=Nat.le_of_eq hs3.len.symm;have hle:=hs3.le;unfold maxLen at hle;have hb0:=(qC w.heap.size w).alloc (qD _) (.cells #[.slice A1 n1 c1,.slice A2 n2 c2,.slice A3 n3 c3] 27);have hx0:(w.alloc (.cells #[.slice A1 n1 c1,.slice A2 n2 c2,.slice A3 n3 c3] 27)).cell? ⟨w.heap.size,2,none⟩=some (.slice A3 n3 c3):=World.cell?_alloc_at _ _ _ _ rfl;have hz0:w.heap.size+1≤(w.alloc (.cells #[.slice A1 n1 c1,.slice A2 n2 c2,.slice A3 n3 c3] 27)).heap.size:=by simp
 have HV:=qH (validateR_any t A1 A2 A3 n1 n2 n3 c1 c2 c3 _ ht (hs1.next hb0) (hs2.next hb0) (hs3.next hb0));have HS:Hid (∀ V,Below w.heap.size w V→Sl Ty.flight V (all_ w) A3 n3 c3 t.flights):=fun V hV=>hs3.keep (all_keep hV)
 have HB0:=qH hb0;have HX0:=qH hx0;have HZ0:=qH hz0;have HR:Hid (findR t num dep=if ttE t≠0 then (0,ttE t) else match firstHit (fun i=>fMatch num dep (t.flights.getD i noFlight)) t.flights.length with
  | some i=>((i:Int),0)
  | none=>(0,6)):=rfl
 clear hs1 hs2 hs3 hb0 hx0 hz0 ht;generalize ttE t=ev at*
 go_enter Tryz.func105,Tryz.ntmps105
 go_wp2_with fail
 generalize w.alloc (.cells #[.slice A1 n1 c1,.slice A2 n2 c2,.slice A3 n3 c3] 27)=W at*;refine HV.out.mono ?_;clear HV;rintro e w1 ⟨rfl,hb1⟩;have hw1:Below w.heap.size w w1:=HB0.out.trans (hb1.mono HB0.out.size)
 by_cases hev:ev=0
 case neg =>
  have hev':(ev != 0)=true:=by simpa using hev
  have HF:Hid (findR t num dep=(0,ev)):=by show _=_;rw[HR.out,qR hev]
  clear HR hev;go_wp2_with fail
  go_ret2
  exact⟨by rw[HF.out];rfl,hw1⟩
 subst hev;rw[qN (by simp)]at HR;have x2:w1.cell? ⟨w.heap.size,2,none⟩=some (.slice A3 n3 c3):=(hb1.cell (by have:=HZ0.out;show w.heap.size<_;omega)).trans HX0.out;have HS1:=qH (HS.out w1 hw1);have HW1:=qH hw1;clear HX0 HZ0 HB0 HS hb1 hw1;go_wp2_with fail
 go_loop [9] (fun s => ∃ k:Nat,k≤n3∧s=.int .i64 k∧Hid (∀ j,j<k→fMatch num dep (t.flights.getD j noFlight)=false)) (fun s=>n3-(intOf s).toNat)
 case atStart=>exact⟨0,qV _,rfl,fun j hj=>absurd hj (by omega)⟩
 case round =>
  obtain⟨k,hk,rfl,HK⟩:=hrel
  by_cases hlt:k<n3
  ·have hks:k<t.flights.length:=by omega
   obtain⟨b,o,rfl,hbS,hat⟩:=HS1.out.flight_at hks;have HFM:Hid (fMatch num dep (t.flights.getD k noFlight)=(decide ((t.flights.getD k noFlight).number=num)&&decide ((t.flights.getD k noFlight).dep=dep))):=rfl;have HHIT:Hid (fMatch num dep (t.flights.getD k noFlight)=true→findR t num dep=((k:Int),0)):=fun h=>by
    rw[HR.out,firstHit_some hks HK.out h]
   have HMISS:Hid (fMatch num dep (t.flights.getD k noFlight)=false → ∀ j,j<k+1→fMatch num dep (t.flights.getD j noFlight)=false):=fun h j hj=>by
    rcases Nat.lt_or_eq_of_le (Nat.le_of_lt_succ hj) with h1|rfl
    ·exact HK.out j h1
    ·exact h
   generalize t.flights.getD k noFlight=f at*;have y0:w1.cell? ⟨b,o+k*9,none⟩=some (.string f.number):=hat 0 _ rfl;have y3:=hat 3 _ rfl;have HSB:=qH (str_beq f.number num);clear hat
   by_cases hnum:f.number=num
   ·have hs':(f.number.toList==num.toList)=true:=by rw[HSB.out];simpa using hnum
    by_cases hd:f.dep=dep
    ·have hd':(f.dep==dep)=true:=by simpa using hd
     have HF:=qH (HHIT.out (by rw[HFM.out,hnum,hd];simp));clear hd hnum;go_wp2_with fail
     go_ret2
     exact⟨by rw[HF.out];rfl,HW1.out⟩
    ·have hd':(f.dep==dep)=false:=by simpa using hd
     have HM:Hid (∀ j,j<k+1→fMatch num dep (t.flights.getD j noFlight)=false):=HMISS.out (by rw[HFM.out];simp[hd]);clear hd hnum;go_wp2_with fail
     go_round
     case rel=>exact⟨k+1,by omega,by go_num,HM⟩
     case measure=>simp[intOf];omega
   ·have hs':(f.number.toList==num.toList)=false:=by rw[HSB.out];simpa using hnum
    have HM:Hid (∀ j,j<k+1→fMatch num dep (t.flights.getD j noFlight)=false):=HMISS.out (by rw[HFM.out];simp[hnum]);clear hnum;go_wp2_with fail
    go_round
    case rel=>exact⟨k+1,by omega,by go_num,HM⟩
    case measure=>simp[intOf];omega
  ·have HF:Hid (findR t num dep=(0,6)):=by
    show _=_;rw[HR.out,firstHit_none (fun j hj=>HK.out j (by omega))]
   go_wp2_with fail
   go_ret2
   exact⟨by rw[HF.out];rfl,HW1.out⟩
end Go.Proofs.YtifconapjfdkcaaGreatDoor

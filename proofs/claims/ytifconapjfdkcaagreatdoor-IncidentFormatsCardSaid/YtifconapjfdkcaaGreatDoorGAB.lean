/-
  Joined texts: ValidateRef; Sorts; Apply; IncFmtPlain; Numbers; DataOk; Spoil; CalRef. What each proves stands ahead of it, with its conditions.
-/
import Derived.Test.YtifconapjfdkcaaGreatDoorGAA
import Derived.Deep.QuietTactic
import Derived.BigQuiet
import Derived.Ground.SlsfProg
import Derived.Shelf.SlSortCmp.Insertion
import Derived.Test.YtifconapjfdkcaaGreatDoorProg
import Derived.WalkKit
import Derived.WalkLawsBesides
import Derived.WalkSpells
import Derived.Lib.Hide
import Derived.Maps.AppendAt
import Derived.ProofKit
import Derived.Deep.Slices
import Derived.Lib.SplitLaws
import Derived.Lib.IndexMore
import Derived.Lib.Strings
import Derived.Lib.AppendStr
import Derived.Laws.Rows
import Derived.Laws.Tables
import Derived.Deep.AppendLies
import Derived.Deep.RegionLaw
import Derived.Deep.RegionWith
import Derived.StillTail
import Derived.RegionTactic
import Derived.Deep.DeepCutAuto
import Derived.IntWalk
import Derived.Maps.OwnOps
import Derived.Maps.Views
import Derived.StillTailTactics
import Derived.Sort.LotA
import Derived.Sort.Walk0
import Derived.Shelf.Strings.Builder1
import Derived.Shelf.Strings.Builder2
import Derived.Shelf.Small.Strs
import Derived.Shelf.Strings.BuilderF
import Derived.Shelf.Strconv.Itoa0
import Derived.Shelf.Strconv.Itoa1
import Derived.Shelf.LaysM
import Derived.Shelf.Strconv.Itoa2
import Derived.Shelf.Strconv.Itoa3
import Derived.Shelf.Strings.Search1
import Derived.Shelf.Strings.Search2
import Derived.Shelf.Strings.Search3
import Derived.Shelf.Strings.Cut
import Derived.Shelf.Strings.Count
import Derived.Shelf.Strings.Shaped
import Derived.Shelf.Strings.Prefix
import Derived.Shelf.Strings.Split
import Derived.Shelf.Strings.SplitShaped
import Derived.Shelf.Bits.Mul64
import Derived.Shelf.Strings.Repeat
import Derived.Shelf.Unicode.DecodeSlow
import Derived.Shelf.SlSortCmp.Insertion1
import Derived.Lib.Bytealg
import Derived.Sort.OwnSortedInts
import Derived.Sort.WalkA
import Derived.Deep.OwnRows
import Derived.Lib.ItoaNum
import Derived.Laws.Externs
import Derived.OwnWalk
import Derived.Sort.Grow
import Derived.Deep.CutBlock
import Derived.Test.YtifconapjfdkcaaGreatDoorDAA
import Derived.Test.YtifconapjfdkcaaGreatDoorDAB
import Derived.Test.YtifconapjfdkcaaGreatDoorDAC
import Derived.Test.YtifconapjfdkcaaGreatDoorDAD
import Derived.Test.YtifconapjfdkcaaGreatDoorDAE
import Derived.Test.YtifconapjfdkcaaGreatDoorDAF
import Derived.Test.YtifconapjfdkcaaGreatDoorDAG
import Derived.Test.YtifconapjfdkcaaGreatDoorDAH
import Derived.Test.YtifconapjfdkcaaGreatDoorDAI
import Derived.Test.YtifconapjfdkcaaGreatDoorDAJ
import Derived.Test.YtifconapjfdkcaaGreatDoorDAK
import Derived.Test.YtifconapjfdkcaaGreatDoorDAL
import Derived.Test.YtifconapjfdkcaaGreatDoorDAM
import Derived.Test.YtifconapjfdkcaaGreatDoorDAN
import Derived.Test.YtifconapjfdkcaaGreatDoorDAO
import Derived.Test.YtifconapjfdkcaaGreatDoorDAP
import Derived.Test.YtifconapjfdkcaaGreatDoorDAQ
import Derived.Test.YtifconapjfdkcaaGreatDoorDAR
import Derived.Test.YtifconapjfdkcaaGreatDoorDAS
import Derived.Test.YtifconapjfdkcaaGreatDoorDAT
import Derived.Test.YtifconapjfdkcaaGreatDoorDAU
import Derived.Test.YtifconapjfdkcaaGreatDoorDAV
import Derived.Test.YtifconapjfdkcaaGreatDoorDAW
import Derived.Test.YtifconapjfdkcaaGreatDoorDAX
import Derived.Test.YtifconapjfdkcaaGreatDoorDAY
import Derived.Test.YtifconapjfdkcaaGreatDoorDAZ
import Derived.Test.YtifconapjfdkcaaGreatDoorDBA
import Derived.Test.YtifconapjfdkcaaGreatDoorDBB
import Derived.Test.YtifconapjfdkcaaGreatDoorDBC
import Derived.Test.YtifconapjfdkcaaGreatDoorDBD
import Derived.Test.YtifconapjfdkcaaGreatDoorDBE
import Derived.Test.YtifconapjfdkcaaGreatDoorDBF
import Derived.Test.YtifconapjfdkcaaGreatDoorDBG
import Derived.Test.YtifconapjfdkcaaGreatDoorDBH
import Derived.Test.YtifconapjfdkcaaGreatDoorDBI
import Derived.Test.YtifconapjfdkcaaGreatDoorDBJ
set_option linter.unusedSimpArgs false
set_option linter.unusedVariables false
set_option maxRecDepth 100000
set_option maxHeartbeats 12800000
namespace Go.Proofs.YtifconapjfdkcaaGreatDoor
open Go.RowKit
theorem Sl.drewN{α : Type}{t:Ty α}{w:World}{S:Nat→Prop}{A:Option Addr}{n c:Nat}{xs:List α}(h:Sl t w S A n c xs)(m:Nat):Sl t (w.drewN m) S A n c xs:=h.keep fun _ _=>rfl
theorem validateR_any(t:GTT)(A1 A2 A3:Option Addr)(n1 n2 n3 c1 c2 c3:Nat)(w:World)(ht:t.ok)(hs1:Sl Ty.zone w (all_ w) A1 n1 c1 t.zones)(hs2:Sl Ty.airport w (all_ w) A2 n2 c2 t.airports)(hs3:Sl Ty.flight w (all_ w) A3 n3 c3 t.flights) :
 Calls Tryz.prog 47 #[.agg #[.slice A1 n1 c1,.slice A2 n2 c2,.slice A3 n3 c3]] w (ErrPost (ttE t) w):=by
 have HT:=qH ht;obtain⟨ok1,ok2,ok3⟩:=ht;have e1:=hs1.len;have e2:=hs2.len;have e3:=hs3.len;have m1:=hs1.le;have m2:=hs2.le;have m3:=hs3.le;have q1:=hs1.2.1;have q2:=hs2.2.1;unfold maxLen at m1 m2 m3;have HB1:Hid (∀ o1,Below w.heap.size w (w.alloc o1)):=fun o1=>(qC _ _).alloc (qD _) _
 by_cases hbig:16<n1∨64<n2∨200<n3
 case pos =>
  have HR:Hid (ttE t=10):=by show _=_;unfold ttE;rw[qR (by omega)]
  have hb':16<n1∨(¬16<n1∧64<n2)∨(¬16<n1 ∧ ¬64<n2∧200<n3):=by omega
  clear hbig e1 e2 e3 hs1 hs2 hs3 ok1 ok2 ok3;rcases hb' with h|⟨h,h'⟩|⟨h,h',h''⟩
  all_goals
   go_enter Tryz.func47,Tryz.ntmps47
   go_wp2_with fail
   go_ret
   exact⟨by rw[HR.out];rfl,HB1.out _⟩
 have b1:n1≤16:=by omega
 have b2:n2≤64:=by omega
 have b3:n3≤200:=by omega
 have HR:Hid (ttE t=if firstErr (zErr t.zones) t.zones.length≠0 then firstErr (zErr t.zones) t.zones.length else
  if firstErr (aErr t.zones t.airports) t.airports.length≠0 then firstErr (aErr t.zones t.airports) t.airports.length else firstErr (fErr (aCodes t.airports) t.flights) t.flights.length):=by show _=_;unfold ttE;rw[qN (by omega)]
 have l1:n1≤t.zones.length:=by omega
 have l1':t.zones.length≤n1:=by omega
 have l2:n2≤t.airports.length:=by omega
 have l2':t.airports.length≤n2:=by omega
 have l3:n3≤t.flights.length:=by omega
 have l3':t.flights.length≤n3:=by omega
 clear hbig e1 e2 e3;have OK1:=qH ok1;have OK2:=qH ok2;clear ok1 ok2 ok3
 go_enter Tryz.func47,Tryz.ntmps47
 go_wp2_with fail
 have hb0:=HB1.out (.cells #[.slice A1 n1 c1,.slice A2 n2 c2,.slice A3 n3 c3] 27);have hx0 : ∀ j,(w.alloc (.cells #[.slice A1 n1 c1,.slice A2 n2 c2,.slice A3 n3 c3] 27)).cell? ⟨w.heap.size,j,none⟩=(#[Value.slice A1 n1 c1,.slice A2 n2 c2,.slice A3 n3 c3])[j]? :=fun j=>by
  rw[World.cell?_alloc_at _ _ _ _ rfl]
 have hsw:(w.alloc (.cells #[.slice A1 n1 c1,.slice A2 n2 c2,.slice A3 n3 c3] 27)).heap.size=w.heap.size+1:=by simp
 generalize hW:w.alloc (.cells #[.slice A1 n1 c1,.slice A2 n2 c2,.slice A3 n3 c3] 27)=W at*;have HX0:Hid (W.cell? ⟨w.heap.size,0,none⟩=some (.slice A1 n1 c1)):=hx0 0;have HX1:Hid (W.cell? ⟨w.heap.size,1,none⟩=some (.slice A2 n2 c2)):=hx0 1;have HX2:Hid (W.cell? ⟨w.heap.size,2,none⟩=some (.slice A3 n3 c3)):=hx0 2;have HS1:=qH (hs1.next hb0);have HS2:=qH (hs2.next hb0);have HS3:=qH (hs3.next hb0);have HW:=qH hsw;have HB0:=qH hb0;clear hs1 hs2 hs3 hW hx0 hsw hb0 HB1;go_loopw [2,3] (fun _ i wr => ∃ k:Nat,k≤n1∧i=.int .i64 k∧Below W.heap.size W wr∧Hid (zeroTo (zErr t.zones) k)) (fun _ i _=>n1-(intOf i).toNat)
 case atStart=>exact⟨0,qV _,rfl,qC _ _,zeroTo_zero _⟩
 case round =>
  obtain⟨k,hk,rfl,hbr,HK⟩:=hrel;have hx0:wr.cell? ⟨w.heap.size,0,none⟩=some (.slice A1 n1 c1):=(hbr.cell (by have:=HW.out;simp;omega)).trans HX0.out;have hsz:w.heap.size+1≤wr.heap.size:=by have:=hbr.size;have:=HW.out;omega
  by_cases hlt:k<n1
  ·have hsr:=HS1.out.next hbr;obtain⟨b,o,A',n',c',rfl,hbS,hc0,hc1,hc2,hsh⟩:=hsr.zone_at (k:=k) (by omega);have hzok:=OK1.out _ (getD_mem0 (show k<t.zones.length by omega) noZone);have HERR:Hid (zErr t.zones k=if zoneE (t.zones.getD k noZone)≠0 then zoneE (t.zones.getD k noZone) else if hasB (zNames (t.zones.take k)) (t.zones.getD k noZone).name=true then 7 else 0):=rfl;generalize hz:t.zones.getD k noZone=z at*;have HZC:=qH (zoneValidateR_any z A' n' c' _ hzok hsh);have HSR:=qH hsr;have HC:=qH hc0;clear hz hsh hzok hsr;go_wp2_with fail
   refine HZC.out.mono ?_;rintro e w2 ⟨rfl,hb2⟩;have hc02:=cell_kept HC.out hb2;have hx02:=cell_kept hx0 hb2;have HB2:=qH (hbr.trans (hb2.mono hbr.size));have HS2':=qH ((HSR.out.next hb2).take hk);clear hc0 hc1 hc2 hx0 HZC
   by_cases hz0:zoneE z=0
   ·rw[hz0];have t1:(0:Int)≤(k:Int):=by omega
    have t2:(k:Int)≤(n1:Int):=by omega
    have t3:(k:Int)≤(c1:Int):=by omega
    have t4:k≤c1:=by omega
    by_cases hdup:hasB (zNames (t.zones.take k)) z.name=true
    ·have hge:0≤idxOf (zNames (t.zones.take k)) z.name:=by
      have:=idxOf_neg (zNames (t.zones.take k)) z.name;rw[hdup]at this;simpa using this
     have HF:Hid (ttE t=7):=by
      have h9:zErr t.zones k=7:=by rw[HERR.out,qN (by simp[hz0]),qR hdup]
      have h8:firstErr (zErr t.zones) t.zones.length=7:=by rw[firstErr_hit HK.out (by rw[h9];decide) (by omega),h9]
      rw[HR.out,h8,qR (by decide)];rfl
     go_wp2_with fail
     go_quiet ((go_at_call 82;exact quiet_left (zoneIndex_any (t.zones.take k) z.name _ _ _ _ _ (HS2'.out.drewN _))))
     go_wp2_with fail
     go_ret
     exact⟨by rw[HF.out];rfl,below_drewN (HB0.out.trans (HB2.out.mono (by have:=HW.out;omega))) _⟩
    ·have hdup':hasB (zNames (t.zones.take k)) z.name=false:=by simpa using hdup
     have HZ:Hid (zeroTo (zErr t.zones) (k+1)):=zeroTo_succ HK.out (by rw[HERR.out,qN (by simp[hz0]),qN hdup]);have hn1:=idxOf_none hdup';clear hdup hdup';go_wp2_with fail
     go_quiet ((go_at_call 82;exact quiet_left (zoneIndex_any (t.zones.take k) z.name _ _ _ _ _ (HS2'.out.drewN _))))
     go_wp2_with fail
     go_roundw
     case rel=>exact⟨k+1,by omega,by go_num,below_drewN HB2.out _,HZ⟩
     case measure=>simp[intOf];omega
   ·have hne:(zoneE z != 0)=true:=by simpa using hz0
    have HF:Hid (ttE t=zoneE z):=by
     have h9:zErr t.zones k=zoneE z:=by rw[HERR.out,qR hz0]
     have h8:firstErr (zErr t.zones) t.zones.length=zoneE z:=by rw[firstErr_hit HK.out (by rw[h9];exact hz0) (by omega),h9]
     rw[HR.out,h8,qR hz0];rfl
    clear hz0;go_wp2_with fail
    go_ret
    exact⟨by rw[HF.out];rfl,HB0.out.trans (HB2.out.mono (by have:=HW.out;omega))⟩
  ·have HZ0:Hid (firstErr (zErr t.zones) t.zones.length=0):=firstErr_none (by rw[show t.zones.length=k by omega];exact HK.out);go_wp2_with fail
   generalize hV:wr=V at*;have HBV:=qH (HB0.out.trans (hbr.mono (by have:=HW.out;omega)));have HVW:=qH hbr;have HSV1:=qH (HS1.out.next hbr);have HSV2:=qH (HS2.out.next hbr);have HSV3:=qH (HS3.out.next hbr);have HY1:=qH ((hbr.cell (by have:=HW.out;simp;omega)).trans HX1.out);have HY2:=qH ((hbr.cell (by have:=HW.out;simp;omega)).trans HX2.out);have HY0:=qH hx0;clear HX0 HX1 HX2 HS1 HS2 HS3 hV hx0 hbr HK HVW;have HVS:Hid (w.heap.size+1≤V.heap.size):=hsz;go_loopw [2,5] (fun _ i wr => ∃ k:Nat,k≤n2∧i=.int .i64 k∧Below V.heap.size V wr∧Hid (zeroTo (aErr t.zones t.airports) k)) (fun _ i _=>n2-(intOf i).toNat)
   case atStart=>exact⟨0,qV _,rfl,qC _ _,zeroTo_zero _⟩
   case round =>
    obtain⟨q,hq,rfl,hbr,HK⟩:=hrel;have hx1:wr.cell? ⟨w.heap.size,1,none⟩=some (.slice A2 n2 c2):=(hbr.cell (by have:=HVS.out;simp;omega)).trans HY1.out;have hsz2:w.heap.size+1≤wr.heap.size:=by have:=hbr.size;omega
    by_cases hlt2:q<n2
    ·have hsr:=HSV2.out.next hbr;obtain⟨b,o,rfl,hbS,hc0,hc1⟩:=hsr.airport_at (k:=q) (by omega);have haok:=OK2.out _ (getD_mem0 (show q<t.airports.length by omega) noAirport);have HERR:Hid (aErr t.zones t.airports q=if isAirportB (t.airports.getD q noAirport).code=false then 1 else if hasB (aCodes (t.airports.take q)) (t.airports.getD q noAirport).code=true then 7 else if hasB (zNames t.zones) (t.airports.getD q noAirport).zone=false then 6 else 0):=rfl;have hbl:b<wr.heap.size:=by unfold all_ at hbS;omega
     have hbne:b≠wr.heap.size:=by omega
     generalize hz:t.airports.getD q noAirport=a at*;have hba:Below wr.heap.size wr (wr.alloc (.cells #[.string a.code,.string a.zone] 101)):=(qC _ _).alloc (qD _) _;have HSA:=qH ((hsr.next hba).take hq);have HSZ:=qH ((HSV1.out.next hbr).next hba);have HBA:=qH (hbr.trans (hba.mono hbr.size));have g1:(wr.alloc (.cells #[.string a.code,.string a.zone] 101)).cell? ⟨wr.heap.size,0,none⟩=some (.string a.code):=by rw[World.cell?_alloc_at _ _ _ _ rfl];rfl
     have g2:(wr.alloc (.cells #[.string a.code,.string a.zone] 101)).cell? ⟨wr.heap.size,1,none⟩=some (.string a.zone):=by rw[World.cell?_alloc_at _ _ _ _ rfl];rfl
     have g3:=cell_kept hx1 hba;have hx0:wr.cell? ⟨w.heap.size,0,none⟩=some (.slice A1 n1 c1):=(hbr.cell (by have:=HVS.out;simp;omega)).trans HY0.out;have g4:=cell_kept hx0 hba;have HNM:=qH haok.1;clear hz haok hsr hba hx0;go_wp2_with fail
     refine(isAirportR_any a.code _ HNM.out).mono ?_;rintro e w' ⟨rfl,rfl⟩;generalize hW1:wr.alloc (.cells #[.string a.code,.string a.zone] 101)=W1 at*;clear hW1 hc0 hc1 hx1
     by_cases ha1:isAirportB a.code=true
     case neg =>
      have ha1':isAirportB a.code=false:=by simpa using ha1
      have HF:Hid (ttE t=1):=by
       have h9:aErr t.zones t.airports q=1:=by rw[HERR.out,qR ha1']
       have h8:firstErr (aErr t.zones t.airports) t.airports.length=1:=by rw[firstErr_hit HK.out (by rw[h9];decide) (by omega),h9]
       rw[HR.out,HZ0.out,h8];rfl
      rw[ha1'];clear ha1;go_wp2_with fail
      go_ret
      exact⟨by rw[HF.out];rfl,HBV.out.trans (HBA.out.mono (by have:=HVS.out;omega))⟩
     rw[ha1];have t1:(0:Int)≤(q:Int):=by omega
     have t2:(q:Int)≤(n2:Int):=by omega
     have t3:(q:Int)≤(c2:Int):=by omega
     have t4:q≤c2:=by omega
     by_cases ha2:hasB (aCodes (t.airports.take q)) a.code=true
     case pos =>
      have hge:0≤idxOf (aCodes (t.airports.take q)) a.code:=by
       have:=idxOf_neg (aCodes (t.airports.take q)) a.code;rw[ha2]at this;simpa using this
      have HF:Hid (ttE t=7):=by
       have h9:aErr t.zones t.airports q=7:=by rw[HERR.out,qN (by rw[ha1];decide),qR ha2]
       have h8:firstErr (aErr t.zones t.airports) t.airports.length=7:=by rw[firstErr_hit HK.out (by rw[h9];decide) (by omega),h9]
       rw[HR.out,HZ0.out,h8];rfl
      go_wp2_with fail
      go_quiet ((go_at_call 74;exact quiet_left (airportIndex_any (t.airports.take q) a.code _ _ _ _ _ (HSA.out.drewN _))))
      go_wp2_with fail
      go_ret
      exact⟨by rw[HF.out];rfl,below_drewN (HBV.out.trans (HBA.out.mono (by have:=HVS.out;omega))) _⟩
     have ha2':hasB (aCodes (t.airports.take q)) a.code=false:=by simpa using ha2
     have hn1:=idxOf_none ha2';clear ha2;go_wp2_with fail
     go_quiet ((go_at_call 74;exact quiet_left (airportIndex_any (t.airports.take q) a.code _ _ _ _ _ (HSA.out.drewN _))))
     go_wp2_with fail
     refine(zoneIndex_any t.zones a.zone _ _ _ _ _ (HSZ.out.drewN _)).mono ?_;rintro e w' ⟨rfl,rfl⟩
     by_cases ha3:hasB (zNames t.zones) a.zone=true
     case neg =>
      have ha3':hasB (zNames t.zones) a.zone=false:=by simpa using ha3
      have HF:Hid (ttE t=6):=by
       have h9:aErr t.zones t.airports q=6:=by rw[HERR.out,qN (by rw[ha1];decide),qN (by rw[ha2'];decide),qR ha3']
       have h8:firstErr (aErr t.zones t.airports) t.airports.length=6:=by rw[firstErr_hit HK.out (by rw[h9];decide) (by omega),h9]
       rw[HR.out,HZ0.out,h8];rfl
      rw[idxOf_none ha3'];clear ha3 ha3';go_wp2_with fail
      go_ret
      exact⟨by rw[HF.out];rfl,below_drewN (HBV.out.trans (HBA.out.mono (by have:=HVS.out;omega))) _⟩
     have hge3:0≤idxOf (zNames t.zones) a.zone:=by
      have:=idxOf_neg (zNames t.zones) a.zone;rw[ha3]at this;simpa using this
     have HZ:Hid (zeroTo (aErr t.zones t.airports) (q+1)):=zeroTo_succ HK.out (by rw[HERR.out,qN (by rw[ha1];decide),qN (by rw[ha2'];decide),qN (by rw[ha3];decide)]);clear ha3;go_wp2_with fail
     go_roundw
     case rel=>exact⟨q+1,by omega,by go_num,below_drewN HBA.out _,HZ⟩
     case measure=>simp[intOf];omega
    ·have HA0:Hid (firstErr (aErr t.zones t.airports) t.airports.length=0):=firstErr_none (by rw[show t.airports.length=q by omega];exact HK.out);go_wp2_with fail
     generalize hU:wr=U at*;have HBU:=qH (HBV.out.trans (hbr.mono (by have:=HVS.out;omega)));have HSU1:=qH (HSV1.out.next hbr);have HSU2:=qH (HSV2.out.next hbr);have HSU3:=qH (HSV3.out.next hbr);have HZY0:=qH ((hbr.cell (by have:=HVS.out;simp;omega)).trans HY0.out);have HZY1:=qH hx1;have HZY2:=qH ((hbr.cell (by have:=HVS.out;simp;omega)).trans HY2.out);have HUS:Hid (w.heap.size+1≤U.heap.size):=hsz2;clear HY0 HY1 HY2 HSV1 HSV2 HSV3 hU hx1 hbr HK HBV;go_loopw [2,7] (fun _ i wr => ∃ k:Nat,k≤n3∧i=.int .i64 k∧Below U.heap.size U wr∧Hid (zeroTo (fErr (aCodes t.airports) t.flights) k)) (fun _ i _=>n3-(intOf i).toNat)
     case atStart=>exact⟨0,qV _,rfl,qC _ _,zeroTo_zero _⟩
     case round =>
      obtain⟨r,hr,rfl,hbr,HK⟩:=hrel;have hx2:wr.cell? ⟨w.heap.size,2,none⟩=some (.slice A3 n3 c3):=(hbr.cell (by have:=HUS.out;simp;omega)).trans HZY2.out;have hx1:wr.cell? ⟨w.heap.size,1,none⟩=some (.slice A2 n2 c2):=(hbr.cell (by have:=HUS.out;simp;omega)).trans HZY1.out;have hx0:wr.cell? ⟨w.heap.size,0,none⟩=some (.slice A1 n1 c1):=(hbr.cell (by have:=HUS.out;simp;omega)).trans HZY0.out
      by_cases hlt3:r<n3
      ·have HC:=qH (flightR_any t r A1 A2 A3 n1 n2 n3 c1 c2 c3 wr HT.out (HSU2.out.next hbr) (HSU3.out.next hbr) hlt3);go_wp2_with fail
       refine HC.out.mono ?_;rintro e w2 ⟨rfl,hb2⟩;have HB2:=qH (hbr.trans (hb2.mono hbr.size));clear hx0 hx1 hx2 HC
       by_cases hz0:fErr (aCodes t.airports) t.flights r=0
       ·rw[hz0];have HZ:Hid (zeroTo (fErr (aCodes t.airports) t.flights) (r+1)):=zeroTo_succ HK.out hz0;clear hz0;go_wp2_with fail
        go_roundw
        case rel=>exact⟨r+1,by omega,by go_num,HB2.out,HZ⟩
        case measure=>simp[intOf];omega
       ·have hne:(fErr (aCodes t.airports) t.flights r != 0)=true:=by simpa using hz0
        have HF:Hid (ttE t=fErr (aCodes t.airports) t.flights r):=by
         have h8:firstErr (fErr (aCodes t.airports) t.flights) t.flights.length=fErr (aCodes t.airports) t.flights r:=firstErr_hit HK.out hz0 (by omega);rw[HR.out,HZ0.out,HA0.out,h8];rfl
        clear hz0;go_wp2_with fail
        go_ret
        exact⟨by rw[HF.out];rfl,HBU.out.trans (HB2.out.mono (by have:=HUS.out;omega))⟩
      ·have HF0:Hid (ttE t=0):=by
        have h8:firstErr (fErr (aCodes t.airports) t.flights) t.flights.length=0:=firstErr_none (by rw[show t.flights.length=r by omega];exact HK.out);rw[HR.out,HZ0.out,HA0.out,h8];rfl
       go_wp2_with fail
       go_ret
       exact⟨by rw[HF0.out];rfl,HBU.out.trans (hbr.mono (by have:=HUS.out;omega))⟩
end Go.Proofs.YtifconapjfdkcaaGreatDoor
namespace Go.Proofs
open Go.Shelf
def Tryz.laysSlF20_sort_ren:Go.Shelf.Ren:=⟨fun|20=>156|n=>n,fun|24=>3|22=>22|3=>3|25=>139|4=>4|0=>0|n=>n,fun|n=>n⟩
theorem Tryz.laysSlF20_sort:Go.Proofs.SlLaysF.n20 Tryz.prog Tryz.laysSlF20_sort_ren:={
 mixed:=by kernel_rfl
 f20:=⟨Tryz.f156.name,by decide,Tryz.func156.trans (congrArg some (by kernel_rfl))⟩
 t0:=Tryz.underlying0
 a0:=Tryz.isAgg0
 z0:=Tryz.sizeOf0
 v0:=Tryz.zeroValue0
 t3:=Tryz.underlying3
 a3:=Tryz.isAgg3
 z3:=Tryz.sizeOf3
 v3:=Tryz.zeroValue3
 t4:=Tryz.underlying4
 a4:=Tryz.isAgg4
 z4:=Tryz.sizeOf4
 v4:=Tryz.zeroValue4
 t22:=Tryz.underlying22
 a22:=Tryz.isAgg22
 z22:=Tryz.sizeOf22
 v22:=Tryz.zeroValue22
 a24:=Tryz.isAgg3
 z24:=Tryz.sizeOf3
 t25:=Tryz.underlying139
 a25:=Tryz.isAgg139
 z25:=Tryz.sizeOf139
 v25:=Tryz.zeroValue139 }
end Go.Proofs
namespace Go.Proofs.YtifconapjfdkcaaGreatDoor
open Go.RowKit
theorem Own.toS{α : Type}{t:Ty α}{el:TypeId}{w:World}{base:Nat}{v:Value}{xs:List α}(ht:t.Flat)(h:Own t el w base v xs):OwnS t el w (fun _=>False) base v xs:=by
 obtain⟨cs,g1,g2⟩:=h;exact⟨cs,g1,g2.flat ht⟩
section
variable {t:GTT} {w W wr w7 w8 V:World} {ib B3 n:Nat} {A B:Option Addr} {c d:Nat} {v3 v':Value} {ix:List Int} {nf nf':List GFlight}
end
end Go.Proofs.YtifconapjfdkcaaGreatDoor
namespace Go.Proofs.YtifconapjfdkcaaGreatDoor
open Go.RowKit
theorem ext_bs{a:ByteArray}{L:List UInt8}(h:a.data.toList=L):a=bs L:=by rw[←h];exact(bs_of a).symm
end Go.Proofs.YtifconapjfdkcaaGreatDoor
namespace Go.Proofs.YtifconapjfdkcaaGreatDoor
open Go.RowKit Go.Sort
theorem formatIntR_any(n:Int)(w:World)(h0 : -9223372036854775808≤n)(h1:n≤9223372036854775807)(hp:Pow10 w) :
 Calls Tryz.prog 58 #[.int .i64 n] w fun e w'=>e=.returned (.string (fmtB n))∧Below w.heap.size w w':=by
 go_enter Tryz.func58,Tryz.ntmps58
 go_wp2_with fail
 refine(itoa_any n w h0 h1 hp).mono ?_;rintro e w' ⟨rfl,hb⟩;go_wp2_with fail
 go_ret
 exact⟨rfl,hb⟩
end Go.Proofs.YtifconapjfdkcaaGreatDoor
namespace Go.Proofs.YtifconapjfdkcaaGreatDoor
open Go Go.RowKit
theorem probTT_dep(l:List Int) : ∀ f∈(probTT l).flights,0<f.dep:=fun f hf=>by
 obtain⟨i,hi,rfl⟩:=dTT_mem _ _ hf;have:=dSt_range (l.drop 1) i;show 0<(dSt (l.drop 1) i).1;omega
end Go.Proofs.YtifconapjfdkcaaGreatDoor
namespace Go.Proofs.YtifconapjfdkcaaGreatDoor
open Go.RowKit
def out0(xs:List GInc):List GInc:=if xs.length=0 then [⟨2,0,0,noStr,0,noShift⟩] else xs
def spMin(k:Int):Int:=[-1,0,720,721,1440,1441].getD (k%6).toNat 0
def xxxS:ByteArray:=⟨#[88,88,88]⟩
def spAir(k:Int):ByteArray:=[noStr,dCode 0,dCode 1,dCode 2,xxxS].getD (k%5).toNat noStr
def spOne(sel k:Int)(x:GInc):GInc :=
 if sel=0 then ⟨k%7-1,x.flight,x.minutes,x.airport,x.person,x.span⟩
 else if sel=1 then ⟨x.kind,k%8-1,x.minutes,x.airport,x.person,x.span⟩
 else if sel=2 then ⟨x.kind,x.flight,spMin k,x.airport,x.person,x.span⟩
 else if sel=3 then ⟨x.kind,x.flight,x.minutes,spAir k,x.person,x.span⟩
 else if sel=4 then ⟨x.kind,x.flight,x.minutes,x.airport,k%9,x.span⟩
 else if sel=5 then ⟨x.kind,x.flight,x.minutes,x.airport,x.person,⟨k%4-1,k/4%4⟩⟩
 else if sel=6 then ⟨x.kind,x.flight,x.minutes,x.airport,x.person,⟨1,52596000+k%2⟩⟩
 else x
def spoilI(xs:List GInc)(b:List Int):List GInc :=
 if atL b 0%12=7 then List.replicate 33 noInc
 else (out0 xs).set (atL b 1%(out0 xs).length).toNat (spOne (atL b 0%12) (atL b 1) ((out0 xs).getD (atL b 1%(out0 xs).length).toNat noInc))
theorem out0_len(xs:List GInc)(h:xs.length≤3):1≤(out0 xs).length∧(out0 xs).length≤3:=by
 unfold out0;split
 ·decide
 ·omega
def IncsPost(ys:List GInc)(w:World)(e:Ending)(w':World):Prop := ∃ A' n' c',e=.returned (.slice A' n' c')∧Sl Ty.inc w' (all_ w') A' n' c' ys∧Below w.heap.size w w'
theorem OwnS.inc_set{el:TypeId}{w:World}{base g n c:Nat}{xs:List GInc}(h:OwnS Ty.inc el w (fun _=>False) base (.slice (some ⟨g,0,none⟩) n c) xs){k j:Nat}(hk:k<xs.length)(hj:j<7){u:Value}{y:GInc}(hy:(incCells (xs.getD k noInc)).set j u=incCells y) :
 OwnS Ty.inc el (w.setCell ⟨g,k*7+j,none⟩ u) (fun _=>False) base (.slice (some ⟨g,0,none⟩) n c) (xs.set k y) :=
 h.setAt (t:=Ty.inc) hk hj (fun h=>h) fun cs hr=>by
  have e:xs.getD k y=xs.getD k noInc:=by
   rw[qF,qF,qG hk];rfl
  rw[e]at hr;have hr':cs=incCells (xs.getD k noInc):=hr;subst hr';exact hy
theorem OwnS.inc_post{el:TypeId}{w w':World}{g n c:Nat}{xs:List GInc}(h:OwnS Ty.inc el w' (fun _=>False) w.heap.size (.slice (some ⟨g,0,none⟩) n c) xs)(hb:Below w.heap.size w w'):IncsPost xs w (.returned (.slice (some ⟨g,0,none⟩) n c)) w':=by
 have hg:=(h.lt g rfl).2;obtain⟨A,c',e,hs⟩:=h.sl;injection e with e1 e2 e3
 subst e1 e2 e3;refine⟨_,_,_,rfl,hs.more fun b hb =>?_,hb⟩;rcases hb with hb|hb
 ·exact hb.elim
 ·have hb':some g=some b:=hb;injection hb' with hb'
  show b<_;omega
theorem spMin_cell(r:Nat)(hr:r<6)(V:World):(V.alloc (.cells #[.int .i64 (-1),.int .i64 0,.int .i64 720,.int .i64 721,.int .i64 1440,.int .i64 1441] 3)).cell? ⟨V.heap.size,r,none⟩=some (.int .i64 ([-1,0,720,721,1440,1441].getD r 0)):=by
 have h:=qK V (.cells #[.int .i64 (-1),.int .i64 0,.int .i64 720,.int .i64 721,.int .i64 1440,.int .i64 1441] 3);have:r=0∨r=1∨r=2∨r=3∨r=4∨r=5:=by omega
 rcases this with rfl|rfl|rfl|rfl|rfl|rfl
 all_goals exact block_cell h _
theorem spAir_cell(r:Nat)(hr:r<5)(V:World):(V.alloc (.cells #[.string ⟨#[]⟩,.string ⟨#[65,65,65]⟩,.string ⟨#[66,66,66]⟩,.string ⟨#[67,67,67]⟩,.string ⟨#[88,88,88]⟩] 9)).cell? ⟨V.heap.size,r,none⟩=some (.string ([noStr,dCode 0,dCode 1,dCode 2,xxxS].getD r noStr)):=by
 have h:=qK V (.cells #[.string ⟨#[]⟩,.string ⟨#[65,65,65]⟩,.string ⟨#[66,66,66]⟩,.string ⟨#[67,67,67]⟩,.string ⟨#[88,88,88]⟩] 9);have:r=0∨r=1∨r=2∨r=3∨r=4:=by omega
 rcases this with rfl|rfl|rfl|rfl|rfl
 all_goals exact block_cell h _
theorem made_rep{w:World}{S:Nat→Prop}{cs:List Value}(h:cs=incCells noInc):Ty.inc.rep w S cs noInc:=h
theorem made_incs(V:World)(T:TypeId):Sl Ty.inc (V.alloc (.cells (madeCells (incCells noInc).toArray 231) T)) (all_ (V.alloc (.cells (madeCells (incCells noInc).toArray 231) T))) (some ⟨V.heap.size,0,none⟩) 33 33 (List.replicate 33 noInc):=by
 have h:=Sl.block (t:=Ty.inc) (S:=all_ (V.alloc (.cells (madeCells (incCells noInc).toArray 231) T))) (xs:=List.replicate 33 noInc) (qK V (.cells (madeCells (incCells noInc).toArray 231) T)) (show V.heap.size<_ by simp) (show 33≤maxLen by decide) fun i x hi=>by
  have hi':i<33∧x=noInc:=by
   rw[List.getElem?_replicate]at hi;split at hi
   ·rename_i h;injection hi with hi;exact⟨h,hi.symm⟩
   ·cases hi
  obtain⟨hi',rfl⟩:=hi';have hc:i=0∨i=1∨i=2∨i=3∨i=4∨i=5∨i=6∨i=7∨i=8∨i=9∨i=10∨i=11∨i=12∨i=13∨i=14∨i=15∨i=16∨i=17∨i=18∨i=19∨i=20∨i=21∨i=22∨i=23∨i=24∨i=25∨i=26∨i=27∨i=28∨i=29∨i=30∨i=31∨i=32:=by omega
  rcases hc with rfl|rfl|rfl|rfl|rfl|rfl|rfl|rfl|rfl|rfl|rfl|rfl|rfl|rfl|rfl|rfl|rfl|rfl|rfl|rfl|rfl|rfl|rfl|rfl|rfl|rfl|rfl|rfl|rfl|rfl|rfl|rfl|rfl
  all_goals exact made_rep (by kernel_rfl)
 exact h
theorem run_make_incs(w:World):(Instr.makeSlice 42 (.int .i64 33) (.int .i64 33)).run Tryz.prog w=.ok (.slice (some ⟨w.heap.size,0,none⟩) 33 33) (w.alloc (.cells (madeCells (incCells noInc).toArray 231) 59)):=by
 have h:=run_make (P:=Tryz.prog) w 42 59 ((Tryz.prog.info? 59).get (by kernel_rfl)) (((Tryz.prog.info? 59).get (by kernel_rfl)).zero.get (by kernel_rfl)) Tryz.underlying42 (Option.some_get _).symm (Option.some_get _).symm .i64 .i64 33 33 (by decide) (by decide) (by decide +kernel) (by decide);rw[h];have e:madeCells (((Tryz.prog.info? 59).get (by kernel_rfl)).zero.get (by kernel_rfl)).cells (Int.toNat 33*((Tryz.prog.info? 59).get (by kernel_rfl)).size)=madeCells (incCells noInc).toArray 231:=by kernel_rfl
 rw[e];rfl
theorem own_single(w:World)(x:GInc):Own Ty.inc 59 (w.alloc (.cells (incCells x).toArray 59)) w.heap.size (.slice (some ⟨w.heap.size,0,none⟩) 1 1) [x]:=by
 refine⟨incCells x,⟨rfl,.inr ⟨_,1,_,rfl,qD _,qK _ _,qD 1,show 1≤maxLen by decide,rfl,rfl⟩⟩,rfl,fun i y hi =>?_⟩;have:i=0:=by
  have:=(List.getElem?_eq_some_iff.1 hi).1;have:i<1:=this;omega
 subst this;injection hi with hi
 subst hi;rfl
theorem spoil_any(xs:List GInc)(b:List Int)(A Ab:Option Addr)(n c nb cb:Nat)(w:World)(hx:Sl Ty.inc w (all_ w) A n c xs)(hb:Sl (Ty.int .i64) w (all_ w) Ab nb cb b)(hl:xs.length≤3) :
 Calls Tryz.prog 14 #[.slice A n c,.slice Ab nb cb] w (IncsPost (spoilI xs b) w):=by
 have HS:Hid (∀ V,Below w.heap.size w V→Sl (Ty.int .i64) V (all_ V) Ab nb cb b):=fun V hV=>hb.next hV
 have hn3:n≤3:=by rw[hx.len];exact hl
 have HNX:Hid (n=xs.length):=hx.len;have HX:=qH hx;have HL:=qH (out0_len xs hl);have HRG:Hid (∀ i,0≤atL b i∧atL b i≤65535+i):=fun i=>atL_range b i
 clear hb hl hx
 go_enter Tryz.func14,Tryz.ntmps14
 go_upto_region 1 with (fail)
 go_cut [5] (fun s wx=>Own Ty.inc 59 wx w.heap.size s xs∧Below w.heap.size w wx)
 case first =>
  rcases Nat.eq_zero_or_pos n with rfl|hp
  ·have HE:Hid (xs=[]):=List.eq_nil_of_length_eq_zero HNX.out.symm;clear hn3
   cases A with
   | none =>
    go_wp2_with (at_builtin;refine qP rfl fun K9 hK9 =>?_;go_simp;simp only[Sem.run_pure,Result.andThen_ok];refine hK9 _ _ ?_;clear hK9)
    go_meet
    rw[HE.out];exact⟨Own.nil,qC _ _⟩
   | some ad =>
    go_wp2_with (at_builtin;refine wpList_concat (t:=Ty.inc) (S:=all_ w) (xs:=[]) (ys:=xs) (base:=w.heap.size) (fun h=>h) rfl _ _ rfl 64 elem_inc rfl Own.nil ad 0 c rfl HX.out ?c1 (by decide) ?c2 ?_)
    case c1=>decide
    try (case c2=>first|omega|exact qD _|simp)
    intro v9 w9 hown9 hgr9;have hbl:Below w.heap.size w w9:=(qC _ _).grown hgr9 (qD _) fun j hj=>by cases hj
    have HO9:Hid (Own Ty.inc 59 w9 w.heap.size v9 xs):=hown9;have HB9:=qH hbl;clear hown9 hbl hgr9;go_wp2_with fail
    go_meet
    exact⟨HO9.out,HB9.out⟩
  ·obtain⟨b0,o0,rfl, -, -⟩:=HX.out.inc_at (k:=0) (by have:=HNX.out;omega);go_wp2_with (at_builtin;refine wpList_concat (t:=Ty.inc) (S:=all_ w) (xs:=[]) (ys:=xs) (base:=w.heap.size) (fun h=>h) rfl _ _ rfl 64 elem_inc rfl Own.nil ⟨b0,o0,none⟩ n c rfl HX.out ?c1 (by decide) ?c2 ?_)
   case c1=>first|omega|(simp;omega)
   try (case c2=>first|omega|exact qD _|simp)
   intro v9 w9 hown9 hgr9;have hbl:Below w.heap.size w w9:=(qC _ _).grown hgr9 (qD _) fun j hj=>by cases hj
   have HO9:Hid (Own Ty.inc 59 w9 w.heap.size v9 xs):=hown9;have HB9:=qH hbl;clear hown9 hbl hgr9;go_wp2_with fail
   go_meet
   exact⟨HO9.out,HB9.out⟩
 case rest =>
 obtain⟨hown,hbel⟩:=hcut;obtain⟨A5,c5,rfl, -⟩:=hown.sl;have HOW:=qH hown;have HBW:=qH hbel;have HNL:Hid (xs.length≤3):=by have:=HNX.out;show _≤_;omega
 clear hown hbel HNX HX hn3;generalize hL:xs.length=L at*;have HLL:=qH hL;clear hL;go_upto_if 12 with (fail)
 go_cut [5] (fun s wx=>Own Ty.inc 59 wx w.heap.size s (out0 xs)∧Below w.heap.size w wx)
 case first =>
  by_cases h0:L=0
  ·have HE:Hid (out0 xs=[⟨2,0,0,noStr,0,noShift⟩]):=by show _=_;unfold out0;rw[qR (by rw[HLL.out];exact h0)]
   have HO9:Hid (Own Ty.inc 59 (wc.alloc (.cells #[.int .i64 2,.int .i64 0,.int .i64 0,.string ⟨#[]⟩,.int .i64 0,.int .i64 0,.int .i64 0] 59)) w.heap.size (.slice (some ⟨wc.heap.size,0,none⟩) 1 1) [⟨2,0,0,noStr,0,noShift⟩]):=(own_single wc ⟨2,0,0,noStr,0,noShift⟩).lower HBW.out.size;have HB9:Hid (Below w.heap.size w (wc.alloc (.cells #[.int .i64 2,.int .i64 0,.int .i64 0,.string ⟨#[]⟩,.int .i64 0,.int .i64 0,.int .i64 0] 59))):=HBW.out.alloc HBW.out.size _;have h0':((L:Int)==0)=true:=by simpa using h0
   clear h0;go_wp2_with fail
   go_meet
   rw[HE.out];exact⟨HO9.out,HB9.out⟩
  ·have HE:Hid (out0 xs=xs):=by show _=_;unfold out0;rw[qN (by rw[HLL.out];exact h0)]
   have h0':((L:Int)==0)=false:=by simpa using h0
   clear h0;go_wp2_with fail
   go_meet
   rw[HE.out];exact⟨HOW.out,HBW.out⟩
 case rest =>
 obtain⟨hown,hbel⟩:=hcut;obtain⟨g,cp,cur9,rfl,hg9,hl9, -⟩:=OwnS.ownAt (S:=fun b=>w.heap.size≤b∧b<wc.heap.size∧some b≠u5.ownBlock) hown (by have:=HL.out.1;omega);have HSP:Hid (spoilI xs b=if atL b 0%12=7 then List.replicate 33 noInc else (out0 xs).set (atL b 1%(out0 xs).length).toNat (spOne (atL b 0%12) (atL b 1) ((out0 xs).getD (atL b 1%(out0 xs).length).toNat noInc))):=rfl;have HOS:=qH (Own.toS (t:=Ty.inc) (fun h=>h) hown);have HBW2:=qH hbel;clear hown hbel HOW HBW hg9 hl9 HNL HLL;generalize spoilI xs b=ys at*;generalize out0 xs=zs at*;have hL3:=HL.out.2;have hL1:=HL.out.1;generalize hLe:zs.length=L at*;have HLE:=qH hLe;clear hLe;have HA1:=qH (dataAt_any b Ab nb cb 1 wc (HS.out wc HBW2.out) (by decide));have hk0:=(HRG.out 1).1;have hk1:=(HRG.out 1).2;generalize atL b 1=kk at*;go_upto_region 5 with (go_at_call 32;refine HA1.out.mono ?_;rintro e w2 ⟨rfl,hb2⟩)
 have HO2:=qH (HOS.out.next hb2 fun _ h=>h.elim);have HB2:Hid (Below w.heap.size w w2):=HBW2.out.trans (hb2.mono HBW2.out.size);clear hb2 HOS HBW2 HA1;obtain⟨i,hi⟩ : ∃ i:Nat,kk%(L:Int)=(i:Int):=⟨(kk%(L:Int)).toNat,by
  have:=Int.emod_nonneg kk (show(L:Int)≠0 by omega);omega⟩
 have hil:i<L:=by
  have:=Int.emod_lt_of_pos kk (show(0:Int)<(L:Int) by omega);omega
 have hil':(i:Int)<(L:Int):=by omega
 have hi0:(0:Int)≤(i:Int):=by omega
 have hm0 : ¬(L:Int)=0:=by omega
 have hm3p:(0:Int)<(L:Int):=by omega
 have hm0':((L:Int)==0)=false:=by simpa using hm0
 have g4:kk.tmod (L:Int)=(i:Int):=by rw[qQ hk0];exact hi
 rw[hi,Int.toNat_natCast]at HSP;clear hi;have HA0:=qH (dataAt_any b Ab nb cb 0 w2 (HS.out w2 HB2.out) (by decide));have hz0:=(HRG.out 0).1;have g1:(atL b 0).tmod 12=atL b 0%12:=qQ hz0;have g2:IntKind.i64.wrap (atL b 0%12)=atL b 0%12:=qM _ (by omega);go_upto_region 6 with (fail)
 clear g4 hm0 hm0' hm3p;go_upto_region 7 with (go_at_call 32;refine HA0.out.mono ?_;rintro e V ⟨rfl,hb3⟩)
 have HO3:=qH (HO2.out.next hb3 fun _ h=>h.elim);have HB3:Hid (Below w.heap.size w V):=HB2.out.trans (hb3.mono HB2.out.size);have hsr:0≤atL b 0%12∧atL b 0%12<12:=by omega
 clear hb3 HO2 HB2 HA0 g1 g2 hz0;generalize atL b 0%12=se at*;obtain⟨A9,c9,e9,hs9⟩:=HO3.out.sl;injection e9 with e1 e2 e3
 subst e1 e3;clear e2;obtain⟨g',o',e9, -,hat⟩:=hs9.inc_at (k:=i) (by rw[HLE.out];exact hil);injection e9 with e9
 injection e9 with e1 e2
 subst e1 e2;have HG:=qH (HO3.out.lt g rfl);obtain⟨xi,hxi⟩ : ∃ x,zs.getD i noInc=x:=⟨_,rfl⟩
 have HXI:=qH hxi;rw[hxi]at hat HSP;clear hs9 hxi;obtain⟨kd,xf,mi,ai,pe,⟨s1,s2⟩⟩:=xi;have y0:=hat 0 _ rfl;have y1:=hat 1 _ rfl;have y2:=hat 2 _ rfl;have y3:=hat 3 _ rfl;have y4:=hat 4 _ rfl;have y5:=hat 5 _ rfl;have y6:=hat 6 _ rfl;rw[Nat.zero_add]at y0 y1 y2 y3 y4 y5 y6;rw[Nat.add_zero]at y0;simp only at y0 y1 y2 y3 y4 y5 y6;have f0:=HO3.out.freeP (i*7);have f1:=HO3.out.freeP (i*7+1);have f2:=HO3.out.freeP (i*7+2);have f3:=HO3.out.freeP (i*7+3);have f4:=HO3.out.freeP (i*7+4);have f5:=HO3.out.freeP (i*7+5);have f6:=HO3.out.freeP (i*7+6);clear hat;have hcs:se=0∨se=1∨se=2∨se=3∨se=4∨se=5∨se=6∨se=7∨8≤se:=by omega
 rcases hcs with rfl|rfl|rfl|rfl|rfl|rfl|rfl|rfl|h8
 ·have HV:Hid (ys=zs.set i ⟨kk%7-1,xf,mi,ai,pe,⟨s1,s2⟩⟩):=HSP.out;have q1:kk.tmod 7=kk%7:=qQ hk0;have q2:IntKind.i64.wrap (kk%7)=kk%7:=qM _ (by omega);have q3:IntKind.i64.wrap (kk%7-1)=kk%7-1:=qM _ (by omega);have HN:Hid (OwnS Ty.inc 59 (V.setCell ⟨g,i*7+0,none⟩ (.int .i64 (kk%7-1))) (fun _=>False) w.heap.size (.slice (some ⟨g,0,none⟩) L cp) (zs.set i ⟨kk%7-1,xf,mi,ai,pe,⟨s1,s2⟩⟩)):=HO3.out.inc_set (by rw[HLE.out];exact hil) (by decide) (by rw[HXI.out];rfl);have HB:Hid (Below w.heap.size w (V.setCell ⟨g,i*7+0,none⟩ (.int .i64 (kk%7-1)))):=HB3.out.setCell (show w.heap.size≤g from HG.out.1) _;clear HSP;go_wp2_with fail
  go_ret
  rw[HV.out];exact HN.out.inc_post HB.out
 ·have HV:Hid (ys=zs.set i ⟨kd,kk%8-1,mi,ai,pe,⟨s1,s2⟩⟩):=HSP.out;have q1:kk.tmod 8=kk%8:=qQ hk0;have q2:IntKind.i64.wrap (kk%8)=kk%8:=qM _ (by omega);have q3:IntKind.i64.wrap (kk%8-1)=kk%8-1:=qM _ (by omega);have HN:Hid (OwnS Ty.inc 59 (V.setCell ⟨g,i*7+1,none⟩ (.int .i64 (kk%8-1))) (fun _=>False) w.heap.size (.slice (some ⟨g,0,none⟩) L cp) (zs.set i ⟨kd,kk%8-1,mi,ai,pe,⟨s1,s2⟩⟩)):=HO3.out.inc_set (by rw[HLE.out];exact hil) (by decide) (by rw[HXI.out];rfl);have HB:Hid (Below w.heap.size w (V.setCell ⟨g,i*7+1,none⟩ (.int .i64 (kk%8-1)))):=HB3.out.setCell (show w.heap.size≤g from HG.out.1) _;clear HSP;go_wp2_with fail
  go_ret
  rw[HV.out];exact HN.out.inc_post HB.out
 ·obtain⟨r,hr⟩ : ∃ r:Nat,kk%6=(r:Int):=⟨(kk%6).toNat,by omega⟩
  have hrd:r<6:=by omega
  have hrd':(r:Int)<6:=by omega
  have hr0:(0:Int)≤(r:Int):=by omega
  have q1:kk.tmod 6=(r:Int):=by rw[qQ hk0];exact hr
  obtain⟨vv,hvv⟩ : ∃ vv,spMin kk=vv:=⟨_,rfl⟩
  have HV:Hid (ys=zs.set i ⟨kd,xf,vv,ai,pe,⟨s1,s2⟩⟩):=by show _=_;rw[←hvv];exact HSP.out
  have hcell : ∀ U:World,(U.alloc (.cells #[.int .i64 (-1),.int .i64 0,.int .i64 720,.int .i64 721,.int .i64 1440,.int .i64 1441] 3)).cell? ⟨U.heap.size,r,none⟩=some (.int .i64 vv):=fun U=>by
   rw[spMin_cell r hrd U, ←hvv];unfold spMin;rw[hr];rfl
  have hc:=hcell V;have hgV:=HG.out.2;have HN:Hid (OwnS Ty.inc 59 (V.setCell ⟨g,i*7+2,none⟩ (.int .i64 vv)) (fun _=>False) w.heap.size (.slice (some ⟨g,0,none⟩) L cp) (zs.set i ⟨kd,xf,vv,ai,pe,⟨s1,s2⟩⟩)):=HO3.out.inc_set (by rw[HLE.out];exact hil) (by decide) (by rw[HXI.out];rfl);have HB:Hid (Below w.heap.size w (V.setCell ⟨g,i*7+2,none⟩ (.int .i64 vv))):=HB3.out.setCell (show w.heap.size≤g from HG.out.1) _;clear HSP hr hvv hcell;go_wp2_with fail
  go_ret
  rw[HV.out];exact OwnS.inc_post (HN.out.next ((qC _ _).alloc (qD _) _) fun _ h=>h.elim) (HB.out.alloc HB.out.size _)
 ·obtain⟨r,hr⟩ : ∃ r:Nat,kk%5=(r:Int):=⟨(kk%5).toNat,by omega⟩
  have hrd:r<5:=by omega
  have hrd':(r:Int)<5:=by omega
  have hr0:(0:Int)≤(r:Int):=by omega
  have q1:kk.tmod 5=(r:Int):=by rw[qQ hk0];exact hr
  obtain⟨vv,hvv⟩ : ∃ vv,spAir kk=vv:=⟨_,rfl⟩
  have HV:Hid (ys=zs.set i ⟨kd,xf,mi,vv,pe,⟨s1,s2⟩⟩):=by show _=_;rw[←hvv];exact HSP.out
  have hcell : ∀ U:World,(U.alloc (.cells #[.string ⟨#[]⟩,.string ⟨#[65,65,65]⟩,.string ⟨#[66,66,66]⟩,.string ⟨#[67,67,67]⟩,.string ⟨#[88,88,88]⟩] 9)).cell? ⟨U.heap.size,r,none⟩=some (.string vv):=fun U=>by
   rw[spAir_cell r hrd U, ←hvv];unfold spAir;rw[hr];rfl
  have hc:=hcell V;have hgV:=HG.out.2;have HN:Hid (OwnS Ty.inc 59 (V.setCell ⟨g,i*7+3,none⟩ (.string vv)) (fun _=>False) w.heap.size (.slice (some ⟨g,0,none⟩) L cp) (zs.set i ⟨kd,xf,mi,vv,pe,⟨s1,s2⟩⟩)):=HO3.out.inc_set (by rw[HLE.out];exact hil) (by decide) (by rw[HXI.out];rfl);have HB:Hid (Below w.heap.size w (V.setCell ⟨g,i*7+3,none⟩ (.string vv))):=HB3.out.setCell (show w.heap.size≤g from HG.out.1) _;clear HSP hr hvv hcell;go_wp2_with fail
  go_ret
  rw[HV.out];exact OwnS.inc_post (HN.out.next ((qC _ _).alloc (qD _) _) fun _ h=>h.elim) (HB.out.alloc HB.out.size _)
 ·have HV:Hid (ys=zs.set i ⟨kd,xf,mi,ai,kk%9,⟨s1,s2⟩⟩):=HSP.out;have q1:kk.tmod 9=kk%9:=qQ hk0;have q2:IntKind.i64.wrap (kk%9)=kk%9:=qM _ (by omega);have HN:Hid (OwnS Ty.inc 59 (V.setCell ⟨g,i*7+4,none⟩ (.int .i64 (kk%9))) (fun _=>False) w.heap.size (.slice (some ⟨g,0,none⟩) L cp) (zs.set i ⟨kd,xf,mi,ai,kk%9,⟨s1,s2⟩⟩)):=HO3.out.inc_set (by rw[HLE.out];exact hil) (by decide) (by rw[HXI.out];rfl);have HB:Hid (Below w.heap.size w (V.setCell ⟨g,i*7+4,none⟩ (.int .i64 (kk%9)))):=HB3.out.setCell (show w.heap.size≤g from HG.out.1) _;clear HSP;go_wp2_with fail
  go_ret
  rw[HV.out];exact HN.out.inc_post HB.out
 ·have HV:Hid (ys=zs.set i ⟨kd,xf,mi,ai,pe,⟨kk%4-1,kk/4%4⟩⟩):=HSP.out;have q1:kk.tmod 4=kk%4:=qQ hk0;have q2:IntKind.i64.wrap (kk%4)=kk%4:=qM _ (by omega);have q3:IntKind.i64.wrap (kk%4-1)=kk%4-1:=qM _ (by omega);have p1:(kk/4).tmod 4=kk/4%4:=qQ (by omega);have p2:IntKind.i64.wrap (kk/4%4)=kk/4%4:=qM _ (by omega);have HN1:Hid (OwnS Ty.inc 59 (V.setCell ⟨g,i*7+5,none⟩ (.int .i64 (kk%4-1))) (fun _=>False) w.heap.size (.slice (some ⟨g,0,none⟩) L cp) (zs.set i ⟨kd,xf,mi,ai,pe,⟨kk%4-1,s2⟩⟩)):=HO3.out.inc_set (by rw[HLE.out];exact hil) (by decide) (by rw[HXI.out];rfl);have HN:Hid (OwnS Ty.inc 59 ((V.setCell ⟨g,i*7+5,none⟩ (.int .i64 (kk%4-1))).setCell ⟨g,i*7+6,none⟩ (.int .i64 (kk/4%4))) (fun _=>False) w.heap.size (.slice (some ⟨g,0,none⟩) L cp) (zs.set i ⟨kd,xf,mi,ai,pe,⟨kk%4-1,kk/4%4⟩⟩)):=by
   have h9:=HN1.out.inc_set (k:=i) (j:=6) (u:=.int .i64 (kk/4%4)) (y:=⟨kd,xf,mi,ai,pe,⟨kk%4-1,kk/4%4⟩⟩) (by rw[List.length_set,HLE.out];exact hil) (by decide) (by rw[getD_set_self (by rw[HLE.out];exact hil)];rfl);rw[List.set_set]at h9;exact h9
  have HB:Hid (Below w.heap.size w ((V.setCell ⟨g,i*7+5,none⟩ (.int .i64 (kk%4-1))).setCell ⟨g,i*7+6,none⟩ (.int .i64 (kk/4%4)))):=(HB3.out.setCell (show w.heap.size≤g from HG.out.1) _).setCell (show w.heap.size≤g from HG.out.1) _;clear HSP HN1;go_wp2_with fail
  go_ret
  rw[HV.out];exact HN.out.inc_post HB.out
 ·have HV:Hid (ys=zs.set i ⟨kd,xf,mi,ai,pe,⟨1,52596000+kk%2⟩⟩):=HSP.out;have q1:kk.tmod 2=kk%2:=qQ hk0;have q2:IntKind.i64.wrap (kk%2)=kk%2:=qM _ (by omega);have q3:IntKind.i64.wrap (52596000+kk%2)=52596000+kk%2:=qM _ (by omega);have HN1:Hid (OwnS Ty.inc 59 (V.setCell ⟨g,i*7+5,none⟩ (.int .i64 (1))) (fun _=>False) w.heap.size (.slice (some ⟨g,0,none⟩) L cp) (zs.set i ⟨kd,xf,mi,ai,pe,⟨1,s2⟩⟩)):=HO3.out.inc_set (by rw[HLE.out];exact hil) (by decide) (by rw[HXI.out];rfl);have HN:Hid (OwnS Ty.inc 59 ((V.setCell ⟨g,i*7+5,none⟩ (.int .i64 (1))).setCell ⟨g,i*7+6,none⟩ (.int .i64 (52596000+kk%2))) (fun _=>False) w.heap.size (.slice (some ⟨g,0,none⟩) L cp) (zs.set i ⟨kd,xf,mi,ai,pe,⟨1,52596000+kk%2⟩⟩)):=by
   have h9:=HN1.out.inc_set (k:=i) (j:=6) (u:=.int .i64 (52596000+kk%2)) (y:=⟨kd,xf,mi,ai,pe,⟨1,52596000+kk%2⟩⟩) (by rw[List.length_set,HLE.out];exact hil) (by decide) (by rw[getD_set_self (by rw[HLE.out];exact hil)];rfl);rw[List.set_set]at h9;exact h9
  have HB:Hid (Below w.heap.size w ((V.setCell ⟨g,i*7+5,none⟩ (.int .i64 (1))).setCell ⟨g,i*7+6,none⟩ (.int .i64 (52596000+kk%2)))):=(HB3.out.setCell (show w.heap.size≤g from HG.out.1) _).setCell (show w.heap.size≤g from HG.out.1) _;clear HSP HN1;go_wp2_with fail
  go_ret
  rw[HV.out];exact HN.out.inc_post HB.out
 ·have HV:Hid (ys=List.replicate 33 noInc):=HSP.out;have HM:Hid (∀ T,Sl Ty.inc (V.alloc (.cells (madeCells (incCells noInc).toArray 231) T)) (all_ _) (some ⟨V.heap.size,0,none⟩) 33 33 (List.replicate 33 noInc)):=fun T=>made_incs V T
  have HB:Hid (∀ o,Below w.heap.size w (V.alloc o)):=fun o=>HB3.out.alloc HB3.out.size o
  have hmk:=run_make_incs;clear HSP;go_wp2_with fail
  go_ret
  rw[HV.out];exact⟨_,_,_,rfl,HM.out _,HB.out _⟩
 ·have HV:Hid (ys=zs.set i ⟨kd,xf,mi,ai,pe,⟨s1,s2⟩⟩):=by
   show _=_;rw[HSP.out,qN (by omega)];unfold spOne;rw[qN (by omega),qN (by omega),qN (by omega),qN (by omega),qN (by omega),qN (by omega),qN (by omega)]
  have hb0:(se==0)=false:=by simp;omega
  have hb1:(se==1)=false:=by simp;omega
  have hb2:(se==2)=false:=by simp;omega
  have hb3:(se==3)=false:=by simp;omega
  have hb4:(se==4)=false:=by simp;omega
  have hb5:(se==5)=false:=by simp;omega
  have hb6:(se==6)=false:=by simp;omega
  have hb7:(se==7)=false:=by simp;omega
  have HSET:Hid (zs.set i ⟨kd,xf,mi,ai,pe,⟨s1,s2⟩⟩=zs):=by
   show _=_;rw[←HXI.out];have hi9:i<zs.length:=by rw[HLE.out];exact hil
   apply List.ext_getElem?;intro j;rw[List.getElem?_set]
   by_cases h:i=j
   ·subst h;rw[qR rfl,qR hi9,qG hi9,qF,qG hi9];rfl
   ·rw[qN h]
  clear HSP h8 hsr;go_wp2_with fail
  go_ret
  rw[HV.out,HSET.out];exact HO3.out.inc_post HB3.out
end Go.Proofs.YtifconapjfdkcaaGreatDoor
namespace Go.Proofs.YtifconapjfdkcaaGreatDoor
open Go.RowKit
theorem leapR_any(y:Int)(w:World)(h0:0≤y)(h1:y≤100000):Calls Tryz.prog 173 #[.int .i64 y] w fun e w'=>e=.returned (.bool (leapB y))∧w=w':=by
 have HL:Hid (leapB y=(decide (y%4=0)&&(decide (y%100≠0)||decide (y%400=0)))):=rfl
 by_cases a:y%4=0
 ·have a':(y%4==0)=true:=by simpa using a
  by_cases b:y%100=0
  ·have b':(y%100 != 0)=false:=by simpa using b
   by_cases c:y%400=0
   ·have c':(y%400==0)=true:=by simpa using c
    have HR:Hid (leapB y=true):=by show _=_;rw[HL.out];simp[a,b,c]
    clear a b c
    go_enter Tryz.func173,Tryz.ntmps173
    go_wp2_with fail
    go_ret
    exact⟨ret_bool HR.out.symm,rfl⟩
   ·have c':(y%400==0)=false:=by simpa using c
    have HR:Hid (leapB y=false):=by show _=_;rw[HL.out];simp[a,b,c]
    clear a b c
    go_enter Tryz.func173,Tryz.ntmps173
    go_wp2_with fail
    go_ret
    exact⟨ret_bool HR.out.symm,rfl⟩
  ·have b':(y%100 != 0)=true:=by simpa using b
   have HR:Hid (leapB y=true):=by show _=_;rw[HL.out];simp[a,b]
   clear a b
   go_enter Tryz.func173,Tryz.ntmps173
   go_wp2_with fail
   go_ret
   exact⟨ret_bool HR.out.symm,rfl⟩
 ·have a':(y%4==0)=false:=by simpa using a
  have c : ¬y%400=0:=by omega
  have c':(y%400==0)=false:=by simpa using c
  have HR:Hid (leapB y=false):=by show _=_;rw[HL.out];simp[a]
  clear a c
  go_enter Tryz.func173,Tryz.ntmps173
  go_wp2_with fail
  go_ret
  exact⟨ret_bool HR.out.symm,rfl⟩
def dimB(y m:Int):Int×Int:=if y<1999∨2100<y∨m<1∨12<m then (0,5) else (mDays y m,0)
theorem daysInMonthR_any(y m:Int)(w:World):Calls Tryz.prog 163 #[.int .i64 y,.int .i64 m] w fun e w'=>e=.returned (.tuple #[.int .i64 (dimB y m).1,.int .i64 (dimB y m).2])∧w=w':=by
 by_cases hb:y<1999∨2100<y∨m<1∨12<m
 ·have HR:Hid (dimB y m=(0,5)):=by show _=_;unfold dimB;rw[qR hb]
  have hc:y<1999∨(¬y<1999∧2100<y)∨(¬y<1999 ∧ ¬2100<y∧m<1)∨(¬y<1999 ∧ ¬2100<y ∧ ¬m<1∧12<m):=by omega
  clear hb;rcases hc with h|⟨h,h1⟩|⟨h,h1,h2⟩|⟨h,h1,h2,h3⟩
  all_goals
   go_enter Tryz.func163,Tryz.ntmps163
   go_wp2_with fail
   go_ret2
   exact⟨by rw[HR.out];rfl,rfl⟩
 have HR:Hid (dimB y m=(mDays y m,0)):=by show _=_;unfold dimB;rw[qN hb]
 have h1 : ¬y<1999:=by omega
 have h2 : ¬2100<y:=by omega
 have HC:=qH (leapR_any y w (by omega) (by omega));have hm:m=1∨m=2∨m=3∨m=4∨m=5∨m=6∨m=7∨m=8∨m=9∨m=10∨m=11∨m=12:=by omega
 have HM:Hid (mDays y m=if m=2∧leapB y=true then 29 else mTab.getD (m-1).toNat 0):=rfl;clear hb;rcases hm with rfl|rfl|rfl|rfl|rfl|rfl|rfl|rfl|rfl|rfl|rfl|rfl
 case inr.inl =>
  go_enter Tryz.func163,Tryz.ntmps163
  go_wp2_with fail
  refine HC.out.mono ?_;rintro e w' ⟨rfl,rfl⟩
  cases hl:leapB y
  ·have HR2:Hid (mDays y 2=28):=by show _=_;rw[HM.out,hl];rfl
   rw[HR2.out]at HR;go_wp2_with fail
   go_ret2
   exact⟨by rw[HR.out];rfl,rfl⟩
  ·have HR2:Hid (mDays y 2=29):=by show _=_;rw[HM.out,hl];rfl
   rw[HR2.out]at HR;go_wp2_with fail
   go_ret2
   exact⟨by rw[HR.out];rfl,rfl⟩
 all_goals
  rw[HM.out,qN (fun h=>absurd h.1 (by decide))]at HR
  go_enter Tryz.func163,Tryz.ntmps163
  go_wp2_with fail
  go_ret2
  exact⟨by rw[HR.out];rfl,rfl⟩
theorem isDateR_any(y m d:Int)(w:World):Calls Tryz.prog 164 #[.agg #[.int .i64 y,.int .i64 m,.int .i64 d]] w (BoolPostC (validB y m d) w):=by
 have hb0:=(qC w.heap.size w).alloc (qD _) (.cells #[.int .i64 y,.int .i64 m,.int .i64 d] 145);have hr0:=qK w (.cells #[.int .i64 y,.int .i64 m,.int .i64 d] 145);have HB:=qH hb0;have HC:=qH (daysInMonthR_any y m (w.alloc (.cells #[.int .i64 y,.int .i64 m,.int .i64 d] 145)));have x0:=block_cell hr0 0;have x1:=block_cell hr0 1;have x2:=block_cell hr0 2;have HV:Hid (validB y m d=true↔(1999≤y∧y≤2100)∧(1≤m∧m≤12)∧1≤d∧d≤mDays y m):=validB_iff;have HDM:Hid (dimB y m=if y<1999∨2100<y∨m<1∨12<m then (0,5) else (mDays y m,0)):=rfl;clear hb0 hr0
 go_enter Tryz.func164,Tryz.ntmps164
 go_wp2_with fail
 refine HC.out.mono ?_;rintro e w' ⟨rfl,rfl⟩;generalize w.alloc (.cells #[.int .i64 y,.int .i64 m,.int .i64 d] 145)=W at*;clear HC
 by_cases hb:y<1999∨2100<y∨m<1∨12<m
 ·rw[HDM.out,qR hb];have HR:Hid (validB y m d=false):=by
   show _=_
   cases hv:validB y m d
   ·rfl
   ·have:=HV.out.1 hv;omega
  clear hb;go_wp2_with fail
  go_ret
  exact⟨ret_bool HR.out.symm,HB.out⟩
 rw[HDM.out,qN hb];generalize mDays y m=md at*
 by_cases h1:1≤d
 ·by_cases h2:d≤md
  ·have HR:Hid (validB y m d=true):=HV.out.2 (by omega);clear hb;go_wp2_with fail
   go_ret
   exact⟨ret_bool HR.out.symm,HB.out⟩
  ·have HR:Hid (validB y m d=false):=by
    show _=_
    cases hv:validB y m d
    ·rfl
    ·have:=HV.out.1 hv;omega
   clear hb;go_wp2_with fail
   go_ret
   exact⟨ret_bool ((decide_eq_false (Int.not_le.2 h2)).trans HR.out.symm),HB.out⟩
 ·have HR:Hid (validB y m d=false):=by
   show _=_
   cases hv:validB y m d
   ·rfl
   ·have:=HV.out.1 hv;omega
  clear hb;go_wp2_with fail
  go_ret
  exact⟨ret_bool HR.out.symm,HB.out⟩
theorem yDays_leap(y:Int):yDays y=if leapB y=true then 366 else 365:=rfl
theorem dayNumberR_any(y m d:Int)(w:World)(hd : -1000000≤d∧d≤1000000):Calls Tryz.prog 137 #[.agg #[.int .i64 y,.int .i64 m,.int .i64 d]] w (NumPost (dayN y m d) w):=by
 have hb0:=(qC w.heap.size w).alloc (qD _) (.cells #[.int .i64 y,.int .i64 m,.int .i64 d] 145);have hr0:=qK w (.cells #[.int .i64 y,.int .i64 m,.int .i64 d] 145);have hz0:(w.alloc (.cells #[.int .i64 y,.int .i64 m,.int .i64 d] 145)).heap.size=w.heap.size+1:=by simp
 have HB0:=qH hb0;have HR0:=qH hr0;have HZ0:=qH hz0;have HD:Hid (dayN y m d=if validB y m d=true then (dayB y m d,0) else (0,5)):=rfl;clear hb0 hr0 hz0
 go_enter Tryz.func137,Tryz.ntmps137
 go_wp2_with fail
 generalize w.alloc (.cells #[.int .i64 y,.int .i64 m,.int .i64 d] 145)=W at*;refine(isDateR_any y m d W).mono ?_;rintro e w1 ⟨rfl,hb1⟩;have hbw1:Below w.heap.size w w1:=HB0.out.trans (hb1.mono HB0.out.size);have hr1:=(hb1.block w.heap.size (by have:=HZ0.out;omega)).trans HR0.out;clear hb1
 cases hv:validB y m d
 ·have HR:Hid (dayN y m d=(0,5)):=by show _=_;rw[HD.out,hv];rfl
  clear hr1;go_wp2_with fail
  go_ret2
  exact⟨by rw[HR.out];rfl,hbw1⟩
 obtain⟨⟨y1,y2⟩,⟨m1,m2⟩,d1,d2⟩:=validB_iff.1 hv;have HR:Hid (dayN y m d=(-365+yearSum (y-1999).toNat+monSum y (m-1).toNat+d-1,0)):=by show _=_;rw[HD.out,hv];rfl
 obtain⟨Y,hY⟩:=Int.eq_ofNat_of_zero_le (show 0≤y-1999 by omega);obtain⟨M,hM⟩:=Int.eq_ofNat_of_zero_le (show 0≤m-1 by omega);rw[hY,hM,Int.toNat_natCast,Int.toNat_natCast]at HR;obtain rfl:y=1999+Y:=by omega
 obtain rfl:m=1+M:=by omega
 have hYl:Y≤101:=by omega
 have hMl:M≤11:=by omega
 have x0:=block_cell hr1 0;have x1:=block_cell hr1 1;have x2:=block_cell hr1 2;have HY0:Hid ((-365:Int) = -365+yearSum 0):=rfl;clear hr1 hY hM hv HD;go_wp2_with fail
 go_loop [4,5] (fun nv yv => ∃ k:Nat,k≤Y∧yv=.int .i64 (1999+k)∧nv=.int .i64 (-365+yearSum k)) (fun _ yv=>Y-(intOf yv-1999).toNat)
 case atStart=>exact⟨0,qV _,rfl,by rw[←HY0.out]⟩
 case round =>
  obtain⟨k,hk,rfl,rfl⟩:=hrel;have hyb:=yearSum_bd k
  by_cases hlt:k<Y
  ·have HS:=qH (yearSum_succ k);have HYL:=qH (yDays_leap (1999+k));have HC:=qH (leapR_any (1999+k) w1 (by omega) (by omega));have hlt':(1999:Int)+k<1999+Y:=by omega
   generalize yearSum k=ys at*;generalize yDays (1999+k)=yd at*;go_wp2_with fail
   refine HC.out.mono ?_;rintro e w' ⟨rfl,rfl⟩
   cases hl:leapB (1999+k)
   ·rw[hl]at HYL;have e9:yd=365:=HYL.out;go_wp2_with fail
    go_round
    case rel=>exact⟨k+1,by omega,by go_num,by rw[HS.out];congr 1;omega⟩
    case measure=>simp[intOf];omega
   ·rw[hl]at HYL;have e9:yd=366:=HYL.out;go_wp2_with fail
    go_round
    case rel=>exact⟨k+1,by omega,by go_num,by rw[HS.out];congr 1;omega⟩
    case measure=>simp[intOf];omega
  ·have hkY:k=Y:=by omega
   subst hkY;have hnl : ¬(1999:Int)+k<1999+k:=by omega
   have HM0:Hid ((-365:Int)+yearSum k = -365+yearSum k+monSum (1999+k) 0):=by show _=_;rw[show monSum (1999+k) 0=0 from rfl];omega
   go_wp2_with fail
   go_loop [4,6,7,8] (fun nv mv _ _ => ∃ q:Nat,q≤M∧mv=.int .i64 (1+q)∧nv=.int .i64 (-365+yearSum k+monSum (1999+k) q)) (fun _ mv _ _=>M-(intOf mv-1).toNat)
   case atStart=>exact⟨0,qV _,rfl,by rw[←HM0.out]⟩
   case round =>
    obtain⟨q,hq,rfl,rfl⟩:=hrel;have hmb:=monSum_bd (1999+k) q
    by_cases hltq:q<M
    ·have HS:=qH (monSum_succ (1999+k) q);have hyd:=mDays_bd (1999+k) (1+q);have HC:=qH (daysInMonthR_any (1999+k) (1+q) w1);have HDE:Hid (dimB (1999+k) (1+q)=(mDays (1999+k) (1+q),0)):=by show _=_;unfold dimB;rw[qN (by omega)]
     rw[HDE.out]at HC;have hlt':(1:Int)+q<1+M:=by omega
     generalize monSum (1999+k) q=ms at*;generalize mDays (1999+k) (1+q)=md at*;generalize yearSum k=ys at*;go_wp2_with fail
     refine HC.out.mono ?_;rintro e w' ⟨rfl,rfl⟩;go_wp2_with fail
     go_round
     case rel=>exact⟨q+1,by omega,by go_num,by rw[HS.out];congr 1;omega⟩
     case measure=>simp[intOf];omega
    ·have hqM:q=M:=by omega
     subst hqM;have hnl2 : ¬(1:Int)+q<1+q:=by omega
     generalize hms:monSum (1999+k) q=ms at*;generalize hys:yearSum k=ys at*;clear hms hys;go_wp2_with fail
     go_ret2
     exact⟨by rw[HR.out];rfl,hbw1⟩
end Go.Proofs.YtifconapjfdkcaaGreatDoor

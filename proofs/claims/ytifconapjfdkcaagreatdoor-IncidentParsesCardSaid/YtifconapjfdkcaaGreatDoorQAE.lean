/-
  Joined texts: CrewRef; CrewVR; RefInc; RefInc2. What each proves stands ahead of it, with its conditions.
-/
import Derived.Test.YtifconapjfdkcaaGreatDoorQAB
import Derived.Test.YtifconapjfdkcaaGreatDoorProg
import Derived.WalkKit
import Derived.WalkLawsBesides
import Derived.WalkSpells
import Derived.Lib.Hide
import Derived.Maps.AppendAt
import Derived.ProofKit
import Derived.Deep.Slices
import Derived.Test.YtifconapjfdkcaaGreatDoorQAA
import Derived.Deep.QuietTactic
import Derived.BigQuiet
import Derived.IntWalk
import Derived.Maps.OwnOps
import Derived.Maps.Views
import Derived.StillTailTactics
import Derived.Deep.RegionWith
import Derived.Lib.AppendStr
import Derived.Laws.Rows
import Derived.Laws.Tables
import Derived.Deep.DeepCutAuto
import Derived.Deep.RegionLaw
import Derived.Deep.AppendLies
import Derived.StillTail
import Derived.RegionTactic
import Derived.Sort.LotA
import Derived.Sort.Walk0
import Derived.Shelf.Strings.Builder1
import Derived.Shelf.Strings.Builder2
import Derived.Shelf.Small.Strs
import Derived.Shelf.Strings.BuilderF
import Derived.Shelf.Strconv.Itoa0
import Derived.Shelf.Strconv.Itoa1
import Derived.Shelf.LaysM
import Derived.Shelf.Strconv.Itoa2
import Derived.Shelf.Strconv.Itoa3
import Derived.Shelf.Strings.Search1
import Derived.Shelf.Strings.Search2
import Derived.Shelf.Strings.Search3
import Derived.Shelf.Strings.Cut
import Derived.Shelf.Strings.Count
import Derived.Shelf.Strings.Shaped
import Derived.Shelf.Strings.Prefix
import Derived.Shelf.Strings.Split
import Derived.Shelf.Strings.SplitShaped
import Derived.Shelf.Bits.Mul64
import Derived.Shelf.Strings.Repeat
import Derived.Shelf.Unicode.DecodeSlow
import Derived.Ground.SlsfProg
import Derived.Shelf.SlSortCmp.Insertion
import Derived.Shelf.SlSortCmp.Insertion1
import Derived.Lib.Bytealg
import Derived.Sort.OwnSortedInts
import Derived.Sort.WalkA
import Derived.Deep.OwnRows
import Derived.Test.YtifconapjfdkcaaGreatDoorDAA
import Derived.Test.YtifconapjfdkcaaGreatDoorDAB
import Derived.Test.YtifconapjfdkcaaGreatDoorDAC
import Derived.Test.YtifconapjfdkcaaGreatDoorDAD
import Derived.Test.YtifconapjfdkcaaGreatDoorDAE
import Derived.Test.YtifconapjfdkcaaGreatDoorDAF
import Derived.Test.YtifconapjfdkcaaGreatDoorDAG
import Derived.Test.YtifconapjfdkcaaGreatDoorDAH
import Derived.Test.YtifconapjfdkcaaGreatDoorDAI
import Derived.Test.YtifconapjfdkcaaGreatDoorDAJ
import Derived.Test.YtifconapjfdkcaaGreatDoorDAK
import Derived.Test.YtifconapjfdkcaaGreatDoorDAL
import Derived.Test.YtifconapjfdkcaaGreatDoorDAM
import Derived.Test.YtifconapjfdkcaaGreatDoorDAN
import Derived.Test.YtifconapjfdkcaaGreatDoorDAO
import Derived.Test.YtifconapjfdkcaaGreatDoorDAP
import Derived.Test.YtifconapjfdkcaaGreatDoorDAQ
import Derived.Test.YtifconapjfdkcaaGreatDoorDAR
import Derived.Test.YtifconapjfdkcaaGreatDoorDAS
import Derived.Test.YtifconapjfdkcaaGreatDoorDAT
import Derived.Test.YtifconapjfdkcaaGreatDoorDAU
import Derived.Test.YtifconapjfdkcaaGreatDoorDAV
import Derived.Test.YtifconapjfdkcaaGreatDoorDAW
import Derived.Test.YtifconapjfdkcaaGreatDoorDAX
import Derived.Test.YtifconapjfdkcaaGreatDoorDAY
import Derived.Test.YtifconapjfdkcaaGreatDoorDAZ
import Derived.Test.YtifconapjfdkcaaGreatDoorDBA
import Derived.Test.YtifconapjfdkcaaGreatDoorDBB
import Derived.Test.YtifconapjfdkcaaGreatDoorDBC
import Derived.Test.YtifconapjfdkcaaGreatDoorDBD
import Derived.Test.YtifconapjfdkcaaGreatDoorDBE
import Derived.Test.YtifconapjfdkcaaGreatDoorDBF
import Derived.Test.YtifconapjfdkcaaGreatDoorDBG
import Derived.Test.YtifconapjfdkcaaGreatDoorDBH
import Derived.Test.YtifconapjfdkcaaGreatDoorDBI
import Derived.Test.YtifconapjfdkcaaGreatDoorDBJ
set_option linter.unusedSimpArgs false
set_option linter.unusedVariables false
set_option maxRecDepth 100000
set_option maxHeartbeats 12800000
namespace Go.Proofs.YtifconapjfdkcaaGreatDoor
section
open Go.RowKit
theorem hasI_hit{l:List GPerson}{i k:Nat}{s:Int}(hk:k<i)(hl:k<l.length)(h:(l.getD k noPerson).sen=s):hasI (sens (l.take i)) s=true:=by
 unfold hasI sens;rw[List.any_eq_true];refine⟨s, ?_,by simp⟩;rw[List.mem_map];refine⟨l.getD k noPerson, ?_,h⟩;rw[qF,qG hl];exact List.mem_take_iff_getElem.2 ⟨k,by omega,rfl⟩
theorem hasI_next{l:List GPerson}{k:Nat}{s:Int}(hl:k<l.length)(h0:hasI (sens (l.take k)) s=false)(h : ¬(l.getD k noPerson).sen=s):hasI (sens (l.take (k+1))) s=false:=by
 rw[take_getD hl noPerson];unfold sens;rw[List.map_append];show hasI (sens (l.take k)++[(l.getD k noPerson).sen]) s=false;rw[hasI_snoc,h0,decide_eq_false (fun e=>h e.symm)];rfl
theorem personR_any(t:GTT)(l:List GPerson)(i:Nat)(A1 A2 A3 A4:Option Addr)(n1 n2 n3 n4 c1 c2 c3 c4:Nat)(w:World)(hl : ∀ p∈l,p.ok)(hs2:Sl Ty.airport w (all_ w) A2 n2 c2 t.airports)(hs4:Sl Ty.person w (all_ w) A4 n4 c4 l)(hi:i<n4) :
 Calls Tryz.prog 73 #[.agg #[.slice A1 n1 c1,.slice A2 n2 c2,.slice A3 n3 c3],.slice A4 n4 c4,.int .i64 i] w (ErrPost (pErr (aCodes t.airports) l i) w):=by
 have l4:n4≤l.length:=Nat.le_of_eq hs4.len;have l4':l.length≤n4:=Nat.le_of_eq hs4.len.symm;have m4:=hs4.le;unfold maxLen at m4;obtain⟨b,o,B1,k1,d1,B2,k2,d2,rfl,hbS,hat,hsT,hsV⟩:=hs4.person_at (k:=i) (by omega);have hpok:=hl _ (getD_in (show i<l.length by omega) noPerson);have HERR:=qH (pErr_at (aCodes t.airports) l i);have hbl:b<w.heap.size:=hbS;have hbne:b≠w.heap.size:=by omega
 have hprev : ∀ k,k<n4 → ∀ j u,([.int .i64 (l.getD k noPerson).id,.string (l.getD k noPerson).name,.string (l.getD k noPerson).base,.int .i64 (l.getD k noPerson).rank,.int .i64 (l.getD k noPerson).sen]:List Value)[j]? = some u→w.cell? ⟨b,o+k*7+j,none⟩=some u:=fun k hk j u hu=>by
  obtain⟨b',o',_,_,_,_,_,_,e',_,hat',_,_⟩:=hs4.person_at (k:=k) (by omega);simp only[Option.some.injEq,Addr.mk.injEq,and_true]at e';obtain⟨rfl,rfl⟩:=e';refine hat' j u ?_;rcases j with _|_|_|_|_|j
  all_goals first|exact hu|(simp at hu)
 generalize hz:l.getD i noPerson=p at*;have y0:w.cell? ⟨b,o+i*7,none⟩=some (.int .i64 p.id):=hat 0 _ rfl;have y1:=hat 1 _ rfl;have y2:=hat 2 _ rfl;have y3:=hat 3 _ rfl;have y4:=hat 4 _ rfl;have y5:=hat 5 _ rfl;have y6:=hat 6 _ rfl;have hW1:((w.alloc (.cells #[.slice A1 n1 c1,.slice A2 n2 c2,.slice A3 n3 c3] 27)).alloc (.cells #[.int .i64 p.id,.string p.name,.string p.base,.int .i64 p.rank,.int .i64 p.sen,.slice B1 k1 d1,.slice B2 k2 d2] 75)).heap[w.heap.size]? = some (.cells #[.slice A1 n1 c1,.slice A2 n2 c2,.slice A3 n3 c3] 27):=heap_alloc2_old _ _ _;have hW2:((w.alloc (.cells #[.slice A1 n1 c1,.slice A2 n2 c2,.slice A3 n3 c3] 27)).alloc (.cells #[.int .i64 p.id,.string p.name,.string p.base,.int .i64 p.rank,.int .i64 p.sen,.slice B1 k1 d1,.slice B2 k2 d2] 75)).heap[w.heap.size+1]? = some (.cells #[.int .i64 p.id,.string p.name,.string p.base,.int .i64 p.rank,.int .i64 p.sen,.slice B1 k1 d1,.slice B2 k2 d2] 75):=heap_alloc2_new _ _ _;have hWb:Below w.heap.size w ((w.alloc (.cells #[.slice A1 n1 c1,.slice A2 n2 c2,.slice A3 n3 c3] 27)).alloc (.cells #[.int .i64 p.id,.string p.name,.string p.base,.int .i64 p.rank,.int .i64 p.sen,.slice B1 k1 d1,.slice B2 k2 d2] 75)):=((qC _ _).alloc (qD _) _).alloc (by simp) _;have hWs:((w.alloc (.cells #[.slice A1 n1 c1,.slice A2 n2 c2,.slice A3 n3 c3] 27)).alloc (.cells #[.int .i64 p.id,.string p.name,.string p.base,.int .i64 p.rank,.int .i64 p.sen,.slice B1 k1 d1,.slice B2 k2 d2] 75)).heap.size=w.heap.size+2:=by simp
 have HW1:=qH hW1;have HW2:=qH hW2;have HWB:=qH hWb;have HWS:=qH hWs;have HP:=qH hprev;have HPOK:=qH hpok;have HS2:=qH hs2;have HT:=qH hsT;have HV:=qH hsV;have HZ:=qH hz;clear hl hs2 hs4 hat hsT hsV hpok hprev hbS hz hW1 hW2 hWb hWs
 go_enter Tryz.func73,Tryz.ntmps73
 go_upto_region 2 with (fail)
 clear y0 y1 y2 y3 y4 y5 y6 hbne;generalize ((w.alloc (.cells #[.slice A1 n1 c1,.slice A2 n2 c2,.slice A3 n3 c3] 27)).alloc (.cells #[.int .i64 p.id,.string p.name,.string p.base,.int .i64 p.rank,.int .i64 p.sen,.slice B1 k1 d1,.slice B2 k2 d2] 75))=W at*;have HK:Hid (∀ V,Below (w.heap.size+2) W V→(∀ j u,(#[.int .i64 p.id,.string p.name,.string p.base,.int .i64 p.rank,.int .i64 p.sen,.slice B1 k1 d1,.slice B2 k2 d2]:Array Value)[j]? = some u→V.cell? ⟨w.heap.size+1,j,none⟩=some u)∧V.cell? ⟨w.heap.size,1,none⟩=some (.slice A2 n2 c2)∧Below w.heap.size w V∧w.heap.size+2≤V.heap.size):=fun V hV=>by
  have h0:=HWS.out;have hs:=hV.size;refine⟨fun j u hu =>?_, ?_,HWB.out.trans (hV.mono (by omega)),by omega⟩
  ·rw[hV.cell (by simp),block_cell HW2.out];exact hu
  ·rw[hV.cell (by simp),block_cell HW1.out];rfl
 have hW0:Below (w.heap.size+2) W W:=qC _ _;have z0:W.cell? ⟨w.heap.size+1,0,none⟩=some (.int .i64 p.id):=(HK.out W hW0).1 0 _ rfl;have hbW:=(HK.out W hW0).2.2.1;clear HW1 HW2 HWB
 by_cases ha:idOk p.id=true
 case neg =>
  have ha':idOk p.id=false:=by simpa using ha
  have HF:Hid (pErr (aCodes t.airports) l i=5):=by show _=_;rw[HERR.out,qR ha']
  have h3:=idOk_false ha';clear ha ha';rcases h3 with h|⟨h,h'⟩
  all_goals
   go_wp2_with fail
   go_ret
   exact⟨by rw[HF.out];rfl,hbW⟩
 obtain⟨ha1,ha2⟩:=idOk_true ha;go_upto_region 4 with (fail)
 generalize hpid:(l.getD (i-1) noPerson).id=pid at*;generalize hB:decide (0<i∧p.id≤pid)=B at*;have HB:=qH hB;have hp0:0<i→W.cell? ⟨b,o+(i-1)*7,none⟩=some (.int .i64 pid):=fun h0=>by
  rw[hbW.cell (by simp;omega)];have:=HP.out (i-1) (by omega) 0 _ rfl;rw[hpid]at this;exact this
 clear hB hpid;go_cut [36] (fun c wx=>c=.bool B∧Below (w.heap.size+2) W wx)
 case first =>
  rcases Nat.eq_zero_or_pos i with rfl|h0
  ·have e:B=false:=by rw[←HB.out];simp
   subst e;clear hp0;go_quiet (fail)
   go_wp2_with fail
   go_meet
   exact⟨rfl,below_drewN hW0 _⟩
  ·have hq:=hp0 h0;clear hp0;have wr1:IntKind.i64.wrap ((i:Int)-1)=(i:Int)-1:=qM _ (by omega);have wr2:0≤(i:Int)-1:=by omega
   have wr3:(i:Int)-1<(n4:Int):=by omega
   have wr4:((i:Int)-1).toNat=i-1:=by omega
   by_cases hle:p.id≤pid
   ·have e:B=true:=by rw[←HB.out];simp[h0,hle]
    subst e;go_quiet (fail)
    go_wp2_with fail
    go_meet
    exact⟨rfl,below_drewN hW0 _⟩
   ·have e:B=false:=by rw[←HB.out];simp[hle]
    subst e;go_quiet (fail)
    go_wp2_with fail
    go_meet
    exact⟨rfl,below_drewN hW0 _⟩
 case rest =>
  obtain⟨rfl,hWX⟩:=hcut;clear hp0;obtain⟨hcX,x1,hbX,hszX⟩:=HK.out wc hWX
  cases B with
  | true =>
   have ho:=of_decide_eq_true HB.out;have HF:Hid (pErr (aCodes t.airports) l i=8):=by show _=_;rw[HERR.out,qN (by rw[ha];decide),qR ho]
   clear hcX ho;go_wp2_with fail
   go_ret
   exact⟨by rw[HF.out];rfl,hbX⟩
  | false =>
   have HO:Hid (¬(0<i∧p.id≤pid)):=of_decide_eq_false HB.out;clear hW0 z0 hbW ha1 ha2;have z1:=hcX 1 _ rfl;have z2:=hcX 2 _ rfl;have z3:=hcX 3 _ rfl;have z4:=hcX 4 _ rfl;have z5:=hcX 5 _ rfl;have z6:=hcX 6 _ rfl;clear hcX;go_wp2_with fail
   refine(isNameR_any p.name _ HPOK.out.2.1).mono ?_;rintro e w' ⟨rfl,rfl⟩
   by_cases hn:isNameB p.name=true
   case neg =>
    have hn':isNameB p.name=false:=by simpa using hn
    have HF:Hid (pErr (aCodes t.airports) l i=1):=by show _=_;rw[HERR.out,qN (by rw[ha];decide),qN HO.out,qR hn']
    rw[hn'];clear hn;go_wp2_with fail
    go_ret
    exact⟨by rw[HF.out];rfl,hbX⟩
   rw[hn];go_wp2_with fail
   refine(airportIndex_any t.airports p.base _ _ _ _ _ (HS2.out.keep (all_keep hbX))).mono ?_;rintro e w' ⟨rfl,rfl⟩
   by_cases hbs:hasB (aCodes t.airports) p.base=true
   case neg =>
    have hbs':hasB (aCodes t.airports) p.base=false:=by simpa using hbs
    have HF:Hid (pErr (aCodes t.airports) l i=6):=by show _=_;rw[HERR.out,qN (by rw[ha];decide),qN HO.out,qN (by rw[hn];decide),qR hbs']
    rw[idxOf_none hbs'];clear hbs hbs';go_wp2_with fail
    go_ret
    exact⟨by rw[HF.out];rfl,hbX⟩
   have hge3:0≤idxOf (aCodes t.airports) p.base:=by
    have:=idxOf_neg (aCodes t.airports) p.base;rw[hbs]at this;simpa using this
   generalize idxOf (aCodes t.airports) p.base=ix at*
   by_cases hrk:rankOk p.rank=false∨idOk p.sen=false
   case pos =>
    have HF:Hid (pErr (aCodes t.airports) l i=5):=by show _=_;rw[HERR.out,qN (by rw[ha];decide),qN HO.out,qN (by rw[hn];decide),qN (by rw[hbs];decide),qR hrk]
    have h3:=rs_false hrk;clear hrk hbs;rcases h3 with h|⟨h,h1⟩|⟨h,h1,h2⟩|⟨h,h1,h2,h3⟩
    all_goals
     go_wp2_with fail
     go_ret
     exact⟨by rw[HF.out];rfl,hbX⟩
   obtain⟨q1,q2,q3,q4⟩:=rs_true hrk;have HRK:=qH hrk;clear hrk;go_wp2_with fail
   clear q1 q2 q3 q4 hge3 z1 z2 z3 z5 z6 z4 x1;have hk0:Hid (Below (w.heap.size+2) W wc):=hWX;clear hWX hszX;go_loopw [6,8] (fun _ r wr => ∃ k:Nat,k≤i∧r=.int .i64 k∧Below (w.heap.size+2) W wr∧Hid (hasI (sens (l.take k)) p.sen=false)) (fun _ r _=>i-(intOf r).toNat)
   case atStart=>exact⟨0,qV _,rfl,hk0.out,rfl⟩
   case round =>
    obtain⟨k,hk,rfl,hbr,HS⟩:=hrel;clear hk0 hbX;obtain⟨hcR,x1,hbR,hszR⟩:=HK.out wr hbr
    by_cases hlt:k<i
    ·have y4:wr.cell? ⟨b,o+k*7+4,none⟩=some (.int .i64 (l.getD k noPerson).sen):=by
      rw[hbR.cell (by simp;omega)];exact HP.out k (by omega) 4 _ rfl
     have z4:=hcR 4 _ rfl;have HD:=qH (show ∀ m,Below (w.heap.size+2) W (wr.drewN m) from fun m=>below_drewN hbr m);have HD2:=qH (show ∀ m,Below w.heap.size w (wr.drewN m) from fun m=>below_drewN hbR m);have HH:Hid ((l.getD k noPerson).sen=p.sen→hasI (sens (l.take i)) p.sen=true):=fun h=>hasI_hit hlt (by omega) h
     have HN:Hid (¬(l.getD k noPerson).sen=p.sen→hasI (sens (l.take (k+1))) p.sen=false):=fun h=>hasI_next (by omega) HS.out h
     generalize (l.getD k noPerson).sen=ks at*;have t1:(0:Int)≤(k:Int):=by omega
     have t2:(k:Int)<(n4:Int):=by omega
     clear hcR x1 hbr hbR;go_wp2_with fail
     go_quiet (fail)
     by_cases hq:ks=p.sen
     ·have hqb:(ks==p.sen)=true:=by simpa using hq
      have HF:Hid (pErr (aCodes t.airports) l i=7):=by show _=_;rw[HERR.out,qN (by rw[ha];decide),qN HO.out,qN (by rw[hn];decide),qN (by rw[hbs];decide),qN HRK.out,qR (HH.out hq)]
      clear hq;go_wp2_with fail
      go_ret
      exact⟨by rw[HF.out];rfl,HD2.out _⟩
     ·have hqb:(ks==p.sen)=false:=by simpa using hq
      have HS2:=qH (HN.out hq);clear hq;go_wp2_with fail
      go_roundw
      case rel=>exact⟨k+1,by omega,by go_num,HD.out _,HS2⟩
      case measure=>simp[intOf];omega
    ·have hki:k=i:=by omega
     subst hki;have hdup:hasI (sens (l.take k)) p.sen=false:=HS.out;have z5:=hcR 5 _ rfl;have z6:=hcR 6 _ rfl;have lt1:k1≤p.types.length:=Nat.le_of_eq HT.out.len;have lt1':p.types.length≤k1:=Nat.le_of_eq HT.out.len.symm;have lt2:k2≤p.vacs.length:=Nat.le_of_eq HV.out.len;have lt2':p.vacs.length≤k2:=Nat.le_of_eq HV.out.len.symm;clear hcR x1 hlt hk
     by_cases hlg:8<p.types.length∨8<p.vacs.length
     case pos =>
      have HF:Hid (pErr (aCodes t.airports) l k=10):=by show _=_;rw[HERR.out,qN (by rw[ha];decide),qN HO.out,qN (by rw[hn];decide),qN (by rw[hbs];decide),qN HRK.out,qN (by rw[hdup];decide),qR hlg]
      have h3:8<k1∨(k1≤8∧8<k2):=by omega
      clear hlg lt1 lt1' lt2 lt2' hdup;rcases h3 with h|⟨h,h'⟩
      all_goals
       go_wp2_with fail
       go_ret
       exact⟨by rw[HF.out];rfl,hbR⟩
     have h81:k1≤8:=by omega
     have h82:k2≤8:=by omega
     have HPE:Hid (pErr (aCodes t.airports) l k=if firstErr (typeErr p.types) p.types.length≠0 then firstErr (typeErr p.types) p.types.length else firstErr (vacErr p.vacs) p.vacs.length):=by
      show _=_;rw[HERR.out,qN (by rw[ha];decide),qN HO.out,qN (by rw[hn];decide),qN (by rw[hbs];decide),qN HRK.out,qN (by rw[hdup];decide),qN hlg];rfl
     clear hlg hdup hbs hn ha;go_wp2_with fail
     have hk1:Hid (Below (w.heap.size+2) W wr):=hbr;clear hbr hbR z5 z6 hszR HERR HP HO HRK HB HS;generalize hwo:wr=wo at*;clear hwo;go_loopw [6,9] (fun _ r wr => ∃ q:Nat,q≤k1∧r=.int .i64 q∧Below (w.heap.size+2) W wr∧Hid (zeroTo (typeErr p.types) q)) (fun _ r _=>k1-(intOf r).toNat)
     case atStart=>exact⟨0,qV _,rfl,hk1.out,zeroTo_zero _⟩
     case round =>
      obtain⟨q,hq,rfl,hbr,HZ⟩:=hrel;clear hk1;obtain⟨hcR,x1,hbR,hszR⟩:=HK.out wr hbr;have z5:=hcR 5 _ rfl
      by_cases hlt:q<k1
      ·have hTR:=HT.out.keep (w':=wr) (all_keep hbR);obtain⟨bt,ot,rfl,hbS,hc⟩:=hTR.name_at (k:=q) (by omega);have hsz:=HPOK.out.2.2.2.2.2.1 _ (getD_in (show q<p.types.length by omega) noStr);have HTE:Hid (typeErr p.types q=if isNameB (p.types.getD q noStr)=false then 1 else if 0<q∧leB (p.types.getD q noStr) (p.types.getD (q-1) noStr)=true then 8 else 0):=rfl;have hpv:0<q→wr.cell? ⟨bt,ot+(q-1),none⟩=some (.string (p.types.getD (q-1) noStr)):=fun h0=>by
        obtain⟨b',o',e',_,hc'⟩:=hTR.name_at (k:=q-1) (by omega);simp only[Option.some.injEq,Addr.mk.injEq,and_true]at e';obtain⟨rfl,rfl⟩:=e';exact hc'
       generalize p.types.getD q noStr=s at*;generalize p.types.getD (q-1) noStr=sp at*;have HSZ:=qH hsz;have HD:=qH (show ∀ m,Below (w.heap.size+2) W (wr.drewN m) from fun m=>below_drewN hbr m);have HD2:=qH (show ∀ m,Below w.heap.size w (wr.drewN m) from fun m=>below_drewN hbR m);have HBR:=qH hbR;clear hTR hsz hcR x1 hbr hbR;go_wp2_with fail
       refine(isNameR_any s _ HSZ.out).mono ?_;rintro e w' ⟨rfl,rfl⟩
       by_cases hn:isNameB s=true
       case neg =>
        have hn':isNameB s=false:=by simpa using hn
        have HF:Hid (pErr (aCodes t.airports) l k=1):=by
         have h9:typeErr p.types q=1:=by rw[HTE.out,qR hn']
         have h8:firstErr (typeErr p.types) p.types.length=1:=by rw[firstErr_hit HZ.out (by rw[h9];decide) (by omega),h9]
         show _=_;rw[HPE.out,h8,qR (by decide)]
        rw[hn'];clear hn hn' hpv;go_wp2_with fail
        go_ret
        exact⟨by rw[HF.out];rfl,HBR.out⟩
       rw[hn];rcases Nat.eq_zero_or_pos q with rfl|hq0
       ·have HZ2:Hid (zeroTo (typeErr p.types) (0+1)):=zeroTo_succ HZ.out (by rw[HTE.out,qN (by rw[hn];decide),qN (fun h=>absurd h.1 (by omega))]);clear hpv hn;simp only[Nat.add_zero]at hc;go_wp2_with fail
        go_quiet (fail)
        go_wp2_with fail
        go_roundw
        case rel=>exact⟨0+1,by omega,rfl,HD.out _,HZ2⟩
        case measure=>simp[intOf];omega
       ·have hq':=hpv hq0;clear hpv;have wr1:IntKind.i64.wrap ((q:Int)-1)=(q:Int)-1:=qM _ (by omega);have wr2:0≤(q:Int)-1:=by omega
        have wr3:(q:Int)-1<(k1:Int):=by omega
        have wr4:((q:Int)-1).toNat=q-1:=by omega
        by_cases hle:leB s sp=true
        ·have HF:Hid (pErr (aCodes t.airports) l k=8):=by
          have h9:typeErr p.types q=8:=by rw[HTE.out,qN (by rw[hn];decide),qR ⟨hq0,hle⟩]
          have h8:firstErr (typeErr p.types) p.types.length=8:=by rw[firstErr_hit HZ.out (by rw[h9];decide) (by omega),h9]
          show _=_;rw[HPE.out,h8,qR (by decide)]
         rcases leB_true hle with h1|⟨h1,h2⟩
         all_goals
          clear hle hn;go_wp2_with fail
          go_quiet (fail)
          go_wp2_with fail
          go_ret
          exact⟨by rw[HF.out];rfl,HD2.out _⟩
        ·have hle':leB s sp=false:=by simpa using hle
         have HZ2:Hid (zeroTo (typeErr p.types) (q+1)):=zeroTo_succ HZ.out (by rw[HTE.out,qN (by rw[hn];decide),qN (fun h=>hle h.2)]);obtain⟨h1,h2⟩:=leB_false hle';clear hle hle' hn;go_wp2_with fail
         go_quiet (fail)
         go_wp2_with fail
         go_roundw
         case rel=>exact⟨q+1,by omega,by go_num,HD.out _,HZ2⟩
         case measure=>simp[intOf];omega
      ·have HT0:Hid (firstErr (typeErr p.types) p.types.length=0):=firstErr_none (by rw[show p.types.length=q by omega];exact HZ.out);clear HZ hcR x1;go_wp2_with fail
       have hk1:Hid (Below (w.heap.size+2) W wr):=hbr;clear hbr hbR z5 hszR hlt;generalize hwo:wr=wo2 at*;clear hwo;go_loopw [6,10,11] (fun _ r _ wr => ∃ q:Nat,q≤k2∧r=.int .i64 q∧Below (w.heap.size+2) W wr∧Hid (zeroTo (vacErr p.vacs) q)) (fun _ r _ _=>k2-(intOf r).toNat)
       case atStart=>exact⟨0,qV _,rfl,hk1.out,zeroTo_zero _⟩
       case round =>
        obtain⟨r,hr,rfl,hbr,HZ⟩:=hrel;clear hk1;obtain⟨hcR,x1,hbR,hszR⟩:=HK.out wr hbr;have z6:=hcR 6 _ rfl
        by_cases hlt:r<k2
        ·have hVR:=HV.out.keep (w':=wr) (all_keep hbR);obtain⟨bt,ot,rfl,hbS,hc0,hc1⟩:=hVR.shift_at (k:=r) (by omega);have hbl2:bt<wr.heap.size:=by unfold all_ at hbS;omega
         have hwl:w.heap.size+1<wr.heap.size:=by omega
         have hbne:bt≠wr.heap.size:=by omega
         have HVE:Hid (vacErr p.vacs r=if vacOk (p.vacs.getD r noShift)=false then 5 else if 0<r∧(p.vacs.getD r noShift).at_<(p.vacs.getD (r-1) noShift).off then 8 else 0):=rfl;have hpv:0<r→wr.cell? ⟨bt,ot+(r-1)*2+1,none⟩=some (.int .i64 (p.vacs.getD (r-1) noShift).off):=fun h0=>by
          obtain⟨b',o',e',_,_,hc'⟩:=hVR.shift_at (k:=r-1) (by omega);simp only[Option.some.injEq,Addr.mk.injEq,and_true]at e';obtain⟨rfl,rfl⟩:=e';exact hc'
         generalize p.vacs.getD r noShift=s at*;generalize p.vacs.getD (r-1) noShift=sp at*;have hbox0:(wr.alloc (.cells #[.int .i64 s.at_,.int .i64 s.off] 57)).cell? ⟨wr.heap.size,0,none⟩=some (.int .i64 s.at_):=by rw[World.cell?_alloc_at _ _ _ _ rfl];rfl
         have hbox1:(wr.alloc (.cells #[.int .i64 s.at_,.int .i64 s.off] 57)).cell? ⟨wr.heap.size,1,none⟩=some (.int .i64 s.off):=by rw[World.cell?_alloc_at _ _ _ _ rfl];rfl
         have HBA:Hid (∀ m,Below w.heap.size w ((wr.alloc (.cells #[.int .i64 s.at_,.int .i64 s.off] 57)).drewN m)):=fun m=>below_drewN (hbR.alloc (by omega) _) m
         have HBB:Hid (∀ m,Below (w.heap.size+2) W ((wr.alloc (.cells #[.int .i64 s.at_,.int .i64 s.off] 57)).drewN m)):=fun m=>below_drewN (hbr.alloc (by omega) _) m
         clear hVR hcR x1 hbr hbR
         by_cases hv:vacOk s=true
         case neg =>
          have hv':vacOk s=false:=by simpa using hv
          have HF:Hid (pErr (aCodes t.airports) l k=5):=by
           have h9:vacErr p.vacs r=5:=by rw[HVE.out,qR hv']
           have h8:firstErr (vacErr p.vacs) p.vacs.length=5:=by rw[firstErr_hit HZ.out (by rw[h9];decide) (by omega),h9]
           show _=_;rw[HPE.out,HT0.out,h8];rfl
          have h3:s.at_<0∨(¬s.at_<0∧s.off≤s.at_)∨(¬s.at_<0 ∧ ¬s.off≤s.at_∧52596000<s.off):=by
           unfold vacOk at hv';simp only[Bool.and_eq_false_iff,qU]at hv';omega
          clear hv hv' hpv;rcases h3 with h|⟨h,h'⟩|⟨h,h',h''⟩
          all_goals
           go_wp2_with fail
           go_ret
           exact⟨by rw[HF.out];rfl,HBA.out 0⟩
         have hv1:0≤s.at_∧s.at_<s.off∧s.off≤52596000:=by
          have hv2:=hv;unfold vacOk at hv2;simp only[qI,qL]at hv2;omega
         obtain⟨hv1,hv2,hv3⟩:=hv1;rcases Nat.eq_zero_or_pos r with rfl|hr0
         ·have HZ2:Hid (zeroTo (vacErr p.vacs) (0+1)):=zeroTo_succ HZ.out (by rw[HVE.out,qN (by rw[hv];decide),qN (fun h=>absurd h.1 (by omega))]);clear hpv hv;simp only[Nat.zero_mul,Nat.add_zero]at hc0 hc1;go_wp2_with fail
          go_quiet (fail)
          go_wp2_with fail
          go_roundw
          case rel=>exact⟨0+1,by omega,rfl,HBB.out _,HZ2⟩
          case measure=>simp[intOf];omega
         ·have hq':=hpv hr0;clear hpv;have wr1:IntKind.i64.wrap ((r:Int)-1)=(r:Int)-1:=qM _ (by omega);have wr2:0≤(r:Int)-1:=by omega
          have wr3:(r:Int)-1<(k2:Int):=by omega
          have wr4:((r:Int)-1).toNat=r-1:=by omega
          go_wp2_with fail
          go_quiet (fail)
          clear wr1 wr2 wr3 wr4
          by_cases hle:s.at_<sp.off
          ·have HF:Hid (pErr (aCodes t.airports) l k=8):=by
            have h9:vacErr p.vacs r=8:=by rw[HVE.out,qN (by rw[hv];decide),qR ⟨hr0,hle⟩]
            have h8:firstErr (vacErr p.vacs) p.vacs.length=8:=by rw[firstErr_hit HZ.out (by rw[h9];decide) (by omega),h9]
            show _=_;rw[HPE.out,HT0.out,h8];rfl
           go_wp2_with fail
           go_ret
           exact⟨by rw[HF.out];rfl,HBA.out _⟩
          ·have HZ2:Hid (zeroTo (vacErr p.vacs) (r+1)):=zeroTo_succ HZ.out (by rw[HVE.out,qN (by rw[hv];decide),qN (fun h=>hle h.2)]);go_wp2_with fail
           go_roundw
           case rel=>exact⟨r+1,by omega,by go_num,HBB.out _,HZ2⟩
           case measure=>simp[intOf];omega
        ·have HF:Hid (pErr (aCodes t.airports) l k=0):=by
          have h8:firstErr (vacErr p.vacs) p.vacs.length=0:=firstErr_none (by rw[show p.vacs.length=r by omega];exact HZ.out);show _=_;rw[HPE.out,HT0.out,h8];rfl
         clear hcR x1;go_wp2_with fail
         go_ret
         exact⟨by rw[HF.out];rfl,hbR⟩
end
section
open Go.RowKit
theorem validateCrewR_any(t:GTT)(l:List GPerson)(A1 A2 A3 A4:Option Addr)(n1 n2 n3 n4 c1 c2 c3 c4:Nat)(w:World)(ht:t.ok)(hl : ∀ p∈l,p.ok)(hs1:Sl Ty.zone w (all_ w) A1 n1 c1 t.zones)(hs2:Sl Ty.airport w (all_ w) A2 n2 c2 t.airports)(hs3:Sl Ty.flight w (all_ w) A3 n3 c3 t.flights)(hs4:Sl Ty.person w (all_ w) A4 n4 c4 l) :
 Calls Tryz.prog 40 #[.agg #[.slice A1 n1 c1,.slice A2 n2 c2,.slice A3 n3 c3],.slice A4 n4 c4] w (ErrPost (crewE t l) w):=by
 have l4:n4≤l.length:=Nat.le_of_eq hs4.len;have l4':l.length≤n4:=Nat.le_of_eq hs4.len.symm;have m4:=hs4.le;unfold maxLen at m4;have HS:Hid (∀ V,Below w.heap.size w V→Sl Ty.zone V (all_ V) A1 n1 c1 t.zones∧Sl Ty.airport V (all_ V) A2 n2 c2 t.airports∧Sl Ty.flight V (all_ V) A3 n3 c3 t.flights∧Sl Ty.person V (all_ V) A4 n4 c4 l):=fun V hV=>⟨hs1.next hV,hs2.next hV,hs3.next hV,hs4.next hV⟩
 have ha:=(qC w.heap.size w).alloc (qD _) (.cells #[.slice A1 n1 c1,.slice A2 n2 c2,.slice A3 n3 c3] 27);have hx0:=qK w (.cells #[.slice A1 n1 c1,.slice A2 n2 c2,.slice A3 n3 c3] 27);have hz0:(w.alloc (.cells #[.slice A1 n1 c1,.slice A2 n2 c2,.slice A3 n3 c3] 27)).heap.size=w.heap.size+1:=by simp
 have HA:=qH ha;have HX0:=qH hx0;have HZ0:=qH hz0;have HTO:=qH ht;have HLO:=qH hl;have HR:Hid (crewE t l=if ttE t≠0 then ttE t else if 64<l.length then 10 else firstErr (pErr (aCodes t.airports) l) l.length):=rfl;clear hs1 hs2 hs3 hs4 ha hx0 hz0 ht hl
 go_enter Tryz.func40,Tryz.ntmps40
 go_wp2_with fail
 generalize w.alloc (.cells #[.slice A1 n1 c1,.slice A2 n2 c2,.slice A3 n3 c3] 27)=W at*;refine(validateR_any t A1 A2 A3 n1 n2 n3 c1 c2 c3 W HTO.out (HS.out W HA.out).1 (HS.out W HA.out).2.1 (HS.out W HA.out).2.2.1).mono ?_;rintro e w1 ⟨rfl,hb1⟩;have hbw1:Below w.heap.size w w1:=HA.out.trans (hb1.mono HA.out.size)
 by_cases h0:ttE t=0
 case neg =>
  have hne:(ttE t != 0)=true:=by simpa using h0
  have HF:Hid (crewE t l=ttE t):=by show _=_;rw[HR.out,qR h0]
  clear h0;go_wp2_with fail
  go_ret
  exact⟨by rw[HF.out];rfl,hbw1⟩
 rw[h0]
 by_cases hbig:64<n4
 ·have HF:Hid (crewE t l=10):=by show _=_;rw[HR.out,qN (fun h=>h h0),qR (by omega)]
  go_wp2_with fail
  go_ret
  exact⟨by rw[HF.out];rfl,hbw1⟩
 have HRR:Hid (crewE t l=firstErr (pErr (aCodes t.airports) l) l.length):=by show _=_;rw[HR.out,qN (fun h=>h h0),qN (by omega)]
 have b4:n4≤64:=by omega
 have HX1:Hid (w1.heap[w.heap.size]? = some (.cells #[.slice A1 n1 c1,.slice A2 n2 c2,.slice A3 n3 c3] 27)):=(hb1.block _ (by have:=HZ0.out;omega)).trans HX0.out;have hz1:w.heap.size+1≤w1.heap.size:=by have:=hb1.size;have:=HZ0.out;omega
 have HB1:=qH hbw1;clear hb1 HX0 HZ0 HA h0 hbig HR hbw1;go_wp2_with fail
 go_loopw [4,6,7] (fun _ i _ wr => ∃ k:Nat,k≤n4∧i=.int .i64 k∧Below (w.heap.size+1) w1 wr∧Hid (zeroTo (pErr (aCodes t.airports) l) k)) (fun _ i _ _=>n4-(intOf i).toNat)
 case atStart=>exact⟨0,qV _,rfl,qC _ _,zeroTo_zero _⟩
 case round =>
  obtain⟨k,hk,rfl,hbr,HK⟩:=hrel;have hbw:Below w.heap.size w wr:=HB1.out.trans (hbr.mono (by omega));have hX:=(hbr.block w.heap.size (by omega)).trans HX1.out;have x0:wr.cell? ⟨w.heap.size,0,none⟩=some (.slice A1 n1 c1):=block_cell hX 0;have x1:wr.cell? ⟨w.heap.size,1,none⟩=some (.slice A2 n2 c2):=block_cell hX 1;have x2:wr.cell? ⟨w.heap.size,2,none⟩=some (.slice A3 n3 c3):=block_cell hX 2;have hwl:=hbr.size
  by_cases hlt:k<n4
  ·have HP:=qH (personR_any t l k A1 A2 A3 A4 n1 n2 n3 n4 c1 c2 c3 c4 wr HLO.out (HS.out wr hbw).2.1 (HS.out wr hbw).2.2.2 hlt);clear hX;go_wp2_with fail
   refine HP.out.mono ?_;rintro e w2 ⟨rfl,hb2⟩;have hb3:Below (w.heap.size+1) w1 w2:=hbr.trans (hb2.mono (by omega));have hb4:Below w.heap.size w w2:=hbw.trans (hb2.mono (by omega));clear x0 x1 x2 HP hb2
   by_cases he:pErr (aCodes t.airports) l k=0
   ·have HZ:Hid (zeroTo (pErr (aCodes t.airports) l) (k+1)):=zeroTo_succ HK.out he;rw[he];clear he;go_wp2_with fail
    go_roundw
    case rel=>exact⟨k+1,by omega,by go_num,hb3,HZ⟩
    case measure=>simp[intOf];omega
   ·have hne:(pErr (aCodes t.airports) l k != 0)=true:=by simpa using he
    have HF:Hid (crewE t l=pErr (aCodes t.airports) l k):=by
     show _=_;rw[HRR.out,firstErr_hit HK.out he (by omega)]
    clear he;go_wp2_with fail
    go_ret
    exact⟨by rw[HF.out];rfl,hb4⟩
  ·have HF:Hid (crewE t l=0):=by
    have h8:firstErr (pErr (aCodes t.airports) l) l.length=0:=firstErr_none (by rw[show l.length=k by omega];exact HK.out);show _=_;rw[HRR.out,h8]
   clear hX x0 x1 x2;go_wp2_with fail
   go_ret
   exact⟨by rw[HF.out];rfl,hbw⟩
end
section
open Go.RowKit
theorem span40_any(s1 s2:Int)(w:World):Calls Tryz.prog 43 #[.agg #[.int .i64 s1,.int .i64 s2]] w (BoolPost (vacOk ⟨s1,s2⟩) w):=by
 have HB:Hid (∀ o,Below w.heap.size w (w.alloc o)):=fun o=>(qC _ _).alloc (qD _) o
 have HV:Hid (vacOk ⟨s1,s2⟩=(decide (0≤s1)&&decide (s1<s2)&&decide (s2≤52596000))):=rfl
 by_cases h1:0≤s1
 ·by_cases h2:s1<s2
  ·by_cases h3:s2≤52596000
   ·have HE:Hid (vacOk ⟨s1,s2⟩=true):=by show _=_;rw[HV.out];simp[h1,h2,h3]
    go_enter Tryz.func43,Tryz.ntmps43
    go_wp2_with fail
    go_ret
    exact⟨ret_bool HE.out.symm,HB.out _⟩
   ·have HE:Hid (vacOk ⟨s1,s2⟩=false):=by show _=_;rw[HV.out];simp[h3]
    go_enter Tryz.func43,Tryz.ntmps43
    go_wp2_with fail
    go_ret
    exact⟨ret_bool HE.out.symm,HB.out _⟩
  ·have HE:Hid (vacOk ⟨s1,s2⟩=false):=by show _=_;rw[HV.out];simp[h2]
   go_enter Tryz.func43,Tryz.ntmps43
   go_wp2_with fail
   go_ret
   exact⟨ret_bool HE.out.symm,HB.out _⟩
 ·have HE:Hid (vacOk ⟨s1,s2⟩=false):=by show _=_;rw[HV.out];simp[h1]
  go_enter Tryz.func43,Tryz.ntmps43
  go_wp2_with fail
  go_ret
  exact⟨ret_bool HE.out.symm,HB.out _⟩
def PixPost(l:List GPerson)(id:Int)(w:World)(e:Ending)(w':World):Prop := ∃ x:Int,e=.returned (.int .i64 x)∧(hasI (pIds l) id=true→0≤x)∧(hasI (pIds l) id=false→x = -1)∧w'=w
theorem personIndex_any(l:List GPerson)(A:Option Addr)(n c:Nat)(id:Int)(S:Nat→Prop)(w:World)(hs:Sl Ty.person w S A n c l) :
 Calls Tryz.prog 42 #[.slice A n c,.int .i64 id] w (PixPost l id w):=by
 have hn1:n≤l.length:=Nat.le_of_eq hs.len;have hn2:l.length≤n:=Nat.le_of_eq hs.len.symm;have hle:=hs.le;unfold maxLen at hle;have HS:=qH hs;clear hs
 go_enter Tryz.func42,Tryz.ntmps42
 go_wp2_with fail
 go_loopw [5] (fun s wr => ∃ k:Nat,k≤n∧s=.int .i64 k∧wr=w∧Hid (∀ j,j<k→(l.getD j noPerson).id≠id)) (fun s _=>n-(intOf s).toNat)
 case atStart=>exact⟨0,qV _,rfl,rfl,fun j hj=>absurd hj (by omega)⟩
 case round =>
  obtain⟨k,hk,rfl,rfl,HK⟩:=hrel
  by_cases hlt:k<n
  ·have hks:k<l.length:=by omega
   obtain⟨b,o,A1,n1,c1,A2,n2,c2,rfl,hbS,hat, -, -⟩:=HS.out.person_at hks;have z0:=hat 0 _ rfl;rw[Nat.add_zero]at z0;have HH:Hid ((l.getD k noPerson).id=id→hasI (pIds l) id=true):=fun e=>(hasI_ids l id).2 ⟨k,hks,e⟩
   clear hat;generalize hp:(l.getD k noPerson).id=pid at*;have HP:=qH hp;clear hp
   by_cases he:pid=id
   ·subst he;have HF:=qH (HH.out rfl);clear HH;go_wp2_with fail
    go_ret
    exact⟨k,rfl,fun _=>by omega,(fun h=>by rw[HF.out]at h;cases h),rfl⟩
   ·have HM:Hid (∀ j,j<k+1→(l.getD j noPerson).id≠id):=fun j hj=>by
     rcases Nat.lt_or_eq_of_le (Nat.le_of_lt_succ hj) with h1|rfl
     ·exact HK.out j h1
     ·rw[HP.out];exact he
    go_wp2_with fail
    go_roundw
    case rel=>exact⟨k+1,by omega,by go_num,by first|trivial|rfl,HM⟩
    case measure=>simp[intOf];omega
  ·have HF:Hid (hasI (pIds l) id=false):=by
    show _=_
    cases hh:hasI (pIds l) id with
    | false=>rfl
    | true =>
     obtain⟨j,hj,e⟩:=(hasI_ids l id).1 hh;exact absurd e (HK.out j (by omega))
   go_wp2_with fail
   go_ret
   exact⟨-1,rfl,(fun h=>by rw[HF.out]at h;cases h),fun _=>rfl,rfl⟩
theorem flight40_any(t:GTT)(x:GInc)(A1 A2 A3:Option Addr)(n1 n2 n3 c1 c2 c3:Nat)(w:World)(hs2:Sl Ty.airport w (all_ w) A2 n2 c2 t.airports)(hs3:Sl Ty.flight w (all_ w) A3 n3 c3 t.flights) :
 Calls Tryz.prog 41 #[.agg #[.slice A1 n1 c1,.slice A2 n2 c2,.slice A3 n3 c3],incVal x] w (ErrPost (incE2 t x) w):=by
 have hn1:n3≤t.flights.length:=Nat.le_of_eq hs3.len;have hn2:t.flights.length≤n3:=Nat.le_of_eq hs3.len.symm;have hle:=hs3.le;unfold maxLen at hle;have HA:Hid (∀ o p,Below w.heap.size w ((w.alloc o).alloc p)):=fun o p=>((qC _ _).alloc (qD _) o).alloc (by simp) p
 unfold incVal;obtain⟨kind,fl,mi,ai,pe,⟨s1,s2⟩⟩:=x;simp only
 by_cases hk:kind<1∨4<kind
 ·have HR:Hid (incE2 t ⟨kind,fl,mi,ai,pe,⟨s1,s2⟩⟩=5):=by show _=_;unfold incE2;exact qR hk
  have hk':kind<1∨(¬kind<1∧4<kind):=by omega
  have h1 : ¬kind=1:=by omega
  have h2 : ¬kind=2:=by omega
  have h3 : ¬kind=3:=by omega
  clear hk hs2 hs3;rcases hk' with h|⟨h,h'⟩
  all_goals
   go_enter Tryz.func41,Tryz.ntmps41
   go_wp2_with fail
   go_ret
   exact⟨by rw[HR.out];rfl,HA.out _ _⟩
 by_cases hk4:kind=4
 ·subst hk4;have HR:Hid (incE2 t ⟨4,fl,mi,ai,pe,⟨s1,s2⟩⟩=0):=by show _=_;unfold incE2;rw[qN hk,qR rfl]
  clear hk hs2 hs3
  go_enter Tryz.func41,Tryz.ntmps41
  go_wp2_with fail
  go_quiet (fail)
  go_wp2_with fail
  go_ret
  exact⟨by rw[HR.out];rfl,below_drewN (HA.out _ _) _⟩
 have HE2:Hid (incE2 t ⟨kind,fl,mi,ai,pe,⟨s1,s2⟩⟩=flightIncE t ⟨kind,fl,mi,ai,pe,⟨s1,s2⟩⟩):=by show _=_;unfold incE2;rw[qN hk,qN hk4]
 have hk':kind=1∨kind=2∨kind=3:=by omega
 clear hk
 by_cases hf:fl<0∨(t.flights.length:Int)≤fl
 ·have HR:Hid (incE2 t ⟨kind,fl,mi,ai,pe,⟨s1,s2⟩⟩=6):=by show _=_;rw[HE2.out];unfold flightIncE;exact qR hf
  have hf':fl<0∨(¬fl<0∧(n3:Int)≤fl):=by omega
  clear hf hs2 hs3 hk4;rcases hk' with rfl|rfl|rfl
  all_goals rcases hf' with h|⟨h,h'⟩
  all_goals
   go_enter Tryz.func41,Tryz.ntmps41
   go_wp2_with fail
   go_ret
   exact⟨by rw[HR.out];rfl,HA.out _ _⟩
 have hf0:0≤fl:=by omega
 have hf1:fl<(n3:Int):=by omega
 rcases hk' with rfl|rfl|rfl
 ·have HR:Hid (incE2 t ⟨1,fl,mi,ai,pe,⟨s1,s2⟩⟩=if mi<1∨1440<mi then 5 else 0):=by show _=_;rw[HE2.out];unfold flightIncE;rw[qN hf,qR rfl]
  clear hf hs2 hs3
  by_cases hm:mi<1∨1440<mi
  ·rw[qR hm]at HR;have hm':mi<1∨(¬mi<1∧1440<mi):=by omega
   clear hm;rcases hm' with h|⟨h,h'⟩
   all_goals
    go_enter Tryz.func41,Tryz.ntmps41
    go_wp2_with fail
    go_ret
    exact⟨by rw[HR.out];rfl,HA.out _ _⟩
  ·rw[qN hm]at HR;have h1 : ¬mi<1:=by omega
   have h2 : ¬1440<mi:=by omega
   clear hm
   go_enter Tryz.func41,Tryz.ntmps41
   go_wp2_with fail
   go_quiet (fail)
   go_wp2_with fail
   go_ret
   exact⟨by rw[HR.out];rfl,below_drewN (HA.out _ _) _⟩
 ·have HR:Hid (incE2 t ⟨2,fl,mi,ai,pe,⟨s1,s2⟩⟩=0):=by show _=_;rw[HE2.out];unfold flightIncE;rw[qN hf,qN (show ¬(2:Int)=1 by decide),qN (show ¬(2:Int)=3 by decide)]
  clear hf hs2 hs3
  go_enter Tryz.func41,Tryz.ntmps41
  go_wp2_with fail
  go_quiet (fail)
  go_wp2_with fail
  go_ret
  exact⟨by rw[HR.out];rfl,below_drewN (HA.out _ _) _⟩
 ·have HR:Hid (incE2 t ⟨3,fl,mi,ai,pe,⟨s1,s2⟩⟩=if hasB (aCodes t.airports) ai=false then 6 else if ai=(t.flights.getD fl.toNat noFlight).src then 14 else if mi<0∨720<mi then 5 else 0):=by show _=_;rw[HE2.out];unfold flightIncE;rw[qN hf,qN (show ¬(3:Int)=1 by decide),qR rfl]
  have hA0:=HA.out (.cells #[.slice A1 n1 c1,.slice A2 n2 c2,.slice A3 n3 c3] 27) (.cells #[.int .i64 3,.int .i64 fl,.int .i64 mi,.string ai,.int .i64 pe,.int .i64 s1,.int .i64 s2] 59);have HC:=qH (airportIndex_any t.airports ai A2 n2 c2 (all_ w) _ (hs2.keep (all_keep hA0)));have HS:=qH (hs3.keep (all_keep hA0));have g0:((w.alloc (.cells #[.slice A1 n1 c1,.slice A2 n2 c2,.slice A3 n3 c3] 27)).alloc (.cells #[.int .i64 3,.int .i64 fl,.int .i64 mi,.string ai,.int .i64 pe,.int .i64 s1,.int .i64 s2] 59)).heap[w.heap.size]? = some (.cells #[.slice A1 n1 c1,.slice A2 n2 c2,.slice A3 n3 c3] 27 (0,0)):=heap_alloc2_old _ _ _;have g1:((w.alloc (.cells #[.slice A1 n1 c1,.slice A2 n2 c2,.slice A3 n3 c3] 27)).alloc (.cells #[.int .i64 3,.int .i64 fl,.int .i64 mi,.string ai,.int .i64 pe,.int .i64 s1,.int .i64 s2] 59)).heap[w.heap.size+1]? = some (.cells #[.int .i64 3,.int .i64 fl,.int .i64 mi,.string ai,.int .i64 pe,.int .i64 s1,.int .i64 s2] 59 (0,0)):=heap_alloc2_new _ _ _;have HIN:=qH (idxOf_neg (aCodes t.airports) ai);have HA1:=qH hA0;have G0:=qH g0;have G1:=qH g1;clear hf hs2 hs3 g0 g1 hA0 HA;generalize idxOf (aCodes t.airports) ai=ix at*;generalize hasB (aCodes t.airports) ai=hb at*
  go_enter Tryz.func41,Tryz.ntmps41
  go_wp2_with fail
  refine HC.out.mono ?_;clear HC;generalize (w.alloc (.cells #[.slice A1 n1 c1,.slice A2 n2 c2,.slice A3 n3 c3] 27)).alloc (.cells #[.int .i64 3,.int .i64 fl,.int .i64 mi,.string ai,.int .i64 pe,.int .i64 s1,.int .i64 s2] 59)=W at*;rintro e w9 ⟨rfl,hX⟩;rw[←hX];clear hX w9;have y0:=fun j=>block_cell G0.out j
  have y1:=fun j=>block_cell G1.out j
  have x1:=y0 1;have x2:=y0 2;have q0:=y1 0;have q1:=y1 1;have q2:=y1 2;have q3:=y1 3;obtain⟨b,o,rfl,hbS,hfl⟩:=HS.out.flight_at (k:=fl.toNat) (by omega);have z6:W.cell? ⟨b,o+fl.toNat*9+1,none⟩=some (.string (t.flights.getD fl.toNat noFlight).src):=hfl 1 _ rfl;generalize (t.flights.getD fl.toNat noFlight).src=src at*;clear y0 y1 hfl HS
  cases hb with
  | false =>
   have hix:ix<0:=by have:=HIN.out;simpa using this
   rw[qR rfl]at HR;go_wp2_with fail
   go_ret
   exact⟨by rw[HR.out];rfl,HA1.out⟩
  | true =>
   have hix : ¬ix<0:=by have:=HIN.out;simpa using this
   rw[qN (by simp)]at HR;have HSB:=qH (str_beq src ai)
   by_cases he:ai=src
   ·rw[qR he]at HR;have hs:(src.toList==ai.toList)=true:=by rw[HSB.out];simpa using he.symm
    clear he;go_wp2_with fail
    go_quiet (fail)
    go_wp2_with fail
    go_ret
    exact⟨by rw[HR.out];rfl,below_drewN HA1.out _⟩
   ·rw[qN he]at HR;have hs:(src.toList==ai.toList)=false:=by rw[HSB.out];simpa using fun e=>he e.symm
    clear he
    by_cases hm:mi<0∨720<mi
    ·rw[qR hm]at HR;have hm':mi<0∨(¬mi<0∧720<mi):=by omega
     clear hm;rcases hm' with h|⟨h,h'⟩
     all_goals
      go_wp2_with fail
      go_quiet (fail)
      go_wp2_with fail
      go_ret
      exact⟨by rw[HR.out];rfl,below_drewN HA1.out _⟩
    ·rw[qN hm]at HR;have h1 : ¬mi<0:=by omega
     have h2 : ¬720<mi:=by omega
     clear hm;go_wp2_with fail
     go_quiet (fail)
     go_wp2_with fail
     go_ret
     exact⟨by rw[HR.out];rfl,below_drewN HA1.out _⟩
end
section
open Go.RowKit
theorem empty_beq(a:ByteArray):(a.toList==[])=decide (a=noStr):=by
 rw[Bool.eq_iff_iff,beq_iff_eq,qL,noStr_iff]
theorem incE1_of2{t:GTT}{ps:List GPerson}{x:GInc}(h:incE2 t x≠0):incE1 t ps x=incE2 t x:=by
 unfold incE2 incE1 at*;split
 ·rfl
 rename_i hk;rw[qN hk]at h;split
 ·rename_i h4;rw[qR h4]at h;exact absurd rfl h
 ·rename_i h4;rw[qN h4]at h;rw[qR h]
theorem validate40_any(t:GTT)(ps:List GPerson)(l:List GInc)(A1 A2 A3 A4 A5:Option Addr)(n1 n2 n3 n4 n5 c1 c2 c3 c4 c5:Nat)(w:World)(ht:t.ok)(hp : ∀ p∈ps,p.ok)(hs1:Sl Ty.zone w (all_ w) A1 n1 c1 t.zones)(hs2:Sl Ty.airport w (all_ w) A2 n2 c2 t.airports)(hs3:Sl Ty.flight w (all_ w) A3 n3 c3 t.flights)(hs4:Sl Ty.person w (all_ w) A4 n4 c4 ps)(hs5:Sl Ty.inc w (all_ w) A5 n5 c5 l) :
 Calls Tryz.prog 17 #[.agg #[.slice A1 n1 c1,.slice A2 n2 c2,.slice A3 n3 c3],.slice A4 n4 c4,.slice A5 n5 c5] w (ErrPost (incE t ps l) w):=by
 have hn1:n5≤l.length:=Nat.le_of_eq hs5.len;have hn2:l.length≤n5:=Nat.le_of_eq hs5.len.symm;have hle:=hs5.le;unfold maxLen at hle;have hb0:=(qC w.heap.size w).alloc (qD _) (.cells #[.slice A1 n1 c1,.slice A2 n2 c2,.slice A3 n3 c3] 27);have hr0:=qK w (.cells #[.slice A1 n1 c1,.slice A2 n2 c2,.slice A3 n3 c3] 27);have hz0:(w.alloc (.cells #[.slice A1 n1 c1,.slice A2 n2 c2,.slice A3 n3 c3] 27)).heap.size=w.heap.size+1:=by simp
 have HV:=qH (validateCrewR_any t ps A1 A2 A3 A4 n1 n2 n3 n4 c1 c2 c3 c4 _ ht hp (hs1.next hb0) (hs2.next hb0) (hs3.next hb0) (hs4.next hb0));have HS2:Hid (∀ V,Below w.heap.size w V→Sl Ty.airport V (all_ V) A2 n2 c2 t.airports):=fun V hV=>hs2.next hV
 have HS3:Hid (∀ V,Below w.heap.size w V→Sl Ty.flight V (all_ V) A3 n3 c3 t.flights):=fun V hV=>hs3.next hV
 have HS4:Hid (∀ V,Below w.heap.size w V→Sl Ty.person V (all_ V) A4 n4 c4 ps):=fun V hV=>hs4.next hV
 have HS5:Hid (∀ V,Below w.heap.size w V→Sl Ty.inc V (all_ w) A5 n5 c5 l):=fun V hV=>hs5.keep (all_keep hV)
 have HB0:=qH hb0;have HR0:=qH hr0;have HZ0:=qH hz0;have HR:Hid ((crewE t ps≠0→incE t ps l=crewE t ps)∧(crewE t ps=0→32<l.length→incE t ps l=10) ∧
  (crewE t ps=0→l.length≤32 → ∀ k,k<l.length→zeroTo (fun i=>incE1 t ps (l.getD i noInc)) k→incE1 t ps (l.getD k noInc)≠0→incE t ps l=incE1 t ps (l.getD k noInc)) ∧
  (crewE t ps=0→l.length≤32→zeroTo (fun i=>incE1 t ps (l.getD i noInc)) l.length→incE t ps l=0)) :=
  ⟨fun h=>by unfold incE;exact qR h,fun h h2=>by unfold incE;rw[qN (by rw[h];simp),qR h2],fun h0 h1 k hk hz hv=>incE_hit h0 h1 hk hz hv,fun h0 h1 hz=>incE_none h0 h1 hz⟩
 clear hs1 hs2 hs3 hs4 hs5 hb0 hr0 hz0 ht hp;generalize incE t ps l=res at*;generalize hce:crewE t ps=ce at*
 go_enter Tryz.func17,Tryz.ntmps17
 go_wp2_with fail
 generalize w.alloc (.cells #[.slice A1 n1 c1,.slice A2 n2 c2,.slice A3 n3 c3] 27)=W at*;refine HV.out.mono ?_;clear HV;rintro e w1 ⟨rfl,hb1⟩;have hw1:Below w.heap.size w w1:=HB0.out.trans (hb1.mono (by have:=HZ0.out;omega));have HT1:Hid (w1.heap[w.heap.size]? = some (.cells #[.slice A1 n1 c1,.slice A2 n2 c2,.slice A3 n3 c3] 27 (0,0))):=(hb1.block _ (by have:=HZ0.out;omega)).trans HR0.out;have hsz1:w.heap.size<w1.heap.size:=by have:=HZ0.out;have:=hb1.size;omega
 have HW1:=qH hw1;clear hb1 HB0 HR0 HZ0 hw1
 by_cases hc:ce=0
 case neg =>
  have hc':(ce != 0)=true:=by simpa using hc
  have HF:=qH (HR.out.1 hc);clear hc;go_wp2_with fail
  go_ret
  exact⟨by rw[HF.out];rfl,HW1.out⟩
 have hc':(ce != 0)=false:=by simpa using hc
 have HR2:Hid _:=HR.out.2.1 hc;have HR3:Hid _:=HR.out.2.2.1 hc;have HR4:Hid _:=HR.out.2.2.2 hc;subst hc;clear HR
 by_cases hlen:32<n5
 ·have HF:=qH (HR2.out (by omega));go_wp2_with fail
  go_ret
  exact⟨by rw[HF.out];rfl,HW1.out⟩
 have HR3':Hid _:=HR3.out (by omega);have HR4':Hid _:=HR4.out (by omega);clear HR2 HR3 HR4;go_wp2_with fail
 go_loopw [8] (fun s wr => ∃ k:Nat,k≤n5∧s=.int .i64 k∧Below w.heap.size w wr∧w.heap.size<wr.heap.size∧Hid (wr.heap[w.heap.size]? = some (.cells #[.slice A1 n1 c1,.slice A2 n2 c2,.slice A3 n3 c3] 27 (0,0)))∧Hid (zeroTo (fun i=>incE1 t ps (l.getD i noInc)) k)) (fun s _=>n5-(intOf s).toNat)
 case atStart=>exact⟨0,qV _,rfl,HW1.out,hsz1,HT1,zeroTo_zero _⟩
 case round =>
  obtain⟨k,hk,rfl,hbr,hsz,HT,HK⟩:=hrel;clear HW1 HT1 hsz1
  by_cases hlt:k<n5
  ·have hks:k<l.length:=by omega
   obtain⟨b,o,rfl,hbS,hat⟩:=(HS5.out wr hbr).inc_at hks;have HE:Hid (incE1 t ps (l.getD k noInc)≠0→res=incE1 t ps (l.getD k noInc)):=fun h=>HR3'.out k hks HK.out h
   have HM:Hid (incE1 t ps (l.getD k noInc)=0→zeroTo (fun i=>incE1 t ps (l.getD i noInc)) (k+1)):=fun h=>zeroTo_succ HK.out h
   have z0:=hat 0 _ rfl;rw[Nat.add_zero]at z0;have z1:=hat 1 _ rfl;have z2:=hat 2 _ rfl;have z3:=hat 3 _ rfl;have z4:=hat 4 _ rfl;have z5:=hat 5 _ rfl;have z6:=hat 6 _ rfl;clear hat HK;generalize l.getD k noInc=x at*;obtain⟨kind,fl,mi,ai,pe,⟨s1,s2⟩⟩:=x;simp only at z0 z1 z2 z3 z4 z5 z6;have hbx:=(qC wr.heap.size wr).alloc (qD _) (.cells #[.int .i64 kind,.int .i64 fl,.int .i64 mi,.string ai,.int .i64 pe,.int .i64 s1,.int .i64 s2] 59);have hrx:=qK wr (.cells #[.int .i64 kind,.int .i64 fl,.int .i64 mi,.string ai,.int .i64 pe,.int .i64 s1,.int .i64 s2] 59);have hzx:(wr.alloc (.cells #[.int .i64 kind,.int .i64 fl,.int .i64 mi,.string ai,.int .i64 pe,.int .i64 s1,.int .i64 s2] 59)).heap.size=wr.heap.size+1:=by simp
   have htx:=(Below.heap_alloc wr (.cells #[.int .i64 kind,.int .i64 fl,.int .i64 mi,.string ai,.int .i64 pe,.int .i64 s1,.int .i64 s2] 59) _ hsz).trans HT.out;have hwx:Below w.heap.size w (wr.alloc (.cells #[.int .i64 kind,.int .i64 fl,.int .i64 mi,.string ai,.int .i64 pe,.int .i64 s1,.int .i64 s2] 59)):=hbr.trans (hbx.mono hbr.size);have HRX:=qH hrx;have HZX:=qH hzx;have HTX:=qH htx;have HWX:=qH hwx;have x0:=block_cell htx 0;have x1:=block_cell htx 1;have x2:=block_cell htx 2;clear hbx hrx hzx htx hwx;have HE5:Hid (∀ v:Int,incE1 t ps ⟨kind,fl,mi,ai,pe,⟨s1,s2⟩⟩=v→v≠0→res=v):=fun v h1 h2=>by rw[←h1];exact HE.out (by rw[h1];exact h2)
   have HF4:=qH (flight40_any t ⟨kind,fl,mi,ai,pe,⟨s1,s2⟩⟩ A1 A2 A3 n1 n2 n3 c1 c2 c3 _ (HS2.out _ HWX.out) (HS3.out _ HWX.out));have HEE:=qH (incE1_of2 (t:=t) (ps:=ps) (x:=⟨kind,fl,mi,ai,pe,⟨s1,s2⟩⟩));have HE0:=qH (incE2_flight (t:=t) (x:=⟨kind,fl,mi,ai,pe,⟨s1,s2⟩⟩));clear HE;generalize hfe:incE2 t ⟨kind,fl,mi,ai,pe,⟨s1,s2⟩⟩=fe at*;go_wp2_with fail
   clear z0 z1 z2 z3 z4 z5 z6 x0 x1 x2;generalize wr.alloc (.cells #[.int .i64 kind,.int .i64 fl,.int .i64 mi,.string ai,.int .i64 pe,.int .i64 s1,.int .i64 s2] 59)=X at*;refine HF4.out.mono ?_;rintro e w2 ⟨rfl,hb2⟩;have HW2:Hid (Below w.heap.size w w2):=HWX.out.trans (hb2.mono HWX.out.size);have hz2:=hb2.size;have hzx:=HZX.out;have HR2:Hid (w2.heap[wr.heap.size]? = _):=(hb2.block _ (by omega)).trans HRX.out;have HT2:Hid (w2.heap[w.heap.size]? = _):=(hb2.block _ (by omega)).trans HTX.out;have hsz2:w.heap.size<w2.heap.size:=by omega
   clear HF4 hb2 HRX HTX HWX HZX hzx hz2
   by_cases hfz:fe=0
   case neg =>
    have hfe':(fe != 0)=true:=by simpa using hfz
    have HF:Hid (res=fe):=HE5.out fe (HEE.out hfz) hfz;clear hfz;go_wp2_with fail
    go_ret
    exact⟨by rw[HF.out];rfl,HW2.out⟩
   have hfe':(fe != 0)=false:=by simpa using hfz
   subst hfz;obtain⟨hk1,hk2,hk3⟩:=HE0.out rfl
   try simp only at hk1 hk2 hk3
   clear HEE HE0 hfe;have y0:=block_cell HR2.out 0;have y1:=block_cell HR2.out 1;have y2:=block_cell HR2.out 2;have y3:=block_cell HR2.out 3;have y4:=block_cell HR2.out 4;have y5:=block_cell HR2.out 5;have y6:=block_cell HR2.out 6;have HEB:=qH (empty_beq ai);have HSP:=qH (span40_any s1 s2);have HPI:=qH (fun V hV=>personIndex_any ps A4 n4 c4 pe (all_ V) V (HS4.out V hV))
   by_cases hk4:kind=4
   case pos =>
    subst hk4;have HI:Hid (incE1 t ps ⟨4,fl,mi,ai,pe,⟨s1,s2⟩⟩=if hasI (pIds ps) pe=false then 6 else if vacOk ⟨s1,s2⟩=false then 5 else if shapedI ⟨4,fl,mi,ai,pe,⟨s1,s2⟩⟩=false then 12 else 0):=by
     show _=_;unfold incE1;rw[qN (show ¬((4:Int)<1∨4<(4:Int)) by decide),qR rfl]
    clear hk3;go_wp2_with fail
    go_quiet (fail)
    go_wp2_with fail
    refine(HPI.out _ (below_drewN HW2.out _)).mono ?_;rintro e w9 ⟨ix,rfl,hp1,hp2,hX⟩;rw[hX];clear hX w9;generalize hhi:hasI (pIds ps) pe=hi at*
    cases hi with
    | false =>
     obtain rfl:=hp2 rfl;have HF:Hid (res=6):=HE5.out 6 (by rw[HI.out];exact qR rfl) (by decide);clear hp1 hp2;go_wp2_with fail
     go_ret
     exact⟨by rw[HF.out];rfl,below_drewN HW2.out _⟩
    | true =>
     have hix:=hp1 rfl;have hix' : ¬ix<0:=by omega
     clear hp1 hp2;rw[qN (by decide)]at HI;go_wp2_with fail
     refine(span40_any s1 s2 _).mono ?_;rintro e w3 ⟨rfl,hb3⟩;have HW3:Hid (Below w.heap.size w w3):=(below_drewN HW2.out _).trans (hb3.mono HW2.out.size);have HR3:Hid (w3.heap[wr.heap.size]? = _):=(hb3.block _ (Array.getElem?_eq_some_iff.1 HR2.out).1).trans HR2.out;have HT3:Hid (w3.heap[w.heap.size]? = _):=(hb3.block _ hsz2).trans HT2.out;have hsz3:w.heap.size<w3.heap.size:=Nat.lt_of_lt_of_le hsz2 hb3.size;clear y0 y1 y2 y3 y4 y5 y6 hb3;have y0:=block_cell HR3.out 0;have y1:=block_cell HR3.out 1;have y2:=block_cell HR3.out 2;have y3:=block_cell HR3.out 3;have y4:=block_cell HR3.out 4;have y5:=block_cell HR3.out 5;have y6:=block_cell HR3.out 6;generalize hvo:vacOk ⟨s1,s2⟩=vo at*
     cases vo with
     | false =>
      have HF:Hid (res=5):=HE5.out 5 (by rw[HI.out];exact qR rfl) (by decide);go_wp2_with fail
      go_ret
      exact⟨by rw[HF.out];rfl,HW3.out⟩
     | true =>
      rw[qN (by decide)]at HI;have HSH:Hid (shapedI ⟨4,fl,mi,ai,pe,⟨s1,s2⟩⟩=(decide (fl=0)&&decide (mi=0)&&decide (ai=noStr))):=rfl
      by_cases hsh:fl=0∧mi=0∧ai=noStr
      ·obtain⟨rfl,rfl,h3⟩:=hsh;have hem:(ai.toList==[])=true:=by rw[HEB.out];simpa using h3
       have HM2:=qH (HM.out (by rw[HI.out,HSH.out,h3];rfl));clear h3;go_wp2_with fail
       go_roundw
       case rel=>exact⟨k+1,by omega,by go_num,HW3.out,hsz3,HT3,HM2⟩
       case measure=>simp[intOf];omega
      ·have HF:Hid (res=12):=HE5.out 12 (by
        rw[HI.out,qR];rw[HSH.out];simp only[Bool.and_eq_false_iff,qU]
        by_cases h1:fl=0
        ·by_cases h2:mi=0
         ·exact .inr fun h3=>hsh ⟨h1,h2,h3⟩
         ·exact .inl (.inr h2)
        ·exact .inl (.inl h1)) (by decide)
       have hd : ¬fl=0∨(fl=0 ∧ ¬mi=0)∨(fl=0∧mi=0∧(ai.toList==[])=false):=by
        by_cases h1:fl=0
        ·by_cases h2:mi=0
         ·exact .inr (.inr ⟨h1,h2,by rw[HEB.out];simpa using fun h3=>hsh ⟨h1,h2,h3⟩⟩)
         ·exact .inr (.inl ⟨h1,h2⟩)
        ·exact .inl h1
       clear hsh;rcases hd with h1|⟨rfl,h2⟩|⟨rfl,rfl,h3⟩
       all_goals
        go_wp2_with fail
        go_ret
        exact⟨by rw[HF.out];rfl,HW3.out⟩
   case neg =>
    have HI:Hid (incE1 t ps ⟨kind,fl,mi,ai,pe,⟨s1,s2⟩⟩=if shapedI ⟨kind,fl,mi,ai,pe,⟨s1,s2⟩⟩=false then 12 else 0):=by
     show _=_;unfold incE1;rw[qN (show ¬(kind<1∨4<kind) by omega),qN hk4,qN (by rw[hk3 hk4];simp)]
    have hkk:kind=1∨kind=2∨kind=3:=by omega
    clear hk3 hk4 hk1 hk2;rcases hkk with rfl|rfl|rfl
    ·have HSH:Hid (shapedI ⟨1,fl,mi,ai,pe,⟨s1,s2⟩⟩=(decide (ai=noStr)&&decide (pe=0)&&decide (s1=0)&&decide (s2=0))):=rfl
     by_cases hsh:pe=0∧s1=0∧s2=0∧ai=noStr
     ·obtain⟨rfl,rfl,rfl,h3⟩:=hsh;have hem:(ai.toList==[])=true:=by rw[HEB.out];simpa using h3
      have HM2:=qH (HM.out (by rw[HI.out,HSH.out,h3];rfl));clear h3;go_wp2_with fail
      go_quiet (fail)
      go_wp2_with fail
      go_roundw
      case rel=>exact⟨k+1,by omega,by go_num,below_drewN HW2.out _,hsz2,HT2,HM2⟩
      case measure=>simp[intOf];omega
     ·have HF:Hid (res=12):=HE5.out 12 (by
       rw[HI.out,qR];rw[HSH.out]
       cases hh:(decide (ai=noStr)&&decide (pe=0)&&decide (s1=0)&&decide (s2=0)) with
       | false=>rfl
       | true =>
        exfalso;simp only[qI,qL]at hh;exact hsh (by simp only[hh,and_self])) (by decide)
      have hd:(¬pe=0)∨(pe=0 ∧ ¬s1=0)∨(pe=0∧s1=0 ∧ ¬s2=0)∨(pe=0∧s1=0∧s2=0∧(ai.toList==[])=false):=by
       rw[HEB.out]
       try simp only[qL,qU]
       by_cases gpe:pe=0 <;> by_cases gs1:s1=0 <;> by_cases gs2:s2=0 <;> by_cases gai:ai=noStr <;> simp_all
      clear hsh;rcases hd with hn|⟨rfl,hn⟩|⟨rfl,rfl,hn⟩|⟨rfl,rfl,rfl,hn⟩
      all_goals
       go_wp2_with fail
       go_quiet (fail)
       go_wp2_with fail
       go_ret
       exact⟨by rw[HF.out];rfl,below_drewN HW2.out _⟩
    ·have HSH:Hid (shapedI ⟨2,fl,mi,ai,pe,⟨s1,s2⟩⟩=(decide (mi=0)&&decide (ai=noStr)&&decide (pe=0)&&decide (s1=0)&&decide (s2=0))):=rfl
     by_cases hsh:pe=0∧s1=0∧s2=0∧ai=noStr∧mi=0
     ·obtain⟨rfl,rfl,rfl,h3,rfl⟩:=hsh;have hem:(ai.toList==[])=true:=by rw[HEB.out];simpa using h3
      have HM2:=qH (HM.out (by rw[HI.out,HSH.out,h3];rfl));clear h3;go_wp2_with fail
      go_quiet (fail)
      go_wp2_with fail
      go_roundw
      case rel=>exact⟨k+1,by omega,by go_num,below_drewN HW2.out _,hsz2,HT2,HM2⟩
      case measure=>simp[intOf];omega
     ·have HF:Hid (res=12):=HE5.out 12 (by
       rw[HI.out,qR];rw[HSH.out]
       cases hh:(decide (mi=0)&&decide (ai=noStr)&&decide (pe=0)&&decide (s1=0)&&decide (s2=0)) with
       | false=>rfl
       | true =>
        exfalso;simp only[qI,qL]at hh;exact hsh (by simp only[hh,and_self])) (by decide)
      have hd:(¬pe=0)∨(pe=0 ∧ ¬s1=0)∨(pe=0∧s1=0 ∧ ¬s2=0)∨(pe=0∧s1=0∧s2=0∧(ai.toList==[])=false)∨(pe=0∧s1=0∧s2=0∧(ai.toList==[])=true ∧ ¬mi=0):=by
       rw[HEB.out]
       try simp only[qL,qU]
       by_cases gpe:pe=0 <;> by_cases gs1:s1=0 <;> by_cases gs2:s2=0 <;> by_cases gai:ai=noStr <;> by_cases gmi:mi=0 <;> simp_all
      clear hsh;rcases hd with hn|⟨rfl,hn⟩|⟨rfl,rfl,hn⟩|⟨rfl,rfl,rfl,hn⟩|⟨rfl,rfl,rfl,hem,hn⟩
      all_goals
       go_wp2_with fail
       go_quiet (fail)
       go_wp2_with fail
       go_ret
       exact⟨by rw[HF.out];rfl,below_drewN HW2.out _⟩
    ·have HSH:Hid (shapedI ⟨3,fl,mi,ai,pe,⟨s1,s2⟩⟩=(decide (pe=0)&&decide (s1=0)&&decide (s2=0))):=rfl
     by_cases hsh:pe=0∧s1=0∧s2=0
     ·obtain⟨rfl,rfl,rfl⟩:=hsh;have HM2:=qH (HM.out (by rw[HI.out,HSH.out];rfl));go_wp2_with fail
      go_quiet (fail)
      go_wp2_with fail
      go_roundw
      case rel=>exact⟨k+1,by omega,by go_num,below_drewN HW2.out _,hsz2,HT2,HM2⟩
      case measure=>simp[intOf];omega
     ·have HF:Hid (res=12):=HE5.out 12 (by
       rw[HI.out,qR];rw[HSH.out]
       cases hh:(decide (pe=0)&&decide (s1=0)&&decide (s2=0)) with
       | false=>rfl
       | true =>
        exfalso;simp only[qI,qL]at hh;exact hsh (by simp only[hh,and_self])) (by decide)
      have hd:(¬pe=0)∨(pe=0 ∧ ¬s1=0)∨(pe=0∧s1=0 ∧ ¬s2=0):=by
       try simp only[qL,qU]
       by_cases gpe:pe=0 <;> by_cases gs1:s1=0 <;> by_cases gs2:s2=0 <;> simp_all
      clear hsh;rcases hd with hn|⟨rfl,hn⟩|⟨rfl,rfl,hn⟩
      all_goals
       go_wp2_with fail
       go_quiet (fail)
       go_wp2_with fail
       go_ret
       exact⟨by rw[HF.out];rfl,below_drewN HW2.out _⟩
  ·have HF:=qH (HR4'.out (by
    have:=HK.out;intro j hj;exact this j (by omega)))
   go_wp2_with fail
   go_ret
   exact⟨by rw[HF.out];rfl,hbr⟩
end
end Go.Proofs.YtifconapjfdkcaaGreatDoor

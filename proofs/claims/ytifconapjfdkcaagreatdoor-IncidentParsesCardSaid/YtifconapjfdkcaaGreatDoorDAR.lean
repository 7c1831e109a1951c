/-
  Joined texts: CrewLists; ISet; CrewValidate. What each proves stands ahead of it, with its conditions.
-/
import Derived.Test.YtifconapjfdkcaaGreatDoorDAA
import Derived.Test.YtifconapjfdkcaaGreatDoorDAK
import Derived.Test.YtifconapjfdkcaaGreatDoorDAF
import Derived.Test.YtifconapjfdkcaaGreatDoorDAQ
import Derived.Maps.OwnOps
import Derived.Maps.Views
import Derived.ProofKit
set_option linter.unusedSimpArgs false
set_option linter.unusedVariables false
set_option maxRecDepth 100000
set_option maxHeartbeats 12800000
namespace Go.Proofs.YtifconapjfdkcaaGreatDoor
section
open Go.RowKit
theorem validateLists_any(p:GPerson)(A1 A2:Option Addr)(n1 n2 c1 c2:Nat)(w:World)(hp:p.ok)(hs1:Sl Ty.str w (all_ w) A1 n1 c1 p.types)(hs2:Sl Ty.shift w (all_ w) A2 n2 c2 p.vacs) :
 Calls Tryz.prog 68 #[.agg #[.int .i64 p.id,.string p.name,.string p.base,.int .i64 p.rank,.int .i64 p.sen,.slice A1 n1 c1,.slice A2 n2 c2]] w (ErrPost (listsE p) w):=by
 obtain⟨-, -, -, -, -,ok1,ok2⟩:=hp;have e1:=hs1.len;have e2:=hs2.len;have m1:=hs1.le;have m2:=hs2.le;unfold maxLen at m1 m2;have l1:n1≤p.types.length:=by omega
 have l1':p.types.length≤n1:=by omega
 have l2:n2≤p.vacs.length:=by omega
 have l2':p.vacs.length≤n2:=by omega
 have OK1:=qH ok1;have HR:Hid (listsE p=if firstErr (typeErr p.types) p.types.length≠0 then firstErr (typeErr p.types) p.types.length else firstErr (vacErr p.vacs) p.vacs.length):=rfl;clear ok1 ok2 e1 e2
 go_enter Tryz.func68,Tryz.ntmps68
 go_wp2_with fail
 have hb0:Below w.heap.size w (w.alloc (.cells #[.int .i64 p.id,.string p.name,.string p.base,.int .i64 p.rank,.int .i64 p.sen,.slice A1 n1 c1,.slice A2 n2 c2] 75)):=(qC _ _).alloc (qD _) _;have x5:(w.alloc (.cells #[.int .i64 p.id,.string p.name,.string p.base,.int .i64 p.rank,.int .i64 p.sen,.slice A1 n1 c1,.slice A2 n2 c2] 75)).cell? ⟨w.heap.size,5,none⟩=some (.slice A1 n1 c1):=by rw[World.cell?_alloc_at _ _ _ _ rfl];rfl
 have x6:(w.alloc (.cells #[.int .i64 p.id,.string p.name,.string p.base,.int .i64 p.rank,.int .i64 p.sen,.slice A1 n1 c1,.slice A2 n2 c2] 75)).cell? ⟨w.heap.size,6,none⟩=some (.slice A2 n2 c2):=by rw[World.cell?_alloc_at _ _ _ _ rfl];rfl
 have hsw:(w.alloc (.cells #[.int .i64 p.id,.string p.name,.string p.base,.int .i64 p.rank,.int .i64 p.sen,.slice A1 n1 c1,.slice A2 n2 c2] 75)).heap.size=w.heap.size+1:=by simp
 generalize hW:w.alloc (.cells #[.int .i64 p.id,.string p.name,.string p.base,.int .i64 p.rank,.int .i64 p.sen,.slice A1 n1 c1,.slice A2 n2 c2] 75)=W at*;have HS1:=qH (hs1.keep (all_keep hb0));have HS2:=qH (hs2.keep (all_keep hb0));have HW:=qH hsw;have HB0:=qH hb0;clear hs1 hs2 hW hsw hb0;go_loopw [3,4,10] (fun _ _ i wr => ∃ k:Nat,k≤n1∧i=.int .i64 k∧Hid (W=wr)∧Hid (zeroTo (typeErr p.types) k)) (fun _ _ i _=>n1-(intOf i).toNat)
 case atStart=>exact⟨0,qV _,rfl,rfl,zeroTo_zero _⟩
 case round =>
  obtain⟨k,hk,rfl,HQ,HK⟩:=hrel;obtain rfl:=HQ.out;clear HQ
  by_cases hlt:k<n1
  ·obtain⟨b,o,rfl,hbS,hc⟩:=HS1.out.name_at (k:=k) (by omega);have hsz:=OK1.out _ (getD_in (show k<p.types.length by omega) noStr);have HERR:Hid (typeErr p.types k=if isNameB (p.types.getD k noStr)=false then 1 else if 0<k∧leB (p.types.getD k noStr) (p.types.getD (k-1) noStr)=true then 8 else 0):=rfl;have hprev:0<k→W.cell? ⟨b,o+(k-1),none⟩=some (.string (p.types.getD (k-1) noStr)):=fun h0=>by
    obtain⟨b',o',e',_,hc'⟩:=HS1.out.name_at (k:=k-1) (by omega);simp only[Option.some.injEq,Addr.mk.injEq,and_true]at e';obtain⟨rfl,rfl⟩:=e';exact hc'
   generalize hz:p.types.getD k noStr=s at*;generalize hq:p.types.getD (k-1) noStr=q at*;have HSZ:=qH hsz;clear hz hq hsz
   by_cases hn:isNameB s=true
   case neg =>
    have hn':isNameB s=false:=by simpa using hn
    have HF:Hid (listsE p=1):=by
     have h9:typeErr p.types k=1:=by rw[HERR.out,qR hn']
     have h8:firstErr (typeErr p.types) p.types.length=1:=by rw[firstErr_hit HK.out (by rw[h9];decide) (by omega),h9]
     rw[HR.out,h8,qR (by decide)];rfl
    clear hn hprev;go_wp2_with (go_at_call 67;refine(isName_any s _ HSZ.out).mono ?_;rintro e w' ⟨rfl,rfl⟩;rw[hn'])
    go_ret
    exact⟨by rw[HF.out];rfl,HB0.out⟩
   rcases Nat.eq_zero_or_pos k with rfl|hk0
   ·have HZ:Hid (zeroTo (typeErr p.types) (0+1)):=zeroTo_succ HK.out (by rw[HERR.out,qN (by rw[hn];decide),qN (fun h=>absurd h.1 (by omega))]);clear hprev;simp only[Nat.add_zero]at hc;go_wp2_with (go_at_call 67;refine(isName_any s _ HSZ.out).mono ?_;rintro e w' ⟨rfl,rfl⟩;rw[hn])
    go_roundw
    case rel=>exact⟨0+1,by omega,rfl,trivial,HZ⟩
    case measure=>simp[intOf];omega
   ·have hq:=hprev hk0;clear hprev;have wr1:IntKind.i64.wrap ((k:Int)-1)=(k:Int)-1:=qM _ (by omega);have wr2:0≤(k:Int)-1:=by omega
    have wr3:(k:Int)-1<(n1:Int):=by omega
    have wr4:((k:Int)-1).toNat=k-1:=by omega
    by_cases hle:leB s q=true
    ·have HF:Hid (listsE p=8):=by
      have h9:typeErr p.types k=8:=by rw[HERR.out,qN (by rw[hn];decide),qR ⟨hk0,hle⟩]
      have h8:firstErr (typeErr p.types) p.types.length=8:=by rw[firstErr_hit HK.out (by rw[h9];decide) (by omega),h9]
      rw[HR.out,h8,qR (by decide)];rfl
     rcases leB_true hle with h1|⟨h1,h2⟩
     all_goals
      clear hle;go_wp2_with (go_at_call 67;refine(isName_any s _ HSZ.out).mono ?_;rintro e w' ⟨rfl,rfl⟩;rw[hn])
      go_ret
      exact⟨by rw[HF.out];rfl,HB0.out⟩
    ·have hle':leB s q=false:=by simpa using hle
     have HZ:Hid (zeroTo (typeErr p.types) (k+1)):=zeroTo_succ HK.out (by rw[HERR.out,qN (by rw[hn];decide),qN (fun h=>hle h.2)]);obtain⟨h1,h2⟩:=leB_false hle';clear hle hle';go_wp2_with (go_at_call 67;refine(isName_any s _ HSZ.out).mono ?_;rintro e w' ⟨rfl,rfl⟩;rw[hn])
     go_roundw
     case rel=>exact⟨k+1,by omega,by go_num,trivial,HZ⟩
     case measure=>simp[intOf];omega
  ·have HT0:Hid (firstErr (typeErr p.types) p.types.length=0):=firstErr_none (by rw[show p.types.length=k by omega];exact HK.out);clear HK x5;go_wp2_with fail
   have HX6:=qH x6;clear x6;go_loopw [5,6,34] (fun _ _ i wr => ∃ k:Nat,k≤n2∧i=.int .i64 k∧Below (w.heap.size+1) W wr∧Hid (zeroTo (vacErr p.vacs) k)) (fun _ _ i _=>n2-(intOf i).toNat)
   case atStart=>exact⟨0,qV _,rfl,qC _ _,zeroTo_zero _⟩
   case round =>
    obtain⟨r,hr,rfl,hbr,HK⟩:=hrel;have x6:wr.cell? ⟨w.heap.size,6,none⟩=some (.slice A2 n2 c2):=(hbr.cell (by simp)).trans HX6.out;have hsl':=HS2.out.keep (w':=wr) fun b hb=>hbr.block b (by unfold all_ at hb;omega)
    have hwl:w.heap.size<wr.heap.size:=by have:=hbr.size;have:=HW.out;omega
    by_cases hlt:r<n2
    ·obtain⟨b,o,rfl,hbS,hc0,hc1⟩:=hsl'.shift_at (k:=r) (by omega);have hbl:b<wr.heap.size:=by unfold all_ at hbS;omega
     have hbne:b≠wr.heap.size:=by omega
     have HERR:Hid (vacErr p.vacs r=if vacOk (p.vacs.getD r noShift)=false then 5 else if 0<r∧(p.vacs.getD r noShift).at_<(p.vacs.getD (r-1) noShift).off then 8 else 0):=rfl;have hprev:0<r→wr.cell? ⟨b,o+(r-1)*2+1,none⟩=some (.int .i64 (p.vacs.getD (r-1) noShift).off):=fun h0=>by
      obtain⟨b',o',e',_,_,hc'⟩:=hsl'.shift_at (k:=r-1) (by omega);simp only[Option.some.injEq,Addr.mk.injEq,and_true]at e';obtain⟨rfl,rfl⟩:=e';exact hc'
     generalize hz:p.vacs.getD r noShift=s at*;generalize hq:p.vacs.getD (r-1) noShift=q at*;have hbox0:(wr.alloc (.cells #[.int .i64 s.at_,.int .i64 s.off] 57)).cell? ⟨wr.heap.size,0,none⟩=some (.int .i64 s.at_):=by rw[World.cell?_alloc_at _ _ _ _ rfl];rfl
     have hbox1:(wr.alloc (.cells #[.int .i64 s.at_,.int .i64 s.off] 57)).cell? ⟨wr.heap.size,1,none⟩=some (.int .i64 s.off):=by rw[World.cell?_alloc_at _ _ _ _ rfl];rfl
     have HBA:Hid (∀ m,Below w.heap.size w ((wr.alloc (.cells #[.int .i64 s.at_,.int .i64 s.off] 57)).drewN m)):=fun m=>below_drewN (HB0.out.trans ((hbr.mono (by omega)).alloc (by omega) _)) m
     have HBB:Hid (∀ m,Below (w.heap.size+1) W ((wr.alloc (.cells #[.int .i64 s.at_,.int .i64 s.off] 57)).drewN m)):=fun m=>below_drewN (hbr.alloc (by omega) _) m
     clear hz hq hsl'
     by_cases hv:vacOk s=true
     case neg =>
      have hv':vacOk s=false:=by simpa using hv
      have HF:Hid (listsE p=5):=by
       have h9:vacErr p.vacs r=5:=by rw[HERR.out,qR hv']
       have h8:firstErr (vacErr p.vacs) p.vacs.length=5:=by rw[firstErr_hit HK.out (by rw[h9];decide) (by omega),h9]
       rw[HR.out,HT0.out,h8];rfl
      have h3:s.at_<0∨(¬s.at_<0∧s.off≤s.at_)∨(¬s.at_<0 ∧ ¬s.off≤s.at_∧52596000<s.off):=by
       unfold vacOk at hv';simp only[Bool.and_eq_false_iff,qU]at hv';omega
      clear hv hv' hprev;rcases h3 with h|⟨h,h'⟩|⟨h,h',h''⟩
      all_goals
       go_wp2_with fail
       go_ret
       exact⟨by rw[HF.out];rfl,HBA.out 0⟩
     have hv1:0≤s.at_∧s.at_<s.off∧s.off≤52596000:=by
      have hv2:=hv;unfold vacOk at hv2;simp only[qI,qL]at hv2;omega
     obtain⟨hv1,hv2,hv3⟩:=hv1;rcases Nat.eq_zero_or_pos r with rfl|hr0
     ·have HZ:Hid (zeroTo (vacErr p.vacs) (0+1)):=zeroTo_succ HK.out (by rw[HERR.out,qN (by rw[hv];decide),qN (fun h=>absurd h.1 (by omega))]);clear hprev hv;simp only[Nat.zero_mul,Nat.add_zero]at hc0 hc1;go_wp2_with fail
      go_quiet (fail)
      go_wp2_with fail
      go_roundw
      case rel=>exact⟨0+1,by omega,rfl,HBB.out _,HZ⟩
      case measure=>simp[intOf];omega
     ·have hq:=hprev hr0;clear hprev;have wr1:IntKind.i64.wrap ((r:Int)-1)=(r:Int)-1:=qM _ (by omega);have wr2:0≤(r:Int)-1:=by omega
      have wr3:(r:Int)-1<(n2:Int):=by omega
      have wr4:((r:Int)-1).toNat=r-1:=by omega
      go_wp2_with fail
      go_quiet (fail)
      clear wr1 wr2 wr3 wr4
      by_cases hle:s.at_<q.off
      ·have HF:Hid (listsE p=8):=by
        have h9:vacErr p.vacs r=8:=by rw[HERR.out,qN (by rw[hv];decide),qR ⟨hr0,hle⟩]
        have h8:firstErr (vacErr p.vacs) p.vacs.length=8:=by rw[firstErr_hit HK.out (by rw[h9];decide) (by omega),h9]
        rw[HR.out,HT0.out,h8];rfl
       go_wp2_with fail
       go_ret
       exact⟨by rw[HF.out];rfl,HBA.out _⟩
      ·have HZ:Hid (zeroTo (vacErr p.vacs) (r+1)):=zeroTo_succ HK.out (by rw[HERR.out,qN (by rw[hv];decide),qN (fun h=>hle h.2)]);go_wp2_with fail
       go_roundw
       case rel=>exact⟨r+1,by omega,by go_num,HBB.out _,HZ⟩
       case measure=>simp[intOf];omega
    ·have HF:Hid (listsE p=0):=by
      have h8:firstErr (vacErr p.vacs) p.vacs.length=0:=firstErr_none (by rw[show p.vacs.length=r by omega];exact HK.out);rw[HR.out,HT0.out,h8];rfl
     clear x6;go_wp2_with fail
     go_ret
     exact⟨by rw[HF.out];rfl,HB0.out.trans (hbr.mono (by omega))⟩
end
section
open Go.RowKit Go.Maps
def ISet(P:Program)(k e:TypeId)(w:World)(b:Nat)(keys:List Int):Prop :=
 ∃ (n:Nat) (D:DataW Unit),n≤keys.length∧w.ownsMap P k (plainElem P e) b n D∧IsMap D ∧ ∀ key:Int,D.atKey (.int .i64 key) (.lit (.bool false))=.lit (.bool (hasI keys key))
theorem wf_i64{a:Int}(h : -9223372036854775808≤a∧a≤9223372036854775807):(Lit.int .i64 a).wf=true:=by
 have e1:IntKind.i64.min = -9223372036854775808:=by decide
 have e2:IntKind.i64.max=9223372036854775807:=by decide
 simp only[Lit.wf,e1,e2,qI,qL];exact h
section
variable {P:Program} {k e t:TypeId} {w w':World} {b:Nat} {keys:List Int}
theorem ISet.made(w:World):ISet P k e (w.alloc (.map #[] 0)) w.heap.size [] :=
 ⟨0,.map [],qD _,World.ownsMap_made _ _ _ _,isMap_empty,fun key=>rfl⟩
theorem ISet.keep(h:ISet P k e w b keys)(hb:w'.heap[b]? = w.heap[b]?):ISet P k e w' b keys:=by
 obtain⟨n,D,h1,⟨es,clock,h2,h3⟩,h4⟩:=h;exact⟨n,D,h1,⟨es,clock,hb.trans h2,h3⟩,h4⟩
theorem ISet.lookup(h:ISet P k e w b keys)(hk:P.underlying k=some (.int .i64))(ht:P.underlying t=some (.map k e))(he:P.underlying e=some .bool)(hz:(zeroValue e).run P w=.ok (.bool false) w)(key:Int)(hs : -9223372036854775808≤key∧key≤9223372036854775807) :
 (Instr.lookup t (.map (some b)) (.int .i64 key) false).run P w=.ok (.bool (hasI keys key)) w:=by
 obtain⟨n,D,_,h2,_,h3⟩:=h;obtain⟨v,ps,hrun,hv⟩:=h2.lookup (int_keyed hk) ht hz (plainElem_bool he false) (keyOf_int_mk hk (wf_i64 hs));rw[h3 key]at hv;have:v=.bool (hasI keys key):=by
  unfold plainElem at hv;rw[he]at hv;split at hv <;> simp_all
 rw[hrun,this]
theorem ISet.store(h:ISet P k e w b keys)(hk:P.underlying k=some (.int .i64))(ht:P.underlying t=some (.map k e))(he:P.underlying e=some .bool)(hl:keys.length<4611686018427387904)(key:Int)(hs : -9223372036854775808≤key∧key≤9223372036854775807) :
 ∃ w',(Instr.mapUpdate t (.map (some b)) (.int .i64 key) (.bool true)).run P w=.ok () w'∧ISet P k e w' b (keys++[key])∧w.grownBy w' (some b):=by
 obtain⟨n,D,h1,h2,h4,h3⟩:=h;have K:=int_keyed hk;have hkey:=keyOf_int_mk (P:=P) (k:=k) hk (wf_i64 hs);obtain⟨w',hrun,ho,hg⟩:=h2.update K ht (by unfold maxLen;omega) hkey (plainElem_bool he true);refine⟨w',hrun,⟨n+1,_,by simp;omega,ho, ?_,fun y =>?_⟩,hg⟩
 ·obtain⟨es,he',_⟩:=h4;exact⟨_,rfl⟩
 ·rw[hasI_snoc]
  by_cases hy:y=key
  ·subst hy;rw[atKey_put_same h4 (K.key hkey)];simp
  ·rw[atKey_put_other (by intro e;injection e with _ e;exact hy e),h3 y];simp[hy]
end
theorem wpList_iset_store{P:Program}{k e t:TypeId}{w:World}{b:Nat}{keys:List Int}{ops:Array Oper}{rest:List Oper}{o:Oper}{a:Act}{Q:Exit→Act→World→Prop}
 (hg:o.guard=none) (m x v:Operand) (hop:o.op=Op.mapUpdate t m x v) (hk:P.underlying k=some (.int .i64)) (ht:P.underlying t=some (.map k e)) (he:P.underlying e=some .bool)
 (hm:a.eval m=.map (some b)) (h:ISet P k e w b keys) (hl:keys.length<4611686018427387904) (key:Int) (hs : -9223372036854775808≤key∧key≤9223372036854775807) (hx:a.eval x=.int .i64 key) (hv:a.eval v=.bool true)
 (hK : ∀ w',ISet P k e w' b (keys++[key])→w.grownBy w' (some b)→wpList P ops Q rest (a.put o.dst undef) w'):wpList P ops Q (o::rest) a w:=by
 refine qP hg fun K' hK' =>?_
 obtain⟨w',hrun,r1,r2⟩:=h.store hk ht he hl key hs;unfold Oper.wp;simp[execOp,hop,hm,hx,hv,hrun,Result.andThen];exact hK' _ _ (hK w' r1 r2)
theorem iset_get{w:World}{b:Nat}{keys:List Int}(h:ISet Tryz.prog 3 4 w b keys)(key:Int)(hs : -9223372036854775808≤key∧key≤9223372036854775807) :
 (Instr.lookup 126 (.map (some b)) (.int .i64 key) false).run Tryz.prog w=.ok (.bool (hasI keys key)) w :=
 h.lookup Tryz.underlying3 Tryz.underlying126 Tryz.underlying4 (zeroBool w) key hs
end
section
open Go.RowKit
theorem ttE_small{t:GTT}(h:ttE t=0):t.airports.length≤64:=by
 unfold ttE at h
 by_cases hb:16<t.zones.length∨64<t.airports.length∨200<t.flights.length
 ·rw[qR hb]at h;exact absurd h (by decide)
 ·omega
theorem pErr_at(codes:List ByteArray)(l:List GPerson)(i:Nat):pErr codes l i=if idOk (l.getD i noPerson).id=false then 5 else
 if 0<i∧(l.getD i noPerson).id≤(l.getD (i-1) noPerson).id then 8 else
  if isNameB (l.getD i noPerson).name=false then 1 else
   if hasB codes (l.getD i noPerson).base=false then 6 else
    if rankOk (l.getD i noPerson).rank=false∨idOk (l.getD i noPerson).sen=false then 5 else
     if hasI (sens (l.take i)) (l.getD i noPerson).sen=true then 7 else
      if 8<(l.getD i noPerson).types.length∨8<(l.getD i noPerson).vacs.length then 10 else listsE (l.getD i noPerson):=rfl
theorem idOk_false{n:Int}(h:idOk n=false):n<1∨(¬n<1∧999999<n):=by
 unfold idOk at h;simp only[Bool.and_eq_false_iff,qU]at h;omega
theorem idOk_true{n:Int}(h:idOk n=true):1≤n∧n≤999999:=by
 unfold idOk at h;simp only[qI,qL]at h;omega
theorem rankOk_false{n:Int}(h:rankOk n=false):n<0∨(¬n<0∧3≤n):=by
 unfold rankOk at h;simp only[Bool.and_eq_false_iff,qU]at h;omega
theorem rankOk_true{n:Int}(h:rankOk n=true):0≤n∧n<3:=by
 unfold rankOk at h;simp only[qI,qL]at h;omega
theorem rs_false{r n:Int}(h:rankOk r=false∨idOk n=false):r<0∨(¬r<0∧3≤r)∨(¬r<0 ∧ ¬3≤r∧n<1)∨(¬r<0 ∧ ¬3≤r ∧ ¬n<1∧999999<n):=by
 rcases h with h|h
 ·have:=rankOk_false h;omega
 ·have:=idOk_false h;omega
theorem rs_true{r n:Int}(h : ¬(rankOk r=false∨idOk n=false)):0≤r∧r<3∧1≤n∧n≤999999:=by
 have h1:rankOk r=true:=by cases h1:rankOk r <;> simp_all
 have h2:idOk n=true:=by cases h2:idOk n <;> simp_all
 have:=rankOk_true h1;have:=idOk_true h2;omega
theorem crewValidate_any(t:GTT)(l:List GPerson)(A1 A2 A3 A4:Option Addr)(n1 n2 n3 n4 c1 c2 c3 c4:Nat)(w:World)(ht:t.ok)(hl : ∀ p∈l,p.ok)(hs1:Sl Ty.zone w (all_ w) A1 n1 c1 t.zones)(hs2:Sl Ty.airport w (all_ w) A2 n2 c2 t.airports)(hs3:Sl Ty.flight w (all_ w) A3 n3 c3 t.flights)(hs4:Sl Ty.person w (all_ w) A4 n4 c4 l) :
 Calls Tryz.prog 35 #[.agg #[.slice A1 n1 c1,.slice A2 n2 c2,.slice A3 n3 c3],.slice A4 n4 c4] w (ErrPost (crewE t l) w):=by
 have e2:=hs2.len;have e4:=hs4.len;have m2:=hs2.le;have m4:=hs4.le;unfold maxLen at m2 m4;have l2:n2≤t.airports.length:=by omega
 have l2':t.airports.length≤n2:=by omega
 have l4:n4≤l.length:=by omega
 have l4':l.length≤n4:=by omega
 clear e2 e4;have hmm := @run_makeMap Tryz.prog;have hb0:Below w.heap.size w (w.alloc (.cells #[.slice A1 n1 c1,.slice A2 n2 c2,.slice A3 n3 c3] 27)):=(qC _ _).alloc (qD _) _;have x1:(w.alloc (.cells #[.slice A1 n1 c1,.slice A2 n2 c2,.slice A3 n3 c3] 27)).cell? ⟨w.heap.size,1,none⟩=some (.slice A2 n2 c2):=by rw[World.cell?_alloc_at _ _ _ _ rfl];rfl
 have hsw:(w.alloc (.cells #[.slice A1 n1 c1,.slice A2 n2 c2,.slice A3 n3 c3] 27)).heap.size=w.heap.size+1:=by simp
 have HV:=qH (validate_any t A1 A2 A3 n1 n2 n3 c1 c2 c3 _ ht (hs1.next hb0) (hs2.next hb0) (hs3.next hb0));have OK2:=qH ht.2.1;have OKP:=qH hl;have HS2:=qH hs2;have HS4:=qH hs4;have HX1:=qH x1;have HW:=qH hsw;have HB0:=qH hb0;have HR:Hid (crewE t l=if ttE t≠0 then ttE t else if 64<l.length then 10 else firstErr (pErr (aCodes t.airports) l) l.length):=rfl;clear ht hl hs1 hs2 hs3 hs4 hb0 x1 hsw
 go_enter Tryz.func35,Tryz.ntmps35
 go_wp2_with fail
 refine HV.out.mono ?_;generalize hW:w.alloc (.cells #[.slice A1 n1 c1,.slice A2 n2 c2,.slice A3 n3 c3] 27)=W at*;clear HV hW;rintro e w1 ⟨rfl,hb1⟩;have hbW:Below w.heap.size w w1:=HB0.out.trans (hb1.mono (by have:=HW.out;omega));have x1:w1.cell? ⟨w.heap.size,1,none⟩=some (.slice A2 n2 c2):=(hb1.cell (by have:=HW.out;simp;omega)).trans HX1.out;have hs1:w.heap.size+1≤w1.heap.size:=by have:=hb1.size;have:=HW.out;omega
 by_cases h0:ttE t=0
 case neg =>
  have hne:(ttE t != 0)=true:=by simpa using h0
  have HF:Hid (crewE t l=ttE t):=by show _=_;rw[HR.out,qR h0]
  clear h0;go_wp2_with fail
  go_ret
  exact⟨by rw[HF.out];rfl,hbW⟩
 rw[h0]
 by_cases hbig:64<n4
 ·have HF:Hid (crewE t l=10):=by show _=_;rw[HR.out,qN (fun h=>h h0),qR (by omega)]
  go_wp2_with fail
  go_ret
  exact⟨by rw[HF.out];rfl,hbW⟩
 have HRR:Hid (crewE t l=firstErr (pErr (aCodes t.airports) l) l.length):=by show _=_;rw[HR.out,qN (fun h=>h h0),qN (by omega)]
 have b4:n4≤64:=by omega
 have b2:n2≤64:=by have:=ttE_small h0;omega
 have hb5:Below w1.heap.size w1 (w1.alloc (.map #[] 0)):=(qC _ _).alloc (qD _) _;have hset0:BSet Tryz.prog 9 4 (w1.alloc (.map #[] 0)) w1.heap.size []:=BSet.made w1;have x1':(w1.alloc (.map #[] 0)).cell? ⟨w.heap.size,1,none⟩=some (.slice A2 n2 c2):=(hb5.cell (by simp;omega)).trans x1;have hV:(w1.alloc (.map #[] 0)).heap.size=w1.heap.size+1:=by simp
 have hbV:Below w.heap.size w (w1.alloc (.map #[] 0)):=hbW.trans (hb5.mono (by omega));clear hbig HR h0 x1;go_wp2_with fail
 generalize hWV:w1.alloc (.map #[] 0)=V at*;clear hWV;have HM:Hid (w.heap.size+1≤w1.heap.size):=hs1;have HBV:=qH hbV;have HVS:=qH hV;clear hb1 hbW hb5 x1' hbV hV hs1;generalize hM:w1.heap.size=M at*;clear hM;go_loopw [8,25] (fun _ i wr => ∃ k:Nat,k≤n2∧i=.int .i64 k∧Below M V wr∧BSet Tryz.prog 9 4 wr M (aCodes (t.airports.take k))) (fun _ i _=>n2-(intOf i).toNat)
 case atStart=>exact⟨0,qV _,rfl,qC _ _,hset0⟩
 case round =>
  obtain⟨q,hq,rfl,hbr,hset⟩:=hrel;clear hset0;have hsz:M+1≤wr.heap.size:=by have:=hbr.size;have:=HVS.out;omega
  have hbw:Below w.heap.size w wr:=HBV.out.trans (hbr.mono (by have:=HM.out;omega))
  by_cases hlt:q<n2
  ·obtain⟨b,o,rfl,hbS,hc0,hc1⟩:=(HS2.out.keep (w':=wr) (all_keep hbw)).airport_at (k:=q) (by omega);have haok:=OK2.out _ (getD_in (show q<t.airports.length by omega) noAirport);have HTK:Hid (aCodes (t.airports.take (q+1))=aCodes (t.airports.take q)++[(t.airports.getD q noAirport).code]):=by show _=_;rw[take_getD (by omega) noAirport];unfold aCodes;rw[List.map_append];rfl
   have hbl:b<wr.heap.size:=by unfold all_ at hbS;have:=HM.out;omega
   have hbne:b≠wr.heap.size:=by omega
   generalize hz:t.airports.getD q noAirport=a at*;have hba:Below wr.heap.size wr (wr.alloc (.cells #[.string a.code,.string a.zone] 101)):=(qC _ _).alloc (qD _) _;have hsetA:BSet Tryz.prog 9 4 (wr.alloc (.cells #[.string a.code,.string a.zone] 101)) M (aCodes (t.airports.take q)):=hset.keep (hba.block _ (by omega));have HNM:=qH haok.1;have hkl:(aCodes (t.airports.take q)).length<4611686018427387904:=by unfold aCodes;rw[List.length_map,List.length_take];omega
   clear hz haok hset;go_wp2_with (at_mapUpdate;refine wpList_bset_store rfl _ _ _ rfl Tryz.underlying9 Tryz.underlying95 Tryz.underlying4 rfl hsetA hkl a.code HNM.out rfl rfl ?_;intro w3 hset3 hg3)
   rw[←HTK.out]at hset3;have hb4:Below M V w3:=(hbr.trans (hba.mono (by omega))).grown hg3 (by have:=hba.size;omega) (fun x hx=>by injection hx with hx;omega);clear hg3 hsetA;go_wp2_with fail
   go_roundw
   case rel=>exact⟨q+1,by omega,by go_num,hb4,hset3⟩
   case measure=>simp[intOf];omega
  ·have hset1:BSet Tryz.prog 9 4 wr M (aCodes t.airports):=by rw[show t.airports=t.airports.take q by rw[List.take_of_length_le (by omega)]];exact hset
   have hb5:Below wr.heap.size wr (wr.alloc (.map #[] 0)):=(qC _ _).alloc (qD _) _;have hset5:BSet Tryz.prog 9 4 (wr.alloc (.map #[] 0)) M (aCodes t.airports):=hset1.keep (hb5.block _ (by omega));have hset6:ISet Tryz.prog 3 4 (wr.alloc (.map #[] 0)) wr.heap.size []:=ISet.made wr;have hbU:Below w.heap.size w (wr.alloc (.map #[] 0)):=hbw.trans (hb5.mono (by have:=HM.out;omega));have hU:(wr.alloc (.map #[] 0)).heap.size=wr.heap.size+1:=by simp
   clear hset hset1;go_wp2_with fail
   generalize hWU:wr.alloc (.map #[] 0)=U at*;clear hWU;have HBU:=qH hbU;have HUS:=qH hU;have HMM:Hid (M+1≤wr.heap.size):=hsz;have HSETB:=qH hset5;clear hbr hbw hb5 hbU hU hsz hset5;generalize hM2:wr.heap.size=M2 at*;clear hM2;go_loopw [10,11,12,36] (fun _ _ _ i wr => ∃ k:Nat,k≤n4∧i=.int .i64 k∧Below M2 U wr∧ISet Tryz.prog 3 4 wr M2 (sens (l.take k))∧Hid (zeroTo (pErr (aCodes t.airports) l) k)) (fun _ _ _ i _=>n4-(intOf i).toNat)
   case atStart=>exact⟨0,qV _,rfl,qC _ _,hset6,zeroTo_zero _⟩
   case round =>
    obtain⟨k,hk,rfl,hbr,hset,HK⟩:=hrel;clear hset6;have hsz:M2+1≤wr.heap.size:=by have:=hbr.size;have:=HUS.out;omega
    have hbw:Below w.heap.size w wr:=HBU.out.trans (hbr.mono (by have:=HM.out;have:=HMM.out;omega))
    by_cases hlt:k<n4
    ·obtain⟨b,o,B1,k1,d1,B2,k2,d2,rfl,hbS,hat,hsT,hsV⟩:=(HS4.out.keep (w':=wr) (all_keep hbw)).person_at (k:=k) (by omega);have hpok:=OKP.out _ (getD_in (show k<l.length by omega) noPerson);have HERR:=qH (pErr_at (aCodes t.airports) l k);have HTK:Hid (sens (l.take (k+1))=sens (l.take k)++[(l.getD k noPerson).sen]):=by show _=_;rw[take_getD (by omega) noPerson];unfold sens;rw[List.map_append];rfl
     have hprev:0<k→wr.cell? ⟨b,o+(k-1)*7,none⟩=some (.int .i64 (l.getD (k-1) noPerson).id):=fun h0=>by
      obtain⟨b',o',_,_,_,_,_,_,e',_,hat',_,_⟩:=(HS4.out.keep (w':=wr) (all_keep hbw)).person_at (k:=k-1) (by omega);simp only[Option.some.injEq,Addr.mk.injEq,and_true]at e';obtain⟨rfl,rfl⟩:=e';exact hat' 0 _ rfl
     have hbl:b<wr.heap.size:=by unfold all_ at hbS;have:=hbw.size;omega
     have hbne:b≠wr.heap.size:=by omega
     generalize hz:l.getD k noPerson=p at*;generalize hz':(l.getD (k-1) noPerson).id=pid at*;clear hz hz';have y0:wr.cell? ⟨b,o+k*7,none⟩=some (.int .i64 p.id):=hat 0 _ rfl;have y1:=hat 1 _ rfl;have y2:=hat 2 _ rfl;have y3:=hat 3 _ rfl;have y4:=hat 4 _ rfl;have y5:=hat 5 _ rfl;have y6:=hat 6 _ rfl;have hba:Below wr.heap.size wr (wr.alloc (.cells #[.int .i64 p.id,.string p.name,.string p.base,.int .i64 p.rank,.int .i64 p.sen,.slice B1 k1 d1,.slice B2 k2 d2] 75)):=(qC _ _).alloc (qD _) _;have HBX:Hid (∀ m,Below wr.heap.size wr ((wr.alloc (.cells #[.int .i64 p.id,.string p.name,.string p.base,.int .i64 p.rank,.int .i64 p.sen,.slice B1 k1 d1,.slice B2 k2 d2] 75)).drewN m)):=fun m=>below_drewN hba m
     have HXX:Hid (∀ m j,((wr.alloc (.cells #[.int .i64 p.id,.string p.name,.string p.base,.int .i64 p.rank,.int .i64 p.sen,.slice B1 k1 d1,.slice B2 k2 d2] 75)).drewN m).cell? ⟨wr.heap.size,j,none⟩=(#[.int .i64 p.id,.string p.name,.string p.base,.int .i64 p.rank,.int .i64 p.sen,.slice B1 k1 d1,.slice B2 k2 d2]:Array Value)[j]?):=fun m j=>by show(wr.alloc _).cell? _=_;rw[World.cell?_alloc_at _ _ _ _ rfl]
     have HBA:Hid (∀ m,Below w.heap.size w ((wr.alloc (.cells #[.int .i64 p.id,.string p.name,.string p.base,.int .i64 p.rank,.int .i64 p.sen,.slice B1 k1 d1,.slice B2 k2 d2] 75)).drewN m)):=fun m=>hbw.trans ((HBX.out m).mono hbw.size)
     have HAT:=qH hat;have HST:=qH hsT;have HSV:=qH hsV;have HPOK:=qH hpok;have HSET:=qH hset;have HBR:=qH hbr;have HBWR:=qH hbw;clear hat hsT hsV hpok hset hbr hbw hba
     by_cases ha:idOk p.id=true
     case neg =>
      have ha':idOk p.id=false:=by simpa using ha
      have HF:Hid (crewE t l=5):=by
       have h9:pErr (aCodes t.airports) l k=5:=by rw[HERR.out,qR ha']
       have h8:firstErr (pErr (aCodes t.airports) l) l.length=5:=by rw[firstErr_hit HK.out (by rw[h9];decide) (by omega),h9]
       rw[HRR.out,h8];rfl
      have h3:p.id<1∨(¬p.id<1∧999999<p.id):=by
       unfold idOk at ha';simp only[Bool.and_eq_false_iff,qU]at ha';omega
      clear ha ha' hprev;rcases h3 with h|⟨h,h'⟩
      all_goals
       go_wp2_with fail
       go_ret
       exact⟨by rw[HF.out];rfl,HBA.out 0⟩
     have ha1:1≤p.id∧p.id≤999999:=by
      unfold idOk at ha;simp only[qI,qL]at ha;omega
     obtain⟨ha1,ha2⟩:=ha1
     by_cases ho:0<k∧p.id≤pid
     case pos =>
      have hq:=hprev ho.1;have HF:Hid (crewE t l=8):=by
       have h9:pErr (aCodes t.airports) l k=8:=by rw[HERR.out,qN (by rw[ha];decide),qR ho]
       have h8:firstErr (pErr (aCodes t.airports) l) l.length=8:=by rw[firstErr_hit HK.out (by rw[h9];decide) (by omega),h9]
       rw[HRR.out,h8];rfl
      obtain⟨hk0,hle⟩:=ho;have wr1:IntKind.i64.wrap ((k:Int)-1)=(k:Int)-1:=qM _ (by omega);have wr2:0≤(k:Int)-1:=by omega
      have wr3:(k:Int)-1<(n4:Int):=by omega
      have wr4:((k:Int)-1).toNat=k-1:=by omega
      clear hprev ha;go_wp2_with fail
      go_quiet (fail)
      go_wp2_with fail
      go_ret
      exact⟨by rw[HF.out];rfl,HBA.out _⟩
     have hk0 : ¬0<k∨(0<k ∧ ¬p.id≤pid):=by omega
     have HO:=qH ho;clear ho;rcases hk0 with hk0|⟨hk0,hle⟩
     case' inr =>
      have hq:=hprev hk0;have wr1:IntKind.i64.wrap ((k:Int)-1)=(k:Int)-1:=qM _ (by omega);have wr2:0≤(k:Int)-1:=by omega
      have wr3:(k:Int)-1<(n4:Int):=by omega
      have wr4:((k:Int)-1).toNat=k-1:=by omega
      clear hprev;go_wp2_with fail
      go_quiet (fail)
      clear wr1 wr2 wr3 wr4 hq
     case' inl =>
      clear hprev;go_wp2_with fail
      go_quiet (fail)
     all_goals
      clear y0 y1 y2 y3 y4 y5 y6;have hbX:=HBX.out nq;have hcX:=HXX.out nq;have HBX2:=qH (HBA.out nq);have HXS:Hid ((World.drewN (wr.alloc (.cells #[.int .i64 p.id,.string p.name,.string p.base,.int .i64 p.rank,.int .i64 p.sen,.slice B1 k1 d1,.slice B2 k2 d2] 75)) nq).heap.size=wr.heap.size+1):=by show(wr.alloc _).heap.size=_;simp
      clear HBX HXX HBA;generalize hX2:World.drewN (wr.alloc (.cells #[.int .i64 p.id,.string p.name,.string p.base,.int .i64 p.rank,.int .i64 p.sen,.slice B1 k1 d1,.slice B2 k2 d2] 75)) nq=X2 at*;clear hX2;have z1:=hcX 1;have z2:=hcX 2;have z3:=hcX 3;have z4:=hcX 4;have z5:=hcX 5;have z6:=hcX 6;have hszX:=hbX.size;have hbU:Below M2 U X2:=HBR.out.trans (hbX.mono (by omega));have hsetX:=HSET.out.keep (hbX.block M2 (by omega));have hlb:=bset_get (HSETB.out.keep (hbU.block M (by have:=HMM.out;omega))) p.base HPOK.out.2.2.1;have hli:=iset_get hsetX p.sen HPOK.out.2.2.2.2.1;have HCX:=qH hcX;have HBXX:=qH hbX;have HSETX:=qH hsetX;have HBUX:=qH hbU;clear hcX hbX hsetX hbU
      by_cases hn:isNameB p.name=true
      case neg =>
       have hn':isNameB p.name=false:=by simpa using hn
       have HF:Hid (crewE t l=1):=by
        have h9:pErr (aCodes t.airports) l k=1:=by rw[HERR.out,qN (by rw[ha];decide),qN HO.out,qR hn']
        have h8:firstErr (pErr (aCodes t.airports) l) l.length=1:=by rw[firstErr_hit HK.out (by rw[h9];decide) (by omega),h9]
        rw[HRR.out,h8];rfl
       clear hn hlb hli;go_wp2_with (go_at_call 67;refine(isName_any p.name _ HPOK.out.2.1).mono ?_;rintro e w' ⟨rfl,rfl⟩;rw[hn'])
       go_ret
       exact⟨by rw[HF.out];rfl,HBX2.out⟩
      by_cases hbs:hasB (aCodes t.airports) p.base=true
      case neg =>
       have hbs':hasB (aCodes t.airports) p.base=false:=by simpa using hbs
       have HF:Hid (crewE t l=6):=by
        have h9:pErr (aCodes t.airports) l k=6:=by rw[HERR.out,qN (by rw[ha];decide),qN HO.out,qN (by rw[hn];decide),qR hbs']
        have h8:firstErr (pErr (aCodes t.airports) l) l.length=6:=by rw[firstErr_hit HK.out (by rw[h9];decide) (by omega),h9]
        rw[HRR.out,h8];rfl
       rw[hbs']at hlb;clear hbs hbs' hli;go_wp2_with (go_at_call 67;refine(isName_any p.name _ HPOK.out.2.1).mono ?_;rintro e w' ⟨rfl,rfl⟩;rw[hn])
       go_ret
       exact⟨by rw[HF.out];rfl,HBX2.out⟩
      rw[hbs]at hlb
      by_cases hrk:rankOk p.rank=false∨idOk p.sen=false
      case pos =>
       have HF:Hid (crewE t l=5):=by
        have h9:pErr (aCodes t.airports) l k=5:=by rw[HERR.out,qN (by rw[ha];decide),qN HO.out,qN (by rw[hn];decide),qN (by rw[hbs];decide),qR hrk]
        have h8:firstErr (pErr (aCodes t.airports) l) l.length=5:=by rw[firstErr_hit HK.out (by rw[h9];decide) (by omega),h9]
        rw[HRR.out,h8];rfl
       have h3:=rs_false hrk;clear hrk hbs hli;rcases h3 with h|⟨h,h'⟩|⟨h,h',h''⟩|⟨h,h',h'',h'''⟩
       all_goals
        go_wp2_with (go_at_call 67;refine(isName_any p.name _ HPOK.out.2.1).mono ?_;rintro e w' ⟨rfl,rfl⟩;rw[hn])
        go_ret
        exact⟨by rw[HF.out];rfl,HBX2.out⟩
      obtain⟨q1,q2,q3,q4⟩:=rs_true hrk
      by_cases hdup:hasI (sens (l.take k)) p.sen=true
      case pos =>
       have HF:Hid (crewE t l=7):=by
        have h9:pErr (aCodes t.airports) l k=7:=by rw[HERR.out,qN (by rw[ha];decide),qN HO.out,qN (by rw[hn];decide),qN (by rw[hbs];decide),qN hrk,qR hdup]
        have h8:firstErr (pErr (aCodes t.airports) l) l.length=7:=by rw[firstErr_hit HK.out (by rw[h9];decide) (by omega),h9]
        rw[HRR.out,h8];rfl
       rw[hdup]at hli;clear hrk hbs hdup;go_wp2_with (go_at_call 67;refine(isName_any p.name _ HPOK.out.2.1).mono ?_;rintro e w' ⟨rfl,rfl⟩;rw[hn])
       go_ret
       exact⟨by rw[HF.out];rfl,HBX2.out⟩
      have hdup':hasI (sens (l.take k)) p.sen=false:=by simpa using hdup
      rw[hdup']at hli;have lt1:=HST.out.len;have lt2:=HSV.out.len
      by_cases hlg:8<p.types.length∨8<p.vacs.length
      case pos =>
       have HF:Hid (crewE t l=10):=by
        have h9:pErr (aCodes t.airports) l k=10:=by rw[HERR.out,qN (by rw[ha];decide),qN HO.out,qN (by rw[hn];decide),qN (by rw[hbs];decide),qN hrk,qN hdup,qR hlg]
        have h8:firstErr (pErr (aCodes t.airports) l) l.length=10:=by rw[firstErr_hit HK.out (by rw[h9];decide) (by omega),h9]
        rw[HRR.out,h8];rfl
       have h3:8<k1∨(k1≤8∧8<k2):=by omega
       clear hrk hbs hdup hdup' lt1 lt2 hlg;rcases h3 with h|⟨h,h'⟩
       all_goals
        go_wp2_with (go_at_call 67;refine(isName_any p.name _ HPOK.out.2.1).mono ?_;rintro e w' ⟨rfl,rfl⟩;rw[hn])
        go_ret
        exact⟨by rw[HF.out];rfl,HBX2.out⟩
      have h81:k1≤8:=by omega
      have h82:k2≤8:=by omega
      have HPE:Hid (pErr (aCodes t.airports) l k=listsE p):=by
       show _=_;rw[HERR.out,qN (by rw[ha];decide),qN HO.out,qN (by rw[hn];decide),qN (by rw[hbs];decide),qN hrk,qN hdup,qN hlg]
      have hkl:(sens (l.take k)).length<4611686018427387904:=by unfold sens;rw[List.length_map,List.length_take];omega
      clear hrk hbs hdup hdup' lt1 lt2 hlg;go_wp2_with (first
       | (go_at_call 67;refine(isName_any p.name _ HPOK.out.2.1).mono ?_;rintro e w' ⟨rfl,rfl⟩;rw[hn])
       | (at_mapUpdate
          refine wpList_iset_store rfl _ _ _ rfl Tryz.underlying3 Tryz.underlying126 Tryz.underlying4 rfl HSETX.out hkl p.sen HPOK.out.2.2.2.2.1 rfl rfl ?_;intro w3 hset3 hg3;rw[←HTK.out]at hset3;clear hn z1 z2 z3 z4 z5 z6 hlb hli hkl q1 q2 q3 q4 h81 h82;have hg3s:=hg3.size;have hbw3:Below w.heap.size w w3:=HBX2.out.grown hg3 HBX2.out.size (fun q hq=>by injection hq with hq;have:=HM.out;have:=HMM.out;omega);have hbU3:Below M2 U w3:=HBUX.out.grown hg3 (by omega) (fun q hq=>by injection hq with hq;omega);have hc3 : ∀ j,w3.cell? ⟨wr.heap.size,j,none⟩=(#[.int .i64 p.id,.string p.name,.string p.base,.int .i64 p.rank,.int .i64 p.sen,.slice B1 k1 d1,.slice B2 k2 d2]:Array Value)[j]? :=fun j =>
           (cell_of_same (hg3.block wr.heap.size (by have:=HXS.out;omega) (by intro e;injection e with e;omega))).trans (HCX.out j)
          have hT:=((HST.out.keep (w':=w3) fun b hb=>(all_keep hbw3 b hb).trans (all_keep HBWR.out b hb).symm).more (all_more hbw3))
          have hV:=((HSV.out.keep (w':=w3) fun b hb=>(all_keep hbw3 b hb).trans (all_keep HBWR.out b hb).symm).more (all_more hbw3))
          have HVL:=qH (validateLists_any p B1 B2 k1 k2 d1 d2 w3 HPOK.out hT hV);have z0:w3.cell? ⟨wr.heap.size,0,none⟩=some (.int .i64 p.id):=hc3 0;have z1:w3.cell? ⟨wr.heap.size,1,none⟩=some (.string p.name):=hc3 1;have z2:w3.cell? ⟨wr.heap.size,2,none⟩=some (.string p.base):=hc3 2;have z3:w3.cell? ⟨wr.heap.size,3,none⟩=some (.int .i64 p.rank):=hc3 3;have z4:w3.cell? ⟨wr.heap.size,4,none⟩=some (.int .i64 p.sen):=hc3 4;have z5:w3.cell? ⟨wr.heap.size,5,none⟩=some (.slice B1 k1 d1):=hc3 5;have z6:w3.cell? ⟨wr.heap.size,6,none⟩=some (.slice B2 k2 d2):=hc3 6;clear hc3 hT hV hg3))
      refine HVL.out.mono ?_;rintro e w4 ⟨rfl,hb4⟩;have hb4s:=hb4.size;have hbU4:Below M2 U w4:=hbU3.trans (hb4.mono (by omega));have hbw4:Below w.heap.size w w4:=hbw3.trans (hb4.mono hbw3.size);have hset4:=hset3.keep (hb4.block M2 (by omega));clear hb4 hset3 z0 z1 z2 z3 z4 z5 z6
      by_cases he:listsE p=0
      ·have HZ:Hid (zeroTo (pErr (aCodes t.airports) l) (k+1)):=zeroTo_succ HK.out (by rw[HPE.out,he]);rw[he];clear he;go_wp2_with fail
       go_roundw
       case rel=>exact⟨k+1,by omega,by go_num,hbU4,hset4,HZ⟩
       case measure=>simp[intOf];omega
      ·have hne:(listsE p != 0)=true:=by simpa using he
       have HF:Hid (crewE t l=listsE p):=by
        have h8:firstErr (pErr (aCodes t.airports) l) l.length=listsE p:=by rw[firstErr_hit HK.out (by rw[HPE.out];exact he) (by omega),HPE.out]
        rw[HRR.out,h8];rfl
       clear he;go_wp2_with fail
       go_ret
       exact⟨by rw[HF.out];rfl,hbw4⟩
    ·have HF:Hid (crewE t l=0):=by
      have h8:firstErr (pErr (aCodes t.airports) l) l.length=0:=firstErr_none (by rw[show l.length=k by omega];exact HK.out);rw[HRR.out,h8];rfl
     go_wp2_with fail
     go_ret
     exact⟨by rw[HF.out];rfl,hbw⟩
end
end Go.Proofs.YtifconapjfdkcaaGreatDoor

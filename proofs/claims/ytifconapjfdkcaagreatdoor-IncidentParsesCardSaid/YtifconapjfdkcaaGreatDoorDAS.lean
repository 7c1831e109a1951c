/-
  Joined texts: IncMem; Fields; Numbers. What each proves stands ahead of it, with its conditions.
-/
import Derived.Test.YtifconapjfdkcaaGreatDoorDAK
import Derived.Test.YtifconapjfdkcaaGreatDoorDAR
import Derived.Test.YtifconapjfdkcaaGreatDoorDAD
import Derived.Test.YtifconapjfdkcaaGreatDoorDAA
import Derived.Test.YtifconapjfdkcaaGreatDoorDAH
import Derived.Deep.QuietTactic
import Derived.BigQuiet
import Derived.Test.YtifconapjfdkcaaGreatDoorDAM
import Derived.Test.YtifconapjfdkcaaGreatDoorDAB
import Derived.Sort.Grow
set_option linter.unusedSimpArgs false
set_option linter.unusedVariables false
set_option maxRecDepth 100000
set_option maxHeartbeats 12800000
namespace Go.Proofs.YtifconapjfdkcaaGreatDoor
section
open Go.RowKit
def GInc.ok(x:GInc):Prop:=(-9223372036854775808≤x.kind∧x.kind≤9223372036854775807)∧(-9223372036854775808≤x.flight∧x.flight≤9223372036854775807)∧(-9223372036854775808≤x.minutes∧x.minutes≤9223372036854775807) ∧
 x.airport.size≤maxLen∧(-9223372036854775808≤x.person∧x.person≤9223372036854775807)∧x.span.ok
def Ty.inc:Ty GInc:={
 size:=7
 rep:=fun _ _ cs x=>cs=incCells x
 ok:=GInc.ok
 pos:=by decide
 len:=fun h=>by rw[h];rfl
 keep:=fun h _=>h
 more:=fun h _=>h
 one:=fun h u hu=>by rw[h]at hu;simp[incCells]at hu;rcases hu with rfl|rfl|rfl|rfl|rfl|rfl|rfl <;> rfl }
theorem Sl.inc_at{w:World}{S:Nat→Prop}{A:Option Addr}{n c:Nat}{xs:List GInc}(h:Sl Ty.inc w S A n c xs){k:Nat}(hk:k<xs.length) : ∃ b o,A=some ⟨b,o,none⟩∧S b∧At w b (o+k*7) (incCells (xs.getD k noInc)):=by
 obtain⟨b,o,cs,e,hs,hr,ha⟩:=h.at_ hk;have hr':cs=incCells xs[k]:=hr;subst hr';have:xs.getD k noInc=xs[k]:=by rw[qF,qG hk];rfl
 rw[this];exact⟨b,o,e,hs,ha⟩
def incVal(x:GInc):Value:=.agg #[.int .i64 x.kind,.int .i64 x.flight,.int .i64 x.minutes,.string x.airport,.int .i64 x.person,.int .i64 x.span.at_,.int .i64 x.span.off]
def BoolP(b:Bool)(w:World)(e:Ending)(w':World):Prop:=e=.returned (.bool b)∧Below w.heap.size w w'
theorem incKnown_any(k:Int)(w:World):Calls Tryz.prog 36 #[.int .i64 k] w fun e w'=>e=.returned (.bool (decide (1≤k∧k≤4)))∧w'=w:=by
 by_cases h1:1≤k
 ·by_cases h2:k≤4
  ·go_enter Tryz.func36,Tryz.ntmps36
   go_wp2_with fail
   go_ret
   exact⟨ret_bool (decide_eq_true ⟨h1,h2⟩).symm,rfl⟩
  ·go_enter Tryz.func36,Tryz.ntmps36
   go_wp2_with fail
   go_ret
   exact⟨ret_bool (decide_eq_false fun h=>by omega).symm,rfl⟩
 ·go_enter Tryz.func36,Tryz.ntmps36
  go_wp2_with fail
  go_ret
  exact⟨ret_bool (by simp;omega),rfl⟩
theorem noStr_iff(a:ByteArray):a=noStr↔a.toList=[]:=by
 rw[ByteArray.toList_eq];obtain⟨⟨l⟩⟩:=a;unfold noStr;simp
theorem shaped_any(x:GInc)(w:World)(hk:1≤x.kind∧x.kind≤4):Calls Tryz.prog 39 #[incVal x] w (BoolP (shapedI x) w):=by
 unfold incVal;have hbw : ∀ o1,Below w.heap.size w (w.alloc o1):=fun o1=>(qC _ _).alloc (qD _) _
 obtain⟨kind,fl,mi,ai,pe,⟨s1,s2⟩⟩:=x;simp only at hk ⊢;have hk':kind=1∨kind=2∨kind=3∨kind=4:=by omega
 rcases hk' with rfl|rfl|rfl|rfl
 all_goals
  go_enter Tryz.func39,Tryz.ntmps39
  go_wp2_with fail
 all_goals go_ret
 all_goals
  refine⟨ret_bool ?_,hbw _⟩;unfold shapedI;simp only[noStr_iff];simp[*]
end
section
open Go.RowKit
def Glo(w:World):Prop := ∃ m,w.cell? ⟨0,0,none⟩=some (.int .i64 m)
theorem Glo.next{w w':World}(h:Glo w)(hb:Below w.heap.size w w'):Glo w':=by
 obtain⟨m,hm⟩:=h;exact⟨m,cell_kept hm hb⟩
theorem glo_of_shaped{w:World}(h:w.ShapedOpen Tryz.prog):Glo w :=
 Go.Proofs.cell_of_shapedOpen_int (zero := #[.int .i64 0]) (t:=3) h (of_decide_eq_true (by kernel_rfl)) (by kernel_rfl) rfl (by kernel_rfl) (by kernel_rfl) Tryz.underlying3
theorem strElem:Elem Tryz.prog 36 9 1 16:=⟨Tryz.underlying36,by kernel_rfl⟩
def cutB(c:UInt8)(s:ByteArray):ByteArray:=bs (s.data.toList.takeWhile (fun b=>b != c))
theorem cutB_size(c:UInt8)(s:ByteArray):(cutB c s).size≤s.size:=by
 unfold cutB;rw[bs_size,Lib.size_eq];exact(List.takeWhile_prefix _).length_le
theorem indexByte_take(c:UInt8)(l:List UInt8):(0≤Lib.indexByte l c→(Lib.indexByte l c).toNat<l.length∧l.take (Lib.indexByte l c).toNat=l.takeWhile (fun b=>b != c))∧(¬0≤Lib.indexByte l c→l=l.takeWhile (fun b=>b != c)):=by
 induction l with
 | nil=>simp[Lib.indexByte]
 | cons b l ih =>
  rw[Lib.indexByte]
  by_cases hb:b=c
  ·subst hb;simp
  ·have hge:=Lib.indexByte_ge l c;have hne:(b != c)=true:=by simp[hb]
   have hbe:(b==c)=false:=by simp[hb]
   rw[hbe];simp only[Bool.false_eq_true,if_false]
   by_cases hi:Lib.indexByte l c = -1
   ·have:=ih.2 (by omega);simp only[hi,beq_self_eq_true,if_true];refine⟨fun h=>absurd h (by omega),fun _ =>?_⟩;rw[List.takeWhile_cons,qR hne, ←this]
   ·have h2:(Lib.indexByte l c == -1)=false:=by simp[hi]
    have:=ih.1 (by omega);rw[h2];simp only[Bool.false_eq_true,if_false];refine⟨fun _ =>?_,fun h=>absurd h (by omega)⟩;rw[List.takeWhile_cons,qR hne, ←this.2,show(Lib.indexByte l c+1).toNat=(Lib.indexByte l c).toNat+1 by omega];exact⟨by rw[List.length_cons];omega,rfl⟩
theorem liteCut_one(s:ByteArray)(c:UInt8)(w:World)(hs:s.size≤maxLen) :
 Calls Tryz.prog 129 #[.string s,.string ⟨#[c]⟩] w fun e w' => ∃ (b:ByteArray) (x:Bool) (n:Nat),e=.returned (.tuple #[.string (cutB c s),.string b,.bool x])∧w'=w.drewN n:=by
 unfold maxLen at hs;obtain⟨h1,h2⟩:=indexByte_take c s.data.toList;have hge:=Lib.indexByte_ge s.data.toList c;have hix:=Tryz.stringslite_Index_one s c w;generalize hi:Lib.indexByte s.data.toList c=i at*;clear hi;have HIX:=qH hix;clear hix
 by_cases h0:0≤i
 ·obtain⟨h3,h4⟩:=h1 h0;obtain⟨k,rfl⟩:=Int.eq_ofNat_of_zero_le h0;rw[Int.toNat_natCast]at h3 h4;have HC:Hid (cutB c s=s.extract 0 k):=by show _=_;rw[extract_take];unfold cutB;rw[←h4];rfl
  have hsz:=Lib.size_eq s;have hk:k<s.size:=by omega
  clear h1 h2 h3 h4 h0 hsz
  go_enter Tryz.func129,Tryz.ntmps129
  go_wp2_with fail
  refine HIX.out.mono ?_;rintro e w' ⟨rfl,rfl⟩;go_wp2_with fail
  go_quiet (fail)
  go_wp2_with fail
  go_ret3
  exact⟨_,_,_,by rw[HC.out];rfl,rfl⟩
 ·have HC:Hid (cutB c s=s):=by show _=_;unfold cutB;rw[←h2 h0];rfl
  have hlt:i<0:=by omega
  clear h1 h2 h0
  go_enter Tryz.func129,Tryz.ntmps129
  go_wp2_with fail
  refine HIX.out.mono ?_;rintro e w' ⟨rfl,rfl⟩;go_wp2_with fail
  go_ret3
  exact⟨_,_,0,by rw[HC.out];rfl,rfl⟩
theorem cut_one_any(s:ByteArray)(c:UInt8)(w:World)(hs:s.size≤maxLen) :
 Calls Tryz.prog 97 #[.string s,.string ⟨#[c]⟩] w fun e w' => ∃ (b:ByteArray) (x:Bool) (n:Nat),e=.returned (.tuple #[.string (cutB c s),.string b,.bool x])∧w'=w.drewN n:=by
 go_enter Tryz.func97,Tryz.ntmps97
 go_wp2_with fail
 refine(liteCut_one s c w hs).mono ?_;rintro e w' ⟨b,x,n,rfl,rfl⟩;go_wp2_with fail
 go_ret3
 exact⟨b,x,n,rfl,rfl⟩
def piecesB(c:UInt8)(s:ByteArray):List ByteArray:=(splitL c s.data.toList).map bs
theorem split_any(s:ByteArray)(c:UInt8)(w:World)(hs:s.size<4294967281)(hg:Glo w) :
 Calls Tryz.prog 95 #[.string s,.string ⟨#[c]⟩] w fun e w'=>e=.returned (.slice (some ⟨w.heap.size,0,none⟩) (piecesB c s).length (piecesB c s).length)∧w'=w.alloc (.cells ((piecesB c s).map Value.string).toArray 9):=by
 obtain⟨m,hm⟩:=hg;have h1:(1:Nat)≤(⟨#[c]⟩:ByteArray).size:=qD _;have hlen:=Lib.splitB_all ⟨#[c]⟩ h1 0 _ s rfl;have hsp:=splitB_one c s;refine(Tryz.strings_Split s ⟨#[c]⟩ m w hs hm h1).mono ?_;rintro e w' ⟨rfl,rfl⟩;rw[←hlen,hsp];exact⟨rfl,rfl⟩
theorem piecesB_le(c:UInt8)(s:ByteArray):(piecesB c s).length≤s.size+1:=by
 unfold piecesB;rw[List.length_map,splitL_length,Lib.size_eq];have:=List.count_le_length (a:=c) (l:=s.data.toList);omega
def keptTo(ps:List ByteArray)(k:Nat):List ByteArray:=(ps.take k).filter (fun f => !f.toList.isEmpty)
theorem keptTo_succ(ps:List ByteArray)(k:Nat)(hk:k<ps.length):keptTo ps (k+1)=keptTo ps k++(if ps[k].toList.isEmpty then [] else [ps[k]]):=by
 unfold keptTo;rw[List.take_succ_eq_append_getElem hk,List.filter_append]
 congr 1
 rw[List.filter_cons]
 cases ps[k].toList.isEmpty <;> simp
theorem keptTo_le(ps:List ByteArray)(k:Nat):(keptTo ps k).length≤k:=by
 unfold keptTo;exact Nat.le_trans (List.length_filter_le _ _) (by rw[List.length_take];omega)
theorem keptTo_all(s:ByteArray):keptTo (piecesB 32 (cutB 35 s)) (piecesB 32 (cutB 35 s)).length=fieldsB s:=by
 unfold keptTo piecesB cutB fieldsB fieldsL;rw[List.take_length,bs_data,List.filter_map]
 congr 1
 refine List.filter_congr fun f _ =>?_
 show(!(bs f).toList.isEmpty)=_;rw[ByteArray.toList_eq,bs_data]
theorem fields_gen(s:ByteArray)(w:World)(hs:s.size≤maxLen)(hsz:(cutB 35 s).size<2147483648)(hg:Glo w) :
 Calls Tryz.prog 61 #[.string s] w fun e w' => ∃ v,e=.returned v∧Own Ty.str 9 w' w.heap.size v (fieldsB s)∧Below w.heap.size w w':=by
 have HA:=qH (keptTo_all s)
 go_enter Tryz.func61,Tryz.ntmps61
 go_wp2_with fail
 refine(cut_one_any s 35 w hs).mono ?_;rintro e w' ⟨b,x,n,rfl,rfl⟩;go_wp2_with fail
 refine(split_any _ _ _ (by omega) (hg.next (below_drewN (qC _ _) n))).mono ?_;rintro e w' ⟨rfl,rfl⟩;have hpl:=piecesB_le 32 (cutB 35 s);generalize hps:piecesB 32 (cutB 35 s)=ps at*;clear hps;have hc : ∀ k (h:k<ps.length),((w.drewN n).alloc (.cells (ps.map Value.string).toArray 9)).cell? ⟨w.heap.size,k,none⟩=some (.string ps[k]):=by
  intro k h;rw[World.cell?_alloc_at _ _ _ _ (show w.heap.size=(w.drewN n).heap.size from rfl)];simp[h]
 have hbl:Below w.heap.size w ((w.drewN n).alloc (.cells (ps.map Value.string).toArray 9)):=(below_drewN (qC _ _) n).alloc (qD _) _;have hws:((w.drewN n).alloc (.cells (ps.map Value.string).toArray 9)).heap.size=w.heap.size+1:=by simp
 generalize hW:(w.drewN n).alloc (.cells (ps.map Value.string).toArray 9)=W at*;clear hW;have HC:=qH hc;clear hc;have HWS:=qH hws;clear hws;go_wp2_with fail
 go_loopw [3,15] (fun v i wr => ∃ k:Nat,k≤ps.length∧i=.int .i64 k∧Own Ty.str 9 wr (w.heap.size+1) v (keptTo ps k)∧Below (w.heap.size+1) W wr) (fun _ i _=>ps.length-(intOf i).toNat)
 case atStart=>exact⟨0,qV _,rfl,Own.nil,qC _ _⟩
 case round =>
  obtain⟨k,hk,rfl,hown,hbr⟩:=hrel;have hkl:=keptTo_le ps k;have hbs:w.heap.size+1≤wr.heap.size:=by have:=hbr.size;have:=HWS.out;omega
  by_cases hlt:k<ps.length
  ·have hcell:wr.cell? ⟨w.heap.size,k,none⟩=some (.string ps[k]):=(hbr.cell (by simp)).trans (HC.out k hlt);have HK:=qH (keptTo_succ ps k hlt)
   by_cases he:(!ps[k].toList.isEmpty)=true
   ·have HE:=qH he;go_wp2_with (at_builtin;refine wpList_push_str rfl _ _ rfl strElem rfl (hown.alloc _) wr.heap.size ps[k] rfl ?c1 ?c2 ?c3 (qD _) (hbr.alloc hbs _) ?_)
    case c1=>simp
    case c2=>omega
    case c3=>simp;omega
    intro v' w1 hown' hbr2;have hown2:Own Ty.str 9 w1 (w.heap.size+1) v' (keptTo ps (k+1)):=by
     have hE:=HE.out;simp at hE;rw[HK.out];simpa[hE] using hown'
    clear hown' hown;go_wp2_with fail
    go_roundw
    case rel=>exact⟨k+1,by omega,by go_num,hown2,hbr2⟩
    case measure=>simp[intOf];omega
   ·have he':(!ps[k].toList.isEmpty)=false:=by simpa using he
    have HE:=qH he';clear he;have hown2:Own Ty.str 9 wr (w.heap.size+1) u3 (keptTo ps (k+1)):=by
     have hE:=HE.out;simp at hE;rw[HK.out];simpa[hE] using hown
    clear hown;go_wp2_with fail
    go_roundw
    case rel=>exact⟨k+1,by omega,by go_num,hown2,hbr⟩
    case measure=>simp[intOf];omega
  ·go_wp2_with fail
   go_ret
   have e1:k=ps.length:=by omega
   subst e1;rw[HA.out]at hown;exact⟨_,rfl,hown.lower (Nat.le_succ _),hbl.trans (hbr.mono (by omega))⟩
theorem fields_own(s:ByteArray)(w:World)(hs:s.size<2147483648)(hg:Glo w) :
 Calls Tryz.prog 61 #[.string s] w fun e w' => ∃ v,e=.returned v∧Own Ty.str 9 w' w.heap.size v (fieldsB s)∧Below w.heap.size w w' :=
 fields_gen s w (by unfold maxLen;omega) (Nat.lt_of_le_of_lt (cutB_size 35 s) hs) hg
end
section
open Go.RowKit Go.Sort
theorem trimPrefix_any(s:ByteArray)(w:World) :
 Calls Tryz.prog 134 #[.string s,.string ⟨#[45]⟩] w fun e w'=>e=.returned (.string (stripB s))∧w=w':=by
 refine(Tryz.strings_TrimPrefix s ⟨#[45]⟩ w).mono ?_;rintro e w' ⟨rfl,rfl⟩;exact⟨rfl,rfl⟩
def ParsePost(s:ByteArray)(w:World)(e:Ending)(w':World):Prop:=e=.returned (.tuple #[.int .i64 (parseB s).1,.int .i64 (parseB s).2])∧w=w'
def parseD(d:ByteArray)(neg:Prop)[Decidable neg]:Int×Int :=
 if d.size<1∨10<d.size then (0,1) else
  if byteAt d 0=48∧(1<d.size∨neg) then (0,1) else
   if allTo (digAt d) d.size=false then (0,1) else (if neg then-numTo d d.size else numTo d d.size,0)
theorem parseB_D(s:ByteArray):parseB s=parseD (stripB s) ((stripB s).size<s.size):=rfl
theorem parseInt_any(s:ByteArray)(w:World)(hs:s.size≤maxLen):Calls Tryz.prog 100 #[.string s] w (ParsePost s w):=by
 unfold maxLen at hs;have HP:=qH (parseB_D s);have hds:(stripB s).size≤s.size:=by rw[stripB_size];split <;> omega
 go_enter Tryz.func100,Tryz.ntmps100
 go_wp2_with fail
 refine(trimPrefix_any s w).mono ?_;rintro e w' ⟨rfl,rfl⟩;generalize hd:stripB s=d at*;clear hd
 by_cases h1:d.size<1
 ·have HR:Hid (parseB s=(0,1)):=by rw[HP.out];show parseD _ _=_;unfold parseD;rw[qR (.inl h1)]
  clear HP;go_wp2_with fail
  go_ret2
  exact⟨by rw[HR.out];rfl,rfl⟩
 by_cases h2:10<d.size
 ·have HR:Hid (parseB s=(0,1)):=by rw[HP.out];show parseD _ _=_;unfold parseD;rw[qR (.inr h2)]
  clear HP;go_wp2_with fail
  go_ret2
  exact⟨by rw[HR.out];rfl,rfl⟩
 have HB0:=qH (byteAt_eq d 0 (by omega))
 by_cases h4:byteAt d 0=48∧(1<d.size∨d.size<s.size)
 ·have HR:Hid (parseB s=(0,1)):=by rw[HP.out];show parseD _ _=_;unfold parseD;rw[qN (by omega),qR h4]
  have e0:((d[0].toNat:Int)==48)=true:=by rw[HB0.out];simpa using h4.1
  by_cases h5:1<d.size
  ·clear h4 HP;go_wp2_with fail
   go_ret2
   exact⟨by rw[HR.out];rfl,rfl⟩
  ·have h6:d.size<s.size:=by omega
   clear h4 HP;go_wp2_with fail
   go_ret2
   exact⟨by rw[HR.out];rfl,rfl⟩
 ·have HR:Hid (parseB s=if allTo (digAt d) d.size=false then (0,1) else (if d.size<s.size then-numTo d d.size else numTo d d.size,0)):=by
   rw[HP.out];show parseD _ _=_;unfold parseD;rw[qN (by omega),qN h4]
  have hcase:(((d[0].toNat:Int)==48)=false∧d.size<s.size)∨(((d[0].toNat:Int)==48)=false ∧ ¬d.size<s.size)∨(((d[0].toNat:Int)==48)=true ∧ ¬d.size<s.size):=by
   rw[HB0.out]
   by_cases h0:byteAt d 0=48
   ·right;right;exact⟨by simpa using h0,by omega⟩
   ·by_cases h6:d.size<s.size
    ·left;exact⟨by simpa using h0,h6⟩
    ·right;left;exact⟨by simpa using h0,h6⟩
  have hle1:byteAt d 0=48 → ¬1<d.size:=fun h=>by omega
  have h5:((d[0].toNat:Int)==48)=true → ¬1<d.size:=fun h=>hle1 (by rw[←HB0.out];simpa using h)
  clear h4 HP hle1;rcases hcase with ⟨e0,hneg⟩|⟨e0,hneg⟩|⟨e0,hneg⟩
  case' inr.inr=>have h7:=h5 e0
  all_goals
   clear h5;go_wp2_with fail
   clear e0
   go_loop [2,3,6,7,36] (fun _ _ n _ i => ∃ k:Nat,k≤d.size∧n=.int .i64 (numTo d k)∧i=.int .i64 k∧Hid (allTo (digAt d) k=true)) (fun _ _ _ _ i=>d.size-(intOf i).toNat)
   case atStart=>exact⟨0,by omega,rfl,rfl,rfl⟩
   case round =>
    obtain⟨k,hk,rfl,rfl,HA⟩:=hrel;obtain⟨hn1,hn2⟩:=numTo_bd d k HA.out;have hb:bnd k≤9999999999:=bnd_mono (k:=10) (by omega)
    by_cases hlt:k<d.size
    ·have HB:=qH (byteAt_eq d k hlt);have hb1:=byteAt_lo d k;have hb2:=byteAt_hi d k
     by_cases hdg:digAt d k=true
     ·have hdd:=hdg;unfold digAt numberI at hdd;simp only[qI,qL]at hdd;have l1:48≤(d[k].toNat:Int):=by rw[HB.out];exact hdd.1
      have l2:(d[k].toNat:Int)≤57:=by rw[HB.out];exact hdd.2
      have HA2:Hid (allTo (digAt d) (k+1)=true):=by show allTo _ _=true;rw[allTo_succ,HA.out,hdg];rfl
      have HN:Hid (numTo d (k+1)=10*numTo d k+((d[k].toNat:Int)-48)):=by show _=_;rw[HB.out];rfl
      clear hdd hdg HA;go_wp2_with fail
      go_round
      case rel=>exact⟨k+1,by omega,by rw[HN.out],by go_num,HA2⟩
      case measure=>simp[intOf];omega
     ·have hdd:digAt d k=false:=by simpa using hdg
      have HF:=qH (allTo_false hlt hdd);unfold digAt numberI at hdd;rw[←HB.out]at hdd;have HD:=qH hdd;clear hdd hdg;go_wp2_with fail
      all_goals have HD2:=HD.out
      all_goals first
       | (exfalso;simp at HD2;omega)
       | (go_ret2;exact⟨by rw[HR.out,qR HF.out];rfl,rfl⟩)
    ·have hkk:k=d.size:=by omega
     subst hkk;have HT:=qH HA.out
     first
     | (have HR2:Hid (parseB s=(- numTo d d.size,0)):=by rw[HR.out,qN (by rw[HA.out];decide),qR hneg];rfl
        go_wp2_with fail
        go_ret2
        exact⟨by rw[HR2.out];rfl,rfl⟩)
     | (have HR2:Hid (parseB s=(numTo d d.size,0)):=by rw[HR.out,qN (by rw[HA.out];decide),qN hneg];rfl
        go_wp2_with fail
        go_ret2
        exact⟨by rw[HR2.out];rfl,rfl⟩)
theorem grow_below(w:World)(k:Nat)(os:Array Obj):Below w.heap.size w (grow (w.drewN k) os):=by
 refine⟨rfl,rfl,rfl, ?_,fun i hi =>?_⟩
 ·simp only[grow,World.heap_drewN,Array.size_append];omega
 ·simp only[grow,World.heap_drewN];rw[Array.getElem?_append,qR hi]
def Pow10(w:World):Prop:=Lib.TabIs Tryz.prog w "internal/strconv.uint64pow10" .u64 Lib.pow10Tab∧1<w.heap.size
theorem Pow10.next{w w':World}(h:Pow10 w)(hb:Below w.heap.size w w'):Pow10 w' :=
 ⟨var?_below hb (by kernel_rfl) h.2 h.1,Nat.lt_of_lt_of_le h.2 hb.size⟩
def fmtB(n:Int):ByteArray:=bs (Lib.itoa n)
theorem itoa_any(n:Int)(w:World)(h0 : -9223372036854775808≤n)(h1:n≤9223372036854775807)(hp:Pow10 w) :
 Calls Tryz.prog 93 #[.int .i64 n] w fun e w'=>e=.returned (.string (fmtB n))∧Below w.heap.size w w':=by
 refine(Tryz.strconv_Itoa n h0 h1 w hp.1).mono ?_;rintro e w' ⟨rfl,k,os,rfl⟩;exact⟨rfl,grow_below w k os⟩
theorem formatInt_any(n:Int)(w:World)(h0 : -9223372036854775808≤n)(h1:n≤9223372036854775807)(hp:Pow10 w) :
 Calls Tryz.prog 55 #[.int .i64 n] w fun e w'=>e=.returned (.string (fmtB n))∧Below w.heap.size w w':=by
 go_enter Tryz.func55,Tryz.ntmps55
 go_wp2_with fail
 refine(itoa_any n w h0 h1 hp).mono ?_;rintro e w' ⟨rfl,hb⟩;go_wp2_with fail
 go_ret
 exact⟨rfl,hb⟩
end
end Go.Proofs.YtifconapjfdkcaaGreatDoor

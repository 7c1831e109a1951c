/-
  Joined texts: Spoil; ApplyRPlain; ApplyRMem; RegionD; RegionW; RefInc. What each proves stands ahead of it, with its conditions.
-/
import Derived.Test.YtifconapjfdkcaaGreatDoorAAA
import Derived.Test.YtifconapjfdkcaaGreatDoorProg
import Derived.WalkKit
import Derived.WalkLawsBesides
import Derived.WalkSpells
import Derived.Lib.Hide
import Derived.Maps.AppendAt
import Derived.ProofKit
import Derived.Deep.Slices
import Derived.Lib.SplitLaws
import Derived.Lib.IndexMore
import Derived.Lib.Strings
import Derived.Deep.QuietTactic
import Derived.BigQuiet
import Derived.IntWalk
import Derived.Maps.OwnOps
import Derived.Maps.Views
import Derived.StillTailTactics
import Derived.Deep.RegionWith
import Derived.Lib.AppendStr
import Derived.Laws.Rows
import Derived.Laws.Tables
import Derived.Deep.AppendLies
import Derived.Deep.RegionLaw
import Derived.StillTail
import Derived.RegionTactic
import Derived.Deep.DeepCutAuto
import Derived.Sort.LotA
import Derived.Sort.Walk0
import Derived.Shelf.Strings.Builder1
import Derived.Shelf.Strings.Builder2
import Derived.Shelf.Small.Strs
import Derived.Shelf.Strings.BuilderF
import Derived.Shelf.Strconv.Itoa0
import Derived.Shelf.Strconv.Itoa1
import Derived.Shelf.LaysM
import Derived.Shelf.Strconv.Itoa2
import Derived.Shelf.Strconv.Itoa3
import Derived.Shelf.Strings.Search1
import Derived.Shelf.Strings.Search2
import Derived.Shelf.Strings.Search3
import Derived.Shelf.Strings.Cut
import Derived.Shelf.Strings.Count
import Derived.Shelf.Strings.Shaped
import Derived.Shelf.Strings.Prefix
import Derived.Shelf.Strings.Split
import Derived.Shelf.Strings.SplitShaped
import Derived.Shelf.Bits.Mul64
import Derived.Shelf.Strings.Repeat
import Derived.Shelf.Unicode.DecodeSlow
import Derived.Ground.SlsfProg
import Derived.Shelf.SlSortCmp.Insertion
import Derived.Shelf.SlSortCmp.Insertion1
import Derived.Lib.Bytealg
import Derived.Sort.OwnSortedInts
import Derived.Sort.WalkA
import Derived.Deep.OwnRows
import Derived.Deep.CutBlock
import Derived.Lib.ItoaNum
import Derived.Test.YtifconapjfdkcaaGreatDoorBAA
import Derived.Test.YtifconapjfdkcaaGreatDoorBAB
import Derived.Test.YtifconapjfdkcaaGreatDoorBAC
import Derived.Test.YtifconapjfdkcaaGreatDoorBAD
import Derived.Test.YtifconapjfdkcaaGreatDoorBAE
import Derived.Test.YtifconapjfdkcaaGreatDoorBAF
import Derived.Test.YtifconapjfdkcaaGreatDoorBAG
import Derived.Test.YtifconapjfdkcaaGreatDoorBAH
import Derived.Test.YtifconapjfdkcaaGreatDoorBAI
import Derived.Test.YtifconapjfdkcaaGreatDoorBAJ
import Derived.Test.YtifconapjfdkcaaGreatDoorBAK
import Derived.Test.YtifconapjfdkcaaGreatDoorBAL
import Derived.Test.YtifconapjfdkcaaGreatDoorBAM
import Derived.Test.YtifconapjfdkcaaGreatDoorBAN
import Derived.Test.YtifconapjfdkcaaGreatDoorBAO
import Derived.Test.YtifconapjfdkcaaGreatDoorBAP
import Derived.Test.YtifconapjfdkcaaGreatDoorBAQ
import Derived.Test.YtifconapjfdkcaaGreatDoorBAR
import Derived.Test.YtifconapjfdkcaaGreatDoorBAS
import Derived.Test.YtifconapjfdkcaaGreatDoorBAT
import Derived.Test.YtifconapjfdkcaaGreatDoorBAU
import Derived.Test.YtifconapjfdkcaaGreatDoorBAV
import Derived.Test.YtifconapjfdkcaaGreatDoorBAW
import Derived.Test.YtifconapjfdkcaaGreatDoorBAX
import Derived.Test.YtifconapjfdkcaaGreatDoorBAY
import Derived.Test.YtifconapjfdkcaaGreatDoorBAZ
import Derived.Test.YtifconapjfdkcaaGreatDoorBBA
import Derived.Test.YtifconapjfdkcaaGreatDoorBBB
import Derived.Test.YtifconapjfdkcaaGreatDoorBBC
import Derived.Test.YtifconapjfdkcaaGreatDoorBBD
import Derived.Test.YtifconapjfdkcaaGreatDoorBBE
import Derived.Test.YtifconapjfdkcaaGreatDoorBBF
import Derived.Test.YtifconapjfdkcaaGreatDoorBBG
import Derived.Test.YtifconapjfdkcaaGreatDoorBBH
import Derived.Test.YtifconapjfdkcaaGreatDoorBBI
import Derived.Test.YtifconapjfdkcaaGreatDoorBBJ
import Derived.Test.YtifconapjfdkcaaGreatDoorBBK
import Derived.Test.YtifconapjfdkcaaGreatDoorBBL
import Derived.Test.YtifconapjfdkcaaGreatDoorBBM
import Derived.Test.YtifconapjfdkcaaGreatDoorBBN
import Derived.Test.YtifconapjfdkcaaGreatDoorBBO
import Derived.Test.YtifconapjfdkcaaGreatDoorBBP
import Derived.Test.YtifconapjfdkcaaGreatDoorBBQ
import Derived.Test.YtifconapjfdkcaaGreatDoorBBR
import Derived.Test.YtifconapjfdkcaaGreatDoorBBS
import Derived.Test.YtifconapjfdkcaaGreatDoorBBT
import Derived.Test.YtifconapjfdkcaaGreatDoorBBU
import Derived.Test.YtifconapjfdkcaaGreatDoorBBV
import Derived.Test.YtifconapjfdkcaaGreatDoorBBW
namespace Go.Proofs.YtifconapjfdkcaaGreatDoor
set_option linter.unusedSimpArgs false
set_option linter.unusedVariables false
open Go.RowKit
def out0(xs:List GInc):List GInc:=if xs.length=0 then [⟨2,0,0,noStr,0,noShift⟩] else xs
def spMin(k:Int):Int:=[-1,0,720,721,1440,1441].getD (k%6).toNat 0
def xxxS:ByteArray:=⟨#[88,88,88]⟩
def spAir(k:Int):ByteArray:=[noStr,dCode 0,dCode 1,dCode 2,xxxS].getD (k%5).toNat noStr
def spOne(sel k:Int)(x:GInc):GInc :=
 if sel=0 then ⟨k%7-1,x.flight,x.minutes,x.airport,x.person,x.span⟩
 else if sel=1 then ⟨x.kind,k%8-1,x.minutes,x.airport,x.person,x.span⟩
 else if sel=2 then ⟨x.kind,x.flight,spMin k,x.airport,x.person,x.span⟩
 else if sel=3 then ⟨x.kind,x.flight,x.minutes,spAir k,x.person,x.span⟩
 else if sel=4 then ⟨x.kind,x.flight,x.minutes,x.airport,k%9,x.span⟩
 else if sel=5 then ⟨x.kind,x.flight,x.minutes,x.airport,x.person,⟨k%4-1,k/4%4⟩⟩
 else if sel=6 then ⟨x.kind,x.flight,x.minutes,x.airport,x.person,⟨1,52596000+k%2⟩⟩
 else x
def spoilI(xs:List GInc)(b:List Int):List GInc :=
 if atL b 0%12=7 then List.replicate 33 noInc
 else (out0 xs).set (atL b 1%(out0 xs).length).toNat (spOne (atL b 0%12) (atL b 1) ((out0 xs).getD (atL b 1%(out0 xs).length).toNat noInc))
theorem out0_len(xs:List GInc)(h:xs.length≤3):1≤(out0 xs).length∧(out0 xs).length≤3:=by
 unfold out0;split
 ·decide
 ·omega
def IncsPost(ys:List GInc)(w:World)(e:Ending)(w':World):Prop := ∃ A' n' c',e=.returned (.slice A' n' c')∧Sl Ty.inc w' (all_ w') A' n' c' ys∧Below w.heap.size w w'
theorem OwnS.inc_set{el:TypeId}{w:World}{base g n c:Nat}{xs:List GInc}(h:OwnS Ty.inc el w (fun _=>False) base (.slice (some ⟨g,0,none⟩) n c) xs){k j:Nat}(hk:k<xs.length)(hj:j<7){u:Value}{y:GInc}(hy:(incCells (xs.getD k noInc)).set j u=incCells y) :
 OwnS Ty.inc el (w.setCell ⟨g,k*7+j,none⟩ u) (fun _=>False) base (.slice (some ⟨g,0,none⟩) n c) (xs.set k y) :=
 h.setAt (t:=Ty.inc) hk hj (fun h=>h) fun cs hr=>by
  have e:xs.getD k y=xs.getD k noInc:=by
   rw[List.getD_eq_getElem?_getD,List.getD_eq_getElem?_getD,List.getElem?_eq_getElem hk];rfl
  rw[e]at hr;have hr':cs=incCells (xs.getD k noInc):=hr;subst hr';exact hy
theorem OwnS.inc_post{el:TypeId}{w w':World}{g n c:Nat}{xs:List GInc}(h:OwnS Ty.inc el w' (fun _=>False) w.heap.size (.slice (some ⟨g,0,none⟩) n c) xs)(hb:Below w.heap.size w w'):IncsPost xs w (.returned (.slice (some ⟨g,0,none⟩) n c)) w':=by
 have hg:=(h.lt g rfl).2;obtain⟨A,c',e,hs⟩:=h.sl;injection e with e1 e2 e3
 subst e1 e2 e3;refine⟨_,_,_,rfl,hs.more fun b hb =>?_,hb⟩;rcases hb with hb|hb
 ·exact hb.elim
 ·have hb':some g=some b:=hb;injection hb' with hb'
  show b<_;omega
theorem spMin_cell(r:Nat)(hr:r<6)(V:World):(V.alloc (.cells #[.int .i64 (-1),.int .i64 0,.int .i64 720,.int .i64 721,.int .i64 1440,.int .i64 1441] 3)).cell? ⟨V.heap.size,r,none⟩=some (.int .i64 ([-1,0,720,721,1440,1441].getD r 0)):=by
 have h:=heap_alloc_new V (.cells #[.int .i64 (-1),.int .i64 0,.int .i64 720,.int .i64 721,.int .i64 1440,.int .i64 1441] 3);have:r=0∨r=1∨r=2∨r=3∨r=4∨r=5:=by omega
 rcases this with rfl|rfl|rfl|rfl|rfl|rfl
 all_goals exact block_cell h _
theorem spAir_cell(r:Nat)(hr:r<5)(V:World):(V.alloc (.cells #[.string ⟨#[]⟩,.string ⟨#[65,65,65]⟩,.string ⟨#[66,66,66]⟩,.string ⟨#[67,67,67]⟩,.string ⟨#[88,88,88]⟩] 9)).cell? ⟨V.heap.size,r,none⟩=some (.string ([noStr,dCode 0,dCode 1,dCode 2,xxxS].getD r noStr)):=by
 have h:=heap_alloc_new V (.cells #[.string ⟨#[]⟩,.string ⟨#[65,65,65]⟩,.string ⟨#[66,66,66]⟩,.string ⟨#[67,67,67]⟩,.string ⟨#[88,88,88]⟩] 9);have:r=0∨r=1∨r=2∨r=3∨r=4:=by omega
 rcases this with rfl|rfl|rfl|rfl|rfl
 all_goals exact block_cell h _
theorem made_rep{w:World}{S:Nat→Prop}{cs:List Value}(h:cs=incCells noInc):Ty.inc.rep w S cs noInc:=h
theorem made_incs(V:World)(T:TypeId):Sl Ty.inc (V.alloc (.cells (madeCells (incCells noInc).toArray 231) T)) (all_ (V.alloc (.cells (madeCells (incCells noInc).toArray 231) T))) (some ⟨V.heap.size,0,none⟩) 33 33 (List.replicate 33 noInc):=by
 have h:=Sl.block (t:=Ty.inc) (S:=all_ (V.alloc (.cells (madeCells (incCells noInc).toArray 231) T))) (xs:=List.replicate 33 noInc) (heap_alloc_new V (.cells (madeCells (incCells noInc).toArray 231) T)) (show V.heap.size<_ by simp) (show 33≤maxLen by decide) fun i x hi=>by
  have hi':i<33∧x=noInc:=by
   rw[List.getElem?_replicate]at hi;split at hi
   ·rename_i h;injection hi with hi;exact⟨h,hi.symm⟩
   ·cases hi
  obtain⟨hi',rfl⟩:=hi';have hc:i=0∨i=1∨i=2∨i=3∨i=4∨i=5∨i=6∨i=7∨i=8∨i=9∨i=10∨i=11∨i=12∨i=13∨i=14∨i=15∨i=16∨i=17∨i=18∨i=19∨i=20∨i=21∨i=22∨i=23∨i=24∨i=25∨i=26∨i=27∨i=28∨i=29∨i=30∨i=31∨i=32:=by omega
  rcases hc with rfl|rfl|rfl|rfl|rfl|rfl|rfl|rfl|rfl|rfl|rfl|rfl|rfl|rfl|rfl|rfl|rfl|rfl|rfl|rfl|rfl|rfl|rfl|rfl|rfl|rfl|rfl|rfl|rfl|rfl|rfl|rfl|rfl
  all_goals exact made_rep (by kernel_rfl)
 exact h
theorem run_make_incs(w:World):(Instr.makeSlice 42 (.int .i64 33) (.int .i64 33)).run Tryz.prog w=.ok (.slice (some ⟨w.heap.size,0,none⟩) 33 33) (w.alloc (.cells (madeCells (incCells noInc).toArray 231) 59)):=by
 have h:=run_make (P:=Tryz.prog) w 42 59 ((Tryz.prog.info? 59).get (by kernel_rfl)) (((Tryz.prog.info? 59).get (by kernel_rfl)).zero.get (by kernel_rfl)) Tryz.underlying42 (Option.some_get _).symm (Option.some_get _).symm .i64 .i64 33 33 (by decide) (by decide) (by decide +kernel) (by decide);rw[h];have e:madeCells (((Tryz.prog.info? 59).get (by kernel_rfl)).zero.get (by kernel_rfl)).cells (Int.toNat 33*((Tryz.prog.info? 59).get (by kernel_rfl)).size)=madeCells (incCells noInc).toArray 231:=by kernel_rfl
 rw[e];rfl
theorem own_single(w:World)(x:GInc):Own Ty.inc 59 (w.alloc (.cells (incCells x).toArray 59)) w.heap.size (.slice (some ⟨w.heap.size,0,none⟩) 1 1) [x]:=by
 refine⟨incCells x,⟨rfl,.inr ⟨_,1,_,rfl,Nat.le_refl _,heap_alloc_new _ _,Nat.le_refl 1,show 1≤maxLen by decide,rfl,rfl⟩⟩,rfl,fun i y hi =>?_⟩;have:i=0:=by
  have:=(List.getElem?_eq_some_iff.1 hi).1;have:i<1:=this;omega
 subst this;injection hi with hi
 subst hi;rfl
set_option maxRecDepth 100000 in
set_option maxHeartbeats 1600000 in
theorem spoil_any(xs:List GInc)(b:List Int)(A Ab:Option Addr)(n c nb cb:Nat)(w:World)(hx:Sl Ty.inc w (all_ w) A n c xs)(hb:Sl (Ty.int .i64) w (all_ w) Ab nb cb b)(hl:xs.length≤3) :
 Calls Tryz.prog 14 #[.slice A n c,.slice Ab nb cb] w (IncsPost (spoilI xs b) w):=by
 have HS:Hid (∀ V,Below w.heap.size w V→Sl (Ty.int .i64) V (all_ V) Ab nb cb b):=fun V hV=>hb.next hV
 have hn3:n≤3:=by rw[hx.len];exact hl
 have HNX:Hid (n=xs.length):=hx.len;have HX:=Lib.hid hx;have HL:=Lib.hid (out0_len xs hl);have HRG:Hid (∀ i,0≤atL b i∧atL b i≤65535+i):=fun i=>atL_range b i
 clear hb hl hx
 go_enter Tryz.func14,Tryz.ntmps14
 go_upto_region 1 with (fail)
 go_cut [5] (fun s wx=>Own Ty.inc 59 wx w.heap.size s xs∧Below w.heap.size w wx)
 case first =>
  rcases Nat.eq_zero_or_pos n with rfl|hp
  ·have HE:Hid (xs=[]):=List.eq_nil_of_length_eq_zero HNX.out.symm;clear hn3
   cases A with
   | none =>
    go_wp2_with (at_builtin;refine wpList_plain rfl fun K9 hK9 =>?_;go_simp;simp only[Sem.run_pure,Result.andThen_ok];refine hK9 _ _ ?_;clear hK9)
    go_meet
    rw[HE.out];exact⟨Own.nil,Below.refl _ _⟩
   | some ad =>
    go_wp2_with (at_builtin;refine wpList_concat (t:=Ty.inc) (S:=all_ w) (xs:=[]) (ys:=xs) (base:=w.heap.size) (fun h=>h) rfl _ _ rfl 64 elem_inc rfl Own.nil ad 0 c rfl HX.out ?c1 (by decide) ?c2 ?_)
    case c1=>decide
    try (case c2=>first|omega|exact Nat.le_refl _|simp)
    intro v9 w9 hown9 hgr9;have hbl:Below w.heap.size w w9:=(Below.refl _ _).grown hgr9 (Nat.le_refl _) fun j hj=>by cases hj
    have HO9:Hid (Own Ty.inc 59 w9 w.heap.size v9 xs):=hown9;have HB9:=Lib.hid hbl;clear hown9 hbl hgr9;go_wp2_with fail
    go_meet
    exact⟨HO9.out,HB9.out⟩
  ·obtain⟨b0,o0,rfl, -, -⟩:=HX.out.inc_at (k:=0) (by have:=HNX.out;omega);go_wp2_with (at_builtin;refine wpList_concat (t:=Ty.inc) (S:=all_ w) (xs:=[]) (ys:=xs) (base:=w.heap.size) (fun h=>h) rfl _ _ rfl 64 elem_inc rfl Own.nil ⟨b0,o0,none⟩ n c rfl HX.out ?c1 (by decide) ?c2 ?_)
   case c1=>first|omega|(simp;omega)
   try (case c2=>first|omega|exact Nat.le_refl _|simp)
   intro v9 w9 hown9 hgr9;have hbl:Below w.heap.size w w9:=(Below.refl _ _).grown hgr9 (Nat.le_refl _) fun j hj=>by cases hj
   have HO9:Hid (Own Ty.inc 59 w9 w.heap.size v9 xs):=hown9;have HB9:=Lib.hid hbl;clear hown9 hbl hgr9;go_wp2_with fail
   go_meet
   exact⟨HO9.out,HB9.out⟩
 case rest =>
 obtain⟨hown,hbel⟩:=hcut;obtain⟨A5,c5,rfl, -⟩:=hown.sl;have HOW:=Lib.hid hown;have HBW:=Lib.hid hbel;have HNL:Hid (xs.length≤3):=by have:=HNX.out;show _≤_;omega
 clear hown hbel HNX HX hn3;generalize hL:xs.length=L at*;have HLL:=Lib.hid hL;clear hL;go_upto_if 12 with (fail)
 go_cut [5] (fun s wx=>Own Ty.inc 59 wx w.heap.size s (out0 xs)∧Below w.heap.size w wx)
 case first =>
  by_cases h0:L=0
  ·have HE:Hid (out0 xs=[⟨2,0,0,noStr,0,noShift⟩]):=by show _=_;unfold out0;rw[if_pos (by rw[HLL.out];exact h0)]
   have HO9:Hid (Own Ty.inc 59 (wc.alloc (.cells #[.int .i64 2,.int .i64 0,.int .i64 0,.string ⟨#[]⟩,.int .i64 0,.int .i64 0,.int .i64 0] 59)) w.heap.size (.slice (some ⟨wc.heap.size,0,none⟩) 1 1) [⟨2,0,0,noStr,0,noShift⟩]):=(own_single wc ⟨2,0,0,noStr,0,noShift⟩).lower HBW.out.size;have HB9:Hid (Below w.heap.size w (wc.alloc (.cells #[.int .i64 2,.int .i64 0,.int .i64 0,.string ⟨#[]⟩,.int .i64 0,.int .i64 0,.int .i64 0] 59))):=HBW.out.alloc HBW.out.size _;have h0':((L:Int)==0)=true:=by simpa using h0
   clear h0;go_wp2_with fail
   go_meet
   rw[HE.out];exact⟨HO9.out,HB9.out⟩
  ·have HE:Hid (out0 xs=xs):=by show _=_;unfold out0;rw[if_neg (by rw[HLL.out];exact h0)]
   have h0':((L:Int)==0)=false:=by simpa using h0
   clear h0;go_wp2_with fail
   go_meet
   rw[HE.out];exact⟨HOW.out,HBW.out⟩
 case rest =>
 obtain⟨hown,hbel⟩:=hcut;obtain⟨g,cp,cur9,rfl,hg9,hl9, -⟩:=OwnS.ownAt (S:=fun b=>w.heap.size≤b∧b<wc.heap.size∧some b≠u5.ownBlock) hown (by have:=HL.out.1;omega);have HSP:Hid (spoilI xs b=if atL b 0%12=7 then List.replicate 33 noInc else (out0 xs).set (atL b 1%(out0 xs).length).toNat (spOne (atL b 0%12) (atL b 1) ((out0 xs).getD (atL b 1%(out0 xs).length).toNat noInc))):=rfl;have HOS:=Lib.hid (Own.toS (t:=Ty.inc) (fun h=>h) hown);have HBW2:=Lib.hid hbel;clear hown hbel HOW HBW hg9 hl9 HNL HLL;generalize spoilI xs b=ys at*;generalize out0 xs=zs at*;have hL3:=HL.out.2;have hL1:=HL.out.1;generalize hLe:zs.length=L at*;have HLE:=Lib.hid hLe;clear hLe;have HA1:=Lib.hid (dataAt_any b Ab nb cb 1 wc (HS.out wc HBW2.out) (by decide));have hk0:=(HRG.out 1).1;have hk1:=(HRG.out 1).2;generalize atL b 1=kk at*;go_upto_region 5 with (go_at_call 32;refine HA1.out.mono ?_;rintro e w2 ⟨rfl,hb2⟩)
 have HO2:=Lib.hid (HOS.out.next hb2 fun _ h=>h.elim);have HB2:Hid (Below w.heap.size w w2):=HBW2.out.trans (hb2.mono HBW2.out.size);clear hb2 HOS HBW2 HA1;obtain⟨i,hi⟩ : ∃ i:Nat,kk%(L:Int)=(i:Int):=⟨(kk%(L:Int)).toNat,by
  have:=Int.emod_nonneg kk (show(L:Int)≠0 by omega);omega⟩
 have hil:i<L:=by
  have:=Int.emod_lt_of_pos kk (show(0:Int)<(L:Int) by omega);omega
 have hil':(i:Int)<(L:Int):=by omega
 have hi0:(0:Int)≤(i:Int):=by omega
 have hm0 : ¬(L:Int)=0:=by omega
 have hm3p:(0:Int)<(L:Int):=by omega
 have hm0':((L:Int)==0)=false:=by simpa using hm0
 have g4:kk.tmod (L:Int)=(i:Int):=by rw[Int.tmod_eq_emod_of_nonneg hk0];exact hi
 rw[hi,Int.toNat_natCast]at HSP;clear hi;have HA0:=Lib.hid (dataAt_any b Ab nb cb 0 w2 (HS.out w2 HB2.out) (by decide));have hz0:=(HRG.out 0).1;have g1:(atL b 0).tmod 12=atL b 0%12:=Int.tmod_eq_emod_of_nonneg hz0;have g2:IntKind.i64.wrap (atL b 0%12)=atL b 0%12:=IntWalk.i64_in _ (by omega);go_upto_region 6 with (fail)
 clear g4 hm0 hm0' hm3p;go_upto_region 7 with (go_at_call 32;refine HA0.out.mono ?_;rintro e V ⟨rfl,hb3⟩)
 have HO3:=Lib.hid (HO2.out.next hb3 fun _ h=>h.elim);have HB3:Hid (Below w.heap.size w V):=HB2.out.trans (hb3.mono HB2.out.size);have hsr:0≤atL b 0%12∧atL b 0%12<12:=by omega
 clear hb3 HO2 HB2 HA0 g1 g2 hz0;generalize atL b 0%12=se at*;obtain⟨A9,c9,e9,hs9⟩:=HO3.out.sl;injection e9 with e1 e2 e3
 subst e1 e3;clear e2;obtain⟨g',o',e9, -,hat⟩:=hs9.inc_at (k:=i) (by rw[HLE.out];exact hil);injection e9 with e9
 injection e9 with e1 e2
 subst e1 e2;have HG:=Lib.hid (HO3.out.lt g rfl);obtain⟨xi,hxi⟩ : ∃ x,zs.getD i noInc=x:=⟨_,rfl⟩
 have HXI:=Lib.hid hxi;rw[hxi]at hat HSP;clear hs9 hxi;obtain⟨kd,xf,mi,ai,pe,⟨s1,s2⟩⟩:=xi;have y0:=hat 0 _ rfl;have y1:=hat 1 _ rfl;have y2:=hat 2 _ rfl;have y3:=hat 3 _ rfl;have y4:=hat 4 _ rfl;have y5:=hat 5 _ rfl;have y6:=hat 6 _ rfl;rw[Nat.zero_add]at y0 y1 y2 y3 y4 y5 y6;rw[Nat.add_zero]at y0;simp only at y0 y1 y2 y3 y4 y5 y6;have f0:=HO3.out.freeP (i*7);have f1:=HO3.out.freeP (i*7+1);have f2:=HO3.out.freeP (i*7+2);have f3:=HO3.out.freeP (i*7+3);have f4:=HO3.out.freeP (i*7+4);have f5:=HO3.out.freeP (i*7+5);have f6:=HO3.out.freeP (i*7+6);clear hat;have hcs:se=0∨se=1∨se=2∨se=3∨se=4∨se=5∨se=6∨se=7∨8≤se:=by omega
 rcases hcs with rfl|rfl|rfl|rfl|rfl|rfl|rfl|rfl|h8
 ·have HV:Hid (ys=zs.set i ⟨kk%7-1,xf,mi,ai,pe,⟨s1,s2⟩⟩):=HSP.out;have q1:kk.tmod 7=kk%7:=Int.tmod_eq_emod_of_nonneg hk0;have q2:IntKind.i64.wrap (kk%7)=kk%7:=IntWalk.i64_in _ (by omega);have q3:IntKind.i64.wrap (kk%7-1)=kk%7-1:=IntWalk.i64_in _ (by omega);have HN:Hid (OwnS Ty.inc 59 (V.setCell ⟨g,i*7+0,none⟩ (.int .i64 (kk%7-1))) (fun _=>False) w.heap.size (.slice (some ⟨g,0,none⟩) L cp) (zs.set i ⟨kk%7-1,xf,mi,ai,pe,⟨s1,s2⟩⟩)):=HO3.out.inc_set (by rw[HLE.out];exact hil) (by decide) (by rw[HXI.out];rfl);have HB:Hid (Below w.heap.size w (V.setCell ⟨g,i*7+0,none⟩ (.int .i64 (kk%7-1)))):=HB3.out.setCell (show w.heap.size≤g from HG.out.1) _;clear HSP;go_wp2_with fail
  go_ret
  rw[HV.out];exact HN.out.inc_post HB.out
 ·have HV:Hid (ys=zs.set i ⟨kd,kk%8-1,mi,ai,pe,⟨s1,s2⟩⟩):=HSP.out;have q1:kk.tmod 8=kk%8:=Int.tmod_eq_emod_of_nonneg hk0;have q2:IntKind.i64.wrap (kk%8)=kk%8:=IntWalk.i64_in _ (by omega);have q3:IntKind.i64.wrap (kk%8-1)=kk%8-1:=IntWalk.i64_in _ (by omega);have HN:Hid (OwnS Ty.inc 59 (V.setCell ⟨g,i*7+1,none⟩ (.int .i64 (kk%8-1))) (fun _=>False) w.heap.size (.slice (some ⟨g,0,none⟩) L cp) (zs.set i ⟨kd,kk%8-1,mi,ai,pe,⟨s1,s2⟩⟩)):=HO3.out.inc_set (by rw[HLE.out];exact hil) (by decide) (by rw[HXI.out];rfl);have HB:Hid (Below w.heap.size w (V.setCell ⟨g,i*7+1,none⟩ (.int .i64 (kk%8-1)))):=HB3.out.setCell (show w.heap.size≤g from HG.out.1) _;clear HSP;go_wp2_with fail
  go_ret
  rw[HV.out];exact HN.out.inc_post HB.out
 ·obtain⟨r,hr⟩ : ∃ r:Nat,kk%6=(r:Int):=⟨(kk%6).toNat,by omega⟩
  have hrd:r<6:=by omega
  have hrd':(r:Int)<6:=by omega
  have hr0:(0:Int)≤(r:Int):=by omega
  have q1:kk.tmod 6=(r:Int):=by rw[Int.tmod_eq_emod_of_nonneg hk0];exact hr
  obtain⟨vv,hvv⟩ : ∃ vv,spMin kk=vv:=⟨_,rfl⟩
  have HV:Hid (ys=zs.set i ⟨kd,xf,vv,ai,pe,⟨s1,s2⟩⟩):=by show _=_;rw[←hvv];exact HSP.out
  have hcell : ∀ U:World,(U.alloc (.cells #[.int .i64 (-1),.int .i64 0,.int .i64 720,.int .i64 721,.int .i64 1440,.int .i64 1441] 3)).cell? ⟨U.heap.size,r,none⟩=some (.int .i64 vv):=fun U=>by
   rw[spMin_cell r hrd U, ←hvv];unfold spMin;rw[hr];rfl
  have hc:=hcell V;have hgV:=HG.out.2;have HN:Hid (OwnS Ty.inc 59 (V.setCell ⟨g,i*7+2,none⟩ (.int .i64 vv)) (fun _=>False) w.heap.size (.slice (some ⟨g,0,none⟩) L cp) (zs.set i ⟨kd,xf,vv,ai,pe,⟨s1,s2⟩⟩)):=HO3.out.inc_set (by rw[HLE.out];exact hil) (by decide) (by rw[HXI.out];rfl);have HB:Hid (Below w.heap.size w (V.setCell ⟨g,i*7+2,none⟩ (.int .i64 vv))):=HB3.out.setCell (show w.heap.size≤g from HG.out.1) _;clear HSP hr hvv hcell;go_wp2_with fail
  go_ret
  rw[HV.out];exact OwnS.inc_post (HN.out.next ((Below.refl _ _).alloc (Nat.le_refl _) _) fun _ h=>h.elim) (HB.out.alloc HB.out.size _)
 ·obtain⟨r,hr⟩ : ∃ r:Nat,kk%5=(r:Int):=⟨(kk%5).toNat,by omega⟩
  have hrd:r<5:=by omega
  have hrd':(r:Int)<5:=by omega
  have hr0:(0:Int)≤(r:Int):=by omega
  have q1:kk.tmod 5=(r:Int):=by rw[Int.tmod_eq_emod_of_nonneg hk0];exact hr
  obtain⟨vv,hvv⟩ : ∃ vv,spAir kk=vv:=⟨_,rfl⟩
  have HV:Hid (ys=zs.set i ⟨kd,xf,mi,vv,pe,⟨s1,s2⟩⟩):=by show _=_;rw[←hvv];exact HSP.out
  have hcell : ∀ U:World,(U.alloc (.cells #[.string ⟨#[]⟩,.string ⟨#[65,65,65]⟩,.string ⟨#[66,66,66]⟩,.string ⟨#[67,67,67]⟩,.string ⟨#[88,88,88]⟩] 9)).cell? ⟨U.heap.size,r,none⟩=some (.string vv):=fun U=>by
   rw[spAir_cell r hrd U, ←hvv];unfold spAir;rw[hr];rfl
  have hc:=hcell V;have hgV:=HG.out.2;have HN:Hid (OwnS Ty.inc 59 (V.setCell ⟨g,i*7+3,none⟩ (.string vv)) (fun _=>False) w.heap.size (.slice (some ⟨g,0,none⟩) L cp) (zs.set i ⟨kd,xf,mi,vv,pe,⟨s1,s2⟩⟩)):=HO3.out.inc_set (by rw[HLE.out];exact hil) (by decide) (by rw[HXI.out];rfl);have HB:Hid (Below w.heap.size w (V.setCell ⟨g,i*7+3,none⟩ (.string vv))):=HB3.out.setCell (show w.heap.size≤g from HG.out.1) _;clear HSP hr hvv hcell;go_wp2_with fail
  go_ret
  rw[HV.out];exact OwnS.inc_post (HN.out.next ((Below.refl _ _).alloc (Nat.le_refl _) _) fun _ h=>h.elim) (HB.out.alloc HB.out.size _)
 ·have HV:Hid (ys=zs.set i ⟨kd,xf,mi,ai,kk%9,⟨s1,s2⟩⟩):=HSP.out;have q1:kk.tmod 9=kk%9:=Int.tmod_eq_emod_of_nonneg hk0;have q2:IntKind.i64.wrap (kk%9)=kk%9:=IntWalk.i64_in _ (by omega);have HN:Hid (OwnS Ty.inc 59 (V.setCell ⟨g,i*7+4,none⟩ (.int .i64 (kk%9))) (fun _=>False) w.heap.size (.slice (some ⟨g,0,none⟩) L cp) (zs.set i ⟨kd,xf,mi,ai,kk%9,⟨s1,s2⟩⟩)):=HO3.out.inc_set (by rw[HLE.out];exact hil) (by decide) (by rw[HXI.out];rfl);have HB:Hid (Below w.heap.size w (V.setCell ⟨g,i*7+4,none⟩ (.int .i64 (kk%9)))):=HB3.out.setCell (show w.heap.size≤g from HG.out.1) _;clear HSP;go_wp2_with fail
  go_ret
  rw[HV.out];exact HN.out.inc_post HB.out
 ·have HV:Hid (ys=zs.set i ⟨kd,xf,mi,ai,pe,⟨kk%4-1,kk/4%4⟩⟩):=HSP.out;have q1:kk.tmod 4=kk%4:=Int.tmod_eq_emod_of_nonneg hk0;have q2:IntKind.i64.wrap (kk%4)=kk%4:=IntWalk.i64_in _ (by omega);have q3:IntKind.i64.wrap (kk%4-1)=kk%4-1:=IntWalk.i64_in _ (by omega);have p1:(kk/4).tmod 4=kk/4%4:=Int.tmod_eq_emod_of_nonneg (by omega);have p2:IntKind.i64.wrap (kk/4%4)=kk/4%4:=IntWalk.i64_in _ (by omega);have HN1:Hid (OwnS Ty.inc 59 (V.setCell ⟨g,i*7+5,none⟩ (.int .i64 (kk%4-1))) (fun _=>False) w.heap.size (.slice (some ⟨g,0,none⟩) L cp) (zs.set i ⟨kd,xf,mi,ai,pe,⟨kk%4-1,s2⟩⟩)):=HO3.out.inc_set (by rw[HLE.out];exact hil) (by decide) (by rw[HXI.out];rfl);have HN:Hid (OwnS Ty.inc 59 ((V.setCell ⟨g,i*7+5,none⟩ (.int .i64 (kk%4-1))).setCell ⟨g,i*7+6,none⟩ (.int .i64 (kk/4%4))) (fun _=>False) w.heap.size (.slice (some ⟨g,0,none⟩) L cp) (zs.set i ⟨kd,xf,mi,ai,pe,⟨kk%4-1,kk/4%4⟩⟩)):=by
   have h9:=HN1.out.inc_set (k:=i) (j:=6) (u:=.int .i64 (kk/4%4)) (y:=⟨kd,xf,mi,ai,pe,⟨kk%4-1,kk/4%4⟩⟩) (by rw[List.length_set,HLE.out];exact hil) (by decide) (by rw[getD_set_self (by rw[HLE.out];exact hil)];rfl);rw[List.set_set]at h9;exact h9
  have HB:Hid (Below w.heap.size w ((V.setCell ⟨g,i*7+5,none⟩ (.int .i64 (kk%4-1))).setCell ⟨g,i*7+6,none⟩ (.int .i64 (kk/4%4)))):=(HB3.out.setCell (show w.heap.size≤g from HG.out.1) _).setCell (show w.heap.size≤g from HG.out.1) _;clear HSP HN1;go_wp2_with fail
  go_ret
  rw[HV.out];exact HN.out.inc_post HB.out
 ·have HV:Hid (ys=zs.set i ⟨kd,xf,mi,ai,pe,⟨1,52596000+kk%2⟩⟩):=HSP.out;have q1:kk.tmod 2=kk%2:=Int.tmod_eq_emod_of_nonneg hk0;have q2:IntKind.i64.wrap (kk%2)=kk%2:=IntWalk.i64_in _ (by omega);have q3:IntKind.i64.wrap (52596000+kk%2)=52596000+kk%2:=IntWalk.i64_in _ (by omega);have HN1:Hid (OwnS Ty.inc 59 (V.setCell ⟨g,i*7+5,none⟩ (.int .i64 (1))) (fun _=>False) w.heap.size (.slice (some ⟨g,0,none⟩) L cp) (zs.set i ⟨kd,xf,mi,ai,pe,⟨1,s2⟩⟩)):=HO3.out.inc_set (by rw[HLE.out];exact hil) (by decide) (by rw[HXI.out];rfl);have HN:Hid (OwnS Ty.inc 59 ((V.setCell ⟨g,i*7+5,none⟩ (.int .i64 (1))).setCell ⟨g,i*7+6,none⟩ (.int .i64 (52596000+kk%2))) (fun _=>False) w.heap.size (.slice (some ⟨g,0,none⟩) L cp) (zs.set i ⟨kd,xf,mi,ai,pe,⟨1,52596000+kk%2⟩⟩)):=by
   have h9:=HN1.out.inc_set (k:=i) (j:=6) (u:=.int .i64 (52596000+kk%2)) (y:=⟨kd,xf,mi,ai,pe,⟨1,52596000+kk%2⟩⟩) (by rw[List.length_set,HLE.out];exact hil) (by decide) (by rw[getD_set_self (by rw[HLE.out];exact hil)];rfl);rw[List.set_set]at h9;exact h9
  have HB:Hid (Below w.heap.size w ((V.setCell ⟨g,i*7+5,none⟩ (.int .i64 (1))).setCell ⟨g,i*7+6,none⟩ (.int .i64 (52596000+kk%2)))):=(HB3.out.setCell (show w.heap.size≤g from HG.out.1) _).setCell (show w.heap.size≤g from HG.out.1) _;clear HSP HN1;go_wp2_with fail
  go_ret
  rw[HV.out];exact HN.out.inc_post HB.out
 ·have HV:Hid (ys=List.replicate 33 noInc):=HSP.out;have HM:Hid (∀ T,Sl Ty.inc (V.alloc (.cells (madeCells (incCells noInc).toArray 231) T)) (all_ _) (some ⟨V.heap.size,0,none⟩) 33 33 (List.replicate 33 noInc)):=fun T=>made_incs V T
  have HB:Hid (∀ o,Below w.heap.size w (V.alloc o)):=fun o=>HB3.out.alloc HB3.out.size o
  have hmk:=run_make_incs;clear HSP;go_wp2_with fail
  go_ret
  rw[HV.out];exact⟨_,_,_,rfl,HM.out _,HB.out _⟩
 ·have HV:Hid (ys=zs.set i ⟨kd,xf,mi,ai,pe,⟨s1,s2⟩⟩):=by
   show _=_;rw[HSP.out,if_neg (by omega)];unfold spOne;rw[if_neg (by omega),if_neg (by omega),if_neg (by omega),if_neg (by omega),if_neg (by omega),if_neg (by omega),if_neg (by omega)]
  have hb0:(se==0)=false:=by simp;omega
  have hb1:(se==1)=false:=by simp;omega
  have hb2:(se==2)=false:=by simp;omega
  have hb3:(se==3)=false:=by simp;omega
  have hb4:(se==4)=false:=by simp;omega
  have hb5:(se==5)=false:=by simp;omega
  have hb6:(se==6)=false:=by simp;omega
  have hb7:(se==7)=false:=by simp;omega
  have HSET:Hid (zs.set i ⟨kd,xf,mi,ai,pe,⟨s1,s2⟩⟩=zs):=by
   show _=_;rw[←HXI.out];have hi9:i<zs.length:=by rw[HLE.out];exact hil
   apply List.ext_getElem?;intro j;rw[List.getElem?_set]
   by_cases h:i=j
   ·subst h;rw[if_pos rfl,if_pos hi9,List.getElem?_eq_getElem hi9,List.getD_eq_getElem?_getD,List.getElem?_eq_getElem hi9];rfl
   ·rw[if_neg h]
  clear HSP h8 hsr;go_wp2_with fail
  go_ret
  rw[HV.out,HSET.out];exact HO3.out.inc_post HB3.out
end Go.Proofs.YtifconapjfdkcaaGreatDoor
namespace Go.Proofs.YtifconapjfdkcaaGreatDoor
set_option linter.unusedSimpArgs false
set_option linter.unusedVariables false
open Go Go.RowKit
def cntB(fl:List GFlight)(gone:List Bool)(i k:Nat):Bool := !gone.getD k false&&(beforeB (fl.getD k noFlight) (fl.getD i noFlight)||(!beforeB (fl.getD i noFlight) (fl.getD k noFlight)&&decide (k<i)))
def cntTo(fl:List GFlight)(gone:List Bool)(i k:Nat):Nat:=(List.range k).countP (cntB fl gone i)
theorem cntTo_succ(fl:List GFlight)(gone:List Bool)(i k:Nat):cntTo fl gone i (k+1)=cntTo fl gone i k+if cntB fl gone i k=true then 1 else 0:=by
 unfold cntTo;rw[List.range_succ,List.countP_append,List.countP_singleton]
theorem cntTo_le(fl:List GFlight)(gone:List Bool)(i k:Nat):cntTo fl gone i k≤k:=by
 have:=List.countP_le_length (p:=cntB fl gone i) (l:=List.range k)
 rwa [List.length_range]at this
theorem cntTo_all(fl:List GFlight)(gone:List Bool)(i:Nat):cntTo fl gone i gone.length=rankI fl gone i:=by
 unfold cntTo rankI leftI;rw[List.countP_map,List.countP_filter];refine List.countP_congr fun k _ =>?_
 unfold cntB tieB ltF;simp only[Function.comp,Int.toNat_natCast,Int.ofNat_lt]
 cases gone.getD k false <;> simp
def ixR(fl:List GFlight)(gone:List Bool)(k:Nat):List Int:=(List.range gone.length).map fun i=>if i<k then indexI fl gone i else 0
theorem ixR_len(fl:List GFlight)(gone:List Bool)(k:Nat):(ixR fl gone k).length=gone.length:=by simp[ixR]
theorem ixR_zero(fl:List GFlight)(gone:List Bool):ixR fl gone 0=List.replicate gone.length 0:=by
 unfold ixR;rw[List.eq_replicate_iff];refine⟨by simp,fun x hx =>?_⟩;obtain⟨i,_,rfl⟩:=List.mem_map.1 hx;rw[if_neg (by omega)]
theorem ixR_all(fl:List GFlight)(gone:List Bool):ixR fl gone gone.length=(List.range gone.length).map (indexI fl gone):=by
 unfold ixR;refine List.map_congr_left fun i hi =>?_
 rw[List.mem_range]at hi;rw[if_pos hi]
theorem range_setR(n i:Nat)(g h:Nat→Int)(x:Int)(hx:h i=x)(hh : ∀ j,j<n→j≠i→h j=g j):((List.range n).map g).set i x=(List.range n).map h:=by
 apply List.ext_getElem?;intro j;rw[List.getElem?_set,List.getElem?_map,List.getElem?_map]
 by_cases hj:j<n
 ·rw[List.getElem?_range hj]
  by_cases hij:i=j
  ·subst hij;rw[if_pos rfl,if_pos (by simpa using hj)];simp[hx]
  ·rw[if_neg hij];simp[hh j hj (fun e=>hij e.symm)]
 ·rw[List.getElem?_eq_none (l:=List.range n) (by simpa using hj)]
  by_cases hij:i=j
  ·subst hij;rw[if_pos rfl,if_neg (by simpa using hj)];rfl
  ·rw[if_neg hij];rfl
theorem ixR_set(fl:List GFlight)(gone:List Bool)(k:Nat):(ixR fl gone k).set k (indexI fl gone k)=ixR fl gone (k+1):=by
 unfold ixR;refine range_setR _ _ _ _ _ (if_pos (by omega)) fun j hj hji =>?_
 by_cases hlt:j<k
 ·rw[if_pos (by omega),if_pos hlt]
 ·rw[if_neg (by omega),if_neg hlt]
theorem index_gone{fl:List GFlight}{gone:List Bool}{i:Nat}(h:gone.getD i false=true):indexI fl gone i = -1:=by unfold indexI;rw[if_pos h]
theorem index_left{fl:List GFlight}{gone:List Bool}{i:Nat}(h:gone.getD i false=false):indexI fl gone i=(rankI fl gone i:Int):=by unfold indexI;rw[h];rfl
def gathI(fl:List GFlight)(gone:List Bool)(n i:Nat):List GFlight:=((List.range i).filter fun i=>decide (indexI fl gone i=(n:Int))).map fun i=>fl.getD i noFlight
def gathN(fl:List GFlight)(gone:List Bool)(n:Nat):List GFlight:=(List.range n).flatMap fun (n:Nat)=>gathI fl gone n gone.length
theorem gathI_succ(fl:List GFlight)(gone:List Bool)(n i:Nat):gathI fl gone n (i+1)=gathI fl gone n i++if indexI fl gone i=(n:Int) then [fl.getD i noFlight] else []:=by
 unfold gathI;rw[List.range_succ,List.filter_append,List.map_append]
 congr 1
 by_cases h:indexI fl gone i=(n:Int)
 ·rw[if_pos h];simp[h]
 ·rw[if_neg h];simp[h]
theorem gathN_succ(fl:List GFlight)(gone:List Bool)(n:Nat):gathN fl gone (n+1)=gathN fl gone n++gathI fl gone n gone.length:=by
 unfold gathN;rw[List.range_succ,List.flatMap_append,List.flatMap_singleton]
theorem gathN_all(fl:List GFlight)(gone:List Bool):gathN fl gone gone.length=newFl fl gone:=(ref_eq fl gone)
theorem gathI_le(fl:List GFlight)(gone:List Bool)(n:Nat):(gathI fl gone n gone.length).length≤1:=by
 unfold gathI;rw[ref_round,List.length_map];split <;> simp
theorem gathI_mono(fl:List GFlight)(gone:List Bool)(n:Nat){i:Nat}(h:i≤gone.length):(gathI fl gone n i).length≤1:=by
 have key : ∀ d i,i+d=gone.length→(gathI fl gone n i).length≤(gathI fl gone n gone.length).length:=by
  intro d
  induction d with
  | zero=>intro i h;rw[Nat.add_zero]at h;rw[h];exact Nat.le_refl _
  | succ d ih =>
   intro i h;refine Nat.le_trans ?_ (ih (i+1) (by omega));rw[gathI_succ,List.length_append];omega
 exact Nat.le_trans (key (gone.length-i) i (by omega)) (gathI_le fl gone n)
theorem gathN_le(fl:List GFlight)(gone:List Bool) : ∀ n,(gathN fl gone n).length≤n
 | 0=>by simp[gathN]
 | n+1=>by
  rw[gathN_succ,List.length_append];have:=gathN_le fl gone n;have:=gathI_le fl gone n;omega
end Go.Proofs.YtifconapjfdkcaaGreatDoor
namespace Go.Proofs.YtifconapjfdkcaaGreatDoor
set_option linter.unusedSimpArgs false
set_option linter.unusedVariables false
open Go.RowKit
structure AQ(w:World)(tc:Array Value)(B0 fb cf cb n ub:Nat)(z a:Value)(ib nb:Nat)(fl:List GFlight)(gone:List Bool)(wr:World)(v3:Value)(ix:List Int)(nf:List GFlight):Prop where
 t:wr.heap[w.heap.size]? = some (.cells tc 27 (0,0))
 res:wr.heap[w.heap.size+1]? = some (.cells #[.slice none 0 0,.slice none 0 0,.slice none 0 0] 27 (0,0))
 u:wr.heap[ub]? = some (.cells #[z,a,v3] 27 (0,0))
 F:OwnS Ty.flight 62 wr (fun _=>False) B0 (.slice (some ⟨fb,0,none⟩) n cf) fl
 C:OwnS Ty.bool 4 wr (fun _=>False) B0 (.slice (some ⟨cb,0,none⟩) n n) gone
 I:OwnS (Ty.int .i64) 3 wr (fun _=>False) ib (.slice (some ⟨ib,0,none⟩) n n) ix
 N:Own Ty.flight 62 wr nb v3 nf
 bel:Below w.heap.size w wr
 l:w.heap.size+2≤B0∧B0≤fb∧B0≤cb∧fb<ub∧cb<ub∧ub<ib∧ib<nb∧nb≤wr.heap.size
section
variable {w:World} {tc:Array Value} {B0 fb cf cb n ub:Nat} {z a:Value} {ib nb:Nat} {fl:List GFlight} {gone:List Bool} {wr w7 w8:World} {v3 v':Value} {ix:List Int} {nf nf':List GFlight}
theorem AQ.next(h:AQ w tc B0 fb cf cb n ub z a ib nb fl gone wr v3 ix nf)(hb:Below wr.heap.size wr w7):AQ w tc B0 fb cf cb n ub z a ib nb fl gone w7 v3 ix nf:=by
 have h1:=(Array.getElem?_eq_some_iff.1 h.t).1;have h2:=(Array.getElem?_eq_some_iff.1 h.res).1;have h3:=(Array.getElem?_eq_some_iff.1 h.u).1;have h4:=h.l;have h5:=hb.size;exact⟨(hb.block _ h1).trans h.t,(hb.block _ h2).trans h.res,(hb.block _ h3).trans h.u,h.F.next hb fun _ h=>h.elim,h.C.next hb fun _ h=>h.elim,h.I.next hb fun _ h=>h.elim,h.N.next hb,h.bel.trans (hb.mono h.bel.size),by omega⟩
theorem AQ.setI(h:AQ w tc B0 fb cf cb n ub z a ib nb fl gone wr v3 ix nf){i:Nat}(hi:i<ix.length)(x:Int):AQ w tc B0 fb cf cb n ub z a ib nb fl gone (wr.setCell ⟨ib,i,none⟩ (.int .i64 x)) v3 (ix.set i x) nf:=by
 have h3:=h.l;have hk : ∀ q,q≠ib→(wr.setCell ⟨ib,i,none⟩ (.int .i64 x)).heap[q]? = wr.heap[q]? :=fun q hq=>heap_setCell_other _ _ _ _ hq
 have hF:=h.F.lt fb rfl;have hC:=h.C.lt cb rfl;refine⟨(hk _ (by omega)).trans h.t,(hk _ (by omega)).trans h.res,(hk _ (by omega)).trans h.u,h.F.keep (by simp) (fun q hq=>hk q ?_) (fun _ h=>h.elim),h.C.keep (by simp) (fun q hq=>hk q ?_) (fun _ h=>h.elim), ?_,h.N.flatC flat_flight fun q hq=>hk q (by have:=(h.N.lt q hq).1;omega),h.bel.setCell (show w.heap.size≤ib by omega) _,by simp;omega⟩
 ·have hq9:some fb=some q:=hq;injection hq9 with hq9;omega
 ·have hq9:some cb=some q:=hq;injection hq9 with hq9;omega
 ·have:=h.I.setAt (t:=Ty.int .i64) (j:=0) (u:=.int .i64 x) (y:=x) hi (show 0<1 by decide) (fun h=>h) fun cs hr=>by
   have hr':cs=[.int .i64 (ix.getD i x)]:=hr;subst hr';rfl
  have e:i*(Ty.int .i64).size+0=i:=by show i*1+0=i;omega
  rw[e]at this;exact this
theorem AQ.box8(h:AQ w tc B0 fb cf cb n ub z a ib nb fl gone wr v3 ix nf)(hb:Below wr.heap.size wr w7)(hg:w7.grownBy w8 v3.ownBlock):w8.heap[ub]? = some (.cells #[z,a,v3] 27 (0,0)):=by
 have h2:=hb.size;have h3:=h.l;exact(hg.block _ (by omega) (fun e=>by have:=(h.N.lt _ e.symm).1;omega)).trans ((hb.block _ (by omega)).trans h.u)
theorem AQ.push(h:AQ w tc B0 fb cf cb n ub z a ib nb fl gone wr v3 ix nf)(hb:Below wr.heap.size wr w7)(hg:w7.grownBy w8 v3.ownBlock)(hown:Own Ty.flight 62 w8 nb v' nf') :
 AQ w tc B0 fb cf cb n ub z a ib nb fl gone (w8.setCell ⟨ub,2,none⟩ v') v' ix nf':=by
 have h2:=hb.size;have h3:=h.l;have h4:=hg.size;have hn:=h.next hb;have hk : ∀ q,q≠ub→(w8.setCell ⟨ub,2,none⟩ v').heap[q]? = w8.heap[q]? :=fun q hq=>heap_setCell_other _ _ _ _ hq
 have hk2 : ∀ q,q<nb→q≠ub→(w8.setCell ⟨ub,2,none⟩ v').heap[q]? = w7.heap[q]? :=fun q hq hne=>(hk q hne).trans (hg.block q (by omega) fun e=>by have:=(h.N.lt q e.symm).1;omega)
 refine⟨(hk2 _ (by omega) (by omega)).trans hn.t,(hk2 _ (by omega) (by omega)).trans hn.res, ?_,hn.F.keep (by simp;omega) (fun q hq=>hk2 q ?_ ?_) (fun _ h=>h.elim),hn.C.keep (by simp;omega) (fun q hq=>hk2 q ?_ ?_) (fun _ h=>h.elim),hn.I.keep (by simp;omega) (fun q hq=>hk2 q ?_ ?_) (fun _ h=>h.elim),hown.flatC flat_flight fun q hq=>hk q (by have:=(hown.lt q hq).1;omega), ?_,by simp;omega⟩
 ·have:=heap_setCell_same w8 ub 2 _ _ v' (h.box8 hb hg);rw[this];rfl
 ·have hq9:some fb=some q:=hq;injection hq9 with hq9;omega
 ·have hq9:some fb=some q:=hq;injection hq9 with hq9;omega
 ·have hq9:some cb=some q:=hq;injection hq9 with hq9;omega
 ·have hq9:some cb=some q:=hq;injection hq9 with hq9;omega
 ·have hq9:some ib=some q:=hq;injection hq9 with hq9;omega
 ·have hq9:some ib=some q:=hq;injection hq9 with hq9;omega
 ·exact(hn.bel.grown hg hn.bel.size fun j hj=>by have:=(h.N.lt j hj).1;omega).setCell (show w.heap.size≤ub by omega) _
end
set_option maxRecDepth 100000 in
theorem before40_any(f g:GFlight)(w:World):Calls Tryz.prog 48 #[.agg (flightCells f).toArray,.agg (flightCells g).toArray] w fun e w'=>e=.returned (.bool (beforeB f g))∧Below w.heap.size w w':=by
 have hb1:=(Below.refl w.heap.size w).alloc (Nat.le_refl _) (.cells (flightCells f).toArray 62);have hb2:=hb1.alloc (by simp) (.cells (flightCells g).toArray 62);have hf2:=heap_alloc2_old w (.cells (flightCells f).toArray 62) (.cells (flightCells g).toArray 62);have hg2:=heap_alloc2_new w (.cells (flightCells f).toArray 62) (.cells (flightCells g).toArray 62);have x0:=block_cell hf2 0;have x3:=block_cell hf2 3;have y0:=block_cell hg2 0;have y3:=block_cell hg2 3;have HB2:=Lib.hid hb2;have e0:(flightCells f).toArray = #[.string f.number,.string f.src,.string f.dst,.int .i64 f.dep,.int .i64 f.arr,.string f.kind,.int .i64 f.n0,.int .i64 f.n1,.int .i64 f.n2]:=rfl;have e1:(flightCells g).toArray = #[.string g.number,.string g.src,.string g.dst,.int .i64 g.dep,.int .i64 g.arr,.string g.kind,.int .i64 g.n0,.int .i64 g.n1,.int .i64 g.n2]:=rfl;rw[e0,e1]at x0 x3 y0 y3 ⊢;rw[e0,e1]at HB2;have HBF:Hid (beforeB f g=if f.dep=g.dep then Op.bytesLess f.number.toList g.number.toList else decide (f.dep<g.dep)):=rfl;clear hb1 hb2 hf2 hg2 e0 e1;generalize beforeB f g=R at*
 go_enter Tryz.func48,Tryz.ntmps48
 go_upto_region 1 with (fail)
 generalize (w.alloc (.cells #[.string f.number,.string f.src,.string f.dst,.int .i64 f.dep,.int .i64 f.arr,.string f.kind,.int .i64 f.n0,.int .i64 f.n1,.int .i64 f.n2] 62)).alloc (.cells #[.string g.number,.string g.src,.string g.dst,.int .i64 g.dep,.int .i64 g.arr,.string g.kind,.int .i64 g.n0,.int .i64 g.n1,.int .i64 g.n2] 62)=W at*;rcases Int.lt_trichotomy f.dep g.dep with h|h|h
 ·have HR:Hid (R=true):=by show _=_;rw[HBF.out,if_neg (by omega),decide_eq_true h]
  have c1:f.dep<g.dep:=h;clear h;go_wp2_with fail
  go_ret
  exact⟨by rw[HR.out];rfl,HB2.out⟩
 ·have HR:Hid (R=Op.bytesLess f.number.toList g.number.toList):=by show _=_;rw[HBF.out,if_pos h]
  have c1 : ¬f.dep<g.dep:=by omega
  have c2:(f.dep==g.dep)=true:=by simpa using h
  clear h;go_wp2_with fail
  go_ret
  exact⟨by rw[HR.out];rfl,HB2.out⟩
 ·have HR:Hid (R=false):=by show _=_;rw[HBF.out,if_neg (by omega),decide_eq_false (by omega)]
  have c1 : ¬f.dep<g.dep:=by omega
  have c2:(f.dep==g.dep)=false:=by simp;omega
  clear h;go_wp2_with fail
  go_ret
  exact⟨by rw[HR.out];rfl,HB2.out⟩
end Go.Proofs.YtifconapjfdkcaaGreatDoor
namespace Go.Proofs.YtifconapjfdkcaaGreatDoor
set_option linter.unusedSimpArgs false
set_option linter.unusedVariables false
open Go.RowKit Go
def bindsOf(o:Oper):List Nat:=(o.after.toList.filter fun e=>Region.binds .any e).map (·.on)
theorem bindsOf_mem{o:Oper}{j:Nat}:j∈bindsOf o ↔ ∃ e∈o.after,Region.binds .any e=true∧e.on=j:=by
 unfold bindsOf;simp only[List.mem_map,List.mem_filter,Array.mem_toList_iff];exact⟨fun⟨e,⟨h1,h2⟩,h3⟩=>⟨e,h1,h2,h3⟩,fun⟨e,h1,h2,h3⟩=>⟨e,⟨h1,h2⟩,h3⟩⟩
def cloFromD(ops:Array Oper)(t:Nat):List Nat :=
 (List.range (t+1)).reverse.foldl (fun acc i=>if acc.contains i then acc++(match ops[i]? with
  | some o=>bindsOf o
  | none=>[]) else acc) [t]
theorem cloFromD_listed{ops:Array Oper}{t:Nat}{L:Nat→Prop}(h : ∀ i o,ops[i]? = some o→(i=t∨L i) → ∀ e∈o.after,Region.binds .any e=true→L e.on) : ∀ x∈cloFromD ops t,x=t∨L x:=by
 unfold cloFromD;have key : ∀ (l:List Nat) (acc:List Nat),(∀ x∈acc,x=t∨L x) → ∀ x∈l.foldl (fun acc i=>if acc.contains i then acc++(match ops[i]? with
  | some o=>bindsOf o
  | none=>[]) else acc) acc,x=t∨L x:=by
  intro l
  induction l with
  | nil=>intro acc h1 x hx;exact h1 x hx
  | cons i l ih =>
   intro acc h1 x hx;rw[List.foldl_cons]at hx;refine ih _ ?_ x hx;intro y hy;split at hy
   ·rename_i hc;rw[List.mem_append]at hy;rcases hy with hy|hy
    ·exact h1 y hy
    ·cases ho:ops[i]? with
     | none=>rw[ho]at hy;cases hy
     | some o =>
      rw[ho]at hy;obtain⟨e,he,hb,rfl⟩:=bindsOf_mem.1 hy;exact .inr (h i o ho (h1 i (by simpa using hc)) e he hb)
   ·exact h1 y hy
 exact key _ _ fun x hx=>by
  rw[List.mem_singleton]at hx;exact .inl hx
def slotOf(ops:Array Oper)(a:Act)(i:Nat):Value:=match dstOf ops i with
 | some d=>a.tmps.getD d undef
 | none=>undef
structure HID(R:World→World→Prop)(ops:Array Oper)(n:Nat)(a:Act)(W:World)(F:Nat→Value→World→Prop)(listed:Array Bool)(a':Act)(w':World):Prop where
 lsize:listed.size=ops.size
 tail : ∀ t,n≤t→listed.getD t false=false
 defers:a'.defers=a.defers
 size:a'.tmps.size=a.tmps.size
 out : ∀ s,(∀ j,j<n→dstOf ops j≠some s)→a'.tmps[s]? = a.tmps[s]?
 facts : ∀ i,i<n→listed.getD i false=true→F i (slotOf ops a' i) w'
 grow:R W w'
 closed : ∀ i o,ops[i]? = some o→listed.getD i false=true → ∀ e∈o.after,Region.binds .any e=true→listed.getD e.on false=true
section
variable {R:World→World→Prop} {P:Program} {ops:Array Oper} {Q:Exit→Act→World→Prop} {n:Nat} {a:Act} {W:World} {F:Nat→Value→World→Prop}
def putLo(us:Nat→Value):Act→List (Option Nat)→Nat→Act
 | a,[],_=>a
 | a,d::ds,k=>putLo us (a.put d (us k)) ds (k+1)
theorem putLo_snoc(us:Nat→Value)(d:Option Nat) : ∀ (ds:List (Option Nat)) (a:Act) (k:Nat),putLo us a (ds++[d]) k=(putLo us a ds k).put d (us (k+ds.length))
 | [],a,k=>rfl
 | x::ds,a,k=>by
  rw[List.cons_append,putLo,putLo,putLo_snoc us d ds];simp only[List.length_cons];rw[show k+1+ds.length=k+(ds.length+1) by omega]
theorem putAll_eqD{ops:Array Oper}{a:Act}{us:Nat→Value}{ds:List (Option Nat)} : ∀ (n:Nat),n≤ds.length→(∀ i,i<n→some (dstOf ops i)=ds[i]?)→putAll ops a us n=putLo us a (ds.take n) 0
 | 0,_,_=>by rw[List.take_zero];rfl
 | n+1,hn,h=>by
  have h9:=h n (by omega);rw[List.getElem?_eq_getElem (by omega)]at h9;injection h9 with h9
  rw[putAll,putAll_eqD n (by omega) fun i hi=>h i (by omega),h9,List.take_succ_eq_append_getElem (by omega),putLo_snoc,List.length_take];rw[Nat.min_eq_left (by omega),Nat.zero_add]
end
end Go.Proofs.YtifconapjfdkcaaGreatDoor
namespace Go.Proofs.YtifconapjfdkcaaGreatDoor
set_option linter.unusedSimpArgs false
set_option linter.unusedVariables false
open Go.RowKit Go
def headOkW(ops:Array Oper)(n size:Nat):Bool :=
 (List.range n).all (fun i=>match dstOf ops i with
  | some d=>decide (d<size)&&(List.range i).all (fun j=>dstOf ops j != some d)
  | none=>true) &&
 (List.range n).all (fun i=>match ops[i]? with
  | some o=>(match o.guard with|none=>true|some (g,_)=>(bindsOf o).contains g)&&(bindsOf o).all (fun j=>decide (j<i))
  | none=>false) &&
 (List.range ops.size).all (fun t=>decide (t<n)||(List.range n).all fun i=>(cloFromD ops t).contains i)&&decide (n≤ops.size)
structure HeadFactsW(ops:Array Oper)(n size:Nat):Prop where
 dst : ∀ i d,i<n→dstOf ops i=some d→d<size
 inj : ∀ i j d,i<n→j<n→dstOf ops i=some d→dstOf ops j=some d→i=j
 guard : ∀ i o g b,i<n→ops[i]? = some o→o.guard=some (g,b)→g∈bindsOf o
 back : ∀ i o,i<n→ops[i]? = some o → ∀ e∈o.after,Region.binds .any e=true→e.on<i
 cover : ∀ t o,n≤t→ops[t]? = some o → ∀ i,i<n→i∈cloFromD ops t
 le:n≤ops.size
theorem headFactsW{ops:Array Oper}{n size:Nat}(h:headOkW ops n size=true):HeadFactsW ops n size:=by
 unfold headOkW at h;simp only[Bool.and_eq_true,List.all_eq_true,List.mem_range,decide_eq_true_eq]at h;obtain⟨⟨⟨h1,h2⟩,h3⟩,h4⟩:=h;have h1' : ∀ i d,i<n→dstOf ops i=some d→d<size ∧ ∀ j,j<i→dstOf ops j≠some d:=fun i d hi hd=>by
  have:=h1 i hi;rw[hd]at this;simp only[Bool.and_eq_true,decide_eq_true_eq,List.all_eq_true,List.mem_range,bne_iff_ne]at this;exact this
 refine⟨fun i d hi hd=>(h1' i d hi hd).1,fun i j d hi hj e1 e2 =>?_,fun i o g b hi ho hgd =>?_,fun i o hi ho e he hbe =>?_,fun t o ht ho i hi =>?_,h4⟩
 ·rcases Nat.lt_trichotomy i j with hlt|rfl|hlt
  ·exact absurd e1 ((h1' j d hj e2).2 i hlt)
  ·rfl
  ·exact absurd e2 ((h1' i d hi e1).2 j hlt)
 ·have:=h2 i hi;rw[ho]at this;simp only[hgd,Bool.and_eq_true,List.contains_iff_mem]at this;exact this.1
 ·have:=h2 i hi;rw[ho]at this;simp only[Bool.and_eq_true,List.all_eq_true,decide_eq_true_eq]at this;exact this.2 _ (bindsOf_mem.2 ⟨e,he,hbe,rfl⟩)
 ·have hts:t<ops.size:=(Array.getElem?_eq_some_iff.1 ho).1;have:=h3 t hts;simp only[Bool.or_eq_true,decide_eq_true_eq,List.all_eq_true,List.mem_range,List.contains_iff_mem]at this;rcases this with h|h
  ·omega
  ·exact h i hi
def boolIs(v:Value)(b:Bool):Bool:=match v with
 | .bool c=>c==b
 | _=>false
theorem yielded_is(ops:Array Oper)(a:Act)(g:Nat)(b:Bool):(yielded ops a.tmps g==some b)=boolIs (slotOf ops a g) b:=by
 unfold yielded slotOf dstOf
 cases hd:(ops[g]?).bind (·.dst) with
 | none=>rfl
 | some d =>
  simp only[Option.bind_some,Array.getD_eq_getD_getElem?]
  cases ht:a.tmps[d]? with
  | none=>rfl
  | some v=>cases v <;> simp[boolIs]
structure HIW(R:World→World→Prop)(ops:Array Oper)(n:Nat)(a:Act)(W:World)(F:Nat→Value→World→Prop)(listed:Array Bool)(a':Act)(w':World):Prop where
 lsize:listed.size=ops.size
 tail : ∀ t,n≤t→listed.getD t false=false
 defers:a'.defers=a.defers
 size:a'.tmps.size=a.tmps.size
 out : ∀ s,(∀ j,j<n→dstOf ops j≠some s)→a'.tmps[s]? = a.tmps[s]?
 facts : ∀ i,i<n→listed.getD i false=true→F i (slotOf ops a' i) w'
 grow:R W w'
 closed : ∀ i o,ops[i]? = some o→listed.getD i false=true → ∀ e∈o.after,Region.binds .any e=true→listed.getD e.on false=true
section
variable {R:World→World→Prop} {P:Program} {ops:Array Oper} {Q:Exit→Act→World→Prop} {n:Nat} {a:Act} {W:World} {F:Nat→Value→World→Prop}
theorem wpAny_factsW(hRt : ∀ {x y z:World},R x y→R y z→R x z){l:List Oper}(hl:l.toArray=ops)(hh:HeadFactsW ops n a.tmps.size)(hseq:Region.seqB .any ops (ops.size-n) n (headListed ops n)=true)
 (run:Nat→Bool) (hF : ∀ i v w w',F i v w→R w w'→F i v w')
 (hg : ∀ i o g b,i<n→ops[i]? = some o→o.guard=some (g,b) → ∀ v w,F g v w→boolIs v b=run i) (hrn : ∀ i o,i<n→ops[i]? = some o→o.guard=none→run i=true) (hsk : ∀ i w,i<n→run i=false→F i undef w)
 (hstep : ∀ i o,i<n→run i=true→ops[i]? = some o → ∀ a' w',R W w'→(∀ s,(∀ j,j<n→dstOf ops j≠some s)→a'.tmps[s]? = a.tmps[s]?) →
  (∀ e∈o.after,Region.binds .any e=true→F e.on (slotOf ops a' e.on) w') → ∀ K:Act→World→Prop,(∀ v w'',F i (match o.dst with|some _=>v|none=>undef) w''→R w' w''→K (a'.put o.dst v) w'')→o.wp P a' w' K Q)
 (hfin : ∀ us w',R W w'→(∀ i,i<n→F i (us i) w')→wpList P ops Q (l.drop n) (putAll ops a us n) w') :
 ∀ (f:Nat) (listed:Array Bool) (a':Act) (w':World),left n listed=f→HIW R ops n a W F listed a' w'→wpAny P .any ops Q (f+(ops.size-n)) listed a' w':=by
 have hdl:(l.drop n).length=ops.size-n:=by rw[List.length_drop, ←hl];simp
 intro f
 induction f with
 | zero =>
  intro listed a' w' hlf hi;have hall:=left_zero hlf;have e1:listed=headListed ops n:=by
   apply Array.ext
   ·rw[hi.lsize];simp[headListed]
   ·intro k h1 h2;have hk:k<ops.size:=by rw[←hi.lsize];exact h1
    have e3:(headListed ops n)[k]=decide (k<n):=by simp[headListed]
    rw[e3]
    by_cases hkn:k<n
    ·have:=hall k hkn;simp[h1]at this;rw[this];simp[hkn]
    ·have:=hi.tail k (by omega);simp[h1]at this;rw[this];simp[hkn]
  have e2:a'=putAll ops a (slotOf ops a') n:=by
   have es:a'.tmps=(putAll ops a (slotOf ops a') n).tmps:=by
    apply Array.ext_getElem?;intro s
    by_cases hs : ∃ i,i<n∧dstOf ops i=some s
    ·obtain⟨i,hin,hd⟩:=hs;have hlt:=hh.dst i s hin hd;rw[putAll_in hlt hd hin fun j hj hji e=>hji (hh.inj j i s hj hin e hd)];have:s<a'.tmps.size:=by rw[hi.size];exact hlt
     simp[slotOf,hd,this]
    ·rw[putAll_out fun j hj e=>hs ⟨j,hj,e⟩];exact hi.out s fun j hj e=>hs ⟨j,hj,e⟩
   have ed:a'.defers=(putAll ops a (slotOf ops a') n).defers:=by rw[putAll_defers];exact hi.defers
   cases ha:a' with
   | mk t d =>
    rw[ha]at es ed
    cases hp:putAll ops a (slotOf ops (Act.mk t d)) n with
    | mk t2 d2 =>
     rw[hp]at es ed;simp only at es ed;rw[es,ed]
  rw[Nat.zero_add, ←hdl];subst e1;refine wpAny_of_seq (l.drop n) n _ a' w' (fun j=>by rw[List.getElem?_drop, ←hl];simp) (by rw[hdl];exact hseq) ?_;rw[e2];exact hfin _ w' hi.grow fun i hin=>hi.facts i hin (hall i hin)
 | succ f ih =>
  intro listed a' w' hlf hi;rw[show f+1+(ops.size-n)=(f+(ops.size-n))+1 by omega];have hle:=hh.le;refine⟨fun h0 =>?_,fun i hr =>?_⟩
  ·exfalso;have hex : ∃ i,i<n∧listed.getD i false=false:=by
    have hne:(List.range n).filter (fun i => !listed.getD i false)≠[]:=fun e=>by
     unfold left at hlf;rw[e]at hlf
     cases hlf
    obtain⟨i,hi'⟩:=List.exists_mem_of_ne_nil _ hne;rw[List.mem_filter,List.mem_range]at hi';exact⟨i,hi'.1,by simpa using hi'.2⟩
   have key : ∀ i,i<n→listed.getD i false=true:=by
    intro i
    induction i using Nat.strongRecOn with
    | _ i ihi =>
     intro hin
     cases hli:listed.getD i false with
     | true=>rfl
     | false =>
      exfalso;have hil:i<listed.size:=by rw[hi.lsize];omega
      have hmem:i∈Region.ready .any ops listed:=by
       rw[mem_ready];have hio:i<ops.size:=by omega
       refine⟨Go.getD_in hil hli,ops[i],by simp[hio],fun e he hbe =>?_⟩;have hlt:=hh.back i _ hin (by simp[hio]) e he hbe;exact ihi e.on hlt (by omega)
      rw[h0]at hmem
      cases hmem
   obtain⟨i,hin,hlf'⟩:=hex;rw[key i hin]at hlf'
   cases hlf'
  ·obtain⟨hun,o,ho,hall⟩:=mem_ready.1 hr;have hun':=getD_both hun;have hio:i<ops.size:=(Array.getElem?_eq_some_iff.1 ho).1;have hin:i<n:=by
    rcases Nat.lt_or_ge i n with h|h
    ·exact h
    ·exfalso;have hz:left n listed=0:=by
      unfold left;rw[List.length_eq_zero_iff,List.filter_eq_nil_iff];intro j hj;have hjn:=List.mem_range.1 hj;have hcl:=cloFromD_listed (t:=i) (L:=fun x=>listed.getD x false=true) (fun k ok hok hk e he hbe=>by
       rcases hk with rfl|hk
       ·rw[ho]at hok;obtain rfl:=Option.some.inj hok;exact hall e he hbe
       ·exact hi.closed k ok hok hk e he hbe) j (hh.cover i o h ho j hjn)
      rcases hcl with h9|h9
      ·omega
      ·rw[h9];simp
     omega
   have hil:i<listed.size:=by rw[hi.lsize];exact hio
   unfold wpOp;rw[ho];have hod:dstOf ops i=o.dst:=by unfold dstOf;rw[ho];rfl
   have hwant:Region.wanted o (yielded ops a'.tmps)=run i:=by
    cases hgd:o.guard with
    | none=>rw[hrn i o hin ho hgd];simp[Region.wanted,hgd]
    | some gb =>
     obtain⟨g,b⟩:=gb;obtain⟨e,he,hbe,heg⟩:=bindsOf_mem.1 (hh.guard i o g b hin ho hgd);have hgi:=hh.back i o hin ho e he hbe;have hv:=hg i o g b hin ho hgd _ _ (hi.facts e.on (by omega) (hall e he hbe) |> fun h=>by rw[heg]at h;exact h);rw[←hv];unfold Region.wanted;rw[hgd];exact yielded_is ops a' g b
   have cont : ∀ v w'',F i (match o.dst with|some _=>v|none=>undef) w''→R W w''→(∀ j u,F j u w'→F j u w'')→wpAny P .any ops Q (f+(ops.size-n)) (listed.setIfInBounds i true) (a'.put o.dst v) w'':=fun v w'' hfv hgr hFj=>by
    have hmon : ∀ x,listed.getD x false=true→(listed.setIfInBounds i true).getD x false=true:=fun x hx=>by
     by_cases hxi:x=i
     ·subst hxi;simp[hil]
     ·rw[Go.getD_set_ne false (fun e=>hxi e.symm)];exact hx
    refine ih _ _ _ ?_ ⟨by simpa using hi.lsize,fun t ht=>by rw[Go.getD_set_ne false (by omega)];exact hi.tail t ht, ?_, ?_,fun s hs =>?_,fun j hj hlj =>?_,hgr,fun k ok hok hk e he hbe =>?_⟩
    ·have:=left_set hin hil hun';omega
    ·unfold Act.put;split <;> exact hi.defers
    ·unfold Act.put;split
     ·simpa using hi.size
     ·exact hi.size
    ·unfold Act.put;split
     ·rename_i d hd;simp only;rw[Array.getElem?_setIfInBounds_ne (fun e=>hs i hin (by rw[hod,hd,e]))];exact hi.out s hs
     ·exact hi.out s hs
    ·by_cases hji:j=i
     ·subst hji;unfold slotOf;rw[hod]
      cases hd:o.dst with
      | none =>
       simp only;exact(show F j (match o.dst with|some _=>v|none=>undef) w'' from hfv) |> fun h=>by rw[hd]at h;exact h
      | some d =>
       have hdl':=hh.dst j d hin (by rw[hod,hd]);have:d<a'.tmps.size:=by rw[hi.size];exact hdl'
       have h9:F j (match o.dst with|some _=>v|none=>undef) w'':=hfv;rw[hd]at h9;simp only[Act.put];simpa[this] using h9
     ·rw[Go.getD_set_ne false (fun e=>hji e.symm)]at hlj;have h9:=hFj j _ (hi.facts j hj hlj);unfold slotOf at h9 ⊢;unfold Act.put
      cases hd:o.dst with
      | none=>simpa[hd] using h9
      | some d =>
       cases hdj:dstOf ops j with
       | none=>rw[hdj]at h9;simpa using h9
       | some d' =>
        have hne:d≠d':=fun e=>hji (hh.inj j i d' hj hin hdj (by rw[hod,hd,e]))
        rw[hdj]at h9;simp only at h9 ⊢;simpa[Array.getElem?_setIfInBounds_ne hne] using h9
    ·by_cases hki:k=i
     ·subst hki;rw[ho]at hok;obtain rfl:=Option.some.inj hok;exact hmon _ (hall e he hbe)
     ·rw[Go.getD_set_ne false (fun e=>hki e.symm)]at hk;exact hmon _ (hi.closed k ok hok hk e he hbe)
   cases hr9:run i with
   | false =>
    rw[hr9]at hwant;simp only[hwant];refine cont undef w' ?_ hi.grow fun j u h=>h
    have:=hsk i w' hin hr9
    cases o.dst <;> exact this
   | true =>
    rw[hr9]at hwant;simp only[hwant,if_true];exact .inl (hstep i o hin hr9 ho a' w' hi.grow hi.out (fun e he hbe=>hi.facts e.on (Nat.lt_trans (hh.back i o hin ho e he hbe) hin) (hall e he hbe)) _ fun v w'' hfv hbl=>cont v w'' hfv (hRt hi.grow hbl) fun j u h=>hF j u _ _ h hbl)
theorem wp_region_factsW(R:World→World→Prop)(hRt : ∀ {x y z:World},R x y→R y z→R x z){id:Nat}{l:List Oper}{w:World}(n:Nat)(ds:List (Option Nat))(F:Nat→Value→World→Prop)(hD:R w { w with drawn:=w.drawn+1 })(hm:P.follows .mixedOrders=true)(hok:headOkW l.toArray n a.tmps.size=true)(hds:((List.range n).map (dstOf l.toArray)==ds)=true)(hseq:Region.seqB .any l.toArray (l.toArray.size-n) n (headListed l.toArray n)=true)
 (run:Nat→Bool) (hg : ∀ i o g b,i<n→l[i]? = some o→o.guard=some (g,b) → ∀ v w,F g v w→boolIs v b=run i) (hrn : ∀ i o,i<n→l[i]? = some o→o.guard=none→run i=true) (hsk : ∀ i w,i<n→run i=false→F i undef w)
 (hF : ∀ i v w w',F i v w→R w w'→F i v w')
 (hstep : ∀ i o,i<n→run i=true→l[i]? = some o → ∀ a' w',R w w'→(∀ s,some s ∉ ds→a'.tmps[s]? = a.tmps[s]?) →
  (∀ e∈o.after,Region.binds .any e=true → ∀ d,ds[e.on]? = some (some d)→F e.on (a'.tmps.getD d undef) w') → ∀ K:Act→World→Prop,(∀ v w'',F i (match o.dst with|some _=>v|none=>undef) w''→R w' w''→K (a'.put o.dst v) w'')→o.wp P a' w' K Q)
 (hfin : ∀ us w',R w w'→(∀ i,i<n→F i (us i) w')→wpList P l.toArray Q (l.drop n) (putLo us a ds 0) w'):(Code.region id l.toArray true).wp P Q a w:=by
 have hh:=headFactsW hok;have hdl:=beq_iff_eq.1 hds;have hlen:ds.length=n:=by
  have:=congrArg List.length hdl;simpa using this.symm
 have hdi : ∀ i,i<n→some (dstOf l.toArray i)=ds[i]? :=fun i hi=>by
  have:=congrArg (·[i]?) hdl;simpa only [List.getElem?_map,List.getElem?_range hi,Option.map_some] using this
 refine wp_region_any hm ?_;have hl0:left n (Array.replicate l.toArray.size false)=n:=by
  unfold left;rw[List.filter_eq_self.2 fun i _=>by rw[getD_replicate_false];rfl,List.length_range]
 have hsz:l.toArray.size=n+(l.toArray.size-n):=by have:=hh.le;omega
 have key:=wpAny_factsW (P:=P) (Q:=Q) (ops:=l.toArray) (n:=n) (a:=a) (W:=w) (F:=F) (R:=R) hRt rfl hh hseq run hF (fun i o g b hi ho=>hg i o g b hi (by simpa using ho)) (fun i o hi ho=>hrn i o hi (by simpa using ho)) hsk
  (fun i o hi hr9 ho a' w' hb' hout hpre=>hstep i o hi hr9 (by simpa using ho) a' w' hb'
   (fun s hs=>hout s fun j hj e=>hs (by have:=hdi j hj;rw[e]at this;exact List.mem_of_getElem? this.symm))
   (fun e he hbe d hd=>by
    have hlt:=hh.back i o hi ho e he hbe;have h9:=hdi e.on (by omega);rw[hd]at h9;injection h9 with h9
    have:=hpre e he hbe;unfold slotOf at this;rw[h9]at this;exact this))
  (fun us w' hb' hf=>by
   have:=hfin us w' hb' hf;rw[←List.take_of_length_le (l:=ds) (i:=n) (by omega)]at this;rw[putAll_eqD n (by omega) hdi];exact this) n (Array.replicate l.toArray.size false) a { w with drawn:=w.drawn+1 } hl0
  ⟨by simp,fun t _=>getD_replicate_false _ _,rfl,rfl,fun _ _=>rfl,fun i _ h=>(by rw[getD_replicate_false]at h;cases h),hD,fun i o _ h=>(by rw[getD_replicate_false]at h;cases h)⟩
 rw[←hsz]at key;exact key
def runV(l:List Oper)(V:Nat→Value)(i:Nat):Bool:=match (l[i]?).bind (·.guard) with
 | none=>true
 | some (g,b)=>boolIs (V g) b
def putV:Act→List Nat→List Value→Act
 | a,d::ds,v::vs=>putV (a.put (some d) v) ds vs
 | a,_,_=>a
theorem putLo_V{us:Nat→Value} : ∀ (ds:List Nat) (vs:List Value) (a:Act) (k:Nat),ds.length=vs.length→(∀ i,i<ds.length→us (k+i)=vs.getD i undef)→putLo us a (ds.map some) k=putV a ds vs
 | [],[],_,_,_,_=>rfl
 | d::ds,v::vs,a,k,hl,h=>by
  rw[List.map_cons,putLo,putV];have h0:=h 0 (by simp);rw[Nat.add_zero]at h0;rw[h0];refine putLo_V ds vs _ _ (by simpa using hl) fun i hi =>?_
  have:=h (i+1) (by simpa using hi);rw[show k+(i+1)=k+1+i by omega]at this;exact this
theorem wp_region_vals(R:World→World→Prop)(hRt : ∀ {x y z:World},R x y→R y z→R x z){id:Nat}{l:List Oper}{w:World}(n:Nat)(ds:List Nat)(vs:List Value)(hvl:(vs.length==n)=true)(hD:R w { w with drawn:=w.drawn+1 })(hm:P.follows .mixedOrders=true)(hok:headOkW l.toArray n a.tmps.size=true)(hds:((List.range n).map (dstOf l.toArray)==ds.map some)=true)(hseq:Region.seqB .any l.toArray (l.toArray.size-n) n (headListed l.toArray n)=true)
 (hsk : ∀ i,i<n→runV l (fun i=>vs.getD i undef) i=false→vs.getD i undef=undef)
 (hstep : ∀ i o,i<n→runV l (fun i=>vs.getD i undef) i=true→l[i]? = some o → ∀ a' w',R w w'→(∀ s,s ∉ ds→a'.tmps[s]? = a.tmps[s]?) →
  (∀ e∈o.after,Region.binds .any e=true → ∀ d,ds[e.on]? = some d→a'.tmps.getD d undef=vs.getD e.on undef) → ∀ K:Act→World→Prop,(∀ w'',R w' w''→K (a'.put o.dst (vs.getD i undef)) w'')→o.wp P a' w' K Q)
 (hfin : ∀ w',R w w'→wpList P l.toArray Q (l.drop n) (putV a ds vs) w'):(Code.region id l.toArray true).wp P Q a w:=by
 have hdl:=beq_iff_eq.1 hds;have hlen:ds.length=n:=by
  have:=congrArg List.length hdl;simpa using this.symm
 have hdi : ∀ i,i<n → ∃ d,dstOf l.toArray i=some d:=fun i hi=>by
  have:=congrArg (·[i]?) hdl;simp only[List.getElem?_map,List.getElem?_range hi,Option.map_some]at this;rw[List.getElem?_eq_getElem (by omega)]at this;exact⟨_,by simpa using this⟩
 refine wp_region_factsW R hRt n (ds.map some) (fun i v _=>v=vs.getD i undef) hD hm hok hds hseq (runV l fun i=>vs.getD i undef) (fun i o g b hi ho hgd v w h =>?_) (fun i o hi ho hgd =>?_) (fun i w hi h=>(hsk i hi h).symm) (fun _ _ _ _ h _=>h) (fun i o hi hr ho a' w' hb hout hpre K hK =>?_) fun us w' hb hf =>?_
 ·rw[h];unfold runV;rw[ho];simp only[Option.bind_some,hgd]
 ·unfold runV;rw[ho];simp only[Option.bind_some,hgd]
 ·refine hstep i o hi hr ho a' w' hb (fun s hs=>hout s (by simpa using hs)) (fun e he hbe d hd=>hpre e he hbe d (by rw[List.getElem?_map,hd];rfl)) K fun w'' hw=>hK (vs.getD i undef) w'' ?_ hw
  obtain⟨d,hd⟩:=hdi i hi;have:o.dst=some d:=by
   unfold dstOf at hd;rw[List.getElem?_toArray,ho]at hd;exact hd
  rw[this]
 ·rw[putLo_V ds vs a 0 (by rw[hlen];exact(beq_iff_eq.1 hvl).symm) fun i hi=>by rw[Nat.zero_add];exact hf i (by omega)];exact hfin w' hb
end
end Go.Proofs.YtifconapjfdkcaaGreatDoor
namespace Go.Proofs.YtifconapjfdkcaaGreatDoor
set_option linter.unusedSimpArgs false
set_option linter.unusedVariables false
open Go.RowKit
theorem span40_any(s1 s2:Int)(w:World):Calls Tryz.prog 43 #[.agg #[.int .i64 s1,.int .i64 s2]] w (BoolPost (vacOk ⟨s1,s2⟩) w):=by
 have HB:Hid (∀ o,Below w.heap.size w (w.alloc o)):=fun o=>(Below.refl _ _).alloc (Nat.le_refl _) o
 have HV:Hid (vacOk ⟨s1,s2⟩=(decide (0≤s1)&&decide (s1<s2)&&decide (s2≤52596000))):=rfl
 by_cases h1:0≤s1
 ·by_cases h2:s1<s2
  ·by_cases h3:s2≤52596000
   ·have HE:Hid (vacOk ⟨s1,s2⟩=true):=by show _=_;rw[HV.out];simp[h1,h2,h3]
    go_enter Tryz.func43,Tryz.ntmps43
    go_wp2_with fail
    go_ret
    exact⟨ret_bool HE.out.symm,HB.out _⟩
   ·have HE:Hid (vacOk ⟨s1,s2⟩=false):=by show _=_;rw[HV.out];simp[h3]
    go_enter Tryz.func43,Tryz.ntmps43
    go_wp2_with fail
    go_ret
    exact⟨ret_bool HE.out.symm,HB.out _⟩
  ·have HE:Hid (vacOk ⟨s1,s2⟩=false):=by show _=_;rw[HV.out];simp[h2]
   go_enter Tryz.func43,Tryz.ntmps43
   go_wp2_with fail
   go_ret
   exact⟨ret_bool HE.out.symm,HB.out _⟩
 ·have HE:Hid (vacOk ⟨s1,s2⟩=false):=by show _=_;rw[HV.out];simp[h1]
  go_enter Tryz.func43,Tryz.ntmps43
  go_wp2_with fail
  go_ret
  exact⟨ret_bool HE.out.symm,HB.out _⟩
set_option maxRecDepth 100000 in
set_option maxHeartbeats 1600000 in
theorem flight40_any(t:GTT)(x:GInc)(A1 A2 A3:Option Addr)(n1 n2 n3 c1 c2 c3:Nat)(w:World)(hs2:Sl Ty.airport w (all_ w) A2 n2 c2 t.airports)(hs3:Sl Ty.flight w (all_ w) A3 n3 c3 t.flights) :
 Calls Tryz.prog 41 #[.agg #[.slice A1 n1 c1,.slice A2 n2 c2,.slice A3 n3 c3],incVal x] w (ErrPost (incE2 t x) w):=by
 have hn1:n3≤t.flights.length:=Nat.le_of_eq hs3.len;have hn2:t.flights.length≤n3:=Nat.le_of_eq hs3.len.symm;have hle:=hs3.le;unfold maxLen at hle;have HA:Hid (∀ o p,Below w.heap.size w ((w.alloc o).alloc p)):=fun o p=>((Below.refl _ _).alloc (Nat.le_refl _) o).alloc (by simp) p
 unfold incVal;obtain⟨kind,fl,mi,ai,pe,⟨s1,s2⟩⟩:=x;simp only
 by_cases hk:kind<1∨4<kind
 ·have HR:Hid (incE2 t ⟨kind,fl,mi,ai,pe,⟨s1,s2⟩⟩=5):=by show _=_;unfold incE2;exact if_pos hk
  have hk':kind<1∨(¬kind<1∧4<kind):=by omega
  have h1 : ¬kind=1:=by omega
  have h2 : ¬kind=2:=by omega
  have h3 : ¬kind=3:=by omega
  clear hk hs2 hs3;rcases hk' with h|⟨h,h'⟩
  all_goals
   go_enter Tryz.func41,Tryz.ntmps41
   go_wp2_with fail
   go_ret
   exact⟨by rw[HR.out];rfl,HA.out _ _⟩
 by_cases hk4:kind=4
 ·subst hk4;have HR:Hid (incE2 t ⟨4,fl,mi,ai,pe,⟨s1,s2⟩⟩=0):=by show _=_;unfold incE2;rw[if_neg hk,if_pos rfl]
  clear hk hs2 hs3
  go_enter Tryz.func41,Tryz.ntmps41
  go_wp2_with fail
  go_quiet (fail)
  go_wp2_with fail
  go_ret
  exact⟨by rw[HR.out];rfl,below_drewN (HA.out _ _) _⟩
 have HE2:Hid (incE2 t ⟨kind,fl,mi,ai,pe,⟨s1,s2⟩⟩=flightIncE t ⟨kind,fl,mi,ai,pe,⟨s1,s2⟩⟩):=by show _=_;unfold incE2;rw[if_neg hk,if_neg hk4]
 have hk':kind=1∨kind=2∨kind=3:=by omega
 clear hk
 by_cases hf:fl<0∨(t.flights.length:Int)≤fl
 ·have HR:Hid (incE2 t ⟨kind,fl,mi,ai,pe,⟨s1,s2⟩⟩=6):=by show _=_;rw[HE2.out];unfold flightIncE;exact if_pos hf
  have hf':fl<0∨(¬fl<0∧(n3:Int)≤fl):=by omega
  clear hf hs2 hs3 hk4;rcases hk' with rfl|rfl|rfl
  all_goals rcases hf' with h|⟨h,h'⟩
  all_goals
   go_enter Tryz.func41,Tryz.ntmps41
   go_wp2_with fail
   go_ret
   exact⟨by rw[HR.out];rfl,HA.out _ _⟩
 have hf0:0≤fl:=by omega
 have hf1:fl<(n3:Int):=by omega
 rcases hk' with rfl|rfl|rfl
 ·have HR:Hid (incE2 t ⟨1,fl,mi,ai,pe,⟨s1,s2⟩⟩=if mi<1∨1440<mi then 5 else 0):=by show _=_;rw[HE2.out];unfold flightIncE;rw[if_neg hf,if_pos rfl]
  clear hf hs2 hs3
  by_cases hm:mi<1∨1440<mi
  ·rw[if_pos hm]at HR;have hm':mi<1∨(¬mi<1∧1440<mi):=by omega
   clear hm;rcases hm' with h|⟨h,h'⟩
   all_goals
    go_enter Tryz.func41,Tryz.ntmps41
    go_wp2_with fail
    go_ret
    exact⟨by rw[HR.out];rfl,HA.out _ _⟩
  ·rw[if_neg hm]at HR;have h1 : ¬mi<1:=by omega
   have h2 : ¬1440<mi:=by omega
   clear hm
   go_enter Tryz.func41,Tryz.ntmps41
   go_wp2_with fail
   go_quiet (fail)
   go_wp2_with fail
   go_ret
   exact⟨by rw[HR.out];rfl,below_drewN (HA.out _ _) _⟩
 ·have HR:Hid (incE2 t ⟨2,fl,mi,ai,pe,⟨s1,s2⟩⟩=0):=by show _=_;rw[HE2.out];unfold flightIncE;rw[if_neg hf,if_neg (show ¬(2:Int)=1 by decide),if_neg (show ¬(2:Int)=3 by decide)]
  clear hf hs2 hs3
  go_enter Tryz.func41,Tryz.ntmps41
  go_wp2_with fail
  go_quiet (fail)
  go_wp2_with fail
  go_ret
  exact⟨by rw[HR.out];rfl,below_drewN (HA.out _ _) _⟩
 ·have HR:Hid (incE2 t ⟨3,fl,mi,ai,pe,⟨s1,s2⟩⟩=if hasB (aCodes t.airports) ai=false then 6 else if ai=(t.flights.getD fl.toNat noFlight).src then 14 else if mi<0∨720<mi then 5 else 0):=by show _=_;rw[HE2.out];unfold flightIncE;rw[if_neg hf,if_neg (show ¬(3:Int)=1 by decide),if_pos rfl]
  have hA0:=HA.out (.cells #[.slice A1 n1 c1,.slice A2 n2 c2,.slice A3 n3 c3] 27) (.cells #[.int .i64 3,.int .i64 fl,.int .i64 mi,.string ai,.int .i64 pe,.int .i64 s1,.int .i64 s2] 59);have HC:=Lib.hid (airportIndex_any t.airports ai A2 n2 c2 (all_ w) _ (hs2.keep (all_keep hA0)));have HS:=Lib.hid (hs3.keep (all_keep hA0));have g0:((w.alloc (.cells #[.slice A1 n1 c1,.slice A2 n2 c2,.slice A3 n3 c3] 27)).alloc (.cells #[.int .i64 3,.int .i64 fl,.int .i64 mi,.string ai,.int .i64 pe,.int .i64 s1,.int .i64 s2] 59)).heap[w.heap.size]? = some (.cells #[.slice A1 n1 c1,.slice A2 n2 c2,.slice A3 n3 c3] 27 (0,0)):=heap_alloc2_old _ _ _;have g1:((w.alloc (.cells #[.slice A1 n1 c1,.slice A2 n2 c2,.slice A3 n3 c3] 27)).alloc (.cells #[.int .i64 3,.int .i64 fl,.int .i64 mi,.string ai,.int .i64 pe,.int .i64 s1,.int .i64 s2] 59)).heap[w.heap.size+1]? = some (.cells #[.int .i64 3,.int .i64 fl,.int .i64 mi,.string ai,.int .i64 pe,.int .i64 s1,.int .i64 s2] 59 (0,0)):=heap_alloc2_new _ _ _;have HIN:=Lib.hid (idxOf_neg (aCodes t.airports) ai);have HA1:=Lib.hid hA0;have G0:=Lib.hid g0;have G1:=Lib.hid g1;clear hf hs2 hs3 g0 g1 hA0 HA;generalize idxOf (aCodes t.airports) ai=ix at*;generalize hasB (aCodes t.airports) ai=hb at*
  go_enter Tryz.func41,Tryz.ntmps41
  go_wp2_with fail
  refine HC.out.mono ?_;clear HC;generalize (w.alloc (.cells #[.slice A1 n1 c1,.slice A2 n2 c2,.slice A3 n3 c3] 27)).alloc (.cells #[.int .i64 3,.int .i64 fl,.int .i64 mi,.string ai,.int .i64 pe,.int .i64 s1,.int .i64 s2] 59)=W at*;rintro e w9 ⟨rfl,hX⟩;rw[←hX];clear hX w9;have y0:=fun j=>block_cell G0.out j
  have y1:=fun j=>block_cell G1.out j
  have x1:=y0 1;have x2:=y0 2;have q0:=y1 0;have q1:=y1 1;have q2:=y1 2;have q3:=y1 3;obtain⟨b,o,rfl,hbS,hfl⟩:=HS.out.flight_at (k:=fl.toNat) (by omega);have z6:W.cell? ⟨b,o+fl.toNat*9+1,none⟩=some (.string (t.flights.getD fl.toNat noFlight).src):=hfl 1 _ rfl;generalize (t.flights.getD fl.toNat noFlight).src=src at*;clear y0 y1 hfl HS
  cases hb with
  | false =>
   have hix:ix<0:=by have:=HIN.out;simpa using this
   rw[if_pos rfl]at HR;go_wp2_with fail
   go_ret
   exact⟨by rw[HR.out];rfl,HA1.out⟩
  | true =>
   have hix : ¬ix<0:=by have:=HIN.out;simpa using this
   rw[if_neg (by simp)]at HR;have HSB:=Lib.hid (str_beq src ai)
   by_cases he:ai=src
   ·rw[if_pos he]at HR;have hs:(src.toList==ai.toList)=true:=by rw[HSB.out];simpa using he.symm
    clear he;go_wp2_with fail
    go_quiet (fail)
    go_wp2_with fail
    go_ret
    exact⟨by rw[HR.out];rfl,below_drewN HA1.out _⟩
   ·rw[if_neg he]at HR;have hs:(src.toList==ai.toList)=false:=by rw[HSB.out];simpa using fun e=>he e.symm
    clear he
    by_cases hm:mi<0∨720<mi
    ·rw[if_pos hm]at HR;have hm':mi<0∨(¬mi<0∧720<mi):=by omega
     clear hm;rcases hm' with h|⟨h,h'⟩
     all_goals
      go_wp2_with fail
      go_quiet (fail)
      go_wp2_with fail
      go_ret
      exact⟨by rw[HR.out];rfl,below_drewN HA1.out _⟩
    ·rw[if_neg hm]at HR;have h1 : ¬mi<0:=by omega
     have h2 : ¬720<mi:=by omega
     clear hm;go_wp2_with fail
     go_quiet (fail)
     go_wp2_with fail
     go_ret
     exact⟨by rw[HR.out];rfl,below_drewN HA1.out _⟩
end Go.Proofs.YtifconapjfdkcaaGreatDoor

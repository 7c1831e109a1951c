/-
  Joined texts: Law40Plain; Same40; DataOk; ApplyRPlain; ApplyRMem; RegionD; RegionW; RefInc. What each proves stands ahead of it, with its conditions.
-/
import Derived.Test.YtifconapjfdkcaaGreatDoorPAA
import Derived.Sort.LotA
import Derived.WalkKit
import Derived.WalkLawsBesides
import Derived.WalkSpells
import Derived.Lib.Hide
import Derived.Maps.AppendAt
import Derived.Sort.Walk0
import Derived.Lib.SplitLaws
import Derived.Lib.IndexMore
import Derived.Lib.Strings
import Derived.Test.YtifconapjfdkcaaGreatDoorProg
import Derived.Lib.ItoaNum
import Derived.ProofKit
import Derived.Deep.Slices
import Derived.Deep.QuietTactic
import Derived.BigQuiet
import Derived.IntWalk
import Derived.Maps.OwnOps
import Derived.Maps.Views
import Derived.StillTailTactics
import Derived.Deep.RegionWith
import Derived.ChangeKeysEq
import Derived.Lib.AppendStr
import Derived.Laws.Rows
import Derived.Laws.Tables
import Derived.Deep.AppendLies
import Derived.Deep.RegionLaw
import Derived.StillTail
import Derived.RegionTactic
import Derived.Deep.DeepCutAuto
import Derived.Shelf.Strings.Builder1
import Derived.Shelf.Strings.Builder2
import Derived.Shelf.Small.Strs
import Derived.Shelf.Strings.BuilderF
import Derived.Shelf.Strconv.Itoa0
import Derived.Shelf.Strconv.Itoa1
import Derived.Shelf.LaysM
import Derived.Shelf.Strconv.Itoa2
import Derived.Shelf.Strconv.Itoa3
import Derived.Shelf.Strings.Search1
import Derived.Shelf.Strings.Search2
import Derived.Shelf.Strings.Search3
import Derived.Shelf.Strings.Cut
import Derived.Shelf.Strings.Count
import Derived.Shelf.Strings.Shaped
import Derived.Shelf.Strings.Prefix
import Derived.Shelf.Strings.Split
import Derived.Shelf.Strings.SplitShaped
import Derived.Shelf.Bits.Mul64
import Derived.Shelf.Strings.Repeat
import Derived.Shelf.Unicode.DecodeSlow
import Derived.Ground.SlsfProg
import Derived.Shelf.SlSortCmp.Insertion
import Derived.Shelf.SlSortCmp.Insertion1
import Derived.Lib.Bytealg
import Derived.Sort.OwnSortedInts
import Derived.Sort.WalkA
import Derived.Deep.OwnRows
import Derived.Test.YtifconapjfdkcaaGreatDoorBAA
import Derived.Test.YtifconapjfdkcaaGreatDoorBAB
import Derived.Test.YtifconapjfdkcaaGreatDoorBAC
import Derived.Test.YtifconapjfdkcaaGreatDoorBAD
import Derived.Test.YtifconapjfdkcaaGreatDoorBAE
import Derived.Test.YtifconapjfdkcaaGreatDoorBAF
import Derived.Test.YtifconapjfdkcaaGreatDoorBAG
import Derived.Test.YtifconapjfdkcaaGreatDoorBAH
import Derived.Test.YtifconapjfdkcaaGreatDoorBAI
import Derived.Test.YtifconapjfdkcaaGreatDoorBAJ
import Derived.Test.YtifconapjfdkcaaGreatDoorBAK
import Derived.Test.YtifconapjfdkcaaGreatDoorBAL
import Derived.Test.YtifconapjfdkcaaGreatDoorBAM
import Derived.Test.YtifconapjfdkcaaGreatDoorBAN
import Derived.Test.YtifconapjfdkcaaGreatDoorBAO
import Derived.Test.YtifconapjfdkcaaGreatDoorBAP
import Derived.Test.YtifconapjfdkcaaGreatDoorBAQ
import Derived.Test.YtifconapjfdkcaaGreatDoorBAR
import Derived.Test.YtifconapjfdkcaaGreatDoorBAS
import Derived.Test.YtifconapjfdkcaaGreatDoorBAT
import Derived.Test.YtifconapjfdkcaaGreatDoorBAU
import Derived.Test.YtifconapjfdkcaaGreatDoorBAV
import Derived.Test.YtifconapjfdkcaaGreatDoorBAW
import Derived.Test.YtifconapjfdkcaaGreatDoorBAX
import Derived.Test.YtifconapjfdkcaaGreatDoorBAY
import Derived.Test.YtifconapjfdkcaaGreatDoorBAZ
import Derived.Test.YtifconapjfdkcaaGreatDoorBBA
import Derived.Test.YtifconapjfdkcaaGreatDoorBBB
import Derived.Test.YtifconapjfdkcaaGreatDoorBBC
import Derived.Test.YtifconapjfdkcaaGreatDoorBBD
import Derived.Test.YtifconapjfdkcaaGreatDoorBBE
import Derived.Test.YtifconapjfdkcaaGreatDoorBBF
import Derived.Test.YtifconapjfdkcaaGreatDoorBBG
import Derived.Test.YtifconapjfdkcaaGreatDoorBBH
import Derived.Test.YtifconapjfdkcaaGreatDoorBBI
import Derived.Test.YtifconapjfdkcaaGreatDoorBBJ
import Derived.Test.YtifconapjfdkcaaGreatDoorBBK
import Derived.Test.YtifconapjfdkcaaGreatDoorBBL
import Derived.Test.YtifconapjfdkcaaGreatDoorBBM
import Derived.Test.YtifconapjfdkcaaGreatDoorBBN
import Derived.Test.YtifconapjfdkcaaGreatDoorBBO
import Derived.Test.YtifconapjfdkcaaGreatDoorBBP
import Derived.Test.YtifconapjfdkcaaGreatDoorBBQ
import Derived.Test.YtifconapjfdkcaaGreatDoorBBR
import Derived.Test.YtifconapjfdkcaaGreatDoorBBS
import Derived.Test.YtifconapjfdkcaaGreatDoorBBT
import Derived.Test.YtifconapjfdkcaaGreatDoorBBU
import Derived.Test.YtifconapjfdkcaaGreatDoorBBV
import Derived.Test.YtifconapjfdkcaaGreatDoorBBW
namespace Go.Proofs.YtifconapjfdkcaaGreatDoor
set_option linter.unusedSimpArgs false
set_option linter.unusedVariables false
open Go Go.RowKit
theorem getD_rep{α : Type}(n i:Nat)(x : α):(List.replicate n x).getD i x=x:=by
 rw[List.getD_eq_getElem?_getD,List.getElem?_replicate];split <;> rfl
def goneOf(l:List GInc)(i:Nat):Bool:=l.any fun x=>decide (x.kind≠4)&&(decide (x.flight=(i:Int))&&decide (x.kind=2))
def touchOf(l:List GInc)(i:Nat):Bool:=l.any fun x=>decide (x.kind≠4)&&decide (x.flight=(i:Int))
theorem appSt_gone(s:List GFlight×List Bool)(x:GInc)(hx:0≤x.flight){i:Nat}(hi:i<s.2.length) :
 (appSt s x).2.getD i false=(s.2.getD i false||(decide (x.kind≠4)&&(decide (x.flight=(i:Int))&&decide (x.kind=2)))):=by
 by_cases h4:x.kind=4
 ·have e:appSt s x=s:=by unfold appSt;rw[if_pos (.inl h4)]
  rw[e];simp[h4]
 by_cases hg:s.2.getD x.flight.toNat false=true
 ·have e:appSt s x=s:=by unfold appSt;rw[if_pos (.inr hg)]
  rw[e]
  by_cases hi2:x.flight=(i:Int)
  ·have:x.flight.toNat=i:=by omega
   rw[this]at hg;rw[hg];simp
  ·simp[hi2]
 unfold appSt;rw[if_neg (fun h=>h.elim h4 hg)]
 by_cases h1:x.kind=1
 ·rw[if_pos h1];simp[h1]
 rw[if_neg h1]
 by_cases h2:x.kind=2
 ·rw[if_pos h2]
  dsimp only
  by_cases hi2:x.flight=(i:Int)
  ·have e:x.flight.toNat=i:=by omega
   rw[e,getD_set_self hi];simp[h4,hi2,h2]
  ·rw[getD_set_ne (by omega)];simp[hi2]
 ·rw[if_neg h2];simp[h2]
theorem appSt_same(s:List GFlight×List Bool)(x:GInc)(hx:0≤x.flight){i:Nat}(h:(decide (x.kind≠4)&&decide (x.flight=(i:Int)))=false):(appSt s x).1.getD i noFlight=s.1.getD i noFlight:=by
 by_cases h4:x.kind=4
 ·have e:appSt s x=s:=by unfold appSt;rw[if_pos (.inl h4)]
  rw[e]
 have hne:x.flight.toNat≠i:=by
  intro e;have:x.flight=(i:Int):=by omega
  simp[h4,this]at h
 unfold appSt;split
 ·rfl
 split
 ·exact getD_set_ne hne _ _
 split
 ·rfl
 ·exact getD_set_ne hne _ _
theorem appSt_number(s:List GFlight×List Bool)(x:GInc)(i:Nat):((appSt s x).1.getD i noFlight).number=(s.1.getD i noFlight).number:=by
 have key : ∀ (l:List GFlight) (k:Nat) (y:GFlight),y.number=(l.getD k noFlight).number→((l.set k y).getD i noFlight).number=(l.getD i noFlight).number:=fun l k y h=>by
  by_cases hk:k=i
  ·subst hk
   by_cases hl:k<l.length
   ·rw[getD_set_self hl,h]
   ·rw[List.getD_eq_getElem?_getD,List.getElem?_eq_none (by rw[List.length_set];omega),List.getD_eq_getElem?_getD,List.getElem?_eq_none (by omega)]
  ·rw[getD_set_ne hk]
 unfold appSt;split
 ·rfl
 split
 ·exact key _ _ _ rfl
 split
 ·rfl
 ·exact key _ _ _ rfl
theorem appSt_lens(s:List GFlight×List Bool)(x:GInc):(appSt s x).1.length=s.1.length∧(appSt s x).2.length=s.2.length:=by
 unfold appSt;split
 ·exact⟨rfl,rfl⟩
 split
 ·exact⟨List.length_set,rfl⟩
 split
 ·exact⟨rfl,List.length_set⟩
 ·exact⟨List.length_set,rfl⟩
theorem app_facts : ∀ (l:List GInc) (s:List GFlight×List Bool) (_ : ∀ x∈l,0≤x.flight) {i:Nat} (_:i<s.2.length),
 ((l.foldl appSt s).1.length=s.1.length∧(l.foldl appSt s).2.length=s.2.length)∧(l.foldl appSt s).2.getD i false=(s.2.getD i false||goneOf l i)∧(touchOf l i=false→(l.foldl appSt s).1.getD i noFlight=s.1.getD i noFlight) ∧
  ((l.foldl appSt s).1.getD i noFlight).number=(s.1.getD i noFlight).number
 | [],s,_,i,_=>by simp[goneOf]
 | x::l,s,h,i,hi=>by
  have hx:=h x (.head _);have hl:=appSt_lens s x;obtain⟨a,b,c,d⟩:=app_facts l (appSt s x) (fun y hy=>h y (.tail _ hy)) (i:=i) (by omega);rw[List.foldl_cons];refine⟨by omega, ?_,fun ht =>?_, ?_⟩
  ·rw[b,appSt_gone s x hx hi];unfold goneOf;rw[List.any_cons,Bool.or_assoc]
  ·unfold touchOf at ht c;rw[List.any_cons,Bool.or_eq_false_iff]at ht;rw[c ht.2,appSt_same s x hx ht.1]
  ·rw[d,appSt_number]
theorem appAll_facts(t:GTT)(l:List GInc)(h : ∀ x∈l,0≤x.flight):((appAll t l).1.length=t.flights.length∧(appAll t l).2.length=t.flights.length) ∧ ∀ i,i<t.flights.length→(appAll t l).2.getD i false=goneOf l i∧(touchOf l i=false→(appAll t l).1.getD i noFlight=t.flights.getD i noFlight) ∧
 ((appAll t l).1.getD i noFlight).number=(t.flights.getD i noFlight).number:=by
 constructor
 ·rcases Nat.eq_zero_or_pos t.flights.length with h0|h0
  ·have : ∀ (l:List GInc) (s:List GFlight×List Bool),(l.foldl appSt s).1.length=s.1.length∧(l.foldl appSt s).2.length=s.2.length:=by
    intro l
    induction l with
    | nil=>intro s;exact⟨rfl,rfl⟩
    | cons x l ih=>intro s;have:=ih (appSt s x);have:=appSt_lens s x;rw[List.foldl_cons];omega
   have:=this l (t.flights,List.replicate t.flights.length false);unfold appAll;simpa using this
  ·have:=(app_facts l (t.flights,List.replicate t.flights.length false) h (i:=0) (by simpa using h0)).1;unfold appAll;simpa using this
 ·intro i hi;obtain⟨-,b,c,d⟩:=app_facts l (t.flights,List.replicate t.flights.length false) h (i:=i) (by simpa using hi);unfold appAll;rw[getD_rep,Bool.false_or]at b;exact⟨b,c,d⟩
theorem newFl_at{fl:List GFlight}{gone:List Bool}{i:Nat}(hi:i<gone.length)(hg:gone.getD i false=false):rankI fl gone i<(newFl fl gone).length∧(newFl fl gone).getD (rankI fl gone i) noFlight=fl.getD i noFlight:=by
 obtain⟨h,e⟩:=order_at (fl:=fl) hi hg;unfold newFl;refine⟨by rw[List.length_map];exact h, ?_⟩;rw[List.getD_eq_getElem?_getD,List.getElem?_map,List.getElem?_eq_getElem h];show fl.getD _ noFlight=_;rw[e];rfl
theorem rank_inj{fl:List GFlight}{gone:List Bool}{i j:Nat}(hi:i<gone.length)(hg:gone.getD i false=false)(hj:j<gone.length)(hgj:gone.getD j false=false)(h:rankI fl gone i=rankI fl gone j):i=j:=by
 obtain⟨h1,e1⟩:=order_at (fl:=fl) hi hg;obtain⟨h2,e2⟩:=order_at (fl:=fl) hj hgj;simp only[h]at e1;rw[e2]at e1;omega
theorem rank_hit{fl:List GFlight}{gone:List Bool}{n:Nat}(h:n<(newFl fl gone).length) : ∃ i,i<gone.length∧gone.getD i false=false∧rankI fl gone i=n:=by
 unfold newFl at h;rw[List.length_map]at h;obtain⟨i, -,h1,h2,h3⟩:=order_rank h;exact⟨i,h1,h2,h3⟩
end Go.Proofs.YtifconapjfdkcaaGreatDoor
namespace Go.Proofs.YtifconapjfdkcaaGreatDoor
set_option linter.unusedSimpArgs false
set_option linter.unusedVariables false
open Go.RowKit
theorem need_eq(a b c:Int)(d:Nat)(w:World):(Op.equalIn (d+1+1) 60 (.agg #[.int .i64 a,.int .i64 b,.int .i64 c]) (.agg #[.int .i64 a,.int .i64 b,.int .i64 c])).run Tryz.prog w=.ok true w:=by
 rw[run_equalIn_array (P:=Tryz.prog) w (d+1) (t:=60) (e:=3) (n:=3) (i:=(Tryz.prog.info? 3).get (by kernel_rfl)) _ _ Tryz.underlying60 (by kernel_rfl)];have hc:Tryz.prog.cellsOf 3=1:=by kernel_rfl
 have h1 : ∀ x:Int,(Op.equalIn (d+1) 3 (.int .i64 x) (.int .i64 x)).run Tryz.prog w=.ok true w:=fun x=>by
  rw[run_equalIn_int w d _ _ .i64 _ _ Tryz.underlying3];simp
 have e:List.range 3=[0,1,2]:=rfl;rw[hc,e];have p0 : ∀ u v x:Int,(part 3 #[.int .i64 u,.int .i64 v,.int .i64 x] 0).run Tryz.prog w=.ok (.int .i64 u) w:=fun _ _ _=>by kernel_rfl
 have p1 : ∀ u v x:Int,(part 3 #[.int .i64 u,.int .i64 v,.int .i64 x] 1).run Tryz.prog w=.ok (.int .i64 v) w:=fun _ _ _=>by kernel_rfl
 have p2 : ∀ u v x:Int,(part 3 #[.int .i64 u,.int .i64 v,.int .i64 x] 2).run Tryz.prog w=.ok (.int .i64 x) w:=fun _ _ _=>by kernel_rfl
 simp only[Op.eqItems,Sem.run_bind,Nat.zero_mul,Nat.one_mul,Nat.mul_one,p0,p1,p2,h1,Result.andThen_ok,Bool.not_true,Bool.false_eq_true,if_false,Sem.run_pure]
end Go.Proofs.YtifconapjfdkcaaGreatDoor
namespace Go.Proofs.YtifconapjfdkcaaGreatDoor
set_option linter.unusedSimpArgs false
set_option linter.unusedVariables false
open Go Go.RowKit
theorem probTT_dep(l:List Int) : ∀ f∈(probTT l).flights,0<f.dep:=fun f hf=>by
 obtain⟨i,hi,rfl⟩:=dTT_mem _ _ hf;have:=dSt_range (l.drop 1) i;show 0<(dSt (l.drop 1) i).1;omega
end Go.Proofs.YtifconapjfdkcaaGreatDoor
namespace Go.Proofs.YtifconapjfdkcaaGreatDoor
set_option linter.unusedSimpArgs false
set_option linter.unusedVariables false
open Go Go.RowKit
def cntB(fl:List GFlight)(gone:List Bool)(i k:Nat):Bool := !gone.getD k false&&(beforeB (fl.getD k noFlight) (fl.getD i noFlight)||(!beforeB (fl.getD i noFlight) (fl.getD k noFlight)&&decide (k<i)))
def cntTo(fl:List GFlight)(gone:List Bool)(i k:Nat):Nat:=(List.range k).countP (cntB fl gone i)
theorem cntTo_succ(fl:List GFlight)(gone:List Bool)(i k:Nat):cntTo fl gone i (k+1)=cntTo fl gone i k+if cntB fl gone i k=true then 1 else 0:=by
 unfold cntTo;rw[List.range_succ,List.countP_append,List.countP_singleton]
theorem cntTo_le(fl:List GFlight)(gone:List Bool)(i k:Nat):cntTo fl gone i k≤k:=by
 have:=List.countP_le_length (p:=cntB fl gone i) (l:=List.range k)
 rwa [List.length_range]at this
theorem cntTo_all(fl:List GFlight)(gone:List Bool)(i:Nat):cntTo fl gone i gone.length=rankI fl gone i:=by
 unfold cntTo rankI leftI;rw[List.countP_map,List.countP_filter];refine List.countP_congr fun k _ =>?_
 unfold cntB tieB ltF;simp only[Function.comp,Int.toNat_natCast,Int.ofNat_lt]
 cases gone.getD k false <;> simp
def ixR(fl:List GFlight)(gone:List Bool)(k:Nat):List Int:=(List.range gone.length).map fun i=>if i<k then indexI fl gone i else 0
theorem ixR_len(fl:List GFlight)(gone:List Bool)(k:Nat):(ixR fl gone k).length=gone.length:=by simp[ixR]
theorem ixR_zero(fl:List GFlight)(gone:List Bool):ixR fl gone 0=List.replicate gone.length 0:=by
 unfold ixR;rw[List.eq_replicate_iff];refine⟨by simp,fun x hx =>?_⟩;obtain⟨i,_,rfl⟩:=List.mem_map.1 hx;rw[if_neg (by omega)]
theorem ixR_all(fl:List GFlight)(gone:List Bool):ixR fl gone gone.length=(List.range gone.length).map (indexI fl gone):=by
 unfold ixR;refine List.map_congr_left fun i hi =>?_
 rw[List.mem_range]at hi;rw[if_pos hi]
theorem range_setR(n i:Nat)(g h:Nat→Int)(x:Int)(hx:h i=x)(hh : ∀ j,j<n→j≠i→h j=g j):((List.range n).map g).set i x=(List.range n).map h:=by
 apply List.ext_getElem?;intro j;rw[List.getElem?_set,List.getElem?_map,List.getElem?_map]
 by_cases hj:j<n
 ·rw[List.getElem?_range hj]
  by_cases hij:i=j
  ·subst hij;rw[if_pos rfl,if_pos (by simpa using hj)];simp[hx]
  ·rw[if_neg hij];simp[hh j hj (fun e=>hij e.symm)]
 ·rw[List.getElem?_eq_none (l:=List.range n) (by simpa using hj)]
  by_cases hij:i=j
  ·subst hij;rw[if_pos rfl,if_neg (by simpa using hj)];rfl
  ·rw[if_neg hij];rfl
theorem ixR_set(fl:List GFlight)(gone:List Bool)(k:Nat):(ixR fl gone k).set k (indexI fl gone k)=ixR fl gone (k+1):=by
 unfold ixR;refine range_setR _ _ _ _ _ (if_pos (by omega)) fun j hj hji =>?_
 by_cases hlt:j<k
 ·rw[if_pos (by omega),if_pos hlt]
 ·rw[if_neg (by omega),if_neg hlt]
theorem index_gone{fl:List GFlight}{gone:List Bool}{i:Nat}(h:gone.getD i false=true):indexI fl gone i = -1:=by unfold indexI;rw[if_pos h]
theorem index_left{fl:List GFlight}{gone:List Bool}{i:Nat}(h:gone.getD i false=false):indexI fl gone i=(rankI fl gone i:Int):=by unfold indexI;rw[h];rfl
def gathI(fl:List GFlight)(gone:List Bool)(n i:Nat):List GFlight:=((List.range i).filter fun i=>decide (indexI fl gone i=(n:Int))).map fun i=>fl.getD i noFlight
def gathN(fl:List GFlight)(gone:List Bool)(n:Nat):List GFlight:=(List.range n).flatMap fun (n:Nat)=>gathI fl gone n gone.length
theorem gathI_succ(fl:List GFlight)(gone:List Bool)(n i:Nat):gathI fl gone n (i+1)=gathI fl gone n i++if indexI fl gone i=(n:Int) then [fl.getD i noFlight] else []:=by
 unfold gathI;rw[List.range_succ,List.filter_append,List.map_append]
 congr 1
 by_cases h:indexI fl gone i=(n:Int)
 ·rw[if_pos h];simp[h]
 ·rw[if_neg h];simp[h]
theorem gathN_succ(fl:List GFlight)(gone:List Bool)(n:Nat):gathN fl gone (n+1)=gathN fl gone n++gathI fl gone n gone.length:=by
 unfold gathN;rw[List.range_succ,List.flatMap_append,List.flatMap_singleton]
theorem gathN_all(fl:List GFlight)(gone:List Bool):gathN fl gone gone.length=newFl fl gone:=(ref_eq fl gone)
theorem gathI_le(fl:List GFlight)(gone:List Bool)(n:Nat):(gathI fl gone n gone.length).length≤1:=by
 unfold gathI;rw[ref_round,List.length_map];split <;> simp
theorem gathI_mono(fl:List GFlight)(gone:List Bool)(n:Nat){i:Nat}(h:i≤gone.length):(gathI fl gone n i).length≤1:=by
 have key : ∀ d i,i+d=gone.length→(gathI fl gone n i).length≤(gathI fl gone n gone.length).length:=by
  intro d
  induction d with
  | zero=>intro i h;rw[Nat.add_zero]at h;rw[h];exact Nat.le_refl _
  | succ d ih =>
   intro i h;refine Nat.le_trans ?_ (ih (i+1) (by omega));rw[gathI_succ,List.length_append];omega
 exact Nat.le_trans (key (gone.length-i) i (by omega)) (gathI_le fl gone n)
theorem gathN_le(fl:List GFlight)(gone:List Bool) : ∀ n,(gathN fl gone n).length≤n
 | 0=>by simp[gathN]
 | n+1=>by
  rw[gathN_succ,List.length_append];have:=gathN_le fl gone n;have:=gathI_le fl gone n;omega
end Go.Proofs.YtifconapjfdkcaaGreatDoor
namespace Go.Proofs.YtifconapjfdkcaaGreatDoor
set_option linter.unusedSimpArgs false
set_option linter.unusedVariables false
open Go.RowKit
structure AQ(w:World)(tc:Array Value)(B0 fb cf cb n ub:Nat)(z a:Value)(ib nb:Nat)(fl:List GFlight)(gone:List Bool)(wr:World)(v3:Value)(ix:List Int)(nf:List GFlight):Prop where
 t:wr.heap[w.heap.size]? = some (.cells tc 27 (0,0))
 res:wr.heap[w.heap.size+1]? = some (.cells #[.slice none 0 0,.slice none 0 0,.slice none 0 0] 27 (0,0))
 u:wr.heap[ub]? = some (.cells #[z,a,v3] 27 (0,0))
 F:OwnS Ty.flight 62 wr (fun _=>False) B0 (.slice (some ⟨fb,0,none⟩) n cf) fl
 C:OwnS Ty.bool 4 wr (fun _=>False) B0 (.slice (some ⟨cb,0,none⟩) n n) gone
 I:OwnS (Ty.int .i64) 3 wr (fun _=>False) ib (.slice (some ⟨ib,0,none⟩) n n) ix
 N:Own Ty.flight 62 wr nb v3 nf
 bel:Below w.heap.size w wr
 l:w.heap.size+2≤B0∧B0≤fb∧B0≤cb∧fb<ub∧cb<ub∧ub<ib∧ib<nb∧nb≤wr.heap.size
section
variable {w:World} {tc:Array Value} {B0 fb cf cb n ub:Nat} {z a:Value} {ib nb:Nat} {fl:List GFlight} {gone:List Bool} {wr w7 w8:World} {v3 v':Value} {ix:List Int} {nf nf':List GFlight}
theorem AQ.next(h:AQ w tc B0 fb cf cb n ub z a ib nb fl gone wr v3 ix nf)(hb:Below wr.heap.size wr w7):AQ w tc B0 fb cf cb n ub z a ib nb fl gone w7 v3 ix nf:=by
 have h1:=(Array.getElem?_eq_some_iff.1 h.t).1;have h2:=(Array.getElem?_eq_some_iff.1 h.res).1;have h3:=(Array.getElem?_eq_some_iff.1 h.u).1;have h4:=h.l;have h5:=hb.size;exact⟨(hb.block _ h1).trans h.t,(hb.block _ h2).trans h.res,(hb.block _ h3).trans h.u,h.F.next hb fun _ h=>h.elim,h.C.next hb fun _ h=>h.elim,h.I.next hb fun _ h=>h.elim,h.N.next hb,h.bel.trans (hb.mono h.bel.size),by omega⟩
theorem AQ.setI(h:AQ w tc B0 fb cf cb n ub z a ib nb fl gone wr v3 ix nf){i:Nat}(hi:i<ix.length)(x:Int):AQ w tc B0 fb cf cb n ub z a ib nb fl gone (wr.setCell ⟨ib,i,none⟩ (.int .i64 x)) v3 (ix.set i x) nf:=by
 have h3:=h.l;have hk : ∀ q,q≠ib→(wr.setCell ⟨ib,i,none⟩ (.int .i64 x)).heap[q]? = wr.heap[q]? :=fun q hq=>heap_setCell_other _ _ _ _ hq
 have hF:=h.F.lt fb rfl;have hC:=h.C.lt cb rfl;refine⟨(hk _ (by omega)).trans h.t,(hk _ (by omega)).trans h.res,(hk _ (by omega)).trans h.u,h.F.keep (by simp) (fun q hq=>hk q ?_) (fun _ h=>h.elim),h.C.keep (by simp) (fun q hq=>hk q ?_) (fun _ h=>h.elim), ?_,h.N.flatC flat_flight fun q hq=>hk q (by have:=(h.N.lt q hq).1;omega),h.bel.setCell (show w.heap.size≤ib by omega) _,by simp;omega⟩
 ·have hq9:some fb=some q:=hq;injection hq9 with hq9;omega
 ·have hq9:some cb=some q:=hq;injection hq9 with hq9;omega
 ·have:=h.I.setAt (t:=Ty.int .i64) (j:=0) (u:=.int .i64 x) (y:=x) hi (show 0<1 by decide) (fun h=>h) fun cs hr=>by
   have hr':cs=[.int .i64 (ix.getD i x)]:=hr;subst hr';rfl
  have e:i*(Ty.int .i64).size+0=i:=by show i*1+0=i;omega
  rw[e]at this;exact this
theorem AQ.box8(h:AQ w tc B0 fb cf cb n ub z a ib nb fl gone wr v3 ix nf)(hb:Below wr.heap.size wr w7)(hg:w7.grownBy w8 v3.ownBlock):w8.heap[ub]? = some (.cells #[z,a,v3] 27 (0,0)):=by
 have h2:=hb.size;have h3:=h.l;exact(hg.block _ (by omega) (fun e=>by have:=(h.N.lt _ e.symm).1;omega)).trans ((hb.block _ (by omega)).trans h.u)
theorem AQ.push(h:AQ w tc B0 fb cf cb n ub z a ib nb fl gone wr v3 ix nf)(hb:Below wr.heap.size wr w7)(hg:w7.grownBy w8 v3.ownBlock)(hown:Own Ty.flight 62 w8 nb v' nf') :
 AQ w tc B0 fb cf cb n ub z a ib nb fl gone (w8.setCell ⟨ub,2,none⟩ v') v' ix nf':=by
 have h2:=hb.size;have h3:=h.l;have h4:=hg.size;have hn:=h.next hb;have hk : ∀ q,q≠ub→(w8.setCell ⟨ub,2,none⟩ v').heap[q]? = w8.heap[q]? :=fun q hq=>heap_setCell_other _ _ _ _ hq
 have hk2 : ∀ q,q<nb→q≠ub→(w8.setCell ⟨ub,2,none⟩ v').heap[q]? = w7.heap[q]? :=fun q hq hne=>(hk q hne).trans (hg.block q (by omega) fun e=>by have:=(h.N.lt q e.symm).1;omega)
 refine⟨(hk2 _ (by omega) (by omega)).trans hn.t,(hk2 _ (by omega) (by omega)).trans hn.res, ?_,hn.F.keep (by simp;omega) (fun q hq=>hk2 q ?_ ?_) (fun _ h=>h.elim),hn.C.keep (by simp;omega) (fun q hq=>hk2 q ?_ ?_) (fun _ h=>h.elim),hn.I.keep (by simp;omega) (fun q hq=>hk2 q ?_ ?_) (fun _ h=>h.elim),hown.flatC flat_flight fun q hq=>hk q (by have:=(hown.lt q hq).1;omega), ?_,by simp;omega⟩
 ·have:=heap_setCell_same w8 ub 2 _ _ v' (h.box8 hb hg);rw[this];rfl
 ·have hq9:some fb=some q:=hq;injection hq9 with hq9;omega
 ·have hq9:some fb=some q:=hq;injection hq9 with hq9;omega
 ·have hq9:some cb=some q:=hq;injection hq9 with hq9;omega
 ·have hq9:some cb=some q:=hq;injection hq9 with hq9;omega
 ·have hq9:some ib=some q:=hq;injection hq9 with hq9;omega
 ·have hq9:some ib=some q:=hq;injection hq9 with hq9;omega
 ·exact(hn.bel.grown hg hn.bel.size fun j hj=>by have:=(h.N.lt j hj).1;omega).setCell (show w.heap.size≤ub by omega) _
end
set_option maxRecDepth 100000 in
theorem before40_any(f g:GFlight)(w:World):Calls Tryz.prog 48 #[.agg (flightCells f).toArray,.agg (flightCells g).toArray] w fun e w'=>e=.returned (.bool (beforeB f g))∧Below w.heap.size w w':=by
 have hb1:=(Below.refl w.heap.size w).alloc (Nat.le_refl _) (.cells (flightCells f).toArray 62);have hb2:=hb1.alloc (by simp) (.cells (flightCells g).toArray 62);have hf2:=heap_alloc2_old w (.cells (flightCells f).toArray 62) (.cells (flightCells g).toArray 62);have hg2:=heap_alloc2_new w (.cells (flightCells f).toArray 62) (.cells (flightCells g).toArray 62);have x0:=block_cell hf2 0;have x3:=block_cell hf2 3;have y0:=block_cell hg2 0;have y3:=block_cell hg2 3;have HB2:=Lib.hid hb2;have e0:(flightCells f).toArray = #[.string f.number,.string f.src,.string f.dst,.int .i64 f.dep,.int .i64 f.arr,.string f.kind,.int .i64 f.n0,.int .i64 f.n1,.int .i64 f.n2]:=rfl;have e1:(flightCells g).toArray = #[.string g.number,.string g.src,.string g.dst,.int .i64 g.dep,.int .i64 g.arr,.string g.kind,.int .i64 g.n0,.int .i64 g.n1,.int .i64 g.n2]:=rfl;rw[e0,e1]at x0 x3 y0 y3 ⊢;rw[e0,e1]at HB2;have HBF:Hid (beforeB f g=if f.dep=g.dep then Op.bytesLess f.number.toList g.number.toList else decide (f.dep<g.dep)):=rfl;clear hb1 hb2 hf2 hg2 e0 e1;generalize beforeB f g=R at*
 go_enter Tryz.func48,Tryz.ntmps48
 go_upto_region 1 with (fail)
 generalize (w.alloc (.cells #[.string f.number,.string f.src,.string f.dst,.int .i64 f.dep,.int .i64 f.arr,.string f.kind,.int .i64 f.n0,.int .i64 f.n1,.int .i64 f.n2] 62)).alloc (.cells #[.string g.number,.string g.src,.string g.dst,.int .i64 g.dep,.int .i64 g.arr,.string g.kind,.int .i64 g.n0,.int .i64 g.n1,.int .i64 g.n2] 62)=W at*;rcases Int.lt_trichotomy f.dep g.dep with h|h|h
 ·have HR:Hid (R=true):=by show _=_;rw[HBF.out,if_neg (by omega),decide_eq_true h]
  have c1:f.dep<g.dep:=h;clear h;go_wp2_with fail
  go_ret
  exact⟨by rw[HR.out];rfl,HB2.out⟩
 ·have HR:Hid (R=Op.bytesLess f.number.toList g.number.toList):=by show _=_;rw[HBF.out,if_pos h]
  have c1 : ¬f.dep<g.dep:=by omega
  have c2:(f.dep==g.dep)=true:=by simpa using h
  clear h;go_wp2_with fail
  go_ret
  exact⟨by rw[HR.out];rfl,HB2.out⟩
 ·have HR:Hid (R=false):=by show _=_;rw[HBF.out,if_neg (by omega),decide_eq_false (by omega)]
  have c1 : ¬f.dep<g.dep:=by omega
  have c2:(f.dep==g.dep)=false:=by simp;omega
  clear h;go_wp2_with fail
  go_ret
  exact⟨by rw[HR.out];rfl,HB2.out⟩
end Go.Proofs.YtifconapjfdkcaaGreatDoor
namespace Go.Proofs.YtifconapjfdkcaaGreatDoor
set_option linter.unusedSimpArgs false
set_option linter.unusedVariables false
open Go.RowKit Go
def bindsOf(o:Oper):List Nat:=(o.after.toList.filter fun e=>Region.binds .any e).map (·.on)
theorem bindsOf_mem{o:Oper}{j:Nat}:j∈bindsOf o ↔ ∃ e∈o.after,Region.binds .any e=true∧e.on=j:=by
 unfold bindsOf;simp only[List.mem_map,List.mem_filter,Array.mem_toList_iff];exact⟨fun⟨e,⟨h1,h2⟩,h3⟩=>⟨e,h1,h2,h3⟩,fun⟨e,h1,h2,h3⟩=>⟨e,⟨h1,h2⟩,h3⟩⟩
def cloFromD(ops:Array Oper)(t:Nat):List Nat :=
 (List.range (t+1)).reverse.foldl (fun acc i=>if acc.contains i then acc++(match ops[i]? with
  | some o=>bindsOf o
  | none=>[]) else acc) [t]
theorem cloFromD_listed{ops:Array Oper}{t:Nat}{L:Nat→Prop}(h : ∀ i o,ops[i]? = some o→(i=t∨L i) → ∀ e∈o.after,Region.binds .any e=true→L e.on) : ∀ x∈cloFromD ops t,x=t∨L x:=by
 unfold cloFromD;have key : ∀ (l:List Nat) (acc:List Nat),(∀ x∈acc,x=t∨L x) → ∀ x∈l.foldl (fun acc i=>if acc.contains i then acc++(match ops[i]? with
  | some o=>bindsOf o
  | none=>[]) else acc) acc,x=t∨L x:=by
  intro l
  induction l with
  | nil=>intro acc h1 x hx;exact h1 x hx
  | cons i l ih =>
   intro acc h1 x hx;rw[List.foldl_cons]at hx;refine ih _ ?_ x hx;intro y hy;split at hy
   ·rename_i hc;rw[List.mem_append]at hy;rcases hy with hy|hy
    ·exact h1 y hy
    ·cases ho:ops[i]? with
     | none=>rw[ho]at hy;cases hy
     | some o =>
      rw[ho]at hy;obtain⟨e,he,hb,rfl⟩:=bindsOf_mem.1 hy;exact .inr (h i o ho (h1 i (by simpa using hc)) e he hb)
   ·exact h1 y hy
 exact key _ _ fun x hx=>by
  rw[List.mem_singleton]at hx;exact .inl hx
def slotOf(ops:Array Oper)(a:Act)(i:Nat):Value:=match dstOf ops i with
 | some d=>a.tmps.getD d undef
 | none=>undef
structure HID(R:World→World→Prop)(ops:Array Oper)(n:Nat)(a:Act)(W:World)(F:Nat→Value→World→Prop)(listed:Array Bool)(a':Act)(w':World):Prop where
 lsize:listed.size=ops.size
 tail : ∀ t,n≤t→listed.getD t false=false
 defers:a'.defers=a.defers
 size:a'.tmps.size=a.tmps.size
 out : ∀ s,(∀ j,j<n→dstOf ops j≠some s)→a'.tmps[s]? = a.tmps[s]?
 facts : ∀ i,i<n→listed.getD i false=true→F i (slotOf ops a' i) w'
 grow:R W w'
 closed : ∀ i o,ops[i]? = some o→listed.getD i false=true → ∀ e∈o.after,Region.binds .any e=true→listed.getD e.on false=true
section
variable {R:World→World→Prop} {P:Program} {ops:Array Oper} {Q:Exit→Act→World→Prop} {n:Nat} {a:Act} {W:World} {F:Nat→Value→World→Prop}
def putLo(us:Nat→Value):Act→List (Option Nat)→Nat→Act
 | a,[],_=>a
 | a,d::ds,k=>putLo us (a.put d (us k)) ds (k+1)
theorem putLo_snoc(us:Nat→Value)(d:Option Nat) : ∀ (ds:List (Option Nat)) (a:Act) (k:Nat),putLo us a (ds++[d]) k=(putLo us a ds k).put d (us (k+ds.length))
 | [],a,k=>rfl
 | x::ds,a,k=>by
  rw[List.cons_append,putLo,putLo,putLo_snoc us d ds];simp only[List.length_cons];rw[show k+1+ds.length=k+(ds.length+1) by omega]
theorem putAll_eqD{ops:Array Oper}{a:Act}{us:Nat→Value}{ds:List (Option Nat)} : ∀ (n:Nat),n≤ds.length→(∀ i,i<n→some (dstOf ops i)=ds[i]?)→putAll ops a us n=putLo us a (ds.take n) 0
 | 0,_,_=>by rw[List.take_zero];rfl
 | n+1,hn,h=>by
  have h9:=h n (by omega);rw[List.getElem?_eq_getElem (by omega)]at h9;injection h9 with h9
  rw[putAll,putAll_eqD n (by omega) fun i hi=>h i (by omega),h9,List.take_succ_eq_append_getElem (by omega),putLo_snoc,List.length_take];rw[Nat.min_eq_left (by omega),Nat.zero_add]
end
end Go.Proofs.YtifconapjfdkcaaGreatDoor
namespace Go.Proofs.YtifconapjfdkcaaGreatDoor
set_option linter.unusedSimpArgs false
set_option linter.unusedVariables false
open Go.RowKit Go
def headOkW(ops:Array Oper)(n size:Nat):Bool :=
 (List.range n).all (fun i=>match dstOf ops i with
  | some d=>decide (d<size)&&(List.range i).all (fun j=>dstOf ops j != some d)
  | none=>true) &&
 (List.range n).all (fun i=>match ops[i]? with
  | some o=>(match o.guard with|none=>true|some (g,_)=>(bindsOf o).contains g)&&(bindsOf o).all (fun j=>decide (j<i))
  | none=>false) &&
 (List.range ops.size).all (fun t=>decide (t<n)||(List.range n).all fun i=>(cloFromD ops t).contains i)&&decide (n≤ops.size)
structure HeadFactsW(ops:Array Oper)(n size:Nat):Prop where
 dst : ∀ i d,i<n→dstOf ops i=some d→d<size
 inj : ∀ i j d,i<n→j<n→dstOf ops i=some d→dstOf ops j=some d→i=j
 guard : ∀ i o g b,i<n→ops[i]? = some o→o.guard=some (g,b)→g∈bindsOf o
 back : ∀ i o,i<n→ops[i]? = some o → ∀ e∈o.after,Region.binds .any e=true→e.on<i
 cover : ∀ t o,n≤t→ops[t]? = some o → ∀ i,i<n→i∈cloFromD ops t
 le:n≤ops.size
theorem headFactsW{ops:Array Oper}{n size:Nat}(h:headOkW ops n size=true):HeadFactsW ops n size:=by
 unfold headOkW at h;simp only[Bool.and_eq_true,List.all_eq_true,List.mem_range,decide_eq_true_eq]at h;obtain⟨⟨⟨h1,h2⟩,h3⟩,h4⟩:=h;have h1' : ∀ i d,i<n→dstOf ops i=some d→d<size ∧ ∀ j,j<i→dstOf ops j≠some d:=fun i d hi hd=>by
  have:=h1 i hi;rw[hd]at this;simp only[Bool.and_eq_true,decide_eq_true_eq,List.all_eq_true,List.mem_range,bne_iff_ne]at this;exact this
 refine⟨fun i d hi hd=>(h1' i d hi hd).1,fun i j d hi hj e1 e2 =>?_,fun i o g b hi ho hgd =>?_,fun i o hi ho e he hbe =>?_,fun t o ht ho i hi =>?_,h4⟩
 ·rcases Nat.lt_trichotomy i j with hlt|rfl|hlt
  ·exact absurd e1 ((h1' j d hj e2).2 i hlt)
  ·rfl
  ·exact absurd e2 ((h1' i d hi e1).2 j hlt)
 ·have:=h2 i hi;rw[ho]at this;simp only[hgd,Bool.and_eq_true,List.contains_iff_mem]at this;exact this.1
 ·have:=h2 i hi;rw[ho]at this;simp only[Bool.and_eq_true,List.all_eq_true,decide_eq_true_eq]at this;exact this.2 _ (bindsOf_mem.2 ⟨e,he,hbe,rfl⟩)
 ·have hts:t<ops.size:=(Array.getElem?_eq_some_iff.1 ho).1;have:=h3 t hts;simp only[Bool.or_eq_true,decide_eq_true_eq,List.all_eq_true,List.mem_range,List.contains_iff_mem]at this;rcases this with h|h
  ·omega
  ·exact h i hi
def boolIs(v:Value)(b:Bool):Bool:=match v with
 | .bool c=>c==b
 | _=>false
theorem yielded_is(ops:Array Oper)(a:Act)(g:Nat)(b:Bool):(yielded ops a.tmps g==some b)=boolIs (slotOf ops a g) b:=by
 unfold yielded slotOf dstOf
 cases hd:(ops[g]?).bind (·.dst) with
 | none=>rfl
 | some d =>
  simp only[Option.bind_some,Array.getD_eq_getD_getElem?]
  cases ht:a.tmps[d]? with
  | none=>rfl
  | some v=>cases v <;> simp[boolIs]
structure HIW(R:World→World→Prop)(ops:Array Oper)(n:Nat)(a:Act)(W:World)(F:Nat→Value→World→Prop)(listed:Array Bool)(a':Act)(w':World):Prop where
 lsize:listed.size=ops.size
 tail : ∀ t,n≤t→listed.getD t false=false
 defers:a'.defers=a.defers
 size:a'.tmps.size=a.tmps.size
 out : ∀ s,(∀ j,j<n→dstOf ops j≠some s)→a'.tmps[s]? = a.tmps[s]?
 facts : ∀ i,i<n→listed.getD i false=true→F i (slotOf ops a' i) w'
 grow:R W w'
 closed : ∀ i o,ops[i]? = some o→listed.getD i false=true → ∀ e∈o.after,Region.binds .any e=true→listed.getD e.on false=true
section
variable {R:World→World→Prop} {P:Program} {ops:Array Oper} {Q:Exit→Act→World→Prop} {n:Nat} {a:Act} {W:World} {F:Nat→Value→World→Prop}
theorem wpAny_factsW(hRt : ∀ {x y z:World},R x y→R y z→R x z){l:List Oper}(hl:l.toArray=ops)(hh:HeadFactsW ops n a.tmps.size)(hseq:Region.seqB .any ops (ops.size-n) n (headListed ops n)=true)
 (run:Nat→Bool) (hF : ∀ i v w w',F i v w→R w w'→F i v w')
 (hg : ∀ i o g b,i<n→ops[i]? = some o→o.guard=some (g,b) → ∀ v w,F g v w→boolIs v b=run i) (hrn : ∀ i o,i<n→ops[i]? = some o→o.guard=none→run i=true) (hsk : ∀ i w,i<n→run i=false→F i undef w)
 (hstep : ∀ i o,i<n→run i=true→ops[i]? = some o → ∀ a' w',R W w'→(∀ s,(∀ j,j<n→dstOf ops j≠some s)→a'.tmps[s]? = a.tmps[s]?) →
  (∀ e∈o.after,Region.binds .any e=true→F e.on (slotOf ops a' e.on) w') → ∀ K:Act→World→Prop,(∀ v w'',F i (match o.dst with|some _=>v|none=>undef) w''→R w' w''→K (a'.put o.dst v) w'')→o.wp P a' w' K Q)
 (hfin : ∀ us w',R W w'→(∀ i,i<n→F i (us i) w')→wpList P ops Q (l.drop n) (putAll ops a us n) w') :
 ∀ (f:Nat) (listed:Array Bool) (a':Act) (w':World),left n listed=f→HIW R ops n a W F listed a' w'→wpAny P .any ops Q (f+(ops.size-n)) listed a' w':=by
 have hdl:(l.drop n).length=ops.size-n:=by rw[List.length_drop, ←hl];simp
 intro f
 induction f with
 | zero =>
  intro listed a' w' hlf hi;have hall:=left_zero hlf;have e1:listed=headListed ops n:=by
   apply Array.ext
   ·rw[hi.lsize];simp[headListed]
   ·intro k h1 h2;have hk:k<ops.size:=by rw[←hi.lsize];exact h1
    have e3:(headListed ops n)[k]=decide (k<n):=by simp[headListed]
    rw[e3]
    by_cases hkn:k<n
    ·have:=hall k hkn;simp[h1]at this;rw[this];simp[hkn]
    ·have:=hi.tail k (by omega);simp[h1]at this;rw[this];simp[hkn]
  have e2:a'=putAll ops a (slotOf ops a') n:=by
   have es:a'.tmps=(putAll ops a (slotOf ops a') n).tmps:=by
    apply Array.ext_getElem?;intro s
    by_cases hs : ∃ i,i<n∧dstOf ops i=some s
    ·obtain⟨i,hin,hd⟩:=hs;have hlt:=hh.dst i s hin hd;rw[putAll_in hlt hd hin fun j hj hji e=>hji (hh.inj j i s hj hin e hd)];have:s<a'.tmps.size:=by rw[hi.size];exact hlt
     simp[slotOf,hd,this]
    ·rw[putAll_out fun j hj e=>hs ⟨j,hj,e⟩];exact hi.out s fun j hj e=>hs ⟨j,hj,e⟩
   have ed:a'.defers=(putAll ops a (slotOf ops a') n).defers:=by rw[putAll_defers];exact hi.defers
   cases ha:a' with
   | mk t d =>
    rw[ha]at es ed
    cases hp:putAll ops a (slotOf ops (Act.mk t d)) n with
    | mk t2 d2 =>
     rw[hp]at es ed;simp only at es ed;rw[es,ed]
  rw[Nat.zero_add, ←hdl];subst e1;refine wpAny_of_seq (l.drop n) n _ a' w' (fun j=>by rw[List.getElem?_drop, ←hl];simp) (by rw[hdl];exact hseq) ?_;rw[e2];exact hfin _ w' hi.grow fun i hin=>hi.facts i hin (hall i hin)
 | succ f ih =>
  intro listed a' w' hlf hi;rw[show f+1+(ops.size-n)=(f+(ops.size-n))+1 by omega];have hle:=hh.le;refine⟨fun h0 =>?_,fun i hr =>?_⟩
  ·exfalso;have hex : ∃ i,i<n∧listed.getD i false=false:=by
    have hne:(List.range n).filter (fun i => !listed.getD i false)≠[]:=fun e=>by
     unfold left at hlf;rw[e]at hlf
     cases hlf
    obtain⟨i,hi'⟩:=List.exists_mem_of_ne_nil _ hne;rw[List.mem_filter,List.mem_range]at hi';exact⟨i,hi'.1,by simpa using hi'.2⟩
   have key : ∀ i,i<n→listed.getD i false=true:=by
    intro i
    induction i using Nat.strongRecOn with
    | _ i ihi =>
     intro hin
     cases hli:listed.getD i false with
     | true=>rfl
     | false =>
      exfalso;have hil:i<listed.size:=by rw[hi.lsize];omega
      have hmem:i∈Region.ready .any ops listed:=by
       rw[mem_ready];have hio:i<ops.size:=by omega
       refine⟨Go.getD_in hil hli,ops[i],by simp[hio],fun e he hbe =>?_⟩;have hlt:=hh.back i _ hin (by simp[hio]) e he hbe;exact ihi e.on hlt (by omega)
      rw[h0]at hmem
      cases hmem
   obtain⟨i,hin,hlf'⟩:=hex;rw[key i hin]at hlf'
   cases hlf'
  ·obtain⟨hun,o,ho,hall⟩:=mem_ready.1 hr;have hun':=getD_both hun;have hio:i<ops.size:=(Array.getElem?_eq_some_iff.1 ho).1;have hin:i<n:=by
    rcases Nat.lt_or_ge i n with h|h
    ·exact h
    ·exfalso;have hz:left n listed=0:=by
      unfold left;rw[List.length_eq_zero_iff,List.filter_eq_nil_iff];intro j hj;have hjn:=List.mem_range.1 hj;have hcl:=cloFromD_listed (t:=i) (L:=fun x=>listed.getD x false=true) (fun k ok hok hk e he hbe=>by
       rcases hk with rfl|hk
       ·rw[ho]at hok;obtain rfl:=Option.some.inj hok;exact hall e he hbe
       ·exact hi.closed k ok hok hk e he hbe) j (hh.cover i o h ho j hjn)
      rcases hcl with h9|h9
      ·omega
      ·rw[h9];simp
     omega
   have hil:i<listed.size:=by rw[hi.lsize];exact hio
   unfold wpOp;rw[ho];have hod:dstOf ops i=o.dst:=by unfold dstOf;rw[ho];rfl
   have hwant:Region.wanted o (yielded ops a'.tmps)=run i:=by
    cases hgd:o.guard with
    | none=>rw[hrn i o hin ho hgd];simp[Region.wanted,hgd]
    | some gb =>
     obtain⟨g,b⟩:=gb;obtain⟨e,he,hbe,heg⟩:=bindsOf_mem.1 (hh.guard i o g b hin ho hgd);have hgi:=hh.back i o hin ho e he hbe;have hv:=hg i o g b hin ho hgd _ _ (hi.facts e.on (by omega) (hall e he hbe) |> fun h=>by rw[heg]at h;exact h);rw[←hv];unfold Region.wanted;rw[hgd];exact yielded_is ops a' g b
   have cont : ∀ v w'',F i (match o.dst with|some _=>v|none=>undef) w''→R W w''→(∀ j u,F j u w'→F j u w'')→wpAny P .any ops Q (f+(ops.size-n)) (listed.setIfInBounds i true) (a'.put o.dst v) w'':=fun v w'' hfv hgr hFj=>by
    have hmon : ∀ x,listed.getD x false=true→(listed.setIfInBounds i true).getD x false=true:=fun x hx=>by
     by_cases hxi:x=i
     ·subst hxi;simp[hil]
     ·rw[Go.getD_set_ne false (fun e=>hxi e.symm)];exact hx
    refine ih _ _ _ ?_ ⟨by simpa using hi.lsize,fun t ht=>by rw[Go.getD_set_ne false (by omega)];exact hi.tail t ht, ?_, ?_,fun s hs =>?_,fun j hj hlj =>?_,hgr,fun k ok hok hk e he hbe =>?_⟩
    ·have:=left_set hin hil hun';omega
    ·unfold Act.put;split <;> exact hi.defers
    ·unfold Act.put;split
     ·simpa using hi.size
     ·exact hi.size
    ·unfold Act.put;split
     ·rename_i d hd;simp only;rw[Array.getElem?_setIfInBounds_ne (fun e=>hs i hin (by rw[hod,hd,e]))];exact hi.out s hs
     ·exact hi.out s hs
    ·by_cases hji:j=i
     ·subst hji;unfold slotOf;rw[hod]
      cases hd:o.dst with
      | none =>
       simp only;exact(show F j (match o.dst with|some _=>v|none=>undef) w'' from hfv) |> fun h=>by rw[hd]at h;exact h
      | some d =>
       have hdl':=hh.dst j d hin (by rw[hod,hd]);have:d<a'.tmps.size:=by rw[hi.size];exact hdl'
       have h9:F j (match o.dst with|some _=>v|none=>undef) w'':=hfv;rw[hd]at h9;simp only[Act.put];simpa[this] using h9
     ·rw[Go.getD_set_ne false (fun e=>hji e.symm)]at hlj;have h9:=hFj j _ (hi.facts j hj hlj);unfold slotOf at h9 ⊢;unfold Act.put
      cases hd:o.dst with
      | none=>simpa[hd] using h9
      | some d =>
       cases hdj:dstOf ops j with
       | none=>rw[hdj]at h9;simpa using h9
       | some d' =>
        have hne:d≠d':=fun e=>hji (hh.inj j i d' hj hin hdj (by rw[hod,hd,e]))
        rw[hdj]at h9;simp only at h9 ⊢;simpa[Array.getElem?_setIfInBounds_ne hne] using h9
    ·by_cases hki:k=i
     ·subst hki;rw[ho]at hok;obtain rfl:=Option.some.inj hok;exact hmon _ (hall e he hbe)
     ·rw[Go.getD_set_ne false (fun e=>hki e.symm)]at hk;exact hmon _ (hi.closed k ok hok hk e he hbe)
   cases hr9:run i with
   | false =>
    rw[hr9]at hwant;simp only[hwant];refine cont undef w' ?_ hi.grow fun j u h=>h
    have:=hsk i w' hin hr9
    cases o.dst <;> exact this
   | true =>
    rw[hr9]at hwant;simp only[hwant,if_true];exact .inl (hstep i o hin hr9 ho a' w' hi.grow hi.out (fun e he hbe=>hi.facts e.on (Nat.lt_trans (hh.back i o hin ho e he hbe) hin) (hall e he hbe)) _ fun v w'' hfv hbl=>cont v w'' hfv (hRt hi.grow hbl) fun j u h=>hF j u _ _ h hbl)
theorem wp_region_factsW(R:World→World→Prop)(hRt : ∀ {x y z:World},R x y→R y z→R x z){id:Nat}{l:List Oper}{w:World}(n:Nat)(ds:List (Option Nat))(F:Nat→Value→World→Prop)(hD:R w { w with drawn:=w.drawn+1 })(hm:P.follows .mixedOrders=true)(hok:headOkW l.toArray n a.tmps.size=true)(hds:((List.range n).map (dstOf l.toArray)==ds)=true)(hseq:Region.seqB .any l.toArray (l.toArray.size-n) n (headListed l.toArray n)=true)
 (run:Nat→Bool) (hg : ∀ i o g b,i<n→l[i]? = some o→o.guard=some (g,b) → ∀ v w,F g v w→boolIs v b=run i) (hrn : ∀ i o,i<n→l[i]? = some o→o.guard=none→run i=true) (hsk : ∀ i w,i<n→run i=false→F i undef w)
 (hF : ∀ i v w w',F i v w→R w w'→F i v w')
 (hstep : ∀ i o,i<n→run i=true→l[i]? = some o → ∀ a' w',R w w'→(∀ s,some s ∉ ds→a'.tmps[s]? = a.tmps[s]?) →
  (∀ e∈o.after,Region.binds .any e=true → ∀ d,ds[e.on]? = some (some d)→F e.on (a'.tmps.getD d undef) w') → ∀ K:Act→World→Prop,(∀ v w'',F i (match o.dst with|some _=>v|none=>undef) w''→R w' w''→K (a'.put o.dst v) w'')→o.wp P a' w' K Q)
 (hfin : ∀ us w',R w w'→(∀ i,i<n→F i (us i) w')→wpList P l.toArray Q (l.drop n) (putLo us a ds 0) w'):(Code.region id l.toArray true).wp P Q a w:=by
 have hh:=headFactsW hok;have hdl:=beq_iff_eq.1 hds;have hlen:ds.length=n:=by
  have:=congrArg List.length hdl;simpa using this.symm
 have hdi : ∀ i,i<n→some (dstOf l.toArray i)=ds[i]? :=fun i hi=>by
  have:=congrArg (·[i]?) hdl;simpa only [List.getElem?_map,List.getElem?_range hi,Option.map_some] using this
 refine wp_region_any hm ?_;have hl0:left n (Array.replicate l.toArray.size false)=n:=by
  unfold left;rw[List.filter_eq_self.2 fun i _=>by rw[getD_replicate_false];rfl,List.length_range]
 have hsz:l.toArray.size=n+(l.toArray.size-n):=by have:=hh.le;omega
 have key:=wpAny_factsW (P:=P) (Q:=Q) (ops:=l.toArray) (n:=n) (a:=a) (W:=w) (F:=F) (R:=R) hRt rfl hh hseq run hF (fun i o g b hi ho=>hg i o g b hi (by simpa using ho)) (fun i o hi ho=>hrn i o hi (by simpa using ho)) hsk
  (fun i o hi hr9 ho a' w' hb' hout hpre=>hstep i o hi hr9 (by simpa using ho) a' w' hb'
   (fun s hs=>hout s fun j hj e=>hs (by have:=hdi j hj;rw[e]at this;exact List.mem_of_getElem? this.symm))
   (fun e he hbe d hd=>by
    have hlt:=hh.back i o hi ho e he hbe;have h9:=hdi e.on (by omega);rw[hd]at h9;injection h9 with h9
    have:=hpre e he hbe;unfold slotOf at this;rw[h9]at this;exact this))
  (fun us w' hb' hf=>by
   have:=hfin us w' hb' hf;rw[←List.take_of_length_le (l:=ds) (i:=n) (by omega)]at this;rw[putAll_eqD n (by omega) hdi];exact this) n (Array.replicate l.toArray.size false) a { w with drawn:=w.drawn+1 } hl0
  ⟨by simp,fun t _=>getD_replicate_false _ _,rfl,rfl,fun _ _=>rfl,fun i _ h=>(by rw[getD_replicate_false]at h;cases h),hD,fun i o _ h=>(by rw[getD_replicate_false]at h;cases h)⟩
 rw[←hsz]at key;exact key
def runV(l:List Oper)(V:Nat→Value)(i:Nat):Bool:=match (l[i]?).bind (·.guard) with
 | none=>true
 | some (g,b)=>boolIs (V g) b
def putV:Act→List Nat→List Value→Act
 | a,d::ds,v::vs=>putV (a.put (some d) v) ds vs
 | a,_,_=>a
theorem putLo_V{us:Nat→Value} : ∀ (ds:List Nat) (vs:List Value) (a:Act) (k:Nat),ds.length=vs.length→(∀ i,i<ds.length→us (k+i)=vs.getD i undef)→putLo us a (ds.map some) k=putV a ds vs
 | [],[],_,_,_,_=>rfl
 | d::ds,v::vs,a,k,hl,h=>by
  rw[List.map_cons,putLo,putV];have h0:=h 0 (by simp);rw[Nat.add_zero]at h0;rw[h0];refine putLo_V ds vs _ _ (by simpa using hl) fun i hi =>?_
  have:=h (i+1) (by simpa using hi);rw[show k+(i+1)=k+1+i by omega]at this;exact this
theorem wp_region_vals(R:World→World→Prop)(hRt : ∀ {x y z:World},R x y→R y z→R x z){id:Nat}{l:List Oper}{w:World}(n:Nat)(ds:List Nat)(vs:List Value)(hvl:(vs.length==n)=true)(hD:R w { w with drawn:=w.drawn+1 })(hm:P.follows .mixedOrders=true)(hok:headOkW l.toArray n a.tmps.size=true)(hds:((List.range n).map (dstOf l.toArray)==ds.map some)=true)(hseq:Region.seqB .any l.toArray (l.toArray.size-n) n (headListed l.toArray n)=true)
 (hsk : ∀ i,i<n→runV l (fun i=>vs.getD i undef) i=false→vs.getD i undef=undef)
 (hstep : ∀ i o,i<n→runV l (fun i=>vs.getD i undef) i=true→l[i]? = some o → ∀ a' w',R w w'→(∀ s,s ∉ ds→a'.tmps[s]? = a.tmps[s]?) →
  (∀ e∈o.after,Region.binds .any e=true → ∀ d,ds[e.on]? = some d→a'.tmps.getD d undef=vs.getD e.on undef) → ∀ K:Act→World→Prop,(∀ w'',R w' w''→K (a'.put o.dst (vs.getD i undef)) w'')→o.wp P a' w' K Q)
 (hfin : ∀ w',R w w'→wpList P l.toArray Q (l.drop n) (putV a ds vs) w'):(Code.region id l.toArray true).wp P Q a w:=by
 have hdl:=beq_iff_eq.1 hds;have hlen:ds.length=n:=by
  have:=congrArg List.length hdl;simpa using this.symm
 have hdi : ∀ i,i<n → ∃ d,dstOf l.toArray i=some d:=fun i hi=>by
  have:=congrArg (·[i]?) hdl;simp only[List.getElem?_map,List.getElem?_range hi,Option.map_some]at this;rw[List.getElem?_eq_getElem (by omega)]at this;exact⟨_,by simpa using this⟩
 refine wp_region_factsW R hRt n (ds.map some) (fun i v _=>v=vs.getD i undef) hD hm hok hds hseq (runV l fun i=>vs.getD i undef) (fun i o g b hi ho hgd v w h =>?_) (fun i o hi ho hgd =>?_) (fun i w hi h=>(hsk i hi h).symm) (fun _ _ _ _ h _=>h) (fun i o hi hr ho a' w' hb hout hpre K hK =>?_) fun us w' hb hf =>?_
 ·rw[h];unfold runV;rw[ho];simp only[Option.bind_some,hgd]
 ·unfold runV;rw[ho];simp only[Option.bind_some,hgd]
 ·refine hstep i o hi hr ho a' w' hb (fun s hs=>hout s (by simpa using hs)) (fun e he hbe d hd=>hpre e he hbe d (by rw[List.getElem?_map,hd];rfl)) K fun w'' hw=>hK (vs.getD i undef) w'' ?_ hw
  obtain⟨d,hd⟩:=hdi i hi;have:o.dst=some d:=by
   unfold dstOf at hd;rw[List.getElem?_toArray,ho]at hd;exact hd
  rw[this]
 ·rw[putLo_V ds vs a 0 (by rw[hlen];exact(beq_iff_eq.1 hvl).symm) fun i hi=>by rw[Nat.zero_add];exact hf i (by omega)];exact hfin w' hb
end
end Go.Proofs.YtifconapjfdkcaaGreatDoor
namespace Go.Proofs.YtifconapjfdkcaaGreatDoor
set_option linter.unusedSimpArgs false
set_option linter.unusedVariables false
open Go.RowKit
theorem span40_any(s1 s2:Int)(w:World):Calls Tryz.prog 43 #[.agg #[.int .i64 s1,.int .i64 s2]] w (BoolPost (vacOk ⟨s1,s2⟩) w):=by
 have HB:Hid (∀ o,Below w.heap.size w (w.alloc o)):=fun o=>(Below.refl _ _).alloc (Nat.le_refl _) o
 have HV:Hid (vacOk ⟨s1,s2⟩=(decide (0≤s1)&&decide (s1<s2)&&decide (s2≤52596000))):=rfl
 by_cases h1:0≤s1
 ·by_cases h2:s1<s2
  ·by_cases h3:s2≤52596000
   ·have HE:Hid (vacOk ⟨s1,s2⟩=true):=by show _=_;rw[HV.out];simp[h1,h2,h3]
    go_enter Tryz.func43,Tryz.ntmps43
    go_wp2_with fail
    go_ret
    exact⟨ret_bool HE.out.symm,HB.out _⟩
   ·have HE:Hid (vacOk ⟨s1,s2⟩=false):=by show _=_;rw[HV.out];simp[h3]
    go_enter Tryz.func43,Tryz.ntmps43
    go_wp2_with fail
    go_ret
    exact⟨ret_bool HE.out.symm,HB.out _⟩
  ·have HE:Hid (vacOk ⟨s1,s2⟩=false):=by show _=_;rw[HV.out];simp[h2]
   go_enter Tryz.func43,Tryz.ntmps43
   go_wp2_with fail
   go_ret
   exact⟨ret_bool HE.out.symm,HB.out _⟩
 ·have HE:Hid (vacOk ⟨s1,s2⟩=false):=by show _=_;rw[HV.out];simp[h1]
  go_enter Tryz.func43,Tryz.ntmps43
  go_wp2_with fail
  go_ret
  exact⟨ret_bool HE.out.symm,HB.out _⟩
set_option maxRecDepth 100000 in
set_option maxHeartbeats 1600000 in
theorem flight40_any(t:GTT)(x:GInc)(A1 A2 A3:Option Addr)(n1 n2 n3 c1 c2 c3:Nat)(w:World)(hs2:Sl Ty.airport w (all_ w) A2 n2 c2 t.airports)(hs3:Sl Ty.flight w (all_ w) A3 n3 c3 t.flights) :
 Calls Tryz.prog 41 #[.agg #[.slice A1 n1 c1,.slice A2 n2 c2,.slice A3 n3 c3],incVal x] w (ErrPost (incE2 t x) w):=by
 have hn1:n3≤t.flights.length:=Nat.le_of_eq hs3.len;have hn2:t.flights.length≤n3:=Nat.le_of_eq hs3.len.symm;have hle:=hs3.le;unfold maxLen at hle;have HA:Hid (∀ o p,Below w.heap.size w ((w.alloc o).alloc p)):=fun o p=>((Below.refl _ _).alloc (Nat.le_refl _) o).alloc (by simp) p
 unfold incVal;obtain⟨kind,fl,mi,ai,pe,⟨s1,s2⟩⟩:=x;simp only
 by_cases hk:kind<1∨4<kind
 ·have HR:Hid (incE2 t ⟨kind,fl,mi,ai,pe,⟨s1,s2⟩⟩=5):=by show _=_;unfold incE2;exact if_pos hk
  have hk':kind<1∨(¬kind<1∧4<kind):=by omega
  have h1 : ¬kind=1:=by omega
  have h2 : ¬kind=2:=by omega
  have h3 : ¬kind=3:=by omega
  clear hk hs2 hs3;rcases hk' with h|⟨h,h'⟩
  all_goals
   go_enter Tryz.func41,Tryz.ntmps41
   go_wp2_with fail
   go_ret
   exact⟨by rw[HR.out];rfl,HA.out _ _⟩
 by_cases hk4:kind=4
 ·subst hk4;have HR:Hid (incE2 t ⟨4,fl,mi,ai,pe,⟨s1,s2⟩⟩=0):=by show _=_;unfold incE2;rw[if_neg hk,if_pos rfl]
  clear hk hs2 hs3
  go_enter Tryz.func41,Tryz.ntmps41
  go_wp2_with fail
  go_quiet (fail)
  go_wp2_with fail
  go_ret
  exact⟨by rw[HR.out];rfl,below_drewN (HA.out _ _) _⟩
 have HE2:Hid (incE2 t ⟨kind,fl,mi,ai,pe,⟨s1,s2⟩⟩=flightIncE t ⟨kind,fl,mi,ai,pe,⟨s1,s2⟩⟩):=by show _=_;unfold incE2;rw[if_neg hk,if_neg hk4]
 have hk':kind=1∨kind=2∨kind=3:=by omega
 clear hk
 by_cases hf:fl<0∨(t.flights.length:Int)≤fl
 ·have HR:Hid (incE2 t ⟨kind,fl,mi,ai,pe,⟨s1,s2⟩⟩=6):=by show _=_;rw[HE2.out];unfold flightIncE;exact if_pos hf
  have hf':fl<0∨(¬fl<0∧(n3:Int)≤fl):=by omega
  clear hf hs2 hs3 hk4;rcases hk' with rfl|rfl|rfl
  all_goals rcases hf' with h|⟨h,h'⟩
  all_goals
   go_enter Tryz.func41,Tryz.ntmps41
   go_wp2_with fail
   go_ret
   exact⟨by rw[HR.out];rfl,HA.out _ _⟩
 have hf0:0≤fl:=by omega
 have hf1:fl<(n3:Int):=by omega
 rcases hk' with rfl|rfl|rfl
 ·have HR:Hid (incE2 t ⟨1,fl,mi,ai,pe,⟨s1,s2⟩⟩=if mi<1∨1440<mi then 5 else 0):=by show _=_;rw[HE2.out];unfold flightIncE;rw[if_neg hf,if_pos rfl]
  clear hf hs2 hs3
  by_cases hm:mi<1∨1440<mi
  ·rw[if_pos hm]at HR;have hm':mi<1∨(¬mi<1∧1440<mi):=by omega
   clear hm;rcases hm' with h|⟨h,h'⟩
   all_goals
    go_enter Tryz.func41,Tryz.ntmps41
    go_wp2_with fail
    go_ret
    exact⟨by rw[HR.out];rfl,HA.out _ _⟩
  ·rw[if_neg hm]at HR;have h1 : ¬mi<1:=by omega
   have h2 : ¬1440<mi:=by omega
   clear hm
   go_enter Tryz.func41,Tryz.ntmps41
   go_wp2_with fail
   go_quiet (fail)
   go_wp2_with fail
   go_ret
   exact⟨by rw[HR.out];rfl,below_drewN (HA.out _ _) _⟩
 ·have HR:Hid (incE2 t ⟨2,fl,mi,ai,pe,⟨s1,s2⟩⟩=0):=by show _=_;rw[HE2.out];unfold flightIncE;rw[if_neg hf,if_neg (show ¬(2:Int)=1 by decide),if_neg (show ¬(2:Int)=3 by decide)]
  clear hf hs2 hs3
  go_enter Tryz.func41,Tryz.ntmps41
  go_wp2_with fail
  go_quiet (fail)
  go_wp2_with fail
  go_ret
  exact⟨by rw[HR.out];rfl,below_drewN (HA.out _ _) _⟩
 ·have HR:Hid (incE2 t ⟨3,fl,mi,ai,pe,⟨s1,s2⟩⟩=if hasB (aCodes t.airports) ai=false then 6 else if ai=(t.flights.getD fl.toNat noFlight).src then 14 else if mi<0∨720<mi then 5 else 0):=by show _=_;rw[HE2.out];unfold flightIncE;rw[if_neg hf,if_neg (show ¬(3:Int)=1 by decide),if_pos rfl]
  have hA0:=HA.out (.cells #[.slice A1 n1 c1,.slice A2 n2 c2,.slice A3 n3 c3] 27) (.cells #[.int .i64 3,.int .i64 fl,.int .i64 mi,.string ai,.int .i64 pe,.int .i64 s1,.int .i64 s2] 59);have HC:=Lib.hid (airportIndex_any t.airports ai A2 n2 c2 (all_ w) _ (hs2.keep (all_keep hA0)));have HS:=Lib.hid (hs3.keep (all_keep hA0));have g0:((w.alloc (.cells #[.slice A1 n1 c1,.slice A2 n2 c2,.slice A3 n3 c3] 27)).alloc (.cells #[.int .i64 3,.int .i64 fl,.int .i64 mi,.string ai,.int .i64 pe,.int .i64 s1,.int .i64 s2] 59)).heap[w.heap.size]? = some (.cells #[.slice A1 n1 c1,.slice A2 n2 c2,.slice A3 n3 c3] 27 (0,0)):=heap_alloc2_old _ _ _;have g1:((w.alloc (.cells #[.slice A1 n1 c1,.slice A2 n2 c2,.slice A3 n3 c3] 27)).alloc (.cells #[.int .i64 3,.int .i64 fl,.int .i64 mi,.string ai,.int .i64 pe,.int .i64 s1,.int .i64 s2] 59)).heap[w.heap.size+1]? = some (.cells #[.int .i64 3,.int .i64 fl,.int .i64 mi,.string ai,.int .i64 pe,.int .i64 s1,.int .i64 s2] 59 (0,0)):=heap_alloc2_new _ _ _;have HIN:=Lib.hid (idxOf_neg (aCodes t.airports) ai);have HA1:=Lib.hid hA0;have G0:=Lib.hid g0;have G1:=Lib.hid g1;clear hf hs2 hs3 g0 g1 hA0 HA;generalize idxOf (aCodes t.airports) ai=ix at*;generalize hasB (aCodes t.airports) ai=hb at*
  go_enter Tryz.func41,Tryz.ntmps41
  go_wp2_with fail
  refine HC.out.mono ?_;clear HC;generalize (w.alloc (.cells #[.slice A1 n1 c1,.slice A2 n2 c2,.slice A3 n3 c3] 27)).alloc (.cells #[.int .i64 3,.int .i64 fl,.int .i64 mi,.string ai,.int .i64 pe,.int .i64 s1,.int .i64 s2] 59)=W at*;rintro e w9 ⟨rfl,hX⟩;rw[←hX];clear hX w9;have y0:=fun j=>block_cell G0.out j
  have y1:=fun j=>block_cell G1.out j
  have x1:=y0 1;have x2:=y0 2;have q0:=y1 0;have q1:=y1 1;have q2:=y1 2;have q3:=y1 3;obtain⟨b,o,rfl,hbS,hfl⟩:=HS.out.flight_at (k:=fl.toNat) (by omega);have z6:W.cell? ⟨b,o+fl.toNat*9+1,none⟩=some (.string (t.flights.getD fl.toNat noFlight).src):=hfl 1 _ rfl;generalize (t.flights.getD fl.toNat noFlight).src=src at*;clear y0 y1 hfl HS
  cases hb with
  | false =>
   have hix:ix<0:=by have:=HIN.out;simpa using this
   rw[if_pos rfl]at HR;go_wp2_with fail
   go_ret
   exact⟨by rw[HR.out];rfl,HA1.out⟩
  | true =>
   have hix : ¬ix<0:=by have:=HIN.out;simpa using this
   rw[if_neg (by simp)]at HR;have HSB:=Lib.hid (str_beq src ai)
   by_cases he:ai=src
   ·rw[if_pos he]at HR;have hs:(src.toList==ai.toList)=true:=by rw[HSB.out];simpa using he.symm
    clear he;go_wp2_with fail
    go_quiet (fail)
    go_wp2_with fail
    go_ret
    exact⟨by rw[HR.out];rfl,below_drewN HA1.out _⟩
   ·rw[if_neg he]at HR;have hs:(src.toList==ai.toList)=false:=by rw[HSB.out];simpa using fun e=>he e.symm
    clear he
    by_cases hm:mi<0∨720<mi
    ·rw[if_pos hm]at HR;have hm':mi<0∨(¬mi<0∧720<mi):=by omega
     clear hm;rcases hm' with h|⟨h,h'⟩
     all_goals
      go_wp2_with fail
      go_quiet (fail)
      go_wp2_with fail
      go_ret
      exact⟨by rw[HR.out];rfl,below_drewN HA1.out _⟩
    ·rw[if_neg hm]at HR;have h1 : ¬mi<0:=by omega
     have h2 : ¬720<mi:=by omega
     clear hm;go_wp2_with fail
     go_quiet (fail)
     go_wp2_with fail
     go_ret
     exact⟨by rw[HR.out];rfl,below_drewN HA1.out _⟩
end Go.Proofs.YtifconapjfdkcaaGreatDoor

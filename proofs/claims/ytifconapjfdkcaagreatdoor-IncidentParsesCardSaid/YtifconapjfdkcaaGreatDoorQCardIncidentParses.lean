/-
  The card of IncidentParses: for every three lists of ints and every string the law returns true, and the arguments read as before. No condition.
-/
import Derived.Test.YtifconapjfdkcaaGreatDoorCards
import Derived.Test.YtifconapjfdkcaaGreatDoorTie
import Derived.WalkKit
import Derived.ProofKit
import Derived.OpenShut
import Derived.Deep.DeepHandedRow
import Derived.Lib.LaidTab
import Derived.PinnedBridge
import Derived.Lay
import Derived.Stop.LaidErr
import Derived.Test.YtifconapjfdkcaaGreatDoorQAF
import Derived.Test.YtifconapjfdkcaaGreatDoorProg
import Derived.WalkLawsBesides
import Derived.WalkSpells
import Derived.Lib.Hide
import Derived.Maps.AppendAt
import Derived.Deep.Slices
import Derived.Test.YtifconapjfdkcaaGreatDoorQAA
set_option linter.unusedSimpArgs false
set_option linter.unusedVariables false
set_option maxRecDepth 100000
set_option maxHeartbeats 12800000
namespace Go.Proofs.YtifconapjfdkcaaGreatDoor.incidentParses
open Go.ChangeShapes Go.WideShapes Go.ChangeAt Go.RowKit
open Go.ChangeMaps (open_string shut_string)
theorem reads_all:(Tryz.f9.params.toList.all fun t=>Tryz.prog.readableRec t&&decide (t<Tryz.prog.types.size))=true:=by kernel_rfl
theorem reads_ok : ∀ t∈Tryz.f9.params.toList,Tryz.prog.readableRec t=true:=fun t ht=>by
 have h:=List.all_eq_true.1 reads_all t ht;rw[qI]at h;exact h.1
theorem reads_lt : ∀ t∈Tryz.f9.params.toList,t<Tryz.prog.types.size:=fun t ht=>by
 have h:=List.all_eq_true.1 reads_all t ht;rw[qI]at h;exact of_decide_eq_true h.2
theorem contract(H:Type)(enc:TypeId×Value→H)(W:World)(base:Nat)(args:Array Value)(ds gs:List (DataW H))(before:List MemPlace)
 (hval : ∀ (j:Nat) t v,Tryz.f9.params[j]? = some t→args[j]? = some v→Value.okWide Tryz.prog W .any base t v)
 (hW:DataW.Whole enc Tryz.prog Tryz.f9.params.toList Rows.incidentParsesSpec.vars false W args.toList ds gs before) (hL:laidMetH Tryz.prog Rows.incidentParsesRow.laid W) (hsh:W.ShapedOpen Tryz.prog)
 (hreach:(DataW.weightsEach Tryz.prog (Tryz.f9.params.toList++(OpenSpec.ofChange Rows.incidentParsesSpec).bare.plain.varTypes Tryz.prog) (ds++gs)).all (· ≤ reachBytes)=true) :
 Calls Tryz.prog 9 args W fun e W' => ∃ v,e=.returned v∧Rows.incidentParsesSpec.post enc Tryz.prog Tryz.f9 false true false false W args v W':=by
 have hW':=hW;obtain⟨p,q,hA0,hV,rfl,hfz,hnd⟩:=hW;have hA:DataW.TrodAll enc Tryz.prog W 0 (fun _=>true) true Tryz.f9.params.toList args.toList ds p:=hA0;rw[Tryz.params9]at hA hval;obtain⟨v0,vs0,d0,ds0,p0,q0,hargs,rfl,rfl,h0,r0⟩:=trodAll_cons hA;obtain⟨v1,vs1,d1,ds1,p1,q1,rfl,rfl,rfl,h1,r1⟩:=trodAll_cons r0;obtain⟨v2,vs2,d2,ds2,p2,q2,rfl,rfl,rfl,h2,r2⟩:=trodAll_cons r1;obtain⟨v3,vs3,d3,ds3,p3,q3,rfl,rfl,rfl,h3,r3⟩:=trodAll_cons r2;obtain⟨rfl,rfl,rfl⟩:=trodAll_nil r3;obtain rfl:args = #[v0,v1,v2,v3]:=by cases args;simp_all
 obtain⟨rfl,rfl⟩:=trodVars_none hV;have hlt0 : ∀ x∈p0,x.block<W.heap.size:=fun x hx=>hW'.lt x (by simp[hx])
 obtain⟨A0,n0,c0,l0,rfl,s0,_⟩:=open_fits_slice Tryz.underlying22 (by kernel_rfl) fits_i64 (hval 0 22 v0 rfl rfl) h0 hlt0;have hlt1 : ∀ x∈p1,x.block<W.heap.size:=fun x hx=>hW'.lt x (by simp[hx])
 obtain⟨A1,n1,c1,l1,rfl,s1,_⟩:=open_fits_slice Tryz.underlying22 (by kernel_rfl) fits_i64 (hval 1 22 v1 rfl rfl) h1 hlt1;have hlt2 : ∀ x∈p2,x.block<W.heap.size:=fun x hx=>hW'.lt x (by simp[hx])
 obtain⟨A2,n2,c2,l2,rfl,s2,_⟩:=open_fits_slice Tryz.underlying22 (by kernel_rfl) fits_i64 (hval 2 22 v2 rfl rfl) h2 hlt2;obtain⟨st,rfl,rfl,rfl,wst⟩:=open_string Tryz.underlying9 (hval 3 9 v3 rfl rfl) h3;have hLm:laidMet Tryz.prog Rows.incidentParsesRow.laid W:=by rw[MakeChecks.laidMetH_plain _ _ _ (by kernel_rfl)]at hL;exact hL
 have hpt:Lib.TabIs Tryz.prog W "internal/strconv.uint64pow10" .u64 Lib.pow10Tab:=Lib.tabIs_of_head (rest:=Rows.incidentParsesRow.laid.drop 3) (g:=1) (by kernel_rfl) (by kernel_rfl) Tryz.underlying240 Tryz.underlying226 (by kernel_rfl) (by kernel_rfl) (laidMet.tail (laidMet.tail hLm))
 have hpl:1<W.heap.size:=World.block_lt_of_cell? W _ (hpt.cell (g:=1) (by kernel_rfl) 0 (by decide));refine(lawParses_any l0 l1 l2 st A0 A1 A2 n0 c0 n1 c1 n2 c2 W s0 s1 s2 ⟨hpt,hpl⟩ (glo_of_shaped hsh)).mono fun e W' ⟨he,hb⟩ =>?_
 subst he;exact⟨_,rfl,law_post laidOut_true Tryz.underlying4 rfl rfl (fun t ht=>⟨by revert t;exact reads_ok,by revert t;exact reads_lt⟩) ⟨rfl,rfl,rfl⟩ hW' hb⟩
theorem reads(os:Os){H:Type}(enc:TypeId×Value→H) : ∃ places,DataW.whole enc Tryz.prog ((World.laidAll Tryz.prog os Rows.incidentParsesRow.laid).forCall (fun _ _=>0) ⟨#[], #[.slice none 0 0,.slice none 0 0,.slice none 0 0,.string ⟨#[]⟩],[]⟩).memory Tryz.f9.params.toList Rows.incidentParsesSpec.vars false (#[.slice none 0 0,.slice none 0 0,.slice none 0 0,.string ⟨#[]⟩]:Array Value).toList 8=some ([.nil,.nil,.nil,.lit (.string [])],[],places) :=
 ⟨[],by kernel_rfl⟩
theorem laid_met(os:Os):laidMetH Tryz.prog Rows.incidentParsesRow.laid ((World.laidAll Tryz.prog os Rows.incidentParsesRow.laid).forCall (fun _ _=>0) ⟨#[], #[.slice none 0 0,.slice none 0 0,.slice none 0 0,.string ⟨#[]⟩],[]⟩).memory:=by
 rw[MakeChecks.laidMetH_plain _ _ _ (by kernel_rfl)];exact laidMet_laidAll _ (by kernel_rfl) (by kernel_rfl)
theorem lifted(os:Os)(started:os.Started)(H:Type)(enc:TypeId×Value→H)(F:Stop.Interp) :
 ReturnsInHanded {} Tryz.checked os 9 .any ((OpenSpec.ofChange Rows.incidentParsesSpec).preRow enc Tryz.prog Tryz.f9 Rows.incidentParsesRow.domain false Rows.incidentParsesRow.laid) (((OpenSpec.ofChange Rows.incidentParsesSpec).at F).post enc Tryz.prog Tryz.f9 false true false false):=by
 obtain⟨places,hx⟩:=reads os enc;refine returnsInHanded_of_row (C:=Tryz.checked) (s:=OpenSpec.ofChange Rows.incidentParsesSpec) ownKnob_none started (by kernel_rfl) Tryz.func9
  (witness_row_shaped (enc:=enc) (C:=Tryz.checked) false (World.laidAll Tryz.prog os Rows.incidentParsesRow.laid) #[.slice none 0 0,.slice none 0 0,.slice none 0 0,.string ⟨#[]⟩] (World.laidAll_os _ _ _) (World.shaped_of_ZipB (by kernel_rfl) (by kernel_rfl)) (by kernel_rfl)
   (OpenSpec.preRow_of_cond 8 hx (by kernel_rfl) (fun k hk=>by cases hk) (by kernel_rfl) (laid_met os))) ?_
 intro W base args ds gs before hval hW _ hcond hreach hL hsh _;exact contract H enc W base args ds gs before hval hW hL hsh hreach
theorem said:Rows.IncidentParsesSaid :=
 OpenClaim.holds_of_cond 9 Tryz.f9 rfl rfl rfl rfl rfl rfl rfl ⟨rfl,rfl,rfl,rfl,rfl⟩ rfl rfl rfl rfl rfl (by kernel_rfl) Tryz.func9 (by kernel_rfl)
  (of_decide_eq_true (by kernel_rfl)) (by unfold Func.isWrapper;first|(rw[qR (by decide +kernel)];kernel_rfl)|(rw[qN (by decide +kernel)];exact⟨rfl,rfl⟩))
  (fun os started H enc _ F=>by rw[OpenClaim.pre_eq_preRow];exact lifted os started H enc F)
theorem plain(f:FuncId)(fn:Func)(hf:Tryz.pinned.checked.prog.funcNamed Rows.incidentParsesRow.func=some f)(hfn:Tryz.pinned.checked.prog.funcs[f]? = some fn) :
 false=Tryz.pinned.checked.prog.looks [] ∧ ∀ (j:Nat) t,fn.params[j]? = some t→Tryz.pinned.checked.prog.wantsStandIn t=false:=by
 obtain rfl:f=9:=qB ((show Tryz.prog.funcNamed Rows.incidentParsesRow.func=some 9 by kernel_rfl).symm.trans hf) |>.symm;obtain rfl:fn=Tryz.f9:=(qB (Tryz.func9.symm.trans hfn)).symm;refine⟨by kernel_rfl,fun j t ht =>?_⟩;have hall:(Tryz.f9.params.toList.all fun u => !Tryz.prog.wantsStandIn u)=true:=by kernel_rfl
 have hm:t∈Tryz.f9.params.toList:=by simpa using Array.mem_of_getElem? ht
 have h:=List.all_eq_true.1 hall t hm;exact(show Tryz.prog.wantsStandIn t=false by simpa using h)
theorem card:Rows.IncidentParsesCardSaid :=
 Claim7.holds_tied_plain_at .later [] _ _ _ _ said (fun _ h=>by cases h) (by kernel_rfl) (fun _ h=>by cases h) incidentParses_row_tie rfl ⟨rfl,rfl⟩ (by kernel_rfl) rfl plain (by kernel_rfl)
end Go.Proofs.YtifconapjfdkcaaGreatDoor.incidentParses

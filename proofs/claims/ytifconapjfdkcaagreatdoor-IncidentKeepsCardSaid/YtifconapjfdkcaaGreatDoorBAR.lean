/-
  The plain function of incident.Apply, and that sorting the flights' places and counting their ranks say the same.
  No condition.
-/
import Derived.Test.YtifconapjfdkcaaGreatDoorBAP
import Derived.Test.YtifconapjfdkcaaGreatDoorBAQ
import Derived.Sort.Walk0
namespace Go.Proofs.YtifconapjfdkcaaGreatDoor
set_option linter.unusedSimpArgs false
set_option linter.unusedVariables false
open Go Go.RowKit
def bl (x y:List UInt8):Bool:=Op.bytesLess x y
theorem bl_irrefl : ∀ x,bl x x=false
 | []=>rfl
 | a::x=>by
  unfold bl
  rw [Op.bytesLess]
  have:=bl_irrefl x
  unfold bl at this
  simp [this]
theorem bl_cons (a b:UInt8) (x y:List UInt8):bl (a::x) (b::y)=(decide (a<b)||(decide (a=b)&&bl x y)):=by
 unfold bl
 rw [Op.bytesLess]
 by_cases h1:a<b <;> by_cases h2:a=b <;> simp [h1,h2]
theorem bl_trans : ∀ x y z,bl x y=true→bl y z=true→bl x z=true
 | _,_,[],_,h2=>by rename_i y _;cases y <;> simp [bl,Op.bytesLess] at h2
 | _,[],_::_,h1,_=>by rename_i x _ _;cases x <;> simp [bl,Op.bytesLess] at h1
 | [],_::_,_::_,_,_=>rfl
 | a::x,b::y,c::z,h1,h2=>by
  rw [bl_cons] at *
  simp only [Bool.or_eq_true,Bool.and_eq_true,decide_eq_true_eq] at *
  rcases h1 with h1 | ⟨rfl,h1⟩ <;> rcases h2 with h2 | ⟨rfl,h2⟩
  ·exact .inl (UInt8.lt_trans h1 h2)
  ·exact .inl h1
  ·exact .inl h2
  ·exact .inr ⟨rfl,bl_trans x y z h1 h2⟩
theorem bl_total : ∀ x y,bl x y=false→bl y x=false→x=y
 | [],[],_,_=>rfl
 | [],_::_,h,_=>by simp [bl,Op.bytesLess] at h
 | _::_,[],_,h=>by simp [bl,Op.bytesLess] at h
 | a::x,b::y,h1,h2=>by
  rw [bl_cons] at *
  simp only [Bool.or_eq_false_iff,Bool.and_eq_false_iff,decide_eq_false_iff_not] at *
  have hab:a=b:=by
   apply UInt8.toNat_inj.1
   have e1:=h1.1;have e2:=h2.1
   rw [UInt8.lt_iff_toNat_lt] at e1 e2
   omega
  subst hab
  rw [bl_total x y (by simpa using h1.2) (by simpa using h2.2)]
theorem bl_ntrans (x y z:List UInt8) (h1:bl x y=false) (h2:bl y z=false):bl x z=false:=by
 cases h3:bl x z with
 | false=>rfl
 | true =>
  exfalso
  cases h4:bl y x with
  | true=>have:=bl_trans y x z h4 h3;rw [h2] at this;cases this
  | false =>
   have e:=bl_total x y h1 h4
   subst e
   rw [h2] at h3
   cases h3
theorem before_irrefl (f:GFlight):beforeB f f=false:=by unfold beforeB;rw [if_pos rfl];exact bl_irrefl _
theorem before_trans {f g h:GFlight} (h1:beforeB f g=true) (h2:beforeB g h=true):beforeB f h=true:=by
 unfold beforeB at *
 split at h1 <;> split at h2
 ·rw [if_pos (by omega)];exact bl_trans _ _ _ h1 h2
 ·simp only [decide_eq_true_eq] at h2;rw [if_neg (by omega)];simp;omega
 ·simp only [decide_eq_true_eq] at h1;rw [if_neg (by omega)];simp;omega
 ·simp only [decide_eq_true_eq] at h1 h2;rw [if_neg (by omega)];simp;omega
theorem before_ntrans {f g h:GFlight} (h1:beforeB f g=false) (h2:beforeB g h=false):beforeB f h=false:=by
 unfold beforeB at *
 split at h1 <;> split at h2
 ·rw [if_pos (by omega)];exact bl_ntrans _ _ _ h1 h2
 ·simp only [decide_eq_false_iff_not] at h2;rw [if_neg (by omega)];simp;omega
 ·simp only [decide_eq_false_iff_not] at h1;rw [if_neg (by omega)];simp;omega
 ·simp only [decide_eq_false_iff_not] at h1 h2;rw [if_neg (by omega)];simp;omega
def ltF (fl:List GFlight) (x y:Int):Bool:=beforeB (fl.getD x.toNat noFlight) (fl.getD y.toNat noFlight)
theorem ltF_swo (fl:List GFlight):Sort.SWO (ltF fl):=⟨fun x=>before_irrefl _,fun x y z=>before_trans,fun x y z=>before_ntrans⟩
def delayF (f:GFlight) (m:Int):GFlight:=⟨f.number,f.src,f.dst,f.dep+m,f.arr+m,f.kind,f.n0,f.n1,f.n2⟩
def divertF (f:GFlight) (a:ByteArray) (m:Int):GFlight:=⟨f.number,f.src,a,f.dep,f.arr+m,f.kind,f.n0,f.n1,f.n2⟩
def appSt (s:List GFlight×List Bool) (x:GInc):List GFlight×List Bool :=
 if x.kind=4∨s.2.getD x.flight.toNat false=true then s
 else if x.kind=1 then (s.1.set x.flight.toNat (delayF (s.1.getD x.flight.toNat noFlight) x.minutes),s.2)
 else if x.kind=2 then (s.1,s.2.set x.flight.toNat true)
 else (s.1.set x.flight.toNat (divertF (s.1.getD x.flight.toNat noFlight) x.airport x.minutes),s.2)
def appAll (t:GTT) (l:List GInc):List GFlight×List Bool:=l.foldl appSt (t.flights,List.replicate t.flights.length false)
def leftI (gone:List Bool):List Int:=((List.range gone.length).filter fun i => !gone.getD i false).map fun (i:Nat)=>(i:Int)
def rankI (fl:List GFlight) (gone:List Bool) (i:Nat):Nat:=(leftI gone).countP fun y=>tieB (ltF fl) y i
def indexI (fl:List GFlight) (gone:List Bool) (i:Nat):Int:=if gone.getD i false=true then -1 else rankI fl gone i
theorem leftI_inc (gone:List Bool) : ∀ p q,p<q→q<(leftI gone).toArray.size→(leftI gone).toArray[p]! < (leftI gone).toArray[q]! :=by
 intro p q hpq hq
 have hq':q<(leftI gone).length:=by simpa using hq
 have hP:(leftI gone).Pairwise (· < ·):=by
  unfold leftI
  rw [List.pairwise_map]
  exact (List.pairwise_lt_range.filter _).imp fun h=>by omega
 have:=List.pairwise_iff_getElem.1 hP p q (by omega) hq' hpq
 rw [getElem!_pos _ p (by simpa using (by omega:p<(leftI gone).length)),getElem!_pos _ q hq]
 simpa using this
def orderI (fl:List GFlight) (gone:List Bool):List Int:=(Sort.insertionSort (ltF fl) (leftI gone).toArray 0 (leftI gone).toArray.size).toList
theorem orderI_perm (fl:List GFlight) (gone:List Bool):(orderI fl gone).Perm (leftI gone):=by
 have h:=(sort_rank (ltF_swo fl) (leftI gone).toArray (leftI_inc gone)).2.1
 exact h
theorem orderI_rank (fl:List GFlight) (gone:List Bool) (p:Nat) (hp:p<(orderI fl gone).length):(leftI gone).countP (fun y=>tieB (ltF fl) y ((orderI fl gone)[p]))=p:=by
 obtain ⟨h1,h2,h3⟩:=sort_rank (ltF_swo fl) (leftI gone).toArray (leftI_inc gone)
 unfold orderI at hp ⊢
 generalize Sort.insertionSort (ltF fl) (leftI gone).toArray 0 (leftI gone).toArray.size=o at *
 have hpo:p<o.size:=by simpa using hp
 have:=h3 p (by omega)
 rw [getElem!_pos o p hpo] at this
 simpa using this
theorem leftI_mem {gone:List Bool} {y:Int}:y∈leftI gone ↔ ∃ i:Nat,y=i∧i<gone.length∧gone.getD i false=false:=by
 unfold leftI
 simp only [List.mem_map,List.mem_filter,List.mem_range,Bool.not_eq_true']
 exact ⟨fun ⟨i,⟨h1,h2⟩,h3⟩=>⟨i,h3.symm,h1,h2⟩,fun ⟨i,h1,h2,h3⟩=>⟨i,⟨h2,h3⟩,h1.symm⟩⟩
theorem leftI_le (gone:List Bool):(leftI gone).length≤gone.length:=by
 unfold leftI
 rw [List.length_map]
 have:=List.length_filter_le (fun i => !gone.getD i false) (List.range gone.length)
 rwa [List.length_range] at this
theorem order_len (fl:List GFlight) (gone:List Bool):(orderI fl gone).length=(leftI gone).length:=(orderI_perm fl gone).length_eq
theorem order_at {fl:List GFlight} {gone:List Bool} {i:Nat} (hi:i<gone.length) (hg:gone.getD i false=false) : ∃ h:rankI fl gone i<(orderI fl gone).length,(orderI fl gone)[rankI fl gone i]=i:=by
 have hm:(i:Int)∈orderI fl gone:=(orderI_perm fl gone).mem_iff.2 (leftI_mem.2 ⟨i,rfl,hi,hg⟩)
 obtain ⟨p,hp,he⟩:=List.getElem_of_mem hm
 have hr:=orderI_rank fl gone p hp
 rw [he] at hr
 have hr':rankI fl gone i=p:=hr
 subst hr'
 exact ⟨hp,he⟩
theorem order_rank {fl:List GFlight} {gone:List Bool} {p:Nat} (hp:p<(orderI fl gone).length) : ∃ i:Nat,(orderI fl gone)[p]=i∧i<gone.length∧gone.getD i false=false∧rankI fl gone i=p:=by
 have hm:=(orderI_perm fl gone).mem_iff.1 (List.getElem_mem hp)
 obtain ⟨i,he,hi,hg⟩:=leftI_mem.1 hm
 refine ⟨i,he,hi,hg, ?_⟩
 have:=orderI_rank fl gone p hp
 rw [he] at this
 exact this
def newFl (fl:List GFlight) (gone:List Bool):List GFlight:=(orderI fl gone).map fun y=>fl.getD y.toNat noFlight
def refFl (fl:List GFlight) (gone:List Bool):List GFlight:=(List.range gone.length).flatMap fun (n:Nat)=>((List.range gone.length).filter fun i=>decide (indexI fl gone i=(n:Int))).map fun i=>fl.getD i noFlight
theorem single_of {l:List Nat} {a:Nat} (hn:l.Nodup) (hm:a∈l) (h : ∀ x∈l,x=a):l=[a]:=by
 cases l with
 | nil=>cases hm
 | cons b l =>
  have hb:=h b (.head _)
  subst hb
  cases l with
  | nil=>rfl
  | cons c l =>
   have hc:=h c (.tail _ (.head _))
   subst hc
   simp at hn
theorem ref_round (fl:List GFlight) (gone:List Bool) (n:Nat):((List.range gone.length).filter fun i=>decide (indexI fl gone i=(n:Int)))=if h:n<(orderI fl gone).length then [((orderI fl gone)[n]).toNat] else []:=by
 split
 ·rename_i h
  obtain ⟨i,he,hi,hg,hr⟩:=order_rank h
  rw [he,Int.toNat_natCast]
  refine single_of (List.nodup_range.filter _) ?_ fun x hx =>?_
  ·rw [List.mem_filter,List.mem_range]
   refine ⟨hi, ?_⟩
   unfold indexI
   rw [hg]
   simp [hr]
  ·rw [List.mem_filter,List.mem_range,decide_eq_true_eq] at hx
   obtain ⟨hx1,hx2⟩:=hx
   unfold indexI at hx2
   split at hx2
   ·omega
   ·rename_i hgx
    obtain ⟨h',e'⟩:=order_at (fl:=fl) hx1 (by simpa using hgx)
    have:rankI fl gone x=n:=by omega
    simp only [this] at e'
    rw [he] at e'
    omega
 ·rename_i h
  rw [List.filter_eq_nil_iff]
  intro x hx
  rw [List.mem_range] at hx
  rw [decide_eq_true_eq]
  unfold indexI
  split
  ·omega
  ·rename_i hgx
   obtain ⟨h', -⟩:=order_at (fl:=fl) hx (by simpa using hgx)
   omega
theorem flat_take {α : Type} : ∀ (o:List α) (n k:Nat),o.length≤n→(List.range' k n).flatMap (fun p=>if h:p-k<o.length then [o[p-k]] else [])=o
 | [],n,k,_=>by
  rw [List.flatMap_eq_nil_iff]
  intro p _
  simp
 | a::o,0,k,h=>by simp at h
 | a::o,n+1,k,h=>by
  rw [List.range'_succ,List.flatMap_cons]
  have h0:(if h:k-k<(a::o).length then [(a::o)[k-k]] else [])=[a]:=by simp
  rw [h0]
  have ih:=flat_take o n (k+1) (by simpa using h)
  have hc:(List.range' (k+1) n).flatMap (fun p=>if h:p-k<(a::o).length then [(a::o)[p-k]] else [])=(List.range' (k+1) n).flatMap (fun p=>if h:p-(k+1)<o.length then [o[p-(k+1)]] else []):=by
   rw [List.flatMap_def,List.flatMap_def]
   congr 1
   refine List.map_congr_left fun p hp =>?_
   rw [List.mem_range'_1] at hp
   obtain ⟨q,rfl⟩ : ∃ q,p=k+1+q:=⟨p-(k+1),by omega⟩
   have e1:k+1+q-k=q+1:=by omega
   have e2:k+1+q-(k+1)=q:=by omega
   simp only [e1,e2,List.length_cons,Nat.add_lt_add_iff_right,List.getElem_cons_succ]
  rw [hc,ih]
  rfl
theorem ref_eq (fl:List GFlight) (gone:List Bool):refFl fl gone=newFl fl gone:=by
 unfold refFl
 have h1 : ∀ n:Nat,(((List.range gone.length).filter fun i=>decide (indexI fl gone i=(n:Int))).map fun i=>fl.getD i noFlight)=if h:n-0<(newFl fl gone).length then [(newFl fl gone)[n-0]] else []:=fun n=>by
  rw [ref_round]
  unfold newFl
  simp only [List.length_map,Nat.sub_zero]
  split
  ·rename_i h
   simp
  ·rfl
 have h2:=flat_take (newFl fl gone) gone.length 0 (by unfold newFl;rw [List.length_map,order_len];exact leftI_le gone)
 rw [←List.range_eq_range'] at h2
 rw [←h2]
 congr 1
 funext n
 exact h1 n
noncomputable def applyP (t:GTT) (l:List GInc):GTT×List Int×Int :=
 if ttE t≠0 then (⟨[],[],[]⟩,[],ttE t)
 else if firstErr (fun i=>if (l.getD i noInc).kind<1∨4<(l.getD i noInc).kind then 5 else if (l.getD i noInc).kind=4 then 0 else flightIncE t (l.getD i noInc)) l.length≠0 then
  (⟨[],[],[]⟩,[],firstErr (fun i=>if (l.getD i noInc).kind<1∨4<(l.getD i noInc).kind then 5 else if (l.getD i noInc).kind=4 then 0 else flightIncE t (l.getD i noInc)) l.length)
 else if ttE ⟨t.zones,t.airports,newFl (appAll t l).1 (appAll t l).2⟩≠0 then (⟨[],[],[]⟩,[],ttE ⟨t.zones,t.airports,newFl (appAll t l).1 (appAll t l).2⟩)
 else (⟨t.zones,t.airports,newFl (appAll t l).1 (appAll t l).2⟩,(List.range t.flights.length).map (indexI (appAll t l).1 (appAll t l).2),0)
end Go.Proofs.YtifconapjfdkcaaGreatDoor

/-
  Plain rendered texts: lines of fields joined by blanks; the fields and the lines are read back.
  No condition.
-/
import Derived.Test.YtifconapjfdkcaaGreatDoorBAE
namespace Go.Proofs.YtifconapjfdkcaaGreatDoor
set_option linter.unusedSimpArgs false
set_option linter.unusedVariables false
open Go
def fldOk (x:ByteArray):Prop:=x.data.toList≠[] ∧ ∀ b∈x.data.toList,33≤b.toNat∧b.toNat≤126∧b≠35
def restT:List ByteArray→List UInt8
 | []=>[]
 | f::r=>32::(f.data.toList++restT r)
def lineT:List ByteArray→List UInt8
 | []=>[]
 | f::r=>f.data.toList++restT r
def textT:List (List ByteArray)→List UInt8
 | []=>[]
 | f::r=>lineT f++10::textT r
theorem textT_app (a b:List (List ByteArray)):textT (a++b)=textT a++textT b:=by
 induction a with
 | nil=>rfl
 | cons f r ih=>simp [textT,ih]
theorem fldOk.no {x:ByteArray} (h:fldOk x) {c:UInt8} (hc:c.toNat≤32∨c=35):c ∉ x.data.toList:=fun hm=>by
 have:=h.2 c hm
 rcases hc with h1 | h1
 ·omega
 ·exact this.2.2 h1
theorem splitT_app (c:UInt8) (x y:List UInt8) (h:c ∉ x):splitL c (x++y)=(x++(splitL c y).headD [])::(splitL c y).tail:=by
 induction x with
 | nil=>exact splitL_eq c y
 | cons a x ih =>
  have h1:a≠c:=fun e=>h (by simp [e])
  have h2:c ∉ x:=fun e=>h (by simp [e])
  rw [List.cons_append,splitL,if_neg h1,ih h2]
  rfl
theorem splitT_cut (c:UInt8) (x y:List UInt8) (h:c ∉ x):splitL c (x++c::y)=x::splitL c y:=by
 rw [splitT_app c x _ h,splitL,if_pos rfl]
 simp
theorem split_restT {fs:List ByteArray} (h : ∀ x∈fs,fldOk x):splitL 32 (restT fs)=[]::fs.map (·.data.toList):=by
 induction fs with
 | nil=>rfl
 | cons f r ih =>
  rw [restT,splitL,if_pos rfl,splitT_app 32 _ _ ((h f (.head _)).no (.inl (by decide))),ih (fun y hy=>h y (.tail _ hy))]
  simp
theorem restT_mem {fs:List ByteArray} (h : ∀ x∈fs,fldOk x) : ∀ b∈restT fs,32≤b.toNat∧b.toNat≤126∧b≠35:=by
 induction fs with
 | nil=>intro b hb;simp [restT] at hb
 | cons f r ih =>
  intro b hb
  simp only [restT,List.mem_cons,List.mem_append] at hb
  rcases hb with rfl | hb | hb
  ·decide
  ·obtain ⟨h1,h2,h3⟩:=(h f (.head _)).2 b hb
   exact ⟨by omega,h2,h3⟩
  ·exact ih (fun y hy=>h y (.tail _ hy)) b hb
theorem lineT_mem {fs:List ByteArray} (h : ∀ x∈fs,fldOk x) : ∀ b∈lineT fs,32≤b.toNat∧b.toNat≤126∧b≠35:=by
 cases fs with
 | nil=>intro b hb;simp [lineT] at hb
 | cons f r =>
  intro b hb
  simp only [lineT,List.mem_append] at hb
  rcases hb with hb | hb
  ·obtain ⟨h1,h2,h3⟩:=(h f (.head _)).2 b hb
   exact ⟨by omega,h2,h3⟩
  ·exact restT_mem (fun y hy=>h y (.tail _ hy)) b hb
theorem takeT_all {l:List UInt8} (h : ∀ b∈l,b≠35):l.takeWhile (fun b=>b != 35)=l:=by
 induction l with
 | nil=>rfl
 | cons a l ih =>
  rw [List.takeWhile_cons,if_pos (by simp [h a (.head _)]),ih (fun b hb=>h b (.tail _ hb))]
theorem fields_lineT {fs:List ByteArray} (h : ∀ x∈fs,fldOk x):fieldsB (bs (lineT fs))=fs:=by
 have hl:=lineT_mem h
 unfold fieldsB fieldsL
 rw [bs_data,takeT_all fun b hb=>(hl b hb).2.2]
 have hs:(splitL 32 (lineT fs)).filter (fun f => !f.isEmpty)=fs.map (·.data.toList):=by
  cases fs with
  | nil=>rfl
  | cons f r =>
   rw [lineT,splitT_app 32 _ _ ((h f (.head _)).no (.inl (by decide))),split_restT (fun y hy=>h y (.tail _ hy))]
   simp only [List.headD_cons,List.tail_cons,List.append_nil]
   refine List.filter_eq_self.2 fun x hx =>?_
   have hx':x∈(f::r).map (·.data.toList):=hx
   obtain ⟨g,hg,rfl⟩:=List.mem_map.1 hx'
   have:=(h g hg).1
   cases e:g.data.toList with
   | nil=>exact absurd e this
   | cons _ _=>rfl
 rw [hs,map_bs]
theorem split_textT {ls:List (List ByteArray)} (h : ∀ f∈ls, ∀ x∈f,fldOk x):splitL 10 (textT ls)=ls.map lineT++[[]]:=by
 induction ls with
 | nil=>rfl
 | cons f r ih =>
  rw [textT,splitT_cut 10 _ _ (fun hm=>by have:=(lineT_mem (h f (.head _))) 10 hm;exact absurd this.1 (by decide)),ih (fun g hg=>h g (.tail _ hg))]
  rfl
theorem lines_textT {ls:List (List ByteArray)} (h : ∀ f∈ls, ∀ x∈f,fldOk x):linesL (textT ls)=ls.map lineT:=by
 rw [linesL_of (split_textT h),if_pos rfl]
theorem textT_mem {ls:List (List ByteArray)} (h : ∀ f∈ls, ∀ x∈f,fldOk x) : ∀ b∈textT ls,b=10∨(32≤b.toNat∧b.toNat≤126):=by
 induction ls with
 | nil=>intro b hb;simp [textT] at hb
 | cons f r ih =>
  intro b hb
  simp only [textT,List.mem_append,List.mem_cons] at hb
  rcases hb with hb | rfl | hb
  ·obtain ⟨h1,h2,_⟩:=lineT_mem (h f (.head _)) b hb
   exact .inr ⟨h1,h2⟩
  ·exact .inl rfl
  ·exact ih (fun g hg=>h g (.tail _ hg)) b hb
theorem linesB_textT {ls:List (List ByteArray)} (h : ∀ f∈ls, ∀ x∈f,fldOk x) (hz:(textT ls).length≤20000) (hl:ls.length≤1000):linesB (bs (textT ls))=(ls.map (fun f=>bs (lineT f)),0):=by
 unfold linesB
 have hs:(bs (textT ls)).size=(textT ls).length:=bs_size _
 rw [if_neg (by omega)]
 have ha:allTo (okByte (bs (textT ls))) (bs (textT ls)).size=true:=by
  rw [allTo_iff]
  intro k hk
  rw [hs] at hk
  unfold okByte byteAt
  rw [bs_data,List.getD_eq_getElem?_getD,List.getElem?_eq_getElem hk]
  simp only [Option.getD_some]
  rcases textT_mem h _ (List.getElem_mem hk) with e | ⟨e1,e2⟩
  ·rw [e];rfl
  ·have a1:(32:Int)≤((textT ls)[k].toNat:Int):=by omega
   have a2:((textT ls)[k].toNat:Int)≤126:=by omega
   simp [a1,a2]
 rw [ha,bs_data,lines_textT h,if_neg (by simp),if_neg (by simpa using hl),List.map_map]
 rfl
end Go.Proofs.YtifconapjfdkcaaGreatDoor

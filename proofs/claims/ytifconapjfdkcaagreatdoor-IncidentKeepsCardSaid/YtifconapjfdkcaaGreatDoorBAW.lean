/-
  Plain: sizes of lines and fields; the first place at which something holds.
  No condition.
-/
import Derived.Test.YtifconapjfdkcaaGreatDoorBAE
namespace Go.Proofs.YtifconapjfdkcaaGreatDoor
set_option linter.unusedSimpArgs false
set_option linter.unusedVariables false
open Go.RowKit
theorem splitL_mem {c:UInt8} : ∀ {l x:List UInt8},x∈splitL c l→x.length≤l.length:=by
 intro l
 induction l with
 | nil=>intro x hx;simp [splitL] at hx;subst hx;simp
 | cons b l ih =>
  intro x hx
  have he:=splitL_eq c l
  unfold splitL at hx
  split at hx
  ·rcases List.mem_cons.1 hx with rfl | h
   ·simp
   ·have:=ih h;simp;omega
  ·rcases List.mem_cons.1 hx with rfl | h
   ·have:(splitL c l).headD []∈splitL c l:=by rw [he];simp
    have:=ih this
    rw [List.length_cons,List.length_cons];omega
   ·have:x∈splitL c l:=by rw [he];exact List.mem_cons_of_mem _ h
    have:=ih this
    simp;omega
theorem takeWhile_len (p:UInt8→Bool) (l:List UInt8):(l.takeWhile p).length≤l.length:=(List.takeWhile_prefix p).length_le
theorem fieldsB_mem {s f:ByteArray} (h:f∈fieldsB s):f.size≤s.size:=by
 unfold fieldsB fieldsL at h
 obtain ⟨x,hx,rfl⟩:=List.mem_map.1 h
 have h1:=splitL_mem (List.mem_filter.1 hx).1
 have h2:=takeWhile_len (fun b=>b != 35) s.data.toList
 rw [bs_size,Lib.size_eq]
 simp only [Array.length_toList] at *
 omega
theorem linesB_mem {s f:ByteArray} (h:f∈(linesB s).1):f.size≤s.size∧s.size≤20000:=by
 unfold linesB at h
 split at h
 ·simp at h
 ·rename_i h0
  split at h
  ·simp at h
  ·split at h
   ·simp at h
   ·obtain ⟨x,hx,rfl⟩:=List.mem_map.1 h
    refine ⟨?_,by omega⟩
    obtain ⟨ps,cur,e⟩:=splitL_last 10 s.data.toList
    rw [linesL_of e] at hx
    have hm:x∈splitL 10 s.data.toList:=by
     rw [e]
     split at hx
     ·exact List.mem_append_left _ hx
     ·exact hx
    have:=splitL_mem hm
    rw [bs_size,Lib.size_eq]
    simpa using this
theorem linesB_len (s:ByteArray):(linesB s).1.length≤1000:=by
 unfold linesB
 split
 ·simp
 ·split
  ·simp
  ·split
   ·simp
   ·rename_i h;simp only [List.length_map];omega
def spS:ByteArray:=⟨#[32]⟩
theorem find_first {p:Nat→Bool} {n k:Nat} (hk:k<n) (hp:p k=true) (hn : ∀ j,j<k→p j=false):(List.range n).find? p=some k:=by
 rw [List.find?_range_eq_some]
 exact ⟨hp,by simpa using hk,fun j hj=>by rw [hn j hj];rfl⟩
theorem find_no {p:Nat→Bool} {n:Nat} (hn : ∀ j,j<n→p j=false):(List.range n).find? p=none:=by
 rw [List.find?_eq_none]
 intro x hx
 rw [hn x (List.mem_range.1 hx)]
 decide
end Go.Proofs.YtifconapjfdkcaaGreatDoor

/-
  No cell of these rows narrows 'for every input' (looked for: loops, veiled, ifaces, maps, wideKeys, modest, calm, conditions, laid).
  DERIVED. THE GIVEN ROWS OF THIS SEAT. 4 by the template 'for every input the law returns true; each argument reads behind the call as it read before'; 0 by the template 'total and deterministic' (their statements: YtkhedjfdjjeopaaTotals.lean).
  GIVEN WITH THE SEED: the statements are not yours to turn. If you find one false, say at which input.
  Laid BY PROGRAM, IN A SANDBOX (cutbox-rows.mjs): the forced cells as the released guide's own fill.sh prints them over the translation b85eb554f06a224f… (all of the seat's roots in one cut). By AI agents, Wed Nov 11 2026. No macro, syntax, notation, axiom, sorry.
-/
import Derived.Test.YtkhedjfdjjeopaaChecked
import GoSem.Claim
import GoSem.ClaimJoined
import GoSem.ClaimMapViews
import Derived.JoinedTies
import Derived.KernelRfl
namespace Go.Proofs.Ytkhedjfdjjeopaa
/- THE CELL 'sum', in the pinned program and in every row, IS THE sha256 OF THE DUMP (.gsa) THAT YtkhedjfdjjeopaaProg.lean LOADS. Nothing in Lean hashes anything: it is a label: what it is worth is what the hold of that sum in a sandbox is worth. -/
noncomputable def Try.pinned : Pinned := { name := "ytkhedjfdjjeopaa", sum := "b85eb554f06a224fc399f4443d7a7a8b22f4202205859f0ece75d3b4073f5620", checked := Try.checked }
namespace Rows
def none {H : Type} : Left H := { results := [], args := [] }

/-- 'pairinglaw10.CrewValid': WHATEVER THE INPUT: true; the input reads as it did. -/
def crewValidSpec : ChangeSpec := { name := "crewValid", fn := fun _ => fun
  | [d1, d2] => { results := [.lit (.bool true)], args := [d1, d2] }
  | _ => none }
def crewValidRow : OpenClaim := { program := "ytkhedjfdjjeopaa", sum := "b85eb554f06a224fc399f4443d7a7a8b22f4202205859f0ece75d3b4073f5620", func := "pairing/pairinglaw10.CrewValid", spec := "crewValid", apart := false }
def CrewValidSaid : Prop := crewValidRow.holds Try.pinned (OpenSpec.ofChange crewValidSpec)

/-- ITS FALSE NEIGHBOUR: 'it returns false'. Refute it at one input. -/
def crewValidWrong : ChangeSpec := { name := "crewValid", fn := fun _ => fun
  | [d1, d2] => { results := [.lit (.bool false)], args := [d1, d2] }
  | _ => none }
def CrewValidWrongFalsely : Prop := crewValidRow.holds Try.pinned (OpenSpec.ofChange crewValidWrong)

/-- 'pairinglaw10.CrewSpoilt': WHATEVER THE INPUT: true; the input reads as it did. -/
def crewSpoiltSpec : ChangeSpec := { name := "crewSpoilt", fn := fun _ => fun
  | [d1, d2, d3, d4, d5] => { results := [.lit (.bool true)], args := [d1, d2, d3, d4, d5] }
  | _ => none }
def crewSpoiltRow : OpenClaim := { program := "ytkhedjfdjjeopaa", sum := "b85eb554f06a224fc399f4443d7a7a8b22f4202205859f0ece75d3b4073f5620", func := "pairing/pairinglaw10.CrewSpoilt", spec := "crewSpoilt", apart := false }
def CrewSpoiltSaid : Prop := crewSpoiltRow.holds Try.pinned (OpenSpec.ofChange crewSpoiltSpec)

/-- ITS FALSE NEIGHBOUR: 'it returns false'. Refute it at one input. -/
def crewSpoiltWrong : ChangeSpec := { name := "crewSpoilt", fn := fun _ => fun
  | [d1, d2, d3, d4, d5] => { results := [.lit (.bool false)], args := [d1, d2, d3, d4, d5] }
  | _ => none }
def CrewSpoiltWrongFalsely : Prop := crewSpoiltRow.holds Try.pinned (OpenSpec.ofChange crewSpoiltWrong)

/-- 'pairinglaw10.CrewBytes': WHATEVER THE INPUT: true; the input reads as it did. -/
def crewBytesSpec : ChangeSpec := { name := "crewBytes", fn := fun _ => fun
  | [d1, d2, d3] => { results := [.lit (.bool true)], args := [d1, d2, d3] }
  | _ => none }
def crewBytesRow : OpenClaim := { program := "ytkhedjfdjjeopaa", sum := "b85eb554f06a224fc399f4443d7a7a8b22f4202205859f0ece75d3b4073f5620", func := "pairing/pairinglaw10.CrewBytes", spec := "crewBytes", apart := false }
def CrewBytesSaid : Prop := crewBytesRow.holds Try.pinned (OpenSpec.ofChange crewBytesSpec)

/-- ITS FALSE NEIGHBOUR: 'it returns false'. Refute it at one input. -/
def crewBytesWrong : ChangeSpec := { name := "crewBytes", fn := fun _ => fun
  | [d1, d2, d3] => { results := [.lit (.bool false)], args := [d1, d2, d3] }
  | _ => none }
def CrewBytesWrongFalsely : Prop := crewBytesRow.holds Try.pinned (OpenSpec.ofChange crewBytesWrong)

/-- 'pairinglaw10.CrewFree': WHATEVER THE INPUT: true; the input reads as it did. -/
def crewFreeSpec : ChangeSpec := { name := "crewFree", fn := fun _ => fun
  | [d1, d2, d3] => { results := [.lit (.bool true)], args := [d1, d2, d3] }
  | _ => none }
def crewFreeRow : OpenClaim := { program := "ytkhedjfdjjeopaa", sum := "b85eb554f06a224fc399f4443d7a7a8b22f4202205859f0ece75d3b4073f5620", func := "pairing/pairinglaw10.CrewFree", spec := "crewFree", apart := false }
def CrewFreeSaid : Prop := crewFreeRow.holds Try.pinned (OpenSpec.ofChange crewFreeSpec)

/-- ITS FALSE NEIGHBOUR: 'it returns false'. Refute it at one input. -/
def crewFreeWrong : ChangeSpec := { name := "crewFree", fn := fun _ => fun
  | [d1, d2, d3] => { results := [.lit (.bool false)], args := [d1, d2, d3] }
  | _ => none }
def CrewFreeWrongFalsely : Prop := crewFreeRow.holds Try.pinned (OpenSpec.ofChange crewFreeWrong)

/- THE SECOND FORM. 'bulk': how many values and letters a reading holds, each counted each time it is reached (what is shared counts as often as it is met; a slice's spare places count too). A statement '..UptoSaid' is the law's where the arguments, and the package variables that the reading takes, are together of bulk at most 1048576: NARROWER than '..Said'. Prove '..Said' where nothing that the law and all that it calls make is longer than what came in: it says more and counts as full. Else prove '..UptoSaid'. A law counts once. -/
mutual
def uptoBulk {H : Type} : DataW H → Nat
  | .lit (.string bytes) => bytes.length + 1
  | .lit _ => 1
  | .nil => 1
  | .ptr d => uptoBulk d + 1
  | .slice elems spare => uptoBulkAll elems + uptoBulkAll spare + 1
  | .agg parts => uptoBulkAll parts + 1
  | .iface _ d => uptoBulk d + 1
  | .map entries => uptoBulkEntries entries + 1
  | .held _ => 1
def uptoBulkAll {H : Type} : List (DataW H) → Nat
  | [] => 0
  | d :: r => uptoBulk d + uptoBulkAll r
def uptoBulkEntries {H : Type} : List (Lit × DataW H) → Nat
  | [] => 0
  | x :: r => uptoBulkEntry x + uptoBulkEntries r
def uptoBulkEntry {H : Type} : Lit × DataW H → Nat
  | (.string bytes, d) => bytes.length + uptoBulk d + 1
  | (_, d) => uptoBulk d + 1
 end
def uptoSmall : (H : Type) → List (DataW H) → Bool := fun _ ds => decide (uptoBulkAll ds ≤ 1048576)
def OpenSpec.upto (s : _root_.Go.ChangeSpec) : _root_.Go.OpenSpec := { _root_.Go.OpenSpec.ofChange s with cond := some uptoSmall }

/-- 'pairinglaw10.CrewValid', WHERE WHAT IT READS IS OF BULK AT MOST 1048576: true; the input reads as it did. -/
def crewValidUptoRow : OpenClaim := { program := "ytkhedjfdjjeopaa", sum := "b85eb554f06a224fc399f4443d7a7a8b22f4202205859f0ece75d3b4073f5620", func := "pairing/pairinglaw10.CrewValid", spec := "crewValid", apart := false, narrowed := true }
def CrewValidUptoSaid : Prop := crewValidUptoRow.holds Try.pinned (OpenSpec.upto crewValidSpec)

/-- 'pairinglaw10.CrewSpoilt', WHERE WHAT IT READS IS OF BULK AT MOST 1048576: true; the input reads as it did. -/
def crewSpoiltUptoRow : OpenClaim := { program := "ytkhedjfdjjeopaa", sum := "b85eb554f06a224fc399f4443d7a7a8b22f4202205859f0ece75d3b4073f5620", func := "pairing/pairinglaw10.CrewSpoilt", spec := "crewSpoilt", apart := false, narrowed := true }
def CrewSpoiltUptoSaid : Prop := crewSpoiltUptoRow.holds Try.pinned (OpenSpec.upto crewSpoiltSpec)

/-- 'pairinglaw10.CrewBytes', WHERE WHAT IT READS IS OF BULK AT MOST 1048576: true; the input reads as it did. -/
def crewBytesUptoRow : OpenClaim := { program := "ytkhedjfdjjeopaa", sum := "b85eb554f06a224fc399f4443d7a7a8b22f4202205859f0ece75d3b4073f5620", func := "pairing/pairinglaw10.CrewBytes", spec := "crewBytes", apart := false, narrowed := true }
def CrewBytesUptoSaid : Prop := crewBytesUptoRow.holds Try.pinned (OpenSpec.upto crewBytesSpec)

/-- 'pairinglaw10.CrewFree', WHERE WHAT IT READS IS OF BULK AT MOST 1048576: true; the input reads as it did. -/
def crewFreeUptoRow : OpenClaim := { program := "ytkhedjfdjjeopaa", sum := "b85eb554f06a224fc399f4443d7a7a8b22f4202205859f0ece75d3b4073f5620", func := "pairing/pairinglaw10.CrewFree", spec := "crewFree", apart := false, narrowed := true }
def CrewFreeUptoSaid : Prop := crewFreeUptoRow.holds Try.pinned (OpenSpec.upto crewFreeSpec)

end Rows
end Go.Proofs.Ytkhedjfdjjeopaa

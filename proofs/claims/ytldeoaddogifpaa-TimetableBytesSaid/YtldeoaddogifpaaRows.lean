/-
  No cell of these rows narrows 'for every input' (looked for: loops, veiled, ifaces, maps, wideKeys, modest, calm, conditions, laid).
  DERIVED. THE GIVEN ROWS OF THIS SEAT. 6 by the template 'for every input the law returns true; each argument reads behind the call as it read before'; 0 by the template 'total and deterministic' (their statements: YtldeoaddogifpaaTotals.lean).
  GIVEN WITH THE SEED: the statements are not yours to turn. If you find one false, say at which input.
  Laid BY PROGRAM, IN A SANDBOX (cutbox-rows.mjs): the forced cells as the released guide's own fill.sh prints them over the translation 827e5d9dec7d84ba… (all of the seat's roots in one cut). By AI agents, Wed Nov 11 2026. No macro, syntax, notation, axiom, sorry.
-/
import Derived.Test.YtldeoaddogifpaaChecked
import GoSem.Claim
import GoSem.ClaimJoined
import GoSem.ClaimMapViews
import Derived.JoinedTies
import Derived.KernelRfl
namespace Go.Proofs.Ytldeoaddogifpaa
/- THE CELL 'sum', in the pinned program and in every row, IS THE sha256 OF THE DUMP (.gsa) THAT YtldeoaddogifpaaProg.lean LOADS. Nothing in Lean hashes anything: it is a label: what it is worth is what the hold of that sum in a sandbox is worth. -/
noncomputable def Try.pinned : Pinned := { name := "ytldeoaddogifpaa", sum := "827e5d9dec7d84baa53a38b75b48495d950c32040877329430e3512c0bbdcf47", checked := Try.checked }
namespace Rows
def none {H : Type} : Left H := { results := [], args := [] }

/-- 'pairinglaw9.TimetableValid': WHATEVER THE INPUT: true; the input reads as it did. -/
def timetableValidSpec : ChangeSpec := { name := "timetableValid", fn := fun _ => fun
  | [d] => { results := [.lit (.bool true)], args := [d] }
  | _ => none }
def timetableValidRow : OpenClaim := { program := "ytldeoaddogifpaa", sum := "827e5d9dec7d84baa53a38b75b48495d950c32040877329430e3512c0bbdcf47", func := "pairing/pairinglaw9.TimetableValid", spec := "timetableValid", apart := false }
def TimetableValidSaid : Prop := timetableValidRow.holds Try.pinned (OpenSpec.ofChange timetableValidSpec)

/-- ITS FALSE NEIGHBOUR: 'it returns false'. Refute it at one input. -/
def timetableValidWrong : ChangeSpec := { name := "timetableValid", fn := fun _ => fun
  | [d] => { results := [.lit (.bool false)], args := [d] }
  | _ => none }
def TimetableValidWrongFalsely : Prop := timetableValidRow.holds Try.pinned (OpenSpec.ofChange timetableValidWrong)

/-- 'pairinglaw9.TimetableSpoilt': WHATEVER THE INPUT: true; the input reads as it did. -/
def timetableSpoiltSpec : ChangeSpec := { name := "timetableSpoilt", fn := fun _ => fun
  | [d1, d2, d3, d4, d5] => { results := [.lit (.bool true)], args := [d1, d2, d3, d4, d5] }
  | _ => none }
def timetableSpoiltRow : OpenClaim := { program := "ytldeoaddogifpaa", sum := "827e5d9dec7d84baa53a38b75b48495d950c32040877329430e3512c0bbdcf47", func := "pairing/pairinglaw9.TimetableSpoilt", spec := "timetableSpoilt", apart := false }
def TimetableSpoiltSaid : Prop := timetableSpoiltRow.holds Try.pinned (OpenSpec.ofChange timetableSpoiltSpec)

/-- ITS FALSE NEIGHBOUR: 'it returns false'. Refute it at one input. -/
def timetableSpoiltWrong : ChangeSpec := { name := "timetableSpoilt", fn := fun _ => fun
  | [d1, d2, d3, d4, d5] => { results := [.lit (.bool false)], args := [d1, d2, d3, d4, d5] }
  | _ => none }
def TimetableSpoiltWrongFalsely : Prop := timetableSpoiltRow.holds Try.pinned (OpenSpec.ofChange timetableSpoiltWrong)

/-- 'pairinglaw9.TimetableBytes': WHATEVER THE INPUT: true; the input reads as it did. -/
def timetableBytesSpec : ChangeSpec := { name := "timetableBytes", fn := fun _ => fun
  | [d1, d2] => { results := [.lit (.bool true)], args := [d1, d2] }
  | _ => none }
def timetableBytesRow : OpenClaim := { program := "ytldeoaddogifpaa", sum := "827e5d9dec7d84baa53a38b75b48495d950c32040877329430e3512c0bbdcf47", func := "pairing/pairinglaw9.TimetableBytes", spec := "timetableBytes", apart := false }
def TimetableBytesSaid : Prop := timetableBytesRow.holds Try.pinned (OpenSpec.ofChange timetableBytesSpec)

/-- ITS FALSE NEIGHBOUR: 'it returns false'. Refute it at one input. -/
def timetableBytesWrong : ChangeSpec := { name := "timetableBytes", fn := fun _ => fun
  | [d1, d2] => { results := [.lit (.bool false)], args := [d1, d2] }
  | _ => none }
def TimetableBytesWrongFalsely : Prop := timetableBytesRow.holds Try.pinned (OpenSpec.ofChange timetableBytesWrong)

/-- 'pairinglaw9.TimetableTorn': WHATEVER THE INPUT: true; the input reads as it did. -/
def timetableTornSpec : ChangeSpec := { name := "timetableTorn", fn := fun _ => fun
  | [d1, d2, d3] => { results := [.lit (.bool true)], args := [d1, d2, d3] }
  | _ => none }
def timetableTornRow : OpenClaim := { program := "ytldeoaddogifpaa", sum := "827e5d9dec7d84baa53a38b75b48495d950c32040877329430e3512c0bbdcf47", func := "pairing/pairinglaw9.TimetableTorn", spec := "timetableTorn", apart := false }
def TimetableTornSaid : Prop := timetableTornRow.holds Try.pinned (OpenSpec.ofChange timetableTornSpec)

/-- ITS FALSE NEIGHBOUR: 'it returns false'. Refute it at one input. -/
def timetableTornWrong : ChangeSpec := { name := "timetableTorn", fn := fun _ => fun
  | [d1, d2, d3] => { results := [.lit (.bool false)], args := [d1, d2, d3] }
  | _ => none }
def TimetableTornWrongFalsely : Prop := timetableTornRow.holds Try.pinned (OpenSpec.ofChange timetableTornWrong)

/-- 'pairinglaw9.TimetableFinds': WHATEVER THE INPUT: true; the input reads as it did. -/
def timetableFindsSpec : ChangeSpec := { name := "timetableFinds", fn := fun _ => fun
  | [d] => { results := [.lit (.bool true)], args := [d] }
  | _ => none }
def timetableFindsRow : OpenClaim := { program := "ytldeoaddogifpaa", sum := "827e5d9dec7d84baa53a38b75b48495d950c32040877329430e3512c0bbdcf47", func := "pairing/pairinglaw9.TimetableFinds", spec := "timetableFinds", unfollowed := true, recurses := true, apart := false }
def TimetableFindsSaid : Prop := timetableFindsRow.holds Try.pinned (OpenSpec.ofChange timetableFindsSpec)

/-- ITS FALSE NEIGHBOUR: 'it returns false'. Refute it at one input. -/
def timetableFindsWrong : ChangeSpec := { name := "timetableFinds", fn := fun _ => fun
  | [d] => { results := [.lit (.bool false)], args := [d] }
  | _ => none }
def TimetableFindsWrongFalsely : Prop := timetableFindsRow.holds Try.pinned (OpenSpec.ofChange timetableFindsWrong)

/-- 'pairinglaw9.TimetableLookups': WHATEVER THE INPUT: true; the input reads as it did. -/
def timetableLookupsSpec : ChangeSpec := { name := "timetableLookups", fn := fun _ => fun
  | [d1, d2, d3, d4, d5] => { results := [.lit (.bool true)], args := [d1, d2, d3, d4, d5] }
  | _ => none }
def timetableLookupsRow : OpenClaim := { program := "ytldeoaddogifpaa", sum := "827e5d9dec7d84baa53a38b75b48495d950c32040877329430e3512c0bbdcf47", func := "pairing/pairinglaw9.TimetableLookups", spec := "timetableLookups", unfollowed := true, recurses := true, apart := false }
def TimetableLookupsSaid : Prop := timetableLookupsRow.holds Try.pinned (OpenSpec.ofChange timetableLookupsSpec)

/-- ITS FALSE NEIGHBOUR: 'it returns false'. Refute it at one input. -/
def timetableLookupsWrong : ChangeSpec := { name := "timetableLookups", fn := fun _ => fun
  | [d1, d2, d3, d4, d5] => { results := [.lit (.bool false)], args := [d1, d2, d3, d4, d5] }
  | _ => none }
def TimetableLookupsWrongFalsely : Prop := timetableLookupsRow.holds Try.pinned (OpenSpec.ofChange timetableLookupsWrong)

/- THE SECOND FORM. 'bulk': how many values and letters a reading holds, each counted each time it is reached (what is shared counts as often as it is met; a slice's spare places count too). A statement '..UptoSaid' is the law's where the arguments, and the package variables that the reading takes, are together of bulk at most 1048576: NARROWER than '..Said'. Prove '..Said' where nothing that the law and all that it calls make is longer than what came in: it says more and counts as full. Else prove '..UptoSaid'. A law counts once. -/
mutual
def uptoBulk {H : Type} : DataW H → Nat
  | .lit (.string bytes) => bytes.length + 1
  | .lit _ => 1
  | .nil => 1
  | .ptr d => uptoBulk d + 1
  | .slice elems spare => uptoBulkAll elems + uptoBulkAll spare + 1
  | .agg parts => uptoBulkAll parts + 1
  | .iface _ d => uptoBulk d + 1
  | .map entries => uptoBulkEntries entries + 1
  | .held _ => 1
def uptoBulkAll {H : Type} : List (DataW H) → Nat
  | [] => 0
  | d :: r => uptoBulk d + uptoBulkAll r
def uptoBulkEntries {H : Type} : List (Lit × DataW H) → Nat
  | [] => 0
  | x :: r => uptoBulkEntry x + uptoBulkEntries r
def uptoBulkEntry {H : Type} : Lit × DataW H → Nat
  | (.string bytes, d) => bytes.length + uptoBulk d + 1
  | (_, d) => uptoBulk d + 1
 end
def uptoSmall : (H : Type) → List (DataW H) → Bool := fun _ ds => decide (uptoBulkAll ds ≤ 1048576)
def OpenSpec.upto (s : _root_.Go.ChangeSpec) : _root_.Go.OpenSpec := { _root_.Go.OpenSpec.ofChange s with cond := some uptoSmall }

/-- 'pairinglaw9.TimetableValid', WHERE WHAT IT READS IS OF BULK AT MOST 1048576: true; the input reads as it did. -/
def timetableValidUptoRow : OpenClaim := { program := "ytldeoaddogifpaa", sum := "827e5d9dec7d84baa53a38b75b48495d950c32040877329430e3512c0bbdcf47", func := "pairing/pairinglaw9.TimetableValid", spec := "timetableValid", apart := false, narrowed := true }
def TimetableValidUptoSaid : Prop := timetableValidUptoRow.holds Try.pinned (OpenSpec.upto timetableValidSpec)

/-- 'pairinglaw9.TimetableSpoilt', WHERE WHAT IT READS IS OF BULK AT MOST 1048576: true; the input reads as it did. -/
def timetableSpoiltUptoRow : OpenClaim := { program := "ytldeoaddogifpaa", sum := "827e5d9dec7d84baa53a38b75b48495d950c32040877329430e3512c0bbdcf47", func := "pairing/pairinglaw9.TimetableSpoilt", spec := "timetableSpoilt", apart := false, narrowed := true }
def TimetableSpoiltUptoSaid : Prop := timetableSpoiltUptoRow.holds Try.pinned (OpenSpec.upto timetableSpoiltSpec)

/-- 'pairinglaw9.TimetableBytes', WHERE WHAT IT READS IS OF BULK AT MOST 1048576: true; the input reads as it did. -/
def timetableBytesUptoRow : OpenClaim := { program := "ytldeoaddogifpaa", sum := "827e5d9dec7d84baa53a38b75b48495d950c32040877329430e3512c0bbdcf47", func := "pairing/pairinglaw9.TimetableBytes", spec := "timetableBytes", apart := false, narrowed := true }
def TimetableBytesUptoSaid : Prop := timetableBytesUptoRow.holds Try.pinned (OpenSpec.upto timetableBytesSpec)

/-- 'pairinglaw9.TimetableTorn', WHERE WHAT IT READS IS OF BULK AT MOST 1048576: true; the input reads as it did. -/
def timetableTornUptoRow : OpenClaim := { program := "ytldeoaddogifpaa", sum := "827e5d9dec7d84baa53a38b75b48495d950c32040877329430e3512c0bbdcf47", func := "pairing/pairinglaw9.TimetableTorn", spec := "timetableTorn", apart := false, narrowed := true }
def TimetableTornUptoSaid : Prop := timetableTornUptoRow.holds Try.pinned (OpenSpec.upto timetableTornSpec)

/-- 'pairinglaw9.TimetableFinds', WHERE WHAT IT READS IS OF BULK AT MOST 1048576: true; the input reads as it did. -/
def timetableFindsUptoRow : OpenClaim := { program := "ytldeoaddogifpaa", sum := "827e5d9dec7d84baa53a38b75b48495d950c32040877329430e3512c0bbdcf47", func := "pairing/pairinglaw9.TimetableFinds", spec := "timetableFinds", unfollowed := true, recurses := true, apart := false, narrowed := true }
def TimetableFindsUptoSaid : Prop := timetableFindsUptoRow.holds Try.pinned (OpenSpec.upto timetableFindsSpec)

/-- 'pairinglaw9.TimetableLookups', WHERE WHAT IT READS IS OF BULK AT MOST 1048576: true; the input reads as it did. -/
def timetableLookupsUptoRow : OpenClaim := { program := "ytldeoaddogifpaa", sum := "827e5d9dec7d84baa53a38b75b48495d950c32040877329430e3512c0bbdcf47", func := "pairing/pairinglaw9.TimetableLookups", spec := "timetableLookups", unfollowed := true, recurses := true, apart := false, narrowed := true }
def TimetableLookupsUptoSaid : Prop := timetableLookupsUptoRow.holds Try.pinned (OpenSpec.upto timetableLookupsSpec)

end Rows
end Go.Proofs.Ytldeoaddogifpaa

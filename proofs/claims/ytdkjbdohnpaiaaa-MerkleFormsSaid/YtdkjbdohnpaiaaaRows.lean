/-
  No cell of these rows narrows 'for every input' (looked for: loops, veiled, ifaces, maps, wideKeys, modest, calm, conditions, laid).
  DERIVED. THE GIVEN ROWS OF THIS SEAT. 8 by the template 'for every input the law returns true; each argument reads behind the call as it read before'; 0 by the template 'total and deterministic' (their statements: YtdkjbdohnpaiaaaTotals.lean).
  GIVEN WITH THE SEED: the statements are not yours to turn. If you find one false, say at which input.
  Laid BY PROGRAM, IN A SANDBOX (cutbox-rows.mjs): the forced cells as the released guide's own fill.sh prints them over the translation 2148f791177c2ec4… (all of the seat's roots in one cut). By AI agents, Wed Nov 11 2026. No macro, syntax, notation, axiom, sorry.
-/
import Derived.Test.YtdkjbdohnpaiaaaChecked
import GoSem.Claim
import GoSem.ClaimJoined
import GoSem.ClaimMapViews
import Derived.JoinedTies
import Derived.KernelRfl
namespace Go.Proofs.Ytdkjbdohnpaiaaa
/- THE CELL 'sum', in the pinned program and in every row, IS THE sha256 OF THE DUMP (.gsa) THAT YtdkjbdohnpaiaaaProg.lean LOADS. Nothing in Lean hashes anything: it is a label: what it is worth is what the hold of that sum in a sandbox is worth. -/
noncomputable def Try.pinned : Pinned := { name := "ytdkjbdohnpaiaaa", sum := "2148f791177c2ec41cb7e6e1a880c99e1d79782f4310fdc9a16b0c718ac96043", checked := Try.checked }
namespace Rows
def none {H : Type} : Left H := { results := [], args := [] }

/-- 'wageofficelaw24.MerkleMatchesReference': WHATEVER THE INPUT: true; the input reads as it did. -/
def merkleMatchesReferenceSpec : ChangeSpec := { name := "merkleMatchesReference", fn := fun _ => fun
  | [d1, d2, d3, d4, d5, d6, d7, d8] => { results := [.lit (.bool true)], args := [d1, d2, d3, d4, d5, d6, d7, d8] }
  | _ => none }
def merkleMatchesReferenceRow : OpenClaim := { program := "ytdkjbdohnpaiaaa", sum := "2148f791177c2ec41cb7e6e1a880c99e1d79782f4310fdc9a16b0c718ac96043", func := "wageoffice/wageofficelaw24.MerkleMatchesReference", spec := "merkleMatchesReference", unfollowed := true, recurses := true, apart := false }
def MerkleMatchesReferenceSaid : Prop := merkleMatchesReferenceRow.holds Try.pinned (OpenSpec.ofChange merkleMatchesReferenceSpec)

/-- ITS FALSE NEIGHBOUR: 'it returns false'. Refute it at one input. -/
def merkleMatchesReferenceWrong : ChangeSpec := { name := "merkleMatchesReference", fn := fun _ => fun
  | [d1, d2, d3, d4, d5, d6, d7, d8] => { results := [.lit (.bool false)], args := [d1, d2, d3, d4, d5, d6, d7, d8] }
  | _ => none }
def MerkleMatchesReferenceWrongFalsely : Prop := merkleMatchesReferenceRow.holds Try.pinned (OpenSpec.ofChange merkleMatchesReferenceWrong)

/-- 'wageofficelaw24.MerkleLimits': WHATEVER THE INPUT: true; the input reads as it did. -/
def merkleLimitsSpec : ChangeSpec := { name := "merkleLimits", fn := fun _ => fun
  | [d1, d2] => { results := [.lit (.bool true)], args := [d1, d2] }
  | _ => none }
def merkleLimitsRow : OpenClaim := { program := "ytdkjbdohnpaiaaa", sum := "2148f791177c2ec41cb7e6e1a880c99e1d79782f4310fdc9a16b0c718ac96043", func := "wageoffice/wageofficelaw24.MerkleLimits", spec := "merkleLimits", unfollowed := true, recurses := true, apart := false }
def MerkleLimitsSaid : Prop := merkleLimitsRow.holds Try.pinned (OpenSpec.ofChange merkleLimitsSpec)

/-- ITS FALSE NEIGHBOUR: 'it returns false'. Refute it at one input. -/
def merkleLimitsWrong : ChangeSpec := { name := "merkleLimits", fn := fun _ => fun
  | [d1, d2] => { results := [.lit (.bool false)], args := [d1, d2] }
  | _ => none }
def MerkleLimitsWrongFalsely : Prop := merkleLimitsRow.holds Try.pinned (OpenSpec.ofChange merkleLimitsWrong)

/-- 'wageofficelaw24.MerklePaths': WHATEVER THE INPUT: true; the input reads as it did. -/
def merklePathsSpec : ChangeSpec := { name := "merklePaths", fn := fun _ => fun
  | [d1, d2] => { results := [.lit (.bool true)], args := [d1, d2] }
  | _ => none }
def merklePathsRow : OpenClaim := { program := "ytdkjbdohnpaiaaa", sum := "2148f791177c2ec41cb7e6e1a880c99e1d79782f4310fdc9a16b0c718ac96043", func := "wageoffice/wageofficelaw24.MerklePaths", spec := "merklePaths", unfollowed := true, recurses := true, apart := false }
def MerklePathsSaid : Prop := merklePathsRow.holds Try.pinned (OpenSpec.ofChange merklePathsSpec)

/-- ITS FALSE NEIGHBOUR: 'it returns false'. Refute it at one input. -/
def merklePathsWrong : ChangeSpec := { name := "merklePaths", fn := fun _ => fun
  | [d1, d2] => { results := [.lit (.bool false)], args := [d1, d2] }
  | _ => none }
def MerklePathsWrongFalsely : Prop := merklePathsRow.holds Try.pinned (OpenSpec.ofChange merklePathsWrong)

/-- 'wageofficelaw24.MerkleForms': WHATEVER THE INPUT: true; the input reads as it did. -/
def merkleFormsSpec : ChangeSpec := { name := "merkleForms", fn := fun _ => fun
  | [d1, d2, d3, d4] => { results := [.lit (.bool true)], args := [d1, d2, d3, d4] }
  | _ => none }
def merkleFormsRow : OpenClaim := { program := "ytdkjbdohnpaiaaa", sum := "2148f791177c2ec41cb7e6e1a880c99e1d79782f4310fdc9a16b0c718ac96043", func := "wageoffice/wageofficelaw24.MerkleForms", spec := "merkleForms", unfollowed := true, recurses := true, apart := false }
def MerkleFormsSaid : Prop := merkleFormsRow.holds Try.pinned (OpenSpec.ofChange merkleFormsSpec)

/-- ITS FALSE NEIGHBOUR: 'it returns false'. Refute it at one input. -/
def merkleFormsWrong : ChangeSpec := { name := "merkleForms", fn := fun _ => fun
  | [d1, d2, d3, d4] => { results := [.lit (.bool false)], args := [d1, d2, d3, d4] }
  | _ => none }
def MerkleFormsWrongFalsely : Prop := merkleFormsRow.holds Try.pinned (OpenSpec.ofChange merkleFormsWrong)

/-- 'wageofficelaw24.MerkleBinding': WHATEVER THE INPUT: true; the input reads as it did. -/
def merkleBindingSpec : ChangeSpec := { name := "merkleBinding", fn := fun _ => fun
  | [d1, d2, d3, d4, d5, d6, d7] => { results := [.lit (.bool true)], args := [d1, d2, d3, d4, d5, d6, d7] }
  | _ => none }
def merkleBindingRow : OpenClaim := { program := "ytdkjbdohnpaiaaa", sum := "2148f791177c2ec41cb7e6e1a880c99e1d79782f4310fdc9a16b0c718ac96043", func := "wageoffice/wageofficelaw24.MerkleBinding", spec := "merkleBinding", unfollowed := true, recurses := true, apart := false }
def MerkleBindingSaid : Prop := merkleBindingRow.holds Try.pinned (OpenSpec.ofChange merkleBindingSpec)

/-- ITS FALSE NEIGHBOUR: 'it returns false'. Refute it at one input. -/
def merkleBindingWrong : ChangeSpec := { name := "merkleBinding", fn := fun _ => fun
  | [d1, d2, d3, d4, d5, d6, d7] => { results := [.lit (.bool false)], args := [d1, d2, d3, d4, d5, d6, d7] }
  | _ => none }
def MerkleBindingWrongFalsely : Prop := merkleBindingRow.holds Try.pinned (OpenSpec.ofChange merkleBindingWrong)

/-- 'wageofficelaw24.MerkleHalves': WHATEVER THE INPUT: true; the input reads as it did. -/
def merkleHalvesSpec : ChangeSpec := { name := "merkleHalves", fn := fun _ => fun
  | [d1, d2] => { results := [.lit (.bool true)], args := [d1, d2] }
  | _ => none }
def merkleHalvesRow : OpenClaim := { program := "ytdkjbdohnpaiaaa", sum := "2148f791177c2ec41cb7e6e1a880c99e1d79782f4310fdc9a16b0c718ac96043", func := "wageoffice/wageofficelaw24.MerkleHalves", spec := "merkleHalves", unfollowed := true, recurses := true, apart := false }
def MerkleHalvesSaid : Prop := merkleHalvesRow.holds Try.pinned (OpenSpec.ofChange merkleHalvesSpec)

/-- ITS FALSE NEIGHBOUR: 'it returns false'. Refute it at one input. -/
def merkleHalvesWrong : ChangeSpec := { name := "merkleHalves", fn := fun _ => fun
  | [d1, d2] => { results := [.lit (.bool false)], args := [d1, d2] }
  | _ => none }
def MerkleHalvesWrongFalsely : Prop := merkleHalvesRow.holds Try.pinned (OpenSpec.ofChange merkleHalvesWrong)

/-- 'wageofficelaw24.MerkleChange': WHATEVER THE INPUT: true; the input reads as it did. -/
def merkleChangeSpec : ChangeSpec := { name := "merkleChange", fn := fun _ => fun
  | [d1, d2, d3] => { results := [.lit (.bool true)], args := [d1, d2, d3] }
  | _ => none }
def merkleChangeRow : OpenClaim := { program := "ytdkjbdohnpaiaaa", sum := "2148f791177c2ec41cb7e6e1a880c99e1d79782f4310fdc9a16b0c718ac96043", func := "wageoffice/wageofficelaw24.MerkleChange", spec := "merkleChange", unfollowed := true, recurses := true, apart := false }
def MerkleChangeSaid : Prop := merkleChangeRow.holds Try.pinned (OpenSpec.ofChange merkleChangeSpec)

/-- ITS FALSE NEIGHBOUR: 'it returns false'. Refute it at one input. -/
def merkleChangeWrong : ChangeSpec := { name := "merkleChange", fn := fun _ => fun
  | [d1, d2, d3] => { results := [.lit (.bool false)], args := [d1, d2, d3] }
  | _ => none }
def MerkleChangeWrongFalsely : Prop := merkleChangeRow.holds Try.pinned (OpenSpec.ofChange merkleChangeWrong)

/-- 'wageofficelaw24.MerkleLengths': WHATEVER THE INPUT: true; the input reads as it did. -/
def merkleLengthsSpec : ChangeSpec := { name := "merkleLengths", fn := fun _ => fun
  | [d1, d2] => { results := [.lit (.bool true)], args := [d1, d2] }
  | _ => none }
def merkleLengthsRow : OpenClaim := { program := "ytdkjbdohnpaiaaa", sum := "2148f791177c2ec41cb7e6e1a880c99e1d79782f4310fdc9a16b0c718ac96043", func := "wageoffice/wageofficelaw24.MerkleLengths", spec := "merkleLengths", unfollowed := true, recurses := true, apart := false }
def MerkleLengthsSaid : Prop := merkleLengthsRow.holds Try.pinned (OpenSpec.ofChange merkleLengthsSpec)

/-- ITS FALSE NEIGHBOUR: 'it returns false'. Refute it at one input. -/
def merkleLengthsWrong : ChangeSpec := { name := "merkleLengths", fn := fun _ => fun
  | [d1, d2] => { results := [.lit (.bool false)], args := [d1, d2] }
  | _ => none }
def MerkleLengthsWrongFalsely : Prop := merkleLengthsRow.holds Try.pinned (OpenSpec.ofChange merkleLengthsWrong)

/- THE SECOND FORM. 'bulk': how many values and letters a reading holds, each counted each time it is reached (what is shared counts as often as it is met; a slice's spare places count too). A statement '..UptoSaid' is the law's where the arguments, and the package variables that the reading takes, are together of bulk at most 1048576: NARROWER than '..Said'. Prove '..Said' where nothing that the law and all that it calls make is longer than what came in: it says more and counts as full. Else prove '..UptoSaid'. A law counts once. -/
mutual
def uptoBulk {H : Type} : DataW H → Nat
  | .lit (.string bytes) => bytes.length + 1
  | .lit _ => 1
  | .nil => 1
  | .ptr d => uptoBulk d + 1
  | .slice elems spare => uptoBulkAll elems + uptoBulkAll spare + 1
  | .agg parts => uptoBulkAll parts + 1
  | .iface _ d => uptoBulk d + 1
  | .map entries => uptoBulkEntries entries + 1
  | .held _ => 1
def uptoBulkAll {H : Type} : List (DataW H) → Nat
  | [] => 0
  | d :: r => uptoBulk d + uptoBulkAll r
def uptoBulkEntries {H : Type} : List (Lit × DataW H) → Nat
  | [] => 0
  | x :: r => uptoBulkEntry x + uptoBulkEntries r
def uptoBulkEntry {H : Type} : Lit × DataW H → Nat
  | (.string bytes, d) => bytes.length + uptoBulk d + 1
  | (_, d) => uptoBulk d + 1
 end
def uptoSmall : (H : Type) → List (DataW H) → Bool := fun _ ds => decide (uptoBulkAll ds ≤ 1048576)
def OpenSpec.upto (s : _root_.Go.ChangeSpec) : _root_.Go.OpenSpec := { _root_.Go.OpenSpec.ofChange s with cond := some uptoSmall }

/-- 'wageofficelaw24.MerkleMatchesReference', WHERE WHAT IT READS IS OF BULK AT MOST 1048576: true; the input reads as it did. -/
def merkleMatchesReferenceUptoRow : OpenClaim := { program := "ytdkjbdohnpaiaaa", sum := "2148f791177c2ec41cb7e6e1a880c99e1d79782f4310fdc9a16b0c718ac96043", func := "wageoffice/wageofficelaw24.MerkleMatchesReference", spec := "merkleMatchesReference", unfollowed := true, recurses := true, apart := false, narrowed := true }
def MerkleMatchesReferenceUptoSaid : Prop := merkleMatchesReferenceUptoRow.holds Try.pinned (OpenSpec.upto merkleMatchesReferenceSpec)

/-- 'wageofficelaw24.MerkleLimits', WHERE WHAT IT READS IS OF BULK AT MOST 1048576: true; the input reads as it did. -/
def merkleLimitsUptoRow : OpenClaim := { program := "ytdkjbdohnpaiaaa", sum := "2148f791177c2ec41cb7e6e1a880c99e1d79782f4310fdc9a16b0c718ac96043", func := "wageoffice/wageofficelaw24.MerkleLimits", spec := "merkleLimits", unfollowed := true, recurses := true, apart := false, narrowed := true }
def MerkleLimitsUptoSaid : Prop := merkleLimitsUptoRow.holds Try.pinned (OpenSpec.upto merkleLimitsSpec)

/-- 'wageofficelaw24.MerklePaths', WHERE WHAT IT READS IS OF BULK AT MOST 1048576: true; the input reads as it did. -/
def merklePathsUptoRow : OpenClaim := { program := "ytdkjbdohnpaiaaa", sum := "2148f791177c2ec41cb7e6e1a880c99e1d79782f4310fdc9a16b0c718ac96043", func := "wageoffice/wageofficelaw24.MerklePaths", spec := "merklePaths", unfollowed := true, recurses := true, apart := false, narrowed := true }
def MerklePathsUptoSaid : Prop := merklePathsUptoRow.holds Try.pinned (OpenSpec.upto merklePathsSpec)

/-- 'wageofficelaw24.MerkleForms', WHERE WHAT IT READS IS OF BULK AT MOST 1048576: true; the input reads as it did. -/
def merkleFormsUptoRow : OpenClaim := { program := "ytdkjbdohnpaiaaa", sum := "2148f791177c2ec41cb7e6e1a880c99e1d79782f4310fdc9a16b0c718ac96043", func := "wageoffice/wageofficelaw24.MerkleForms", spec := "merkleForms", unfollowed := true, recurses := true, apart := false, narrowed := true }
def MerkleFormsUptoSaid : Prop := merkleFormsUptoRow.holds Try.pinned (OpenSpec.upto merkleFormsSpec)

/-- 'wageofficelaw24.MerkleBinding', WHERE WHAT IT READS IS OF BULK AT MOST 1048576: true; the input reads as it did. -/
def merkleBindingUptoRow : OpenClaim := { program := "ytdkjbdohnpaiaaa", sum := "2148f791177c2ec41cb7e6e1a880c99e1d79782f4310fdc9a16b0c718ac96043", func := "wageoffice/wageofficelaw24.MerkleBinding", spec := "merkleBinding", unfollowed := true, recurses := true, apart := false, narrowed := true }
def MerkleBindingUptoSaid : Prop := merkleBindingUptoRow.holds Try.pinned (OpenSpec.upto merkleBindingSpec)

/-- 'wageofficelaw24.MerkleHalves', WHERE WHAT IT READS IS OF BULK AT MOST 1048576: true; the input reads as it did. -/
def merkleHalvesUptoRow : OpenClaim := { program := "ytdkjbdohnpaiaaa", sum := "2148f791177c2ec41cb7e6e1a880c99e1d79782f4310fdc9a16b0c718ac96043", func := "wageoffice/wageofficelaw24.MerkleHalves", spec := "merkleHalves", unfollowed := true, recurses := true, apart := false, narrowed := true }
def MerkleHalvesUptoSaid : Prop := merkleHalvesUptoRow.holds Try.pinned (OpenSpec.upto merkleHalvesSpec)

/-- 'wageofficelaw24.MerkleChange', WHERE WHAT IT READS IS OF BULK AT MOST 1048576: true; the input reads as it did. -/
def merkleChangeUptoRow : OpenClaim := { program := "ytdkjbdohnpaiaaa", sum := "2148f791177c2ec41cb7e6e1a880c99e1d79782f4310fdc9a16b0c718ac96043", func := "wageoffice/wageofficelaw24.MerkleChange", spec := "merkleChange", unfollowed := true, recurses := true, apart := false, narrowed := true }
def MerkleChangeUptoSaid : Prop := merkleChangeUptoRow.holds Try.pinned (OpenSpec.upto merkleChangeSpec)

/-- 'wageofficelaw24.MerkleLengths', WHERE WHAT IT READS IS OF BULK AT MOST 1048576: true; the input reads as it did. -/
def merkleLengthsUptoRow : OpenClaim := { program := "ytdkjbdohnpaiaaa", sum := "2148f791177c2ec41cb7e6e1a880c99e1d79782f4310fdc9a16b0c718ac96043", func := "wageoffice/wageofficelaw24.MerkleLengths", spec := "merkleLengths", unfollowed := true, recurses := true, apart := false, narrowed := true }
def MerkleLengthsUptoSaid : Prop := merkleLengthsUptoRow.holds Try.pinned (OpenSpec.upto merkleLengthsSpec)

end Rows
end Go.Proofs.Ytdkjbdohnpaiaaa

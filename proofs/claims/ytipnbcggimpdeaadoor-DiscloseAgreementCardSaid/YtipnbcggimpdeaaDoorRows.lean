/-
  NARROWER THAN 'FOR EVERY INPUT', by the rows' own cells (each row's printed sentence says how): DiscloseExtremes: laid · DiscloseAgreement: laid · DiscloseTexts: laid · DiscloseHidden: laid · DiscloseShown: laid · DiscloseSigned: laid.
  DERIVED. THE GIVEN ROWS OF THIS SEAT. 6 by the template 'for every input the law returns true; each argument reads behind the call as it read before'; 0 by the template 'total and deterministic' (their statements: YtipnbcggimpdeaaDoorTotals.lean).
  GIVEN WITH THE SEED: the statements are not yours to turn. If you find one false, say at which input.
  Laid BY PROGRAM, IN A SANDBOX (cutbox-rows.mjs): the forced cells as the released guide's own fill.sh prints them over the translation 4ff8109966eba291… (all of the seat's roots in one cut). By AI agents, Wed Nov 11 2026. No macro, syntax, notation, axiom, sorry.
-/
import Derived.Test.YtipnbcggimpdeaaDoorChecked
import GoSem.Claim
import GoSem.ClaimJoined
import GoSem.ClaimMapViews
import Derived.JoinedTies
import Derived.KernelRfl
namespace Go.Proofs.YtipnbcggimpdeaaDoor
/- THE CELL 'sum', in the pinned program and in every row, IS THE sha256 OF THE DUMP (.gsa) THAT YtipnbcggimpdeaaDoorProg.lean LOADS. Nothing in Lean hashes anything: it is a label: what it is worth is what the hold of that sum in a sandbox is worth. -/
noncomputable def Tryd.pinned : Pinned := { name := "ytipnbcggimpdeaadoor", sum := "4ff8109966eba2919193e80f408c0bdd8322e20aa84d56c5d4222e7dc91f0707", checked := Tryd.checked }
namespace Rows
def none {H : Type} : Left H := { results := [], args := [] }

/- WHAT THE LISTED PACKAGE-LEVEL VARIABLES READ AS WHEN THE CALL BEGINS. Each datum BY PROGRAM (the guide's laid-datum.mjs) off the statement by which the dump's own 'gosem.cut.vars' lays the variable. In a bare row this is a premise. The card (YtipnbcggimpdeaaDoorCards.lean) ties it to the program's text. -/
def laid_math_bits_deBruijn32tab {H : Type} : DataW H := .agg [.lit (.int .u8 0), .lit (.int .u8 1), .lit (.int .u8 28), .lit (.int .u8 2), .lit (.int .u8 29), .lit (.int .u8 14), .lit (.int .u8 24), .lit (.int .u8 3), .lit (.int .u8 30), .lit (.int .u8 22), .lit (.int .u8 20), .lit (.int .u8 15), .lit (.int .u8 25), .lit (.int .u8 17), .lit (.int .u8 4), .lit (.int .u8 8), .lit (.int .u8 31), .lit (.int .u8 27), .lit (.int .u8 13), .lit (.int .u8 23), .lit (.int .u8 21), .lit (.int .u8 19), .lit (.int .u8 16), .lit (.int .u8 7), .lit (.int .u8 26), .lit (.int .u8 12), .lit (.int .u8 18), .lit (.int .u8 6), .lit (.int .u8 11), .lit (.int .u8 5), .lit (.int .u8 10), .lit (.int .u8 9)]
def laid_math_bits_deBruijn64tab {H : Type} : DataW H := .agg [.lit (.int .u8 0), .lit (.int .u8 1), .lit (.int .u8 56), .lit (.int .u8 2), .lit (.int .u8 57), .lit (.int .u8 49), .lit (.int .u8 28), .lit (.int .u8 3), .lit (.int .u8 61), .lit (.int .u8 58), .lit (.int .u8 42), .lit (.int .u8 50), .lit (.int .u8 38), .lit (.int .u8 29), .lit (.int .u8 17), .lit (.int .u8 4), .lit (.int .u8 62), .lit (.int .u8 47), .lit (.int .u8 59), .lit (.int .u8 36), .lit (.int .u8 45), .lit (.int .u8 43), .lit (.int .u8 51), .lit (.int .u8 22), .lit (.int .u8 53), .lit (.int .u8 39), .lit (.int .u8 33), .lit (.int .u8 30), .lit (.int .u8 24), .lit (.int .u8 18), .lit (.int .u8 12), .lit (.int .u8 5), .lit (.int .u8 63), .lit (.int .u8 55), .lit (.int .u8 48), .lit (.int .u8 27), .lit (.int .u8 60), .lit (.int .u8 41), .lit (.int .u8 37), .lit (.int .u8 16), .lit (.int .u8 46), .lit (.int .u8 35), .lit (.int .u8 44), .lit (.int .u8 21), .lit (.int .u8 52), .lit (.int .u8 32), .lit (.int .u8 23), .lit (.int .u8 11), .lit (.int .u8 54), .lit (.int .u8 26), .lit (.int .u8 40), .lit (.int .u8 15), .lit (.int .u8 34), .lit (.int .u8 20), .lit (.int .u8 31), .lit (.int .u8 10), .lit (.int .u8 25), .lit (.int .u8 14), .lit (.int .u8 19), .lit (.int .u8 9), .lit (.int .u8 13), .lit (.int .u8 8), .lit (.int .u8 7), .lit (.int .u8 6)]
def laid_internal_strconv_uint64pow10 {H : Type} : DataW H := .agg [.lit (.int .u64 1), .lit (.int .u64 10), .lit (.int .u64 100), .lit (.int .u64 1000), .lit (.int .u64 10000), .lit (.int .u64 100000), .lit (.int .u64 1000000), .lit (.int .u64 10000000), .lit (.int .u64 100000000), .lit (.int .u64 1000000000), .lit (.int .u64 10000000000), .lit (.int .u64 100000000000), .lit (.int .u64 1000000000000), .lit (.int .u64 10000000000000), .lit (.int .u64 100000000000000), .lit (.int .u64 1000000000000000), .lit (.int .u64 10000000000000000), .lit (.int .u64 100000000000000000), .lit (.int .u64 1000000000000000000), .lit (.int .u64 10000000000000000000)]
def laid_wageoffice_commitment_generators {H : Type} : DataW H := .agg [.lit (.int .i64 4), .lit (.int .i64 9)]
def laid_wageoffice_digest_digits {H : Type} : DataW H := .agg [.lit (.int .u8 48), .lit (.int .u8 49), .lit (.int .u8 50), .lit (.int .u8 51), .lit (.int .u8 52), .lit (.int .u8 53), .lit (.int .u8 54), .lit (.int .u8 55), .lit (.int .u8 56), .lit (.int .u8 57), .lit (.int .u8 97), .lit (.int .u8 98), .lit (.int .u8 99), .lit (.int .u8 100), .lit (.int .u8 101), .lit (.int .u8 102)]

/-- 'wageofficelaw36.DiscloseExtremes': WHATEVER THE INPUT: true; the input reads as it did. -/
def discloseExtremesSpec : ChangeSpec := { name := "discloseExtremes", fn := fun _ => fun
  | [d1, d2, d3, d4] => { results := [.lit (.bool true)], args := [d1, d2, d3, d4] }
  | _ => none }
def discloseExtremesRow : OpenClaim := { program := "ytipnbcggimpdeaadoor", sum := "4ff8109966eba2919193e80f408c0bdd8322e20aa84d56c5d4222e7dc91f0707", func := "wageoffice/wageofficelaw36.DiscloseExtremes", spec := "discloseExtremes", inPlace := ["internal/abi.NoEscape", "internal/bytealg.MakeNoZero"], unfollowed := true, recurses := true, named := ["wageoffice/commitment.generators", "internal/strconv.uint64pow10", "math/bits.deBruijn32tab", "math/bits.deBruijn64tab", "wageoffice/digest.digits"], apart := false, laid := [("math/bits.deBruijn32tab", laid_math_bits_deBruijn32tab), ("math/bits.deBruijn64tab", laid_math_bits_deBruijn64tab), ("internal/strconv.uint64pow10", laid_internal_strconv_uint64pow10), ("wageoffice/commitment.generators", laid_wageoffice_commitment_generators), ("wageoffice/digest.digits", laid_wageoffice_digest_digits)] }
def DiscloseExtremesSaid : Prop := discloseExtremesRow.holds Tryd.pinned (OpenSpec.ofChange discloseExtremesSpec)

/-- ITS FALSE NEIGHBOUR: 'it returns false'. Refute it at one input. -/
def discloseExtremesWrong : ChangeSpec := { name := "discloseExtremes", fn := fun _ => fun
  | [d1, d2, d3, d4] => { results := [.lit (.bool false)], args := [d1, d2, d3, d4] }
  | _ => none }
def DiscloseExtremesWrongFalsely : Prop := discloseExtremesRow.holds Tryd.pinned (OpenSpec.ofChange discloseExtremesWrong)

/-- 'wageofficelaw36.DiscloseAgreement': WHATEVER THE INPUT: true; the input reads as it did. -/
def discloseAgreementSpec : ChangeSpec := { name := "discloseAgreement", fn := fun _ => fun
  | [d1, d2, d3, d4, d5, d6, d7] => { results := [.lit (.bool true)], args := [d1, d2, d3, d4, d5, d6, d7] }
  | _ => none }
def discloseAgreementRow : OpenClaim := { program := "ytipnbcggimpdeaadoor", sum := "4ff8109966eba2919193e80f408c0bdd8322e20aa84d56c5d4222e7dc91f0707", func := "wageoffice/wageofficelaw36.DiscloseAgreement", spec := "discloseAgreement", inPlace := ["internal/abi.NoEscape", "internal/bytealg.MakeNoZero"], unfollowed := true, recurses := true, named := ["wageoffice/commitment.generators", "internal/strconv.uint64pow10", "math/bits.deBruijn32tab", "math/bits.deBruijn64tab", "wageoffice/digest.digits"], apart := false, laid := [("math/bits.deBruijn32tab", laid_math_bits_deBruijn32tab), ("math/bits.deBruijn64tab", laid_math_bits_deBruijn64tab), ("internal/strconv.uint64pow10", laid_internal_strconv_uint64pow10), ("wageoffice/commitment.generators", laid_wageoffice_commitment_generators), ("wageoffice/digest.digits", laid_wageoffice_digest_digits)] }
def DiscloseAgreementSaid : Prop := discloseAgreementRow.holds Tryd.pinned (OpenSpec.ofChange discloseAgreementSpec)

/-- ITS FALSE NEIGHBOUR: 'it returns false'. Refute it at one input. -/
def discloseAgreementWrong : ChangeSpec := { name := "discloseAgreement", fn := fun _ => fun
  | [d1, d2, d3, d4, d5, d6, d7] => { results := [.lit (.bool false)], args := [d1, d2, d3, d4, d5, d6, d7] }
  | _ => none }
def DiscloseAgreementWrongFalsely : Prop := discloseAgreementRow.holds Tryd.pinned (OpenSpec.ofChange discloseAgreementWrong)

/-- 'wageofficelaw36.DiscloseTexts': WHATEVER THE INPUT: true; the input reads as it did. -/
def discloseTextsSpec : ChangeSpec := { name := "discloseTexts", fn := fun _ => fun
  | [d1, d2, d3, d4, d5, d6, d7, d8] => { results := [.lit (.bool true)], args := [d1, d2, d3, d4, d5, d6, d7, d8] }
  | _ => none }
def discloseTextsRow : OpenClaim := { program := "ytipnbcggimpdeaadoor", sum := "4ff8109966eba2919193e80f408c0bdd8322e20aa84d56c5d4222e7dc91f0707", func := "wageoffice/wageofficelaw36.DiscloseTexts", spec := "discloseTexts", inPlace := ["internal/abi.NoEscape", "internal/bytealg.MakeNoZero"], unfollowed := true, recurses := true, named := ["wageoffice/commitment.generators", "internal/strconv.uint64pow10", "math/bits.deBruijn32tab", "math/bits.deBruijn64tab", "wageoffice/digest.digits"], apart := false, laid := [("math/bits.deBruijn32tab", laid_math_bits_deBruijn32tab), ("math/bits.deBruijn64tab", laid_math_bits_deBruijn64tab), ("internal/strconv.uint64pow10", laid_internal_strconv_uint64pow10), ("wageoffice/commitment.generators", laid_wageoffice_commitment_generators), ("wageoffice/digest.digits", laid_wageoffice_digest_digits)] }
def DiscloseTextsSaid : Prop := discloseTextsRow.holds Tryd.pinned (OpenSpec.ofChange discloseTextsSpec)

/-- ITS FALSE NEIGHBOUR: 'it returns false'. Refute it at one input. -/
def discloseTextsWrong : ChangeSpec := { name := "discloseTexts", fn := fun _ => fun
  | [d1, d2, d3, d4, d5, d6, d7, d8] => { results := [.lit (.bool false)], args := [d1, d2, d3, d4, d5, d6, d7, d8] }
  | _ => none }
def DiscloseTextsWrongFalsely : Prop := discloseTextsRow.holds Tryd.pinned (OpenSpec.ofChange discloseTextsWrong)

/-- 'wageofficelaw36.DiscloseHidden': WHATEVER THE INPUT: true; the input reads as it did. -/
def discloseHiddenSpec : ChangeSpec := { name := "discloseHidden", fn := fun _ => fun
  | [d1, d2, d3, d4, d5] => { results := [.lit (.bool true)], args := [d1, d2, d3, d4, d5] }
  | _ => none }
def discloseHiddenRow : OpenClaim := { program := "ytipnbcggimpdeaadoor", sum := "4ff8109966eba2919193e80f408c0bdd8322e20aa84d56c5d4222e7dc91f0707", func := "wageoffice/wageofficelaw36.DiscloseHidden", spec := "discloseHidden", inPlace := ["internal/abi.NoEscape", "internal/bytealg.MakeNoZero"], unfollowed := true, recurses := true, named := ["wageoffice/commitment.generators", "internal/strconv.uint64pow10", "math/bits.deBruijn32tab", "math/bits.deBruijn64tab", "wageoffice/digest.digits"], apart := false, laid := [("math/bits.deBruijn32tab", laid_math_bits_deBruijn32tab), ("math/bits.deBruijn64tab", laid_math_bits_deBruijn64tab), ("internal/strconv.uint64pow10", laid_internal_strconv_uint64pow10), ("wageoffice/commitment.generators", laid_wageoffice_commitment_generators), ("wageoffice/digest.digits", laid_wageoffice_digest_digits)] }
def DiscloseHiddenSaid : Prop := discloseHiddenRow.holds Tryd.pinned (OpenSpec.ofChange discloseHiddenSpec)

/-- ITS FALSE NEIGHBOUR: 'it returns false'. Refute it at one input. -/
def discloseHiddenWrong : ChangeSpec := { name := "discloseHidden", fn := fun _ => fun
  | [d1, d2, d3, d4, d5] => { results := [.lit (.bool false)], args := [d1, d2, d3, d4, d5] }
  | _ => none }
def DiscloseHiddenWrongFalsely : Prop := discloseHiddenRow.holds Tryd.pinned (OpenSpec.ofChange discloseHiddenWrong)

/-- 'wageofficelaw36.DiscloseShown': WHATEVER THE INPUT: true; the input reads as it did. -/
def discloseShownSpec : ChangeSpec := { name := "discloseShown", fn := fun _ => fun
  | [d1, d2, d3, d4, d5] => { results := [.lit (.bool true)], args := [d1, d2, d3, d4, d5] }
  | _ => none }
def discloseShownRow : OpenClaim := { program := "ytipnbcggimpdeaadoor", sum := "4ff8109966eba2919193e80f408c0bdd8322e20aa84d56c5d4222e7dc91f0707", func := "wageoffice/wageofficelaw36.DiscloseShown", spec := "discloseShown", inPlace := ["internal/abi.NoEscape", "internal/bytealg.MakeNoZero"], unfollowed := true, recurses := true, named := ["wageoffice/commitment.generators", "internal/strconv.uint64pow10", "math/bits.deBruijn32tab", "math/bits.deBruijn64tab", "wageoffice/digest.digits"], apart := false, laid := [("math/bits.deBruijn32tab", laid_math_bits_deBruijn32tab), ("math/bits.deBruijn64tab", laid_math_bits_deBruijn64tab), ("internal/strconv.uint64pow10", laid_internal_strconv_uint64pow10), ("wageoffice/commitment.generators", laid_wageoffice_commitment_generators), ("wageoffice/digest.digits", laid_wageoffice_digest_digits)] }
def DiscloseShownSaid : Prop := discloseShownRow.holds Tryd.pinned (OpenSpec.ofChange discloseShownSpec)

/-- ITS FALSE NEIGHBOUR: 'it returns false'. Refute it at one input. -/
def discloseShownWrong : ChangeSpec := { name := "discloseShown", fn := fun _ => fun
  | [d1, d2, d3, d4, d5] => { results := [.lit (.bool false)], args := [d1, d2, d3, d4, d5] }
  | _ => none }
def DiscloseShownWrongFalsely : Prop := discloseShownRow.holds Tryd.pinned (OpenSpec.ofChange discloseShownWrong)

/-- 'wageofficelaw36.DiscloseSigned': WHATEVER THE INPUT: true; the input reads as it did. -/
def discloseSignedSpec : ChangeSpec := { name := "discloseSigned", fn := fun _ => fun
  | [d1, d2, d3, d4, d5] => { results := [.lit (.bool true)], args := [d1, d2, d3, d4, d5] }
  | _ => none }
def discloseSignedRow : OpenClaim := { program := "ytipnbcggimpdeaadoor", sum := "4ff8109966eba2919193e80f408c0bdd8322e20aa84d56c5d4222e7dc91f0707", func := "wageoffice/wageofficelaw36.DiscloseSigned", spec := "discloseSigned", inPlace := ["internal/abi.NoEscape", "internal/bytealg.MakeNoZero"], unfollowed := true, recurses := true, named := ["wageoffice/commitment.generators", "internal/strconv.uint64pow10", "math/bits.deBruijn32tab", "math/bits.deBruijn64tab", "wageoffice/digest.digits"], apart := false, laid := [("math/bits.deBruijn32tab", laid_math_bits_deBruijn32tab), ("math/bits.deBruijn64tab", laid_math_bits_deBruijn64tab), ("internal/strconv.uint64pow10", laid_internal_strconv_uint64pow10), ("wageoffice/commitment.generators", laid_wageoffice_commitment_generators), ("wageoffice/digest.digits", laid_wageoffice_digest_digits)] }
def DiscloseSignedSaid : Prop := discloseSignedRow.holds Tryd.pinned (OpenSpec.ofChange discloseSignedSpec)

/-- ITS FALSE NEIGHBOUR: 'it returns false'. Refute it at one input. -/
def discloseSignedWrong : ChangeSpec := { name := "discloseSigned", fn := fun _ => fun
  | [d1, d2, d3, d4, d5] => { results := [.lit (.bool false)], args := [d1, d2, d3, d4, d5] }
  | _ => none }
def DiscloseSignedWrongFalsely : Prop := discloseSignedRow.holds Tryd.pinned (OpenSpec.ofChange discloseSignedWrong)

/- THE SECOND FORM. 'bulk': how many values and letters a reading holds, each counted each time it is reached (what is shared counts as often as it is met; a slice's spare places count too). A statement '..UptoSaid' is the law's where the arguments, and the package variables that the reading takes, are together of bulk at most 1048576: NARROWER than '..Said'. Prove '..Said' where nothing that the law and all that it calls make is longer than what came in: it says more and counts as full. Else prove '..UptoSaid'. A law counts once. -/
mutual
def uptoBulk {H : Type} : DataW H → Nat
  | .lit (.string bytes) => bytes.length + 1
  | .lit _ => 1
  | .nil => 1
  | .ptr d => uptoBulk d + 1
  | .slice elems spare => uptoBulkAll elems + uptoBulkAll spare + 1
  | .agg parts => uptoBulkAll parts + 1
  | .iface _ d => uptoBulk d + 1
  | .map entries => uptoBulkEntries entries + 1
  | .held _ => 1
def uptoBulkAll {H : Type} : List (DataW H) → Nat
  | [] => 0
  | d :: r => uptoBulk d + uptoBulkAll r
def uptoBulkEntries {H : Type} : List (Lit × DataW H) → Nat
  | [] => 0
  | x :: r => uptoBulkEntry x + uptoBulkEntries r
def uptoBulkEntry {H : Type} : Lit × DataW H → Nat
  | (.string bytes, d) => bytes.length + uptoBulk d + 1
  | (_, d) => uptoBulk d + 1
 end
def uptoSmall : (H : Type) → List (DataW H) → Bool := fun _ ds => decide (uptoBulkAll ds ≤ 1048576)
def OpenSpec.upto (s : _root_.Go.ChangeSpec) : _root_.Go.OpenSpec := { _root_.Go.OpenSpec.ofChange s with cond := some uptoSmall }

/-- 'wageofficelaw36.DiscloseExtremes', WHERE WHAT IT READS IS OF BULK AT MOST 1048576: true; the input reads as it did. -/
def discloseExtremesUptoRow : OpenClaim := { program := "ytipnbcggimpdeaadoor", sum := "4ff8109966eba2919193e80f408c0bdd8322e20aa84d56c5d4222e7dc91f0707", func := "wageoffice/wageofficelaw36.DiscloseExtremes", spec := "discloseExtremes", inPlace := ["internal/abi.NoEscape", "internal/bytealg.MakeNoZero"], unfollowed := true, recurses := true, named := ["wageoffice/commitment.generators", "internal/strconv.uint64pow10", "math/bits.deBruijn32tab", "math/bits.deBruijn64tab", "wageoffice/digest.digits"], apart := false, laid := [("math/bits.deBruijn32tab", laid_math_bits_deBruijn32tab), ("math/bits.deBruijn64tab", laid_math_bits_deBruijn64tab), ("internal/strconv.uint64pow10", laid_internal_strconv_uint64pow10), ("wageoffice/commitment.generators", laid_wageoffice_commitment_generators), ("wageoffice/digest.digits", laid_wageoffice_digest_digits)], narrowed := true }
def DiscloseExtremesUptoSaid : Prop := discloseExtremesUptoRow.holds Tryd.pinned (OpenSpec.upto discloseExtremesSpec)

/-- 'wageofficelaw36.DiscloseAgreement', WHERE WHAT IT READS IS OF BULK AT MOST 1048576: true; the input reads as it did. -/
def discloseAgreementUptoRow : OpenClaim := { program := "ytipnbcggimpdeaadoor", sum := "4ff8109966eba2919193e80f408c0bdd8322e20aa84d56c5d4222e7dc91f0707", func := "wageoffice/wageofficelaw36.DiscloseAgreement", spec := "discloseAgreement", inPlace := ["internal/abi.NoEscape", "internal/bytealg.MakeNoZero"], unfollowed := true, recurses := true, named := ["wageoffice/commitment.generators", "internal/strconv.uint64pow10", "math/bits.deBruijn32tab", "math/bits.deBruijn64tab", "wageoffice/digest.digits"], apart := false, laid := [("math/bits.deBruijn32tab", laid_math_bits_deBruijn32tab), ("math/bits.deBruijn64tab", laid_math_bits_deBruijn64tab), ("internal/strconv.uint64pow10", laid_internal_strconv_uint64pow10), ("wageoffice/commitment.generators", laid_wageoffice_commitment_generators), ("wageoffice/digest.digits", laid_wageoffice_digest_digits)], narrowed := true }
def DiscloseAgreementUptoSaid : Prop := discloseAgreementUptoRow.holds Tryd.pinned (OpenSpec.upto discloseAgreementSpec)

/-- 'wageofficelaw36.DiscloseTexts', WHERE WHAT IT READS IS OF BULK AT MOST 1048576: true; the input reads as it did. -/
def discloseTextsUptoRow : OpenClaim := { program := "ytipnbcggimpdeaadoor", sum := "4ff8109966eba2919193e80f408c0bdd8322e20aa84d56c5d4222e7dc91f0707", func := "wageoffice/wageofficelaw36.DiscloseTexts", spec := "discloseTexts", inPlace := ["internal/abi.NoEscape", "internal/bytealg.MakeNoZero"], unfollowed := true, recurses := true, named := ["wageoffice/commitment.generators", "internal/strconv.uint64pow10", "math/bits.deBruijn32tab", "math/bits.deBruijn64tab", "wageoffice/digest.digits"], apart := false, laid := [("math/bits.deBruijn32tab", laid_math_bits_deBruijn32tab), ("math/bits.deBruijn64tab", laid_math_bits_deBruijn64tab), ("internal/strconv.uint64pow10", laid_internal_strconv_uint64pow10), ("wageoffice/commitment.generators", laid_wageoffice_commitment_generators), ("wageoffice/digest.digits", laid_wageoffice_digest_digits)], narrowed := true }
def DiscloseTextsUptoSaid : Prop := discloseTextsUptoRow.holds Tryd.pinned (OpenSpec.upto discloseTextsSpec)

/-- 'wageofficelaw36.DiscloseHidden', WHERE WHAT IT READS IS OF BULK AT MOST 1048576: true; the input reads as it did. -/
def discloseHiddenUptoRow : OpenClaim := { program := "ytipnbcggimpdeaadoor", sum := "4ff8109966eba2919193e80f408c0bdd8322e20aa84d56c5d4222e7dc91f0707", func := "wageoffice/wageofficelaw36.DiscloseHidden", spec := "discloseHidden", inPlace := ["internal/abi.NoEscape", "internal/bytealg.MakeNoZero"], unfollowed := true, recurses := true, named := ["wageoffice/commitment.generators", "internal/strconv.uint64pow10", "math/bits.deBruijn32tab", "math/bits.deBruijn64tab", "wageoffice/digest.digits"], apart := false, laid := [("math/bits.deBruijn32tab", laid_math_bits_deBruijn32tab), ("math/bits.deBruijn64tab", laid_math_bits_deBruijn64tab), ("internal/strconv.uint64pow10", laid_internal_strconv_uint64pow10), ("wageoffice/commitment.generators", laid_wageoffice_commitment_generators), ("wageoffice/digest.digits", laid_wageoffice_digest_digits)], narrowed := true }
def DiscloseHiddenUptoSaid : Prop := discloseHiddenUptoRow.holds Tryd.pinned (OpenSpec.upto discloseHiddenSpec)

/-- 'wageofficelaw36.DiscloseShown', WHERE WHAT IT READS IS OF BULK AT MOST 1048576: true; the input reads as it did. -/
def discloseShownUptoRow : OpenClaim := { program := "ytipnbcggimpdeaadoor", sum := "4ff8109966eba2919193e80f408c0bdd8322e20aa84d56c5d4222e7dc91f0707", func := "wageoffice/wageofficelaw36.DiscloseShown", spec := "discloseShown", inPlace := ["internal/abi.NoEscape", "internal/bytealg.MakeNoZero"], unfollowed := true, recurses := true, named := ["wageoffice/commitment.generators", "internal/strconv.uint64pow10", "math/bits.deBruijn32tab", "math/bits.deBruijn64tab", "wageoffice/digest.digits"], apart := false, laid := [("math/bits.deBruijn32tab", laid_math_bits_deBruijn32tab), ("math/bits.deBruijn64tab", laid_math_bits_deBruijn64tab), ("internal/strconv.uint64pow10", laid_internal_strconv_uint64pow10), ("wageoffice/commitment.generators", laid_wageoffice_commitment_generators), ("wageoffice/digest.digits", laid_wageoffice_digest_digits)], narrowed := true }
def DiscloseShownUptoSaid : Prop := discloseShownUptoRow.holds Tryd.pinned (OpenSpec.upto discloseShownSpec)

/-- 'wageofficelaw36.DiscloseSigned', WHERE WHAT IT READS IS OF BULK AT MOST 1048576: true; the input reads as it did. -/
def discloseSignedUptoRow : OpenClaim := { program := "ytipnbcggimpdeaadoor", sum := "4ff8109966eba2919193e80f408c0bdd8322e20aa84d56c5d4222e7dc91f0707", func := "wageoffice/wageofficelaw36.DiscloseSigned", spec := "discloseSigned", inPlace := ["internal/abi.NoEscape", "internal/bytealg.MakeNoZero"], unfollowed := true, recurses := true, named := ["wageoffice/commitment.generators", "internal/strconv.uint64pow10", "math/bits.deBruijn32tab", "math/bits.deBruijn64tab", "wageoffice/digest.digits"], apart := false, laid := [("math/bits.deBruijn32tab", laid_math_bits_deBruijn32tab), ("math/bits.deBruijn64tab", laid_math_bits_deBruijn64tab), ("internal/strconv.uint64pow10", laid_internal_strconv_uint64pow10), ("wageoffice/commitment.generators", laid_wageoffice_commitment_generators), ("wageoffice/digest.digits", laid_wageoffice_digest_digits)], narrowed := true }
def DiscloseSignedUptoSaid : Prop := discloseSignedUptoRow.holds Tryd.pinned (OpenSpec.upto discloseSignedSpec)

end Rows
end Go.Proofs.YtipnbcggimpdeaaDoor

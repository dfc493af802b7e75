/-
  No cell of these rows narrows 'for every input' (looked for: loops, veiled, ifaces, maps, wideKeys, modest, calm, conditions, laid).
  DERIVED. THE GIVEN ROWS OF THIS SEAT. 8 by the template 'for every input the law returns true; each argument reads behind the call as it read before'; 0 by the template 'total and deterministic' (their statements: YtmmppfopokbcfaaTotals.lean).
  GIVEN WITH THE SEED: the statements are not yours to turn. If you find one false, say at which input.
  Laid BY PROGRAM, IN A SANDBOX (cutbox-rows.mjs): the forced cells as the released guide's own fill.sh prints them over the translation 8c9c3611f0071b63… (all of the seat's roots in one cut). By AI agents, Wed Nov 11 2026. No macro, syntax, notation, axiom, sorry.
-/
import Derived.Test.YtmmppfopokbcfaaChecked
import GoSem.Claim
import GoSem.ClaimJoined
import GoSem.ClaimMapViews
import Derived.JoinedTies
import Derived.KernelRfl
namespace Go.Proofs.Ytmmppfopokbcfaa
/- THE CELL 'sum', in the pinned program and in every row, IS THE sha256 OF THE DUMP (.gsa) THAT YtmmppfopokbcfaaProg.lean LOADS. Nothing in Lean hashes anything: it is a label: what it is worth is what the hold of that sum in a sandbox is worth. -/
noncomputable def Try.pinned : Pinned := { name := "ytmmppfopokbcfaa", sum := "8c9c3611f0071b634f21d17b6f31d1f343ee7caeb56b4d84fbec7797a4fe97c9", checked := Try.checked }
namespace Rows
def none {H : Type} : Left H := { results := [], args := [] }

/-- 'quiltlaw09.TokendiffRefine': WHATEVER THE INPUT: true; the input reads as it did. -/
def tokendiffRefineSpec : ChangeSpec := { name := "tokendiffRefine", fn := fun _ => fun
  | [d1, d2] => { results := [.lit (.bool true)], args := [d1, d2] }
  | _ => none }
def tokendiffRefineRow : OpenClaim := { program := "ytmmppfopokbcfaa", sum := "8c9c3611f0071b634f21d17b6f31d1f343ee7caeb56b4d84fbec7797a4fe97c9", func := "quilt/quiltlaw09.TokendiffRefine", spec := "tokendiffRefine", inPlace := ["internal/abi.NoEscape", "internal/bytealg.MakeNoZero", "internal/bytealg.IndexByteString"], unfollowed := true, recurses := true, apart := false }
def TokendiffRefineSaid : Prop := tokendiffRefineRow.holds Try.pinned (OpenSpec.ofChange tokendiffRefineSpec)

/-- ITS FALSE NEIGHBOUR: 'it returns false'. Refute it at one input. -/
def tokendiffRefineWrong : ChangeSpec := { name := "tokendiffRefine", fn := fun _ => fun
  | [d1, d2] => { results := [.lit (.bool false)], args := [d1, d2] }
  | _ => none }
def TokendiffRefineWrongFalsely : Prop := tokendiffRefineRow.holds Try.pinned (OpenSpec.ofChange tokendiffRefineWrong)

/-- 'quiltlaw09.TokendiffSimilar': WHATEVER THE INPUT: true; the input reads as it did. -/
def tokendiffSimilarSpec : ChangeSpec := { name := "tokendiffSimilar", fn := fun _ => fun
  | [d1, d2] => { results := [.lit (.bool true)], args := [d1, d2] }
  | _ => none }
def tokendiffSimilarRow : OpenClaim := { program := "ytmmppfopokbcfaa", sum := "8c9c3611f0071b634f21d17b6f31d1f343ee7caeb56b4d84fbec7797a4fe97c9", func := "quilt/quiltlaw09.TokendiffSimilar", spec := "tokendiffSimilar", inPlace := ["internal/abi.NoEscape", "internal/bytealg.MakeNoZero", "internal/bytealg.IndexByteString"], unfollowed := true, recurses := true, apart := false }
def TokendiffSimilarSaid : Prop := tokendiffSimilarRow.holds Try.pinned (OpenSpec.ofChange tokendiffSimilarSpec)

/-- ITS FALSE NEIGHBOUR: 'it returns false'. Refute it at one input. -/
def tokendiffSimilarWrong : ChangeSpec := { name := "tokendiffSimilar", fn := fun _ => fun
  | [d1, d2] => { results := [.lit (.bool false)], args := [d1, d2] }
  | _ => none }
def TokendiffSimilarWrongFalsely : Prop := tokendiffSimilarRow.holds Try.pinned (OpenSpec.ofChange tokendiffSimilarWrong)

/-- 'quiltlaw09.TokendiffShortest': WHATEVER THE INPUT: true; the input reads as it did. -/
def tokendiffShortestSpec : ChangeSpec := { name := "tokendiffShortest", fn := fun _ => fun
  | [d1, d2] => { results := [.lit (.bool true)], args := [d1, d2] }
  | _ => none }
def tokendiffShortestRow : OpenClaim := { program := "ytmmppfopokbcfaa", sum := "8c9c3611f0071b634f21d17b6f31d1f343ee7caeb56b4d84fbec7797a4fe97c9", func := "quilt/quiltlaw09.TokendiffShortest", spec := "tokendiffShortest", inPlace := ["internal/abi.NoEscape", "internal/bytealg.MakeNoZero", "internal/bytealg.IndexByteString"], unfollowed := true, recurses := true, apart := false }
def TokendiffShortestSaid : Prop := tokendiffShortestRow.holds Try.pinned (OpenSpec.ofChange tokendiffShortestSpec)

/-- ITS FALSE NEIGHBOUR: 'it returns false'. Refute it at one input. -/
def tokendiffShortestWrong : ChangeSpec := { name := "tokendiffShortest", fn := fun _ => fun
  | [d1, d2] => { results := [.lit (.bool false)], args := [d1, d2] }
  | _ => none }
def TokendiffShortestWrongFalsely : Prop := tokendiffShortestRow.holds Try.pinned (OpenSpec.ofChange tokendiffShortestWrong)

/-- 'quiltlaw09.TokendiffAlignment': WHATEVER THE INPUT: true; the input reads as it did. -/
def tokendiffAlignmentSpec : ChangeSpec := { name := "tokendiffAlignment", fn := fun _ => fun
  | [d1, d2, d3] => { results := [.lit (.bool true)], args := [d1, d2, d3] }
  | _ => none }
def tokendiffAlignmentRow : OpenClaim := { program := "ytmmppfopokbcfaa", sum := "8c9c3611f0071b634f21d17b6f31d1f343ee7caeb56b4d84fbec7797a4fe97c9", func := "quilt/quiltlaw09.TokendiffAlignment", spec := "tokendiffAlignment", inPlace := ["internal/abi.NoEscape", "internal/bytealg.MakeNoZero", "internal/bytealg.IndexByteString"], unfollowed := true, recurses := true, apart := false }
def TokendiffAlignmentSaid : Prop := tokendiffAlignmentRow.holds Try.pinned (OpenSpec.ofChange tokendiffAlignmentSpec)

/-- ITS FALSE NEIGHBOUR: 'it returns false'. Refute it at one input. -/
def tokendiffAlignmentWrong : ChangeSpec := { name := "tokendiffAlignment", fn := fun _ => fun
  | [d1, d2, d3] => { results := [.lit (.bool false)], args := [d1, d2, d3] }
  | _ => none }
def TokendiffAlignmentWrongFalsely : Prop := tokendiffAlignmentRow.holds Try.pinned (OpenSpec.ofChange tokendiffAlignmentWrong)

/-- 'quiltlaw09.TokendiffPairs': WHATEVER THE INPUT: true; the input reads as it did. -/
def tokendiffPairsSpec : ChangeSpec := { name := "tokendiffPairs", fn := fun _ => fun
  | [d1, d2] => { results := [.lit (.bool true)], args := [d1, d2] }
  | _ => none }
def tokendiffPairsRow : OpenClaim := { program := "ytmmppfopokbcfaa", sum := "8c9c3611f0071b634f21d17b6f31d1f343ee7caeb56b4d84fbec7797a4fe97c9", func := "quilt/quiltlaw09.TokendiffPairs", spec := "tokendiffPairs", inPlace := ["internal/abi.NoEscape", "internal/bytealg.MakeNoZero", "internal/bytealg.IndexByteString"], unfollowed := true, recurses := true, apart := false }
def TokendiffPairsSaid : Prop := tokendiffPairsRow.holds Try.pinned (OpenSpec.ofChange tokendiffPairsSpec)

/-- ITS FALSE NEIGHBOUR: 'it returns false'. Refute it at one input. -/
def tokendiffPairsWrong : ChangeSpec := { name := "tokendiffPairs", fn := fun _ => fun
  | [d1, d2] => { results := [.lit (.bool false)], args := [d1, d2] }
  | _ => none }
def TokendiffPairsWrongFalsely : Prop := tokendiffPairsRow.holds Try.pinned (OpenSpec.ofChange tokendiffPairsWrong)

/-- 'quiltlaw09.TokendiffRoundTrip': WHATEVER THE INPUT: true; the input reads as it did. -/
def tokendiffRoundTripSpec : ChangeSpec := { name := "tokendiffRoundTrip", fn := fun _ => fun
  | [d1, d2] => { results := [.lit (.bool true)], args := [d1, d2] }
  | _ => none }
def tokendiffRoundTripRow : OpenClaim := { program := "ytmmppfopokbcfaa", sum := "8c9c3611f0071b634f21d17b6f31d1f343ee7caeb56b4d84fbec7797a4fe97c9", func := "quilt/quiltlaw09.TokendiffRoundTrip", spec := "tokendiffRoundTrip", inPlace := ["internal/abi.NoEscape", "internal/bytealg.MakeNoZero", "internal/bytealg.IndexByteString"], unfollowed := true, recurses := true, apart := false }
def TokendiffRoundTripSaid : Prop := tokendiffRoundTripRow.holds Try.pinned (OpenSpec.ofChange tokendiffRoundTripSpec)

/-- ITS FALSE NEIGHBOUR: 'it returns false'. Refute it at one input. -/
def tokendiffRoundTripWrong : ChangeSpec := { name := "tokendiffRoundTrip", fn := fun _ => fun
  | [d1, d2] => { results := [.lit (.bool false)], args := [d1, d2] }
  | _ => none }
def TokendiffRoundTripWrongFalsely : Prop := tokendiffRoundTripRow.holds Try.pinned (OpenSpec.ofChange tokendiffRoundTripWrong)

/-- 'quiltlaw09.TokendiffTexts': WHATEVER THE INPUT: true; the input reads as it did. -/
def tokendiffTextsSpec : ChangeSpec := { name := "tokendiffTexts", fn := fun _ => fun
  | [d1, d2] => { results := [.lit (.bool true)], args := [d1, d2] }
  | _ => none }
def tokendiffTextsRow : OpenClaim := { program := "ytmmppfopokbcfaa", sum := "8c9c3611f0071b634f21d17b6f31d1f343ee7caeb56b4d84fbec7797a4fe97c9", func := "quilt/quiltlaw09.TokendiffTexts", spec := "tokendiffTexts", inPlace := ["internal/abi.NoEscape", "internal/bytealg.MakeNoZero", "internal/bytealg.IndexByteString"], unfollowed := true, recurses := true, apart := false }
def TokendiffTextsSaid : Prop := tokendiffTextsRow.holds Try.pinned (OpenSpec.ofChange tokendiffTextsSpec)

/-- ITS FALSE NEIGHBOUR: 'it returns false'. Refute it at one input. -/
def tokendiffTextsWrong : ChangeSpec := { name := "tokendiffTexts", fn := fun _ => fun
  | [d1, d2] => { results := [.lit (.bool false)], args := [d1, d2] }
  | _ => none }
def TokendiffTextsWrongFalsely : Prop := tokendiffTextsRow.holds Try.pinned (OpenSpec.ofChange tokendiffTextsWrong)

/-- 'quiltlaw09.TokendiffSides': WHATEVER THE INPUT: true; the input reads as it did. -/
def tokendiffSidesSpec : ChangeSpec := { name := "tokendiffSides", fn := fun _ => fun
  | [d1, d2] => { results := [.lit (.bool true)], args := [d1, d2] }
  | _ => none }
def tokendiffSidesRow : OpenClaim := { program := "ytmmppfopokbcfaa", sum := "8c9c3611f0071b634f21d17b6f31d1f343ee7caeb56b4d84fbec7797a4fe97c9", func := "quilt/quiltlaw09.TokendiffSides", spec := "tokendiffSides", inPlace := ["internal/abi.NoEscape", "internal/bytealg.MakeNoZero", "internal/bytealg.IndexByteString"], unfollowed := true, recurses := true, apart := false }
def TokendiffSidesSaid : Prop := tokendiffSidesRow.holds Try.pinned (OpenSpec.ofChange tokendiffSidesSpec)

/-- ITS FALSE NEIGHBOUR: 'it returns false'. Refute it at one input. -/
def tokendiffSidesWrong : ChangeSpec := { name := "tokendiffSides", fn := fun _ => fun
  | [d1, d2] => { results := [.lit (.bool false)], args := [d1, d2] }
  | _ => none }
def TokendiffSidesWrongFalsely : Prop := tokendiffSidesRow.holds Try.pinned (OpenSpec.ofChange tokendiffSidesWrong)

/- THE SECOND FORM. 'bulk': how many values and letters a reading holds, each counted each time it is reached (what is shared counts as often as it is met; a slice's spare places count too). A statement '..UptoSaid' is the law's where the arguments, and the package variables that the reading takes, are together of bulk at most 1048576: NARROWER than '..Said'. Prove '..Said' where nothing that the law and all that it calls make is longer than what came in: it says more and counts as full. Else prove '..UptoSaid'. A law counts once. -/
mutual
def uptoBulk {H : Type} : DataW H → Nat
  | .lit (.string bytes) => bytes.length + 1
  | .lit _ => 1
  | .nil => 1
  | .ptr d => uptoBulk d + 1
  | .slice elems spare => uptoBulkAll elems + uptoBulkAll spare + 1
  | .agg parts => uptoBulkAll parts + 1
  | .iface _ d => uptoBulk d + 1
  | .map entries => uptoBulkEntries entries + 1
  | .held _ => 1
def uptoBulkAll {H : Type} : List (DataW H) → Nat
  | [] => 0
  | d :: r => uptoBulk d + uptoBulkAll r
def uptoBulkEntries {H : Type} : List (Lit × DataW H) → Nat
  | [] => 0
  | x :: r => uptoBulkEntry x + uptoBulkEntries r
def uptoBulkEntry {H : Type} : Lit × DataW H → Nat
  | (.string bytes, d) => bytes.length + uptoBulk d + 1
  | (_, d) => uptoBulk d + 1
 end
def uptoSmall : (H : Type) → List (DataW H) → Bool := fun _ ds => decide (uptoBulkAll ds ≤ 1048576)
def OpenSpec.upto (s : _root_.Go.ChangeSpec) : _root_.Go.OpenSpec := { _root_.Go.OpenSpec.ofChange s with cond := some uptoSmall }

/-- 'quiltlaw09.TokendiffRefine', WHERE WHAT IT READS IS OF BULK AT MOST 1048576: true; the input reads as it did. -/
def tokendiffRefineUptoRow : OpenClaim := { program := "ytmmppfopokbcfaa", sum := "8c9c3611f0071b634f21d17b6f31d1f343ee7caeb56b4d84fbec7797a4fe97c9", func := "quilt/quiltlaw09.TokendiffRefine", spec := "tokendiffRefine", inPlace := ["internal/abi.NoEscape", "internal/bytealg.MakeNoZero", "internal/bytealg.IndexByteString"], unfollowed := true, recurses := true, apart := false, narrowed := true }
def TokendiffRefineUptoSaid : Prop := tokendiffRefineUptoRow.holds Try.pinned (OpenSpec.upto tokendiffRefineSpec)

/-- 'quiltlaw09.TokendiffSimilar', WHERE WHAT IT READS IS OF BULK AT MOST 1048576: true; the input reads as it did. -/
def tokendiffSimilarUptoRow : OpenClaim := { program := "ytmmppfopokbcfaa", sum := "8c9c3611f0071b634f21d17b6f31d1f343ee7caeb56b4d84fbec7797a4fe97c9", func := "quilt/quiltlaw09.TokendiffSimilar", spec := "tokendiffSimilar", inPlace := ["internal/abi.NoEscape", "internal/bytealg.MakeNoZero", "internal/bytealg.IndexByteString"], unfollowed := true, recurses := true, apart := false, narrowed := true }
def TokendiffSimilarUptoSaid : Prop := tokendiffSimilarUptoRow.holds Try.pinned (OpenSpec.upto tokendiffSimilarSpec)

/-- 'quiltlaw09.TokendiffShortest', WHERE WHAT IT READS IS OF BULK AT MOST 1048576: true; the input reads as it did. -/
def tokendiffShortestUptoRow : OpenClaim := { program := "ytmmppfopokbcfaa", sum := "8c9c3611f0071b634f21d17b6f31d1f343ee7caeb56b4d84fbec7797a4fe97c9", func := "quilt/quiltlaw09.TokendiffShortest", spec := "tokendiffShortest", inPlace := ["internal/abi.NoEscape", "internal/bytealg.MakeNoZero", "internal/bytealg.IndexByteString"], unfollowed := true, recurses := true, apart := false, narrowed := true }
def TokendiffShortestUptoSaid : Prop := tokendiffShortestUptoRow.holds Try.pinned (OpenSpec.upto tokendiffShortestSpec)

/-- 'quiltlaw09.TokendiffAlignment', WHERE WHAT IT READS IS OF BULK AT MOST 1048576: true; the input reads as it did. -/
def tokendiffAlignmentUptoRow : OpenClaim := { program := "ytmmppfopokbcfaa", sum := "8c9c3611f0071b634f21d17b6f31d1f343ee7caeb56b4d84fbec7797a4fe97c9", func := "quilt/quiltlaw09.TokendiffAlignment", spec := "tokendiffAlignment", inPlace := ["internal/abi.NoEscape", "internal/bytealg.MakeNoZero", "internal/bytealg.IndexByteString"], unfollowed := true, recurses := true, apart := false, narrowed := true }
def TokendiffAlignmentUptoSaid : Prop := tokendiffAlignmentUptoRow.holds Try.pinned (OpenSpec.upto tokendiffAlignmentSpec)

/-- 'quiltlaw09.TokendiffPairs', WHERE WHAT IT READS IS OF BULK AT MOST 1048576: true; the input reads as it did. -/
def tokendiffPairsUptoRow : OpenClaim := { program := "ytmmppfopokbcfaa", sum := "8c9c3611f0071b634f21d17b6f31d1f343ee7caeb56b4d84fbec7797a4fe97c9", func := "quilt/quiltlaw09.TokendiffPairs", spec := "tokendiffPairs", inPlace := ["internal/abi.NoEscape", "internal/bytealg.MakeNoZero", "internal/bytealg.IndexByteString"], unfollowed := true, recurses := true, apart := false, narrowed := true }
def TokendiffPairsUptoSaid : Prop := tokendiffPairsUptoRow.holds Try.pinned (OpenSpec.upto tokendiffPairsSpec)

/-- 'quiltlaw09.TokendiffRoundTrip', WHERE WHAT IT READS IS OF BULK AT MOST 1048576: true; the input reads as it did. -/
def tokendiffRoundTripUptoRow : OpenClaim := { program := "ytmmppfopokbcfaa", sum := "8c9c3611f0071b634f21d17b6f31d1f343ee7caeb56b4d84fbec7797a4fe97c9", func := "quilt/quiltlaw09.TokendiffRoundTrip", spec := "tokendiffRoundTrip", inPlace := ["internal/abi.NoEscape", "internal/bytealg.MakeNoZero", "internal/bytealg.IndexByteString"], unfollowed := true, recurses := true, apart := false, narrowed := true }
def TokendiffRoundTripUptoSaid : Prop := tokendiffRoundTripUptoRow.holds Try.pinned (OpenSpec.upto tokendiffRoundTripSpec)

/-- 'quiltlaw09.TokendiffTexts', WHERE WHAT IT READS IS OF BULK AT MOST 1048576: true; the input reads as it did. -/
def tokendiffTextsUptoRow : OpenClaim := { program := "ytmmppfopokbcfaa", sum := "8c9c3611f0071b634f21d17b6f31d1f343ee7caeb56b4d84fbec7797a4fe97c9", func := "quilt/quiltlaw09.TokendiffTexts", spec := "tokendiffTexts", inPlace := ["internal/abi.NoEscape", "internal/bytealg.MakeNoZero", "internal/bytealg.IndexByteString"], unfollowed := true, recurses := true, apart := false, narrowed := true }
def TokendiffTextsUptoSaid : Prop := tokendiffTextsUptoRow.holds Try.pinned (OpenSpec.upto tokendiffTextsSpec)

/-- 'quiltlaw09.TokendiffSides', WHERE WHAT IT READS IS OF BULK AT MOST 1048576: true; the input reads as it did. -/
def tokendiffSidesUptoRow : OpenClaim := { program := "ytmmppfopokbcfaa", sum := "8c9c3611f0071b634f21d17b6f31d1f343ee7caeb56b4d84fbec7797a4fe97c9", func := "quilt/quiltlaw09.TokendiffSides", spec := "tokendiffSides", inPlace := ["internal/abi.NoEscape", "internal/bytealg.MakeNoZero", "internal/bytealg.IndexByteString"], unfollowed := true, recurses := true, apart := false, narrowed := true }
def TokendiffSidesUptoSaid : Prop := tokendiffSidesUptoRow.holds Try.pinned (OpenSpec.upto tokendiffSidesSpec)

end Rows
end Go.Proofs.Ytmmppfopokbcfaa

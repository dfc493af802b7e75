/-
  No cell of these rows narrows 'for every input' (looked for: loops, veiled, ifaces, maps, wideKeys, modest, calm, conditions, laid).
  DERIVED. THE GIVEN ROWS OF THIS SEAT. 8 by the template 'for every input the law returns true; each argument reads behind the call as it read before'; 0 by the template 'total and deterministic' (their statements: YtmmhbnlafcmloaaTotals.lean).
  GIVEN WITH THE SEED: the statements are not yours to turn. If you find one false, say at which input.
  Laid BY PROGRAM, IN A SANDBOX (cutbox-rows.mjs): the forced cells as the released guide's own fill.sh prints them over the translation c4df74c2c3606c6e… (all of the seat's roots in one cut). By AI agents, Wed Nov 11 2026. No macro, syntax, notation, axiom, sorry.
-/
import Derived.Test.YtmmhbnlafcmloaaChecked
import GoSem.Claim
import GoSem.ClaimJoined
import GoSem.ClaimMapViews
import Derived.JoinedTies
import Derived.KernelRfl
namespace Go.Proofs.Ytmmhbnlafcmloaa
/- THE CELL 'sum', in the pinned program and in every row, IS THE sha256 OF THE DUMP (.gsa) THAT YtmmhbnlafcmloaaProg.lean LOADS. Nothing in Lean hashes anything: it is a label: what it is worth is what the hold of that sum in a sandbox is worth. -/
noncomputable def Try.pinned : Pinned := { name := "ytmmhbnlafcmloaa", sum := "c4df74c2c3606c6eda23e19428bbfe3b980f931b30f557b3abe158aa096a9d38", checked := Try.checked }
namespace Rows
def none {H : Type} : Left H := { results := [], args := [] }

/-- 'quiltlaw05.PatienceUnique': WHATEVER THE INPUT: true; the input reads as it did. -/
def patienceUniqueSpec : ChangeSpec := { name := "patienceUnique", fn := fun _ => fun
  | [d1, d2] => { results := [.lit (.bool true)], args := [d1, d2] }
  | _ => none }
def patienceUniqueRow : OpenClaim := { program := "ytmmhbnlafcmloaa", sum := "c4df74c2c3606c6eda23e19428bbfe3b980f931b30f557b3abe158aa096a9d38", func := "quilt/quiltlaw05.PatienceUnique", spec := "patienceUnique", unfollowed := true, recurses := true, apart := false }
def PatienceUniqueSaid : Prop := patienceUniqueRow.holds Try.pinned (OpenSpec.ofChange patienceUniqueSpec)

/-- ITS FALSE NEIGHBOUR: 'it returns false'. Refute it at one input. -/
def patienceUniqueWrong : ChangeSpec := { name := "patienceUnique", fn := fun _ => fun
  | [d1, d2] => { results := [.lit (.bool false)], args := [d1, d2] }
  | _ => none }
def PatienceUniqueWrongFalsely : Prop := patienceUniqueRow.holds Try.pinned (OpenSpec.ofChange patienceUniqueWrong)

/-- 'quiltlaw05.PatienceLongest': WHATEVER THE INPUT: true; the input reads as it did. -/
def patienceLongestSpec : ChangeSpec := { name := "patienceLongest", fn := fun _ => fun
  | [d] => { results := [.lit (.bool true)], args := [d] }
  | _ => none }
def patienceLongestRow : OpenClaim := { program := "ytmmhbnlafcmloaa", sum := "c4df74c2c3606c6eda23e19428bbfe3b980f931b30f557b3abe158aa096a9d38", func := "quilt/quiltlaw05.PatienceLongest", spec := "patienceLongest", unfollowed := true, recurses := true, apart := false }
def PatienceLongestSaid : Prop := patienceLongestRow.holds Try.pinned (OpenSpec.ofChange patienceLongestSpec)

/-- ITS FALSE NEIGHBOUR: 'it returns false'. Refute it at one input. -/
def patienceLongestWrong : ChangeSpec := { name := "patienceLongest", fn := fun _ => fun
  | [d] => { results := [.lit (.bool false)], args := [d] }
  | _ => none }
def PatienceLongestWrongFalsely : Prop := patienceLongestRow.holds Try.pinned (OpenSpec.ofChange patienceLongestWrong)

/-- 'quiltlaw05.PatienceDiff': WHATEVER THE INPUT: true; the input reads as it did. -/
def patienceDiffSpec : ChangeSpec := { name := "patienceDiff", fn := fun _ => fun
  | [d1, d2] => { results := [.lit (.bool true)], args := [d1, d2] }
  | _ => none }
def patienceDiffRow : OpenClaim := { program := "ytmmhbnlafcmloaa", sum := "c4df74c2c3606c6eda23e19428bbfe3b980f931b30f557b3abe158aa096a9d38", func := "quilt/quiltlaw05.PatienceDiff", spec := "patienceDiff", unfollowed := true, recurses := true, apart := false }
def PatienceDiffSaid : Prop := patienceDiffRow.holds Try.pinned (OpenSpec.ofChange patienceDiffSpec)

/-- ITS FALSE NEIGHBOUR: 'it returns false'. Refute it at one input. -/
def patienceDiffWrong : ChangeSpec := { name := "patienceDiff", fn := fun _ => fun
  | [d1, d2] => { results := [.lit (.bool false)], args := [d1, d2] }
  | _ => none }
def PatienceDiffWrongFalsely : Prop := patienceDiffRow.holds Try.pinned (OpenSpec.ofChange patienceDiffWrong)

/-- 'quiltlaw05.PatienceOnce': WHATEVER THE INPUT: true; the input reads as it did. -/
def patienceOnceSpec : ChangeSpec := { name := "patienceOnce", fn := fun _ => fun
  | [d1, d2] => { results := [.lit (.bool true)], args := [d1, d2] }
  | _ => none }
def patienceOnceRow : OpenClaim := { program := "ytmmhbnlafcmloaa", sum := "c4df74c2c3606c6eda23e19428bbfe3b980f931b30f557b3abe158aa096a9d38", func := "quilt/quiltlaw05.PatienceOnce", spec := "patienceOnce", unfollowed := true, recurses := true, apart := false }
def PatienceOnceSaid : Prop := patienceOnceRow.holds Try.pinned (OpenSpec.ofChange patienceOnceSpec)

/-- ITS FALSE NEIGHBOUR: 'it returns false'. Refute it at one input. -/
def patienceOnceWrong : ChangeSpec := { name := "patienceOnce", fn := fun _ => fun
  | [d1, d2] => { results := [.lit (.bool false)], args := [d1, d2] }
  | _ => none }
def PatienceOnceWrongFalsely : Prop := patienceOnceRow.holds Try.pinned (OpenSpec.ofChange patienceOnceWrong)

/-- 'quiltlaw05.PatienceChain': WHATEVER THE INPUT: true; the input reads as it did. -/
def patienceChainSpec : ChangeSpec := { name := "patienceChain", fn := fun _ => fun
  | [d1, d2] => { results := [.lit (.bool true)], args := [d1, d2] }
  | _ => none }
def patienceChainRow : OpenClaim := { program := "ytmmhbnlafcmloaa", sum := "c4df74c2c3606c6eda23e19428bbfe3b980f931b30f557b3abe158aa096a9d38", func := "quilt/quiltlaw05.PatienceChain", spec := "patienceChain", unfollowed := true, recurses := true, apart := false }
def PatienceChainSaid : Prop := patienceChainRow.holds Try.pinned (OpenSpec.ofChange patienceChainSpec)

/-- ITS FALSE NEIGHBOUR: 'it returns false'. Refute it at one input. -/
def patienceChainWrong : ChangeSpec := { name := "patienceChain", fn := fun _ => fun
  | [d1, d2] => { results := [.lit (.bool false)], args := [d1, d2] }
  | _ => none }
def PatienceChainWrongFalsely : Prop := patienceChainRow.holds Try.pinned (OpenSpec.ofChange patienceChainWrong)

/-- 'quiltlaw05.PatienceEqual': WHATEVER THE INPUT: true; the input reads as it did. -/
def patienceEqualSpec : ChangeSpec := { name := "patienceEqual", fn := fun _ => fun
  | [d1, d2, d3] => { results := [.lit (.bool true)], args := [d1, d2, d3] }
  | _ => none }
def patienceEqualRow : OpenClaim := { program := "ytmmhbnlafcmloaa", sum := "c4df74c2c3606c6eda23e19428bbfe3b980f931b30f557b3abe158aa096a9d38", func := "quilt/quiltlaw05.PatienceEqual", spec := "patienceEqual", unfollowed := true, recurses := true, apart := false }
def PatienceEqualSaid : Prop := patienceEqualRow.holds Try.pinned (OpenSpec.ofChange patienceEqualSpec)

/-- ITS FALSE NEIGHBOUR: 'it returns false'. Refute it at one input. -/
def patienceEqualWrong : ChangeSpec := { name := "patienceEqual", fn := fun _ => fun
  | [d1, d2, d3] => { results := [.lit (.bool false)], args := [d1, d2, d3] }
  | _ => none }
def PatienceEqualWrongFalsely : Prop := patienceEqualRow.holds Try.pinned (OpenSpec.ofChange patienceEqualWrong)

/-- 'quiltlaw05.PatienceNone': WHATEVER THE INPUT: true; the input reads as it did. -/
def patienceNoneSpec : ChangeSpec := { name := "patienceNone", fn := fun _ => fun
  | [d1, d2] => { results := [.lit (.bool true)], args := [d1, d2] }
  | _ => none }
def patienceNoneRow : OpenClaim := { program := "ytmmhbnlafcmloaa", sum := "c4df74c2c3606c6eda23e19428bbfe3b980f931b30f557b3abe158aa096a9d38", func := "quilt/quiltlaw05.PatienceNone", spec := "patienceNone", unfollowed := true, recurses := true, apart := false }
def PatienceNoneSaid : Prop := patienceNoneRow.holds Try.pinned (OpenSpec.ofChange patienceNoneSpec)

/-- ITS FALSE NEIGHBOUR: 'it returns false'. Refute it at one input. -/
def patienceNoneWrong : ChangeSpec := { name := "patienceNone", fn := fun _ => fun
  | [d1, d2] => { results := [.lit (.bool false)], args := [d1, d2] }
  | _ => none }
def PatienceNoneWrongFalsely : Prop := patienceNoneRow.holds Try.pinned (OpenSpec.ofChange patienceNoneWrong)

/-- 'quiltlaw05.PatienceValid': WHATEVER THE INPUT: true; the input reads as it did. -/
def patienceValidSpec : ChangeSpec := { name := "patienceValid", fn := fun _ => fun
  | [d1, d2] => { results := [.lit (.bool true)], args := [d1, d2] }
  | _ => none }
def patienceValidRow : OpenClaim := { program := "ytmmhbnlafcmloaa", sum := "c4df74c2c3606c6eda23e19428bbfe3b980f931b30f557b3abe158aa096a9d38", func := "quilt/quiltlaw05.PatienceValid", spec := "patienceValid", unfollowed := true, recurses := true, apart := false }
def PatienceValidSaid : Prop := patienceValidRow.holds Try.pinned (OpenSpec.ofChange patienceValidSpec)

/-- ITS FALSE NEIGHBOUR: 'it returns false'. Refute it at one input. -/
def patienceValidWrong : ChangeSpec := { name := "patienceValid", fn := fun _ => fun
  | [d1, d2] => { results := [.lit (.bool false)], args := [d1, d2] }
  | _ => none }
def PatienceValidWrongFalsely : Prop := patienceValidRow.holds Try.pinned (OpenSpec.ofChange patienceValidWrong)

/- THE SECOND FORM. 'bulk': how many values and letters a reading holds, each counted each time it is reached (what is shared counts as often as it is met; a slice's spare places count too). A statement '..UptoSaid' is the law's where the arguments, and the package variables that the reading takes, are together of bulk at most 1048576: NARROWER than '..Said'. Prove '..Said' where nothing that the law and all that it calls make is longer than what came in: it says more and counts as full. Else prove '..UptoSaid'. A law counts once. -/
mutual
def uptoBulk {H : Type} : DataW H → Nat
  | .lit (.string bytes) => bytes.length + 1
  | .lit _ => 1
  | .nil => 1
  | .ptr d => uptoBulk d + 1
  | .slice elems spare => uptoBulkAll elems + uptoBulkAll spare + 1
  | .agg parts => uptoBulkAll parts + 1
  | .iface _ d => uptoBulk d + 1
  | .map entries => uptoBulkEntries entries + 1
  | .held _ => 1
def uptoBulkAll {H : Type} : List (DataW H) → Nat
  | [] => 0
  | d :: r => uptoBulk d + uptoBulkAll r
def uptoBulkEntries {H : Type} : List (Lit × DataW H) → Nat
  | [] => 0
  | x :: r => uptoBulkEntry x + uptoBulkEntries r
def uptoBulkEntry {H : Type} : Lit × DataW H → Nat
  | (.string bytes, d) => bytes.length + uptoBulk d + 1
  | (_, d) => uptoBulk d + 1
 end
def uptoSmall : (H : Type) → List (DataW H) → Bool := fun _ ds => decide (uptoBulkAll ds ≤ 1048576)
def OpenSpec.upto (s : _root_.Go.ChangeSpec) : _root_.Go.OpenSpec := { _root_.Go.OpenSpec.ofChange s with cond := some uptoSmall }

/-- 'quiltlaw05.PatienceUnique', WHERE WHAT IT READS IS OF BULK AT MOST 1048576: true; the input reads as it did. -/
def patienceUniqueUptoRow : OpenClaim := { program := "ytmmhbnlafcmloaa", sum := "c4df74c2c3606c6eda23e19428bbfe3b980f931b30f557b3abe158aa096a9d38", func := "quilt/quiltlaw05.PatienceUnique", spec := "patienceUnique", unfollowed := true, recurses := true, apart := false, narrowed := true }
def PatienceUniqueUptoSaid : Prop := patienceUniqueUptoRow.holds Try.pinned (OpenSpec.upto patienceUniqueSpec)

/-- 'quiltlaw05.PatienceLongest', WHERE WHAT IT READS IS OF BULK AT MOST 1048576: true; the input reads as it did. -/
def patienceLongestUptoRow : OpenClaim := { program := "ytmmhbnlafcmloaa", sum := "c4df74c2c3606c6eda23e19428bbfe3b980f931b30f557b3abe158aa096a9d38", func := "quilt/quiltlaw05.PatienceLongest", spec := "patienceLongest", unfollowed := true, recurses := true, apart := false, narrowed := true }
def PatienceLongestUptoSaid : Prop := patienceLongestUptoRow.holds Try.pinned (OpenSpec.upto patienceLongestSpec)

/-- 'quiltlaw05.PatienceDiff', WHERE WHAT IT READS IS OF BULK AT MOST 1048576: true; the input reads as it did. -/
def patienceDiffUptoRow : OpenClaim := { program := "ytmmhbnlafcmloaa", sum := "c4df74c2c3606c6eda23e19428bbfe3b980f931b30f557b3abe158aa096a9d38", func := "quilt/quiltlaw05.PatienceDiff", spec := "patienceDiff", unfollowed := true, recurses := true, apart := false, narrowed := true }
def PatienceDiffUptoSaid : Prop := patienceDiffUptoRow.holds Try.pinned (OpenSpec.upto patienceDiffSpec)

/-- 'quiltlaw05.PatienceOnce', WHERE WHAT IT READS IS OF BULK AT MOST 1048576: true; the input reads as it did. -/
def patienceOnceUptoRow : OpenClaim := { program := "ytmmhbnlafcmloaa", sum := "c4df74c2c3606c6eda23e19428bbfe3b980f931b30f557b3abe158aa096a9d38", func := "quilt/quiltlaw05.PatienceOnce", spec := "patienceOnce", unfollowed := true, recurses := true, apart := false, narrowed := true }
def PatienceOnceUptoSaid : Prop := patienceOnceUptoRow.holds Try.pinned (OpenSpec.upto patienceOnceSpec)

/-- 'quiltlaw05.PatienceChain', WHERE WHAT IT READS IS OF BULK AT MOST 1048576: true; the input reads as it did. -/
def patienceChainUptoRow : OpenClaim := { program := "ytmmhbnlafcmloaa", sum := "c4df74c2c3606c6eda23e19428bbfe3b980f931b30f557b3abe158aa096a9d38", func := "quilt/quiltlaw05.PatienceChain", spec := "patienceChain", unfollowed := true, recurses := true, apart := false, narrowed := true }
def PatienceChainUptoSaid : Prop := patienceChainUptoRow.holds Try.pinned (OpenSpec.upto patienceChainSpec)

/-- 'quiltlaw05.PatienceEqual', WHERE WHAT IT READS IS OF BULK AT MOST 1048576: true; the input reads as it did. -/
def patienceEqualUptoRow : OpenClaim := { program := "ytmmhbnlafcmloaa", sum := "c4df74c2c3606c6eda23e19428bbfe3b980f931b30f557b3abe158aa096a9d38", func := "quilt/quiltlaw05.PatienceEqual", spec := "patienceEqual", unfollowed := true, recurses := true, apart := false, narrowed := true }
def PatienceEqualUptoSaid : Prop := patienceEqualUptoRow.holds Try.pinned (OpenSpec.upto patienceEqualSpec)

/-- 'quiltlaw05.PatienceNone', WHERE WHAT IT READS IS OF BULK AT MOST 1048576: true; the input reads as it did. -/
def patienceNoneUptoRow : OpenClaim := { program := "ytmmhbnlafcmloaa", sum := "c4df74c2c3606c6eda23e19428bbfe3b980f931b30f557b3abe158aa096a9d38", func := "quilt/quiltlaw05.PatienceNone", spec := "patienceNone", unfollowed := true, recurses := true, apart := false, narrowed := true }
def PatienceNoneUptoSaid : Prop := patienceNoneUptoRow.holds Try.pinned (OpenSpec.upto patienceNoneSpec)

/-- 'quiltlaw05.PatienceValid', WHERE WHAT IT READS IS OF BULK AT MOST 1048576: true; the input reads as it did. -/
def patienceValidUptoRow : OpenClaim := { program := "ytmmhbnlafcmloaa", sum := "c4df74c2c3606c6eda23e19428bbfe3b980f931b30f557b3abe158aa096a9d38", func := "quilt/quiltlaw05.PatienceValid", spec := "patienceValid", unfollowed := true, recurses := true, apart := false, narrowed := true }
def PatienceValidUptoSaid : Prop := patienceValidUptoRow.holds Try.pinned (OpenSpec.upto patienceValidSpec)

end Rows
end Go.Proofs.Ytmmhbnlafcmloaa

/-
  NARROWER THAN 'FOR EVERY INPUT', by the rows' own cells (each row's printed sentence says how): TreapCheck: loops · TreapUnique: loops · TreapReads: loops · TreapUnion: loops · TreapSplits: loops · TreapDiff: loops · TreapSets: loops · TreapEdits: loops · TreapPut: loops.
  DERIVED. THE GIVEN ROWS OF THIS SEAT. 10 by the template 'for every input the law returns true; each argument reads behind the call as it read before'; 0 by the template 'total and deterministic' (their statements: YtbjniaihkllmdaaTotals.lean).
  GIVEN WITH THE SEED: the statements are not yours to turn. If you find one false, say at which input.
  Laid BY PROGRAM, IN A SANDBOX (cutbox-rows.mjs): the forced cells as the released guide's own fill.sh prints them over the translation a512fc17d9248b54… (all of the seat's roots in one cut). By AI agents, Wed Nov 11 2026. No macro, syntax, notation, axiom, sorry.
-/
import Derived.Test.YtbjniaihkllmdaaChecked
import GoSem.Claim
import GoSem.ClaimJoined
import GoSem.ClaimMapViews
import Derived.JoinedTies
import Derived.KernelRfl
namespace Go.Proofs.Ytbjniaihkllmdaa
/- THE CELL 'sum', in the pinned program and in every row, IS THE sha256 OF THE DUMP (.gsa) THAT YtbjniaihkllmdaaProg.lean LOADS. Nothing in Lean hashes anything: it is a label: what it is worth is what the hold of that sum in a sandbox is worth. -/
noncomputable def Try.pinned : Pinned := { name := "ytbjniaihkllmdaa", sum := "a512fc17d9248b54261afbf5ea5007fa0937f123daf22dcf434e79e41b0fc71c", checked := Try.checked }
namespace Rows
def none {H : Type} : Left H := { results := [], args := [] }

/-- 'quiltlaw06.TreapCheck': WHATEVER THE INPUT: true; the input reads as it did. -/
def treapCheckSpec : ChangeSpec := { name := "treapCheck", fn := fun _ => fun
  | [d1, d2] => { results := [.lit (.bool true)], args := [d1, d2] }
  | _ => none }
def treapCheckRow : OpenClaim := { program := "ytbjniaihkllmdaa", sum := "a512fc17d9248b54261afbf5ea5007fa0937f123daf22dcf434e79e41b0fc71c", func := "quilt/quiltlaw06.TreapCheck", spec := "treapCheck", inPlace := ["internal/bytealg.abigen_runtime_cmpstring"], unfollowed := true, recurses := true, loops := true, apart := false }
def TreapCheckSaid : Prop := treapCheckRow.holds Try.pinned (OpenSpec.ofChange treapCheckSpec)

/-- ITS FALSE NEIGHBOUR: 'it returns false'. Refute it at one input. -/
def treapCheckWrong : ChangeSpec := { name := "treapCheck", fn := fun _ => fun
  | [d1, d2] => { results := [.lit (.bool false)], args := [d1, d2] }
  | _ => none }
def TreapCheckWrongFalsely : Prop := treapCheckRow.holds Try.pinned (OpenSpec.ofChange treapCheckWrong)

/-- 'quiltlaw06.TreapShape': WHATEVER THE INPUT: true; the input reads as it did. -/
def treapShapeSpec : ChangeSpec := { name := "treapShape", fn := fun _ => fun
  | [d1, d2] => { results := [.lit (.bool true)], args := [d1, d2] }
  | _ => none }
def treapShapeRow : OpenClaim := { program := "ytbjniaihkllmdaa", sum := "a512fc17d9248b54261afbf5ea5007fa0937f123daf22dcf434e79e41b0fc71c", func := "quilt/quiltlaw06.TreapShape", spec := "treapShape", inPlace := ["internal/bytealg.abigen_runtime_cmpstring"], unfollowed := true, recurses := true, apart := false }
def TreapShapeSaid : Prop := treapShapeRow.holds Try.pinned (OpenSpec.ofChange treapShapeSpec)

/-- ITS FALSE NEIGHBOUR: 'it returns false'. Refute it at one input. -/
def treapShapeWrong : ChangeSpec := { name := "treapShape", fn := fun _ => fun
  | [d1, d2] => { results := [.lit (.bool false)], args := [d1, d2] }
  | _ => none }
def TreapShapeWrongFalsely : Prop := treapShapeRow.holds Try.pinned (OpenSpec.ofChange treapShapeWrong)

/-- 'quiltlaw06.TreapUnique': WHATEVER THE INPUT: true; the input reads as it did. -/
def treapUniqueSpec : ChangeSpec := { name := "treapUnique", fn := fun _ => fun
  | [d1, d2] => { results := [.lit (.bool true)], args := [d1, d2] }
  | _ => none }
def treapUniqueRow : OpenClaim := { program := "ytbjniaihkllmdaa", sum := "a512fc17d9248b54261afbf5ea5007fa0937f123daf22dcf434e79e41b0fc71c", func := "quilt/quiltlaw06.TreapUnique", spec := "treapUnique", inPlace := ["internal/bytealg.abigen_runtime_cmpstring"], unfollowed := true, recurses := true, loops := true, apart := false }
def TreapUniqueSaid : Prop := treapUniqueRow.holds Try.pinned (OpenSpec.ofChange treapUniqueSpec)

/-- ITS FALSE NEIGHBOUR: 'it returns false'. Refute it at one input. -/
def treapUniqueWrong : ChangeSpec := { name := "treapUnique", fn := fun _ => fun
  | [d1, d2] => { results := [.lit (.bool false)], args := [d1, d2] }
  | _ => none }
def TreapUniqueWrongFalsely : Prop := treapUniqueRow.holds Try.pinned (OpenSpec.ofChange treapUniqueWrong)

/-- 'quiltlaw06.TreapReads': WHATEVER THE INPUT: true; the input reads as it did. -/
def treapReadsSpec : ChangeSpec := { name := "treapReads", fn := fun _ => fun
  | [d1, d2, d3] => { results := [.lit (.bool true)], args := [d1, d2, d3] }
  | _ => none }
def treapReadsRow : OpenClaim := { program := "ytbjniaihkllmdaa", sum := "a512fc17d9248b54261afbf5ea5007fa0937f123daf22dcf434e79e41b0fc71c", func := "quilt/quiltlaw06.TreapReads", spec := "treapReads", inPlace := ["internal/bytealg.abigen_runtime_cmpstring"], unfollowed := true, recurses := true, loops := true, apart := false }
def TreapReadsSaid : Prop := treapReadsRow.holds Try.pinned (OpenSpec.ofChange treapReadsSpec)

/-- ITS FALSE NEIGHBOUR: 'it returns false'. Refute it at one input. -/
def treapReadsWrong : ChangeSpec := { name := "treapReads", fn := fun _ => fun
  | [d1, d2, d3] => { results := [.lit (.bool false)], args := [d1, d2, d3] }
  | _ => none }
def TreapReadsWrongFalsely : Prop := treapReadsRow.holds Try.pinned (OpenSpec.ofChange treapReadsWrong)

/-- 'quiltlaw06.TreapUnion': WHATEVER THE INPUT: true; the input reads as it did. -/
def treapUnionSpec : ChangeSpec := { name := "treapUnion", fn := fun _ => fun
  | [d1, d2, d3, d4] => { results := [.lit (.bool true)], args := [d1, d2, d3, d4] }
  | _ => none }
def treapUnionRow : OpenClaim := { program := "ytbjniaihkllmdaa", sum := "a512fc17d9248b54261afbf5ea5007fa0937f123daf22dcf434e79e41b0fc71c", func := "quilt/quiltlaw06.TreapUnion", spec := "treapUnion", inPlace := ["internal/bytealg.abigen_runtime_cmpstring"], unfollowed := true, recurses := true, loops := true, apart := false }
def TreapUnionSaid : Prop := treapUnionRow.holds Try.pinned (OpenSpec.ofChange treapUnionSpec)

/-- ITS FALSE NEIGHBOUR: 'it returns false'. Refute it at one input. -/
def treapUnionWrong : ChangeSpec := { name := "treapUnion", fn := fun _ => fun
  | [d1, d2, d3, d4] => { results := [.lit (.bool false)], args := [d1, d2, d3, d4] }
  | _ => none }
def TreapUnionWrongFalsely : Prop := treapUnionRow.holds Try.pinned (OpenSpec.ofChange treapUnionWrong)

/-- 'quiltlaw06.TreapSplits': WHATEVER THE INPUT: true; the input reads as it did. -/
def treapSplitsSpec : ChangeSpec := { name := "treapSplits", fn := fun _ => fun
  | [d1, d2] => { results := [.lit (.bool true)], args := [d1, d2] }
  | _ => none }
def treapSplitsRow : OpenClaim := { program := "ytbjniaihkllmdaa", sum := "a512fc17d9248b54261afbf5ea5007fa0937f123daf22dcf434e79e41b0fc71c", func := "quilt/quiltlaw06.TreapSplits", spec := "treapSplits", inPlace := ["internal/bytealg.abigen_runtime_cmpstring"], unfollowed := true, recurses := true, loops := true, apart := false }
def TreapSplitsSaid : Prop := treapSplitsRow.holds Try.pinned (OpenSpec.ofChange treapSplitsSpec)

/-- ITS FALSE NEIGHBOUR: 'it returns false'. Refute it at one input. -/
def treapSplitsWrong : ChangeSpec := { name := "treapSplits", fn := fun _ => fun
  | [d1, d2] => { results := [.lit (.bool false)], args := [d1, d2] }
  | _ => none }
def TreapSplitsWrongFalsely : Prop := treapSplitsRow.holds Try.pinned (OpenSpec.ofChange treapSplitsWrong)

/-- 'quiltlaw06.TreapDiff': WHATEVER THE INPUT: true; the input reads as it did. -/
def treapDiffSpec : ChangeSpec := { name := "treapDiff", fn := fun _ => fun
  | [d1, d2] => { results := [.lit (.bool true)], args := [d1, d2] }
  | _ => none }
def treapDiffRow : OpenClaim := { program := "ytbjniaihkllmdaa", sum := "a512fc17d9248b54261afbf5ea5007fa0937f123daf22dcf434e79e41b0fc71c", func := "quilt/quiltlaw06.TreapDiff", spec := "treapDiff", inPlace := ["internal/bytealg.abigen_runtime_cmpstring"], unfollowed := true, recurses := true, loops := true, apart := false }
def TreapDiffSaid : Prop := treapDiffRow.holds Try.pinned (OpenSpec.ofChange treapDiffSpec)

/-- ITS FALSE NEIGHBOUR: 'it returns false'. Refute it at one input. -/
def treapDiffWrong : ChangeSpec := { name := "treapDiff", fn := fun _ => fun
  | [d1, d2] => { results := [.lit (.bool false)], args := [d1, d2] }
  | _ => none }
def TreapDiffWrongFalsely : Prop := treapDiffRow.holds Try.pinned (OpenSpec.ofChange treapDiffWrong)

/-- 'quiltlaw06.TreapSets': WHATEVER THE INPUT: true; the input reads as it did. -/
def treapSetsSpec : ChangeSpec := { name := "treapSets", fn := fun _ => fun
  | [d1, d2, d3] => { results := [.lit (.bool true)], args := [d1, d2, d3] }
  | _ => none }
def treapSetsRow : OpenClaim := { program := "ytbjniaihkllmdaa", sum := "a512fc17d9248b54261afbf5ea5007fa0937f123daf22dcf434e79e41b0fc71c", func := "quilt/quiltlaw06.TreapSets", spec := "treapSets", inPlace := ["internal/bytealg.abigen_runtime_cmpstring"], unfollowed := true, recurses := true, loops := true, apart := false }
def TreapSetsSaid : Prop := treapSetsRow.holds Try.pinned (OpenSpec.ofChange treapSetsSpec)

/-- ITS FALSE NEIGHBOUR: 'it returns false'. Refute it at one input. -/
def treapSetsWrong : ChangeSpec := { name := "treapSets", fn := fun _ => fun
  | [d1, d2, d3] => { results := [.lit (.bool false)], args := [d1, d2, d3] }
  | _ => none }
def TreapSetsWrongFalsely : Prop := treapSetsRow.holds Try.pinned (OpenSpec.ofChange treapSetsWrong)

/-- 'quiltlaw06.TreapEdits': WHATEVER THE INPUT: true; the input reads as it did. -/
def treapEditsSpec : ChangeSpec := { name := "treapEdits", fn := fun _ => fun
  | [d1, d2, d3] => { results := [.lit (.bool true)], args := [d1, d2, d3] }
  | _ => none }
def treapEditsRow : OpenClaim := { program := "ytbjniaihkllmdaa", sum := "a512fc17d9248b54261afbf5ea5007fa0937f123daf22dcf434e79e41b0fc71c", func := "quilt/quiltlaw06.TreapEdits", spec := "treapEdits", inPlace := ["internal/bytealg.abigen_runtime_cmpstring"], unfollowed := true, recurses := true, loops := true, apart := false }
def TreapEditsSaid : Prop := treapEditsRow.holds Try.pinned (OpenSpec.ofChange treapEditsSpec)

/-- ITS FALSE NEIGHBOUR: 'it returns false'. Refute it at one input. -/
def treapEditsWrong : ChangeSpec := { name := "treapEdits", fn := fun _ => fun
  | [d1, d2, d3] => { results := [.lit (.bool false)], args := [d1, d2, d3] }
  | _ => none }
def TreapEditsWrongFalsely : Prop := treapEditsRow.holds Try.pinned (OpenSpec.ofChange treapEditsWrong)

/-- 'quiltlaw06.TreapPut': WHATEVER THE INPUT: true; the input reads as it did. -/
def treapPutSpec : ChangeSpec := { name := "treapPut", fn := fun _ => fun
  | [d1, d2, d3, d4] => { results := [.lit (.bool true)], args := [d1, d2, d3, d4] }
  | _ => none }
def treapPutRow : OpenClaim := { program := "ytbjniaihkllmdaa", sum := "a512fc17d9248b54261afbf5ea5007fa0937f123daf22dcf434e79e41b0fc71c", func := "quilt/quiltlaw06.TreapPut", spec := "treapPut", inPlace := ["internal/bytealg.abigen_runtime_cmpstring"], unfollowed := true, recurses := true, loops := true, apart := false }
def TreapPutSaid : Prop := treapPutRow.holds Try.pinned (OpenSpec.ofChange treapPutSpec)

/-- ITS FALSE NEIGHBOUR: 'it returns false'. Refute it at one input. -/
def treapPutWrong : ChangeSpec := { name := "treapPut", fn := fun _ => fun
  | [d1, d2, d3, d4] => { results := [.lit (.bool false)], args := [d1, d2, d3, d4] }
  | _ => none }
def TreapPutWrongFalsely : Prop := treapPutRow.holds Try.pinned (OpenSpec.ofChange treapPutWrong)

/- THE SECOND FORM. 'bulk': how many values and letters a reading holds, each counted each time it is reached (what is shared counts as often as it is met; a slice's spare places count too). A statement '..UptoSaid' is the law's where the arguments, and the package variables that the reading takes, are together of bulk at most 1048576: NARROWER than '..Said'. Prove '..Said' where nothing that the law and all that it calls make is longer than what came in: it says more and counts as full. Else prove '..UptoSaid'. A law counts once. -/
mutual
def uptoBulk {H : Type} : DataW H → Nat
  | .lit (.string bytes) => bytes.length + 1
  | .lit _ => 1
  | .nil => 1
  | .ptr d => uptoBulk d + 1
  | .slice elems spare => uptoBulkAll elems + uptoBulkAll spare + 1
  | .agg parts => uptoBulkAll parts + 1
  | .iface _ d => uptoBulk d + 1
  | .map entries => uptoBulkEntries entries + 1
  | .held _ => 1
def uptoBulkAll {H : Type} : List (DataW H) → Nat
  | [] => 0
  | d :: r => uptoBulk d + uptoBulkAll r
def uptoBulkEntries {H : Type} : List (Lit × DataW H) → Nat
  | [] => 0
  | x :: r => uptoBulkEntry x + uptoBulkEntries r
def uptoBulkEntry {H : Type} : Lit × DataW H → Nat
  | (.string bytes, d) => bytes.length + uptoBulk d + 1
  | (_, d) => uptoBulk d + 1
 end
def uptoSmall : (H : Type) → List (DataW H) → Bool := fun _ ds => decide (uptoBulkAll ds ≤ 1048576)
def OpenSpec.upto (s : _root_.Go.ChangeSpec) : _root_.Go.OpenSpec := { _root_.Go.OpenSpec.ofChange s with cond := some uptoSmall }

/-- 'quiltlaw06.TreapCheck', WHERE WHAT IT READS IS OF BULK AT MOST 1048576: true; the input reads as it did. -/
def treapCheckUptoRow : OpenClaim := { program := "ytbjniaihkllmdaa", sum := "a512fc17d9248b54261afbf5ea5007fa0937f123daf22dcf434e79e41b0fc71c", func := "quilt/quiltlaw06.TreapCheck", spec := "treapCheck", inPlace := ["internal/bytealg.abigen_runtime_cmpstring"], unfollowed := true, recurses := true, loops := true, apart := false, narrowed := true }
def TreapCheckUptoSaid : Prop := treapCheckUptoRow.holds Try.pinned (OpenSpec.upto treapCheckSpec)

/-- 'quiltlaw06.TreapShape', WHERE WHAT IT READS IS OF BULK AT MOST 1048576: true; the input reads as it did. -/
def treapShapeUptoRow : OpenClaim := { program := "ytbjniaihkllmdaa", sum := "a512fc17d9248b54261afbf5ea5007fa0937f123daf22dcf434e79e41b0fc71c", func := "quilt/quiltlaw06.TreapShape", spec := "treapShape", inPlace := ["internal/bytealg.abigen_runtime_cmpstring"], unfollowed := true, recurses := true, apart := false, narrowed := true }
def TreapShapeUptoSaid : Prop := treapShapeUptoRow.holds Try.pinned (OpenSpec.upto treapShapeSpec)

/-- 'quiltlaw06.TreapUnique', WHERE WHAT IT READS IS OF BULK AT MOST 1048576: true; the input reads as it did. -/
def treapUniqueUptoRow : OpenClaim := { program := "ytbjniaihkllmdaa", sum := "a512fc17d9248b54261afbf5ea5007fa0937f123daf22dcf434e79e41b0fc71c", func := "quilt/quiltlaw06.TreapUnique", spec := "treapUnique", inPlace := ["internal/bytealg.abigen_runtime_cmpstring"], unfollowed := true, recurses := true, loops := true, apart := false, narrowed := true }
def TreapUniqueUptoSaid : Prop := treapUniqueUptoRow.holds Try.pinned (OpenSpec.upto treapUniqueSpec)

/-- 'quiltlaw06.TreapReads', WHERE WHAT IT READS IS OF BULK AT MOST 1048576: true; the input reads as it did. -/
def treapReadsUptoRow : OpenClaim := { program := "ytbjniaihkllmdaa", sum := "a512fc17d9248b54261afbf5ea5007fa0937f123daf22dcf434e79e41b0fc71c", func := "quilt/quiltlaw06.TreapReads", spec := "treapReads", inPlace := ["internal/bytealg.abigen_runtime_cmpstring"], unfollowed := true, recurses := true, loops := true, apart := false, narrowed := true }
def TreapReadsUptoSaid : Prop := treapReadsUptoRow.holds Try.pinned (OpenSpec.upto treapReadsSpec)

/-- 'quiltlaw06.TreapUnion', WHERE WHAT IT READS IS OF BULK AT MOST 1048576: true; the input reads as it did. -/
def treapUnionUptoRow : OpenClaim := { program := "ytbjniaihkllmdaa", sum := "a512fc17d9248b54261afbf5ea5007fa0937f123daf22dcf434e79e41b0fc71c", func := "quilt/quiltlaw06.TreapUnion", spec := "treapUnion", inPlace := ["internal/bytealg.abigen_runtime_cmpstring"], unfollowed := true, recurses := true, loops := true, apart := false, narrowed := true }
def TreapUnionUptoSaid : Prop := treapUnionUptoRow.holds Try.pinned (OpenSpec.upto treapUnionSpec)

/-- 'quiltlaw06.TreapSplits', WHERE WHAT IT READS IS OF BULK AT MOST 1048576: true; the input reads as it did. -/
def treapSplitsUptoRow : OpenClaim := { program := "ytbjniaihkllmdaa", sum := "a512fc17d9248b54261afbf5ea5007fa0937f123daf22dcf434e79e41b0fc71c", func := "quilt/quiltlaw06.TreapSplits", spec := "treapSplits", inPlace := ["internal/bytealg.abigen_runtime_cmpstring"], unfollowed := true, recurses := true, loops := true, apart := false, narrowed := true }
def TreapSplitsUptoSaid : Prop := treapSplitsUptoRow.holds Try.pinned (OpenSpec.upto treapSplitsSpec)

/-- 'quiltlaw06.TreapDiff', WHERE WHAT IT READS IS OF BULK AT MOST 1048576: true; the input reads as it did. -/
def treapDiffUptoRow : OpenClaim := { program := "ytbjniaihkllmdaa", sum := "a512fc17d9248b54261afbf5ea5007fa0937f123daf22dcf434e79e41b0fc71c", func := "quilt/quiltlaw06.TreapDiff", spec := "treapDiff", inPlace := ["internal/bytealg.abigen_runtime_cmpstring"], unfollowed := true, recurses := true, loops := true, apart := false, narrowed := true }
def TreapDiffUptoSaid : Prop := treapDiffUptoRow.holds Try.pinned (OpenSpec.upto treapDiffSpec)

/-- 'quiltlaw06.TreapSets', WHERE WHAT IT READS IS OF BULK AT MOST 1048576: true; the input reads as it did. -/
def treapSetsUptoRow : OpenClaim := { program := "ytbjniaihkllmdaa", sum := "a512fc17d9248b54261afbf5ea5007fa0937f123daf22dcf434e79e41b0fc71c", func := "quilt/quiltlaw06.TreapSets", spec := "treapSets", inPlace := ["internal/bytealg.abigen_runtime_cmpstring"], unfollowed := true, recurses := true, loops := true, apart := false, narrowed := true }
def TreapSetsUptoSaid : Prop := treapSetsUptoRow.holds Try.pinned (OpenSpec.upto treapSetsSpec)

/-- 'quiltlaw06.TreapEdits', WHERE WHAT IT READS IS OF BULK AT MOST 1048576: true; the input reads as it did. -/
def treapEditsUptoRow : OpenClaim := { program := "ytbjniaihkllmdaa", sum := "a512fc17d9248b54261afbf5ea5007fa0937f123daf22dcf434e79e41b0fc71c", func := "quilt/quiltlaw06.TreapEdits", spec := "treapEdits", inPlace := ["internal/bytealg.abigen_runtime_cmpstring"], unfollowed := true, recurses := true, loops := true, apart := false, narrowed := true }
def TreapEditsUptoSaid : Prop := treapEditsUptoRow.holds Try.pinned (OpenSpec.upto treapEditsSpec)

/-- 'quiltlaw06.TreapPut', WHERE WHAT IT READS IS OF BULK AT MOST 1048576: true; the input reads as it did. -/
def treapPutUptoRow : OpenClaim := { program := "ytbjniaihkllmdaa", sum := "a512fc17d9248b54261afbf5ea5007fa0937f123daf22dcf434e79e41b0fc71c", func := "quilt/quiltlaw06.TreapPut", spec := "treapPut", inPlace := ["internal/bytealg.abigen_runtime_cmpstring"], unfollowed := true, recurses := true, loops := true, apart := false, narrowed := true }
def TreapPutUptoSaid : Prop := treapPutUptoRow.holds Try.pinned (OpenSpec.upto treapPutSpec)

end Rows
end Go.Proofs.Ytbjniaihkllmdaa

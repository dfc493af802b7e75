/-
  No cell of these rows narrows 'for every input' (looked for: loops, veiled, ifaces, maps, wideKeys, modest, calm, conditions, laid).
  DERIVED. THE GIVEN ROWS OF THIS SEAT. 7 by the template 'for every input the law returns true; each argument reads behind the call as it read before'; 0 by the template 'total and deterministic' (their statements: YtkkjhkmfoeblaaaTotals.lean).
  GIVEN WITH THE SEED: the statements are not yours to turn. If you find one false, say at which input.
  Laid BY PROGRAM, IN A SANDBOX (cutbox-rows.mjs): the forced cells as the released guide's own fill.sh prints them over the translation 7b7a4cfd53f9cdde… (all of the seat's roots in one cut). By AI agents, Wed Nov 11 2026. No macro, syntax, notation, axiom, sorry.
-/
import Derived.Test.YtkkjhkmfoeblaaaChecked
import GoSem.Claim
import GoSem.ClaimJoined
import GoSem.ClaimMapViews
import Derived.JoinedTies
import Derived.KernelRfl
namespace Go.Proofs.Ytkkjhkmfoeblaaa
/- THE CELL 'sum', in the pinned program and in every row, IS THE sha256 OF THE DUMP (.gsa) THAT YtkkjhkmfoeblaaaProg.lean LOADS. Nothing in Lean hashes anything: it is a label: what it is worth is what the hold of that sum in a sandbox is worth. -/
noncomputable def Try.pinned : Pinned := { name := "ytkkjhkmfoeblaaa", sum := "7b7a4cfd53f9cddee72f29a9b935ad2db3520375257f239eeb1438e11f0ea433", checked := Try.checked }
namespace Rows
def none {H : Type} : Left H := { results := [], args := [] }

/-- 'quiltlaw07.HistogramBest': WHATEVER THE INPUT: true; the input reads as it did. -/
def histogramBestSpec : ChangeSpec := { name := "histogramBest", fn := fun _ => fun
  | [d1, d2] => { results := [.lit (.bool true)], args := [d1, d2] }
  | _ => none }
def histogramBestRow : OpenClaim := { program := "ytkkjhkmfoeblaaa", sum := "7b7a4cfd53f9cddee72f29a9b935ad2db3520375257f239eeb1438e11f0ea433", func := "quilt/quiltlaw07.HistogramBest", spec := "histogramBest", unfollowed := true, recurses := true, apart := false }
def HistogramBestSaid : Prop := histogramBestRow.holds Try.pinned (OpenSpec.ofChange histogramBestSpec)

/-- ITS FALSE NEIGHBOUR: 'it returns false'. Refute it at one input. -/
def histogramBestWrong : ChangeSpec := { name := "histogramBest", fn := fun _ => fun
  | [d1, d2] => { results := [.lit (.bool false)], args := [d1, d2] }
  | _ => none }
def HistogramBestWrongFalsely : Prop := histogramBestRow.holds Try.pinned (OpenSpec.ofChange histogramBestWrong)

/-- 'quiltlaw07.HistogramDiff': WHATEVER THE INPUT: true; the input reads as it did. -/
def histogramDiffSpec : ChangeSpec := { name := "histogramDiff", fn := fun _ => fun
  | [d1, d2] => { results := [.lit (.bool true)], args := [d1, d2] }
  | _ => none }
def histogramDiffRow : OpenClaim := { program := "ytkkjhkmfoeblaaa", sum := "7b7a4cfd53f9cddee72f29a9b935ad2db3520375257f239eeb1438e11f0ea433", func := "quilt/quiltlaw07.HistogramDiff", spec := "histogramDiff", unfollowed := true, recurses := true, apart := false }
def HistogramDiffSaid : Prop := histogramDiffRow.holds Try.pinned (OpenSpec.ofChange histogramDiffSpec)

/-- ITS FALSE NEIGHBOUR: 'it returns false'. Refute it at one input. -/
def histogramDiffWrong : ChangeSpec := { name := "histogramDiff", fn := fun _ => fun
  | [d1, d2] => { results := [.lit (.bool false)], args := [d1, d2] }
  | _ => none }
def HistogramDiffWrongFalsely : Prop := histogramDiffRow.holds Try.pinned (OpenSpec.ofChange histogramDiffWrong)

/-- 'quiltlaw07.HistogramSelf': WHATEVER THE INPUT: true; the input reads as it did. -/
def histogramSelfSpec : ChangeSpec := { name := "histogramSelf", fn := fun _ => fun
  | [d] => { results := [.lit (.bool true)], args := [d] }
  | _ => none }
def histogramSelfRow : OpenClaim := { program := "ytkkjhkmfoeblaaa", sum := "7b7a4cfd53f9cddee72f29a9b935ad2db3520375257f239eeb1438e11f0ea433", func := "quilt/quiltlaw07.HistogramSelf", spec := "histogramSelf", unfollowed := true, recurses := true, apart := false }
def HistogramSelfSaid : Prop := histogramSelfRow.holds Try.pinned (OpenSpec.ofChange histogramSelfSpec)

/-- ITS FALSE NEIGHBOUR: 'it returns false'. Refute it at one input. -/
def histogramSelfWrong : ChangeSpec := { name := "histogramSelf", fn := fun _ => fun
  | [d] => { results := [.lit (.bool false)], args := [d] }
  | _ => none }
def HistogramSelfWrongFalsely : Prop := histogramSelfRow.holds Try.pinned (OpenSpec.ofChange histogramSelfWrong)

/-- 'quiltlaw07.HistogramDivides': WHATEVER THE INPUT: true; the input reads as it did. -/
def histogramDividesSpec : ChangeSpec := { name := "histogramDivides", fn := fun _ => fun
  | [d1, d2] => { results := [.lit (.bool true)], args := [d1, d2] }
  | _ => none }
def histogramDividesRow : OpenClaim := { program := "ytkkjhkmfoeblaaa", sum := "7b7a4cfd53f9cddee72f29a9b935ad2db3520375257f239eeb1438e11f0ea433", func := "quilt/quiltlaw07.HistogramDivides", spec := "histogramDivides", unfollowed := true, recurses := true, apart := false }
def HistogramDividesSaid : Prop := histogramDividesRow.holds Try.pinned (OpenSpec.ofChange histogramDividesSpec)

/-- ITS FALSE NEIGHBOUR: 'it returns false'. Refute it at one input. -/
def histogramDividesWrong : ChangeSpec := { name := "histogramDivides", fn := fun _ => fun
  | [d1, d2] => { results := [.lit (.bool false)], args := [d1, d2] }
  | _ => none }
def HistogramDividesWrongFalsely : Prop := histogramDividesRow.holds Try.pinned (OpenSpec.ofChange histogramDividesWrong)

/-- 'quiltlaw07.HistogramRarest': WHATEVER THE INPUT: true; the input reads as it did. -/
def histogramRarestSpec : ChangeSpec := { name := "histogramRarest", fn := fun _ => fun
  | [d1, d2] => { results := [.lit (.bool true)], args := [d1, d2] }
  | _ => none }
def histogramRarestRow : OpenClaim := { program := "ytkkjhkmfoeblaaa", sum := "7b7a4cfd53f9cddee72f29a9b935ad2db3520375257f239eeb1438e11f0ea433", func := "quilt/quiltlaw07.HistogramRarest", spec := "histogramRarest", unfollowed := true, recurses := true, apart := false }
def HistogramRarestSaid : Prop := histogramRarestRow.holds Try.pinned (OpenSpec.ofChange histogramRarestSpec)

/-- ITS FALSE NEIGHBOUR: 'it returns false'. Refute it at one input. -/
def histogramRarestWrong : ChangeSpec := { name := "histogramRarest", fn := fun _ => fun
  | [d1, d2] => { results := [.lit (.bool false)], args := [d1, d2] }
  | _ => none }
def HistogramRarestWrongFalsely : Prop := histogramRarestRow.holds Try.pinned (OpenSpec.ofChange histogramRarestWrong)

/-- 'quiltlaw07.HistogramMaximal': WHATEVER THE INPUT: true; the input reads as it did. -/
def histogramMaximalSpec : ChangeSpec := { name := "histogramMaximal", fn := fun _ => fun
  | [d1, d2] => { results := [.lit (.bool true)], args := [d1, d2] }
  | _ => none }
def histogramMaximalRow : OpenClaim := { program := "ytkkjhkmfoeblaaa", sum := "7b7a4cfd53f9cddee72f29a9b935ad2db3520375257f239eeb1438e11f0ea433", func := "quilt/quiltlaw07.HistogramMaximal", spec := "histogramMaximal", unfollowed := true, recurses := true, apart := false }
def HistogramMaximalSaid : Prop := histogramMaximalRow.holds Try.pinned (OpenSpec.ofChange histogramMaximalSpec)

/-- ITS FALSE NEIGHBOUR: 'it returns false'. Refute it at one input. -/
def histogramMaximalWrong : ChangeSpec := { name := "histogramMaximal", fn := fun _ => fun
  | [d1, d2] => { results := [.lit (.bool false)], args := [d1, d2] }
  | _ => none }
def HistogramMaximalWrongFalsely : Prop := histogramMaximalRow.holds Try.pinned (OpenSpec.ofChange histogramMaximalWrong)

/-- 'quiltlaw07.HistogramMatching': WHATEVER THE INPUT: true; the input reads as it did. -/
def histogramMatchingSpec : ChangeSpec := { name := "histogramMatching", fn := fun _ => fun
  | [d1, d2] => { results := [.lit (.bool true)], args := [d1, d2] }
  | _ => none }
def histogramMatchingRow : OpenClaim := { program := "ytkkjhkmfoeblaaa", sum := "7b7a4cfd53f9cddee72f29a9b935ad2db3520375257f239eeb1438e11f0ea433", func := "quilt/quiltlaw07.HistogramMatching", spec := "histogramMatching", unfollowed := true, recurses := true, apart := false }
def HistogramMatchingSaid : Prop := histogramMatchingRow.holds Try.pinned (OpenSpec.ofChange histogramMatchingSpec)

/-- ITS FALSE NEIGHBOUR: 'it returns false'. Refute it at one input. -/
def histogramMatchingWrong : ChangeSpec := { name := "histogramMatching", fn := fun _ => fun
  | [d1, d2] => { results := [.lit (.bool false)], args := [d1, d2] }
  | _ => none }
def HistogramMatchingWrongFalsely : Prop := histogramMatchingRow.holds Try.pinned (OpenSpec.ofChange histogramMatchingWrong)

/- THE SECOND FORM. 'bulk': how many values and letters a reading holds, each counted each time it is reached (what is shared counts as often as it is met; a slice's spare places count too). A statement '..UptoSaid' is the law's where the arguments, and the package variables that the reading takes, are together of bulk at most 1048576: NARROWER than '..Said'. Prove '..Said' where nothing that the law and all that it calls make is longer than what came in: it says more and counts as full. Else prove '..UptoSaid'. A law counts once. -/
mutual
def uptoBulk {H : Type} : DataW H → Nat
  | .lit (.string bytes) => bytes.length + 1
  | .lit _ => 1
  | .nil => 1
  | .ptr d => uptoBulk d + 1
  | .slice elems spare => uptoBulkAll elems + uptoBulkAll spare + 1
  | .agg parts => uptoBulkAll parts + 1
  | .iface _ d => uptoBulk d + 1
  | .map entries => uptoBulkEntries entries + 1
  | .held _ => 1
def uptoBulkAll {H : Type} : List (DataW H) → Nat
  | [] => 0
  | d :: r => uptoBulk d + uptoBulkAll r
def uptoBulkEntries {H : Type} : List (Lit × DataW H) → Nat
  | [] => 0
  | x :: r => uptoBulkEntry x + uptoBulkEntries r
def uptoBulkEntry {H : Type} : Lit × DataW H → Nat
  | (.string bytes, d) => bytes.length + uptoBulk d + 1
  | (_, d) => uptoBulk d + 1
 end
def uptoSmall : (H : Type) → List (DataW H) → Bool := fun _ ds => decide (uptoBulkAll ds ≤ 1048576)
def OpenSpec.upto (s : _root_.Go.ChangeSpec) : _root_.Go.OpenSpec := { _root_.Go.OpenSpec.ofChange s with cond := some uptoSmall }

/-- 'quiltlaw07.HistogramBest', WHERE WHAT IT READS IS OF BULK AT MOST 1048576: true; the input reads as it did. -/
def histogramBestUptoRow : OpenClaim := { program := "ytkkjhkmfoeblaaa", sum := "7b7a4cfd53f9cddee72f29a9b935ad2db3520375257f239eeb1438e11f0ea433", func := "quilt/quiltlaw07.HistogramBest", spec := "histogramBest", unfollowed := true, recurses := true, apart := false, narrowed := true }
def HistogramBestUptoSaid : Prop := histogramBestUptoRow.holds Try.pinned (OpenSpec.upto histogramBestSpec)

/-- 'quiltlaw07.HistogramDiff', WHERE WHAT IT READS IS OF BULK AT MOST 1048576: true; the input reads as it did. -/
def histogramDiffUptoRow : OpenClaim := { program := "ytkkjhkmfoeblaaa", sum := "7b7a4cfd53f9cddee72f29a9b935ad2db3520375257f239eeb1438e11f0ea433", func := "quilt/quiltlaw07.HistogramDiff", spec := "histogramDiff", unfollowed := true, recurses := true, apart := false, narrowed := true }
def HistogramDiffUptoSaid : Prop := histogramDiffUptoRow.holds Try.pinned (OpenSpec.upto histogramDiffSpec)

/-- 'quiltlaw07.HistogramSelf', WHERE WHAT IT READS IS OF BULK AT MOST 1048576: true; the input reads as it did. -/
def histogramSelfUptoRow : OpenClaim := { program := "ytkkjhkmfoeblaaa", sum := "7b7a4cfd53f9cddee72f29a9b935ad2db3520375257f239eeb1438e11f0ea433", func := "quilt/quiltlaw07.HistogramSelf", spec := "histogramSelf", unfollowed := true, recurses := true, apart := false, narrowed := true }
def HistogramSelfUptoSaid : Prop := histogramSelfUptoRow.holds Try.pinned (OpenSpec.upto histogramSelfSpec)

/-- 'quiltlaw07.HistogramDivides', WHERE WHAT IT READS IS OF BULK AT MOST 1048576: true; the input reads as it did. -/
def histogramDividesUptoRow : OpenClaim := { program := "ytkkjhkmfoeblaaa", sum := "7b7a4cfd53f9cddee72f29a9b935ad2db3520375257f239eeb1438e11f0ea433", func := "quilt/quiltlaw07.HistogramDivides", spec := "histogramDivides", unfollowed := true, recurses := true, apart := false, narrowed := true }
def HistogramDividesUptoSaid : Prop := histogramDividesUptoRow.holds Try.pinned (OpenSpec.upto histogramDividesSpec)

/-- 'quiltlaw07.HistogramRarest', WHERE WHAT IT READS IS OF BULK AT MOST 1048576: true; the input reads as it did. -/
def histogramRarestUptoRow : OpenClaim := { program := "ytkkjhkmfoeblaaa", sum := "7b7a4cfd53f9cddee72f29a9b935ad2db3520375257f239eeb1438e11f0ea433", func := "quilt/quiltlaw07.HistogramRarest", spec := "histogramRarest", unfollowed := true, recurses := true, apart := false, narrowed := true }
def HistogramRarestUptoSaid : Prop := histogramRarestUptoRow.holds Try.pinned (OpenSpec.upto histogramRarestSpec)

/-- 'quiltlaw07.HistogramMaximal', WHERE WHAT IT READS IS OF BULK AT MOST 1048576: true; the input reads as it did. -/
def histogramMaximalUptoRow : OpenClaim := { program := "ytkkjhkmfoeblaaa", sum := "7b7a4cfd53f9cddee72f29a9b935ad2db3520375257f239eeb1438e11f0ea433", func := "quilt/quiltlaw07.HistogramMaximal", spec := "histogramMaximal", unfollowed := true, recurses := true, apart := false, narrowed := true }
def HistogramMaximalUptoSaid : Prop := histogramMaximalUptoRow.holds Try.pinned (OpenSpec.upto histogramMaximalSpec)

/-- 'quiltlaw07.HistogramMatching', WHERE WHAT IT READS IS OF BULK AT MOST 1048576: true; the input reads as it did. -/
def histogramMatchingUptoRow : OpenClaim := { program := "ytkkjhkmfoeblaaa", sum := "7b7a4cfd53f9cddee72f29a9b935ad2db3520375257f239eeb1438e11f0ea433", func := "quilt/quiltlaw07.HistogramMatching", spec := "histogramMatching", unfollowed := true, recurses := true, apart := false, narrowed := true }
def HistogramMatchingUptoSaid : Prop := histogramMatchingUptoRow.holds Try.pinned (OpenSpec.upto histogramMatchingSpec)

end Rows
end Go.Proofs.Ytkkjhkmfoeblaaa

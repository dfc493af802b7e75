/-
  No cell of these rows narrows 'for every input' (looked for: loops, veiled, ifaces, maps, wideKeys, modest, calm, conditions, laid).
  DERIVED. THE GIVEN ROWS OF THIS SEAT. 9 by the template 'for every input the law returns true; each argument reads behind the call as it read before'; 0 by the template 'total and deterministic' (their statements: YtmagicjmenbdpaaTotals.lean).
  GIVEN WITH THE SEED: the statements are not yours to turn. If you find one false, say at which input.
  Laid BY PROGRAM, IN A SANDBOX (cutbox-rows.mjs): the forced cells as the released guide's own fill.sh prints them over the translation ab9d4d540829abb7… (all of the seat's roots in one cut). By AI agents, Wed Nov 11 2026. No macro, syntax, notation, axiom, sorry.
-/
import Derived.Test.YtmagicjmenbdpaaChecked
import GoSem.Claim
import GoSem.ClaimJoined
import GoSem.ClaimMapViews
import Derived.JoinedTies
import Derived.KernelRfl
namespace Go.Proofs.Ytmagicjmenbdpaa
/- THE CELL 'sum', in the pinned program and in every row, IS THE sha256 OF THE DUMP (.gsa) THAT YtmagicjmenbdpaaProg.lean LOADS. Nothing in Lean hashes anything: it is a label: what it is worth is what the hold of that sum in a sandbox is worth. -/
noncomputable def Try.pinned : Pinned := { name := "ytmagicjmenbdpaa", sum := "ab9d4d540829abb7649c9a65f620036228e0719eaeb9767293056f0b6871bc13", checked := Try.checked }
namespace Rows
def none {H : Type} : Left H := { results := [], args := [] }

/-- 'quiltlaw03.MyersCheck': WHATEVER THE INPUT: true; the input reads as it did. -/
def myersCheckSpec : ChangeSpec := { name := "myersCheck", fn := fun _ => fun
  | [d1, d2, d3] => { results := [.lit (.bool true)], args := [d1, d2, d3] }
  | _ => none }
def myersCheckRow : OpenClaim := { program := "ytmagicjmenbdpaa", sum := "ab9d4d540829abb7649c9a65f620036228e0719eaeb9767293056f0b6871bc13", func := "quilt/quiltlaw03.MyersCheck", spec := "myersCheck", unfollowed := true, recurses := true, apart := false }
def MyersCheckSaid : Prop := myersCheckRow.holds Try.pinned (OpenSpec.ofChange myersCheckSpec)

/-- ITS FALSE NEIGHBOUR: 'it returns false'. Refute it at one input. -/
def myersCheckWrong : ChangeSpec := { name := "myersCheck", fn := fun _ => fun
  | [d1, d2, d3] => { results := [.lit (.bool false)], args := [d1, d2, d3] }
  | _ => none }
def MyersCheckWrongFalsely : Prop := myersCheckRow.holds Try.pinned (OpenSpec.ofChange myersCheckWrong)

/-- 'quiltlaw03.MyersDiff': WHATEVER THE INPUT: true; the input reads as it did. -/
def myersDiffSpec : ChangeSpec := { name := "myersDiff", fn := fun _ => fun
  | [d1, d2] => { results := [.lit (.bool true)], args := [d1, d2] }
  | _ => none }
def myersDiffRow : OpenClaim := { program := "ytmagicjmenbdpaa", sum := "ab9d4d540829abb7649c9a65f620036228e0719eaeb9767293056f0b6871bc13", func := "quilt/quiltlaw03.MyersDiff", spec := "myersDiff", unfollowed := true, recurses := true, apart := false }
def MyersDiffSaid : Prop := myersDiffRow.holds Try.pinned (OpenSpec.ofChange myersDiffSpec)

/-- ITS FALSE NEIGHBOUR: 'it returns false'. Refute it at one input. -/
def myersDiffWrong : ChangeSpec := { name := "myersDiff", fn := fun _ => fun
  | [d1, d2] => { results := [.lit (.bool false)], args := [d1, d2] }
  | _ => none }
def MyersDiffWrongFalsely : Prop := myersDiffRow.holds Try.pinned (OpenSpec.ofChange myersDiffWrong)

/-- 'quiltlaw03.MyersMatching': WHATEVER THE INPUT: true; the input reads as it did. -/
def myersMatchingSpec : ChangeSpec := { name := "myersMatching", fn := fun _ => fun
  | [d1, d2] => { results := [.lit (.bool true)], args := [d1, d2] }
  | _ => none }
def myersMatchingRow : OpenClaim := { program := "ytmagicjmenbdpaa", sum := "ab9d4d540829abb7649c9a65f620036228e0719eaeb9767293056f0b6871bc13", func := "quilt/quiltlaw03.MyersMatching", spec := "myersMatching", unfollowed := true, recurses := true, apart := false }
def MyersMatchingSaid : Prop := myersMatchingRow.holds Try.pinned (OpenSpec.ofChange myersMatchingSpec)

/-- ITS FALSE NEIGHBOUR: 'it returns false'. Refute it at one input. -/
def myersMatchingWrong : ChangeSpec := { name := "myersMatching", fn := fun _ => fun
  | [d1, d2] => { results := [.lit (.bool false)], args := [d1, d2] }
  | _ => none }
def MyersMatchingWrongFalsely : Prop := myersMatchingRow.holds Try.pinned (OpenSpec.ofChange myersMatchingWrong)

/-- 'quiltlaw03.MyersShortest': WHATEVER THE INPUT: true; the input reads as it did. -/
def myersShortestSpec : ChangeSpec := { name := "myersShortest", fn := fun _ => fun
  | [d1, d2, d3] => { results := [.lit (.bool true)], args := [d1, d2, d3] }
  | _ => none }
def myersShortestRow : OpenClaim := { program := "ytmagicjmenbdpaa", sum := "ab9d4d540829abb7649c9a65f620036228e0719eaeb9767293056f0b6871bc13", func := "quilt/quiltlaw03.MyersShortest", spec := "myersShortest", unfollowed := true, recurses := true, apart := false }
def MyersShortestSaid : Prop := myersShortestRow.holds Try.pinned (OpenSpec.ofChange myersShortestSpec)

/-- ITS FALSE NEIGHBOUR: 'it returns false'. Refute it at one input. -/
def myersShortestWrong : ChangeSpec := { name := "myersShortest", fn := fun _ => fun
  | [d1, d2, d3] => { results := [.lit (.bool false)], args := [d1, d2, d3] }
  | _ => none }
def MyersShortestWrongFalsely : Prop := myersShortestRow.holds Try.pinned (OpenSpec.ofChange myersShortestWrong)

/-- 'quiltlaw03.MyersMetric': WHATEVER THE INPUT: true; the input reads as it did. -/
def myersMetricSpec : ChangeSpec := { name := "myersMetric", fn := fun _ => fun
  | [d1, d2, d3] => { results := [.lit (.bool true)], args := [d1, d2, d3] }
  | _ => none }
def myersMetricRow : OpenClaim := { program := "ytmagicjmenbdpaa", sum := "ab9d4d540829abb7649c9a65f620036228e0719eaeb9767293056f0b6871bc13", func := "quilt/quiltlaw03.MyersMetric", spec := "myersMetric", unfollowed := true, recurses := true, apart := false }
def MyersMetricSaid : Prop := myersMetricRow.holds Try.pinned (OpenSpec.ofChange myersMetricSpec)

/-- ITS FALSE NEIGHBOUR: 'it returns false'. Refute it at one input. -/
def myersMetricWrong : ChangeSpec := { name := "myersMetric", fn := fun _ => fun
  | [d1, d2, d3] => { results := [.lit (.bool false)], args := [d1, d2, d3] }
  | _ => none }
def MyersMetricWrongFalsely : Prop := myersMetricRow.holds Try.pinned (OpenSpec.ofChange myersMetricWrong)

/-- 'quiltlaw03.MyersCommon': WHATEVER THE INPUT: true; the input reads as it did. -/
def myersCommonSpec : ChangeSpec := { name := "myersCommon", fn := fun _ => fun
  | [d1, d2, d3] => { results := [.lit (.bool true)], args := [d1, d2, d3] }
  | _ => none }
def myersCommonRow : OpenClaim := { program := "ytmagicjmenbdpaa", sum := "ab9d4d540829abb7649c9a65f620036228e0719eaeb9767293056f0b6871bc13", func := "quilt/quiltlaw03.MyersCommon", spec := "myersCommon", unfollowed := true, recurses := true, apart := false }
def MyersCommonSaid : Prop := myersCommonRow.holds Try.pinned (OpenSpec.ofChange myersCommonSpec)

/-- ITS FALSE NEIGHBOUR: 'it returns false'. Refute it at one input. -/
def myersCommonWrong : ChangeSpec := { name := "myersCommon", fn := fun _ => fun
  | [d1, d2, d3] => { results := [.lit (.bool false)], args := [d1, d2, d3] }
  | _ => none }
def MyersCommonWrongFalsely : Prop := myersCommonRow.holds Try.pinned (OpenSpec.ofChange myersCommonWrong)

/-- 'quiltlaw03.MyersCertify': WHATEVER THE INPUT: true; the input reads as it did. -/
def myersCertifySpec : ChangeSpec := { name := "myersCertify", fn := fun _ => fun
  | [d1, d2, d3] => { results := [.lit (.bool true)], args := [d1, d2, d3] }
  | _ => none }
def myersCertifyRow : OpenClaim := { program := "ytmagicjmenbdpaa", sum := "ab9d4d540829abb7649c9a65f620036228e0719eaeb9767293056f0b6871bc13", func := "quilt/quiltlaw03.MyersCertify", spec := "myersCertify", unfollowed := true, recurses := true, apart := false }
def MyersCertifySaid : Prop := myersCertifyRow.holds Try.pinned (OpenSpec.ofChange myersCertifySpec)

/-- ITS FALSE NEIGHBOUR: 'it returns false'. Refute it at one input. -/
def myersCertifyWrong : ChangeSpec := { name := "myersCertify", fn := fun _ => fun
  | [d1, d2, d3] => { results := [.lit (.bool false)], args := [d1, d2, d3] }
  | _ => none }
def MyersCertifyWrongFalsely : Prop := myersCertifyRow.holds Try.pinned (OpenSpec.ofChange myersCertifyWrong)

/-- 'quiltlaw03.MyersCertificate': WHATEVER THE INPUT: true; the input reads as it did. -/
def myersCertificateSpec : ChangeSpec := { name := "myersCertificate", fn := fun _ => fun
  | [d1, d2] => { results := [.lit (.bool true)], args := [d1, d2] }
  | _ => none }
def myersCertificateRow : OpenClaim := { program := "ytmagicjmenbdpaa", sum := "ab9d4d540829abb7649c9a65f620036228e0719eaeb9767293056f0b6871bc13", func := "quilt/quiltlaw03.MyersCertificate", spec := "myersCertificate", unfollowed := true, recurses := true, apart := false }
def MyersCertificateSaid : Prop := myersCertificateRow.holds Try.pinned (OpenSpec.ofChange myersCertificateSpec)

/-- ITS FALSE NEIGHBOUR: 'it returns false'. Refute it at one input. -/
def myersCertificateWrong : ChangeSpec := { name := "myersCertificate", fn := fun _ => fun
  | [d1, d2] => { results := [.lit (.bool false)], args := [d1, d2] }
  | _ => none }
def MyersCertificateWrongFalsely : Prop := myersCertificateRow.holds Try.pinned (OpenSpec.ofChange myersCertificateWrong)

/-- 'quiltlaw03.MyersBound': WHATEVER THE INPUT: true; the input reads as it did. -/
def myersBoundSpec : ChangeSpec := { name := "myersBound", fn := fun _ => fun
  | [d1, d2, d3, d4] => { results := [.lit (.bool true)], args := [d1, d2, d3, d4] }
  | _ => none }
def myersBoundRow : OpenClaim := { program := "ytmagicjmenbdpaa", sum := "ab9d4d540829abb7649c9a65f620036228e0719eaeb9767293056f0b6871bc13", func := "quilt/quiltlaw03.MyersBound", spec := "myersBound", unfollowed := true, recurses := true, apart := false }
def MyersBoundSaid : Prop := myersBoundRow.holds Try.pinned (OpenSpec.ofChange myersBoundSpec)

/-- ITS FALSE NEIGHBOUR: 'it returns false'. Refute it at one input. -/
def myersBoundWrong : ChangeSpec := { name := "myersBound", fn := fun _ => fun
  | [d1, d2, d3, d4] => { results := [.lit (.bool false)], args := [d1, d2, d3, d4] }
  | _ => none }
def MyersBoundWrongFalsely : Prop := myersBoundRow.holds Try.pinned (OpenSpec.ofChange myersBoundWrong)

/- THE SECOND FORM. 'bulk': how many values and letters a reading holds, each counted each time it is reached (what is shared counts as often as it is met; a slice's spare places count too). A statement '..UptoSaid' is the law's where the arguments, and the package variables that the reading takes, are together of bulk at most 1048576: NARROWER than '..Said'. Prove '..Said' where nothing that the law and all that it calls make is longer than what came in: it says more and counts as full. Else prove '..UptoSaid'. A law counts once. -/
mutual
def uptoBulk {H : Type} : DataW H → Nat
  | .lit (.string bytes) => bytes.length + 1
  | .lit _ => 1
  | .nil => 1
  | .ptr d => uptoBulk d + 1
  | .slice elems spare => uptoBulkAll elems + uptoBulkAll spare + 1
  | .agg parts => uptoBulkAll parts + 1
  | .iface _ d => uptoBulk d + 1
  | .map entries => uptoBulkEntries entries + 1
  | .held _ => 1
def uptoBulkAll {H : Type} : List (DataW H) → Nat
  | [] => 0
  | d :: r => uptoBulk d + uptoBulkAll r
def uptoBulkEntries {H : Type} : List (Lit × DataW H) → Nat
  | [] => 0
  | x :: r => uptoBulkEntry x + uptoBulkEntries r
def uptoBulkEntry {H : Type} : Lit × DataW H → Nat
  | (.string bytes, d) => bytes.length + uptoBulk d + 1
  | (_, d) => uptoBulk d + 1
 end
def uptoSmall : (H : Type) → List (DataW H) → Bool := fun _ ds => decide (uptoBulkAll ds ≤ 1048576)
def OpenSpec.upto (s : _root_.Go.ChangeSpec) : _root_.Go.OpenSpec := { _root_.Go.OpenSpec.ofChange s with cond := some uptoSmall }

/-- 'quiltlaw03.MyersCheck', WHERE WHAT IT READS IS OF BULK AT MOST 1048576: true; the input reads as it did. -/
def myersCheckUptoRow : OpenClaim := { program := "ytmagicjmenbdpaa", sum := "ab9d4d540829abb7649c9a65f620036228e0719eaeb9767293056f0b6871bc13", func := "quilt/quiltlaw03.MyersCheck", spec := "myersCheck", unfollowed := true, recurses := true, apart := false, narrowed := true }
def MyersCheckUptoSaid : Prop := myersCheckUptoRow.holds Try.pinned (OpenSpec.upto myersCheckSpec)

/-- 'quiltlaw03.MyersDiff', WHERE WHAT IT READS IS OF BULK AT MOST 1048576: true; the input reads as it did. -/
def myersDiffUptoRow : OpenClaim := { program := "ytmagicjmenbdpaa", sum := "ab9d4d540829abb7649c9a65f620036228e0719eaeb9767293056f0b6871bc13", func := "quilt/quiltlaw03.MyersDiff", spec := "myersDiff", unfollowed := true, recurses := true, apart := false, narrowed := true }
def MyersDiffUptoSaid : Prop := myersDiffUptoRow.holds Try.pinned (OpenSpec.upto myersDiffSpec)

/-- 'quiltlaw03.MyersMatching', WHERE WHAT IT READS IS OF BULK AT MOST 1048576: true; the input reads as it did. -/
def myersMatchingUptoRow : OpenClaim := { program := "ytmagicjmenbdpaa", sum := "ab9d4d540829abb7649c9a65f620036228e0719eaeb9767293056f0b6871bc13", func := "quilt/quiltlaw03.MyersMatching", spec := "myersMatching", unfollowed := true, recurses := true, apart := false, narrowed := true }
def MyersMatchingUptoSaid : Prop := myersMatchingUptoRow.holds Try.pinned (OpenSpec.upto myersMatchingSpec)

/-- 'quiltlaw03.MyersShortest', WHERE WHAT IT READS IS OF BULK AT MOST 1048576: true; the input reads as it did. -/
def myersShortestUptoRow : OpenClaim := { program := "ytmagicjmenbdpaa", sum := "ab9d4d540829abb7649c9a65f620036228e0719eaeb9767293056f0b6871bc13", func := "quilt/quiltlaw03.MyersShortest", spec := "myersShortest", unfollowed := true, recurses := true, apart := false, narrowed := true }
def MyersShortestUptoSaid : Prop := myersShortestUptoRow.holds Try.pinned (OpenSpec.upto myersShortestSpec)

/-- 'quiltlaw03.MyersMetric', WHERE WHAT IT READS IS OF BULK AT MOST 1048576: true; the input reads as it did. -/
def myersMetricUptoRow : OpenClaim := { program := "ytmagicjmenbdpaa", sum := "ab9d4d540829abb7649c9a65f620036228e0719eaeb9767293056f0b6871bc13", func := "quilt/quiltlaw03.MyersMetric", spec := "myersMetric", unfollowed := true, recurses := true, apart := false, narrowed := true }
def MyersMetricUptoSaid : Prop := myersMetricUptoRow.holds Try.pinned (OpenSpec.upto myersMetricSpec)

/-- 'quiltlaw03.MyersCommon', WHERE WHAT IT READS IS OF BULK AT MOST 1048576: true; the input reads as it did. -/
def myersCommonUptoRow : OpenClaim := { program := "ytmagicjmenbdpaa", sum := "ab9d4d540829abb7649c9a65f620036228e0719eaeb9767293056f0b6871bc13", func := "quilt/quiltlaw03.MyersCommon", spec := "myersCommon", unfollowed := true, recurses := true, apart := false, narrowed := true }
def MyersCommonUptoSaid : Prop := myersCommonUptoRow.holds Try.pinned (OpenSpec.upto myersCommonSpec)

/-- 'quiltlaw03.MyersCertify', WHERE WHAT IT READS IS OF BULK AT MOST 1048576: true; the input reads as it did. -/
def myersCertifyUptoRow : OpenClaim := { program := "ytmagicjmenbdpaa", sum := "ab9d4d540829abb7649c9a65f620036228e0719eaeb9767293056f0b6871bc13", func := "quilt/quiltlaw03.MyersCertify", spec := "myersCertify", unfollowed := true, recurses := true, apart := false, narrowed := true }
def MyersCertifyUptoSaid : Prop := myersCertifyUptoRow.holds Try.pinned (OpenSpec.upto myersCertifySpec)

/-- 'quiltlaw03.MyersCertificate', WHERE WHAT IT READS IS OF BULK AT MOST 1048576: true; the input reads as it did. -/
def myersCertificateUptoRow : OpenClaim := { program := "ytmagicjmenbdpaa", sum := "ab9d4d540829abb7649c9a65f620036228e0719eaeb9767293056f0b6871bc13", func := "quilt/quiltlaw03.MyersCertificate", spec := "myersCertificate", unfollowed := true, recurses := true, apart := false, narrowed := true }
def MyersCertificateUptoSaid : Prop := myersCertificateUptoRow.holds Try.pinned (OpenSpec.upto myersCertificateSpec)

/-- 'quiltlaw03.MyersBound', WHERE WHAT IT READS IS OF BULK AT MOST 1048576: true; the input reads as it did. -/
def myersBoundUptoRow : OpenClaim := { program := "ytmagicjmenbdpaa", sum := "ab9d4d540829abb7649c9a65f620036228e0719eaeb9767293056f0b6871bc13", func := "quilt/quiltlaw03.MyersBound", spec := "myersBound", unfollowed := true, recurses := true, apart := false, narrowed := true }
def MyersBoundUptoSaid : Prop := myersBoundUptoRow.holds Try.pinned (OpenSpec.upto myersBoundSpec)

end Rows
end Go.Proofs.Ytmagicjmenbdpaa

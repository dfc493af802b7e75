/-
  No cell of these rows narrows 'for every input' (looked for: loops, veiled, ifaces, maps, wideKeys, modest, calm, conditions, laid).
  DERIVED. THE GIVEN ROWS OF THIS SEAT. 7 by the template 'for every input the law returns true; each argument reads behind the call as it read before'; 0 by the template 'total and deterministic' (their statements: YtilogolnoifigaaTotals.lean).
  GIVEN WITH THE SEED: the statements are not yours to turn. If you find one false, say at which input.
  Laid BY PROGRAM, IN A SANDBOX (cutbox-rows.mjs): the forced cells as the released guide's own fill.sh prints them over the translation cbc251873ee39262… (all of the seat's roots in one cut). By AI agents, Wed Nov 11 2026. No macro, syntax, notation, axiom, sorry.
-/
import Derived.Test.YtilogolnoifigaaChecked
import GoSem.Claim
import GoSem.ClaimJoined
import GoSem.ClaimMapViews
import Derived.JoinedTies
import Derived.KernelRfl
namespace Go.Proofs.Ytilogolnoifigaa
/- THE CELL 'sum', in the pinned program and in every row, IS THE sha256 OF THE DUMP (.gsa) THAT YtilogolnoifigaaProg.lean LOADS. Nothing in Lean hashes anything: it is a label: what it is worth is what the hold of that sum in a sandbox is worth. -/
noncomputable def Try.pinned : Pinned := { name := "ytilogolnoifigaa", sum := "cbc251873ee39262e0354158e01857cc454f4eac8b069b3d526f078265723a8f", checked := Try.checked }
namespace Rows
def none {H : Type} : Left H := { results := [], args := [] }

/-- 'quiltlaw11.HunkcommuteTwice': WHATEVER THE INPUT: true; the input reads as it did. -/
def hunkcommuteTwiceSpec : ChangeSpec := { name := "hunkcommuteTwice", fn := fun _ => fun
  | [d1, d2] => { results := [.lit (.bool true)], args := [d1, d2] }
  | _ => none }
def hunkcommuteTwiceRow : OpenClaim := { program := "ytilogolnoifigaa", sum := "cbc251873ee39262e0354158e01857cc454f4eac8b069b3d526f078265723a8f", func := "quilt/quiltlaw11.HunkcommuteTwice", spec := "hunkcommuteTwice", unfollowed := true, recurses := true, apart := false }
def HunkcommuteTwiceSaid : Prop := hunkcommuteTwiceRow.holds Try.pinned (OpenSpec.ofChange hunkcommuteTwiceSpec)

/-- ITS FALSE NEIGHBOUR: 'it returns false'. Refute it at one input. -/
def hunkcommuteTwiceWrong : ChangeSpec := { name := "hunkcommuteTwice", fn := fun _ => fun
  | [d1, d2] => { results := [.lit (.bool false)], args := [d1, d2] }
  | _ => none }
def HunkcommuteTwiceWrongFalsely : Prop := hunkcommuteTwiceRow.holds Try.pinned (OpenSpec.ofChange hunkcommuteTwiceWrong)

/-- 'quiltlaw11.HunkcommuteThree': WHATEVER THE INPUT: true; the input reads as it did. -/
def hunkcommuteThreeSpec : ChangeSpec := { name := "hunkcommuteThree", fn := fun _ => fun
  | [d1, d2, d3] => { results := [.lit (.bool true)], args := [d1, d2, d3] }
  | _ => none }
def hunkcommuteThreeRow : OpenClaim := { program := "ytilogolnoifigaa", sum := "cbc251873ee39262e0354158e01857cc454f4eac8b069b3d526f078265723a8f", func := "quilt/quiltlaw11.HunkcommuteThree", spec := "hunkcommuteThree", unfollowed := true, recurses := true, apart := false }
def HunkcommuteThreeSaid : Prop := hunkcommuteThreeRow.holds Try.pinned (OpenSpec.ofChange hunkcommuteThreeSpec)

/-- ITS FALSE NEIGHBOUR: 'it returns false'. Refute it at one input. -/
def hunkcommuteThreeWrong : ChangeSpec := { name := "hunkcommuteThree", fn := fun _ => fun
  | [d1, d2, d3] => { results := [.lit (.bool false)], args := [d1, d2, d3] }
  | _ => none }
def HunkcommuteThreeWrongFalsely : Prop := hunkcommuteThreeRow.holds Try.pinned (OpenSpec.ofChange hunkcommuteThreeWrong)

/-- 'quiltlaw11.HunkcommuteInverses': WHATEVER THE INPUT: true; the input reads as it did. -/
def hunkcommuteInversesSpec : ChangeSpec := { name := "hunkcommuteInverses", fn := fun _ => fun
  | [d1, d2] => { results := [.lit (.bool true)], args := [d1, d2] }
  | _ => none }
def hunkcommuteInversesRow : OpenClaim := { program := "ytilogolnoifigaa", sum := "cbc251873ee39262e0354158e01857cc454f4eac8b069b3d526f078265723a8f", func := "quilt/quiltlaw11.HunkcommuteInverses", spec := "hunkcommuteInverses", unfollowed := true, recurses := true, apart := false }
def HunkcommuteInversesSaid : Prop := hunkcommuteInversesRow.holds Try.pinned (OpenSpec.ofChange hunkcommuteInversesSpec)

/-- ITS FALSE NEIGHBOUR: 'it returns false'. Refute it at one input. -/
def hunkcommuteInversesWrong : ChangeSpec := { name := "hunkcommuteInverses", fn := fun _ => fun
  | [d1, d2] => { results := [.lit (.bool false)], args := [d1, d2] }
  | _ => none }
def HunkcommuteInversesWrongFalsely : Prop := hunkcommuteInversesRow.holds Try.pinned (OpenSpec.ofChange hunkcommuteInversesWrong)

/-- 'quiltlaw11.HunkcommutePair': WHATEVER THE INPUT: true; the input reads as it did. -/
def hunkcommutePairSpec : ChangeSpec := { name := "hunkcommutePair", fn := fun _ => fun
  | [d1, d2] => { results := [.lit (.bool true)], args := [d1, d2] }
  | _ => none }
def hunkcommutePairRow : OpenClaim := { program := "ytilogolnoifigaa", sum := "cbc251873ee39262e0354158e01857cc454f4eac8b069b3d526f078265723a8f", func := "quilt/quiltlaw11.HunkcommutePair", spec := "hunkcommutePair", unfollowed := true, recurses := true, apart := false }
def HunkcommutePairSaid : Prop := hunkcommutePairRow.holds Try.pinned (OpenSpec.ofChange hunkcommutePairSpec)

/-- ITS FALSE NEIGHBOUR: 'it returns false'. Refute it at one input. -/
def hunkcommutePairWrong : ChangeSpec := { name := "hunkcommutePair", fn := fun _ => fun
  | [d1, d2] => { results := [.lit (.bool false)], args := [d1, d2] }
  | _ => none }
def HunkcommutePairWrongFalsely : Prop := hunkcommutePairRow.holds Try.pinned (OpenSpec.ofChange hunkcommutePairWrong)

/-- 'quiltlaw11.HunkcommuteEffect': WHATEVER THE INPUT: true; the input reads as it did. -/
def hunkcommuteEffectSpec : ChangeSpec := { name := "hunkcommuteEffect", fn := fun _ => fun
  | [d1, d2, d3] => { results := [.lit (.bool true)], args := [d1, d2, d3] }
  | _ => none }
def hunkcommuteEffectRow : OpenClaim := { program := "ytilogolnoifigaa", sum := "cbc251873ee39262e0354158e01857cc454f4eac8b069b3d526f078265723a8f", func := "quilt/quiltlaw11.HunkcommuteEffect", spec := "hunkcommuteEffect", unfollowed := true, recurses := true, apart := false }
def HunkcommuteEffectSaid : Prop := hunkcommuteEffectRow.holds Try.pinned (OpenSpec.ofChange hunkcommuteEffectSpec)

/-- ITS FALSE NEIGHBOUR: 'it returns false'. Refute it at one input. -/
def hunkcommuteEffectWrong : ChangeSpec := { name := "hunkcommuteEffect", fn := fun _ => fun
  | [d1, d2, d3] => { results := [.lit (.bool false)], args := [d1, d2, d3] }
  | _ => none }
def HunkcommuteEffectWrongFalsely : Prop := hunkcommuteEffectRow.holds Try.pinned (OpenSpec.ofChange hunkcommuteEffectWrong)

/-- 'quiltlaw11.HunkcommuteMerge': WHATEVER THE INPUT: true; the input reads as it did. -/
def hunkcommuteMergeSpec : ChangeSpec := { name := "hunkcommuteMerge", fn := fun _ => fun
  | [d1, d2, d3] => { results := [.lit (.bool true)], args := [d1, d2, d3] }
  | _ => none }
def hunkcommuteMergeRow : OpenClaim := { program := "ytilogolnoifigaa", sum := "cbc251873ee39262e0354158e01857cc454f4eac8b069b3d526f078265723a8f", func := "quilt/quiltlaw11.HunkcommuteMerge", spec := "hunkcommuteMerge", unfollowed := true, recurses := true, apart := false }
def HunkcommuteMergeSaid : Prop := hunkcommuteMergeRow.holds Try.pinned (OpenSpec.ofChange hunkcommuteMergeSpec)

/-- ITS FALSE NEIGHBOUR: 'it returns false'. Refute it at one input. -/
def hunkcommuteMergeWrong : ChangeSpec := { name := "hunkcommuteMerge", fn := fun _ => fun
  | [d1, d2, d3] => { results := [.lit (.bool false)], args := [d1, d2, d3] }
  | _ => none }
def HunkcommuteMergeWrongFalsely : Prop := hunkcommuteMergeRow.holds Try.pinned (OpenSpec.ofChange hunkcommuteMergeWrong)

/-- 'quiltlaw11.HunkcommuteSequences': WHATEVER THE INPUT: true; the input reads as it did. -/
def hunkcommuteSequencesSpec : ChangeSpec := { name := "hunkcommuteSequences", fn := fun _ => fun
  | [d1, d2, d3] => { results := [.lit (.bool true)], args := [d1, d2, d3] }
  | _ => none }
def hunkcommuteSequencesRow : OpenClaim := { program := "ytilogolnoifigaa", sum := "cbc251873ee39262e0354158e01857cc454f4eac8b069b3d526f078265723a8f", func := "quilt/quiltlaw11.HunkcommuteSequences", spec := "hunkcommuteSequences", unfollowed := true, recurses := true, apart := false }
def HunkcommuteSequencesSaid : Prop := hunkcommuteSequencesRow.holds Try.pinned (OpenSpec.ofChange hunkcommuteSequencesSpec)

/-- ITS FALSE NEIGHBOUR: 'it returns false'. Refute it at one input. -/
def hunkcommuteSequencesWrong : ChangeSpec := { name := "hunkcommuteSequences", fn := fun _ => fun
  | [d1, d2, d3] => { results := [.lit (.bool false)], args := [d1, d2, d3] }
  | _ => none }
def HunkcommuteSequencesWrongFalsely : Prop := hunkcommuteSequencesRow.holds Try.pinned (OpenSpec.ofChange hunkcommuteSequencesWrong)

/- THE SECOND FORM. 'bulk': how many values and letters a reading holds, each counted each time it is reached (what is shared counts as often as it is met; a slice's spare places count too). A statement '..UptoSaid' is the law's where the arguments, and the package variables that the reading takes, are together of bulk at most 1048576: NARROWER than '..Said'. Prove '..Said' where nothing that the law and all that it calls make is longer than what came in: it says more and counts as full. Else prove '..UptoSaid'. A law counts once. -/
mutual
def uptoBulk {H : Type} : DataW H → Nat
  | .lit (.string bytes) => bytes.length + 1
  | .lit _ => 1
  | .nil => 1
  | .ptr d => uptoBulk d + 1
  | .slice elems spare => uptoBulkAll elems + uptoBulkAll spare + 1
  | .agg parts => uptoBulkAll parts + 1
  | .iface _ d => uptoBulk d + 1
  | .map entries => uptoBulkEntries entries + 1
  | .held _ => 1
def uptoBulkAll {H : Type} : List (DataW H) → Nat
  | [] => 0
  | d :: r => uptoBulk d + uptoBulkAll r
def uptoBulkEntries {H : Type} : List (Lit × DataW H) → Nat
  | [] => 0
  | x :: r => uptoBulkEntry x + uptoBulkEntries r
def uptoBulkEntry {H : Type} : Lit × DataW H → Nat
  | (.string bytes, d) => bytes.length + uptoBulk d + 1
  | (_, d) => uptoBulk d + 1
 end
def uptoSmall : (H : Type) → List (DataW H) → Bool := fun _ ds => decide (uptoBulkAll ds ≤ 1048576)
def OpenSpec.upto (s : _root_.Go.ChangeSpec) : _root_.Go.OpenSpec := { _root_.Go.OpenSpec.ofChange s with cond := some uptoSmall }

/-- 'quiltlaw11.HunkcommuteTwice', WHERE WHAT IT READS IS OF BULK AT MOST 1048576: true; the input reads as it did. -/
def hunkcommuteTwiceUptoRow : OpenClaim := { program := "ytilogolnoifigaa", sum := "cbc251873ee39262e0354158e01857cc454f4eac8b069b3d526f078265723a8f", func := "quilt/quiltlaw11.HunkcommuteTwice", spec := "hunkcommuteTwice", unfollowed := true, recurses := true, apart := false, narrowed := true }
def HunkcommuteTwiceUptoSaid : Prop := hunkcommuteTwiceUptoRow.holds Try.pinned (OpenSpec.upto hunkcommuteTwiceSpec)

/-- 'quiltlaw11.HunkcommuteThree', WHERE WHAT IT READS IS OF BULK AT MOST 1048576: true; the input reads as it did. -/
def hunkcommuteThreeUptoRow : OpenClaim := { program := "ytilogolnoifigaa", sum := "cbc251873ee39262e0354158e01857cc454f4eac8b069b3d526f078265723a8f", func := "quilt/quiltlaw11.HunkcommuteThree", spec := "hunkcommuteThree", unfollowed := true, recurses := true, apart := false, narrowed := true }
def HunkcommuteThreeUptoSaid : Prop := hunkcommuteThreeUptoRow.holds Try.pinned (OpenSpec.upto hunkcommuteThreeSpec)

/-- 'quiltlaw11.HunkcommuteInverses', WHERE WHAT IT READS IS OF BULK AT MOST 1048576: true; the input reads as it did. -/
def hunkcommuteInversesUptoRow : OpenClaim := { program := "ytilogolnoifigaa", sum := "cbc251873ee39262e0354158e01857cc454f4eac8b069b3d526f078265723a8f", func := "quilt/quiltlaw11.HunkcommuteInverses", spec := "hunkcommuteInverses", unfollowed := true, recurses := true, apart := false, narrowed := true }
def HunkcommuteInversesUptoSaid : Prop := hunkcommuteInversesUptoRow.holds Try.pinned (OpenSpec.upto hunkcommuteInversesSpec)

/-- 'quiltlaw11.HunkcommutePair', WHERE WHAT IT READS IS OF BULK AT MOST 1048576: true; the input reads as it did. -/
def hunkcommutePairUptoRow : OpenClaim := { program := "ytilogolnoifigaa", sum := "cbc251873ee39262e0354158e01857cc454f4eac8b069b3d526f078265723a8f", func := "quilt/quiltlaw11.HunkcommutePair", spec := "hunkcommutePair", unfollowed := true, recurses := true, apart := false, narrowed := true }
def HunkcommutePairUptoSaid : Prop := hunkcommutePairUptoRow.holds Try.pinned (OpenSpec.upto hunkcommutePairSpec)

/-- 'quiltlaw11.HunkcommuteEffect', WHERE WHAT IT READS IS OF BULK AT MOST 1048576: true; the input reads as it did. -/
def hunkcommuteEffectUptoRow : OpenClaim := { program := "ytilogolnoifigaa", sum := "cbc251873ee39262e0354158e01857cc454f4eac8b069b3d526f078265723a8f", func := "quilt/quiltlaw11.HunkcommuteEffect", spec := "hunkcommuteEffect", unfollowed := true, recurses := true, apart := false, narrowed := true }
def HunkcommuteEffectUptoSaid : Prop := hunkcommuteEffectUptoRow.holds Try.pinned (OpenSpec.upto hunkcommuteEffectSpec)

/-- 'quiltlaw11.HunkcommuteMerge', WHERE WHAT IT READS IS OF BULK AT MOST 1048576: true; the input reads as it did. -/
def hunkcommuteMergeUptoRow : OpenClaim := { program := "ytilogolnoifigaa", sum := "cbc251873ee39262e0354158e01857cc454f4eac8b069b3d526f078265723a8f", func := "quilt/quiltlaw11.HunkcommuteMerge", spec := "hunkcommuteMerge", unfollowed := true, recurses := true, apart := false, narrowed := true }
def HunkcommuteMergeUptoSaid : Prop := hunkcommuteMergeUptoRow.holds Try.pinned (OpenSpec.upto hunkcommuteMergeSpec)

/-- 'quiltlaw11.HunkcommuteSequences', WHERE WHAT IT READS IS OF BULK AT MOST 1048576: true; the input reads as it did. -/
def hunkcommuteSequencesUptoRow : OpenClaim := { program := "ytilogolnoifigaa", sum := "cbc251873ee39262e0354158e01857cc454f4eac8b069b3d526f078265723a8f", func := "quilt/quiltlaw11.HunkcommuteSequences", spec := "hunkcommuteSequences", unfollowed := true, recurses := true, apart := false, narrowed := true }
def HunkcommuteSequencesUptoSaid : Prop := hunkcommuteSequencesUptoRow.holds Try.pinned (OpenSpec.upto hunkcommuteSequencesSpec)

end Rows
end Go.Proofs.Ytilogolnoifigaa

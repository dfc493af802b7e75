/- Contracts: the words of a line, of both. -/
import Derived.Test.YtmmppfopokbcfaaTkWords
import Derived.Test.YtmmppfopokbcfaaHiApp
import Derived.Test.YtmmppfopokbcfaaAppend
namespace Go.Proofs.Ytmmppfopokbcfaa
open Go.RowKit

set_option maxRecDepth 100000 in
set_option maxHeartbeats 4000000 in
theorem wordByte_any (c : UInt8) (w : World) :
    Calls Try.prog 42 #[.int .u8 (c.toNat : Int)] w fun e w' => e = .returned (.bool (wordB c)) ∧ w' = w := by
  unfold wordB
  generalize c.toNat = n
  go_enter Try.func42, Try.ntmps42
  go_wp2_with fail
  all_goals
    go_ret
    refine ⟨ret_bool ?_, rfl⟩
    rw [Bool.eq_iff_iff]
    simp only [Bool.or_eq_true, Bool.and_eq_true, decide_eq_true_eq, beq_iff_eq, true_iff]
    omega
theorem space_any (c : UInt8) (w : World) :
    Calls Try.prog 43 #[.int .u8 (c.toNat : Int)] w fun e w' => e = .returned (.bool (spaceB c)) ∧ w' = w := by
  unfold spaceB
  generalize c.toNat = n
  go_enter Try.func43, Try.ntmps43
  go_wp2_with fail
  all_goals
    go_ret
    refine ⟨ret_bool ?_, rfl⟩
    rw [Bool.eq_iff_iff]
    simp only [decide_eq_true_eq, beq_iff_eq]
    omega
set_option maxRecDepth 100000 in
set_option maxHeartbeats 4000000 in
/-- What kind says. -/
theorem kind_any (c : UInt8) (w : World) :
    Calls Try.prog 63 #[.int .u8 (c.toNat : Int)] w fun e w' => e = .returned (.int .i64 (kd c : Nat)) ∧ w' = w := by
  unfold kd wordB spaceB
  generalize c.toNat = n
  go_enter Try.func63, Try.ntmps63
  go_wp2_with fail
  all_goals
    go_ret
    refine ⟨ret_int ?_, rfl⟩
    simp only [Bool.or_eq_true, Bool.and_eq_true, decide_eq_true_eq, beq_iff_eq, beq_eq_false_iff_ne] at *
    repeat' split
    all_goals first | rfl | (exfalso; omega)
end Go.Proofs.Ytmmppfopokbcfaa

/- TreapCheck's walk. -/
import Derived.Test.YtbjniaihkllmdaaTrAwake
namespace Go.Proofs.Ytbjniaihkllmdaa
open Go.RowKit
set_option maxRecDepth 100000
set_option maxHeartbeats 8000000
theorem check_walk {t : MT} {A : Option Addr} {n c : Nat} {key : ByteArray} (w : World) (hm : MapAt w t A n) (hk : key.size ≤ Reach) :
    Calls Try.prog 3 #[.slice A n c, .string key] w fun e w' => e = .returned (.bool true) ∧ Ext w w' := by
  have HM := Lib.hid hm; clear hm
  obtain ⟨z, hz⟩ : ∃ z, decide (30 < t.size) = z := ⟨_, rfl⟩
  have HZ := Lib.hid hz
  cases z with
  | true =>
    clear hz
    go_enter Try.func3, Try.ntmps3
    go_wp2_with fail
    refine (great_is HZ.out HM.out).mono ?_
    rintro e w1 ⟨rfl, rfl⟩
    go_wp2_with fail
    refine (awake_any _).mono ?_
    rintro e w2 ⟨rfl, hE⟩
    have HE := Lib.hid hE; clear hE
    go_wp2_with fail
    go_ret
    exact ⟨rfl, HE.out⟩
  | false =>
    have hs : t.size ≤ 1000 := by have := of_decide_eq_false hz; omega
    clear hz
    by_cases h : 100 < key.size
    · have h2 : ((100 : Int) < (key.size : Int)) := by omega
      go_enter Try.func3, Try.ntmps3
      go_wp2_with fail
      refine (great_is HZ.out HM.out).mono ?_
      rintro e w1 ⟨rfl, rfl⟩
      go_wp2_with fail
      refine (awake_any _).mono ?_
      rintro e w2 ⟨rfl, hE⟩
      have HE := Lib.hid hE; clear hE
      go_wp2_with fail
      go_ret
      exact ⟨rfl, HE.out⟩
    · have h2 : ¬ ((100 : Int) < (key.size : Int)) := by omega
      go_enter Try.func3, Try.ntmps3
      go_wp2_with fail
      refine (great_is HZ.out HM.out).mono ?_
      rintro e w1 ⟨rfl, rfl⟩
      go_wp2_with fail
      refine (check_any t A n c _ HM.out hs).mono ?_
      rintro e w1 ⟨rfl, hE⟩
      have HE := Lib.hid hE; clear hE
      go_wp2_with fail
      refine (rcheck_is rfl (HM.out.ext HE.out) hs).mono ?_
      rintro e w2 ⟨rfl, hE⟩
      have HE2 := Lib.hid (HE.out.trans hE); clear hE
      go_wp2_with fail
      refine (prio_any key _ hk).mono ?_
      rintro e w' ⟨rfl, rfl⟩
      go_wp2_with fail
      refine (rprio_any key _ hk).mono ?_
      rintro e w' ⟨rfl, rfl⟩
      go_wp2_with fail
      refine (awake_any _).mono ?_
      rintro e w3 ⟨rfl, hE⟩
      have HE3 := Lib.hid (HE2.out.trans hE); clear hE
      go_wp2_with fail
      go_ret
      exact ⟨rfl, HE3.out⟩
end Go.Proofs.Ytbjniaihkllmdaa

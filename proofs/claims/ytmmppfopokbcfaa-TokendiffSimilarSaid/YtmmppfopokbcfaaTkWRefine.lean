/- TokendiffRefine: its walk. -/
import Derived.Test.YtmmppfopokbcfaaTkAwake
namespace Go.Proofs.Ytmmppfopokbcfaa
open Go.RowKit

theorem simI {s t : ByteArray} : I64 (simV s t) := by have := sim_range s t; exact ⟨by omega, by omega⟩
set_option maxRecDepth 100000 in
set_option maxHeartbeats 8000000 in
theorem refine_walk {s t : ByteArray} (w : World) (hs : s.size ≤ Reach) (ht : t.size ≤ Reach) :
    Calls Try.prog 3 #[.string s, .string t] w fun e w' => e = .returned (.bool true) ∧ Ext w w' := by
  have HT2 := Lib.hid (two_strs w s t hs ht)
  have HE0 := Lib.hid ((Ext.refl w).alloc (.cells #[.string s, .string t] 9))
  cases hl : longV [s, t] with
  | true =>
    have HL := Lib.hid hl; clear hl
    go_enter Try.func3, Try.ntmps3
    go_wp2_with fail
    refine (long_is HL.out HT2.out (by unfold Reach; omega)).mono ?_
    rintro e w1 ⟨rfl, rfl⟩
    go_wp2_with fail
    refine awake_is.mono ?_
    rintro e w2 ⟨rfl, hE⟩
    have HE2 := Lib.hid (HE0.out.trans hE); clear hE
    go_wp2_with fail
    go_ret
    exact ⟨rfl, HE2.out⟩
  | false =>
    have h1 : s.size ≤ 100 := by simp [longV] at hl; omega
    have h2 : t.size ≤ 100 := by simp [longV] at hl; omega
    have hlen := refine_few s t
    have HL := Lib.hid hl; clear hl
    go_enter Try.func3, Try.ntmps3
    go_wp2_with fail
    refine (long_is HL.out HT2.out (by unfold Reach; omega)).mono ?_
    rintro e w1 ⟨rfl, rfl⟩
    go_wp2_with fail
    refine (refine_is h1 h2).mono ?_
    rintro e w2 ⟨A, c, rfl, hc, hP, hE⟩
    have HE2 := Lib.hid (HE0.out.trans hE); have HP := Lib.hid hP; clear hE hP
    go_wp2_with fail
    refine (rrefine_is h1 h2).mono ?_
    rintro e w3 ⟨B, d, rfl, hd, hP, hE⟩
    have HE3 := Lib.hid (HE2.out.trans hE); have HP2 := Lib.hid hP; replace HP := Lib.hid (HP.out.ext hE); clear hE hP
    go_wp2_with fail
    refine (samep_is (r := true) (by simp) HP.out HP2.out (by unfold Reach; omega) (by unfold Reach; omega)).mono ?_
    rintro e w4 ⟨rfl, hE⟩
    have HE4 := Lib.hid (HE3.out.trans hE); clear hE
    go_wp2_with fail
    refine (sim_any s t w4 h1 h2).mono ?_
    rintro e w5 ⟨rfl, hE⟩
    have HE5 := Lib.hid (HE4.out.trans hE); clear hE
    go_wp2_with fail
    refine (rsim_any s t w5 h1 h2).mono ?_
    rintro e w6 ⟨rfl, hE⟩
    have HE6 := Lib.hid (HE5.out.trans hE); clear hE
    go_wp2_with fail
    refine awake_is.mono ?_
    rintro e w7 ⟨rfl, hE⟩
    have HE7 := Lib.hid (HE6.out.trans hE); clear hE
    go_wp2_with fail
    go_ret
    exact ⟨rfl, HE7.out⟩
end Go.Proofs.Ytmmppfopokbcfaa

/- TokendiffTexts: its walk. -/
import Derived.Test.YtmmppfopokbcfaaTkWRound
import Derived.Test.YtmmppfopokbcfaaTkRParse
namespace Go.Proofs.Ytmmppfopokbcfaa
open Go.RowKit

set_option maxRecDepth 100000 in
set_option maxHeartbeats 16000000 in
theorem texts_walk {A : Option Addr} {n c : Nat} {l : List Pc} {s : ByteArray} (w : World) (hn : n ≤ Reach) (hP : Pcs w A n l) (hs : s.size ≤ Reach) :
    Calls Try.prog 9 #[.slice A n c, .string s] w fun e w' => e = .returned (.bool true) ∧ Ext w w' := by
  have HP := Lib.hid hP; have HLN := Lib.hid hP.1; clear hP
  unfold Reach at hs
  cases hg : greatV l with
  | true =>
    have HGR := Lib.hid hg; clear hg
    go_enter Try.func9, Try.ntmps9
    go_wp2_with fail
    refine (greatp_is HGR.out HP.out hn).mono ?_
    rintro e w1 ⟨rfl, rfl⟩
    go_wp2_with fail
    refine awake_is.mono ?_
    rintro e w2 ⟨rfl, hE⟩
    have HE2 := Lib.hid hE; clear hE
    go_wp2_with fail
    go_ret
    exact ⟨rfl, HE2.out⟩
  | false =>
    obtain ⟨hl1, hl2⟩ := great_no hg
    rw [HLN.out] at hl1
    have hrl := rend_le l
    rw [HLN.out] at hrl
    have HGR := Lib.hid hg; clear hg
    by_cases h3 : 300 < s.size
    · have q3 : (300 : Int) < (s.size : Int) := by omega
      go_enter Try.func9, Try.ntmps9
      go_wp2_with fail
      refine (greatp_is HGR.out HP.out hn).mono ?_
      rintro e w1 ⟨rfl, rfl⟩
      go_wp2_with fail
      refine awake_is.mono ?_
      rintro e w2 ⟨rfl, hE⟩
      have HE2 := Lib.hid hE; clear hE
      go_wp2_with fail
      go_ret
      exact ⟨rfl, HE2.out⟩
    have q3 : ¬ ((300 : Int) < (s.size : Int)) := by omega
    obtain ⟨RV, hrv⟩ : ∃ R, rendV l = R := ⟨_, rfl⟩
    obtain ⟨RE, hre⟩ : ∃ R, renE l = R := ⟨_, rfl⟩
    obtain ⟨S2, hs2⟩ : ∃ R, sideV 2 l = R := ⟨_, rfl⟩
    obtain ⟨S1, hs1⟩ : ∃ R, sideV 1 l = R := ⟨_, rfl⟩
    have HRV := Lib.hid hrv; have HRE := Lib.hid hre; have HS2 := Lib.hid hs2; have HS1 := Lib.hid hs1; clear hrv hre hs2 hs1
    have hps := parse_same s
    have HPS := Lib.hid hps; clear hps
    go_enter Try.func9, Try.ntmps9
    go_wp2_with fail
    refine (greatp_is HGR.out HP.out hn).mono ?_
    rintro e w1 ⟨rfl, rfl⟩
    go_wp2_with fail
    refine (render_any A n c l _ HP.out (by omega) (by omega)).mono ?_
    rintro e w2 ⟨rfl, hE⟩
    rw [HRV.out, HRE.out]
    have HE2 := Lib.hid hE; have HP2 := Lib.hid (HP.out.ext hE); clear hE
    go_wp2_with fail
    refine (rrender_any A n c l _ HP2.out (by omega) (by omega)).mono ?_
    rintro e w3 ⟨rfl, hE⟩
    rw [HRV.out, HRE.out]
    have HE3 := Lib.hid (HE2.out.trans hE); have HP3 := Lib.hid (HP2.out.ext hE); clear hE
    go_wp2_with fail
    refine (parse_any s _ (by omega)).mono ?_
    rintro e w4 ⟨hE, h⟩
    have HE4 := Lib.hid (HE3.out.trans hE); have HP4 := Lib.hid (HP3.out.ext hE); clear hE
    rcases h with ⟨hpn, rfl⟩ | ⟨m, A5, c5, hpm, rfl, hc5, hP5⟩
    · have hpn2 := hpn
      rw [HPS.out] at hpn2
      have HPN := Lib.hid hpn2; clear hpn hpn2
      go_wp2_with fail
      refine (rparse_any s _ (by omega)).mono ?_
      rintro e w5 ⟨hE, h⟩
      have HE5 := Lib.hid (HE4.out.trans hE); replace HP4 := Lib.hid (HP4.out.ext hE); clear hE
      rw [HPN.out] at h
      rcases h with ⟨-, A6, c6, rfl⟩ | ⟨m, A6, c6, hpm, -⟩
      · have HX := Lib.hid (Pcs.nil w5 none); have HY := Lib.hid (Pcs.nil w5 A6)
        go_wp2_with fail
        refine (old_any A n c l _ HP4.out (by omega) (by omega)).mono ?_
        rintro e w6 ⟨rfl, hE⟩
        rw [HS2.out]
        have HE6 := Lib.hid (HE5.out.trans hE); have HP6 := Lib.hid (HP4.out.ext hE); replace HX := Lib.hid (HX.out.ext hE); replace HY := Lib.hid (HY.out.ext hE); clear hE
        go_wp2_with fail
        refine (rold_any A n c l _ HP6.out (by omega) (by omega)).mono ?_
        rintro e w6' ⟨rfl, rfl⟩
        rw [HS2.out]
        go_wp2_with fail
        refine (new_any A n c l _ HP6.out (by omega) (by omega)).mono ?_
        rintro e w7 ⟨rfl, hE⟩
        rw [HS1.out]
        have HE7 := Lib.hid (HE6.out.trans hE); have HP7 := Lib.hid (HP6.out.ext hE); replace HX := Lib.hid (HX.out.ext hE); replace HY := Lib.hid (HY.out.ext hE); clear hE
        go_wp2_with fail
        refine (rnew_any A n c l _ HP7.out (by omega) (by omega)).mono ?_
        rintro e w7' ⟨rfl, rfl⟩
        rw [HS1.out]
        go_wp2_with fail
        refine (samep_is (r := true) (by simp) HX.out HY.out (by unfold Reach; omega) (by unfold Reach; omega)).mono ?_
        rintro e w8 ⟨rfl, hE⟩
        have HE8 := Lib.hid (HE7.out.trans hE); clear hE
        go_wp2_with fail
        refine awake_is.mono ?_
        rintro e w9 ⟨rfl, hE⟩
        have HE9 := Lib.hid (HE8.out.trans hE); clear hE
        go_wp2_with fail
        go_ret
        exact ⟨rfl, HE9.out⟩
      · cases hpm
    · obtain ⟨p1, p2, p3, p4⟩ := parsed hpm
      have hpn2 := hpm
      rw [HPS.out] at hpn2
      have HPN := Lib.hid hpn2; have HX0 := Lib.hid hP5; clear hpm hpn2 p3 p4 hP5
      go_wp2_with fail
      refine (rparse_any s _ (by omega)).mono ?_
      rintro e w5 ⟨hE, h⟩
      have HE5 := Lib.hid (HE4.out.trans hE); replace HP4 := Lib.hid (HP4.out.ext hE); have HX := Lib.hid (HX0.out.ext hE); clear hE
      rw [HPN.out] at h
      rcases h with ⟨hno, -⟩ | ⟨m', A6, c6, hpm, rfl, hc6, hP6⟩
      · cases hno
      · obtain rfl : m = m' := by simpa using hpm
        have HY := Lib.hid hP6; clear hpm hP6
        go_wp2_with fail
        refine (old_any A n c l _ HP4.out (by omega) (by omega)).mono ?_
        rintro e w6 ⟨rfl, hE⟩
        rw [HS2.out]
        have HE6 := Lib.hid (HE5.out.trans hE); have HP6 := Lib.hid (HP4.out.ext hE); replace HX := Lib.hid (HX.out.ext hE); replace HY := Lib.hid (HY.out.ext hE); clear hE
        go_wp2_with fail
        refine (rold_any A n c l _ HP6.out (by omega) (by omega)).mono ?_
        rintro e w6' ⟨rfl, rfl⟩
        rw [HS2.out]
        go_wp2_with fail
        refine (new_any A n c l _ HP6.out (by omega) (by omega)).mono ?_
        rintro e w7 ⟨rfl, hE⟩
        rw [HS1.out]
        have HE7 := Lib.hid (HE6.out.trans hE); have HP7 := Lib.hid (HP6.out.ext hE); replace HX := Lib.hid (HX.out.ext hE); replace HY := Lib.hid (HY.out.ext hE); clear hE
        go_wp2_with fail
        refine (rnew_any A n c l _ HP7.out (by omega) (by omega)).mono ?_
        rintro e w7' ⟨rfl, rfl⟩
        rw [HS1.out]
        go_wp2_with fail
        refine (samep_is (r := true) (by simp) HX.out HY.out (by unfold Reach; omega) (by unfold Reach; omega)).mono ?_
        rintro e w8 ⟨rfl, hE⟩
        have HE8 := Lib.hid (HE7.out.trans hE); clear hE
        go_wp2_with fail
        refine awake_is.mono ?_
        rintro e w9 ⟨rfl, hE⟩
        have HE9 := Lib.hid (HE8.out.trans hE); clear hE
        go_wp2_with fail
        go_ret
        exact ⟨rfl, HE9.out⟩
end Go.Proofs.Ytmmppfopokbcfaa

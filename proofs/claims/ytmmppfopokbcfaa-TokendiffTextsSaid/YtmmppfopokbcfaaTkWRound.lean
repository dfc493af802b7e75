/- TokendiffRoundTrip: its walk. -/
import Derived.Test.YtmmppfopokbcfaaTkAwake
import Derived.Test.YtmmppfopokbcfaaTkSide
import Derived.Test.YtmmppfopokbcfaaTkParse
namespace Go.Proofs.Ytmmppfopokbcfaa
open Go.RowKit

theorem rend_le (l : List Pc) : (rendL l).length ≤ 4 * l.length + 2 * sizeS l := by
  induction l with
  | nil => exact Nat.zero_le _
  | cons x l ih =>
    have h1 := one_rend x.k x.t.data.toList
    have h2 : sizeS (x :: l) = x.t.size + sizeS l := by unfold sizeS; rw [show x :: l = [x] ++ l from rfl, sumG_app]; simp [sumG]
    rw [show (⟨x.k, mkS x.t.data.toList⟩ : Pc) = x from by rw [mkS_of], ← size_len] at h1
    rw [show x :: l = [x] ++ l from rfl, rend_app, List.length_append]
    rw [show [x] ++ l = x :: l from rfl, h2, List.length_cons]
    omega
theorem rend_ge : ∀ (l : List Pc), (∀ x ∈ l, x.t.size ≠ 0) → l.length ≤ (rendL l).length
  | [], _ => Nat.zero_le _
  | x :: l, h => by
    have ih := rend_ge l (fun y hy => h y (by simp [hy]))
    have h1 := h x (by simp)
    have h2 := (quote_len x.t.data.toList).1
    rw [← size_len] at h2
    rw [rend_cons, List.length_append, List.length_append, List.length_append, List.length_cons]
    omega
theorem great_no {l : List Pc} (h : greatV l = false) : l.length ≤ 30 ∧ sizeS l ≤ 300 := by
  unfold greatV at h
  rw [Bool.or_eq_false_iff, decide_eq_false_iff_not, decide_eq_false_iff_not] at h
  omega
/-- What was parsed: how long it is. -/
theorem parsed {s : ByteArray} {l : List Pc} (h : parseV s = some l) : l.length ≤ s.size ∧ (rendL l).length = s.size ∧ rendV l = s ∧ renE l = 0 := by
  obtain ⟨h1, h2⟩ := parse_ok h
  have h3 : (rendL l).length = s.size := by rw [← h2]; rfl
  refine ⟨?_, h3, by rw [rendV, if_pos h1, h2], by rw [renE, if_pos h1]⟩
  rw [← h3]
  exact rend_ge l (fun x hx => (vld_ne l _ h1 x hx).1)

set_option maxRecDepth 100000 in
set_option maxHeartbeats 16000000 in
theorem round_walk {A : Option Addr} {n c : Nat} {l : List Pc} {s : ByteArray} (w : World) (hn : n ≤ Reach) (hP : Pcs w A n l) (hs : s.size ≤ Reach) :
    Calls Try.prog 8 #[.slice A n c, .string s] w fun e w' => e = .returned (.bool true) ∧ Ext w w' := by
  have HP := Lib.hid hP; have HLN := Lib.hid hP.1; clear hP
  unfold Reach at hs
  cases hg : greatV l with
  | true =>
    have HGR := Lib.hid hg; clear hg
    go_enter Try.func8, Try.ntmps8
    go_wp2_with fail
    refine (greatp_is HGR.out HP.out hn).mono ?_
    rintro e w1 ⟨rfl, rfl⟩
    go_wp2_with fail
    refine awake_is.mono ?_
    rintro e w2 ⟨rfl, hE⟩
    have HE2 := Lib.hid hE; clear hE
    go_wp2_with fail
    go_ret
    exact ⟨rfl, HE2.out⟩
  | false =>
    obtain ⟨hl1, hl2⟩ := great_no hg
    rw [HLN.out] at hl1
    have hrl := rend_le l
    rw [HLN.out] at hrl
    have HGR := Lib.hid hg; clear hg
    by_cases h3 : 300 < s.size
    · have q3 : (300 : Int) < (s.size : Int) := by omega
      go_enter Try.func8, Try.ntmps8
      go_wp2_with fail
      refine (greatp_is HGR.out HP.out hn).mono ?_
      rintro e w1 ⟨rfl, rfl⟩
      go_wp2_with fail
      refine awake_is.mono ?_
      rintro e w2 ⟨rfl, hE⟩
      have HE2 := Lib.hid hE; clear hE
      go_wp2_with fail
      go_ret
      exact ⟨rfl, HE2.out⟩
    have q3 : ¬ ((300 : Int) < (s.size : Int)) := by omega
    cases hv : vldV l with
    | true =>
      have hre : rendV l = mkS (rendL l) := by rw [rendV, if_pos hv]
      have hee : renE l = 0 := by rw [renE, if_pos hv]
      have hpr := parse_rend hv
      have HRE := Lib.hid hre; have HEE := Lib.hid hee; have HPR := Lib.hid hpr; clear hre hee hpr hv
      go_enter Try.func8, Try.ntmps8
      go_wp2_with fail
      refine (greatp_is HGR.out HP.out hn).mono ?_
      rintro e w1 ⟨rfl, rfl⟩
      go_wp2_with fail
      refine (render_any A n c l _ HP.out (by omega) (by omega)).mono ?_
      rintro e w2 ⟨rfl, hE⟩
      rw [HRE.out, HEE.out]
      have HE2 := Lib.hid hE; clear hE
      go_wp2_with fail
      refine (parse_any (mkS (rendL l)) _ (by rw [mkS_size]; omega)).mono ?_
      rintro e w3 ⟨hE, h⟩
      rw [HPR.out] at h
      rcases h with ⟨hpn, -⟩ | ⟨m, A3, c3, hpm, rfl, hc3, hP3⟩
      · cases hpn
      obtain rfl : l = m := by simpa using hpm
      have HE3 := Lib.hid (HE2.out.trans hE); have HP3 := Lib.hid hP3; have HP2 := Lib.hid ((HP.out.ext HE2.out).ext hE); clear hE hP3 hpm
      go_wp2_with fail
      refine (samep_is (r := true) (by simp) HP2.out HP3.out hn (by rw [HLN.out]; exact hn)).mono ?_
      rintro e w4 ⟨rfl, hE⟩
      have HEX := Lib.hid (HE3.out.trans hE); clear hE
      go_wp2_with fail
      refine (parse_any s _ (by omega)).mono ?_
      rintro e w5 ⟨hE, h⟩
      have HE5 := Lib.hid (HEX.out.trans hE); clear hE
      rcases h with ⟨hpn, rfl⟩ | ⟨m, A5, c5, hpm, rfl, hc5, hP5⟩
      · clear hpn
        go_wp2_with fail
        refine awake_is.mono ?_
        rintro e w6 ⟨rfl, hE⟩
        have HE6 := Lib.hid (HE5.out.trans hE); clear hE
        go_wp2_with fail
        go_ret
        exact ⟨rfl, HE6.out⟩
      · obtain ⟨p1, p2, p3, p4⟩ := parsed hpm
        have HP5 := Lib.hid hP5; have P3 := Lib.hid p3; have P4 := Lib.hid p4; clear hP5 p3 p4 hpm
        go_wp2_with fail
        refine (render_any A5 m.length c5 m _ HP5.out (by omega) (by omega)).mono ?_
        rintro e w6 ⟨rfl, hE⟩
        rw [P3.out, P4.out]
        have HE6 := Lib.hid (HE5.out.trans hE); clear hE
        go_wp2_with fail
        refine awake_is.mono ?_
        rintro e w7 ⟨rfl, hE⟩
        have HE7 := Lib.hid (HE6.out.trans hE); clear hE
        go_wp2_with fail
        go_ret
        exact ⟨rfl, HE7.out⟩
    | false =>
      have hre : rendV l = mkS [] := by rw [rendV, if_neg (by simp [hv])]
      have hee : renE l = 1 := by rw [renE, if_neg (by simp [hv])]
      have HRE := Lib.hid hre; have HEE := Lib.hid hee; clear hre hee hv
      have q5 := emp_yes (r := mkS []) rfl
      go_enter Try.func8, Try.ntmps8
      go_wp2_with fail
      refine (greatp_is HGR.out HP.out hn).mono ?_
      rintro e w1 ⟨rfl, rfl⟩
      go_wp2_with fail
      refine (render_any A n c l _ HP.out (by omega) (by omega)).mono ?_
      rintro e w2 ⟨rfl, hE⟩
      rw [HRE.out, HEE.out]
      have HE2 := Lib.hid hE; clear hE
      go_wp2_with fail
      have HEX := Lib.hid HE2.out
      refine (parse_any s _ (by omega)).mono ?_
      rintro e w5 ⟨hE, h⟩
      have HE5 := Lib.hid (HEX.out.trans hE); clear hE
      rcases h with ⟨hpn, rfl⟩ | ⟨m, A5, c5, hpm, rfl, hc5, hP5⟩
      · clear hpn
        go_wp2_with fail
        refine awake_is.mono ?_
        rintro e w6 ⟨rfl, hE⟩
        have HE6 := Lib.hid (HE5.out.trans hE); clear hE
        go_wp2_with fail
        go_ret
        exact ⟨rfl, HE6.out⟩
      · obtain ⟨p1, p2, p3, p4⟩ := parsed hpm
        have HP5 := Lib.hid hP5; have P3 := Lib.hid p3; have P4 := Lib.hid p4; clear hP5 p3 p4 hpm
        go_wp2_with fail
        refine (render_any A5 m.length c5 m _ HP5.out (by omega) (by omega)).mono ?_
        rintro e w6 ⟨rfl, hE⟩
        rw [P3.out, P4.out]
        have HE6 := Lib.hid (HE5.out.trans hE); clear hE
        go_wp2_with fail
        refine awake_is.mono ?_
        rintro e w7 ⟨rfl, hE⟩
        have HE7 := Lib.hid (HE6.out.trans hE); clear hE
        go_wp2_with fail
        go_ret
        exact ⟨rfl, HE7.out⟩
end Go.Proofs.Ytmmppfopokbcfaa

/- TokendiffSides: its walk. -/
import Derived.Test.YtmmppfopokbcfaaTkWRound
namespace Go.Proofs.Ytmmppfopokbcfaa
open Go.RowKit

theorem refine_size (s t : ByteArray) : sizeS (refineV s t) ≤ s.size + t.size := by
  have key : ∀ l : List Pc, sizeS l ≤ (sideV 2 l).size + (sideV 1 l).size := by
    intro l
    induction l with
    | nil => exact Nat.zero_le _
    | cons y l ih =>
      have h2 : sizeS (y :: l) = y.t.size + sizeS l := by unfold sizeS; rw [show y :: l = [y] ++ l from rfl, sumG_app]; simp [sumG]
      rw [h2, sideV, sideV, mkS_size, mkS_size, show y :: l = [y] ++ l from rfl, bytes_app, bytes_app, List.length_append, List.length_append]
      rw [sideV, sideV, mkS_size, mkS_size] at ih
      by_cases hk : y.k = 2
      · have : (bytesB (fun x => decide (x.k ≠ 1)) [y]).length = y.t.size := by simp [bytesB, hk]
        omega
      · have : (bytesB (fun x => decide (x.k ≠ 2)) [y]).length = y.t.size := by simp [bytesB, hk]
        omega
  have := key (refineV s t)
  rwa [refine_old, refine_new] at this
set_option maxRecDepth 100000 in
set_option maxHeartbeats 8000000 in
theorem sides_walk {s t : ByteArray} (w : World) (hs : s.size ≤ Reach) (ht : t.size ≤ Reach) :
    Calls Try.prog 10 #[.string s, .string t] w fun e w' => e = .returned (.bool true) ∧ Ext w w' := by
  have HT2 := Lib.hid (two_strs w s t hs ht)
  have HE0 := Lib.hid ((Ext.refl w).alloc (.cells #[.string s, .string t] 9))
  cases hl : longV [s, t] with
  | true =>
    have HL := Lib.hid hl; clear hl
    go_enter Try.func10, Try.ntmps10
    go_wp2_with fail
    refine (long_is HL.out HT2.out (by unfold Reach; omega)).mono ?_
    rintro e w1 ⟨rfl, rfl⟩
    go_wp2_with fail
    refine awake_is.mono ?_
    rintro e w2 ⟨rfl, hE⟩
    have HE2 := Lib.hid (HE0.out.trans hE); clear hE
    go_wp2_with fail
    go_ret
    exact ⟨rfl, HE2.out⟩
  | false =>
    have h1 : s.size ≤ 100 := by simp [longV] at hl; omega
    have h2 : t.size ≤ 100 := by simp [longV] at hl; omega
    have hlen := refine_few s t
    have hsz := refine_size s t
    have hrl := rend_le (refineV s t)
    have hv := refine_vld s t
    have hold := refine_old s t
    have hnew := refine_new s t
    obtain ⟨L, hL⟩ : ∃ L, refineV s t = L := ⟨_, rfl⟩
    rw [hL] at hlen hsz hrl hv hold hnew
    have hre : rendV L = mkS (rendL L) := by rw [rendV, if_pos hv]
    have hee : renE L = 0 := by rw [renE, if_pos hv]
    have hpr := parse_rend hv
    have HL := Lib.hid hl; have HLL := Lib.hid hL; have HRE := Lib.hid hre; have HEE := Lib.hid hee; have HPR := Lib.hid hpr; have HOLD := Lib.hid hold; have HNEW := Lib.hid hnew; clear hl hL hre hee hpr hv hold hnew
    go_enter Try.func10, Try.ntmps10
    go_wp2_with fail
    refine (long_is HL.out HT2.out (by unfold Reach; omega)).mono ?_
    rintro e w1 ⟨rfl, rfl⟩
    go_wp2_with fail
    refine (refine_is h1 h2).mono ?_
    rintro e w2 ⟨A, c, rfl, hc, hP, hE⟩
    rw [HLL.out] at hP hc ⊢
    have HE2 := Lib.hid (HE0.out.trans hE); have HP := Lib.hid hP; clear hE hP
    go_wp2_with fail
    refine (render_any A L.length c L _ HP.out (by omega) (by omega)).mono ?_
    rintro e w3 ⟨rfl, hE⟩
    rw [HRE.out, HEE.out]
    have HE3 := Lib.hid (HE2.out.trans hE); replace HP := Lib.hid (HP.out.ext hE); clear hE
    go_wp2_with fail
    refine (parse_any (mkS (rendL L)) _ (by rw [mkS_size]; omega)).mono ?_
    rintro e w4 ⟨hE, h⟩
    rw [HPR.out] at h
    rcases h with ⟨hpn, -⟩ | ⟨m, A3, c3, hpm, rfl, hc3, hP3⟩
    · cases hpn
    obtain rfl : L = m := by simpa using hpm
    have HE4 := Lib.hid (HE3.out.trans hE); have HP3 := Lib.hid hP3; replace HP := Lib.hid (HP.out.ext hE); clear hE hP3 hpm
    go_wp2_with fail
    refine (samep_is (r := true) (by simp) HP.out HP3.out (by unfold Reach; omega) (by unfold Reach; omega)).mono ?_
    rintro e w5 ⟨rfl, hE⟩
    have HE5 := Lib.hid (HE4.out.trans hE); replace HP := Lib.hid (HP.out.ext hE); clear hE
    go_wp2_with fail
    refine (old_any A L.length c L _ HP.out (by omega) (by omega)).mono ?_
    rintro e w6 ⟨rfl, hE⟩
    rw [HOLD.out]
    have HE6 := Lib.hid (HE5.out.trans hE); replace HP := Lib.hid (HP.out.ext hE); clear hE
    go_wp2_with fail
    refine (new_any A L.length c L _ HP.out (by omega) (by omega)).mono ?_
    rintro e w7 ⟨rfl, hE⟩
    rw [HNEW.out]
    have HE7 := Lib.hid (HE6.out.trans hE); clear hE
    go_wp2_with fail
    refine awake_is.mono ?_
    rintro e w8 ⟨rfl, hE⟩
    have HE8 := Lib.hid (HE7.out.trans hE); clear hE
    go_wp2_with fail
    go_ret
    exact ⟨rfl, HE8.out⟩
end Go.Proofs.Ytmmppfopokbcfaa

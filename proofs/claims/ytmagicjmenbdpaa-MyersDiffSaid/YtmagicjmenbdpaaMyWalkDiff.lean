/- MyersDiff: the walk. -/
import Derived.Test.YtmagicjmenbdpaaMyWalks
import Derived.Test.YtmagicjmenbdpaaMyRefDiff
namespace Go.Proofs.Ytmagicjmenbdpaa
open Go.RowKit

set_option maxRecDepth 100000 in
set_option maxHeartbeats 8000000 in
theorem diff_walk {A : Option Addr} {n c : Nat} {a : Lns} {B : Option Addr} {m d : Nat} {b : Lns}  (w : World) (ha : Strs w A n a) (hac : n ≤ c) (han : n ≤ Reach) (hb : Strs w B m b) (hbc : m ≤ d) (hbn : m ≤ Reach)  :
    Calls Try.prog 4 #[.slice A n c, .slice B m d] w (Good w) := by
  have HA := Lib.hid ha; have HB := Lib.hid hb; clear ha hb 
  have HG := Lib.hid (rss2 (c := c) (d := d) HA.out han HB.out hbn)
  by_cases hg : ([(⟨A, n, c, a⟩ : SS), ⟨B, m, d, b⟩].any fun s => great03 s.l) = true
  · have HGR := Lib.hid hg; clear hg
    go_enter Try.func4, Try.ntmps4
    go_wp2_with fail
    refine (great_new (L := [(⟨A, n, c, a⟩ : SS), ⟨B, m, d, b⟩]) rfl HGR.out HG.out (by simp)).mono ?_
    rintro e w1 ⟨rfl, hE⟩
    have HE := Lib.hid hE; clear hE
    go_wp2_with fail
    refine (awake_any _).mono ?_
    rintro e w9 ⟨rfl, hE⟩
    have HE9 := Lib.hid (HE.out.trans hE); clear hE
    go_wp2_with fail
    go_ret
    exact ⟨rfl, HE9.out⟩
  have hg' : ([(⟨A, n, c, a⟩ : SS), ⟨B, m, d, b⟩].any fun s => great03 s.l) = false := by simpa using hg
  have h1 : n ≤ 12 := by rw [← HA.out.1]; exact great03_len (by simp at hg'; exact hg'.1)
  have h2 : m ≤ 12 := by rw [← HB.out.1]; exact great03_len (by simp at hg'; exact hg'.2)
  have HGR := Lib.hid hg'; clear hg hg'
  have hla := HA.out.1; have hlb := HB.out.1
  have hD : dist a b ≤ 24 := by have := dist_le a b; omega
  have HLA := Lib.hid hla; have HLB := Lib.hid hlb; clear hla hlb
  go_enter Try.func4, Try.ntmps4
  go_wp2_with fail
  refine (great_new (L := [(⟨A, n, c, a⟩ : SS), ⟨B, m, d, b⟩]) rfl HGR.out HG.out (by simp)).mono ?_
  rintro e w1 ⟨rfl, hE⟩
  have HE := Lib.hid hE; clear hE
  go_wp2_with fail
  refine (diff_any A B n c m d a b _ (HA.out.ext HE.out) (HB.out.ext HE.out) (by omega) (by omega) (dist a b) (by omega) (last_dist a b)).mono ?_
  rintro e w2 ⟨v, N, rfl, ho, hwf, hE⟩
  obtain ⟨D1, l1, rfl, hN1, hM1⟩ := ownM_mts ho hwf
  have hNb : N ≤ 25 := by have := hM1.1; have := diff_len a b; omega
  have HE2 := Lib.hid (HE.out.trans hE); have HM1 := Lib.hid hM1; clear hE hM1 ho hwf
  go_wp2_with fail
  refine (rdiff_any A B n c m d a b _ (HA.out.ext HE2.out) (HB.out.ext HE2.out) (by omega) (by omega)).mono ?_
  rintro e w3 ⟨v, N2, rfl, ho, hwf, hE⟩
  obtain ⟨D2, l2, rfl, hN2, hM2⟩ := ownM_mts ho hwf
  have hNb2 : N2 ≤ 25 := by have := hM2.1; have := diff_len a b; omega
  have HE3 := Lib.hid (HE2.out.trans hE); have HM2 := Lib.hid hM2; have HM3 := Lib.hid (HM1.out.ext hE); clear hE hM2 ho hwf
  go_wp2_with fail
  refine (sameM_is (r := true) (by simp) HM3.out HM2.out (by unfold Reach; omega) (by unfold Reach; omega)).mono ?_
  rintro e w4 ⟨rfl, hE⟩
  have HE4 := Lib.hid (HE3.out.trans hE); clear hE
  go_wp2_with fail
  refine (distance_any A B n c m d a b _ (HA.out.ext HE4.out) (HB.out.ext HE4.out) (by omega) (by omega) (dist a b) (by have := dist_le a b; have := HA.out.1; have := HB.out.1; omega) (last_dist a b)).mono ?_
  rintro e w5 ⟨rfl, hE⟩
  have HE5 := Lib.hid (HE4.out.trans hE); clear hE
  go_wp2_with fail
  refine (rdistance_any A B n c m d a b _ (HA.out.ext HE5.out) (HB.out.ext HE5.out) (by omega) (by omega)).mono ?_
  rintro e w6 ⟨rfl, hE⟩
  have HE6 := Lib.hid (HE5.out.trans hE); clear hE
  go_wp2_with fail
  refine (certificate_any A B n c m d a b _ (HA.out.ext HE6.out) (HB.out.ext HE6.out) (by omega) (by omega) (dist a b) (by omega) (last_dist a b)).mono ?_
  rintro e w7 ⟨g7, c7, L7, rfl, hL7, hT7, hE⟩
  have HE7 := Lib.hid (HE6.out.trans hE); have HL7 := Lib.hid hL7; have HT7 := Lib.hid hT7; clear hE hL7 hT7
  go_wp2_with fail
  refine (rcertificate_any A B n c m d a b _ (HA.out.ext HE7.out) (HB.out.ext HE7.out) (by omega) (by omega)).mono ?_
  rintro e w8 ⟨g8, c8, L8, rfl, hL8, hT8, hE⟩
  have HE8 := Lib.hid (HE7.out.trans hE); have HL8 := Lib.hid hL8; have HT8 := Lib.hid hT8; have HL9 := Lib.hid (HL7.out.ext hE); clear hE hL8 hT8
  go_wp2_with fail
  refine (sameT_is (r := true) (by rw [HT7.out, HT8.out]; simp) HL9.out HL8.out (by unfold Reach; omega) (by unfold Reach; omega)).mono ?_
  rintro e w10 ⟨rfl, hE⟩
  have HE10 := Lib.hid (HE8.out.trans hE); clear hE
  go_wp2_with fail
  refine (awake_any _).mono ?_
  rintro e w9 ⟨rfl, hE⟩
  have HE9 := Lib.hid (HE10.out.trans hE); clear hE
  go_wp2_with fail
  go_ret
  exact ⟨rfl, HE9.out⟩

end Go.Proofs.Ytmagicjmenbdpaa

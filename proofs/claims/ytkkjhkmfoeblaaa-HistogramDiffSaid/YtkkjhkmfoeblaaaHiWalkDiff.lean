/- HistogramDiff: the walk. -/
import Derived.Test.YtkkjhkmfoeblaaaHiWalk
namespace Go.Proofs.Ytkkjhkmfoeblaaa
open Go.RowKit

set_option maxRecDepth 100000 in
set_option maxHeartbeats 8000000 in
theorem diff_walk {A : Option Addr} {n c : Nat} {a : Lns} {B : Option Addr} {m d : Nat} {b : Lns} (w : World) (ha : Strs w A n a) (hac : n ≤ c) (han : n ≤ Reach) (hb : Strs w B m b) (hbc : m ≤ d) (hbn : m ≤ Reach) :
    Calls Try.prog 4 #[.slice A n c, .slice B m d] w (Good w) := by
  obtain rfl : a.length = n := ha.1
  obtain rfl : b.length = m := hb.1
  have HA := Lib.hid ha; have HB := Lib.hid hb; clear ha hb
  have HG := Lib.hid (rss2 (c := c) (d := d) HA.out han HB.out hbn)
  by_cases hg : ([(⟨A, a.length, c, a⟩ : SS), ⟨B, b.length, d, b⟩].any fun s => great03 s.l) = true
  · have HGR := Lib.hid hg; clear hg
    go_enter Try.func4, Try.ntmps4
    go_wp2_with fail
    refine (great_new (L := [(⟨A, a.length, c, a⟩ : SS), ⟨B, b.length, d, b⟩]) rfl HGR.out HG.out (by simp)).mono ?_
    rintro e w1 ⟨rfl, hE⟩
    have HE := Lib.hid hE; clear hE
    go_wp2_with fail
    refine (awake_any _).mono ?_
    rintro e w9 ⟨rfl, hE⟩
    have HE9 := Lib.hid (HE.out.trans hE); clear hE
    go_wp2_with fail
    go_ret
    exact ⟨rfl, HE9.out⟩
  have hg' : ([(⟨A, a.length, c, a⟩ : SS), ⟨B, b.length, d, b⟩].any fun s => great03 s.l) = false := by simpa using hg
  have h1 : a.length ≤ 12 := great03_len (by simp at hg'; exact hg'.1)
  have h2 : b.length ≤ 12 := great03_len (by simp at hg'; exact hg'.2)
  have HGR := Lib.hid hg'; clear hg hg'
  go_enter Try.func4, Try.ntmps4
  go_wp2_with fail
  refine (great_new (L := [(⟨A, a.length, c, a⟩ : SS), ⟨B, b.length, d, b⟩]) rfl HGR.out HG.out (by simp)).mono ?_
  rintro e w1 ⟨rfl, hE⟩
  have HE := Lib.hid hE; clear hE
  go_wp2_with fail
  refine (hdiff_is A B a.length c b.length d a b _ (HA.out.ext HE.out) (HB.out.ext HE.out) (by omega) (by omega) hac hbc).mono ?_
  rintro e w2 ⟨C1, N1, k1, rfl, hN1, hNa, hM, hE⟩
  have HE2 := Lib.hid (HE.out.trans hE); have HM := Lib.hid hM; clear hE hM
  go_wp2_with fail
  refine (rhdiff_is A B a.length c b.length d a b _ (HA.out.ext HE2.out) (HB.out.ext HE2.out) (by omega) (by omega) hac hbc).mono ?_
  rintro e w3 ⟨C2, N2, k2, rfl, hN2, hNb, hM, hE⟩
  have HE3 := Lib.hid (HE2.out.trans hE); have HM2 := Lib.hid hM; have HM1 := Lib.hid (HM.out.ext hE); clear hE hM
  go_wp2_with fail
  refine (sameM_is (r := true) (by simp) HM1.out HM2.out (by unfold Reach; omega) (by unfold Reach; omega)).mono ?_
  rintro e w4 ⟨rfl, hE⟩
  have HE4 := Lib.hid (HE3.out.trans hE); clear hE
  go_wp2_with fail
  refine (awake_any _).mono ?_
  rintro e w9 ⟨rfl, hE⟩
  have HE9 := Lib.hid (HE4.out.trans hE); clear hE
  go_wp2_with fail
  go_ret
  exact ⟨rfl, HE9.out⟩
end Go.Proofs.Ytkkjhkmfoeblaaa

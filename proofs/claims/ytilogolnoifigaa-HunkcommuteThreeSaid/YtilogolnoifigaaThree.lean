/- The walk of HunkcommuteThree: it returns true, and adds new memory at most. -/
import Derived.Test.YtilogolnoifigaaKnow
namespace Go.Proofs.Ytilogolnoifigaa
open Go.RowKit

set_option maxRecDepth 100000 in
set_option maxHeartbeats 4000000 in
theorem three_walk {a b c : Hk} {x y z : AH} (w : World) (ha : RH w a x) (hb : RH w b y) (hc : RH w c z) :
    Calls Try.prog 4 #[a.val, b.val, c.val] w fun e w' => e = .returned (.bool true) ∧ Ext w w' := by
  have HA := Lib.hid ha; have HB := Lib.hid hb; have HC := Lib.hid hc; clear ha hb hc
  have K0 := Lib.hid ((((Know.start w).new a.obj rfl).new b.obj (g := w.heap.size + 1) (by simp)).new c.obj (g := w.heap.size + 2) (by simp))
  obtain ⟨G, hG⟩ := great3 none 0 0 a b c x y z _ (by decide) (HA.out.ext K0.out.1) (HB.out.ext K0.out.1) (HC.out.ext K0.out.1) (w.heap.size + 3) (w.heap.size + 4) (by simp) (by simp)
  have HG := Lib.hid hG; clear hG
  go_enter Try.func4, Try.ntmps4
  go_wp2_with fail
  refine HG.out.mono ?_
  rintro e w1 ⟨rfl, hE⟩
  have K1 := Lib.hid (K0.out.ext hE); clear hE
  cases G
  case true =>
    go_wp2_with fail
    refine (awake_any _).mono ?_
    rintro e w2 ⟨rfl, hE⟩
    have HE := Lib.hid (K1.out.1.trans hE); clear hE
    go_wp2_with fail
    go_ret
    exact ⟨rfl, HE.out⟩
  obtain ⟨c00, c01, c02⟩ := (K1.out.at 2 rfl).cells3
  obtain ⟨c10, c11, c12⟩ := (K1.out.at 1 rfl).cells3
  go_wp2_with fail
  clear c00 c01 c02 c10 c11 c12
  obtain ⟨b1, a1, ok1, h1⟩ : ∃ x y ok, commuteT a b = (x, y, ok) := ⟨_, _, _, rfl⟩
  have S1 := Lib.hid (commuteT_small h1 HA.out.1 HB.out.1)
  refine (commute_is h1 _ HA.out.1 HB.out.1).mono ?_
  have H1 := Lib.hid h1; clear h1
  rintro e w2 ⟨rfl, hE⟩
  have K2 := Lib.hid (((K1.out.ext hE).new b1.obj rfl).new a1.obj (g := w2.heap.size + 1) (by simp)); clear hE
  obtain ⟨c00, c01, c02⟩ := (K2.out.at 0 rfl).cells3
  obtain ⟨c10, c11, c12⟩ := (K2.out.at 2 rfl).cells3
  go_wp2_with fail
  clear c00 c01 c02 c10 c11 c12
  obtain ⟨c1, a2, ok2, h2⟩ : ∃ x y ok, commuteT a1 c = (x, y, ok) := ⟨_, _, _, rfl⟩
  have S2 := Lib.hid (commuteT_small h2 S1.out.2 HC.out.1)
  refine (commute_is h2 _ S1.out.2 HC.out.1).mono ?_
  have H2 := Lib.hid h2; clear h2
  rintro e w3 ⟨rfl, hE⟩
  have K3 := Lib.hid (((K2.out.ext hE).new c1.obj rfl).new a2.obj (g := w3.heap.size + 1) (by simp)); clear hE
  obtain ⟨c00, c01, c02⟩ := (K3.out.at 3 rfl).cells3
  obtain ⟨c10, c11, c12⟩ := (K3.out.at 1 rfl).cells3
  go_wp2_with fail
  clear c00 c01 c02 c10 c11 c12
  obtain ⟨c2, b2, ok3, h3⟩ : ∃ x y ok, commuteT b1 c1 = (x, y, ok) := ⟨_, _, _, rfl⟩
  have S3 := Lib.hid (commuteT_small h3 S1.out.1 S2.out.1)
  refine (commute_is h3 _ S1.out.1 S2.out.1).mono ?_
  have H3 := Lib.hid h3; clear h3
  rintro e w4 ⟨rfl, hE⟩
  have K4 := Lib.hid (((K3.out.ext hE).new c2.obj rfl).new b2.obj (g := w4.heap.size + 1) (by simp)); clear hE
  obtain ⟨c00, c01, c02⟩ := (K4.out.at 7 rfl).cells3
  obtain ⟨c10, c11, c12⟩ := (K4.out.at 6 rfl).cells3
  go_wp2_with fail
  clear c00 c01 c02 c10 c11 c12
  obtain ⟨c3, b3, ok4, h4⟩ : ∃ x y ok, commuteT b c = (x, y, ok) := ⟨_, _, _, rfl⟩
  have S4 := Lib.hid (commuteT_small h4 HB.out.1 HC.out.1)
  refine (commute_is h4 _ HB.out.1 HC.out.1).mono ?_
  have H4 := Lib.hid h4; clear h4
  rintro e w5 ⟨rfl, hE⟩
  have K5 := Lib.hid (((K4.out.ext hE).new c3.obj rfl).new b3.obj (g := w5.heap.size + 1) (by simp)); clear hE
  obtain ⟨c00, c01, c02⟩ := (K5.out.at 10 rfl).cells3
  obtain ⟨c10, c11, c12⟩ := (K5.out.at 1 rfl).cells3
  go_wp2_with fail
  clear c00 c01 c02 c10 c11 c12
  obtain ⟨c4, a3, ok5, h5⟩ : ∃ x y ok, commuteT a c3 = (x, y, ok) := ⟨_, _, _, rfl⟩
  have S5 := Lib.hid (commuteT_small h5 HA.out.1 S4.out.1)
  refine (commute_is h5 _ HA.out.1 S4.out.1).mono ?_
  have H5 := Lib.hid h5; clear h5
  rintro e w6 ⟨rfl, hE⟩
  have K6 := Lib.hid (((K5.out.ext hE).new c4.obj rfl).new a3.obj (g := w6.heap.size + 1) (by simp)); clear hE
  obtain ⟨c00, c01, c02⟩ := (K6.out.at 0 rfl).cells3
  obtain ⟨c10, c11, c12⟩ := (K6.out.at 2 rfl).cells3
  go_wp2_with fail
  clear c00 c01 c02 c10 c11 c12
  obtain ⟨b4, a4, ok6, h6⟩ : ∃ x y ok, commuteT a3 b3 = (x, y, ok) := ⟨_, _, _, rfl⟩
  refine (commute_is h6 _ S5.out.2 S4.out.2).mono ?_
  have H6 := Lib.hid h6; clear h6
  rintro e w7 ⟨rfl, hE⟩
  have K7 := Lib.hid (((K6.out.ext hE).new b4.obj rfl).new a4.obj (g := w7.heap.size + 1) (by simp)); clear hE
  cases ok1
  case false =>
    go_wp2_with fail
    refine (awake_any _).mono ?_
    rintro e w8 ⟨rfl, hE⟩
    have HE := Lib.hid (K7.out.1.trans hE); clear hE
    go_wp2_with fail
    go_ret
    exact ⟨rfl, HE.out⟩
  cases ok2
  case false =>
    go_wp2_with fail
    refine (awake_any _).mono ?_
    rintro e w8 ⟨rfl, hE⟩
    have HE := Lib.hid (K7.out.1.trans hE); clear hE
    go_wp2_with fail
    go_ret
    exact ⟨rfl, HE.out⟩
  cases ok3
  case false =>
    go_wp2_with fail
    refine (awake_any _).mono ?_
    rintro e w8 ⟨rfl, hE⟩
    have HE := Lib.hid (K7.out.1.trans hE); clear hE
    go_wp2_with fail
    go_ret
    exact ⟨rfl, HE.out⟩
  cases ok4
  case false =>
    go_wp2_with fail
    refine (awake_any _).mono ?_
    rintro e w8 ⟨rfl, hE⟩
    have HE := Lib.hid (K7.out.1.trans hE); clear hE
    go_wp2_with fail
    go_ret
    exact ⟨rfl, HE.out⟩
  cases ok5
  case false =>
    go_wp2_with fail
    refine (awake_any _).mono ?_
    rintro e w8 ⟨rfl, hE⟩
    have HE := Lib.hid (K7.out.1.trans hE); clear hE
    go_wp2_with fail
    go_ret
    exact ⟨rfl, HE.out⟩
  cases ok6
  case false =>
    go_wp2_with fail
    refine (awake_any _).mono ?_
    rintro e w8 ⟨rfl, hE⟩
    have HE := Lib.hid (K7.out.1.trans hE); clear hE
    go_wp2_with fail
    go_ret
    exact ⟨rfl, HE.out⟩
  have V1 := commuteT_true H1.out; have V2 := commuteT_true H2.out; have V3 := commuteT_true H3.out
  have V4 := commuteT_true H4.out; have V5 := commuteT_true H5.out; have V6 := commuteT_true H6.out
  obtain ⟨e1, e2, e3⟩ := three_at V1 V2 V3 V4 V5 V6
  have LA := Lib.hid (like_trans (commuteV_like V1).2 (commuteV_like V2).2)
  have LB := Lib.hid (like_trans (commuteV_like V1).1 (commuteV_like V3).2)
  have LC := Lib.hid (like_trans (commuteV_like V2).1 (commuteV_like V3).1)
  have E1 := Lib.hid e1; have E2 := Lib.hid e2; have E3 := Lib.hid e3
  clear V1 V2 V3 V4 V5 V6 e1 e2 e3
  obtain ⟨c00, c01, c02⟩ := (K7.out.at 8 rfl).cells3
  go_wp2_with fail
  clear c00 c01 c02
  refine (sameHunk_is (r := true) (by rw [E1.out, AH.same_refl]) (rh_like (HA.out.ext K7.out.1) LA.out) (E1.out ▸ rh_like (HA.out.ext K7.out.1) LA.out)).mono ?_
  rintro e w8 ⟨rfl, hE⟩
  have K8 := Lib.hid (K7.out.ext hE); clear hE
  obtain ⟨c00, c01, c02⟩ := (K8.out.at 6 rfl).cells3
  obtain ⟨c10, c11, c12⟩ := (K8.out.at 1 rfl).cells3
  go_wp2_with fail
  clear c00 c01 c02 c10 c11 c12
  refine (sameHunk_is (r := true) (by rw [E2.out, AH.same_refl]) (rh_like (HB.out.ext K8.out.1) LB.out) (E2.out ▸ rh_like (HB.out.ext K8.out.1) LB.out)).mono ?_
  rintro e w9 ⟨rfl, hE⟩
  have K9 := Lib.hid (K8.out.ext hE); clear hE
  obtain ⟨c00, c01, c02⟩ := (K9.out.at 7 rfl).cells3
  obtain ⟨c10, c11, c12⟩ := (K9.out.at 3 rfl).cells3
  go_wp2_with fail
  clear c00 c01 c02 c10 c11 c12
  refine (sameHunk_is (r := true) (by rw [E3.out, AH.same_refl]) (rh_like (HC.out.ext K9.out.1) LC.out) (E3.out ▸ rh_like (HC.out.ext K9.out.1) LC.out)).mono ?_
  rintro e w10 ⟨rfl, hE⟩
  have K10 := Lib.hid (K9.out.ext hE); clear hE
  go_wp2_with fail
  refine (awake_any _).mono ?_
  rintro e w11 ⟨rfl, hE⟩
  have HE := Lib.hid (K10.out.1.trans hE); clear hE
  go_wp2_with fail
  go_ret
  exact ⟨rfl, HE.out⟩
end Go.Proofs.Ytilogolnoifigaa

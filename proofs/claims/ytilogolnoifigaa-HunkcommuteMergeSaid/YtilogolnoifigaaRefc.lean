/- Contracts of the reference's Commute and Merge on hunks (printed by genrefc.py). -/
import Derived.Test.YtilogolnoifigaaRef
namespace Go.Proofs.Ytilogolnoifigaa
open Go.RowKit

set_option maxHeartbeats 2000000 in
theorem refc_no1 (a b : Hk) (w : World) (ha : a.small) (hok' : a.ok = false) :
    Calls Try.prog 15 #[a.val, b.val] w fun e w' => e = .returned (resV none) ∧ Ext w w' := by
  have HA := Lib.hid ha; clear ha
  go_enter Try.func15, Try.ntmps15
  go_wp2_with fail
  refine (valid11_any a _ HA.out).mono ?_
  rintro e w1 ⟨rfl, hE⟩
  have HV := Lib.hid ((V4.start w a b).ext hE); clear hE
  obtain ⟨c20, c21, c22⟩ := HV.out.2.2.2.1.cells3
  obtain ⟨c30, c31, c32⟩ := HV.out.2.2.2.2.cells3
  obtain ⟨f20, f21, f22⟩ := HV.out.2.2.2.1.free3
  obtain ⟨f30, f31, f32⟩ := HV.out.2.2.2.2.free3
  go_wp2_with fail
  exact bodyPost_ret (v := resV none) (by simp [resV, results, Try.results15, go_sem, Hk.zero, c20, c21, c22, c30, c31, c32]) rfl ⟨rfl, (HV.out.1.set3 (by omega) _ _ _).set3 (by omega) _ _ _⟩

set_option maxHeartbeats 2000000 in
theorem refc_no2 (a b : Hk) (w : World) (ha : a.small) (hb : b.small) (hok : a.ok = true) (hok' : b.ok = false) :
    Calls Try.prog 15 #[a.val, b.val] w fun e w' => e = .returned (resV none) ∧ Ext w w' := by
  have HA := Lib.hid ha; have HB := Lib.hid hb; clear ha hb
  go_enter Try.func15, Try.ntmps15
  go_wp2_with fail
  refine (valid11_any a _ HA.out).mono ?_
  rintro e w1 ⟨rfl, hE⟩
  have HV := Lib.hid ((V4.start w a b).ext hE); clear hE
  obtain ⟨c10, c11, c12⟩ := HV.out.2.2.1.cells3
  go_wp2_with fail
  refine (valid11_any b _ HB.out).mono ?_
  rintro e w2 ⟨rfl, hE2⟩
  have HV2 := Lib.hid (HV.out.ext hE2); clear hE2 c10 c11 c12
  obtain ⟨c20, c21, c22⟩ := HV2.out.2.2.2.1.cells3
  obtain ⟨c30, c31, c32⟩ := HV2.out.2.2.2.2.cells3
  obtain ⟨f20, f21, f22⟩ := HV2.out.2.2.2.1.free3
  obtain ⟨f30, f31, f32⟩ := HV2.out.2.2.2.2.free3
  go_wp2_with fail
  exact bodyPost_ret (v := resV none) (by simp [resV, results, Try.results15, go_sem, Hk.zero, c20, c21, c22, c30, c31, c32]) rfl ⟨rfl, (HV2.out.1.set3 (by omega) _ _ _).set3 (by omega) _ _ _⟩

set_option maxHeartbeats 2000000 in
theorem refc_A (a b : Hk) (ok : Bool) (w : World) (ha : a.small) (hb : b.small) (hoka : a.ok = true) (hokb : b.ok = true) (hlt : a.at_ + a.nl < b.at_) (hok : decide (b.at_ + ((a.ol : Int) - a.nl) ≤ 1099511627776) = ok) :
    Calls Try.prog 15 #[a.val, b.val] w fun e w' => e = .returned (resV (if ok then some (({ b with at_ := b.at_ + ((a.ol : Int) - a.nl) } : Hk), a) else none)) ∧ Ext w w' := by
  have HA := Lib.hid ha; have HB := Lib.hid hb
  obtain ⟨ha1, ha2⟩ := ha; obtain ⟨hb1, hb2⟩ := hb
  unfold Reach at ha1 ha2 hb1 hb2
  obtain ⟨ha3, ha4⟩ := ok_bounds hoka; obtain ⟨hb3, hb4⟩ := ok_bounds hokb
  have HOK := Lib.hid hok; clear hok
  go_enter Try.func15, Try.ntmps15
  go_wp2_with fail
  refine (valid11_any a _ HA.out).mono ?_
  rintro e w1 ⟨rfl, hE⟩
  have HV := Lib.hid ((V4.start w a b).ext hE); clear hE
  obtain ⟨c10, c11, c12⟩ := HV.out.2.2.1.cells3
  go_wp2_with fail
  refine (valid11_any b _ HB.out).mono ?_
  rintro e w2 ⟨rfl, hE2⟩
  have HV2 := Lib.hid (HV.out.ext hE2); clear hE2 c10 c11 c12
  obtain ⟨c00, c01, c02⟩ := HV2.out.2.1.cells3
  obtain ⟨c10, c11, c12⟩ := HV2.out.2.2.1.cells3
  go_wp2_with fail
  clear c00 c01 c02 c10 c11 c12
  refine (moved_any b _ ok _ hb3 hb4 (by omega) (by omega) HOK.out).mono ?_
  rintro e w3 ⟨rfl, hE3⟩
  have HV3 := Lib.hid (HV2.out.ext hE3); clear hE3
  obtain ⟨c00, c01, c02⟩ := HV3.out.2.1.cells3
  obtain ⟨c10, c11, c12⟩ := HV3.out.2.2.1.cells3
  obtain ⟨c20, c21, c22⟩ := HV3.out.2.2.2.1.cells3
  obtain ⟨c30, c31, c32⟩ := HV3.out.2.2.2.2.cells3
  obtain ⟨f20, f21, f22⟩ := HV3.out.2.2.2.1.free3
  obtain ⟨f30, f31, f32⟩ := HV3.out.2.2.2.2.free3
  obtain ⟨f00, f01, f02⟩ := HV3.out.2.1.free3
  obtain ⟨f10, f11, f12⟩ := HV3.out.2.2.1.free3
  cases ok
  · go_wp2_with fail
    exact bodyPost_ret (v := resV none) (by simp [resV, results, Try.results15, go_sem, Hk.zero, c20, c21, c22, c30, c31, c32]) rfl ⟨rfl, ((HV3.out.1.set3 (by omega) _ _ _).set3 (by omega) _ _ _).set3 (by omega) _ _ _⟩
  · go_wp2_with fail
    go_region
    go_wp2_with fail
    exact bodyPost_ret (v := resV (some (({ b with at_ := b.at_ + ((a.ol : Int) - a.nl) } : Hk), a))) (by simp [resV, results, Try.results15, go_sem, c20, c21, c22, c30, c31, c32]) rfl ⟨rfl, (((HV3.out.1.set3 (by omega) _ _ _).set3 (by omega) _ _ _).set3 (by omega) _ _ _).drew⟩

set_option maxHeartbeats 2000000 in
theorem refc_B (a b : Hk) (ok : Bool) (w : World) (ha : a.small) (hb : b.small) (hoka : a.ok = true) (hokb : b.ok = true) (hge : ¬ a.at_ + a.nl < b.at_) (hlt : b.at_ + b.ol < a.at_) (hok : decide (a.at_ + ((b.nl : Int) - b.ol) ≤ 1099511627776) = ok) :
    Calls Try.prog 15 #[a.val, b.val] w fun e w' => e = .returned (resV (if ok then some (b, ({ a with at_ := a.at_ + ((b.nl : Int) - b.ol) } : Hk)) else none)) ∧ Ext w w' := by
  have HA := Lib.hid ha; have HB := Lib.hid hb
  obtain ⟨ha1, ha2⟩ := ha; obtain ⟨hb1, hb2⟩ := hb
  unfold Reach at ha1 ha2 hb1 hb2
  obtain ⟨ha3, ha4⟩ := ok_bounds hoka; obtain ⟨hb3, hb4⟩ := ok_bounds hokb
  have HOK := Lib.hid hok; clear hok
  go_enter Try.func15, Try.ntmps15
  go_wp2_with fail
  refine (valid11_any a _ HA.out).mono ?_
  rintro e w1 ⟨rfl, hE⟩
  have HV := Lib.hid ((V4.start w a b).ext hE); clear hE
  obtain ⟨c10, c11, c12⟩ := HV.out.2.2.1.cells3
  go_wp2_with fail
  refine (valid11_any b _ HB.out).mono ?_
  rintro e w2 ⟨rfl, hE2⟩
  have HV2 := Lib.hid (HV.out.ext hE2); clear hE2 c10 c11 c12
  obtain ⟨c00, c01, c02⟩ := HV2.out.2.1.cells3
  obtain ⟨c10, c11, c12⟩ := HV2.out.2.2.1.cells3
  go_wp2_with fail
  clear c00 c01 c02 c10 c11 c12
  refine (moved_any a _ ok _ ha3 ha4 (by omega) (by omega) HOK.out).mono ?_
  rintro e w3 ⟨rfl, hE3⟩
  have HV3 := Lib.hid (HV2.out.ext hE3); clear hE3
  obtain ⟨c00, c01, c02⟩ := HV3.out.2.1.cells3
  obtain ⟨c10, c11, c12⟩ := HV3.out.2.2.1.cells3
  obtain ⟨c20, c21, c22⟩ := HV3.out.2.2.2.1.cells3
  obtain ⟨c30, c31, c32⟩ := HV3.out.2.2.2.2.cells3
  obtain ⟨f20, f21, f22⟩ := HV3.out.2.2.2.1.free3
  obtain ⟨f30, f31, f32⟩ := HV3.out.2.2.2.2.free3
  obtain ⟨f00, f01, f02⟩ := HV3.out.2.1.free3
  obtain ⟨f10, f11, f12⟩ := HV3.out.2.2.1.free3
  cases ok
  · go_wp2_with fail
    exact bodyPost_ret (v := resV none) (by simp [resV, results, Try.results15, go_sem, Hk.zero, c20, c21, c22, c30, c31, c32]) rfl ⟨rfl, ((HV3.out.1.set3 (by omega) _ _ _).set3 (by omega) _ _ _).set3 (by omega) _ _ _⟩
  · go_wp2_with fail
    go_region
    go_wp2_with fail
    exact bodyPost_ret (v := resV (some (b, ({ a with at_ := a.at_ + ((b.nl : Int) - b.ol) } : Hk)))) (by simp [resV, results, Try.results15, go_sem, c20, c21, c22, c30, c31, c32]) rfl ⟨rfl, (((HV3.out.1.set3 (by omega) _ _ _).set3 (by omega) _ _ _).set3 (by omega) _ _ _).drew⟩

set_option maxHeartbeats 2000000 in
theorem refc_C (a b : Hk) (w : World) (ha : a.small) (hb : b.small) (hoka : a.ok = true) (hokb : b.ok = true) (hge : ¬ a.at_ + a.nl < b.at_) (hge' : ¬ b.at_ + b.ol < a.at_) :
    Calls Try.prog 15 #[a.val, b.val] w fun e w' => e = .returned (resV none) ∧ Ext w w' := by
  have HA := Lib.hid ha; have HB := Lib.hid hb
  obtain ⟨ha1, ha2⟩ := ha; obtain ⟨hb1, hb2⟩ := hb
  unfold Reach at ha1 ha2 hb1 hb2
  obtain ⟨ha3, ha4⟩ := ok_bounds hoka; obtain ⟨hb3, hb4⟩ := ok_bounds hokb
  go_enter Try.func15, Try.ntmps15
  go_wp2_with fail
  refine (valid11_any a _ HA.out).mono ?_
  rintro e w1 ⟨rfl, hE⟩
  have HV := Lib.hid ((V4.start w a b).ext hE); clear hE
  obtain ⟨c10, c11, c12⟩ := HV.out.2.2.1.cells3
  go_wp2_with fail
  refine (valid11_any b _ HB.out).mono ?_
  rintro e w2 ⟨rfl, hE2⟩
  have HV2 := Lib.hid (HV.out.ext hE2); clear hE2 c10 c11 c12
  obtain ⟨c00, c01, c02⟩ := HV2.out.2.1.cells3
  obtain ⟨c10, c11, c12⟩ := HV2.out.2.2.1.cells3
  obtain ⟨c20, c21, c22⟩ := HV2.out.2.2.2.1.cells3
  obtain ⟨c30, c31, c32⟩ := HV2.out.2.2.2.2.cells3
  obtain ⟨f20, f21, f22⟩ := HV2.out.2.2.2.1.free3
  obtain ⟨f30, f31, f32⟩ := HV2.out.2.2.2.2.free3
  go_wp2_with fail
  exact bodyPost_ret (v := resV none) (by simp [resV, results, Try.results15, go_sem, Hk.zero, c20, c21, c22, c30, c31, c32]) rfl ⟨rfl, (HV2.out.1.set3 (by omega) _ _ _).set3 (by omega) _ _ _⟩

theorem refc_any (a b : Hk) (w : World) (ha : a.small) (hb : b.small) :
    Calls Try.prog 15 #[a.val, b.val] w fun e w' => e = .returned (resV (commuteV a b)) ∧ Ext w w' := by
  by_cases h1 : a.ok = true
  case neg =>
    have h1' : a.ok = false := by simpa using h1
    rw [commuteV, if_pos (.inl h1')]
    exact refc_no1 a b w ha h1'
  by_cases h2 : b.ok = true
  case neg =>
    have h2' : b.ok = false := by simpa using h2
    rw [commuteV, if_pos (.inr h2')]
    exact refc_no2 a b w ha hb h1 h2'
  rw [commuteV, if_neg (by simp [h1, h2])]
  by_cases h3 : a.at_ + a.nl < b.at_
  · rw [if_pos h3]
    have := refc_A a b _ w ha hb h1 h2 h3 rfl
    simpa using this
  rw [if_neg h3]
  by_cases h4 : b.at_ + b.ol < a.at_
  · rw [if_pos h4]
    have := refc_B a b _ w ha hb h1 h2 h3 h4 rfl
    simpa using this
  rw [if_neg h4]
  exact refc_C a b w ha hb h1 h2 h3 h4
theorem refc_is {a b x y : Hk} {ok : Bool} (h : commuteT a b = (x, y, ok)) (w : World) (ha : a.small) (hb : b.small) :
    Calls Try.prog 15 #[a.val, b.val] w fun e w' => e = .returned (.tuple #[x.val, y.val, .bool ok]) ∧ Ext w w' := by
  have := refc_any a b w ha hb
  unfold commuteT at h
  split at h
  · rename_i h'; cases h; rw [h'] at this; exact this
  · rename_i h'; cases h; rw [h'] at this; exact this

set_option maxHeartbeats 2000000 in
theorem refm_no1 (a b : Hk) (w : World) (ha : a.small) (hok' : a.ok = false) :
    Calls Try.prog 17 #[a.val, b.val] w fun e w' => e = .returned (resV none) ∧ Ext w w' := by
  have HA := Lib.hid ha; clear ha
  go_enter Try.func17, Try.ntmps17
  go_wp2_with fail
  refine (valid11_any a _ HA.out).mono ?_
  rintro e w1 ⟨rfl, hE⟩
  have HV := Lib.hid ((V4.start w a b).ext hE); clear hE
  obtain ⟨c20, c21, c22⟩ := HV.out.2.2.2.1.cells3
  obtain ⟨c30, c31, c32⟩ := HV.out.2.2.2.2.cells3
  obtain ⟨f20, f21, f22⟩ := HV.out.2.2.2.1.free3
  obtain ⟨f30, f31, f32⟩ := HV.out.2.2.2.2.free3
  go_wp2_with fail
  exact bodyPost_ret (v := resV none) (by simp [resV, results, Try.results17, go_sem, Hk.zero, c20, c21, c22, c30, c31, c32]) rfl ⟨rfl, (HV.out.1.set3 (by omega) _ _ _).set3 (by omega) _ _ _⟩

set_option maxHeartbeats 2000000 in
theorem refm_no2 (a b : Hk) (w : World) (ha : a.small) (hb : b.small) (hok : a.ok = true) (hok' : b.ok = false) :
    Calls Try.prog 17 #[a.val, b.val] w fun e w' => e = .returned (resV none) ∧ Ext w w' := by
  have HA := Lib.hid ha; have HB := Lib.hid hb; clear ha hb
  go_enter Try.func17, Try.ntmps17
  go_wp2_with fail
  refine (valid11_any a _ HA.out).mono ?_
  rintro e w1 ⟨rfl, hE⟩
  have HV := Lib.hid ((V4.start w a b).ext hE); clear hE
  obtain ⟨c10, c11, c12⟩ := HV.out.2.2.1.cells3
  go_wp2_with fail
  refine (valid11_any b _ HB.out).mono ?_
  rintro e w2 ⟨rfl, hE2⟩
  have HV2 := Lib.hid (HV.out.ext hE2); clear hE2 c10 c11 c12
  obtain ⟨c20, c21, c22⟩ := HV2.out.2.2.2.1.cells3
  obtain ⟨c30, c31, c32⟩ := HV2.out.2.2.2.2.cells3
  obtain ⟨f20, f21, f22⟩ := HV2.out.2.2.2.1.free3
  obtain ⟨f30, f31, f32⟩ := HV2.out.2.2.2.2.free3
  go_wp2_with fail
  exact bodyPost_ret (v := resV none) (by simp [resV, results, Try.results17, go_sem, Hk.zero, c20, c21, c22, c30, c31, c32]) rfl ⟨rfl, (HV2.out.1.set3 (by omega) _ _ _).set3 (by omega) _ _ _⟩

set_option maxHeartbeats 2000000 in
theorem refm_A (a b : Hk) (ok : Bool) (w : World) (ha : a.small) (hb : b.small) (hoka : a.ok = true) (hokb : b.ok = true) (hlt : a.at_ + a.ol < b.at_) (hok : decide (b.at_ + ((a.nl : Int) - a.ol) ≤ 1099511627776) = ok) :
    Calls Try.prog 17 #[a.val, b.val] w fun e w' => e = .returned (resV (if ok then some (({ b with at_ := b.at_ + ((a.nl : Int) - a.ol) } : Hk), a) else none)) ∧ Ext w w' := by
  have HA := Lib.hid ha; have HB := Lib.hid hb
  obtain ⟨ha1, ha2⟩ := ha; obtain ⟨hb1, hb2⟩ := hb
  unfold Reach at ha1 ha2 hb1 hb2
  obtain ⟨ha3, ha4⟩ := ok_bounds hoka; obtain ⟨hb3, hb4⟩ := ok_bounds hokb
  have HOK := Lib.hid hok; clear hok
  go_enter Try.func17, Try.ntmps17
  go_wp2_with fail
  refine (valid11_any a _ HA.out).mono ?_
  rintro e w1 ⟨rfl, hE⟩
  have HV := Lib.hid ((V4.start w a b).ext hE); clear hE
  obtain ⟨c10, c11, c12⟩ := HV.out.2.2.1.cells3
  go_wp2_with fail
  refine (valid11_any b _ HB.out).mono ?_
  rintro e w2 ⟨rfl, hE2⟩
  have HV2 := Lib.hid (HV.out.ext hE2); clear hE2 c10 c11 c12
  obtain ⟨c00, c01, c02⟩ := HV2.out.2.1.cells3
  obtain ⟨c10, c11, c12⟩ := HV2.out.2.2.1.cells3
  go_wp2_with fail
  clear c00 c01 c02 c10 c11 c12
  refine (moved_any b _ ok _ hb3 hb4 (by omega) (by omega) HOK.out).mono ?_
  rintro e w3 ⟨rfl, hE3⟩
  have HV3 := Lib.hid (HV2.out.ext hE3); clear hE3
  obtain ⟨c00, c01, c02⟩ := HV3.out.2.1.cells3
  obtain ⟨c10, c11, c12⟩ := HV3.out.2.2.1.cells3
  obtain ⟨c20, c21, c22⟩ := HV3.out.2.2.2.1.cells3
  obtain ⟨c30, c31, c32⟩ := HV3.out.2.2.2.2.cells3
  obtain ⟨f20, f21, f22⟩ := HV3.out.2.2.2.1.free3
  obtain ⟨f30, f31, f32⟩ := HV3.out.2.2.2.2.free3
  obtain ⟨f00, f01, f02⟩ := HV3.out.2.1.free3
  obtain ⟨f10, f11, f12⟩ := HV3.out.2.2.1.free3
  cases ok
  · go_wp2_with fail
    exact bodyPost_ret (v := resV none) (by simp [resV, results, Try.results17, go_sem, Hk.zero, c20, c21, c22, c30, c31, c32]) rfl ⟨rfl, ((HV3.out.1.set3 (by omega) _ _ _).set3 (by omega) _ _ _).set3 (by omega) _ _ _⟩
  · go_wp2_with fail
    go_region
    go_wp2_with fail
    exact bodyPost_ret (v := resV (some (({ b with at_ := b.at_ + ((a.nl : Int) - a.ol) } : Hk), a))) (by simp [resV, results, Try.results17, go_sem, c20, c21, c22, c30, c31, c32]) rfl ⟨rfl, (((HV3.out.1.set3 (by omega) _ _ _).set3 (by omega) _ _ _).set3 (by omega) _ _ _).drew⟩

set_option maxHeartbeats 2000000 in
theorem refm_B (a b : Hk) (ok : Bool) (w : World) (ha : a.small) (hb : b.small) (hoka : a.ok = true) (hokb : b.ok = true) (hge : ¬ a.at_ + a.ol < b.at_) (hlt : b.at_ + b.ol < a.at_) (hok : decide (a.at_ + ((b.nl : Int) - b.ol) ≤ 1099511627776) = ok) :
    Calls Try.prog 17 #[a.val, b.val] w fun e w' => e = .returned (resV (if ok then some (b, ({ a with at_ := a.at_ + ((b.nl : Int) - b.ol) } : Hk)) else none)) ∧ Ext w w' := by
  have HA := Lib.hid ha; have HB := Lib.hid hb
  obtain ⟨ha1, ha2⟩ := ha; obtain ⟨hb1, hb2⟩ := hb
  unfold Reach at ha1 ha2 hb1 hb2
  obtain ⟨ha3, ha4⟩ := ok_bounds hoka; obtain ⟨hb3, hb4⟩ := ok_bounds hokb
  have HOK := Lib.hid hok; clear hok
  go_enter Try.func17, Try.ntmps17
  go_wp2_with fail
  refine (valid11_any a _ HA.out).mono ?_
  rintro e w1 ⟨rfl, hE⟩
  have HV := Lib.hid ((V4.start w a b).ext hE); clear hE
  obtain ⟨c10, c11, c12⟩ := HV.out.2.2.1.cells3
  go_wp2_with fail
  refine (valid11_any b _ HB.out).mono ?_
  rintro e w2 ⟨rfl, hE2⟩
  have HV2 := Lib.hid (HV.out.ext hE2); clear hE2 c10 c11 c12
  obtain ⟨c00, c01, c02⟩ := HV2.out.2.1.cells3
  obtain ⟨c10, c11, c12⟩ := HV2.out.2.2.1.cells3
  go_wp2_with fail
  clear c00 c01 c02 c10 c11 c12
  refine (moved_any a _ ok _ ha3 ha4 (by omega) (by omega) HOK.out).mono ?_
  rintro e w3 ⟨rfl, hE3⟩
  have HV3 := Lib.hid (HV2.out.ext hE3); clear hE3
  obtain ⟨c00, c01, c02⟩ := HV3.out.2.1.cells3
  obtain ⟨c10, c11, c12⟩ := HV3.out.2.2.1.cells3
  obtain ⟨c20, c21, c22⟩ := HV3.out.2.2.2.1.cells3
  obtain ⟨c30, c31, c32⟩ := HV3.out.2.2.2.2.cells3
  obtain ⟨f20, f21, f22⟩ := HV3.out.2.2.2.1.free3
  obtain ⟨f30, f31, f32⟩ := HV3.out.2.2.2.2.free3
  obtain ⟨f00, f01, f02⟩ := HV3.out.2.1.free3
  obtain ⟨f10, f11, f12⟩ := HV3.out.2.2.1.free3
  cases ok
  · go_wp2_with fail
    exact bodyPost_ret (v := resV none) (by simp [resV, results, Try.results17, go_sem, Hk.zero, c20, c21, c22, c30, c31, c32]) rfl ⟨rfl, ((HV3.out.1.set3 (by omega) _ _ _).set3 (by omega) _ _ _).set3 (by omega) _ _ _⟩
  · go_wp2_with fail
    go_region
    go_wp2_with fail
    exact bodyPost_ret (v := resV (some (b, ({ a with at_ := a.at_ + ((b.nl : Int) - b.ol) } : Hk)))) (by simp [resV, results, Try.results17, go_sem, c20, c21, c22, c30, c31, c32]) rfl ⟨rfl, (((HV3.out.1.set3 (by omega) _ _ _).set3 (by omega) _ _ _).set3 (by omega) _ _ _).drew⟩

set_option maxHeartbeats 2000000 in
theorem refm_C (a b : Hk) (w : World) (ha : a.small) (hb : b.small) (hoka : a.ok = true) (hokb : b.ok = true) (hge : ¬ a.at_ + a.ol < b.at_) (hge' : ¬ b.at_ + b.ol < a.at_) :
    Calls Try.prog 17 #[a.val, b.val] w fun e w' => e = .returned (resV none) ∧ Ext w w' := by
  have HA := Lib.hid ha; have HB := Lib.hid hb
  obtain ⟨ha1, ha2⟩ := ha; obtain ⟨hb1, hb2⟩ := hb
  unfold Reach at ha1 ha2 hb1 hb2
  obtain ⟨ha3, ha4⟩ := ok_bounds hoka; obtain ⟨hb3, hb4⟩ := ok_bounds hokb
  go_enter Try.func17, Try.ntmps17
  go_wp2_with fail
  refine (valid11_any a _ HA.out).mono ?_
  rintro e w1 ⟨rfl, hE⟩
  have HV := Lib.hid ((V4.start w a b).ext hE); clear hE
  obtain ⟨c10, c11, c12⟩ := HV.out.2.2.1.cells3
  go_wp2_with fail
  refine (valid11_any b _ HB.out).mono ?_
  rintro e w2 ⟨rfl, hE2⟩
  have HV2 := Lib.hid (HV.out.ext hE2); clear hE2 c10 c11 c12
  obtain ⟨c00, c01, c02⟩ := HV2.out.2.1.cells3
  obtain ⟨c10, c11, c12⟩ := HV2.out.2.2.1.cells3
  obtain ⟨c20, c21, c22⟩ := HV2.out.2.2.2.1.cells3
  obtain ⟨c30, c31, c32⟩ := HV2.out.2.2.2.2.cells3
  obtain ⟨f20, f21, f22⟩ := HV2.out.2.2.2.1.free3
  obtain ⟨f30, f31, f32⟩ := HV2.out.2.2.2.2.free3
  go_wp2_with fail
  exact bodyPost_ret (v := resV none) (by simp [resV, results, Try.results17, go_sem, Hk.zero, c20, c21, c22, c30, c31, c32]) rfl ⟨rfl, (HV2.out.1.set3 (by omega) _ _ _).set3 (by omega) _ _ _⟩

theorem refm_any (a b : Hk) (w : World) (ha : a.small) (hb : b.small) :
    Calls Try.prog 17 #[a.val, b.val] w fun e w' => e = .returned (resV (mergeV a b)) ∧ Ext w w' := by
  by_cases h1 : a.ok = true
  case neg =>
    have h1' : a.ok = false := by simpa using h1
    rw [mergeV, if_pos (.inl h1')]
    exact refm_no1 a b w ha h1'
  by_cases h2 : b.ok = true
  case neg =>
    have h2' : b.ok = false := by simpa using h2
    rw [mergeV, if_pos (.inr h2')]
    exact refm_no2 a b w ha hb h1 h2'
  rw [mergeV, if_neg (by simp [h1, h2])]
  by_cases h3 : a.at_ + a.ol < b.at_
  · rw [if_pos h3]
    have := refm_A a b _ w ha hb h1 h2 h3 rfl
    simpa using this
  rw [if_neg h3]
  by_cases h4 : b.at_ + b.ol < a.at_
  · rw [if_pos h4]
    have := refm_B a b _ w ha hb h1 h2 h3 h4 rfl
    simpa using this
  rw [if_neg h4]
  exact refm_C a b w ha hb h1 h2 h3 h4
theorem refm_is {a b x y : Hk} {ok : Bool} (h : mergeT a b = (x, y, ok)) (w : World) (ha : a.small) (hb : b.small) :
    Calls Try.prog 17 #[a.val, b.val] w fun e w' => e = .returned (.tuple #[x.val, y.val, .bool ok]) ∧ Ext w w' := by
  have := refm_any a b w ha hb
  unfold mergeT at h
  split at h
  · rename_i h'; cases h; rw [h'] at this; exact this
  · rename_i h'; cases h; rw [h'] at this; exact this

end Go.Proofs.Ytilogolnoifigaa

/- TokendiffPairs, TokendiffAlignment: their walks. -/
import Derived.Test.YtmmppfopokbcfaaTkWeight
namespace Go.Proofs.Ytmmppfopokbcfaa
open Go.RowKit

set_option maxRecDepth 100000 in
set_option maxHeartbeats 8000000 in
theorem pairs_walk {A : Option Addr} {n c : Nat} {a : Lns} {B : Option Addr} {m d : Nat} {b : Lns} (w : World) (hA : Strs w A n a) (hac : n ≤ c) (han : n ≤ Reach) (hB : Strs w B m b) (hbd : m ≤ d) (hbn : m ≤ Reach) :
    Calls Try.prog 7 #[.slice A n c, .slice B m d] w fun e w' => e = .returned (.bool true) ∧ Ext w w' := by
  obtain rfl : a.length = n := hA.1
  obtain rfl : b.length = m := hB.1
  have HA := Lib.hid hA; have HB := Lib.hid hB; have HAN := Lib.hid han; have HBN := Lib.hid hbn; clear hA hB han hbn
  cases hg : great9 a b with
  | true =>
    have HG := Lib.hid hg; clear hg
    go_enter Try.func7, Try.ntmps7
    go_wp2_with fail
    refine (great9_is HG.out HA.out HB.out HAN.out HBN.out).mono ?_
    rintro e w1 ⟨rfl, rfl⟩
    go_wp2_with fail
    refine awake_is.mono ?_
    rintro e w2 ⟨rfl, hE⟩
    have HE2 := Lib.hid hE; clear hE
    go_wp2_with fail
    go_ret
    exact ⟨rfl, HE2.out⟩
  | false =>
    have HS := Lib.hid (small9 hg)
    have HG := Lib.hid hg; clear hg
    have HF := Lib.hid (pairs_few simV a b (a.length + b.length) 0 0 (by omega))
    go_enter Try.func7, Try.ntmps7
    go_wp2_with fail
    refine (great9_is HG.out HA.out HB.out HAN.out HBN.out).mono ?_
    rintro e w1 ⟨rfl, rfl⟩
    go_wp2_with fail
    refine (pairs_any A B c d a b w1 HA.out HB.out HS.out.1 HS.out.2.1 hac hbd HS.out.2.2.1 HS.out.2.2.2).mono ?_
    rintro e w2 ⟨A2, c2, rfl, hc2, hP, hE⟩
    have HP := Lib.hid hP; have HE2 := Lib.hid hE; clear hP hE
    go_wp2_with fail
    refine (rpairs_any A B c d a b w2 (HA.out.ext HE2.out) (HB.out.ext HE2.out) HS.out.1 HS.out.2.1 hac hbd HS.out.2.2.1 HS.out.2.2.2).mono ?_
    rintro e w3 ⟨A3, c3, rfl, hc3, hP3, hE⟩
    have HP2 := Lib.hid (HP.out.ext hE); have HP3 := Lib.hid hP3; have HE3 := Lib.hid (HE2.out.trans hE); clear hP3 hE
    go_wp2_with fail
    refine (equalp_is (r := true) (by simp) HP2.out HP3.out (by have := HS.out.1; have := HF.out; unfold Reach; omega) (by have := HS.out.1; have := HF.out; unfold Reach; omega)).mono ?_
    rintro e w4 ⟨rfl, hE⟩
    have HE4 := Lib.hid (HE3.out.trans hE); clear hE
    go_wp2_with fail
    refine awake_is.mono ?_
    rintro e w5 ⟨rfl, hE⟩
    have HE5 := Lib.hid (HE4.out.trans hE); clear hE
    go_wp2_with fail
    go_ret
    exact ⟨rfl, HE5.out⟩
theorem sim_le (x y : ByteArray) : simV x y ≤ 100 := (sim_range x y).2.1
theorem self_at (a : Lns) : (pairsAt simV a a 0 0).length = a.length ∧ ∀ j, j < a.length → (pairsAt simV a a 0 0)[j]? = some ((j : Int), (j : Int)) := by
  have := pairs_self simV sim_self sim_le a 0
  unfold pairsAt
  simpa using this
set_option maxRecDepth 100000 in
set_option maxHeartbeats 8000000 in
theorem align_walk {A : Option Addr} {n c : Nat} {a : Lns} {B : Option Addr} {m d : Nat} {b : Lns} {C : Option Addr} {z e : Nat} {l : List (Int × Int)} (w : World) (hA : Strs w A n a) (hac : n ≤ c) (han : n ≤ Reach) (hB : Strs w B m b) (hbd : m ≤ d) (hbn : m ≤ Reach) (hzn : z ≤ Reach) (hC : Prs w C z l) :
    Calls Try.prog 6 #[.slice A n c, .slice B m d, .slice C z e] w fun e w' => e = .returned (.bool true) ∧ Ext w w' := by
  obtain rfl : a.length = n := hA.1
  obtain rfl : b.length = m := hB.1
  obtain rfl : l.length = z := hC.1
  have HA := Lib.hid hA; have HB := Lib.hid hB; have HC := Lib.hid hC; have HAN := Lib.hid han; have HBN := Lib.hid hbn; clear hA hB hC han hbn
  unfold Reach at hzn
  cases hg : great9 a b with
  | true =>
    have HG := Lib.hid hg; clear hg
    go_enter Try.func6, Try.ntmps6
    go_wp2_with fail
    refine (great9_is HG.out HA.out HB.out HAN.out HBN.out).mono ?_
    rintro e w1 ⟨rfl, rfl⟩
    go_wp2_with fail
    refine awake_is.mono ?_
    rintro e w2 ⟨rfl, hE⟩
    have HE2 := Lib.hid hE; clear hE
    go_wp2_with fail
    go_ret
    exact ⟨rfl, HE2.out⟩
  | false =>
    by_cases hl10 : 10 < l.length
    · have q1 : (10 : Int) < (l.length : Int) := by omega
      have HG := Lib.hid hg; clear hg
      go_enter Try.func6, Try.ntmps6
      go_wp2_with fail
      refine (great9_is HG.out HA.out HB.out HAN.out HBN.out).mono ?_
      rintro e w1 ⟨rfl, rfl⟩
      go_wp2_with fail
      refine awake_is.mono ?_
      rintro e w2 ⟨rfl, hE⟩
      have HE2 := Lib.hid hE; clear hE
      go_wp2_with fail
      go_ret
      exact ⟨rfl, HE2.out⟩
    have q1 : ¬ (10 : Int) < (l.length : Int) := by omega
    have HS := Lib.hid (small9 hg)
    have HG := Lib.hid hg; clear hg
    have HF := Lib.hid (pairs_few simV a b (a.length + b.length) 0 0 (by omega))
    have HF2 := Lib.hid (pairs_few simV a a (a.length + a.length) 0 0 (by omega))
    have HPB := Lib.hid (pairs_best simV a b)
    obtain ⟨R, hR⟩ : ∃ R, weightG simV a b l 0 0 0 = R := ⟨_, rfl⟩
    have hle : R.2 = true → R.1 ≤ bestAt simV a b 0 0 := fun h => by
      have := weight_le simV a b l 0 0 0 R.1 (by rw [show ((0 : Nat) : Int) = 0 from rfl, hR]; exact Prod.ext rfl h)
      omega
    obtain ⟨BV, hBV⟩ : ∃ z, bestAt simV a b 0 0 = z := ⟨_, rfl⟩
    rw [hBV] at hle HPB
    obtain ⟨r1, r2⟩ := R
    have HRR := Lib.hid hR; have HLE := Lib.hid hle; clear hR hle hBV
    go_enter Try.func6, Try.ntmps6
    go_wp2_with fail
    refine (great9_is HG.out HA.out HB.out HAN.out HBN.out).mono ?_
    rintro e w1 ⟨rfl, rfl⟩
    go_wp2_with fail
    refine (pairs_any A B c d a b w1 HA.out HB.out HS.out.1 HS.out.2.1 hac hbd HS.out.2.2.1 HS.out.2.2.2).mono ?_
    rintro e w2 ⟨A2, c2, rfl, hc2, hP, hE⟩
    have HP := Lib.hid hP; have HE2 := Lib.hid hE; clear hP hE
    go_wp2_with fail
    refine (weight_any A B A2 c d c2 a b _ w2 (HA.out.ext HE2.out) (HB.out.ext HE2.out) HP.out HS.out.1 HS.out.2.1 (by have := HS.out.1; have := HF.out; omega) HS.out.2.2.1 HS.out.2.2.2 (BV, true) HPB.out).mono ?_
    rintro e w3 ⟨rfl, hE⟩
    have HE3 := Lib.hid (HE2.out.trans hE); clear hE
    go_wp2_with fail
    refine (weight_any A B C c d _ a b l w3 (HA.out.ext HE3.out) (HB.out.ext HE3.out) (HC.out.ext HE3.out) HS.out.1 HS.out.2.1 (by omega) HS.out.2.2.1 HS.out.2.2.2 (r1, r2) HRR.out).mono ?_
    rintro e w4 ⟨rfl, hE⟩
    have HE4 := Lib.hid (HE3.out.trans hE); clear hE
    have hq : r2 = false ∨ (r2 = true ∧ ¬ BV < r1) := by
      cases r2 with
      | false => exact .inl rfl
      | true => exact .inr ⟨rfl, by have := HLE.out rfl; omega⟩
    rcases hq with rfl | ⟨rfl, hlt⟩
    all_goals
      go_wp2_with fail
      refine (pairs_any A A c c a a w4 (HA.out.ext HE4.out) (HA.out.ext HE4.out) HS.out.1 HS.out.1 hac hac HS.out.2.2.1 HS.out.2.2.1).mono ?_
      rintro e w5 ⟨A5, c5, rfl, hc5, hP5, hE⟩
      rw [(self_at a).1] at hP5 hc5 ⊢
      have HSA := Lib.hid (self_at a).2
      obtain ⟨n, hn⟩ : ∃ n : Nat, a.length = n := ⟨_, rfl⟩
      have hn10 : n ≤ 10 := by rw [← hn]; exact HS.out.1
      rw [hn] at hP5 hc5 HSA ⊢
      have HP5 := Lib.hid hP5; have HE5 := Lib.hid (HE4.out.trans hE); clear hP5 hE
      go_wp2_with fail
      go_loop [51] (fun v51 => ∃ j : Nat, j ≤ n ∧ v51 = .int .i64 j) (fun v51 => n - (intOf v51).toNat)
      case atStart => exact ⟨0, Nat.zero_le _, rfl⟩
      case round =>
        obtain ⟨j, hj, rfl⟩ := hrel
        by_cases hlt2 : j < n
        · obtain ⟨b5, o5, s, rfl, hb5, hx, hwf, c0, c1⟩ := HP5.out.get hlt2
          obtain rfl : s = ((j : Int), (j : Int)) := by rw [HSA.out j hlt2] at hx; exact (Option.some.inj hx).symm
          have hne := ne_pair j j j j
          simp only [beq_self_eq_true, Bool.and_self, Bool.not_true] at hne
          dsimp only at c0 c1
          clear hx hwf
          go_wp2_with fail
          go_round
          case rel => exact ⟨j + 1, by omega, by go_num⟩
          case measure => simp [intOf]; omega
        · go_wp2_with fail
          refine awake_is.mono ?_
          rintro e w6 ⟨rfl, hE⟩
          have HE6 := Lib.hid (HE5.out.trans hE); clear hE
          go_wp2_with fail
          go_ret
          exact ⟨rfl, HE6.out⟩
end Go.Proofs.Ytmmppfopokbcfaa

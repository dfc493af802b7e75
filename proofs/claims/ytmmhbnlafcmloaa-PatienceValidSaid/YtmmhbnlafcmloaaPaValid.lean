/- PatienceValid: the walk. -/
import Derived.Test.YtmmhbnlafcmloaaPaRUniq
import Derived.Test.YtmmhbnlafcmloaaPaKept
import Derived.Test.YtmmhbnlafcmloaaPaKeptM
import Derived.Test.YtmmhbnlafcmloaaPaValP
namespace Go.Proofs.Ytmmhbnlafcmloaa
open Go.RowKit

set_option maxRecDepth 100000 in
set_option maxHeartbeats 8000000 in
theorem valid_walk {A : Option Addr} {n c : Nat} {a : Lns} {B : Option Addr} {m d : Nat} {b : Lns} (w : World) (ha : Strs w A n a) (hac : n ≤ c) (han : n ≤ Reach) (hb : Strs w B m b) (hbc : m ≤ d) (hbn : m ≤ Reach) :
    Calls Try.prog 10 #[.slice A n c, .slice B m d] w (Good w) := by
  obtain rfl : a.length = n := ha.1
  obtain rfl : b.length = m := hb.1
  have HA := Lib.hid ha; have HB := Lib.hid hb; clear ha hb
  go_enter Try.func10, Try.ntmps10
  go_wp2_with fail
  refine (great_any A B a.length c b.length d a b _ HA.out HB.out han hbn).mono ?_
  rintro e w1 ⟨rfl, hE⟩
  have HE := Lib.hid hE; clear hE
  cases hg : (great04 a || great04 b) with
  | true =>
    go_wp2_with fail
    refine (awake_any _).mono ?_
    rintro e w9 ⟨rfl, hE⟩
    have HE9 := Lib.hid (HE.out.trans hE); clear hE
    go_wp2_with fail
    go_ret
    exact ⟨rfl, HE9.out⟩
  | false =>
    have hg2 : great04 a = false ∧ great04 b = false := by simpa using hg
    have h1 := great04_len hg2.1
    have h2 := great04_len hg2.2
    clear hg hg2
    obtain ⟨p, hp⟩ : ∃ p, preN a b = p := ⟨_, rfl⟩
    obtain ⟨q, hq⟩ : ∃ q, sufN a b = q := ⟨_, rfl⟩
    obtain ⟨s1, s2⟩ := suf_le a b
    have hck := pd_ok (a.length + 1) a b
    have hst := pd_steps (a.length + 1) a b
    have hge := kept_ge a.length a b
    have hsz := pd_sizes (a.length + 1) a b
    have hhd := pd_head a.length a b
    have hla := pd_last a.length a b
    have hRl := pd_len (a.length + 1) a b
    obtain ⟨R, hR⟩ : ∃ R, pdV (a.length + 1) a b = R := ⟨_, rfl⟩
    rw [hR] at hck hst hge hsz hhd hla hRl
    rw [hp, hq] at s1 s2 hge
    rw [hp] at hhd; rw [hq] at hla
    obtain ⟨K, hK⟩ : ∃ K, keptV R = K := ⟨_, rfl⟩
    obtain ⟨D, hD⟩ : ∃ D, dist a b = D := ⟨_, rfl⟩
    rw [hK] at hst hge
    have hdl := dist_le a b
    rw [hD] at hst hdl
    have HP := Lib.hid hp; have HQ := Lib.hid hq; have HCK := Lib.hid hck; have HST := Lib.hid hst; have HGE := Lib.hid hge; have HSZ := Lib.hid hsz; have HHD := Lib.hid hhd; have HLA := Lib.hid hla; have HR := Lib.hid hR; have HK := Lib.hid hK; have HD := Lib.hid hD
    clear hp hq hck hst hge hsz hhd hla hR hK hD
    go_wp2_with fail
    refine (pdiff_is A B a.length c b.length d a b _ (HA.out.ext HE.out) (HB.out.ext HE.out) (by omega) (by omega) hac hbc).mono ?_
    rintro e w2 ⟨C, k, rfl, hM, hE⟩
    rw [HR.out] at hM ⊢
    have HE2 := Lib.hid (HE.out.trans hE); have HM := Lib.hid hM; clear hE hM HE
    go_wp2_with fail
    refine (common_is A B a.length c b.length d a b _ (HA.out.ext HE2.out) (HB.out.ext HE2.out) (by omega) (by omega) p q HP.out HQ.out).mono ?_
    rintro e w3 ⟨rfl, hE⟩
    have HE3 := Lib.hid (HE2.out.trans hE); have HM3 := Lib.hid (HM.out.ext hE); clear hE HE2 HM
    go_wp2_with fail
    refine (check_any A B C a.length c b.length d R.length k a b R _ (HA.out.ext HE3.out) (HB.out.ext HE3.out) HM3.out (by omega) (by omega) (by omega) hac hbc).mono ?_
    rintro e w4 ⟨rfl, hE⟩
    rw [HCK.out]
    have HE4 := Lib.hid (HE3.out.trans hE); have HM4 := Lib.hid (HM3.out.ext hE); clear hE HE3 HM3
    go_wp2_with fail
    refine (keptM_any C R.length k R _ HM4.out (by omega) (fun m hm => by have := HSZ.out m hm; omega)).mono ?_
    rintro e w5 ⟨rfl, rfl⟩
    rw [HK.out]
    have b1 : 0 ≤ K := by have := HGE.out; omega
    have b2 : K ≤ 1000 := by have := HST.out; omega
    go_wp2_with fail
    refine (distance_is A B a.length c b.length d a b _ (HA.out.ext HE4.out) (HB.out.ext HE4.out) (by omega) (by omega)).mono ?_
    rintro e w6 ⟨rfl, hE⟩
    rw [HD.out]
    have HE6 := Lib.hid (HE4.out.trans hE); have HM6 := Lib.hid (HM4.out.ext hE); clear hE HE4 HM4
    have q1 : decide ((a.length : Int) + b.length - 2 * K < D) = false := nd (by have := HST.out; omega)
    have q2 : decide (K < (p : Int) + q) = false := nd (by have := HGE.out; omega)
    go_wp2_with fail
    refine (keptM_any C R.length k R _ HM6.out (by omega) (fun m hm => by have := HSZ.out m hm; omega)).mono ?_
    rintro e w7 ⟨rfl, rfl⟩
    rw [HK.out]
    clear b1 b2
    by_cases hp0 : 0 < p
    · by_cases hq0 : 0 < q
      · have p0 : decide (0 < p) = true := yd hp0
        have p1 : decide ((0 : Int) < (p : Int)) = true := yd (by omega)
        obtain ⟨z, r, hz, hpz⟩ := HHD.out hp0
        have hR0 : R[0]? = some ⟨0, 0, z⟩ := by rw [hz]; rfl
        have hl0 : 0 < R.length := by rw [hz]; simp
        have hz2 := (HSZ.out ⟨0, 0, z⟩ (by rw [hz]; simp)).2
        dsimp only at hz2
        have HR0 := Lib.hid hR0; clear hz hR0
        have p2 : ((R.length : Int) == 0) = false := beq_eq_false_iff_ne.2 (by omega)
        have p3 : decide (z < (p : Int)) = false := nd (by omega)
        obtain ⟨bc, oc, mt, hC, hbc2, hmt, -, d0, d1, d2⟩ := HM6.out.get hl0
        rw [HR0.out] at hmt; cases hmt
        subst hC
        dsimp only at d0 d1 d2
        simp only [Nat.zero_mul, Nat.add_zero] at d0 d1 d2
        clear hp0
        have o0 : decide (0 < q) = true := yd hq0
        have o1 : decide ((0 : Int) < (q : Int)) = true := yd (by omega)
        obtain ⟨r', x, hx, hxa, hxb, hqx⟩ := HLA.out hq0
        have hrl : R.length = r'.length + 1 := by rw [hx]; simp
        have hRx : R[r'.length]? = some x := by rw [hx]; simp
        obtain ⟨x1, x2⟩ := HSZ.out x (by rw [hx]; simp)
        obtain ⟨j, hj⟩ : ∃ j, r'.length = j := ⟨_, rfl⟩
        rw [hj] at hRx hrl
        have HRX := Lib.hid hRx; have HJ := Lib.hid hj; clear hx hRx hj
        have hjl : j < R.length := by omega
        have e0 : IntKind.i64.wrap ((R.length : Int) - 1) = (j : Int) := by rw [wrap_in (by omega) (by omega)]; omega
        have e1 : wrap64 ((R.length : Int) - 1) = (j : Int) := by rw [w64_in (by omega) (by omega)]; omega
        have e2 : decide ((j : Int) < 0) = false := nd (by omega)
        have e3 : (x.a + x.n != (a.length : Int)) = false := by rw [hxa]; simp
        have e4 : (x.b + x.n != (b.length : Int)) = false := by rw [hxb]; simp
        have f3 : 0 ≤ x.a + x.n := by omega
        have f4 : x.a + x.n ≤ 40 := by omega
        have f5 : 0 ≤ x.b + x.n := by omega
        have f6 : x.b + x.n ≤ 40 := by omega
        clear hxa hxb
        have e5 : decide (x.n < (q : Int)) = false := nd (by omega)
        obtain ⟨be, oe, mt', hCe, hbe, hmt, -, g0, g1, g2⟩ := HM6.out.get hjl
        rw [HRX.out] at hmt; cases hmt
        cases hCe
        clear hq0
        go_wp2_with fail
        go_quiet (fail)
        go_wp2_with fail
        refine (awake_any _).mono ?_
        rintro e w9 ⟨rfl, hE⟩
        have HE9 := Lib.hid ((HE6.out.drewN _).trans hE); clear hE
        go_wp2_with fail
        go_ret
        exact ⟨rfl, HE9.out⟩
      · have p0 : decide (0 < p) = true := yd hp0
        have p1 : decide ((0 : Int) < (p : Int)) = true := yd (by omega)
        obtain ⟨z, r, hz, hpz⟩ := HHD.out hp0
        have hR0 : R[0]? = some ⟨0, 0, z⟩ := by rw [hz]; rfl
        have hl0 : 0 < R.length := by rw [hz]; simp
        have hz2 := (HSZ.out ⟨0, 0, z⟩ (by rw [hz]; simp)).2
        dsimp only at hz2
        have HR0 := Lib.hid hR0; clear hz hR0
        have p2 : ((R.length : Int) == 0) = false := beq_eq_false_iff_ne.2 (by omega)
        have p3 : decide (z < (p : Int)) = false := nd (by omega)
        obtain ⟨bc, oc, mt, hC, hbc2, hmt, -, d0, d1, d2⟩ := HM6.out.get hl0
        rw [HR0.out] at hmt; cases hmt
        subst hC
        dsimp only at d0 d1 d2
        simp only [Nat.zero_mul, Nat.add_zero] at d0 d1 d2
        clear hp0
        have o0 : decide (0 < q) = false := nd hq0
        have o1 : decide ((0 : Int) < (q : Int)) = false := nd (by omega)
        clear hq0
        go_wp2_with fail
        go_quiet (fail)
        go_wp2_with fail
        refine (awake_any _).mono ?_
        rintro e w9 ⟨rfl, hE⟩
        have HE9 := Lib.hid ((HE6.out.drewN _).trans hE); clear hE
        go_wp2_with fail
        go_ret
        exact ⟨rfl, HE9.out⟩
    · by_cases hq0 : 0 < q
      · have p0 : decide (0 < p) = false := nd hp0
        have p1 : decide ((0 : Int) < (p : Int)) = false := nd (by omega)
        clear hp0
        have o0 : decide (0 < q) = true := yd hq0
        have o1 : decide ((0 : Int) < (q : Int)) = true := yd (by omega)
        obtain ⟨r', x, hx, hxa, hxb, hqx⟩ := HLA.out hq0
        have hrl : R.length = r'.length + 1 := by rw [hx]; simp
        have hRx : R[r'.length]? = some x := by rw [hx]; simp
        obtain ⟨x1, x2⟩ := HSZ.out x (by rw [hx]; simp)
        obtain ⟨j, hj⟩ : ∃ j, r'.length = j := ⟨_, rfl⟩
        rw [hj] at hRx hrl
        have HRX := Lib.hid hRx; have HJ := Lib.hid hj; clear hx hRx hj
        have hjl : j < R.length := by omega
        have e0 : IntKind.i64.wrap ((R.length : Int) - 1) = (j : Int) := by rw [wrap_in (by omega) (by omega)]; omega
        have e1 : wrap64 ((R.length : Int) - 1) = (j : Int) := by rw [w64_in (by omega) (by omega)]; omega
        have e2 : decide ((j : Int) < 0) = false := nd (by omega)
        have e3 : (x.a + x.n != (a.length : Int)) = false := by rw [hxa]; simp
        have e4 : (x.b + x.n != (b.length : Int)) = false := by rw [hxb]; simp
        have f3 : 0 ≤ x.a + x.n := by omega
        have f4 : x.a + x.n ≤ 40 := by omega
        have f5 : 0 ≤ x.b + x.n := by omega
        have f6 : x.b + x.n ≤ 40 := by omega
        clear hxa hxb
        have e5 : decide (x.n < (q : Int)) = false := nd (by omega)
        obtain ⟨be, oe, mt', hCe, hbe, hmt, -, g0, g1, g2⟩ := HM6.out.get hjl
        rw [HRX.out] at hmt; cases hmt
        subst hCe
        clear hq0
        go_wp2_with fail
        go_quiet (fail)
        go_wp2_with fail
        refine (awake_any _).mono ?_
        rintro e w9 ⟨rfl, hE⟩
        have HE9 := Lib.hid ((HE6.out.drewN _).trans hE); clear hE
        go_wp2_with fail
        go_ret
        exact ⟨rfl, HE9.out⟩
      · have p0 : decide (0 < p) = false := nd hp0
        have p1 : decide ((0 : Int) < (p : Int)) = false := nd (by omega)
        clear hp0
        have o0 : decide (0 < q) = false := nd hq0
        have o1 : decide ((0 : Int) < (q : Int)) = false := nd (by omega)
        clear hq0
        go_wp2_with fail
        go_quiet (fail)
        go_wp2_with fail
        refine (awake_any _).mono ?_
        rintro e w9 ⟨rfl, hE⟩
        have HE9 := Lib.hid ((HE6.out.drewN _).trans hE); clear hE
        go_wp2_with fail
        go_ret
        exact ⟨rfl, HE9.out⟩
end Go.Proofs.Ytmmhbnlafcmloaa

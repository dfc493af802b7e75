/- PatienceNone: the walk. -/
import Derived.Test.YtmmhbnlafcmloaaPaRUniq
import Derived.Test.YtmmhbnlafcmloaaPaKept
import Derived.Test.YtmmhbnlafcmloaaPaKeptM
namespace Go.Proofs.Ytmmhbnlafcmloaa
open Go.RowKit

theorem uniq_len0 {x y : Lns} (h : ¬ 0 < (uniqV x y).length) : longV (uniqV x y) = [] := by
  have : uniqV x y = [] := List.eq_nil_of_length_eq_zero (by omega)
  rw [this]; rfl

set_option maxRecDepth 100000 in
set_option maxHeartbeats 8000000 in
theorem none_walk {A : Option Addr} {n c : Nat} {a : Lns} {B : Option Addr} {m d : Nat} {b : Lns} (w : World) (ha : Strs w A n a) (hac : n ≤ c) (han : n ≤ Reach) (hb : Strs w B m b) (hbc : m ≤ d) (hbn : m ≤ Reach) :
    Calls Try.prog 9 #[.slice A n c, .slice B m d] w (Good w) := by
  obtain rfl : a.length = n := ha.1
  obtain rfl : b.length = m := hb.1
  have HA := Lib.hid ha; have HB := Lib.hid hb; clear ha hb
  go_enter Try.func9, Try.ntmps9
  go_wp2_with fail
  refine (great_any A B a.length c b.length d a b _ HA.out HB.out han hbn).mono ?_
  rintro e w1 ⟨rfl, hE⟩
  have HE := Lib.hid hE; clear hE
  cases hg : (great04 a || great04 b) with
  | true =>
    go_wp2_with fail
    refine (awake_any _).mono ?_
    rintro e w9 ⟨rfl, hE⟩
    have HE9 := Lib.hid (HE.out.trans hE); clear hE
    go_wp2_with fail
    go_ret
    exact ⟨rfl, HE9.out⟩
  | false =>
    have hg2 : great04 a = false ∧ great04 b = false := by simpa using hg
    have h1 := great04_len hg2.1
    have h2 := great04_len hg2.2
    clear hg hg2
    obtain ⟨p, hp⟩ : ∃ p, preN a b = p := ⟨_, rfl⟩
    obtain ⟨q, hq⟩ : ∃ q, sufN a b = q := ⟨_, rfl⟩
    obtain ⟨s1, s2⟩ := suf_le a b
    rw [hp, hq] at s1 s2
    have hnd := none_dist a.length a b
    rw [hp, hq] at hnd
    obtain ⟨U, hU⟩ : ∃ U, uniqV (cutV a p (a.length - q)) (cutV b p (b.length - q)) = U := ⟨_, rfl⟩
    have hul : U.length ≤ 40 := by
      have h3 := uniqP_len (cutV a p (a.length - q)) (cutV b p (b.length - q)) (cutV a p (a.length - q)).length
      have h4 := cut_len a p (a.length - q)
      change (uniqV (cutV a p (a.length - q)) (cutV b p (b.length - q))).length ≤ _ at h3
      rw [hU] at h3; omega
    have hnd2 : ¬ 0 < U.length → (a.length : Int) + b.length - 2 * keptV (pdV (a.length + 1) a b) = dist a b := fun h => hnd (uniq_len0 (by rw [hU]; exact h))
    have HP := Lib.hid hp; have HQ := Lib.hid hq; have HU := Lib.hid hU; have HND := Lib.hid hnd2; clear hp hq hnd hU hnd2
    go_wp2_with fail
    refine (common_is A B a.length c b.length d a b _ (HA.out.ext HE.out) (HB.out.ext HE.out) (by omega) (by omega) p q HP.out HQ.out).mono ?_
    rintro e w2 ⟨rfl, hE⟩
    have HE2 := Lib.hid (HE.out.trans hE); clear hE HE
    obtain ⟨A2, hA2⟩ : ∃ A2, (if c = p then A else A.map (fun z => z.add p)) = A2 := ⟨_, rfl⟩
    obtain ⟨B2, hB2⟩ : ∃ B2, (if d = p then B else B.map (fun z => z.add p)) = B2 := ⟨_, rfl⟩
    have sA : ∀ wx, Ext w wx → Strs wx A2 (a.length - q - p) (cutV a p (a.length - q)) := fun wx hx => strs_part (HA.out.ext hx) hac (by omega) (by omega) hA2
    have sB : ∀ wx, Ext w wx → Strs wx B2 (b.length - q - p) (cutV b p (b.length - q)) := fun wx hx => strs_part (HB.out.ext hx) hbc (by omega) (by omega) hB2
    have HA2 := Lib.hid hA2; have HB2 := Lib.hid hB2; have SA := Lib.hid sA; have SB := Lib.hid sB; clear hA2 hB2 sA sB
    have z1 : decide ((p : Int) < 0) = false := nd (by omega)
    have z2 : decide ((q : Int) < 0) = false := nd (by omega)
    have z3 : decide ((a.length : Int) < (p : Int) + q) = false := nd (by omega)
    have z4 : decide ((b.length : Int) < (p : Int) + q) = false := nd (by omega)
    go_wp2_with fail
    obtain ⟨T, hT⟩ : ∃ T, T = (fun wx => Ext w wx) := ⟨_, rfl⟩
    have hTs : Stab T := by rw [hT]; exact Stab.ext _
    have b1 : a.length - q ≤ c := by omega
    have b2 : b.length - q ≤ d := by omega
    have b3 : p ≤ a.length - q := by omega
    have b4 : p ≤ b.length - q := by omega
    have e1 : IntKind.i64.wrap ((a.length : Int) - q) = ((a.length - q : Nat) : Int) := by rw [wrap_in (by omega) (by omega)]; omega
    have e2 : IntKind.i64.wrap ((b.length : Int) - q) = ((b.length - q : Nat) : Int) := by rw [wrap_in (by omega) (by omega)]; omega
    refine wp_region_X (T := T) T (by kernel_rfl) (by rw [hT]; exact HE2.out.drew) (wpX_takes (by kernel_rfl) (fun _ d _ _ _ h => by cases d <;> exact h) hTs (fun _ h => h) (fuel := 3) [0,1,2,3,4,5,6,7,8,9,10,11,12,13] _ _ (by kernel_rfl) ?_)
    iterate 6
      refine wpTk_want rfl (Eq.refl true) ?_
      apply Exists.intro
      refine ⟨fun wx hx => ?_, ?_⟩
      · clear hx
        go_simp
        with_reducible exact gives_ok _ _ _
      simp only [Act.put, List.setIfInBounds_toArray, List.set_cons_zero, List.set_cons_succ]
    refine wpTk_want rfl (Eq.refl true) ⟨.slice A2 (a.length - q - p) (c - p), fun wx hx => ?_, ?_⟩
    · clear hx
      go_simp
      rw [HA2.out]
      with_reducible exact gives_ok _ _ _
    simp only [Act.put, List.setIfInBounds_toArray, List.set_cons_zero, List.set_cons_succ]
    iterate 6
      refine wpTk_want rfl (Eq.refl true) ?_
      apply Exists.intro
      refine ⟨fun wx hx => ?_, ?_⟩
      · clear hx
        go_simp
        with_reducible exact gives_ok _ _ _
      simp only [Act.put, List.setIfInBounds_toArray, List.set_cons_zero, List.set_cons_succ]
    refine wpTk_want rfl (Eq.refl true) ⟨.slice B2 (b.length - q - p) (d - p), fun wx hx => ?_, ?_⟩
    · clear hx
      go_simp
      rw [HB2.out]
      with_reducible exact gives_ok _ _ _
    simp only [Act.put, List.setIfInBounds_toArray, List.set_cons_zero, List.set_cons_succ]
    refine wpTk_nil ?_
    refine wpX_one 14 (by kernel_rfl) rfl rfl (fun wx hx K hK => ?_)
    rw [hT] at hx
    go_simp
    refine (unique_is A2 B2 (a.length - q - p) (c - p) (b.length - q - p) (d - p) (cutV a p (a.length - q)) (cutV b p (b.length - q)) wx (SA.out _ hx) (SB.out _ hx) (by omega) (by omega)).mono ?_
    rintro e wy ⟨C, k, rfl, hM, hE⟩
    rw [HU.out]
    refine hK _ _ ⟨T, hTs, fun _ h => h, by rw [hT]; exact hx.trans hE, ?_⟩
    clear hK K hx hE hM wx wy
    refine wpX_one 15 (by kernel_rfl) rfl rfl (fun wx hx K hK => ?_)
    go_simp
    refine hK _ _ ⟨T, hTs, fun _ h => h, hx, ?_⟩
    clear hK K hx wx
    refine wpX_one 16 (by kernel_rfl) rfl rfl (fun wx hx K hK => ?_)
    go_simp
    refine hK _ _ ⟨T, hTs, fun _ h => h, hx, ?_⟩
    clear hK K hx wx
    refine wpX_done (by kernel_rfl) (fun w3 hx => ?_) _
    rw [hT] at hx
    have HE3 := Lib.hid hx; clear hx hT hTs b1 b2 b3 b4 e1 e2
    by_cases hu0 : 0 < U.length
    · have q0 : decide ((0 : Int) < U.length) = true := yd (by omega)
      have q1 : decide (0 < U.length) = true := yd hu0
      go_wp2_with fail
      refine (awake_any _).mono ?_
      rintro e w9 ⟨rfl, hE⟩
      have HE9 := Lib.hid (HE3.out.trans hE); clear hE
      go_wp2_with fail
      go_ret
      exact ⟨rfl, HE9.out⟩
    · have q0 : decide ((0 : Int) < U.length) = false := nd (by omega)
      have q1 : decide (0 < U.length) = false := nd hu0
      have hnd3 := HND.out hu0
      have hok := pd_sizes (a.length + 1) a b
      obtain ⟨R, hR⟩ : ∃ R, pdV (a.length + 1) a b = R := ⟨_, rfl⟩
      rw [hR] at hnd3 hok
      have hRl : R.length ≤ 1000 := by rw [← hR]; have := pd_len (a.length + 1) a b; omega
      obtain ⟨K, hK⟩ : ∃ K, keptV R = K := ⟨_, rfl⟩
      rw [hK] at hnd3
      have hdl := dist_le a b
      have HND3 := Lib.hid hnd3; have HOK := Lib.hid hok; have HR := Lib.hid hR; have HK := Lib.hid hK; clear hnd3 hok hR hK
      go_wp2_with fail
      refine (pdiff_is A B a.length c b.length d a b _ (HA.out.ext HE3.out) (HB.out.ext HE3.out) (by omega) (by omega) hac hbc).mono ?_
      rintro e w4 ⟨C4, k4, rfl, hM4, hE⟩
      rw [HR.out] at hM4 ⊢
      have HE4 := Lib.hid (HE3.out.trans hE); have HM4 := Lib.hid hM4; clear hE hM4
      go_wp2_with fail
      refine (keptM_any C4 R.length k4 R _ HM4.out hRl (fun m hm => by have := HOK.out m hm; omega)).mono ?_
      rintro e w5 ⟨rfl, rfl⟩
      rw [HK.out]
      have hKr : 2 * K = (a.length : Int) + b.length - dist a b := by have := HND3.out; omega
      go_wp2_with fail
      refine (distance_is A B a.length c b.length d a b _ (HA.out.ext HE4.out) (HB.out.ext HE4.out) (by omega) (by omega)).mono ?_
      rintro e w6 ⟨rfl, hE⟩
      have HE6 := Lib.hid (HE4.out.trans hE); clear hE
      have q5 : ((a.length : Int) + b.length - 2 * K == (dist a b : Nat)) = true := by simp; omega
      go_wp2_with fail
      refine (awake_any _).mono ?_
      rintro e w9 ⟨rfl, hE⟩
      have HE9 := Lib.hid (HE6.out.trans hE); clear hE
      go_wp2_with fail
      go_ret
      exact ⟨rfl, HE9.out⟩
end Go.Proofs.Ytmmhbnlafcmloaa

/- MyersMatching, MyersShortest, MyersMetric: the walks. -/
import Derived.Test.YtmagicjmenbdpaaMyWalkCheck
import Derived.Test.YtmagicjmenbdpaaMyLaws
namespace Go.Proofs.Ytmagicjmenbdpaa
open Go.RowKit

theorem rss3 {w : World} {A B C : Option Addr} {n c m d k q : Nat} {a b x : Lns} (ha : Strs w A n a) (hn : n ≤ Reach) (hb : Strs w B m b) (hm : m ≤ Reach) (hc : Strs w C k x) (hk : k ≤ Reach) : ∀ s ∈ [(⟨A, n, c, a⟩ : SS), ⟨B, m, d, b⟩, ⟨C, k, q, x⟩], RSS w s := by
  intro s hs
  simp only [List.mem_cons, List.not_mem_nil, or_false] at hs
  rcases hs with rfl | rfl | rfl
  · exact ⟨hn, ha⟩
  · exact ⟨hm, hb⟩
  · exact ⟨hk, hc⟩

set_option maxRecDepth 100000 in
set_option maxHeartbeats 8000000 in
theorem matching_walk {A : Option Addr} {n c : Nat} {a : Lns} {B : Option Addr} {m d : Nat} {b : Lns}  (w : World) (ha : Strs w A n a) (hac : n ≤ c) (han : n ≤ Reach) (hb : Strs w B m b) (hbc : m ≤ d) (hbn : m ≤ Reach)  :
    Calls Try.prog 5 #[.slice A n c, .slice B m d] w (Good w) := by
  have HA := Lib.hid ha; have HB := Lib.hid hb; clear ha hb 
  have HG := Lib.hid (rss2 (c := c) (d := d) HA.out han HB.out hbn)
  by_cases hg : ([(⟨A, n, c, a⟩ : SS), ⟨B, m, d, b⟩].any fun s => great03 s.l) = true
  · have HGR := Lib.hid hg; clear hg
    go_enter Try.func5, Try.ntmps5
    go_wp2_with fail
    refine (great_new (L := [(⟨A, n, c, a⟩ : SS), ⟨B, m, d, b⟩]) rfl HGR.out HG.out (by simp)).mono ?_
    rintro e w1 ⟨rfl, hE⟩
    have HE := Lib.hid hE; clear hE
    go_wp2_with fail
    refine (awake_any _).mono ?_
    rintro e w9 ⟨rfl, hE⟩
    have HE9 := Lib.hid (HE.out.trans hE); clear hE
    go_wp2_with fail
    go_ret
    exact ⟨rfl, HE9.out⟩
  have hg' : ([(⟨A, n, c, a⟩ : SS), ⟨B, m, d, b⟩].any fun s => great03 s.l) = false := by simpa using hg
  have h1 : n ≤ 12 := by rw [← HA.out.1]; exact great03_len (by simp at hg'; exact hg'.1)
  have h2 : m ≤ 12 := by rw [← HB.out.1]; exact great03_len (by simp at hg'; exact hg'.2)
  have HGR := Lib.hid hg'; clear hg hg'
  go_enter Try.func5, Try.ntmps5
  go_wp2_with fail
  refine (great_new (L := [(⟨A, n, c, a⟩ : SS), ⟨B, m, d, b⟩]) rfl HGR.out HG.out (by simp)).mono ?_
  rintro e w1 ⟨rfl, hE⟩
  have HE := Lib.hid hE; clear hE
  go_wp2_with fail
  obtain ⟨p1, p2⟩ := diff_ok a b
  have hsm := check_small _ _ _ p1
  have hla := HA.out.1; have hlb := HB.out.1
  rw [hla, hlb] at p2
  have P1 := Lib.hid p1; have HSM := Lib.hid hsm; have HLA := Lib.hid hla; have HLB := Lib.hid hlb; clear p1 hsm hla hlb
  refine (diff_any A B n c m d a b _ (HA.out.ext HE.out) (HB.out.ext HE.out) (by omega) (by omega) (dist a b) (by have := dist_le a b; have := HLA.out; have := HLB.out; omega) (last_dist a b)).mono ?_
  rintro e w2 ⟨v, N, rfl, ho, hwf, hE⟩
  obtain ⟨D, l, rfl, hNl, hM⟩ := ownM_mts ho hwf
  have hN : N ≤ 25 := by
    have := hM.1
    have hlen := diff_len a b
    have := dist_le a b; have := HLA.out; have := HLB.out
    omega
  have HE2 := Lib.hid (HE.out.trans hE); have HM := Lib.hid hM; clear hE hM ho hwf
  go_wp2_with fail
  refine (check_is P1.out (HA.out.ext HE2.out) (HB.out.ext HE2.out) HM.out (by omega) (by omega) (by omega) hac hbc).mono ?_
  rintro e w3 ⟨rfl, hE⟩
  have HE3 := Lib.hid (HE2.out.trans hE); have HM3 := Lib.hid (HM.out.ext hE); clear hE
  go_wp2_with fail
  have hkb : 0 ≤ keptV (diffV a b (dist a b)) ∧ keptV (diffV a b (dist a b)) ≤ 24000 := by
    have := keptV_bound (l := diffV a b (dist a b)) (fun m hm => by have := HSM.out m hm; have := HLA.out; omega) (diffV a b (dist a b)).length
    rw [List.take_length] at this
    have := HM.out.1
    omega
  obtain ⟨K, hK⟩ : ∃ K, keptV (diffV a b (dist a b)) = K := ⟨_, rfl⟩
  rw [hK] at p2 hkb
  obtain ⟨hk1, hk2⟩ := hkb
  have HK := Lib.hid hK; clear hK
  refine (kept_any _ _ _ _ _ HM3.out (by omega) (fun m hm => by have := HSM.out m hm; have := HLA.out; omega)).mono ?_
  rintro e w4 ⟨rfl, rfl⟩
  rw [HK.out]
  have P2 := Lib.hid p2; clear p2
  go_wp2_with fail
  refine (distance_any A B n c m d a b _ (HA.out.ext HE3.out) (HB.out.ext HE3.out) (by omega) (by omega) (dist a b) (by have := dist_le a b; have := HA.out.1; have := HB.out.1; omega) (last_dist a b)).mono ?_
  rintro e w4 ⟨rfl, hE⟩
  have HE4 := Lib.hid (HE3.out.trans hE); clear hE
  have hPe : ((n : Int) + m - 2 * K == (dist a b : Int)) = true := by simpa using P2.out
  go_wp2_with fail
  refine (awake_any _).mono ?_
  rintro e w9 ⟨rfl, hE⟩
  have HE9 := Lib.hid (HE4.out.trans hE); clear hE
  go_wp2_with fail
  go_ret
  exact ⟨rfl, HE9.out⟩

set_option maxRecDepth 100000 in
set_option maxHeartbeats 8000000 in
theorem shortest_walk {A : Option Addr} {n c : Nat} {a : Lns} {B : Option Addr} {m d : Nat} {b : Lns} {D : Option Addr} {ln lc : Nat} {l : List Mt} (w : World) (ha : Strs w A n a) (hac : n ≤ c) (han : n ≤ Reach) (hb : Strs w B m b) (hbc : m ≤ d) (hbn : m ≤ Reach) (hln : ln ≤ Reach) (hl : Mts w D ln l) :
    Calls Try.prog 6 #[.slice A n c, .slice B m d, .slice D ln lc] w (Good w) := by
  have HA := Lib.hid ha; have HB := Lib.hid hb; have HL := Lib.hid hl; clear ha hb hl
  have HG := Lib.hid (rss2 (c := c) (d := d) HA.out han HB.out hbn)
  by_cases hg : ([(⟨A, n, c, a⟩ : SS), ⟨B, m, d, b⟩].any fun s => great03 s.l) = true
  · have HGR := Lib.hid hg; clear hg
    go_enter Try.func6, Try.ntmps6
    go_wp2_with fail
    refine (great_new (L := [(⟨A, n, c, a⟩ : SS), ⟨B, m, d, b⟩]) rfl HGR.out HG.out (by simp)).mono ?_
    rintro e w1 ⟨rfl, hE⟩
    have HE := Lib.hid hE; clear hE
    go_wp2_with fail
    refine (awake_any _).mono ?_
    rintro e w9 ⟨rfl, hE⟩
    have HE9 := Lib.hid (HE.out.trans hE); clear hE
    go_wp2_with fail
    go_ret
    exact ⟨rfl, HE9.out⟩
  have hg' : ([(⟨A, n, c, a⟩ : SS), ⟨B, m, d, b⟩].any fun s => great03 s.l) = false := by simpa using hg
  have h1 : n ≤ 12 := by rw [← HA.out.1]; exact great03_len (by simp at hg'; exact hg'.1)
  have h2 : m ≤ 12 := by rw [← HB.out.1]; exact great03_len (by simp at hg'; exact hg'.2)
  have HGR := Lib.hid hg'; clear hg hg'
  unfold Reach at hln
  by_cases h10 : 10 < ln
  · go_enter Try.func6, Try.ntmps6
    go_wp2_with fail
    refine (great_new (L := [(⟨A, n, c, a⟩ : SS), ⟨B, m, d, b⟩]) rfl HGR.out HG.out (by simp)).mono ?_
    rintro e w1 ⟨rfl, hE⟩
    have HE := Lib.hid hE; clear hE
    go_wp2_with fail
    refine (awake_any _).mono ?_
    rintro e w9 ⟨rfl, hE⟩
    have HE9 := Lib.hid (HE.out.trans hE); clear hE
    go_wp2_with fail
    go_ret
    exact ⟨rfl, HE9.out⟩
  by_cases hch : checkV a b (-1) (-1) l = 0
  case neg =>
    have hch' : (checkV a b (-1) (-1) l != 0) = true := by simpa using hch
    clear hch
    go_enter Try.func6, Try.ntmps6
    go_wp2_with fail
    refine (great_new (L := [(⟨A, n, c, a⟩ : SS), ⟨B, m, d, b⟩]) rfl HGR.out HG.out (by simp)).mono ?_
    rintro e w1 ⟨rfl, hE⟩
    have HE := Lib.hid hE; clear hE
    go_wp2_with fail
    refine (refCheck_any A B D n c m d ln lc a b l _ (HA.out.ext HE.out) (HB.out.ext HE.out) (HL.out.ext HE.out) (by omega) (by omega) (by omega)).mono ?_
    rintro e w2 ⟨rfl, hE⟩
    have HE2 := Lib.hid (HE.out.trans hE); clear hE
    go_wp2_with fail
    refine (awake_any _).mono ?_
    rintro e w9 ⟨rfl, hE⟩
    have HE9 := Lib.hid (HE2.out.trans hE); clear hE
    go_wp2_with fail
    go_ret
    exact ⟨rfl, HE9.out⟩
  have hla := HA.out.1; have hlb := HB.out.1
  have hst := check_steps hch
  have hsm := check_small _ _ _ hch
  rw [hla, hlb] at hst
  have hkb : 0 ≤ keptV l ∧ keptV l ≤ 10000 := by
    have := keptV_bound (l := l) (fun m hm => by have := hsm m hm; omega) l.length
    rw [List.take_length] at this
    have := HL.out.1
    omega
  obtain ⟨hk1, hk2⟩ := hkb
  have hdl := dist_le a b
  have HCH := Lib.hid hch; have HST := Lib.hid hst; have HSM := Lib.hid hsm; have HLA := Lib.hid hla; have HLB := Lib.hid hlb; have HDL := Lib.hid hdl
  clear hch hst hsm hla hlb hdl
  go_enter Try.func6, Try.ntmps6
  go_wp2_with fail
  refine (great_new (L := [(⟨A, n, c, a⟩ : SS), ⟨B, m, d, b⟩]) rfl HGR.out HG.out (by simp)).mono ?_
  rintro e w1 ⟨rfl, hE⟩
  have HE := Lib.hid hE; clear hE
  go_wp2_with fail
  refine (refCheck_is HCH.out (HA.out.ext HE.out) (HB.out.ext HE.out) (HL.out.ext HE.out) (by omega) (by omega) (by omega)).mono ?_
  rintro e w2 ⟨rfl, hE⟩
  have HE2 := Lib.hid (HE.out.trans hE); clear hE
  go_wp2_with fail
  refine (kept_any _ _ _ _ _ (HL.out.ext HE2.out) (by omega) (fun m hm => by have := HSM.out m hm; have := HLA.out; omega)).mono ?_
  rintro e w4 ⟨rfl, rfl⟩
  go_wp2_with fail
  refine (distance_any A B n c m d a b _ (HA.out.ext HE2.out) (HB.out.ext HE2.out) (by omega) (by omega) (dist a b) (by have := dist_le a b; have := HA.out.1; have := HB.out.1; omega) (last_dist a b)).mono ?_
  rintro e w3 ⟨rfl, hE⟩
  have HE3 := Lib.hid (HE2.out.trans hE); clear hE
  have hge := yd HST.out
  go_wp2_with fail
  refine (check_is HCH.out (HA.out.ext HE3.out) (HB.out.ext HE3.out) (HL.out.ext HE3.out) (by omega) (by omega) (by omega) hac hbc).mono ?_
  rintro e w4 ⟨rfl, hE⟩
  have HE4 := Lib.hid (HE3.out.trans hE); clear hE
  go_wp2_with fail
  refine (awake_any _).mono ?_
  rintro e w9 ⟨rfl, hE⟩
  have HE9 := Lib.hid (HE4.out.trans hE); clear hE
  go_wp2_with fail
  go_ret
  exact ⟨rfl, HE9.out⟩

set_option maxRecDepth 100000 in
set_option maxHeartbeats 8000000 in
theorem metric_walk {A : Option Addr} {n c : Nat} {a : Lns} {B : Option Addr} {m d : Nat} {b : Lns} {C : Option Addr} {k q : Nat} {x : Lns}  (w : World) (ha : Strs w A n a) (hac : n ≤ c) (han : n ≤ Reach) (hb : Strs w B m b) (hbc : m ≤ d) (hbn : m ≤ Reach) (hc : Strs w C k x) (hcc : k ≤ q) (hcn : k ≤ Reach)  :
    Calls Try.prog 7 #[.slice A n c, .slice B m d, .slice C k q] w (Good w) := by
  have HA := Lib.hid ha; have HB := Lib.hid hb; have HC := Lib.hid hc; clear ha hb hc 
  have HG := Lib.hid (rss3 (c := c) (d := d) (q := q) HA.out han HB.out hbn HC.out hcn)
  by_cases hg : ([(⟨A, n, c, a⟩ : SS), ⟨B, m, d, b⟩, ⟨C, k, q, x⟩].any fun s => great03 s.l) = true
  · have HGR := Lib.hid hg; clear hg
    go_enter Try.func7, Try.ntmps7
    go_wp2_with fail
    refine (great_new (L := [(⟨A, n, c, a⟩ : SS), ⟨B, m, d, b⟩, ⟨C, k, q, x⟩]) rfl HGR.out HG.out (by simp)).mono ?_
    rintro e w1 ⟨rfl, hE⟩
    have HE := Lib.hid hE; clear hE
    go_wp2_with fail
    refine (awake_any _).mono ?_
    rintro e w9 ⟨rfl, hE⟩
    have HE9 := Lib.hid (HE.out.trans hE); clear hE
    go_wp2_with fail
    go_ret
    exact ⟨rfl, HE9.out⟩
  have hg' : ([(⟨A, n, c, a⟩ : SS), ⟨B, m, d, b⟩, ⟨C, k, q, x⟩].any fun s => great03 s.l) = false := by simpa using hg
  have h1 : n ≤ 12 := by rw [← HA.out.1]; exact great03_len (by simp at hg'; exact hg'.1)
  have h2 : m ≤ 12 := by rw [← HB.out.1]; exact great03_len (by simp at hg'; exact hg'.2.1)
  have h3 : k ≤ 12 := by rw [← HC.out.1]; exact great03_len (by simp at hg'; exact hg'.2.2)
  have HGR := Lib.hid hg'; clear hg hg'
  have hla := HA.out.1; have hlb := HB.out.1; have hlc := HC.out.1
  have d1 := dist_le a b; have d2 := dist_le b x; have d3 := dist_le a x
  have d4 := dist_tri a b x
  have d5 := dist_comm a b
  have d6 := dist_par a b
  rw [hla, hlb] at d6 d1
  rw [hlb, hlc] at d2
  rw [hla, hlc] at d3
  have D5 := Lib.hid d5
  have hz : ((dist a b : Int) == 0) = decide (a = b) := by
    rw [Bool.eq_iff_iff, beq_iff_eq, decide_eq_true_eq, ← dist_zero]; omega
  have HZ := Lib.hid hz; have HLA := Lib.hid hla; have HLB := Lib.hid hlb; have HLC := Lib.hid hlc
  clear hla hlb hlc hz d5
  go_enter Try.func7, Try.ntmps7
  go_wp2_with fail
  refine (great_new (L := [(⟨A, n, c, a⟩ : SS), ⟨B, m, d, b⟩, ⟨C, k, q, x⟩]) rfl HGR.out HG.out (by simp)).mono ?_
  rintro e w1 ⟨rfl, hE⟩
  have HE := Lib.hid hE; clear hE
  go_wp2_with fail
  refine (distance_any A B n c m d a b _ (HA.out.ext HE.out) (HB.out.ext HE.out) (by omega) (by omega) (dist a b) (by have := dist_le a b; have := HA.out.1; have := HB.out.1; omega) (last_dist a b)).mono ?_
  rintro e w2 ⟨rfl, hE⟩
  have HE2 := Lib.hid (HE.out.trans hE); clear hE
  go_wp2_with fail
  refine (distance_any B C m d k q b x _ (HB.out.ext HE2.out) (HC.out.ext HE2.out) (by omega) (by omega) (dist b x) (by have := dist_le b x; have := HB.out.1; have := HC.out.1; omega) (last_dist b x)).mono ?_
  rintro e w3 ⟨rfl, hE⟩
  have HE3 := Lib.hid (HE2.out.trans hE); clear hE
  go_wp2_with fail
  refine (distance_any A C n c k q a x _ (HA.out.ext HE3.out) (HC.out.ext HE3.out) (by omega) (by omega) (dist a x) (by have := dist_le a x; have := HA.out.1; have := HC.out.1; omega) (last_dist a x)).mono ?_
  rintro e w4 ⟨rfl, hE⟩
  have HE4 := Lib.hid (HE3.out.trans hE); clear hE
  go_wp2_with fail
  refine (equal_any A B n m c d a b _ (HA.out.ext HE4.out) (HB.out.ext HE4.out) han hbn).mono ?_
  rintro e w5 ⟨rfl, hE⟩
  have HE5 := Lib.hid (HE4.out.trans hE); clear hE
  have e1 : ((((dist a b : Nat) : Int) == 0) == decide (a = b)) = true := by rw [HZ.out]; simp
  go_wp2_with fail
  refine (distance_any B A m d n c b a _ (HB.out.ext HE5.out) (HA.out.ext HE5.out) (by omega) (by omega) (dist b a) (by have := dist_le b a; have := HB.out.1; have := HA.out.1; omega) (last_dist b a)).mono ?_
  rintro e w6 ⟨rfl, hE⟩
  have HE6 := Lib.hid (HE5.out.trans hE); clear hE
  rw [← D5.out]
  clear e1
  have t1 : decide ((dist a x : Int) ≤ (dist a b : Int) + (dist b x : Int)) = true := yd (by omega)
  have t2 : decide ((dist a b : Int) ≤ (n : Int) + m) = true := yd (by omega)
  have t3 : (((dist a b : Int) + n + m) % 2 == 0) = true := by simpa using d6
  go_wp2_with fail
  refine (awake_any _).mono ?_
  rintro e w9 ⟨rfl, hE⟩
  have HE9 := Lib.hid (HE6.out.trans hE); clear hE
  go_wp2_with fail
  go_ret
  exact ⟨rfl, HE9.out⟩

end Go.Proofs.Ytmagicjmenbdpaa

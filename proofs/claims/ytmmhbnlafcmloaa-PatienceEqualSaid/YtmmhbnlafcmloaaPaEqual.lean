/- PatienceEqual: the walk. -/
import Derived.Test.YtmmhbnlafcmloaaPaRUniq
import Derived.Test.YtmmhbnlafcmloaaPaKeptM
import Derived.Test.YtmmhbnlafcmloaaPaEqP
namespace Go.Proofs.Ytmmhbnlafcmloaa
open Go.RowKit

theorem infoSt : (Try.prog.info? 9).map (fun i => (i.zero, i.size, i.bytes)) = some (some (.string ⟨#[]⟩), 1, 16) := by kernel_rfl
theorem underSt : Try.prog.underlying 22 = some (.slice 9) := by kernel_rfl
theorem one_st (hs : List ByteArray) : ∀ u ∈ hs.map Value.string, u.oneCell' = true := by
  intro u hu
  obtain ⟨h, _, rfl⟩ := List.mem_map.1 hu
  rfl
theorem own_new (w : World) (t : TypeId) : (w.alloc (.cells #[] t)).ownsRow w.heap.size t 1 (.slice (some ⟨w.heap.size, 0, none⟩) 0 0) 0 [] :=
  ⟨rfl, .inr ⟨w.heap.size, 0, #[], rfl, Nat.le_refl _, heap_alloc_new w _, Nat.le_refl _, by simp [maxLen], rfl, rfl⟩⟩
theorem kept_len : ∀ (l : List Mt), (∀ m ∈ l, 1 ≤ m.n) → (l.length : Int) ≤ keptV l
  | [], _ => by simp [keptV]
  | m :: l, h => by
    have ih := kept_len l (fun x hx => h x (by simp [hx]))
    have h0 := h m (by simp)
    have e : keptV (m :: l) = m.n + keptV l := kept_append [m] l |>.trans (by simp [keptV])
    rw [e, List.length_cons]; omega

set_option maxRecDepth 100000 in
set_option maxHeartbeats 8000000 in
theorem equal_walk {A : Option Addr} {n c : Nat} {a : Lns} {B : Option Addr} {m d : Nat} {u : Lns} {C : Option Addr} {k q : Nat} {v : Lns} (w : World) (ha : Strs w A n a) (hac : n ≤ c) (han : n ≤ Reach) (hb : Strs w B m u) (hbc : m ≤ d) (hbn : m ≤ Reach) (hc : Strs w C k v) (hcc : k ≤ q) (hcn : k ≤ Reach) :
    Calls Try.prog 8 #[.slice A n c, .slice B m d, .slice C k q] w (Good w) := by
  obtain rfl : a.length = n := ha.1
  obtain rfl : u.length = m := hb.1
  obtain rfl : v.length = k := hc.1
  have HA := Lib.hid ha; have HB := Lib.hid hb; have HC := Lib.hid hc; clear ha hb hc
  obtain ⟨inf, i1, i2, i3, i4⟩ := info_of infoSt
  have I1 := Lib.hid i1; have I2 := Lib.hid i2; have I3 := Lib.hid i3; have I4 := Lib.hid i4; clear i1 i2 i3 i4
  go_enter Try.func8, Try.ntmps8
  go_wp2_with fail
  refine (great_any A B a.length c u.length d a u _ HA.out HB.out han hbn).mono ?_
  rintro e w0 ⟨rfl, hE⟩
  have HE := Lib.hid hE; clear hE
  cases hg : (great04 a || great04 u) with
  | true =>
    go_wp2_with fail
    refine (awake_any _).mono ?_
    rintro e w9 ⟨rfl, hE⟩
    have HE9 := Lib.hid (HE.out.trans hE); clear hE
    go_wp2_with fail
    go_ret
    exact ⟨rfl, HE9.out⟩
  | false =>
    have hg2 : great04 a = false ∧ great04 u = false := by simpa using hg
    have h1 := great04_len hg2.1
    have h2 := great04_len hg2.2
    clear hg hg2
    go_wp2_with fail
    refine (great04_any C v.length q v _ (HC.out.ext HE.out) hcn).mono ?_
    rintro e w1 ⟨rfl, hE⟩
    have HE1 := Lib.hid (HE.out.trans hE); clear hE HE
    cases hg3 : great04 v with
    | true =>
      go_wp2_with fail
      refine (awake_any _).mono ?_
      rintro e w9 ⟨rfl, hE⟩
      have HE9 := Lib.hid (HE1.out.trans hE); clear hE
      go_wp2_with fail
      go_ret
      exact ⟨rfl, HE9.out⟩
    | false =>
      have h3 := great04_len hg3
      clear hg3
      obtain ⟨X, hX⟩ : ∃ X, u ++ a ++ v = X := ⟨_, rfl⟩
      obtain ⟨Y, hY⟩ : ∃ Y, u ++ v = Y := ⟨_, rfl⟩
      have x1 : X.length = 0 + u.length + a.length + v.length := by rw [← hX]; simp; omega
      have x2 : X.map Value.string = [] ++ u.map Value.string ++ a.map Value.string ++ v.map Value.string := by rw [← hX]; simp
      have x3 : ∀ s ∈ X, s.size ≤ Reach := by
        rw [← hX]; intro s hs
        simp only [List.mem_append] at hs
        rcases hs with (hs | hs) | hs
        · exact HB.out.2.1 s hs
        · exact HA.out.2.1 s hs
        · exact HC.out.2.1 s hs
      have y1 : Y.length = 0 + u.length + v.length := by rw [← hY]; simp
      have y2 : Y.map Value.string = [] ++ u.map Value.string ++ v.map Value.string := by rw [← hY]; simp
      have y3 : ∀ s ∈ Y, s.size ≤ Reach := by
        rw [← hY]; intro s hs
        simp only [List.mem_append] at hs
        rcases hs with hs | hs
        · exact HB.out.2.1 s hs
        · exact HC.out.2.1 s hs
      have xl : X.length ≤ 120 := by omega
      have yl : Y.length ≤ 80 := by omega
      have hk := pd_part X.length u a v
      rw [hX, hY] at hk
      have r1 := pd_same X.length X
      have r2 := pd_none X.length X
      have rs := pd_sizes (X.length + 1) X Y
      obtain ⟨R1, hR1⟩ : ∃ R, pdV (X.length + 1) X X = R := ⟨_, rfl⟩
      obtain ⟨R3, hR3⟩ : ∃ R, pdV (X.length + 1) X Y = R := ⟨_, rfl⟩
      have rp : ∀ x ∈ R3, 1 ≤ x.n := by rw [← hR3]; exact runs_pos _ [] (by simp)
      rw [hR1] at r1; rw [hR3] at rs hk
      have rl := kept_len R3 rp
      rw [hk] at rl
      have rl3 : R3.length ≤ 80 := by omega
      have X1 := Lib.hid x1; have X2 := Lib.hid x2; have X3 := Lib.hid x3; have Y1 := Lib.hid y1; have Y2 := Lib.hid y2; have Y3 := Lib.hid y3; have HK := Lib.hid hk; have HR1 := Lib.hid hR1; have HR3 := Lib.hid hR3; have HS1 := Lib.hid r1; have HS2 := Lib.hid r2; have HRS := Lib.hid rs
      clear x1 x2 x3 y1 y2 y3 hk hR1 hR3 r1 r2 rs rp rl hX hY
      go_wp2_with (at_builtin; first | (refine wpList_append_size2 rfl (.tmp 20) (.tmp 21) 22 rfl w1.heap.size 9 inf _ 1 16 underSt I1.out I2.out I3.out I4.out rfl (by decide) (.slice (some ⟨w1.heap.size, 0, none⟩) 0 0) 0 [] B u.length d (u.map Value.string) rfl rfl (by simp) (one_st _) (by simp only [maxLen]; omega) (by omega) (own_new w1 9) (HB.out.ext (HE1.out.trans ((Ext.refl w1).alloc (.cells #[] 9)))).2.2 (by simp) ?_; intro v2 w2 hown hg hbk; have HO2 := Lib.hid hown; have HE2 := Lib.hid (((Ext.refl w1).alloc (.cells #[] 9)).own3 (own_new w1 9) hg); clear hown hg hbk) | (refine wpList_append_size2 rfl (.tmp 22) (.tmp 23) 22 rfl w1.heap.size 9 inf _ 1 16 underSt I1.out I2.out I3.out I4.out rfl (by decide) v2 (0 + u.length) _ A a.length c (a.map Value.string) rfl rfl (by simp) (one_st _) (by simp only [maxLen]; omega) (by omega) HO2.out (HA.out.ext (HE1.out.trans HE2.out)).2.2 HE2.out.size ?_; intro v3 w3 hown hg hbk; have HO3 := Lib.hid hown; have HE3 := Lib.hid (HE2.out.own3 HO2.out hg); clear hown hg hbk) | (refine wpList_append_size2 rfl (.tmp 24) (.tmp 25) 22 rfl w1.heap.size 9 inf _ 1 16 underSt I1.out I2.out I3.out I4.out rfl (by decide) v3 (0 + u.length + a.length) _ C v.length q (v.map Value.string) rfl rfl (by simp) (one_st _) (by simp only [maxLen]; omega) (by omega) HO3.out (HC.out.ext (HE1.out.trans HE3.out)).2.2 HE3.out.size ?_; intro v4 w4 hown hg hbk; have HE4 := Lib.hid (HE1.out.trans (HE3.out.own3 HO3.out hg)); have h9 : w4.ownsRow w1.heap.size 9 1 v4 X.length (X.map Value.string) := (by rw [X1.out, X2.out]; exact hown); obtain ⟨A1, c1, rfl, hc1, hsX⟩ := own_strs h9 X3.out; have HSX := Lib.hid hsX; clear hown hg hbk h9 hsX) | (refine wpList_append_size2 rfl (.tmp 27) (.tmp 28) 22 rfl w4.heap.size 9 inf _ 1 16 underSt I1.out I2.out I3.out I4.out rfl (by decide) (.slice (some ⟨w4.heap.size, 0, none⟩) 0 0) 0 [] B u.length d (u.map Value.string) rfl rfl (by simp) (one_st _) (by simp only [maxLen]; omega) (by omega) (own_new w4 9) (HB.out.ext (HE4.out.trans ((Ext.refl w4).alloc (.cells #[] 9)))).2.2 (by simp) ?_; intro v5 w5 hown hg hbk; have HO5 := Lib.hid hown; have HE5 := Lib.hid (((Ext.refl w4).alloc (.cells #[] 9)).own3 (own_new w4 9) hg); clear hown hg hbk) | (refine wpList_append_size2 rfl (.tmp 29) (.tmp 30) 22 rfl w4.heap.size 9 inf _ 1 16 underSt I1.out I2.out I3.out I4.out rfl (by decide) v5 (0 + u.length) _ C v.length q (v.map Value.string) rfl rfl (by simp) (one_st _) (by simp only [maxLen]; omega) (by omega) HO5.out (HC.out.ext (HE4.out.trans HE5.out)).2.2 HE5.out.size ?_; intro v6 w6 hown hg hbk; have HE6 := Lib.hid (HE5.out.own3 HO5.out hg); have h9 : w6.ownsRow w4.heap.size 9 1 v6 Y.length (Y.map Value.string) := (by rw [Y1.out, Y2.out]; exact hown); obtain ⟨A2, c2, rfl, hc2, hsY⟩ := own_strs h9 Y3.out; have HSY := Lib.hid hsY; clear hown hg hbk h9 hsY))
      refine (pdiff_is A1 A1 X.length c1 X.length c1 X X _ (HSX.out.ext HE6.out) (HSX.out.ext HE6.out) (by omega) (by omega) hc1 hc1).mono ?_
      rintro e w7 ⟨C1, k1, rfl, hM, hE⟩
      rw [HR1.out] at hM ⊢
      have HE7 := Lib.hid hE; have HM1 := Lib.hid hM; clear hE hM
      go_wp2_with fail
      refine (pdiff_is A1 none X.length c1 0 0 X [] _ (HSX.out.ext (HE6.out.trans HE7.out)) (Strs.nil _ _) (by omega) (by omega) hc1 (Nat.le_refl _)).mono ?_
      rintro e w8 ⟨C2, k2, rfl, hM, hE⟩
      rw [HS2.out, List.length_nil]
      have HE8 := Lib.hid (HE7.out.trans hE); have HM2 := Lib.hid (HM1.out.ext hE); clear hE hM HM1
      go_wp2_with fail
      refine (pdiff_is A1 A2 X.length c1 Y.length c2 X Y _ (HSX.out.ext (HE6.out.trans HE8.out)) (HSY.out.ext HE8.out) (by omega) (by omega) hc1 hc2).mono ?_
      rintro e w9 ⟨C3, k3, rfl, hM, hE⟩
      rw [HR3.out] at hM ⊢
      have HE9 := Lib.hid ((HE4.out.trans HE6.out).trans (HE8.out.trans hE)); have HM3 := Lib.hid hM; have HM13 := Lib.hid (HM2.out.ext hE); clear hE hM HM2
      by_cases hx0 : X.length = 0
      · have hr1 := HS1.out
        rw [if_pos hx0] at hr1
        subst hr1
        have qx : ((X.length : Int) == 0) = true := by rw [hx0]; rfl
        have qy : decide ((0 : Int) < (X.length : Int)) = false := nd (by omega)
        have qz : decide (0 < X.length) = false := nd (by omega)
        clear hx0
        go_wp2_with fail
        refine (keptM_any C3 R3.length k3 R3 _ HM3.out (by omega) (fun m hm => by have := HRS.out m hm; omega)).mono ?_
        rintro e w11 ⟨rfl, rfl⟩
        rw [HK.out]
        go_wp2_with fail
        refine (awake_any _).mono ?_
        rintro e w12 ⟨rfl, hE⟩
        have HE12 := Lib.hid (HE9.out.trans hE); clear hE
        go_wp2_with fail
        go_ret
        exact ⟨rfl, HE12.out⟩
      · have hr1 := HS1.out
        rw [if_neg hx0] at hr1
        have qx : ((X.length : Int) == 0) = false := beq_eq_false_iff_ne.2 (by omega)
        have qy : decide ((0 : Int) < (X.length : Int)) = true := yd (by omega)
        have qz : decide (0 < X.length) = true := yd (by omega)
        have HS3 := Lib.hid hr1; clear hx0 hr1
        go_wp2_with fail
        refine (sameM_is (r := true) (xs := R1) (ys := [⟨0, 0, (X.length : Int)⟩]) (by rw [HS3.out]; simp) (HM13.out.ext ((Ext.refl _).alloc _)) (Mts.of_blk (ms := [⟨0, 0, (X.length : Int)⟩]) (Blk.new w9 _ rfl) (by intro m hm; simp only [List.mem_singleton] at hm; subst hm; exact mt_wf_small (by omega) (by omega) (by omega))) (by rw [HS3.out]; simp only [List.length_singleton]; decide) (by simp only [List.length_singleton]; decide)).mono ?_
        rintro e w10 ⟨rfl, hE⟩
        have HE10 := Lib.hid (HE9.out.trans (((Ext.refl _).alloc _).trans hE)); have HM4 := Lib.hid (HM3.out.ext (((Ext.refl _).alloc _).trans hE)); clear hE
        go_wp2_with fail
        refine (keptM_any C3 R3.length k3 R3 _ HM4.out (by omega) (fun m hm => by have := HRS.out m hm; omega)).mono ?_
        rintro e w11 ⟨rfl, rfl⟩
        rw [HK.out]
        go_wp2_with fail
        refine (awake_any _).mono ?_
        rintro e w12 ⟨rfl, hE⟩
        have HE12 := Lib.hid (HE10.out.trans hE); clear hE
        go_wp2_with fail
        go_ret
        exact ⟨rfl, HE12.out⟩
end Go.Proofs.Ytmmhbnlafcmloaa

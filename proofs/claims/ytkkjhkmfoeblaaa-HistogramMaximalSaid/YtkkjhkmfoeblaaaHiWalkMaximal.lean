/- HistogramMaximal: the walk. -/
import Derived.Test.YtkkjhkmfoeblaaaHiWalk
namespace Go.Proofs.Ytkkjhkmfoeblaaa
open Go.RowKit

set_option maxRecDepth 100000 in
set_option maxHeartbeats 8000000 in
theorem maximal_walk {A : Option Addr} {n c : Nat} {a : Lns} {B : Option Addr} {m d : Nat} {b : Lns} (w : World) (ha : Strs w A n a) (hac : n ≤ c) (han : n ≤ Reach) (hb : Strs w B m b) (hbc : m ≤ d) (hbn : m ≤ Reach) :
    Calls Try.prog 8 #[.slice A n c, .slice B m d] w (Good w) := by
  obtain rfl : a.length = n := ha.1
  obtain rfl : b.length = m := hb.1
  have HA := Lib.hid ha; have HB := Lib.hid hb; clear ha hb
  have HG := Lib.hid (rss2 (c := c) (d := d) HA.out han HB.out hbn)
  by_cases hg : ([(⟨A, a.length, c, a⟩ : SS), ⟨B, b.length, d, b⟩].any fun s => great03 s.l) = true
  · have HGR := Lib.hid hg; clear hg
    go_enter Try.func8, Try.ntmps8
    go_wp2_with fail
    refine (great_new (L := [(⟨A, a.length, c, a⟩ : SS), ⟨B, b.length, d, b⟩]) rfl HGR.out HG.out (by simp)).mono ?_
    rintro e w1 ⟨rfl, hE⟩
    have HE := Lib.hid hE; clear hE
    go_wp2_with fail
    refine (awake_any _).mono ?_
    rintro e w9 ⟨rfl, hE⟩
    have HE9 := Lib.hid (HE.out.trans hE); clear hE
    go_wp2_with fail
    go_ret
    exact ⟨rfl, HE9.out⟩
  have hg' : ([(⟨A, a.length, c, a⟩ : SS), ⟨B, b.length, d, b⟩].any fun s => great03 s.l) = false := by simpa using hg
  have h1 : a.length ≤ 12 := great03_len (by simp at hg'; exact hg'.1)
  have h2 : b.length ≤ 12 := great03_len (by simp at hg'; exact hg'.2)
  have HGR := Lib.hid hg'; clear hg hg'
  by_cases h64 : (bestV a b).2 ≤ 64
  case neg =>
    have hV := (best_none (by omega : a.length ≤ 64) h64).1
    have HV := Lib.hid hV; clear hV h64
    go_enter Try.func8, Try.ntmps8
    go_wp2_with fail
    refine (great_new (L := [(⟨A, a.length, c, a⟩ : SS), ⟨B, b.length, d, b⟩]) rfl HGR.out HG.out (by simp)).mono ?_
    rintro e w1 ⟨rfl, hE⟩
    have HE := Lib.hid hE; clear hE
    go_wp2_with fail
    refine (best_any A B a.length c b.length d a b _ (HA.out.ext HE.out) (HB.out.ext HE.out) (by omega) (by omega) hac).mono ?_
    rintro e w2 ⟨rfl, hE⟩
    have HE2 := Lib.hid ((HE.out.trans hE).alloc (Mt.obj ⟨0, 0, 0⟩)); clear hE
    rw [HV.out, bestR, Mt.val]
    go_wp2_with fail
    refine (awake_any _).mono ?_
    rintro e w9 ⟨rfl, hE⟩
    have HE9 := Lib.hid (HE2.out.trans hE); clear hE
    go_wp2_with fail
    go_ret
    exact ⟨rfl, HE9.out⟩
  obtain ⟨i, k, l, ⟨h3, h4, h5, h6, h7, _⟩, _⟩ := best_some (b := b) (by omega : a.length ≤ 64) h64
  obtain ⟨p1, p2, p3, p4⟩ := runN_spec (a := a) (b := b) (i := i) (k := k) (by omega) (by omega)
  have hchk := check_best h4 h5 h6 h7
  rw [h5] at p1 p2 p4
  obtain ⟨p5, p6⟩ := p4 h4
  obtain ⟨r, hV⟩ : ∃ r, bestV a b = (⟨i, k, l⟩, r) := ⟨_, Prod.ext h3 rfl⟩
  have hr : r ≤ 64 := by rw [hV] at h64; exact h64
  obtain ⟨ba, oa, _, hA, hba, -, -, -⟩ := HA.out.get h6
  obtain ⟨bb, ob, _, hB, hbb, -, -, -⟩ := HB.out.get h7
  subst hA; subst hB
  have HV := Lib.hid hV; have HCHK := Lib.hid hchk; have P5 := Lib.hid p5; have P6 := Lib.hid p6; clear hV hchk p3 p4 p5 p6 h3 h5 h64
  have hr' := yd hr
  go_enter Try.func8, Try.ntmps8
  go_wp2_with fail
  refine (great_new (L := [(⟨some ⟨ba, oa, none⟩, a.length, c, a⟩ : SS), ⟨some ⟨bb, ob, none⟩, b.length, d, b⟩]) rfl HGR.out HG.out (by simp)).mono ?_
  rintro e w1 ⟨rfl, hE⟩
  have HE := Lib.hid hE; clear hE
  go_wp2_with fail
  refine (best_any _ _ a.length c b.length d a b _ (HA.out.ext HE.out) (HB.out.ext HE.out) (by omega) (by omega) hac).mono ?_
  rintro e w2 ⟨rfl, hE⟩
  have HE2 := Lib.hid (HE.out.trans hE); clear hE
  rw [HV.out, bestR, Mt.val]
  dsimp only
  rw [hr']
  have hl0 : 0 < l := by omega
  go_wp2_with fail
  have hwf : ∀ m ∈ [(⟨i, k, l⟩ : Mt)], m.wf := fun m hm => by
    simp only [List.mem_cons, List.not_mem_nil, or_false] at hm
    subst hm
    exact mt_wf_small (by omega) (by omega) (by omega)
  have HWF := Lib.hid hwf; clear hwf
  have hb2 := Blk.new w2 (Mt.obj ⟨i, k, l⟩) (g := w2.heap.size) rfl
  obtain ⟨g5, hg5⟩ : ∃ g5, g5 = w2.heap.size := ⟨_, rfl⟩
  obtain ⟨w3, hw3⟩ : ∃ w3, w3 = w2.alloc (Mt.obj ⟨i, k, l⟩) := ⟨_, rfl⟩
  have hsz3 : w2.heap.size + 1 = w3.heap.size := by rw [hw3]; simp
  rw [← hw3, ← hg5] at hb2
  rw [hsz3, ← hw3, ← hg5]
  have HB3 := Lib.hid hb2
  have HE3 : Ext w w3 := by rw [hw3]; exact HE2.out.alloc _
  have HE3 := Lib.hid HE3
  clear hw3 hg5 hsz3 hb2
  refine (check_is HCHK.out (HA.out.ext (HE3.out.alloc _)) (HB.out.ext (HE3.out.alloc _)) (Mts.of_blk (ms := [⟨i, k, l⟩]) (Blk.new w3 _ rfl) HWF.out) (by omega) (by omega) (by simp) hac hbc).mono ?_
  rintro e w4 ⟨rfl, hE⟩
  have HB4 := Lib.hid ((HB3.out.alloc _).ext hE)
  have HE4 := Lib.hid ((HE3.out.alloc _).trans hE); clear hE
  obtain ⟨c0, c1, c2⟩ := HB4.out.cells3
  go_wp2_with fail
  refine (refCheck_is HCHK.out (HA.out.ext (HE4.out.alloc _)) (HB.out.ext (HE4.out.alloc _)) (Mts.of_blk (ms := [⟨i, k, l⟩]) (Blk.new w4 _ rfl) HWF.out) (by omega) (by omega) (by simp)).mono ?_
  rintro e w5 ⟨rfl, hE⟩
  have HB5 := Lib.hid ((HB4.out.alloc _).ext hE)
  have HE5 := Lib.hid ((HE4.out.alloc _).trans hE); clear hE c0 c1 c2
  obtain ⟨c0, c1, c2⟩ := HB5.out.cells3
  go_wp2_with fail
  go_quiet (fail)
  go_wp2_with fail
  clear c0 c1 c2
  obtain ⟨w6, hw6⟩ : ∃ w6, w6 = w5.drewN nq := ⟨_, rfl⟩
  have hE6 : Ext w5 w6 := by rw [hw6]; exact (Ext.refl w5).drewN _
  rw [← hw6]
  have HB6 := Lib.hid (HB5.out.ext hE6); have HE6 := Lib.hid (HE5.out.trans hE6)
  clear hw6 hE6 HB3 HB4 HB5 HE3 HE4 HE5
  have hq1 : ((i : Int) == 0) = true ∨ (((i : Int) == 0) = false ∧ ((k : Int) == 0) = true) ∨ (((i : Int) == 0) = false ∧ ((k : Int) == 0) = false ∧ ∃ x y s t, IntKind.i64.wrap ((i : Int) - 1) = (x : Nat) ∧ IntKind.i64.wrap ((k : Int) - 1) = (y : Nat) ∧ x < a.length ∧ y < b.length ∧ (s.toList == t.toList) = false ∧ w6.cell? ⟨ba, oa + x, none⟩ = some (.string s) ∧ w6.cell? ⟨bb, ob + y, none⟩ = some (.string t)) := by
    rcases Nat.eq_zero_or_pos i with h | h
    · exact .inl (by simp [h])
    rcases Nat.eq_zero_or_pos k with h' | h'
    · exact .inr (.inl ⟨by simp; omega, by simp [h']⟩)
    have h5 := P5.out
    obtain ⟨x, rfl⟩ : ∃ j, i = j + 1 := ⟨i - 1, by omega⟩
    obtain ⟨y, rfl⟩ : ∃ j, k = j + 1 := ⟨k - 1, by omega⟩
    obtain ⟨b1, o1, s1, hA1, hb1, hs1, hs2, hc1⟩ := (HA.out.ext HE6.out).get (k := x) (by omega)
    cases hA1
    obtain ⟨b2, o2', t1, hB1, hb2, ht1, ht2, hc2⟩ := (HB.out.ext HE6.out).get (k := y) (by omega)
    cases hB1
    rw [show ((x + 1 : Nat) : Int) - 1 = (x : Nat) by omega, show ((y + 1 : Nat) : Int) - 1 = (y : Nat) by omega, mtB_at hs1 ht1] at h5
    exact .inr (.inr ⟨by simp; omega, by simp; omega, x, y, s1, t1, by rw [wrap_in (by omega) (by omega)]; omega, by rw [wrap_in (by omega) (by omega)]; omega, by omega, by omega, ne_list (by simpa using h5), hc1, hc2⟩)
  have hq2 : ((i : Int) + l == a.length) = true ∨ (((i : Int) + l == a.length) = false ∧ ((k : Int) + l == b.length) = true) ∨ (((i : Int) + l == a.length) = false ∧ ((k : Int) + l == b.length) = false ∧ ∃ s t, (s.toList == t.toList) = false ∧ w6.cell? ⟨ba, oa + (i + l), none⟩ = some (.string s) ∧ w6.cell? ⟨bb, ob + (k + l), none⟩ = some (.string t) ∧ i + l < a.length ∧ k + l < b.length) := by
    rcases Nat.eq_or_lt_of_le p1 with h | h
    · exact .inl (by simp; omega)
    rcases Nat.eq_or_lt_of_le p2 with h' | h'
    · exact .inr (.inl ⟨by simp; omega, by simp; omega⟩)
    have h6 := P6.out
    obtain ⟨b1, o1, s1, hA1, hb1, hs1, hs2, hc1⟩ := (HA.out.ext HE6.out).get h
    cases hA1
    obtain ⟨b2, o2', t1, hB1, hb2, ht1, ht2, hc2⟩ := (HB.out.ext HE6.out).get h'
    cases hB1
    rw [mtB_at hs1 ht1] at h6
    exact .inr (.inr ⟨by simp; omega, by simp; omega, s1, t1, ne_list (by simpa using h6), hc1, hc2, h, h'⟩)
  have e3 : ((i : Int) + l).toNat = i + l := by omega
  have e4 : ((k : Int) + l).toNat = k + l := by omega
  have e5 : 0 ≤ (i : Int) + l := by omega
  have e6 : 0 ≤ (k : Int) + l := by omega
  have HQ2 := Lib.hid hq2; clear hq2
  rcases hq1 with z1 | ⟨z1, z2⟩ | ⟨z1, z2, x, y, s1, t1, y1, y2, y3, y4, y5, y6, y7⟩
  all_goals
    try (have C1 := Lib.hid y6; have C2 := Lib.hid y7; clear y6 y7)
    rcases HQ2.out with z3 | ⟨z3, z4⟩ | ⟨z3, z4, s2, t2, y8, y9, y10, y11, y12⟩
    all_goals
      try (have C3 := Lib.hid y9; have C4 := Lib.hid y10; have q3 : (i : Int) + l < a.length := by omega
           have q4 : (k : Int) + l < b.length := by omega
           clear y9 y10)
      clear HQ2
      refine wp_region_text (fun wx => Ext w6 wx) [0,1,2,3,4,5,6,7,8,9,10,11,12,13,14,15,16,17,18,19,20,21,22,23,24,25,26,27,28,29,30,31,32,33,34,35,36,37,38,39,40,41,42,43,44,45,46,47,48,49] (by kernel_rfl) (Stab.ext _) (Ext.refl w6).drew (by kernel_rfl) (fun _ d _ _ _ h => by cases d <;> exact h) ?_
      iterate 50
        first
          | (refine wpTk_skip rfl (Eq.refl false) ?_
             simp only [Act.put, List.setIfInBounds_toArray, List.set_cons_zero, List.set_cons_succ])
          | (refine wpTk_want rfl (Eq.refl true) ?_
             apply Exists.intro
             refine ⟨fun wx hx => ?_, ?_⟩
             · obtain ⟨d0, d1, d2⟩ := (HB6.out.ext hx).cells3
               try (have d3 := hx.cell C1.out; have d4 := hx.cell C2.out)
               try (have d5 := hx.cell C3.out; have d6 := hx.cell C4.out; have d7 := d5; have d8 := d6; rw [← Nat.add_assoc] at d7 d8)
               clear hx
               go_simp
               first
                 | with_reducible exact gives_ok _ _ _
                 | (have r := awake_any wx; with_reducible exact gives_call _ _ _ r)
             simp only [Act.put, List.setIfInBounds_toArray, List.set_cons_zero, List.set_cons_succ])
      refine wpTk_nil ?_
      intro w7 hE7
      have HE7 := Lib.hid (HE6.out.trans hE7); clear hE7
      go_wp2_with fail
      go_ret
      exact ⟨rfl, HE7.out⟩
end Go.Proofs.Ytkkjhkmfoeblaaa

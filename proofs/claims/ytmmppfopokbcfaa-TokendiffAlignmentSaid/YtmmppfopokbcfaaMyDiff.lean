/- Contract: myers.Diff. -/
import Derived.Test.YtmmppfopokbcfaaMyColl
import Derived.Test.YtmmppfopokbcfaaReverse
namespace Go.Proofs.Ytmmppfopokbcfaa
open Go.RowKit

/-- The matches, from the last one back: with d tables left, on the diagonal k at x. -/
def backV (a b : Lns) : Nat → Int → Int → List Mt
  | 0, _, _ => []
  | 1, k, x => if 0 < x then [⟨0, -k, x⟩] else []
  | d + 2, k, x => (if (stepV (tabV a b d) k).1 < x then [⟨(stepV (tabV a b d) k).1, (stepV (tabV a b d) k).1 - k, x - (stepV (tabV a b d) k).1⟩] else []) ++ backV a b (d + 1) (stepV (tabV a b d) k).2 ((atV (tabV a b d) (stepV (tabV a b d) k).2).getD 0)
def diffV (a b : Lns) (D : Nat) : List Mt := (backV a b (D + 1) ((a.length : Int) - b.length) a.length).reverse

theorem stepV_diag (t : List Int) (k : Int) : (stepV t k).2 = k + 1 ∨ (stepV t k).2 = k - 1 := by
  unfold stepV
  split <;> first | exact .inl rfl | exact .inr rfl | (split <;> first | exact .inl rfl | exact .inr rfl)
theorem atV_tab {a b : Lns} {d : Nat} (k : Int) : 0 ≤ (atV (tabV a b d) k).getD 0 ∧ (atV (tabV a b d) k).getD 0 ≤ (a.length : Int) + d := by
  unfold atV
  split
  · simp; omega
  · cases h : (tabV a b d)[((k + (((tabV a b d).length : Int) - 1)) / 2).toNat]? with
    | none => simp; omega
    | some x => simpa using tabV_bound a b d x (List.mem_of_getElem? h)
theorem resAt_getD (o : Option Int) : ∃ ok, resAt o = .tuple #[.int .i64 (o.getD 0), .bool ok] := by
  cases o with
  | none => exact ⟨false, rfl⟩
  | some x => exact ⟨true, rfl⟩
theorem at_getD {A : Option Addr} {n c : Nat} {t : List Int} {k : Int} {w : World} (ht : Ints w A n t) (hn : n ≤ 1000) (hk : -1000 ≤ k) (hk' : k ≤ 1000) :
    Calls Try.prog 61 #[.slice A n c, .int .i64 k] w fun e w' => ∃ ok, e = .returned (.tuple #[.int .i64 ((atV t k).getD 0), .bool ok]) ∧ w = w' := by
  refine (at_any A n c t k w ht hn hk hk').mono ?_
  rintro e w' ⟨h1, h2⟩
  obtain ⟨ok, hok⟩ := resAt_getD (atV t k)
  exact ⟨ok, by rw [h1, hok], h2⟩

theorem infoM : (Try.prog.info? 55).map (fun i => (i.zero, i.size, i.bytes)) = some (some (.agg #[.int .i64 0, .int .i64 0, .int .i64 0]), 3, 24) := by kernel_rfl
theorem underM : Try.prog.underlying 52 = some (.slice 55) := by kernel_rfl
theorem one_mt (ms : List Mt) : ∀ u ∈ ms.flatMap Mt.cells, u.oneCell' = true := by
  intro u hu
  obtain ⟨h, _, hu⟩ := List.mem_flatMap.1 hu
  simp only [Mt.cells, List.mem_cons, List.not_mem_nil, or_false] at hu
  rcases hu with rfl | rfl | rfl <;> rfl
/-- A row of matches of one's own, as a slice. -/
theorem ownM_mts {w : World} {base n : Nat} {v : Value} {ms : List Mt} (h : w.ownsRow base 55 3 v n (ms.flatMap Mt.cells)) (hs : ∀ m ∈ ms, m.wf) : ∃ A c, v = .slice A n c ∧ n ≤ c ∧ Mts w A n ms := by
  have hl : ms.length = n := by have := h.1; rw [flat_len mt_cells_len] at this; omega
  have hc := fun g hg => h.cells (g := g) hg
  rcases h.2 with ⟨rfl, rfl⟩ | ⟨g, cap, cur, rfl, hb, hgg, hnc, _⟩
  · obtain rfl : ms = [] := List.eq_nil_of_length_eq_zero hl
    exact ⟨none, 0, rfl, Nat.le_refl _, Mts.nil _ _⟩
  · exact ⟨_, _, rfl, hnc, hl, hs, Cells.of_add _ (hc g rfl)⟩
theorem mt_wf_small {x y z : Int} (hx : -100000 ≤ x ∧ x ≤ 100000) (hy : -100000 ≤ y ∧ y ≤ 100000) (hz : -100000 ≤ z ∧ z ≤ 100000) : (⟨x, y, z⟩ : Mt).wf := by
  unfold Mt.wf I64
  simp only
  omega

/-- What is known in the loop, with j tables left. -/
def DiffAt (a b : Lns) (D : Nat) (_w w1 : World) (j : Nat) (k x : Int) (v : Value) (wr : World) : Prop :=
  ∃ ms : List Mt, ms ++ backV a b j k x = backV a b (D + 1) ((a.length : Int) - b.length) a.length ∧ (∀ m ∈ ms, m.wf) ∧ ms.length + j ≤ D + 1 ∧ wr.ownsRow w1.heap.size 55 3 v ms.length (ms.flatMap Mt.cells) ∧ Ext w1 wr

set_option maxRecDepth 100000 in
set_option maxHeartbeats 8000000 in
theorem diff_any (A B : Option Addr) (n c m cd : Nat) (a b : Lns) (w : World) (ha : Strs w A n a) (hb : Strs w B m b) (hn : n ≤ 130) (hm : m ≤ 130) (D : Nat) (hD : D ≤ 260) (hL : LastT a b D) :
    Calls Try.prog 36 #[.slice A n c, .slice B m cd] w fun e w' => ∃ v N, e = .returned v ∧ w'.ownsRow w.heap.size 55 3 v N ((diffV a b D).flatMap Mt.cells) ∧ (∀ m ∈ diffV a b D, m.wf) ∧ Ext w w' := by
  obtain rfl : a.length = n := ha.1
  obtain rfl : b.length = m := hb.1
  have HA := Lib.hid ha; have HB := Lib.hid hb; have HL := Lib.hid hL; clear ha hb hL
  obtain ⟨inf, i1, i2, i3, i4⟩ := info_of infoM
  have I1 := Lib.hid i1; have I2 := Lib.hid i2; have I3 := Lib.hid i3; have I4 := Lib.hid i4; clear i1 i2 i3 i4
  go_enter Try.func36, Try.ntmps36
  go_wp2_with fail
  refine (follower_any _ _ _ _ _ _ _).mono ?_
  rintro e w1 ⟨rfl, rfl⟩
  go_wp2_with fail
  refine (tables_any _ _ _ _ _ _ _ _ _).mono ?_
  rintro e w1 ⟨rfl, rfl⟩
  go_wp2_with fail
  refine (collect_any A B c cd a b w _ HA.out HB.out hn hm D hD HL.out rfl).mono ?_
  rintro e w1 ⟨v, vs, rfl, h1, h2, h3⟩
  obtain ⟨g, cc, L, rfl, hgb, hcc, hL1, hL2, hL3⟩ := own_tabs h1 h2 (tabsV_small a b (by omega))
  have HR := Lib.hid hL2; have HT := Lib.hid hL3; have HE := Lib.hid h3
  clear h1 h2 h3 hL1 hL2 hL3
  go_wp2_with fail
  go_loopw [6, 7, 8, 9] (fun v6 v7 v8 v9 wr => ∃ (j : Nat) (k x : Int), j ≤ D + 1 ∧ v9 = .int .i64 ((j : Int) - 1) ∧ v7 = .int .i64 k ∧ v8 = .int .i64 x ∧ -130 - ((D : Int) + 1 - j) ≤ k ∧ k ≤ 130 + ((D : Int) + 1 - j) ∧ 0 ≤ x ∧ x ≤ 800 ∧ DiffAt a b D w w1 j k x v6 wr) (fun _ _ _ v9 _ => (intOf v9 + 1).toNat)
  case atStart => exact ⟨D + 1, _, _, Nat.le_refl _, by go_num, rfl, rfl, by omega, by omega, by omega, by omega, [], rfl, by simp, by simp, World.ownsRow_nil _ _ _ _, Ext.refl _⟩
  case round =>
    obtain ⟨j, k, x, hj, rfl, rfl, rfl, hk1, hk2, hx1, hx2, ms, hms, hwf, hlen, ho, hE2⟩ := hrel
    have HM := Lib.hid hms; have HW := Lib.hid hwf; have HO := Lib.hid ho; have HE2 := Lib.hid hE2
    clear hms hwf ho hE2
    rcases Nat.lt_trichotomy j 1 with hj0 | rfl | hj2
    · obtain rfl : j = 0 := by omega
      go_wp2_with fail
      have hfin : ms.reverse = diffV a b D := by rw [diffV, ← HM.out, backV, List.append_nil]
      have HF := Lib.hid hfin; clear hfin
      rcases HO.out.2 with ⟨rfl, h0⟩ | ⟨g2, cap, cur, rfl, hb2, rest⟩
      · have hnil : ms = [] := List.eq_nil_of_length_eq_zero h0
        refine (reverse_nil _).mono ?_
        rintro e w2 ⟨⟨v, rfl⟩, rfl⟩
        go_wp2_with fail
        go_ret
        refine ⟨_, 0, rfl, ?_, ?_, HE.out.trans HE2.out⟩
        · rw [← HF.out, hnil]; exact World.ownsRow_nil _ _ _ _
        · rw [← HF.out, hnil]; simp
      · clear rest
        refine (reverse_any w1.heap.size g2 ms.length cap ms _ HO.out (by omega)).mono ?_
        rintro e w2 ⟨⟨v, rfl⟩, ho2, hB⟩
        have HO2 := Lib.hid ho2; have HB2 := Lib.hid hB; clear ho2 hB
        go_wp2_with fail
        go_ret
        refine ⟨_, ms.length, rfl, ?_, ?_, ?_⟩
        · rw [← HF.out]; exact own_base HO2.out HE.out.size
        · rw [← HF.out]; intro m hm; exact HW.out m (by simpa using hm)
        · exact Below.trans (HE.out.trans HE2.out) (Below.mono HB2.out (by have := HE.out.size; omega))
    · by_cases hx : 0 < x
      · have hback : backV a b 1 k x = [⟨0, -k, x⟩] := by rw [backV, if_pos hx]
        have HBK := Lib.hid hback; clear hback
        go_wp2_with (at_builtin; refine wpList_append_size rfl (.tmp 48) (.tmp 57) 52 rfl w1.heap.size 55 inf _ 3 24 underM I1.out I2.out I3.out I4.out rfl (by decide) _ ms.length (ms.flatMap Mt.cells) (some ⟨wr.heap.size, 0, none⟩) 1 1 (Mt.cells ⟨0, -k, x⟩) rfl (by simp [Act.eval]) rfl (by simp [Mt.cells, Value.oneCell']) (by simp only [maxLen]; omega) (by omega) (own_stab3 ((Ext.refl wr).alloc _) HO.out) (Cells.new wr _ (Mt.cells ⟨0, -k, x⟩) rfl) (by have := HE2.out.size; simp; omega) ?_; intro v2 w2 hown2 hg2)
        have HO2 := Lib.hid hown2; have HG2 := Lib.hid hg2; clear hown2 hg2
        go_wp2_with fail
        go_roundw
        case rel =>
          refine ⟨0, k, x, by omega, by go_num, rfl, rfl, by omega, by omega, by omega, by omega, ms ++ [⟨0, -k, x⟩], ?_, ?_, by simp; omega, ?_, ?_⟩
          · rw [← HM.out, HBK.out]; simp [backV]
          · intro m hm
            rcases List.mem_append.1 hm with hm | hm
            · exact HW.out m hm
            · obtain rfl := List.mem_singleton.1 hm
              exact mt_wf_small (by omega) (by omega) (by omega)
          · rw [List.flatMap_append, List.length_append]; simpa using HO2.out
          · exact (HE2.out.alloc _).own3 (own_stab3 ((Ext.refl wr).alloc _) HO.out) HG2.out
        case measure => simp [intOf]
      · have hx0 : x = 0 := by omega
        have hback : backV a b 1 k x = [] := by rw [backV, if_neg hx]
        have hx' : decide (0 < x) = false := by simpa using hx
        have HBK := Lib.hid hback; have HX0 := Lib.hid hx0; clear hback hx0
        go_wp2_with fail
        go_roundw
        case rel =>
          refine ⟨0, k, x, by omega, by go_num, rfl, rfl, by omega, by omega, by omega, by omega, ms, ?_, HW.out, by omega, HO.out, HE2.out⟩
          rw [← HM.out, HBK.out]; simp [backV]
        case measure => simp [intOf]
    · obtain ⟨d, rfl⟩ : ∃ d, j = d + 2 := ⟨j - 2, by omega⟩
      obtain ⟨bt, off, s, hA, hbt, hs, hrs, hcw⟩ := HR.out.get (k := d) (by omega)
      cases hA
      rw [Nat.zero_add] at hcw
      have hst : s.t = tabV a b d := by
        have h1 : (L.map (·.t))[d]? = some s.t := by rw [List.getElem?_map, hs]; rfl
        rw [HT.out, tabsV, List.getElem?_map, List.getElem?_range (by omega)] at h1
        simpa using h1.symm
      have hsn : s.n = d + 1 := by rw [← hrs.2.1, hst, tabV_len]
      obtain ⟨sa, sn, sc, stt⟩ := s
      simp only at hst hsn hrs hcw
      subst hst hsn
      have hc := HE2.out.cell hcw
      have hint : Ints w1 sa (d + 1) (tabV a b d) := hrs.2
      have HI := Lib.hid hint; have HCW := Lib.hid hcw; clear hint hrs hs hcw
      have HTS := Lib.hid (tabV_small a b d (by omega) (by omega))
      obtain ⟨s1, s2, hs⟩ : ∃ s1 s2, stepV (tabV a b d) k = (s1, s2) := ⟨_, _, rfl⟩
      have hsb := stepV_bound (hi := (a.length : Int) + d) (tabV_bound a b d) (by omega) k
      have hsd := stepV_diag (tabV a b d) k
      rw [hs] at hsb hsd
      obtain ⟨hs1, hs2⟩ := hsb
      simp only at hs1 hs2 hsd
      have hsd1 : s2 ≤ k + 1 := by omega
      have hsd2 : k - 1 ≤ s2 := by omega
      have hback : backV a b (d + 2) k x = (if s1 < x then [⟨s1, s1 - k, x - s1⟩] else []) ++ backV a b (d + 1) s2 ((atV (tabV a b d) s2).getD 0) := by rw [backV, hs]
      obtain ⟨x', hx'⟩ : ∃ x', (atV (tabV a b d) s2).getD 0 = x' := ⟨_, rfl⟩
      have hxb := atV_tab (a := a) (b := b) (d := d) s2
      rw [hx'] at hxb hback
      obtain ⟨hxb1, hxb2⟩ := hxb
      have HST := Lib.hid hs; have HBK := Lib.hid hback; have HX' := Lib.hid hx'; clear hs hback hx' hsd
      have e1 : ((d + 2 : Nat) : Int) - 1 = (d : Int) + 1 := by omega
      rw [e1]; clear e1
      have hd0 : (0 : Int) < (d : Int) + 1 := by omega
      have e2 : (d : Int) + 1 - 1 = d := by omega
      by_cases hx : s1 < x
      · rw [if_pos hx] at HBK
        go_wp2_with fail
        refine (step_is HST.out (HI.out.ext HE2.out) (by omega) (by omega) (by omega) HTS.out).mono ?_
        rintro e W5 ⟨rfl, rfl⟩
        go_wp2_with (at_builtin; refine wpList_append_size rfl (.tmp 48) (.tmp 57) 52 rfl w1.heap.size 55 inf _ 3 24 underM I1.out I2.out I3.out I4.out rfl (by decide) _ ms.length (ms.flatMap Mt.cells) (some ⟨wr.heap.size, 0, none⟩) 1 1 (Mt.cells ⟨s1, s1 - k, x - s1⟩) rfl (by simp [Act.eval]) rfl (by simp [Mt.cells, Value.oneCell']) (by simp only [maxLen]; omega) (by omega) (own_stab3 ((Ext.refl wr).alloc _) HO.out) (Cells.new wr _ (Mt.cells ⟨s1, s1 - k, x - s1⟩) rfl) (by have := HE2.out.size; simp; omega) ?_; intro v2 w2 hown2 hg2; have hE3 := (HE2.out.alloc _).own3 (own_stab3 ((Ext.refl wr).alloc _) HO.out) hg2; have hc2 := hE3.cell HCW.out; have HO2 := Lib.hid hown2; have HE3 := Lib.hid hE3; clear hown2 hg2 hE3 hc)
        refine (at_getD (HI.out.ext HE3.out) (by omega) (by omega) (by omega)).mono ?_
        rintro e W6 ⟨ok, rfl, rfl⟩
        rw [HX'.out]
        go_wp2_with fail
        go_roundw
        case rel =>
          refine ⟨d + 1, s2, x', by omega, by go_num, rfl, rfl, by omega, by omega, by omega, by omega, ms ++ [⟨s1, s1 - k, x - s1⟩], ?_, ?_, by simp; omega, ?_, HE3.out⟩
          · rw [← HM.out, HBK.out]; simp
          · intro m hm
            rcases List.mem_append.1 hm with hm | hm
            · exact HW.out m hm
            · obtain rfl := List.mem_singleton.1 hm
              exact mt_wf_small (by omega) (by omega) (by omega)
          · rw [List.flatMap_append, List.length_append]; simpa using HO2.out
        case measure => simp [intOf]; omega
      · rw [if_neg hx] at HBK
        have hxf : decide (s1 < x) = false := by simpa using hx
        go_wp2_with fail
        refine (step_is HST.out (HI.out.ext HE2.out) (by omega) (by omega) (by omega) HTS.out).mono ?_
        rintro e W5 ⟨rfl, rfl⟩
        go_wp2_with fail
        refine (at_getD (HI.out.ext HE2.out) (by omega) (by omega) (by omega)).mono ?_
        rintro e W6 ⟨ok, rfl, rfl⟩
        rw [HX'.out]
        go_wp2_with fail
        go_roundw
        case rel =>
          refine ⟨d + 1, s2, x', by omega, by go_num, rfl, rfl, by omega, by omega, by omega, by omega, ms, ?_, HW.out, by omega, HO.out, HE2.out⟩
          rw [← HM.out, HBK.out]; simp
        case measure => simp [intOf]; omega
end Go.Proofs.Ytmmppfopokbcfaa

/- Contract: the parser's state behind a bracket. -/
import Derived.Test.YtmmppfopokbcfaaTkOuts
namespace Go.Proofs.Ytmmppfopokbcfaa
open Go.RowKit

theorem suffix_one (l : Bs) (c : UInt8) : Lib.hasSuffix l [c] = decide (l.getLast? = some c) := by
  unfold Lib.hasSuffix
  rw [Bool.eq_iff_iff, List.isSuffixOf_iff_suffix, decide_eq_true_eq]
  constructor
  · rintro ⟨k, rfl⟩; simp
  · intro h
    have hne : l ≠ [] := by rintro rfl; cases h
    refine ⟨l.dropLast, ?_⟩
    have := List.dropLast_concat_getLast hne
    rw [List.getLast?_eq_some_getLast hne] at h
    rw [← Option.some.inj h]; exact this
theorem trim_one {l : Bs} {c : UInt8} (h : l.getLast? = some c) : Lib.trimSuffix l [c] = l.dropLast := by
  have hs : Lib.hasSuffix l [c] = true := by rw [suffix_one]; simpa using h
  unfold Lib.trimSuffix
  rw [if_pos hs, List.dropLast_eq_take]; rfl
theorem prefix_one (l : Bs) (c : UInt8) : Lib.hasPrefix l [c] = decide (l.head? = some c) := by
  unfold Lib.hasPrefix
  rw [Bool.eq_iff_iff, List.isPrefixOf_iff_prefix, decide_eq_true_eq]
  cases l with
  | nil => simp
  | cons d r => simp [eq_comm]
theorem trimp_one {l : Bs} {c : UInt8} (h : l.head? = some c) : Lib.trimPrefix l [c] = l.drop 1 := by
  have hs : Lib.hasPrefix l [c] = true := by rw [prefix_one]; simpa using h
  unfold Lib.trimPrefix
  rw [if_pos hs]; rfl
/-- The end of a piece in brackets is there. -/
def closeB (k : Int) (u v : Bs) : Prop := u.getLast? = some (endc k) ∧ v.head? = some (closec k)
theorem cuts_is {l : Bs} {s p : ByteArray} {c : UInt8} {w : World} (hs : s.data.toList = l) (hp : p.data.toList = [c]) (hl : s.size ≤ 100000) :
    Calls Try.prog 83 #[.string s, .string p] w fun e w' => e = .returned (.tuple #[.string (mkS (Lib.trimSuffix l [c])), .bool (decide (l.getLast? = some c))]) ∧ w' = w := by
  subst hs
  refine (sh_strings_CutSuffix s p w (by omega)).mono ?_
  rintro e w' ⟨rfl, rfl⟩
  rw [hp, suffix_one]
  exact ⟨rfl, rfl⟩
theorem cutp_is {l : Bs} {s p : ByteArray} {c : UInt8} {w : World} (hs : s.data.toList = l) (hp : p.data.toList = [c]) :
    Calls Try.prog 84 #[.string s, .string p] w fun e w' => e = .returned (.tuple #[.string (mkS (Lib.trimPrefix l [c])), .bool (decide (l.head? = some c))]) ∧ w' = w := by
  subst hs
  refine (sh_strings_CutPrefix s p w).mono ?_
  rintro e w' ⟨rfl, rfl⟩
  rw [hp, prefix_one]
  exact ⟨rfl, rfl⟩
theorem brack1 {w : World} : Calls Try.prog 49 #[.int .i64 1] w fun e w' => e = .returned (.tuple #[.string ⟨#[91, 45]⟩, .string ⟨#[45, 93]⟩]) ∧ w' = w := brackets_is
theorem brack2 {w : World} : Calls Try.prog 49 #[.int .i64 2] w fun e w' => e = .returned (.tuple #[.string ⟨#[123, 43]⟩, .string ⟨#[43, 125]⟩]) ∧ w' = w := brackets_is

set_option maxRecDepth 100000 in
set_option maxHeartbeats 8000000 in
theorem inside1_any (g base kb pb : Nat) (s : ByteArray) (L : List Pc) (w : World) (hP : PSt g base s L w) (hX : Boxes g kb pb 1 w) (hbg : base ≤ g) (hs : s.size ≤ 80000) (h2 : 2 ≤ s.size) (hL : L.length ≤ 90000) (u v : Bs) (hu : textL (s.data.toList.drop 2) = (u, v)) :
    Calls Try.prog 82 #[.pointer (some ⟨kb, 0, none⟩), .pointer (some ⟨pb, 0, none⟩)] w fun e w' => Below base w w' ∧
      ((closeB 1 u v ∧ e = .returned (.tuple #[outV g, .bool true]) ∧ PSt g base (mkS (v.drop 1)) (L ++ [⟨1, mkS u.dropLast⟩]) w') ∨
       (¬ closeB 1 u v ∧ e = .returned (.tuple #[.nilFunc, .bool false]))) := by
  obtain ⟨inf, i1, i2, i3, i4⟩ := info_of infoPc
  have I1 := Lib.hid i1; have I2 := Lib.hid i2; have I3 := Lib.hid i3; have I4 := Lib.hid i4; clear i1 i2 i3 i4
  have hle := (textL_le (s.data.toList.drop 2)).2
  rw [hu, List.length_drop, ← size_len] at hle
  dsimp only at hle
  obtain ⟨v0, hb, ho⟩ := hP
  obtain ⟨hkb, hpb, hkg, hpg⟩ := hX
  have ck := hkb.cell 0
  replace ck : w.cell? ⟨kb, 0, none⟩ = some (.int .i64 1) := ck
  have cp := hpb.cell 0
  replace cp : w.cell? ⟨pb, 0, none⟩ = some (.pointer (some ⟨g, 0, none⟩)) := cp
  have c0 := hb.cell 0
  replace c0 : w.cell? ⟨g, 0, none⟩ = some (.string s) := c0
  have f0 := two_free (j := 0) hb
  have hgw := hb.lt
  have HB := Lib.hid hb; have HO := Lib.hid ho; have HKB := Lib.hid hkb; have HPB := Lib.hid hpb; have HKG := Lib.hid hkg; have HPG := Lib.hid hpg; have HU := Lib.hid hu; clear hb ho hkb hpb hkg hpg hu
  go_enter Try.func82, Try.ntmps82
  go_wp2_with fail
  refine brack1.mono ?_
  rintro e w0' ⟨rfl, rfl⟩
  go_wp2_with fail
  go_region
  have hE1 : ∀ x : World, Ext x x.drew := fun x => (Ext.refl x).drew
  have hB1 := (two_set0 (u := .string (s.extract 2 s.size)) HB.out).ext (hE1 _)
  have hO1 := own_stab3 (hE1 _) (ownsRow_setCell_other (a := ⟨g, 0, none⟩) HO.out (own_far HO.out HB.out (by decide)) (.string (s.extract 2 s.size)))
  have hK1 := (HKB.out.far2 HKG.out 0 (.string (s.extract 2 s.size))).ext (hE1 _)
  have hP1 := (HPB.out.far2 HPG.out 0 (.string (s.extract 2 s.size))).ext (hE1 _)
  have hL1 : Below base w0' (w0'.setCell ⟨g, 0, none⟩ (.string (s.extract 2 s.size))).drew := Below.drew (Below.setCell (Below.refl base w0') (p := ⟨g, 0, none⟩) hbg _)
  obtain ⟨W1, hW1⟩ : ∃ W1, (w0'.setCell ⟨g, 0, none⟩ (.string (s.extract 2 s.size))).drew = W1 := ⟨_, rfl⟩
  rw [hW1] at hB1 hO1 hK1 hP1 hL1 ⊢
  clear hW1 c0 f0 ck cp hgw hE1
  have hgw := hB1.lt
  have cp := hP1.cell 0
  replace cp : W1.cell? ⟨pb, 0, none⟩ = some (.pointer (some ⟨g, 0, none⟩)) := cp
  have HB1 := Lib.hid hB1; have HO1 := Lib.hid hO1; have HK1 := Lib.hid hK1; have HP1 := Lib.hid hP1; have HL1 := Lib.hid hL1; clear hB1 hO1 hK1 hP1 hL1
  go_wp2_with fail
  refine (text_any g base (s.extract 2 s.size) L W1 ⟨_, HB1.out, HO1.out⟩ hbg (by rw [ext_size _ _ _ (Nat.le_refl _)]; omega)).mono ?_
  rintro e W2 ⟨rfl, ⟨v1, hb, ho⟩, hF⟩
  rw [bytes_drop, HU.out] at hb
  rw [bytes_drop, HU.out]
  dsimp only at hb ⊢
  have hk2 := hF.blk HK1.out HKG.out (by decide)
  have hp2 := hF.blk HP1.out HPG.out (by decide)
  have HB2 := Lib.hid hb; have HO2 := Lib.hid ho; have HK2 := Lib.hid hk2; have HP2 := Lib.hid hp2; have HL2 := Lib.hid (Below.trans HL1.out hF.1); clear hb ho hk2 hp2 hF cp hgw
  have hgw := HB2.out.lt
  have hlu : (mkS u).size ≤ 100000 := by rw [mkS_size]; omega
  have cp := HP2.out.cell 0
  replace cp : W2.cell? ⟨pb, 0, none⟩ = some (.pointer (some ⟨g, 0, none⟩)) := cp
  have c0 := HB2.out.cell 0
  replace c0 : W2.cell? ⟨g, 0, none⟩ = some (.string (mkS v)) := c0
  by_cases hc1 : u.getLast? = some (45 : UInt8)
  · by_cases hc2 : v.head? = some (93 : UInt8)
    · skip
      have hq1 : decide (u.getLast? = some (45 : UInt8)) = true := by simpa using hc1
      have hq2 : decide (v.head? = some (93 : UInt8)) = true := by simpa using hc2
      have HYC := Lib.hid (show closeB 1 u v from ⟨hc1, hc2⟩)
      obtain ⟨vt, hvt⟩ : ∃ vt, v.drop 1 = vt := ⟨_, rfl⟩
      obtain ⟨ut, hut⟩ : ∃ ut, u.dropLast = ut := ⟨_, rfl⟩
      have HTR := Lib.hid ((trim_one hc1).trans hut); have HTP := Lib.hid ((trimp_one hc2).trans hvt); have HVT := Lib.hid hvt; have HUT := Lib.hid hut
      clear hc1 hc2 hvt hut
      go_wp2_with fail
      refine (cuts_is (l := u) (c := 45) rfl rfl hlu).mono ?_
      rintro e W2' ⟨rfl, rfl⟩
      rw [hq1]
      go_wp2_with fail
      go_quiet ((go_at_call 84; exact Calls.quiet_of_same (cutp_is (l := v) (c := 93) rfl rfl)))
      rw [HTP.out, HTR.out]
      have hB3 := HB2.out.ext ((Ext.refl W2').drewN nq)
      have hO3 := own_stab3 ((Ext.refl W2').drewN nq) HO2.out
      have hK3 := HK2.out.ext ((Ext.refl W2').drewN nq)
      have hP3 := HP2.out.ext ((Ext.refl W2').drewN nq)
      have hL3 : Below base w0' (W2'.drewN nq) := Below.trans HL2.out (Go.Joins.below_draws _ _ _)
      obtain ⟨W3, hW3⟩ : ∃ W3, W2'.drewN nq = W3 := ⟨_, rfl⟩
      rw [hW3] at hB3 hO3 hK3 hP3 hL3 ⊢
      clear hW3 cp c0 hgw
      have hgw := hB3.lt
      have cp := hP3.cell 0
      replace cp : W3.cell? ⟨pb, 0, none⟩ = some (.pointer (some ⟨g, 0, none⟩)) := cp
      have c0 := hB3.cell 0
      replace c0 : W3.cell? ⟨g, 0, none⟩ = some (.string (mkS v)) := c0
      have f0 := two_free (j := 0) hB3
      have hB4 := two_set0 (u := .string (mkS vt)) hB3
      have hO4 := ownsRow_setCell_other (a := ⟨g, 0, none⟩) hO3 (own_far hO3 hB3 (by decide)) (.string (mkS vt))
      have hK4 := hK3.far2 HKG.out 0 (.string (mkS vt))
      have hP4 := hP3.far2 HPG.out 0 (.string (mkS vt))
      have hL4 : Below base w0' (W3.setCell ⟨g, 0, none⟩ (.string (mkS vt))) := Below.setCell hL3 (p := ⟨g, 0, none⟩) hbg _
      have HB4 := Lib.hid hB4; have HO4 := Lib.hid hO4; have HK4 := Lib.hid hK4; have HP4 := Lib.hid hP4; have HL4 := Lib.hid hL4; clear hB3 hO3 hK3 hP3 hL3 hB4 hO4 hK4 hP4 hL4
      go_wp2_with fail
      obtain ⟨W4, hW4⟩ : ∃ W4, W3.setCell ⟨g, 0, none⟩ (.string (mkS vt)) = W4 := ⟨_, rfl⟩
      rw [hW4] at HB4 HO4 HK4 HP4 HL4 ⊢
      clear hW4 cp c0 f0 hgw
      have hgw := HB4.out.lt
      have hc4 := HB4.out.cell 1
      replace hc4 : W4.cell? ⟨g, 1, none⟩ = some v1 := hc4
      have HC := Lib.hid hc4; clear hc4
      have hvg : v1.ownBlock ≠ some g := own_far HO4.out HB4.out (by decide)
      have hvk : v1.ownBlock ≠ some kb := own_far HO4.out HK4.out (by decide)
      have hvp : v1.ownBlock ≠ some pb := own_far HO4.out HP4.out (by decide)
      have HVG := Lib.hid hvg; have HVK := Lib.hid hvk; have HVP := Lib.hid hvp; clear hvg hvk hvp
      obtain ⟨T, hT⟩ : ∃ T : World → Prop, T = fun wx => wx.cell? ⟨pb, 0, none⟩ = some (.pointer (some ⟨g, 0, none⟩)) ∧ wx.cell? ⟨kb, 0, none⟩ = some (.int .i64 1) := ⟨_, rfl⟩
      have hTof : ∀ wx, Blk wx kb (.cells #[.int .i64 1] 3 (0, 0)) → Blk wx pb (.cells #[.pointer (some ⟨g, 0, none⟩)] 82 (0, 0)) → T wx := fun wx h1 h2 => by rw [hT]; exact ⟨h2.cell 0, h1.cell 0⟩
      have HTO := Lib.hid hTof; clear hTof
      refine wp_region_X (T := T) (fun wx => Ext W4 wx) (by kernel_rfl) (Ext.refl W4).drew (wpX_takes (by kernel_rfl) (fun _ d _ _ _ h => by cases d <;> exact h) (Stab.ext _) (fun wx h => HTO.out wx (HK4.out.ext h) (HP4.out.ext h)) (fuel := 6) [0, 1, 2, 3, 5, 6, 7] _ _ (by kernel_rfl) ?_)
      iterate 7
        refine wpTk_want rfl (Eq.refl true) ?_
        apply Exists.intro
        refine ⟨fun wx hx => ?_, ?_⟩
        · rw [hT] at hx
          obtain ⟨d0, d1⟩ := hx
          go_simp
          with_reducible exact gives_ok _ _ _
        simp only [Act.put, List.setIfInBounds_toArray, List.set_cons_zero, List.set_cons_succ]
      refine wpTk_nil ?_
      refine wpX_two 4 8 (by kernel_rfl) rfl rfl rfl rfl (fun wx hx K hK => ?_) (fun wx hx K hK => ?_)
      · have hc := hx.cell HC.out
        go_simp
        refine hK _ _ ⟨fun wz => Ext W4 wz, Stab.ext _, (fun wz h => HTO.out wz (HK4.out.ext h) (HP4.out.ext h)), hx, ?_⟩
        clear hK K hc hx wx
        refine wpX_one 8 (by kernel_rfl) rfl rfl (fun wx hx K hK => ?_)
        go_simp
        refine hK _ _ ⟨fun wz => Ext W4 wz ∧ Blk wz wx.heap.size (Pc.obj ⟨1, mkS ut⟩), (Stab.ext _).and (Stab.blk _ _), (fun wz h => HTO.out wz (HK4.out.ext h.1) (HP4.out.ext h.1)), ⟨hx.alloc _, Blk.new wx _ rfl⟩, ?_⟩
        obtain ⟨g0, hg0⟩ : ∃ g0, g0 = wx.heap.size := ⟨_, rfl⟩
        rw [← hg0]
        clear hK K hx hg0 wx
        refine wpX_append_size 9 (by kernel_rfl) rfl rfl (.tmp 58) (.tmp 62) 25 rfl base 30 inf _ 2 24 underPc I1.out I2.out I3.out I4.out rfl (by decide) v1 L.length (L.flatMap Pc.cells) (some ⟨g0, 0, none⟩) 1 1 (Pc.cells ⟨1, mkS ut⟩) rfl rfl rfl (by simp [Pc.cells, Value.oneCell']) (by simp only [maxLen]; omega) (by omega)
          (fun wx hx => ⟨own_stab3 hx.1 HO4.out, .inr ⟨_, 0, rfl, fun j u hu => by rw [hx.2.cell]; simpa [Pc.cells] using hu⟩, Nat.le_trans (by omega) hx.1.size⟩) (fun wx hx v2 wy hown hg => ?_)
        obtain ⟨A2, c2, rfl⟩ := own_shape hown
        have hst : ∀ j o, Blk W4 j o → v1.ownBlock ≠ some j → Blk wy j o := fun j o h1 h2 => by
          show wy.heap[j]? = _
          rw [hg.block j (Nat.lt_of_lt_of_le h1.lt hx.1.size) (fun e => h2 e.symm)]
          exact h1.ext hx.1
        refine ⟨fun wz => Lv (fun j => j = g ∨ v1.ownBlock = some j) W4 wz ∧ wz.ownsRow base 30 2 (.slice A2 (L.length + 1) c2) (L.length + 1) (L.flatMap Pc.cells ++ Pc.cells ⟨1, mkS ut⟩) ∧ Blk wz g (.cells #[.string (mkS vt), v1] 84 (0, 0)) ∧ Blk wz kb (.cells #[.int .i64 1] 3 (0, 0)) ∧ Blk wz pb (.cells #[.pointer (some ⟨g, 0, none⟩)] 82 (0, 0)),
          fun _ _ e h => ⟨h.1.ext e, own_stab3 e h.2.1, h.2.2.1.ext e, h.2.2.2.1.ext e, h.2.2.2.2.ext e⟩, (fun wz h => HTO.out wz h.2.2.2.1 h.2.2.2.2), ⟨(Lv.of_ext hx.1).grown hg (fun k hk _ => .inr hk), hown, hst _ _ HB4.out HVG.out, hst _ _ HK4.out HVK.out, hst _ _ HP4.out HVP.out⟩, ?_⟩
        clear hx hown hg hst wx wy
        refine wpX_one 10 (by kernel_rfl) rfl rfl (fun wx hx K hK => ?_)
        go_simp
        refine hK _ _ ⟨fun wz => Lv (fun j => j = g ∨ v1.ownBlock = some j) W4 wz ∧ wz.ownsRow base 30 2 (.slice A2 (L.length + 1) c2) (L.length + 1) (L.flatMap Pc.cells ++ Pc.cells ⟨1, mkS ut⟩) ∧ Blk wz g (.cells #[.string (mkS vt), v1] 84 (0, 0)) ∧ Blk wz kb (.cells #[.int .i64 1] 3 (0, 0)) ∧ Blk wz pb (.cells #[.pointer (some ⟨g, 0, none⟩)] 82 (0, 0)),
          fun _ _ e h => ⟨h.1.ext e, own_stab3 e h.2.1, h.2.2.1.ext e, h.2.2.2.1.ext e, h.2.2.2.2.ext e⟩, (fun wz h => HTO.out wz h.2.2.2.1 h.2.2.2.2), hx, ?_⟩
        clear hK K hx wx
        refine wpX_one 11 (by kernel_rfl) rfl rfl (fun wx hx K hK => ?_)
        go_simp
        refine hK _ _ ⟨fun wz => Lv (fun j => j = g ∨ v1.ownBlock = some j) W4 wz ∧ wz.ownsRow base 30 2 (.slice A2 (L.length + 1) c2) (L.length + 1) (L.flatMap Pc.cells ++ Pc.cells ⟨1, mkS ut⟩) ∧ Blk wz g (.cells #[.string (mkS vt), v1] 84 (0, 0)) ∧ Blk wz kb (.cells #[.int .i64 1] 3 (0, 0)) ∧ Blk wz pb (.cells #[.pointer (some ⟨g, 0, none⟩)] 82 (0, 0)),
          fun _ _ e h => ⟨h.1.ext e, own_stab3 e h.2.1, h.2.2.1.ext e, h.2.2.2.1.ext e, h.2.2.2.2.ext e⟩, (fun wz h => HTO.out wz h.2.2.2.1 h.2.2.2.2), hx, ?_⟩
        clear hK K hx wx
        refine wpX_one 12 (by kernel_rfl) rfl rfl (fun wx hx K hK => ?_)
        obtain ⟨hx1, hx2, hx3, hx4, hx5⟩ := hx
        have hc := hx3.cell 1
        replace hc : wx.cell? ⟨g, 1, none⟩ = some v1 := hc
        have hf := two_free (j := 1) hx3
        have HX := Lib.hid hx1; have HX2 := Lib.hid hx2; have HX3 := Lib.hid hx3; have HX4 := Lib.hid hx4; have HX5 := Lib.hid hx5; clear hx1 hx2 hx3 hx4 hx5
        go_simp
        refine hK _ _ ⟨fun wz => Lv (fun j => j = g ∨ v1.ownBlock = some j) W4 wz ∧ wz.ownsRow base 30 2 (.slice A2 (L.length + 1) c2) (L.length + 1) (L.flatMap Pc.cells ++ Pc.cells ⟨1, mkS ut⟩) ∧ Blk wz g (.cells #[.string (mkS vt), .slice A2 (L.length + 1) c2] 84 (0, 0)) ∧ Blk wz kb (.cells #[.int .i64 1] 3 (0, 0)) ∧ Blk wz pb (.cells #[.pointer (some ⟨g, 0, none⟩)] 82 (0, 0)),
          fun _ _ e h => ⟨h.1.ext e, own_stab3 e h.2.1, h.2.2.1.ext e, h.2.2.2.1.ext e, h.2.2.2.2.ext e⟩, (fun wz h => HTO.out wz h.2.2.2.1 h.2.2.2.2), ⟨HX.out.setCell (fun _ => .inl rfl) _, ownsRow_setCell_other HX2.out (own_far HX2.out HX3.out (by decide)) _, two_set1 HX3.out, HX4.out.far2 HKG.out 1 _, HX5.out.far2 HPG.out 1 _⟩, ?_⟩
        clear hK K hc hf HX HX2 HX3 HX4 HX5 wx
        refine wpX_done (by kernel_rfl) (fun wx hx => ?_) _
        obtain ⟨hx1, hx2, hx3, hx4, hx5⟩ := hx
        have cp := hx5.cell 0
        replace cp : wx.cell? ⟨pb, 0, none⟩ = some (.pointer (some ⟨g, 0, none⟩)) := cp
        have HX := Lib.hid hx1; have HX2 := Lib.hid hx2; have HX3 := Lib.hid hx3; clear hx1 hx2 hx3 hx4 hx5
        go_wp2_with fail
        go_ret2
        refine ⟨Below.trans HL4.out (outK_of hbg HO4.out HX.out (by omega)).1, .inl ⟨HYC.out, rfl, _, by rw [HVT.out]; exact HX3.out, ?_⟩⟩
        rw [HUT.out]
        rw [List.length_append, List.flatMap_append]
        simpa using HX2.out
      · skip
        go_simp
        refine hK _ _ ⟨fun wz => Ext W4 wz ∧ Blk wz wx.heap.size (Pc.obj ⟨1, mkS ut⟩), (Stab.ext _).and (Stab.blk _ _), (fun wz h => HTO.out wz (HK4.out.ext h.1) (HP4.out.ext h.1)), ⟨hx.alloc _, Blk.new wx _ rfl⟩, ?_⟩
        obtain ⟨g0, hg0⟩ : ∃ g0, g0 = wx.heap.size := ⟨_, rfl⟩
        rw [← hg0]
        clear hK K hx hg0 wx
        refine wpX_one 4 (by kernel_rfl) rfl rfl (fun wx hx K hK => ?_)
        have hc := hx.1.cell HC.out
        go_simp
        refine hK _ _ ⟨fun wz => Ext W4 wz ∧ Blk wz g0 (Pc.obj ⟨1, mkS ut⟩), (Stab.ext _).and (Stab.blk _ _), (fun wz h => HTO.out wz (HK4.out.ext h.1) (HP4.out.ext h.1)), hx, ?_⟩
        clear hK K hc hx wx
        refine wpX_append_size 9 (by kernel_rfl) rfl rfl (.tmp 58) (.tmp 62) 25 rfl base 30 inf _ 2 24 underPc I1.out I2.out I3.out I4.out rfl (by decide) v1 L.length (L.flatMap Pc.cells) (some ⟨g0, 0, none⟩) 1 1 (Pc.cells ⟨1, mkS ut⟩) rfl rfl rfl (by simp [Pc.cells, Value.oneCell']) (by simp only [maxLen]; omega) (by omega)
          (fun wx hx => ⟨own_stab3 hx.1 HO4.out, .inr ⟨_, 0, rfl, fun j u hu => by rw [hx.2.cell]; simpa [Pc.cells] using hu⟩, Nat.le_trans (by omega) hx.1.size⟩) (fun wx hx v2 wy hown hg => ?_)
        obtain ⟨A2, c2, rfl⟩ := own_shape hown
        have hst : ∀ j o, Blk W4 j o → v1.ownBlock ≠ some j → Blk wy j o := fun j o h1 h2 => by
          show wy.heap[j]? = _
          rw [hg.block j (Nat.lt_of_lt_of_le h1.lt hx.1.size) (fun e => h2 e.symm)]
          exact h1.ext hx.1
        refine ⟨fun wz => Lv (fun j => j = g ∨ v1.ownBlock = some j) W4 wz ∧ wz.ownsRow base 30 2 (.slice A2 (L.length + 1) c2) (L.length + 1) (L.flatMap Pc.cells ++ Pc.cells ⟨1, mkS ut⟩) ∧ Blk wz g (.cells #[.string (mkS vt), v1] 84 (0, 0)) ∧ Blk wz kb (.cells #[.int .i64 1] 3 (0, 0)) ∧ Blk wz pb (.cells #[.pointer (some ⟨g, 0, none⟩)] 82 (0, 0)),
          fun _ _ e h => ⟨h.1.ext e, own_stab3 e h.2.1, h.2.2.1.ext e, h.2.2.2.1.ext e, h.2.2.2.2.ext e⟩, (fun wz h => HTO.out wz h.2.2.2.1 h.2.2.2.2), ⟨(Lv.of_ext hx.1).grown hg (fun k hk _ => .inr hk), hown, hst _ _ HB4.out HVG.out, hst _ _ HK4.out HVK.out, hst _ _ HP4.out HVP.out⟩, ?_⟩
        clear hx hown hg hst wx wy
        refine wpX_one 10 (by kernel_rfl) rfl rfl (fun wx hx K hK => ?_)
        go_simp
        refine hK _ _ ⟨fun wz => Lv (fun j => j = g ∨ v1.ownBlock = some j) W4 wz ∧ wz.ownsRow base 30 2 (.slice A2 (L.length + 1) c2) (L.length + 1) (L.flatMap Pc.cells ++ Pc.cells ⟨1, mkS ut⟩) ∧ Blk wz g (.cells #[.string (mkS vt), v1] 84 (0, 0)) ∧ Blk wz kb (.cells #[.int .i64 1] 3 (0, 0)) ∧ Blk wz pb (.cells #[.pointer (some ⟨g, 0, none⟩)] 82 (0, 0)),
          fun _ _ e h => ⟨h.1.ext e, own_stab3 e h.2.1, h.2.2.1.ext e, h.2.2.2.1.ext e, h.2.2.2.2.ext e⟩, (fun wz h => HTO.out wz h.2.2.2.1 h.2.2.2.2), hx, ?_⟩
        clear hK K hx wx
        refine wpX_one 11 (by kernel_rfl) rfl rfl (fun wx hx K hK => ?_)
        go_simp
        refine hK _ _ ⟨fun wz => Lv (fun j => j = g ∨ v1.ownBlock = some j) W4 wz ∧ wz.ownsRow base 30 2 (.slice A2 (L.length + 1) c2) (L.length + 1) (L.flatMap Pc.cells ++ Pc.cells ⟨1, mkS ut⟩) ∧ Blk wz g (.cells #[.string (mkS vt), v1] 84 (0, 0)) ∧ Blk wz kb (.cells #[.int .i64 1] 3 (0, 0)) ∧ Blk wz pb (.cells #[.pointer (some ⟨g, 0, none⟩)] 82 (0, 0)),
          fun _ _ e h => ⟨h.1.ext e, own_stab3 e h.2.1, h.2.2.1.ext e, h.2.2.2.1.ext e, h.2.2.2.2.ext e⟩, (fun wz h => HTO.out wz h.2.2.2.1 h.2.2.2.2), hx, ?_⟩
        clear hK K hx wx
        refine wpX_one 12 (by kernel_rfl) rfl rfl (fun wx hx K hK => ?_)
        obtain ⟨hx1, hx2, hx3, hx4, hx5⟩ := hx
        have hc := hx3.cell 1
        replace hc : wx.cell? ⟨g, 1, none⟩ = some v1 := hc
        have hf := two_free (j := 1) hx3
        have HX := Lib.hid hx1; have HX2 := Lib.hid hx2; have HX3 := Lib.hid hx3; have HX4 := Lib.hid hx4; have HX5 := Lib.hid hx5; clear hx1 hx2 hx3 hx4 hx5
        go_simp
        refine hK _ _ ⟨fun wz => Lv (fun j => j = g ∨ v1.ownBlock = some j) W4 wz ∧ wz.ownsRow base 30 2 (.slice A2 (L.length + 1) c2) (L.length + 1) (L.flatMap Pc.cells ++ Pc.cells ⟨1, mkS ut⟩) ∧ Blk wz g (.cells #[.string (mkS vt), .slice A2 (L.length + 1) c2] 84 (0, 0)) ∧ Blk wz kb (.cells #[.int .i64 1] 3 (0, 0)) ∧ Blk wz pb (.cells #[.pointer (some ⟨g, 0, none⟩)] 82 (0, 0)),
          fun _ _ e h => ⟨h.1.ext e, own_stab3 e h.2.1, h.2.2.1.ext e, h.2.2.2.1.ext e, h.2.2.2.2.ext e⟩, (fun wz h => HTO.out wz h.2.2.2.1 h.2.2.2.2), ⟨HX.out.setCell (fun _ => .inl rfl) _, ownsRow_setCell_other HX2.out (own_far HX2.out HX3.out (by decide)) _, two_set1 HX3.out, HX4.out.far2 HKG.out 1 _, HX5.out.far2 HPG.out 1 _⟩, ?_⟩
        clear hK K hc hf HX HX2 HX3 HX4 HX5 wx
        refine wpX_done (by kernel_rfl) (fun wx hx => ?_) _
        obtain ⟨hx1, hx2, hx3, hx4, hx5⟩ := hx
        have cp := hx5.cell 0
        replace cp : wx.cell? ⟨pb, 0, none⟩ = some (.pointer (some ⟨g, 0, none⟩)) := cp
        have HX := Lib.hid hx1; have HX2 := Lib.hid hx2; have HX3 := Lib.hid hx3; clear hx1 hx2 hx3 hx4 hx5
        go_wp2_with fail
        go_ret2
        refine ⟨Below.trans HL4.out (outK_of hbg HO4.out HX.out (by omega)).1, .inl ⟨HYC.out, rfl, _, by rw [HVT.out]; exact HX3.out, ?_⟩⟩
        rw [HUT.out]
        rw [List.length_append, List.flatMap_append]
        simpa using HX2.out
    · skip
      have hq1 : decide (u.getLast? = some (45 : UInt8)) = true := by simpa using hc1
      have hq2 : decide (v.head? = some (93 : UInt8)) = false := by simpa using hc2
      have HNC := Lib.hid (show ¬ closeB 1 u v from fun h => hc2 h.2)
      clear hc1 hc2
      go_wp2_with fail
      refine (cuts_is (l := u) (c := 45) rfl rfl hlu).mono ?_
      rintro e W2' ⟨rfl, rfl⟩
      rw [hq1]
      go_wp2_with fail
      go_quiet ((go_at_call 84; exact Calls.quiet_of_same (cutp_is (l := v) (c := 93) rfl rfl)))
      go_wp2_with fail
      go_ret2
      exact ⟨Below.trans HL2.out (Go.Joins.below_draws _ _ _), .inr ⟨HNC.out, rfl⟩⟩
  · skip
    have hq1 : decide (u.getLast? = some (45 : UInt8)) = false := by simpa using hc1
    have HNC := Lib.hid (show ¬ closeB 1 u v from fun h => hc1 h.1)
    clear hc1
    go_wp2_with fail
    refine (cuts_is (l := u) (c := 45) rfl rfl hlu).mono ?_
    rintro e W2' ⟨rfl, rfl⟩
    rw [hq1]
    go_wp2_with fail
    go_quiet ((go_at_call 84; exact Calls.quiet_of_same (cutp_is (l := v) (c := 93) rfl rfl)))
    go_wp2_with fail
    go_ret2
    exact ⟨Below.trans HL2.out (Go.Joins.below_draws _ _ _), .inr ⟨HNC.out, rfl⟩⟩

set_option maxRecDepth 100000 in
set_option maxHeartbeats 8000000 in
theorem inside2_any (g base kb pb : Nat) (s : ByteArray) (L : List Pc) (w : World) (hP : PSt g base s L w) (hX : Boxes g kb pb 2 w) (hbg : base ≤ g) (hs : s.size ≤ 80000) (h2 : 2 ≤ s.size) (hL : L.length ≤ 90000) (u v : Bs) (hu : textL (s.data.toList.drop 2) = (u, v)) :
    Calls Try.prog 82 #[.pointer (some ⟨kb, 0, none⟩), .pointer (some ⟨pb, 0, none⟩)] w fun e w' => Below base w w' ∧
      ((closeB 2 u v ∧ e = .returned (.tuple #[outV g, .bool true]) ∧ PSt g base (mkS (v.drop 1)) (L ++ [⟨2, mkS u.dropLast⟩]) w') ∨
       (¬ closeB 2 u v ∧ e = .returned (.tuple #[.nilFunc, .bool false]))) := by
  obtain ⟨inf, i1, i2, i3, i4⟩ := info_of infoPc
  have I1 := Lib.hid i1; have I2 := Lib.hid i2; have I3 := Lib.hid i3; have I4 := Lib.hid i4; clear i1 i2 i3 i4
  have hle := (textL_le (s.data.toList.drop 2)).2
  rw [hu, List.length_drop, ← size_len] at hle
  dsimp only at hle
  obtain ⟨v0, hb, ho⟩ := hP
  obtain ⟨hkb, hpb, hkg, hpg⟩ := hX
  have ck := hkb.cell 0
  replace ck : w.cell? ⟨kb, 0, none⟩ = some (.int .i64 2) := ck
  have cp := hpb.cell 0
  replace cp : w.cell? ⟨pb, 0, none⟩ = some (.pointer (some ⟨g, 0, none⟩)) := cp
  have c0 := hb.cell 0
  replace c0 : w.cell? ⟨g, 0, none⟩ = some (.string s) := c0
  have f0 := two_free (j := 0) hb
  have hgw := hb.lt
  have HB := Lib.hid hb; have HO := Lib.hid ho; have HKB := Lib.hid hkb; have HPB := Lib.hid hpb; have HKG := Lib.hid hkg; have HPG := Lib.hid hpg; have HU := Lib.hid hu; clear hb ho hkb hpb hkg hpg hu
  go_enter Try.func82, Try.ntmps82
  go_wp2_with fail
  refine brack2.mono ?_
  rintro e w0' ⟨rfl, rfl⟩
  go_wp2_with fail
  go_region
  have hE1 : ∀ x : World, Ext x x.drew := fun x => (Ext.refl x).drew
  have hB1 := (two_set0 (u := .string (s.extract 2 s.size)) HB.out).ext (hE1 _)
  have hO1 := own_stab3 (hE1 _) (ownsRow_setCell_other (a := ⟨g, 0, none⟩) HO.out (own_far HO.out HB.out (by decide)) (.string (s.extract 2 s.size)))
  have hK1 := (HKB.out.far2 HKG.out 0 (.string (s.extract 2 s.size))).ext (hE1 _)
  have hP1 := (HPB.out.far2 HPG.out 0 (.string (s.extract 2 s.size))).ext (hE1 _)
  have hL1 : Below base w0' (w0'.setCell ⟨g, 0, none⟩ (.string (s.extract 2 s.size))).drew := Below.drew (Below.setCell (Below.refl base w0') (p := ⟨g, 0, none⟩) hbg _)
  obtain ⟨W1, hW1⟩ : ∃ W1, (w0'.setCell ⟨g, 0, none⟩ (.string (s.extract 2 s.size))).drew = W1 := ⟨_, rfl⟩
  rw [hW1] at hB1 hO1 hK1 hP1 hL1 ⊢
  clear hW1 c0 f0 ck cp hgw hE1
  have hgw := hB1.lt
  have cp := hP1.cell 0
  replace cp : W1.cell? ⟨pb, 0, none⟩ = some (.pointer (some ⟨g, 0, none⟩)) := cp
  have HB1 := Lib.hid hB1; have HO1 := Lib.hid hO1; have HK1 := Lib.hid hK1; have HP1 := Lib.hid hP1; have HL1 := Lib.hid hL1; clear hB1 hO1 hK1 hP1 hL1
  go_wp2_with fail
  refine (text_any g base (s.extract 2 s.size) L W1 ⟨_, HB1.out, HO1.out⟩ hbg (by rw [ext_size _ _ _ (Nat.le_refl _)]; omega)).mono ?_
  rintro e W2 ⟨rfl, ⟨v1, hb, ho⟩, hF⟩
  rw [bytes_drop, HU.out] at hb
  rw [bytes_drop, HU.out]
  dsimp only at hb ⊢
  have hk2 := hF.blk HK1.out HKG.out (by decide)
  have hp2 := hF.blk HP1.out HPG.out (by decide)
  have HB2 := Lib.hid hb; have HO2 := Lib.hid ho; have HK2 := Lib.hid hk2; have HP2 := Lib.hid hp2; have HL2 := Lib.hid (Below.trans HL1.out hF.1); clear hb ho hk2 hp2 hF cp hgw
  have hgw := HB2.out.lt
  have hlu : (mkS u).size ≤ 100000 := by rw [mkS_size]; omega
  have cp := HP2.out.cell 0
  replace cp : W2.cell? ⟨pb, 0, none⟩ = some (.pointer (some ⟨g, 0, none⟩)) := cp
  have c0 := HB2.out.cell 0
  replace c0 : W2.cell? ⟨g, 0, none⟩ = some (.string (mkS v)) := c0
  by_cases hc1 : u.getLast? = some (43 : UInt8)
  · by_cases hc2 : v.head? = some (125 : UInt8)
    · skip
      have hq1 : decide (u.getLast? = some (43 : UInt8)) = true := by simpa using hc1
      have hq2 : decide (v.head? = some (125 : UInt8)) = true := by simpa using hc2
      have HYC := Lib.hid (show closeB 2 u v from ⟨hc1, hc2⟩)
      obtain ⟨vt, hvt⟩ : ∃ vt, v.drop 1 = vt := ⟨_, rfl⟩
      obtain ⟨ut, hut⟩ : ∃ ut, u.dropLast = ut := ⟨_, rfl⟩
      have HTR := Lib.hid ((trim_one hc1).trans hut); have HTP := Lib.hid ((trimp_one hc2).trans hvt); have HVT := Lib.hid hvt; have HUT := Lib.hid hut
      clear hc1 hc2 hvt hut
      go_wp2_with fail
      refine (cuts_is (l := u) (c := 43) rfl rfl hlu).mono ?_
      rintro e W2' ⟨rfl, rfl⟩
      rw [hq1]
      go_wp2_with fail
      go_quiet ((go_at_call 84; exact Calls.quiet_of_same (cutp_is (l := v) (c := 125) rfl rfl)))
      rw [HTP.out, HTR.out]
      have hB3 := HB2.out.ext ((Ext.refl W2').drewN nq)
      have hO3 := own_stab3 ((Ext.refl W2').drewN nq) HO2.out
      have hK3 := HK2.out.ext ((Ext.refl W2').drewN nq)
      have hP3 := HP2.out.ext ((Ext.refl W2').drewN nq)
      have hL3 : Below base w0' (W2'.drewN nq) := Below.trans HL2.out (Go.Joins.below_draws _ _ _)
      obtain ⟨W3, hW3⟩ : ∃ W3, W2'.drewN nq = W3 := ⟨_, rfl⟩
      rw [hW3] at hB3 hO3 hK3 hP3 hL3 ⊢
      clear hW3 cp c0 hgw
      have hgw := hB3.lt
      have cp := hP3.cell 0
      replace cp : W3.cell? ⟨pb, 0, none⟩ = some (.pointer (some ⟨g, 0, none⟩)) := cp
      have c0 := hB3.cell 0
      replace c0 : W3.cell? ⟨g, 0, none⟩ = some (.string (mkS v)) := c0
      have f0 := two_free (j := 0) hB3
      have hB4 := two_set0 (u := .string (mkS vt)) hB3
      have hO4 := ownsRow_setCell_other (a := ⟨g, 0, none⟩) hO3 (own_far hO3 hB3 (by decide)) (.string (mkS vt))
      have hK4 := hK3.far2 HKG.out 0 (.string (mkS vt))
      have hP4 := hP3.far2 HPG.out 0 (.string (mkS vt))
      have hL4 : Below base w0' (W3.setCell ⟨g, 0, none⟩ (.string (mkS vt))) := Below.setCell hL3 (p := ⟨g, 0, none⟩) hbg _
      have HB4 := Lib.hid hB4; have HO4 := Lib.hid hO4; have HK4 := Lib.hid hK4; have HP4 := Lib.hid hP4; have HL4 := Lib.hid hL4; clear hB3 hO3 hK3 hP3 hL3 hB4 hO4 hK4 hP4 hL4
      go_wp2_with fail
      obtain ⟨W4, hW4⟩ : ∃ W4, W3.setCell ⟨g, 0, none⟩ (.string (mkS vt)) = W4 := ⟨_, rfl⟩
      rw [hW4] at HB4 HO4 HK4 HP4 HL4 ⊢
      clear hW4 cp c0 f0 hgw
      have hgw := HB4.out.lt
      have hc4 := HB4.out.cell 1
      replace hc4 : W4.cell? ⟨g, 1, none⟩ = some v1 := hc4
      have HC := Lib.hid hc4; clear hc4
      have hvg : v1.ownBlock ≠ some g := own_far HO4.out HB4.out (by decide)
      have hvk : v1.ownBlock ≠ some kb := own_far HO4.out HK4.out (by decide)
      have hvp : v1.ownBlock ≠ some pb := own_far HO4.out HP4.out (by decide)
      have HVG := Lib.hid hvg; have HVK := Lib.hid hvk; have HVP := Lib.hid hvp; clear hvg hvk hvp
      obtain ⟨T, hT⟩ : ∃ T : World → Prop, T = fun wx => wx.cell? ⟨pb, 0, none⟩ = some (.pointer (some ⟨g, 0, none⟩)) ∧ wx.cell? ⟨kb, 0, none⟩ = some (.int .i64 2) := ⟨_, rfl⟩
      have hTof : ∀ wx, Blk wx kb (.cells #[.int .i64 2] 3 (0, 0)) → Blk wx pb (.cells #[.pointer (some ⟨g, 0, none⟩)] 82 (0, 0)) → T wx := fun wx h1 h2 => by rw [hT]; exact ⟨h2.cell 0, h1.cell 0⟩
      have HTO := Lib.hid hTof; clear hTof
      refine wp_region_X (T := T) (fun wx => Ext W4 wx) (by kernel_rfl) (Ext.refl W4).drew (wpX_takes (by kernel_rfl) (fun _ d _ _ _ h => by cases d <;> exact h) (Stab.ext _) (fun wx h => HTO.out wx (HK4.out.ext h) (HP4.out.ext h)) (fuel := 6) [0, 1, 2, 3, 5, 6, 7] _ _ (by kernel_rfl) ?_)
      iterate 7
        refine wpTk_want rfl (Eq.refl true) ?_
        apply Exists.intro
        refine ⟨fun wx hx => ?_, ?_⟩
        · rw [hT] at hx
          obtain ⟨d0, d1⟩ := hx
          go_simp
          with_reducible exact gives_ok _ _ _
        simp only [Act.put, List.setIfInBounds_toArray, List.set_cons_zero, List.set_cons_succ]
      refine wpTk_nil ?_
      refine wpX_two 4 8 (by kernel_rfl) rfl rfl rfl rfl (fun wx hx K hK => ?_) (fun wx hx K hK => ?_)
      · have hc := hx.cell HC.out
        go_simp
        refine hK _ _ ⟨fun wz => Ext W4 wz, Stab.ext _, (fun wz h => HTO.out wz (HK4.out.ext h) (HP4.out.ext h)), hx, ?_⟩
        clear hK K hc hx wx
        refine wpX_one 8 (by kernel_rfl) rfl rfl (fun wx hx K hK => ?_)
        go_simp
        refine hK _ _ ⟨fun wz => Ext W4 wz ∧ Blk wz wx.heap.size (Pc.obj ⟨2, mkS ut⟩), (Stab.ext _).and (Stab.blk _ _), (fun wz h => HTO.out wz (HK4.out.ext h.1) (HP4.out.ext h.1)), ⟨hx.alloc _, Blk.new wx _ rfl⟩, ?_⟩
        obtain ⟨g0, hg0⟩ : ∃ g0, g0 = wx.heap.size := ⟨_, rfl⟩
        rw [← hg0]
        clear hK K hx hg0 wx
        refine wpX_append_size 9 (by kernel_rfl) rfl rfl (.tmp 58) (.tmp 62) 25 rfl base 30 inf _ 2 24 underPc I1.out I2.out I3.out I4.out rfl (by decide) v1 L.length (L.flatMap Pc.cells) (some ⟨g0, 0, none⟩) 1 1 (Pc.cells ⟨2, mkS ut⟩) rfl rfl rfl (by simp [Pc.cells, Value.oneCell']) (by simp only [maxLen]; omega) (by omega)
          (fun wx hx => ⟨own_stab3 hx.1 HO4.out, .inr ⟨_, 0, rfl, fun j u hu => by rw [hx.2.cell]; simpa [Pc.cells] using hu⟩, Nat.le_trans (by omega) hx.1.size⟩) (fun wx hx v2 wy hown hg => ?_)
        obtain ⟨A2, c2, rfl⟩ := own_shape hown
        have hst : ∀ j o, Blk W4 j o → v1.ownBlock ≠ some j → Blk wy j o := fun j o h1 h2 => by
          show wy.heap[j]? = _
          rw [hg.block j (Nat.lt_of_lt_of_le h1.lt hx.1.size) (fun e => h2 e.symm)]
          exact h1.ext hx.1
        refine ⟨fun wz => Lv (fun j => j = g ∨ v1.ownBlock = some j) W4 wz ∧ wz.ownsRow base 30 2 (.slice A2 (L.length + 1) c2) (L.length + 1) (L.flatMap Pc.cells ++ Pc.cells ⟨2, mkS ut⟩) ∧ Blk wz g (.cells #[.string (mkS vt), v1] 84 (0, 0)) ∧ Blk wz kb (.cells #[.int .i64 2] 3 (0, 0)) ∧ Blk wz pb (.cells #[.pointer (some ⟨g, 0, none⟩)] 82 (0, 0)),
          fun _ _ e h => ⟨h.1.ext e, own_stab3 e h.2.1, h.2.2.1.ext e, h.2.2.2.1.ext e, h.2.2.2.2.ext e⟩, (fun wz h => HTO.out wz h.2.2.2.1 h.2.2.2.2), ⟨(Lv.of_ext hx.1).grown hg (fun k hk _ => .inr hk), hown, hst _ _ HB4.out HVG.out, hst _ _ HK4.out HVK.out, hst _ _ HP4.out HVP.out⟩, ?_⟩
        clear hx hown hg hst wx wy
        refine wpX_one 10 (by kernel_rfl) rfl rfl (fun wx hx K hK => ?_)
        go_simp
        refine hK _ _ ⟨fun wz => Lv (fun j => j = g ∨ v1.ownBlock = some j) W4 wz ∧ wz.ownsRow base 30 2 (.slice A2 (L.length + 1) c2) (L.length + 1) (L.flatMap Pc.cells ++ Pc.cells ⟨2, mkS ut⟩) ∧ Blk wz g (.cells #[.string (mkS vt), v1] 84 (0, 0)) ∧ Blk wz kb (.cells #[.int .i64 2] 3 (0, 0)) ∧ Blk wz pb (.cells #[.pointer (some ⟨g, 0, none⟩)] 82 (0, 0)),
          fun _ _ e h => ⟨h.1.ext e, own_stab3 e h.2.1, h.2.2.1.ext e, h.2.2.2.1.ext e, h.2.2.2.2.ext e⟩, (fun wz h => HTO.out wz h.2.2.2.1 h.2.2.2.2), hx, ?_⟩
        clear hK K hx wx
        refine wpX_one 11 (by kernel_rfl) rfl rfl (fun wx hx K hK => ?_)
        go_simp
        refine hK _ _ ⟨fun wz => Lv (fun j => j = g ∨ v1.ownBlock = some j) W4 wz ∧ wz.ownsRow base 30 2 (.slice A2 (L.length + 1) c2) (L.length + 1) (L.flatMap Pc.cells ++ Pc.cells ⟨2, mkS ut⟩) ∧ Blk wz g (.cells #[.string (mkS vt), v1] 84 (0, 0)) ∧ Blk wz kb (.cells #[.int .i64 2] 3 (0, 0)) ∧ Blk wz pb (.cells #[.pointer (some ⟨g, 0, none⟩)] 82 (0, 0)),
          fun _ _ e h => ⟨h.1.ext e, own_stab3 e h.2.1, h.2.2.1.ext e, h.2.2.2.1.ext e, h.2.2.2.2.ext e⟩, (fun wz h => HTO.out wz h.2.2.2.1 h.2.2.2.2), hx, ?_⟩
        clear hK K hx wx
        refine wpX_one 12 (by kernel_rfl) rfl rfl (fun wx hx K hK => ?_)
        obtain ⟨hx1, hx2, hx3, hx4, hx5⟩ := hx
        have hc := hx3.cell 1
        replace hc : wx.cell? ⟨g, 1, none⟩ = some v1 := hc
        have hf := two_free (j := 1) hx3
        have HX := Lib.hid hx1; have HX2 := Lib.hid hx2; have HX3 := Lib.hid hx3; have HX4 := Lib.hid hx4; have HX5 := Lib.hid hx5; clear hx1 hx2 hx3 hx4 hx5
        go_simp
        refine hK _ _ ⟨fun wz => Lv (fun j => j = g ∨ v1.ownBlock = some j) W4 wz ∧ wz.ownsRow base 30 2 (.slice A2 (L.length + 1) c2) (L.length + 1) (L.flatMap Pc.cells ++ Pc.cells ⟨2, mkS ut⟩) ∧ Blk wz g (.cells #[.string (mkS vt), .slice A2 (L.length + 1) c2] 84 (0, 0)) ∧ Blk wz kb (.cells #[.int .i64 2] 3 (0, 0)) ∧ Blk wz pb (.cells #[.pointer (some ⟨g, 0, none⟩)] 82 (0, 0)),
          fun _ _ e h => ⟨h.1.ext e, own_stab3 e h.2.1, h.2.2.1.ext e, h.2.2.2.1.ext e, h.2.2.2.2.ext e⟩, (fun wz h => HTO.out wz h.2.2.2.1 h.2.2.2.2), ⟨HX.out.setCell (fun _ => .inl rfl) _, ownsRow_setCell_other HX2.out (own_far HX2.out HX3.out (by decide)) _, two_set1 HX3.out, HX4.out.far2 HKG.out 1 _, HX5.out.far2 HPG.out 1 _⟩, ?_⟩
        clear hK K hc hf HX HX2 HX3 HX4 HX5 wx
        refine wpX_done (by kernel_rfl) (fun wx hx => ?_) _
        obtain ⟨hx1, hx2, hx3, hx4, hx5⟩ := hx
        have cp := hx5.cell 0
        replace cp : wx.cell? ⟨pb, 0, none⟩ = some (.pointer (some ⟨g, 0, none⟩)) := cp
        have HX := Lib.hid hx1; have HX2 := Lib.hid hx2; have HX3 := Lib.hid hx3; clear hx1 hx2 hx3 hx4 hx5
        go_wp2_with fail
        go_ret2
        refine ⟨Below.trans HL4.out (outK_of hbg HO4.out HX.out (by omega)).1, .inl ⟨HYC.out, rfl, _, by rw [HVT.out]; exact HX3.out, ?_⟩⟩
        rw [HUT.out]
        rw [List.length_append, List.flatMap_append]
        simpa using HX2.out
      · skip
        go_simp
        refine hK _ _ ⟨fun wz => Ext W4 wz ∧ Blk wz wx.heap.size (Pc.obj ⟨2, mkS ut⟩), (Stab.ext _).and (Stab.blk _ _), (fun wz h => HTO.out wz (HK4.out.ext h.1) (HP4.out.ext h.1)), ⟨hx.alloc _, Blk.new wx _ rfl⟩, ?_⟩
        obtain ⟨g0, hg0⟩ : ∃ g0, g0 = wx.heap.size := ⟨_, rfl⟩
        rw [← hg0]
        clear hK K hx hg0 wx
        refine wpX_one 4 (by kernel_rfl) rfl rfl (fun wx hx K hK => ?_)
        have hc := hx.1.cell HC.out
        go_simp
        refine hK _ _ ⟨fun wz => Ext W4 wz ∧ Blk wz g0 (Pc.obj ⟨2, mkS ut⟩), (Stab.ext _).and (Stab.blk _ _), (fun wz h => HTO.out wz (HK4.out.ext h.1) (HP4.out.ext h.1)), hx, ?_⟩
        clear hK K hc hx wx
        refine wpX_append_size 9 (by kernel_rfl) rfl rfl (.tmp 58) (.tmp 62) 25 rfl base 30 inf _ 2 24 underPc I1.out I2.out I3.out I4.out rfl (by decide) v1 L.length (L.flatMap Pc.cells) (some ⟨g0, 0, none⟩) 1 1 (Pc.cells ⟨2, mkS ut⟩) rfl rfl rfl (by simp [Pc.cells, Value.oneCell']) (by simp only [maxLen]; omega) (by omega)
          (fun wx hx => ⟨own_stab3 hx.1 HO4.out, .inr ⟨_, 0, rfl, fun j u hu => by rw [hx.2.cell]; simpa [Pc.cells] using hu⟩, Nat.le_trans (by omega) hx.1.size⟩) (fun wx hx v2 wy hown hg => ?_)
        obtain ⟨A2, c2, rfl⟩ := own_shape hown
        have hst : ∀ j o, Blk W4 j o → v1.ownBlock ≠ some j → Blk wy j o := fun j o h1 h2 => by
          show wy.heap[j]? = _
          rw [hg.block j (Nat.lt_of_lt_of_le h1.lt hx.1.size) (fun e => h2 e.symm)]
          exact h1.ext hx.1
        refine ⟨fun wz => Lv (fun j => j = g ∨ v1.ownBlock = some j) W4 wz ∧ wz.ownsRow base 30 2 (.slice A2 (L.length + 1) c2) (L.length + 1) (L.flatMap Pc.cells ++ Pc.cells ⟨2, mkS ut⟩) ∧ Blk wz g (.cells #[.string (mkS vt), v1] 84 (0, 0)) ∧ Blk wz kb (.cells #[.int .i64 2] 3 (0, 0)) ∧ Blk wz pb (.cells #[.pointer (some ⟨g, 0, none⟩)] 82 (0, 0)),
          fun _ _ e h => ⟨h.1.ext e, own_stab3 e h.2.1, h.2.2.1.ext e, h.2.2.2.1.ext e, h.2.2.2.2.ext e⟩, (fun wz h => HTO.out wz h.2.2.2.1 h.2.2.2.2), ⟨(Lv.of_ext hx.1).grown hg (fun k hk _ => .inr hk), hown, hst _ _ HB4.out HVG.out, hst _ _ HK4.out HVK.out, hst _ _ HP4.out HVP.out⟩, ?_⟩
        clear hx hown hg hst wx wy
        refine wpX_one 10 (by kernel_rfl) rfl rfl (fun wx hx K hK => ?_)
        go_simp
        refine hK _ _ ⟨fun wz => Lv (fun j => j = g ∨ v1.ownBlock = some j) W4 wz ∧ wz.ownsRow base 30 2 (.slice A2 (L.length + 1) c2) (L.length + 1) (L.flatMap Pc.cells ++ Pc.cells ⟨2, mkS ut⟩) ∧ Blk wz g (.cells #[.string (mkS vt), v1] 84 (0, 0)) ∧ Blk wz kb (.cells #[.int .i64 2] 3 (0, 0)) ∧ Blk wz pb (.cells #[.pointer (some ⟨g, 0, none⟩)] 82 (0, 0)),
          fun _ _ e h => ⟨h.1.ext e, own_stab3 e h.2.1, h.2.2.1.ext e, h.2.2.2.1.ext e, h.2.2.2.2.ext e⟩, (fun wz h => HTO.out wz h.2.2.2.1 h.2.2.2.2), hx, ?_⟩
        clear hK K hx wx
        refine wpX_one 11 (by kernel_rfl) rfl rfl (fun wx hx K hK => ?_)
        go_simp
        refine hK _ _ ⟨fun wz => Lv (fun j => j = g ∨ v1.ownBlock = some j) W4 wz ∧ wz.ownsRow base 30 2 (.slice A2 (L.length + 1) c2) (L.length + 1) (L.flatMap Pc.cells ++ Pc.cells ⟨2, mkS ut⟩) ∧ Blk wz g (.cells #[.string (mkS vt), v1] 84 (0, 0)) ∧ Blk wz kb (.cells #[.int .i64 2] 3 (0, 0)) ∧ Blk wz pb (.cells #[.pointer (some ⟨g, 0, none⟩)] 82 (0, 0)),
          fun _ _ e h => ⟨h.1.ext e, own_stab3 e h.2.1, h.2.2.1.ext e, h.2.2.2.1.ext e, h.2.2.2.2.ext e⟩, (fun wz h => HTO.out wz h.2.2.2.1 h.2.2.2.2), hx, ?_⟩
        clear hK K hx wx
        refine wpX_one 12 (by kernel_rfl) rfl rfl (fun wx hx K hK => ?_)
        obtain ⟨hx1, hx2, hx3, hx4, hx5⟩ := hx
        have hc := hx3.cell 1
        replace hc : wx.cell? ⟨g, 1, none⟩ = some v1 := hc
        have hf := two_free (j := 1) hx3
        have HX := Lib.hid hx1; have HX2 := Lib.hid hx2; have HX3 := Lib.hid hx3; have HX4 := Lib.hid hx4; have HX5 := Lib.hid hx5; clear hx1 hx2 hx3 hx4 hx5
        go_simp
        refine hK _ _ ⟨fun wz => Lv (fun j => j = g ∨ v1.ownBlock = some j) W4 wz ∧ wz.ownsRow base 30 2 (.slice A2 (L.length + 1) c2) (L.length + 1) (L.flatMap Pc.cells ++ Pc.cells ⟨2, mkS ut⟩) ∧ Blk wz g (.cells #[.string (mkS vt), .slice A2 (L.length + 1) c2] 84 (0, 0)) ∧ Blk wz kb (.cells #[.int .i64 2] 3 (0, 0)) ∧ Blk wz pb (.cells #[.pointer (some ⟨g, 0, none⟩)] 82 (0, 0)),
          fun _ _ e h => ⟨h.1.ext e, own_stab3 e h.2.1, h.2.2.1.ext e, h.2.2.2.1.ext e, h.2.2.2.2.ext e⟩, (fun wz h => HTO.out wz h.2.2.2.1 h.2.2.2.2), ⟨HX.out.setCell (fun _ => .inl rfl) _, ownsRow_setCell_other HX2.out (own_far HX2.out HX3.out (by decide)) _, two_set1 HX3.out, HX4.out.far2 HKG.out 1 _, HX5.out.far2 HPG.out 1 _⟩, ?_⟩
        clear hK K hc hf HX HX2 HX3 HX4 HX5 wx
        refine wpX_done (by kernel_rfl) (fun wx hx => ?_) _
        obtain ⟨hx1, hx2, hx3, hx4, hx5⟩ := hx
        have cp := hx5.cell 0
        replace cp : wx.cell? ⟨pb, 0, none⟩ = some (.pointer (some ⟨g, 0, none⟩)) := cp
        have HX := Lib.hid hx1; have HX2 := Lib.hid hx2; have HX3 := Lib.hid hx3; clear hx1 hx2 hx3 hx4 hx5
        go_wp2_with fail
        go_ret2
        refine ⟨Below.trans HL4.out (outK_of hbg HO4.out HX.out (by omega)).1, .inl ⟨HYC.out, rfl, _, by rw [HVT.out]; exact HX3.out, ?_⟩⟩
        rw [HUT.out]
        rw [List.length_append, List.flatMap_append]
        simpa using HX2.out
    · skip
      have hq1 : decide (u.getLast? = some (43 : UInt8)) = true := by simpa using hc1
      have hq2 : decide (v.head? = some (125 : UInt8)) = false := by simpa using hc2
      have HNC := Lib.hid (show ¬ closeB 2 u v from fun h => hc2 h.2)
      clear hc1 hc2
      go_wp2_with fail
      refine (cuts_is (l := u) (c := 43) rfl rfl hlu).mono ?_
      rintro e W2' ⟨rfl, rfl⟩
      rw [hq1]
      go_wp2_with fail
      go_quiet ((go_at_call 84; exact Calls.quiet_of_same (cutp_is (l := v) (c := 125) rfl rfl)))
      go_wp2_with fail
      go_ret2
      exact ⟨Below.trans HL2.out (Go.Joins.below_draws _ _ _), .inr ⟨HNC.out, rfl⟩⟩
  · skip
    have hq1 : decide (u.getLast? = some (43 : UInt8)) = false := by simpa using hc1
    have HNC := Lib.hid (show ¬ closeB 2 u v from fun h => hc1 h.1)
    clear hc1
    go_wp2_with fail
    refine (cuts_is (l := u) (c := 43) rfl rfl hlu).mono ?_
    rintro e W2' ⟨rfl, rfl⟩
    rw [hq1]
    go_wp2_with fail
    go_quiet ((go_at_call 84; exact Calls.quiet_of_same (cutp_is (l := v) (c := 125) rfl rfl)))
    go_wp2_with fail
    go_ret2
    exact ⟨Below.trans HL2.out (Go.Joins.below_draws _ _ _), .inr ⟨HNC.out, rfl⟩⟩

end Go.Proofs.Ytmmppfopokbcfaa

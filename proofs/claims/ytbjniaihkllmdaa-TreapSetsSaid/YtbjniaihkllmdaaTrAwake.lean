/- Contract: the law's awake. -/
import Derived.Test.YtbjniaihkllmdaaTrSameL
import Derived.Test.YtbjniaihkllmdaaTrOf
import Derived.StillTailTactics
namespace Go.Proofs.Ytbjniaihkllmdaa
open Go.RowKit

abbrev sA : ByteArray := { data := #[97] }
abbrev sB : ByteArray := { data := #[98] }
abbrev sC : ByteArray := { data := #[99] }
abbrev s1 : ByteArray := { data := #[49] }
abbrev s2 : ByteArray := { data := #[50] }
abbrev s3 : ByteArray := { data := #[51] }
abbrev lAB : List Pr := [⟨sA, s1⟩, ⟨sB, s2⟩, ⟨sC, s3⟩]
abbrev lCA : List Pr := [⟨sC, s3⟩, ⟨sA, s1⟩, ⟨sB, s2⟩]
abbrev lY : List Pr := [⟨sA, s2⟩, ⟨sB, s3⟩]
abbrev tT : BT := .node .leaf sA s1 (.node .leaf sB s2 (.node .leaf sC s3 .leaf))
abbrev tX : BT := .node .leaf sA s1 .leaf
abbrev tY : BT := .node .leaf sA s2 (.node .leaf sB s3 .leaf)
abbrev cXY : List Chg := [⟨sA, some s1, some s2⟩, ⟨sB, none, some s3⟩]
theorem of_AB : ofR lAB = (tT, 0) := by kernel_rfl
theorem of_CA : ofR lCA = (tT, 0) := by kernel_rfl
theorem of_Y : ofR lY = (tY, 0) := by kernel_rfl
theorem lg_X : lgB sA s1 = false := by kernel_rfl
theorem put_X : putV sA s1 .leaf = tX := by kernel_rfl
theorem chk_T : chkV tT = 0 := by kernel_rfl
theorem chk_X : chkV tX = 0 := by kernel_rfl
theorem chk_Y : chkV tY = 0 := by kernel_rfl
theorem k_AA : klt sA sA = false := by kernel_rfl
theorem n_12 : ¬ s1 = s2 := by decide
theorem diff_XY : diffV (prsV tX) (prsV tY) = cXY := by
  simp only [prsV, List.nil_append, List.append_nil, List.cons_append, diffV]
  rw [if_neg (by rw [k_AA]; simp), if_neg (by rw [k_AA]; simp), if_neg n_12]
  rfl
theorem same_T : sameB tT tT = true := by kernel_rfl
theorem wf_s (a b : UInt8) : Pr.wf ⟨⟨#[a]⟩, ⟨#[b]⟩⟩ := ⟨by show 1 ≤ Reach; decide, by show 1 ≤ Reach; decide⟩
theorem prs_new (w : World) (l : List Pr) (cs : Array Value) (h : l.flatMap Pr.cells = cs.toList) (hw : ∀ p ∈ l, p.wf) : Prs (w.alloc (.cells cs 34)) (some ⟨w.heap.size, 0, none⟩) l.length l := by
  refine ⟨rfl, hw, .inr ⟨w.heap.size, 0, rfl, fun j u hj => ?_⟩⟩
  rw [Nat.zero_add, (Blk.new w (.cells cs 34) rfl).cell j, ← Array.getElem?_toList, ← h]; exact hj
theorem chgs_new (w : World) (l : List Chg) (cs : Array Value) (h : l.flatMap Chg.cells = cs.toList) : Chgs (w.alloc (.cells cs 54)) (some ⟨w.heap.size, 0, none⟩) l.length l := by
  refine ⟨rfl, .inr ⟨w.heap.size, 0, rfl, fun j u hj => ?_⟩⟩
  rw [Nat.zero_add, (Blk.new w (.cells cs 54) rfl).cell j, ← Array.getElem?_toList, ← h]; exact hj

set_option maxRecDepth 100000
set_option maxHeartbeats 8000000
theorem awake_any (w : World) : Calls Try.prog 14 #[] w fun e w' => e = .returned (.bool true) ∧ Ext w w' := by
  have hp1 := prs_new w lAB #[.string sA, .string s1, .string sB, .string s2, .string sC, .string s3] rfl (by intro p hp; simp at hp; rcases hp with rfl | rfl | rfl <;> exact wf_s _ _)
  have hE1 : Ext w (w.alloc (.cells #[.string sA, .string s1, .string sB, .string s2, .string sC, .string s3] 34)) := (Ext.refl w).alloc _
  have hb1 := Blk.new w (.cells #[.string sA, .string s1, .string sB, .string s2, .string sC, .string s3] 34) rfl
  obtain ⟨g, hg⟩ : ∃ g, g = w.heap.size := ⟨_, rfl⟩
  rw [← hg] at hp1 hb1
  have HP1 := Lib.hid hp1; have HE1 := Lib.hid hE1; have HB1 := Lib.hid hb1; clear hp1 hE1 hb1
  go_enter Try.func14, Try.ntmps14
  go_wp2_with fail
  generalize hwa : w.alloc _ = wa
  rw [← hg]
  rw [hwa] at HP1 HE1 HB1
  clear hwa hg
  refine (Of_any HP1.out (by decide)).mono ?_
  rintro e w1 ⟨A1, n1, c1, rfl, hT, hE⟩
  rw [of_AB] at hT ⊢
  have HT := Lib.hid hT; have HE2 := Lib.hid (HE1.out.trans hE)
  have b0 := (HB1.out.ext hE).cell 0; have b1 := (HB1.out.ext hE).cell 1; have b2 := (HB1.out.ext hE).cell 2; have b3 := (HB1.out.ext hE).cell 3; have b4 := (HB1.out.ext hE).cell 4; have b5 := (HB1.out.ext hE).cell 5
  simp only [List.getElem?_toArray, List.getElem?_cons_zero, List.getElem?_cons_succ] at b0 b1 b2 b3 b4 b5
  clear hT hE
  go_wp2_with fail
  obtain ⟨T, hT'⟩ : ∃ T, T = (fun wx => Ext w1 wx) := ⟨_, rfl⟩
  have hTs : Stab T := by rw [hT']; exact Stab.ext _
  refine wp_region_X (T := T) T (by kernel_rfl) (by rw [hT']; exact (Ext.refl w1).drew) (wpX_takes (by kernel_rfl) (fun _ d _ _ _ h => by cases d <;> exact h) hTs (fun _ h => h) (fuel := 7) [0,1,2,3,4,5,6,7,8] _ _ (by kernel_rfl) ?_)
  iterate 9
    refine wpTk_want rfl (Eq.refl true) ?_
    apply Exists.intro
    refine ⟨fun wx hx => ?_, ?_⟩
    · rw [hT'] at hx
      have d0 := hx.cell b0; have d1 := hx.cell b1; have d2 := hx.cell b2; have d3 := hx.cell b3; have d4 := hx.cell b4; have d5 := hx.cell b5
      clear hx
      go_simp
      with_reducible exact gives_ok _ _ _
    simp only [Act.put, List.setIfInBounds_toArray, List.set_cons_zero, List.set_cons_succ]
  refine wpTk_nil ?_
  clear b0 b1 b2 b3 b4 b5
  refine wpX_one 9 (by kernel_rfl) rfl rfl (fun wx hx K hK => ?_)
  have hp2 := prs_new wx lCA #[.string sC, .string s3, .string sA, .string s1, .string sB, .string s2] rfl (by intro p hp; simp at hp; rcases hp with rfl | rfl | rfl <;> exact wf_s _ _)
  obtain ⟨g2, hg2⟩ : ∃ g, g = wx.heap.size := ⟨_, rfl⟩
  rw [← hg2] at hp2
  have hE9 : Ext wx (wx.alloc (.cells #[.string sC, .string s3, .string sA, .string s1, .string sB, .string s2] 34)) := (Ext.refl wx).alloc _
  go_simp
  rw [← hg2]
  refine hK _ _ ⟨fun wz => T wz ∧ Prs wz (some ⟨g2, 0, none⟩) 3 lCA, hTs.and (fun _ _ e h => Prs.ext h e), (fun _ h => h.1), ⟨hTs _ _ hE9 hx, hp2⟩, ?_⟩
  clear hK K hx hp2 hE9 hg2 wx
  refine wpX_one 10 (by kernel_rfl) rfl rfl (fun wx hx K hK => ?_)
  go_simp
  refine (Of_any (l := lCA) hx.2 (by decide)).mono ?_
  rintro e wy ⟨A2, n2, c2, rfl, hT2, hE⟩
  rw [of_CA] at hT2 ⊢
  refine hK _ _ ⟨fun wz => T wz ∧ BAt wz tT A2 n2, hTs.and (fun _ _ e h => MapAt.ext h e), (fun _ h => h.1), ⟨hTs _ _ hE hx.1, hT2⟩, ?_⟩
  clear hK K hx hE hT2 wx wy
  refine wpX_takes (by kernel_rfl) (fun _ d _ _ _ h => by cases d <;> exact h) (hTs.and (fun _ _ e h => MapAt.ext h e)) (fun _ h => h.1) (fuel := 0) [11,12,13,14,15] _ _ (by kernel_rfl) ?_
  iterate 5
    refine wpTk_want rfl (Eq.refl true) ?_
    apply Exists.intro
    refine ⟨fun wx hx => ?_, ?_⟩
    · clear hx
      go_simp
      with_reducible exact gives_ok _ _ _
    simp only [Act.put, List.setIfInBounds_toArray, List.set_cons_zero, List.set_cons_succ]
  refine wpTk_nil ?_
  refine wpX_done (by kernel_rfl) (fun wz hz => ?_) _
  have hz1 := hz.1
  rw [hT'] at hz1
  have HT1 := Lib.hid (MapAt.ext HT.out hz1); have HT2 := Lib.hid hz.2; have HE3 := Lib.hid (HE2.out.trans hz1); clear hz hz1 hT' hTs HT HE2
  go_wp2_with fail
  refine (Put_any (b := .leaf) (MapAt.nil wz none) (by decide) rfl (by show 1 ≤ Reach; decide) (by show 1 ≤ Reach; decide)).mono ?_
  rintro e w4 ⟨A3, n3, c3, rfl, hX, hE⟩
  rw [lg_X] at hX ⊢
  simp only [Bool.false_eq_true, if_false, put_X] at hX ⊢
  have HX := Lib.hid hX; have HT3 := Lib.hid (MapAt.ext HT1.out hE); have HT4 := Lib.hid (MapAt.ext HT2.out hE); have HE4 := Lib.hid (HE3.out.trans hE)
  clear hX hE HT1 HT2 HE3
  have hp3 := prs_new w4 lY #[.string sA, .string s2, .string sB, .string s3] rfl (by intro p hp; simp at hp; rcases hp with rfl | rfl <;> exact wf_s _ _)
  have hE5 : Ext w4 (w4.alloc (.cells #[.string sA, .string s2, .string sB, .string s3] 34)) := (Ext.refl w4).alloc _
  have HP3 := Lib.hid hp3; have HE5 := Lib.hid hE5; clear hp3 hE5
  go_wp2_with fail
  refine (Of_any (l := lY) HP3.out (by decide)).mono ?_
  rintro e w5 ⟨A4, n4, c4, rfl, hY, hE⟩
  rw [of_Y] at hY ⊢
  have hE5 := HE5.out.trans hE
  have HY := Lib.hid hY; have HX5 := Lib.hid (MapAt.ext HX.out hE5); have HT5 := Lib.hid (MapAt.ext HT3.out hE5); have HT6 := Lib.hid (MapAt.ext HT4.out hE5); have HE6 := Lib.hid (HE4.out.trans hE5)
  clear hY hE hE5 HP3 HE5 HX HT3 HT4 HE4
  go_wp2_with fail
  refine (diff_any HX5.out HY.out (by decide) (by decide) chk_X chk_Y).mono ?_
  rintro e w6 ⟨hE, v, rfl, ho⟩
  rw [diff_XY] at ho
  obtain ⟨A5, c5, rfl, -, hC⟩ := ownC_chgs ho
  have HC := Lib.hid hC; have HT7 := Lib.hid (MapAt.ext HT5.out hE); have HT8 := Lib.hid (MapAt.ext HT6.out hE); have HE7 := Lib.hid (HE6.out.trans hE)
  clear ho hC hE HX5 HT5 HT6 HE6 HY
  obtain rfl : n1 = 1 := by have := HT7.out.2.1; exact this.symm
  go_wp2_with fail
  refine (great_is (t := BT.mt tT) (r := false) (by decide) HT7.out).mono ?_
  rintro e w' ⟨rfl, rfl⟩
  go_wp2_with fail
  refine (rcheck_is (t := BT.mt tT) (x := 0) (by rw [chk_mt]; exact chk_T) HT7.out (by decide)).mono ?_
  rintro e w7 ⟨rfl, hE⟩
  have HC7 := Lib.hid (HC.out.ext hE); have HT9 := Lib.hid (MapAt.ext HT7.out hE); have HT10 := Lib.hid (MapAt.ext HT8.out hE); have HE8 := Lib.hid (HE7.out.trans hE)
  clear hE HC HT7 HT8 HE7
  go_wp2_with fail
  refine (great_is (t := BT.mt tT) (r := false) (by decide) HT10.out).mono ?_
  rintro e w' ⟨rfl, rfl⟩
  go_wp2_with fail
  refine (rsame_is same_T HT9.out HT10.out).mono ?_
  rintro e w8 ⟨rfl, hE⟩
  have hn := chgs_new w8 cXY #[.string sA, .bool true, .bool true, .string s1, .string s2, .string sB, .bool false, .bool true, .string nothing, .string s3] rfl
  have hE9 : Ext w8 (w8.alloc (.cells #[.string sA, .bool true, .bool true, .string s1, .string s2, .string sB, .bool false, .bool true, .string nothing, .string s3] 54)) := (Ext.refl w8).alloc _
  have HC8 := Lib.hid (HC7.out.ext (hE.trans hE9)); have HN := Lib.hid hn; have HE9 := Lib.hid ((HE8.out.trans hE).trans hE9)
  clear hE hn hE9 HC7 HE8 HT9 HT10
  go_wp2_with fail
  refine (rchanges_any (p := cXY) (q := cXY) HC8.out HN.out (by decide) (by decide)).mono ?_
  rintro e w9 ⟨rfl, hE⟩
  have HEF := Lib.hid (HE9.out.trans hE); clear hE
  go_wp2_with fail
  go_ret
  exact ⟨rfl, HEF.out⟩
end Go.Proofs.Ytbjniaihkllmdaa

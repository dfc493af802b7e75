/- top53Awake answers true. No condition. -/
import Derived.Test.YtmmcjcaccicheaaTfPoll
namespace Go.Proofs.Ytmmcjcaccicheaa
open Go.RowKit
abbrev seedB : Bs := [115, 101, 101, 100]
theorem verify_ok (sd m : Bs) (hm : m.length < 268435456) {k : Nat} (hk : k < 4) (vR vO vP : Value) (w : World) (hR : DgS w vR (signV sd k m).rev) (hO : DgS w vO (signV sd k m).oth) (hP : DgS w vP (signV sd k m).path) :
    Calls Try.prog 9 #[dv (rootV sd), .string (bst m), .agg (sgc k vR vO vP)] w fun e w' => e = .returned (.bool true) ∧ Ext w w' := by
  have h := verify_is (rootV sd) m rfl hm (signV sd k m) (sign_wf sd k m) (Int.natCast_nonneg _) (by show (k : Int) < 4; omega) vR vO vP w hR hO hP
  have e : verV m (signV sd k m) = rootV sd := sign_root sd hk m
  rw [e] at h
  refine Calls.mono (show Calls Try.prog 9 #[dv (rootV sd), .string (bst m), .agg (sgc k vR vO vP)] w _ from h) ?_
  rintro e w' ⟨rfl, he⟩
  exact ⟨by simp, he⟩
set_option maxRecDepth 100000 in
set_option maxHeartbeats 16000000 in
theorem awake_is (w : World) : Calls Try.prog 5 #[] w fun e w' => e = .returned (.bool true) ∧ Ext w w' := by
  go_enter Try.func5, Try.ntmps5
  go_wp2_with fail
  rw [show (⟨#[115, 101, 101, 100]⟩ : ByteArray) = bst seedB from bst_mk _, show (⟨#[97]⟩ : ByteArray) = bst [97] from bst_mk _]
  refine (lsign_is seedB (by decide) 1 (by decide) [97] (by decide) _).mono ?_
  rintro e w1 ⟨vR, vO, vP, rfl, hR, hO, hP, hE⟩
  obtain ⟨m, hm⟩ : ∃ m : Bs, m = [97] := ⟨_, rfl⟩
  have hv := fun (W : World) (e : Ext w1 W) => verify_ok seedB [97] (by decide) (k := 1) (by decide) vR vO vP W (hR.ext e) (hO.ext e) (hP.ext e)
  obtain ⟨gR, oR, cR, rfl, -⟩ := hR.at (by intro e; have := congrArg List.length e; rw [(sign_wf seedB 1 [97]).1] at this; cases this)
  obtain ⟨gO, oO, cO, rfl, -⟩ := hO.at (by intro e; have := congrArg List.length e; rw [(sign_wf seedB 1 [97]).2.1] at this; cases this)
  obtain ⟨gP, oP, cP, rfl, -⟩ := hP.at (by intro e; have := congrArg List.length e; rw [(sign_wf seedB 1 [97]).2.2.1] at this; cases this)
  rw [(sign_wf seedB 1 [97]).1, (sign_wf seedB 1 [97]).2.1, (sign_wf seedB 1 [97]).2.2.1] at hv
  rw [(sign_wf seedB 1 [97]).1, (sign_wf seedB 1 [97]).2.1, (sign_wf seedB 1 [97]).2.2.1]
  have HV := Lib.hid hv
  obtain ⟨k, hk⟩ : ∃ k : Int, ((1 : Nat) : Int) = k := ⟨_, rfl⟩
  rw [hk] at HV ⊢
  clear hR hO hP hv hm m hk
  obtain ⟨W2, hW2⟩ : ∃ W, w1.alloc (.cells (sgc k (.slice (some ⟨gR, oR, none⟩) 128 cR) (.slice (some ⟨gO, oO, none⟩) 128 cO) (.slice (some ⟨gP, oP, none⟩) 2 cP)) 25) = W := ⟨_, rfl⟩
  obtain ⟨g1, hg1⟩ : ∃ g, w1.heap.size = g := ⟨_, rfl⟩
  have b1 : Blk W2 g1 (.cells (sgc k (.slice (some ⟨gR, oR, none⟩) 128 cR) (.slice (some ⟨gO, oO, none⟩) 128 cO) (.slice (some ⟨gP, oP, none⟩) 2 cP)) 25 (0, 0)) := by rw [← hW2]; exact Blk.new _ _ hg1.symm
  have x1 : Ext w1 W2 := by rw [← hW2]; exact (Ext.refl w1).alloc _
  have B1 := Lib.hid b1; have X1 := Lib.hid x1; have E1 := Lib.hid (hE.trans x1)
  clear b1 x1 hE
  go_wp2_with fail
  refine (newsender_is _).mono ?_
  rintro e w3 ⟨rfl, hE3⟩
  obtain ⟨W4, hW4⟩ : ∃ W, w3.alloc (.cells (snd 0 1 zsg zsg) 45) = W := ⟨_, rfl⟩
  have HW4 := Lib.hid hW4
  obtain ⟨g3, hg3⟩ : ∃ g, w3.heap.size = g := ⟨_, rfl⟩
  have p4 : Blk W4 g3 (.cells (snd 0 1 zsg zsg) 45 (0, 0)) := by rw [← hW4]; exact Blk.new _ _ hg3.symm
  have x4 : Ext w3 W4 := by rw [← hW4]; exact (Ext.refl w3).alloc _
  have P4 := Lib.hid p4; have B4 := Lib.hid (B1.out.ext (hE3.trans x4)); have X4 := Lib.hid (X1.out.trans (hE3.trans x4)); have E4 := Lib.hid (E1.out.trans (hE3.trans x4))
  have hb3 : w.heap.size ≤ g3 := by rw [← hg3]; exact (E1.out.trans hE3).size
  have hb1 : g1 < g3 := by rw [← hg3]; exact (B1.out.ext hE3).lt
  have hw13 : w1.heap.size ≤ g3 := by rw [← hg3]; exact (X1.out.trans hE3).size
  clear p4 x4 hE3 B1 X1 E1 hW2 hg1
  clear hW4
  go_wp2_with fail
  have hW4' := HW4.out
  rw [hW4']
  rw [show (⟨#[120]⟩ : ByteArray) = bst [120] from bst_mk _]
  refine (offer_is [120] (by decide) _).mono ?_
  rintro e w5 ⟨gd, cd, gs, cs, rfl, hd, hs, hgd, hgs, hE5⟩
  have h34 := P4.out.lt
  clear hW4' hg3
  have p5 := P4.out.ext hE5
  have lv0 : ∀ (W : World) (i : Nat) (v : Value), Lv (fun n => n = g3) W (W.setCell ⟨g3, i, none⟩ v) := fun W i v => Lv.setCell (S := fun n => n = g3) (p := ⟨g3, i, none⟩) (Lv.refl _ W) (fun _ => rfl) _
  have f0 := p5.free 0; have d0 := p5.cell 0
  have b0 := p5.setCell 0 (.int .i64 0); have l0 := lv0 w5 0 (.int .i64 0)
  obtain ⟨V0, hV0⟩ : ∃ V, w5.setCell ⟨g3, 0, none⟩ (.int .i64 0) = V := ⟨_, rfl⟩
  rw [hV0] at b0 l0
  have f1 := b0.free 1; have d1 := b0.cell 1
  have b1 := b0.setCell 1 (.int .i64 1); have l1 := lv0 V0 1 (.int .i64 1)
  obtain ⟨V1, hV1⟩ : ∃ V, V0.setCell ⟨g3, 1, none⟩ (.int .i64 1) = V := ⟨_, rfl⟩
  rw [hV1] at b1 l1
  have f2 := b1.free 2; have d2 := b1.cell 2
  have b2 := b1.setCell 2 (.slice (some ⟨gd, 0, none⟩) 1 cd); have l2 := lv0 V1 2 (.slice (some ⟨gd, 0, none⟩) 1 cd)
  obtain ⟨V2, hV2⟩ : ∃ V, V1.setCell ⟨g3, 2, none⟩ (.slice (some ⟨gd, 0, none⟩) 1 cd) = V := ⟨_, rfl⟩
  rw [hV2] at b2 l2
  have f3 := b2.free 3; have d3 := b2.cell 3
  have b3 := b2.setCell 3 (.slice (some ⟨gs, 0, none⟩) 1 cs); have l3 := lv0 V2 3 (.slice (some ⟨gs, 0, none⟩) 1 cs)
  obtain ⟨V3, hV3⟩ : ∃ V, V2.setCell ⟨g3, 3, none⟩ (.slice (some ⟨gs, 0, none⟩) 1 cs) = V := ⟨_, rfl⟩
  rw [hV3] at b3 l3
  have hl := ((l0.trans l1 (fun _ _ h => h)).trans l2 (fun _ _ h => h)).trans l3 (fun _ _ h => h)
  have b3' : Blk V3 g3 (.cells (snd 0 1 (.slice (some ⟨gd, 0, none⟩) 1 cd) (.slice (some ⟨gs, 0, none⟩) 1 cs)) 45 (0, 0)) := b3
  have c0 := b3'.cell 0; have c1 := b3'.cell 1; have c2 := b3'.cell 2; have c3 := b3'.cell 3
  have hd3 : V3.cell? ⟨gd, 0, none⟩ = some (sv [120]) := by rw [hl.cell (g := gd) (cell_lt hd) (by omega)]; exact hd
  have hs3 : V3.cell? ⟨gs, 0, none⟩ = some (.int .i64 (-1)) := by rw [hl.cell (g := gs) (cell_lt hs) (by omega)]; exact hs
  have q1 := (B4.out.ext hE5).lv hl (by omega)
  have xq := hl.extBelow (X4.out.trans hE5) (fun g hg h => by omega)
  have eq := hl.extBelow (E4.out.trans hE5) (fun g hg h => by omega)
  have Q1 := Lib.hid q1; have XQ := Lib.hid xq; have EQ := Lib.hid eq; have HD3 := Lib.hid hd3; have HS3 := Lib.hid hs3
  clear hd3 hs3 q1 xq eq b0 b1 b2 b3 b3' l0 l1 l2 l3 lv0 hl p5 hE5 B4 X4 E4 P4 hd hs hgd hgs h34
  go_wp2_with fail
  refine (poll_is gd cd gs cs [120] (by decide) _ HD3.out HS3.out).mono ?_
  rintro e w6 ⟨gr, cr, pf, cf, rfl, hE6⟩
  have R1 := Lib.hid (Q1.out.ext hE6); have XR := Lib.hid (XQ.out.trans hE6); have ER := Lib.hid (EQ.out.trans hE6)
  clear f0 f1 f2 f3 d0 d1 d2 d3 c0 c1 c2 c3 hV0 hV1 hV2 hV3 HD3 HS3 Q1 XQ EQ hE6
  go_wp2_with fail
  have e7 := (Ext.refl w6).alloc (.cells (snd 0 1 (.slice (some ⟨gd, 0, none⟩) 1 cd) (.slice (some ⟨gr, 0, none⟩) 1 cr)) 45)
  obtain ⟨W7, hW7⟩ : ∃ W, w6.alloc (.cells (snd 0 1 (.slice (some ⟨gd, 0, none⟩) 1 cd) (.slice (some ⟨gr, 0, none⟩) 1 cr)) 45) = W := ⟨_, rfl⟩
  rw [hW7] at e7
  have hW7' : w6.alloc (.cells #[.int .i64 0, .int .i64 1, .slice (some ⟨gd, 0, none⟩) 1 cd, .slice (some ⟨gr, 0, none⟩) 1 cr] 45) = W7 := hW7
  rw [hW7']
  have S1 := Lib.hid (R1.out.ext e7); have XS := Lib.hid (XR.out.trans e7); have ES := Lib.hid (ER.out.trans e7)
  clear e7 hW7 hW7' R1 XR ER
  have hseed : (⟨#[115, 101, 101, 100]⟩ : ByteArray) = bst seedB := bst_mk _
  have ha : (⟨#[97]⟩ : ByteArray) = bst [97] := bst_mk _
  refine wp_region_text (fun W => Ext W7 W) [0, 1, 2, 3, 4, 5, 6, 7, 8, 9, 10, 11, 12, 13, 14, 15, 16, 17, 18, 19, 20, 21, 22, 23, 24, 25, 26, 27, 28, 29, 30] (by kernel_rfl) (Stab.ext _) (Ext.refl W7).drew (by kernel_rfl) (fun _ d _ _ _ h => by cases d <;> exact h) ?_
  iterate 31
    refine wpTk_want rfl (Eq.refl true) ?_
    apply Exists.intro
    refine ⟨fun wx hx => ?_, ?_⟩
    · have b1 := S1.out.ext hx
      have c0 := b1.cell 0; have c1 := b1.cell 1; have c2 := b1.cell 2; have c3 := b1.cell 3
      have hv := HV.out wx (XS.out.trans hx)
      clear b1 hx
      go_simp
      first | with_reducible exact gives_ok _ _ _ | exact gives_call _ _ _ (lpublic_is seedB (by decide) wx) | exact gives_call _ _ _ hv | exact gives_call _ _ _ (idle_is wx)
    simp only [Act.put, List.setIfInBounds_toArray, List.set_cons_zero, List.set_cons_succ]
  refine wpTk_nil ?_
  intro w8 hE8
  go_wp2_with fail
  go_ret
  exact ⟨rfl, ES.out.trans hE8⟩
end Go.Proofs.Ytmmcjcaccicheaa

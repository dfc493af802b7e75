/- arq's Offer of one string to a new sender. No condition. -/
import Derived.Test.YtmmcjcaccicheaaTfArq
namespace Go.Proofs.Ytmmcjcaccicheaa
open Go.RowKit
theorem infoInt : (Try.prog.info? 3).map (fun i => (i.zero, i.size, i.bytes)) = some (some (.int .i64 0), 1, 8) := by kernel_rfl
set_option maxRecDepth 10000 in
theorem clone0s_is (w : World) : Calls Try.prog 32 #[zsg] w fun e w' => e = .returned zsg ∧ w' = w := by
  have hnil : (binOp .eql 40 zsg (.slice none 0 0)).run Try.prog w = .ok (.bool true) w := Lib.run_eql_slice_nil w _ _ none 0 0 0 0 Try.underlying40
  go_enter Try.func32, Try.ntmps32
  go_wp2
  go_ret
  exact ⟨rfl, rfl⟩
set_option maxRecDepth 10000 in
theorem clone0i_is (w : World) : Calls Try.prog 33 #[zsg] w fun e w' => e = .returned zsg ∧ w' = w := by
  have hnil : (binOp .eql 43 zsg (.slice none 0 0)).run Try.prog w = .ok (.bool true) w := Lib.run_eql_slice_nil w _ _ none 0 0 0 0 Try.underlying43
  go_enter Try.func33, Try.ntmps33
  go_wp2
  go_ret
  exact ⟨rfl, rfl⟩
set_option maxRecDepth 10000 in
set_option maxHeartbeats 8000000 in
theorem offer_is (x : Bs) (hx : x.length ≤ 1000) (w : World) : Calls Try.prog 18 #[.agg (snd 0 1 zsg zsg), .string (bst x)] w fun e w' => ∃ gd cd gs cs, e = .returned (.tuple #[.agg (snd 0 1 (.slice (some ⟨gd, 0, none⟩) 1 cd) (.slice (some ⟨gs, 0, none⟩) 1 cs)), .int .i64 0]) ∧ w'.cell? ⟨gd, 0, none⟩ = some (sv x) ∧ w'.cell? ⟨gs, 0, none⟩ = some (.int .i64 (-1)) ∧ w.heap.size < gd ∧ w.heap.size < gs ∧ Ext w w' := by
  have hx2 : ¬ (65472 : Int) < x.length := by omega
  obtain ⟨inf, i1, i2, i3, i4⟩ := info_of infoStr
  have I1 := Lib.hid i1; have I2 := Lib.hid i2; have I3 := Lib.hid i3; have I4 := Lib.hid i4; clear i1 i2 i3 i4
  obtain ⟨inj, i1, i2, i3, i4⟩ := info_of infoInt
  have J1 := Lib.hid i1; have J2 := Lib.hid i2; have J3 := Lib.hid i3; have J4 := Lib.hid i4; clear i1 i2 i3 i4
  obtain ⟨W1, hW1⟩ : ∃ W, (w.alloc (.cells (snd 0 1 zsg zsg) 45)).alloc (.cells (snd 0 0 zsg zsg) 45) = W := ⟨_, rfl⟩
  have b2 : Blk W1 w.heap.size (.cells (snd 0 1 zsg zsg) 45 (0, 0)) := by rw [← hW1]; exact (Blk.new w _ rfl).alloc _
  have b4 : Blk W1 (w.heap.size + 1) (.cells (snd 0 0 zsg zsg) 45 (0, 0)) := by rw [← hW1]; exact Blk.new _ _ (by rw [World.size_alloc])
  have e1 : Ext w W1 := by rw [← hW1]; exact ((Ext.refl w).alloc _).alloc _
  obtain ⟨g2, hg2⟩ : ∃ g, w.heap.size = g := ⟨_, rfl⟩
  rw [hg2] at b2 b4
  have B2 := Lib.hid b2; have B4 := Lib.hid b4; have E1 := Lib.hid e1; have HG := Lib.hid hg2
  have c0 := b2.cell 0; have c1 := b2.cell 1; have c2 := b2.cell 2; have c3 := b2.cell 3
  clear b2 b4 e1
  go_enter Try.func18, Try.ntmps18
  go_wp2_with fail
  refine (acheck0_is _).mono ?_
  rintro e w2 ⟨rfl, hE2⟩
  have B2n := Lib.hid (B2.out.ext hE2); have B4n := Lib.hid (B4.out.ext hE2); have E2 := Lib.hid (E1.out.trans hE2)
  clear hE2 B2 B4 E1 c0 c1 c2 c3 hW1
  have c0 := B2n.out.cell 0; have c2 := B2n.out.cell 2
  go_wp2_with fail
  refine (clone0s_is _).mono ?_
  rintro e w3 ⟨rfl, rfl⟩
  clear c0
  go_wp2_with (at_builtin; refine wpList_append_size2 rfl (.tmp 33) (.tmp 35) 40 rfl (g2 + 2) 9 inf _ 1 16 Try.underlying40 I1.out I2.out I3.out I4.out rfl (by decide) zsg 0 [] (some ⟨_, 0, none⟩) 1 1 [sv x] rfl (by simp [Act.eval]) rfl (by simp [sv, Value.oneCell']) (by simp [maxLen]) (by simp) (World.ownsRow_nil _ _ _ _) (Cells.new _ _ [sv x] rfl) (by have := B4n.out.lt; rw [World.size_alloc]; omega) ?_; intro vd w4 hown hgr _; obtain ⟨gd, cd, rfl⟩ := own_slice hown (by simp); have ex := Ext.grown ((Ext.refl w3).alloc _) hgr (fun k hk => by cases hk); have b24 := B2n.out.ext ex; have b44 := B4n.out.ext ex; have e4 := E2.out.trans ex; have c24 := b24.cell 2; have f24 := b24.free 2; have B24 := Lib.hid b24; have B44 := Lib.hid b44; have E4 := Lib.hid e4; have OW := Lib.hid hown; clear ex b24 b44 e4 hown hgr; obtain ⟨W5, hW5⟩ : ∃ W, w4.setCell ⟨g2, 2, none⟩ (.slice (some ⟨gd, 0, none⟩) 1 cd) = W := ⟨_, rfl⟩; have hlv : Lv (fun n => n = g2) w4 W5 := hW5 ▸ Lv.setCell (S := fun n => n = g2) (p := ⟨g2, 2, none⟩) (Lv.refl _ w4) (fun _ => rfl) _; have b25 : Blk W5 g2 (.cells (snd 0 1 (.slice (some ⟨gd, 0, none⟩) 1 cd) zsg) 45 (0, 0)) := hW5 ▸ B24.out.setCell 2 _; have c35 := b25.cell 3; have HLV := Lib.hid hlv; have B25 := Lib.hid b25; clear hlv b25)
  refine (clone0i_is _).mono ?_
  rintro e w6 ⟨rfl, rfl⟩
  have B45 := Lib.hid (B44.out.lv HLV.out (by omega)); have E5 := Lib.hid (HLV.out.extBelow E4.out (fun g hg e => by have := HG.out; omega))
  have OW5 := Lib.hid (own_lv OW.out HLV.out (fun g hx e => by have := (own_blk OW.out hx).1; omega))
  clear B24 B44 E4 OW HLV c24 f24 hW5 c35
  go_wp2_with (at_builtin; refine wpList_append_size2 rfl (.tmp 40) (.tmp 41) 43 rfl (g2 + 2) 3 inj _ 1 8 Try.underlying43 J1.out J2.out J3.out J4.out rfl (by decide) zsg 0 [] (some ⟨_, 0, none⟩) 1 1 [.int .i64 (-1)] rfl (by simp [Act.eval]) rfl (by simp [Value.oneCell']) (by simp [maxLen]) (by simp) (World.ownsRow_nil _ _ _ _) (Cells.new _ _ [.int .i64 (-1)] rfl) (by have := B45.out.lt; rw [World.size_alloc]; omega) ?_; intro vs w7 hown hgr _; obtain ⟨gs, cs, rfl⟩ := own_slice hown (by simp); have ex := Ext.grown ((Ext.refl w6).alloc _) hgr (fun k hk => by cases hk); have b27 := B25.out.ext ex; have b47 := B45.out.ext ex; have e7 := E5.out.trans ex; have o7 := own_stab3 ex OW5.out; have c37 := b27.cell 3; have f37 := b27.free 3; have B27 := Lib.hid b27; have B47 := Lib.hid b47; have E7 := Lib.hid e7; have OD := Lib.hid o7; have OS := Lib.hid hown; clear ex b27 b47 e7 o7 hown hgr; obtain ⟨W8, hW8⟩ : ∃ W, w7.setCell ⟨g2, 3, none⟩ (.slice (some ⟨gs, 0, none⟩) 1 cs) = W := ⟨_, rfl⟩; have hlv : Lv (fun n => n = g2) w7 W8 := hW8 ▸ Lv.setCell (S := fun n => n = g2) (p := ⟨g2, 3, none⟩) (Lv.refl _ w7) (fun _ => rfl) _; have b28 : Blk W8 g2 (.cells (snd 0 1 (.slice (some ⟨gd, 0, none⟩) 1 cd) (.slice (some ⟨gs, 0, none⟩) 1 cs)) 45 (0, 0)) := hW8 ▸ B27.out.setCell 3 _; have b48 := B47.out.lv hlv (by omega); have c08 := b28.cell 0; have c18 := b28.cell 1; have c28 := b28.cell 2; have c38 := b28.cell 3; have k08 := b48.cell 0; have HLV := Lib.hid hlv; have B28 := Lib.hid b28; have B48 := Lib.hid b48; have V0 := b48.setCell 0 (.int .i64 0); have V1 := V0.setCell 1 (.int .i64 1); have V2 := V1.setCell 2 (.slice (some ⟨gd, 0, none⟩) 1 cd); have V3 := V2.setCell 3 (.slice (some ⟨gs, 0, none⟩) 1 cs); have f0 := b48.free 0; have f1 := V0.free 1; have f2 := V1.free 2; have f3 := V2.free 3; have d1 := V0.cell 1; have d2 := V1.cell 2; have d3 := V2.cell 3; clear hlv b28 b48 V0 V1 V2 V3)
  have hV := ((((B48.out.setCell 0 (.int .i64 0)).setCell 1 (.int .i64 1)).setCell 2 (.slice (some ⟨gd, 0, none⟩) 1 cd)).setCell 3 (.slice (some ⟨gs, 0, none⟩) 1 cs))
  have lv0 : ∀ (W : World) (i : Nat) (v : Value), Lv (fun n => n = g2 + 1) W (W.setCell ⟨g2 + 1, i, none⟩ v) := fun W i v => Lv.setCell (S := fun n => n = g2 + 1) (p := ⟨g2 + 1, i, none⟩) (Lv.refl _ W) (fun _ => rfl) _
  have hl := (((lv0 W8 0 (.int .i64 0)).trans (lv0 _ 1 (.int .i64 1)) (fun _ _ h => h)).trans (lv0 _ 2 (.slice (some ⟨gd, 0, none⟩) 1 cd)) (fun _ _ h => h)).trans (lv0 _ 3 (.slice (some ⟨gs, 0, none⟩) 1 cs)) (fun _ _ h => h)
  obtain ⟨V, hVV⟩ : ∃ V, (((W8.setCell ⟨g2 + 1, 0, none⟩ (.int .i64 0)).setCell ⟨g2 + 1, 1, none⟩ (.int .i64 1)).setCell ⟨g2 + 1, 2, none⟩ (.slice (some ⟨gd, 0, none⟩) 1 cd)).setCell ⟨g2 + 1, 3, none⟩ (.slice (some ⟨gs, 0, none⟩) 1 cs) = V := ⟨_, rfl⟩
  rw [hVV] at hV hl ⊢
  have oD := own_lv (own_lv OD.out HLV.out (fun g hx e => by have := (own_blk OD.out hx).1; omega)) hl (fun g hx e => by have := (own_blk OD.out hx).1; omega)
  have oS := own_lv (own_lv OS.out HLV.out (fun g hx e => by have := (own_blk OS.out hx).1; omega)) hl (fun g hx e => by have := (own_blk OS.out hx).1; omega)
  have eV := hl.extBelow (HLV.out.extBelow E7.out (fun g hg e => by have := HG.out; omega)) (fun g hg e => by have := HG.out; omega)
  have cD := oD.cells (g := gd) rfl 0 (sv x) rfl
  have cS := oS.cells (g := gs) rfl 0 (.int .i64 (-1)) rfl
  have r0 := hV.cell 0; have r1 := hV.cell 1; have r2 := hV.cell 2; have r3 := hV.cell 3
  refine ret_cell2 (A := ⟨g2 + 1, 0, none⟩) (v := .agg (snd 0 1 (.slice (some ⟨gd, 0, none⟩) 1 cd) (.slice (some ⟨gs, 0, none⟩) 1 cs))) rfl rfl ?_ rfl rfl ⟨gd, cd, gs, cs, rfl, by simpa [Addr.add] using cD, by simpa [Addr.add] using cS, by have := (own_blk OD.out (g := gd) rfl).1; have := HG.out; omega, by have := (own_blk OS.out (g := gs) rfl).1; have := HG.out; omega, eV⟩
  clear hV hl oD oS eV cD cS lv0 hVV
  simp [snd] at r0 r1 r2 r3
  go_simp
end Go.Proofs.Ytmmcjcaccicheaa

/- The reference's Strings. No condition. -/
import Derived.Test.YtmmcjcaccicheaaTfRSt
namespace Go.Proofs.Ytmmcjcaccicheaa
open Go.RowKit
def xsP (rev : List Bs) (p : Nat) : List Bs := (List.range p).map (fun q => rev.getD q [])
theorem xsP_len (rev : List Bs) (p : Nat) : (xsP rev p).length = p := by unfold xsP; simp
theorem xsP_succ (rev : List Bs) (p : Nat) : xsP rev (p + 1) = xsP rev p ++ [rev.getD p []] := by unfold xsP; rw [List.range_succ]; simp
theorem arr_of_blk {W : World} {g : Nat} {c : Array Value} {t : TypeId} (h : Blk W g (.cells c t (0, 0))) : Arr W g t c.toList := by unfold Arr; rw [Array.toArray_toList]; exact h
theorem out_empty (W : World) (o : Obj) : ((W.alloc (.cells #[] 9)).alloc o).ownsRow W.heap.size 9 1 (.slice (some ⟨W.heap.size, 0, none⟩) 0 0) 0 (([] : List Bs).map sv) :=
  ⟨rfl, .inr ⟨W.heap.size, 0, #[], rfl, Nat.le_refl _, (Blk.new W (.cells #[] 9) rfl).alloc o, Nat.le_refl _, by unfold maxLen; omega, rfl, rfl⟩⟩
set_option maxRecDepth 100000 in
set_option maxHeartbeats 16000000 in
theorem strings_is (t : Bs) (ht : t.length = 16) (g : Sg) (hg : g.wf) (h0 : 0 ≤ g.i) (h4 : g.i < 4) (vR vO vP : Value) (w : World) (hR : DgS w vR g.rev) (hO : DgS w vO g.oth) (hP : DgS w vP g.path) :
    Calls Try.prog 16 #[.string (bst t), .agg (sgc g.i vR vO vP)] w fun e w' => ∃ v, e = .returned v ∧ w'.ownsRow w.heap.size 9 1 v 131 ((stringsV sumV t g).map sv) ∧ Ext w w' := by
  obtain ⟨hw1, hw2, hw3, hw4, hw5, hw6⟩ := hg
  obtain ⟨gR, oR, cR, rfl, hcR⟩ := hR.at (fun e => by rw [e] at hw1; cases hw1)
  obtain ⟨gO, oO, cO, rfl, hcO⟩ := hO.at (fun e => by rw [e] at hw2; cases hw2)
  obtain ⟨gP, oP, cP, rfl, hcP⟩ := hP.at (fun e => by rw [e] at hw3; cases hw3)
  rw [hw1, hw2, hw3]
  obtain ⟨p0, p1, hpp⟩ : ∃ p0 p1, g.path = [p0, p1] := by
    match hg : g.path, hw3 with
    | [x, y], _ => exact ⟨x, y, rfl⟩
  have hfin : stringsV sumV t g = xsP g.rev 128 ++ [leafS sumV (bitV t) g.rev g.oth 128, upV sumV (decide (g.i % 2 = 1)) (leafS sumV (bitV t) g.rev g.oth 128) p0, upV sumV (decide (1 < g.i)) (upV sumV (decide (g.i % 2 = 1)) (leafS sumV (bitV t) g.rev g.oth 128) p0) p1] := by
    unfold stringsV n2V n1V lfV xsP; rw [hpp]; rfl
  rw [hfin]
  obtain ⟨i, hi⟩ : ∃ i, g.i = i := ⟨_, rfl⟩
  rw [hi] at h0 h4 ⊢
  rw [hpp] at hcP hw6
  obtain ⟨rev, hrev⟩ : ∃ r, g.rev = r := ⟨_, rfl⟩
  obtain ⟨oth, hoth⟩ : ∃ r, g.oth = r := ⟨_, rfl⟩
  rw [hrev] at hw1 hw4 hcR; rw [hoth] at hw2 hw5 hcO; rw [hrev, hoth]
  clear hR hO hP hpp hi hrev hoth hw3 hfin
  obtain ⟨RES, hRES⟩ : ∃ R, List.map sv (xsP rev 128 ++ [leafS sumV (bitV t) rev oth 128, upV sumV (decide (i % 2 = 1)) (leafS sumV (bitV t) rev oth 128) p0, upV sumV (decide (1 < i)) (upV sumV (decide (i % 2 = 1)) (leafS sumV (bitV t) rev oth 128) p0) p1]) = R := ⟨_, rfl⟩
  rw [hRES]
  have HRES := Lib.hid hRES; clear hRES
  have q0 : p0.length = 32 := hw6 _ (by simp)
  have q1 : p1.length = 32 := hw6 _ (by simp)
  obtain ⟨inf, i1, i2, i3, i4⟩ := info_of infoStr
  have I1 := Lib.hid i1; have I2 := Lib.hid i2; have I3 := Lib.hid i3; have I4 := Lib.hid i4; clear i1 i2 i3 i4
  obtain ⟨gs, hgs⟩ : ∃ g, w.heap.size = g := ⟨_, rfl⟩
  obtain ⟨W1, hW1⟩ : ∃ W, w.alloc (.cells (sgc i (.slice (some ⟨gR, oR, none⟩) 128 cR) (.slice (some ⟨gO, oO, none⟩) 128 cO) (.slice (some ⟨gP, oP, none⟩) 2 cP)) 25) = W := ⟨_, rfl⟩
  have b3 : Blk W1 gs (.cells (sgc i (.slice (some ⟨gR, oR, none⟩) 128 cR) (.slice (some ⟨gO, oO, none⟩) 128 cO) (.slice (some ⟨gP, oP, none⟩) 2 cP)) 25 (0, 0)) := by rw [← hW1]; exact Blk.new _ _ hgs.symm
  have e1 : Ext w W1 := by rw [← hW1]; exact (Ext.refl w).alloc _
  have B3 := Lib.hid b3; have E1 := Lib.hid e1; have HGS := Lib.hid hgs
  have CR := Lib.hid (fun j x hj => e1.cell (hcR j x hj)); have CO := Lib.hid (fun j x hj => e1.cell (hcO j x hj)); have CP := Lib.hid (fun j x hj => e1.cell (hcP j x hj))
  have W4 := Lib.hid hw4; have W5 := Lib.hid hw5; have W6 := Lib.hid hw6; have L1 := Lib.hid hw1; have L2 := Lib.hid hw2
  clear b3 e1 hcR hcO hcP hw1 hw2 hw4 hw5 hw6
  go_enter Try.func16, Try.ntmps16
  go_wp2_with fail
  clear hW1 hgs
  go_loopw [5, 6, 7] (fun v5 v6 v7 wq => ∃ p : Nat, p ≤ 128 ∧ v7 = .int .i64 p ∧ StSt W1 wq v5 (xsP rev p) v6 (leafS sumV (bitV t) rev oth p)) (fun _ _ v7 _ => 128 - (intOf v7).toNat)
  case atStart =>
    refine ⟨0, by omega, rfl, out_empty W1 _, ?_⟩
    have := brow_new (w0 := W1) (w := W1.alloc (.cells #[] 9)) ((Ext.refl W1).alloc _) [0] (by unfold maxLen; simp)
    rw [World.size_alloc] at this
    exact this
  case round =>
    obtain ⟨p, hp, rfl, st⟩ := hrel
    have ST := Lib.hid st; clear st
    by_cases h : p < 128
    · as_aux_lemma =>
        have hp0 : (0 : Int) ≤ p := Int.natCast_nonneg _
        have hp1 : (p : Int) < 128 := by omega
        have hr : rev[p]? = some (rev.getD p []) := by rw [List.getD_eq_getElem?_getD, List.getElem?_eq_getElem (by rw [L1.out]; exact h)]; rfl
        have ho : oth[p]? = some (oth.getD p []) := by rw [List.getD_eq_getElem?_getD, List.getElem?_eq_getElem (by rw [L2.out]; exact h)]; rfl
        have hxs := xsP_succ rev p
        have hls := leafS_succ sumV (bitV t) rev oth p
        have hll := leafS_len (H := sumV) (fun _ => rfl) (bit := bitV t) (rev := rev) W5.out p (by rw [L2.out]; omega)
        unfold pairV at hls
        obtain ⟨r, hrr⟩ : ∃ r, rev.getD p [] = r := ⟨_, rfl⟩
        obtain ⟨o, hoo⟩ : ∃ r, oth.getD p [] = r := ⟨_, rfl⟩
        obtain ⟨s, hss⟩ : ∃ s, sumV r = s := ⟨_, rfl⟩
        rw [hrr] at hr hxs; rw [hoo] at ho; rw [hrr, hoo, hss] at hls
        have r32 : r.length = 32 := W4.out _ (List.mem_of_getElem? hr)
        have o32 : o.length = 32 := W5.out _ (List.mem_of_getElem? ho)
        have s32 : s.length = 32 := by rw [← hss]; rfl
        obtain ⟨l, hl⟩ : ∃ l, leafS sumV (bitV t) rev oth p = l := ⟨_, rfl⟩
        obtain ⟨xs, hx⟩ : ∃ l, xsP rev p = l := ⟨_, rfl⟩
        have hxl : xs.length = p := by rw [← hx]; exact xsP_len rev p
        have st := ST.out
        rw [hl, hx] at st; rw [hl] at hls hll; rw [hx] at hxs
        have ST := Lib.hid st
        have HXS := Lib.hid hxs; have HLS := Lib.hid hls; have HLL := Lib.hid hll; have R32 := Lib.hid r32; have O32 := Lib.hid o32; have S32 := Lib.hid s32; have HXL := Lib.hid hxl
        have HR := Lib.hid hr; have HO := Lib.hid ho; have HSS := Lib.hid hss
        have c1 := (B3.out.ext st.row.ext).cell 1
        have d1 := dgs_load (fun j x hj => st.row.ext.cell (CR.out j x hj)) W4.out hr
        clear st hxs hls hll r32 o32 s32 hxl hr ho hss hrr hoo hl hx
        go_wp2_with fail
        refine (bytes_is r R32.out _).mono ?_
        rintro e w2 ⟨rfl, hE2⟩
        have ST2 := Lib.hid (ST.out.ext hE2)
        clear c1 d1 hE2 ST
        go_wp2_with (at_builtin; refine wpList_append_size2 rfl (.tmp 25) (.tmp 27) 40 rfl W1.heap.size 9 inf _ 1 16 Try.underlying40 I1.out I2.out I3.out I4.out rfl (by decide) _ xs.length (xs.map sv) (some ⟨_, 0, none⟩) 1 1 [sv r] rfl (by simp [Act.eval]) rfl (by simp [sv, Value.oneCell']) (by rw [HXL.out]; simp only [maxLen]; omega) (by rw [HXL.out]; omega) (own_stab3 ((Ext.refl _).alloc _) ST2.out.own) (Cells.new _ _ [sv r] rfl) (by have := ST2.out.row.ext.size; simp; omega) ?_; intro v5n w3 hown3 hg3 _)
        have st3 := (ST2.out.ext ((Ext.refl _).alloc _)).app hown3 hg3
        have ST3 := Lib.hid st3
        clear st3 hown3 hg3 ST2
        go_wp2_with fail
        have hSt : Stab (fun W => StSt W1 W v5n (xs ++ [r]) u6 l) := StSt.stab
        refine wp_region_X (T := fun W => Ext W1 W) (fun W => StSt W1 W v5n (xs ++ [r]) u6 l) (by kernel_rfl) (ST3.out.ext (Ext.refl w3).drew) (wpX_takes (by kernel_rfl) (fun _ d _ _ _ h => by cases d <;> exact h) hSt (fun _ h => h.row.ext) (fuel := 4) [0,1,2,3,4,5,6] _ _ (by kernel_rfl) ?_)
        refine wpTk_want rfl (Eq.refl true) ?_
        apply Exists.intro
        refine ⟨fun wx hx => ?_, ?_⟩
        · go_simp
          with_reducible exact gives_ok _ _ _
        simp only [Act.put, List.setIfInBounds_toArray, List.set_cons_zero, List.set_cons_succ]
        refine wpTk_want rfl (Eq.refl true) ⟨dv s, fun wx hx => ?_, ?_⟩
        · clear hx
          go_simp
          rw [← HSS.out]
          exact gives_call _ _ _ (rsum_is r (by rw [R32.out]; omega) wx)
        simp only [Act.put, List.setIfInBounds_toArray, List.set_cons_zero, List.set_cons_succ]
        iterate 5
          refine wpTk_want rfl (Eq.refl true) ?_
          apply Exists.intro
          refine ⟨fun wx hx => ?_, ?_⟩
          · have c2 := (B3.out.ext hx).cell 2
            have d2 := dgs_load (fun j x hj => hx.cell (CO.out j x hj)) W5.out HO.out
            clear hx
            go_simp
            with_reducible exact gives_ok _ _ _
          simp only [Act.put, List.setIfInBounds_toArray, List.set_cons_zero, List.set_cons_succ]
        refine wpTk_nil ?_
        refine wpX_alloc2 7 8 (.cells ZDg 34) (by kernel_rfl) (by kernel_rfl) (by kernel_rfl) (by decide) rfl rfl rfl rfl (by simp) (fun _ _ => by go_simp) (fun _ _ => by go_simp) hSt (fun _ h => h.row.ext) (fun gi gj wv hv hgi hgj hne => ?_)
        have hbi : W1.heap.size ≤ gi := Nat.le_trans hv.row.ext.size hgi
        have hbj : W1.heap.size ≤ gj := Nat.le_trans hv.row.ext.size hgj
        clear hv hgi hgj wv
        simp only [Act.put, List.setIfInBounds_toArray, List.set_cons_zero, List.set_cons_succ]
        refine wpX_one 9 (by kernel_rfl) rfl rfl (fun wz hz K hK => ?_)
        obtain ⟨W', hst, a', lv'⟩ := put_dg_lv (arr_of_blk hz.2.1) zdg_len s S32.out
        have z1 := hz.1.dgset (arr_of_blk hz.2.1) hbi lv'
        have z3 := (arr_of_blk hz.2.2).lv lv' (fun e => hne e.symm)
        go_simp
        refine hK _ _ ⟨fun W => StSt W1 W v5n (xs ++ [r]) u6 l ∧ Arr W gi 34 (dgl s) ∧ Arr W gj 34 ZDg.toList, hSt.and ((Stab.arr _ _ _).and (Stab.arr _ _ _)), fun _ h => h.1.row.ext, ⟨z1, a', z3⟩, ?_⟩
        clear hK K hz hst a' lv' z1 z3 wz W'
        refine wpX_one 10 (by kernel_rfl) rfl rfl (fun wz hz K hK => ?_)
        obtain ⟨W', hst, a', lv'⟩ := put_dg_lv hz.2.2 zdg_len o O32.out
        have z1 := hz.1.dgset hz.2.2 hbj lv'
        have z3 := hz.2.1.lv lv' hne
        go_simp
        refine hK _ _ ⟨fun W => StSt W1 W v5n (xs ++ [r]) u6 l ∧ Arr W gi 34 (dgl s) ∧ Arr W gj 34 (dgl o), hSt.and ((Stab.arr _ _ _).and (Stab.arr _ _ _)), fun _ h => h.1.row.ext, ⟨z1, z3, a'⟩, ?_⟩
        clear hK K hz hst a' lv' z1 z3 wz W'
        refine wpX_done (by kernel_rfl) (fun W5' hz => ?_) _
        obtain ⟨z1, z2, z3⟩ := hz
        have Z1 := Lib.hid z1; have Z2 := Lib.hid z2; have Z3 := Lib.hid z3; have HBI := Lib.hid hbi; have HBJ := Lib.hid hbj
        clear z1 z2 z3 hbi hbj hSt ST3 HR HO
        go_wp2_with fail
        refine (rbit_is t ht h _).mono ?_
        rintro e w6 ⟨rfl, hE6⟩
        have Y1 := Lib.hid (Z1.out.ext hE6); have Y2 := Lib.hid (Z2.out.ext hE6); have Y3 := Lib.hid (Z3.out.ext hE6)
        clear hE6 Z1 Z2 Z3
        rcases bit_two t p with hb | hb
        · have hls := HLS.out
          rw [hb] at hls ⊢
          have hls : leafS sumV (bitV t) rev oth (p + 1) = (l ++ s) ++ o := by rw [hls, List.append_assoc]; rfl
          have HLS := Lib.hid hls
          clear hls hb
          have X1 := Y1; have X2 := Y2; have X3 := Y3
          have hlx := dg_load X2.out S32.out
          clear Y1 Y2 Y3
          go_wp2_with fail
          refine (bytes_is s S32.out _).mono ?_
          rintro e w9 ⟨rfl, hE9⟩
          have V1 := Lib.hid (X1.out.ext hE9); have V3 := Lib.hid (X3.out.ext hE9)
          clear hE9 hlx X1 X2 X3 
          go_wp2_with (at_builtin; refine wpList_append_bytes2 rfl (.tmp 42) (.tmp 44) 9 rfl u6 _ rfl rfl l s V1.out.row (src_string _ s) bytes_str (by rw [HLL.out, S32.out]; omega) ?_; intro v6n w10 hrow hgr; have hld := dg_load (V1.out.dgkeep V3.out hgr) O32.out)
          have U1 := Lib.hid (V1.out.push hrow hgr)
          clear hrow hgr V1 V3 hld
          refine (bytes_is o O32.out _).mono ?_
          rintro e w11 ⟨rfl, hE11⟩
          have U2 := Lib.hid (U1.out.ext hE11)
          clear hE11 U1
          go_wp2_with (at_builtin; refine wpList_append_bytes2 rfl (.tmp 46) (.tmp 48) 9 rfl v6n _ rfl rfl (l ++ s) o U2.out.row (src_string _ o) bytes_str (by rw [List.length_append, HLL.out, S32.out, O32.out]; omega) ?_; intro v6m w12 hrow hgr)
          have U3 := Lib.hid (U2.out.push hrow hgr)
          clear hrow hgr U2
          go_wp2_with fail
          go_roundw
          case rel => exact ⟨p + 1, by omega, by go_num, by rw [HXS.out, HLS.out]; exact U3.out⟩
          case measure => simp [intOf]; omega
        · have hls := HLS.out
          rw [hb] at hls ⊢
          have hls : leafS sumV (bitV t) rev oth (p + 1) = (l ++ o) ++ s := by rw [hls, List.append_assoc]; rfl
          have HLS := Lib.hid hls
          clear hls hb
          have hl9 := dg_load Y2.out S32.out
          have hl10 := dg_load Y3.out O32.out
          obtain ⟨W7, hst7, a7, lv7⟩ := put_dg_lv Y2.out (by rw [dgl_len]; exact S32.out) o O32.out
          have y3 := Y3.out.lv lv7 (fun e => hne e.symm)
          have y1 := Y1.out.dgset Y2.out HBI.out lv7
          obtain ⟨W8, hst8, a8, lv8⟩ := put_dg_lv y3 (by rw [dgl_len]; exact O32.out) s S32.out
          have x2 := a7.lv lv8 hne
          have x1 := y1.dgset y3 HBJ.out lv8
          have X1 := Lib.hid x1; have X2 := Lib.hid x2; have X3 := Lib.hid a8
          have hlx := dg_load x2 O32.out
          clear x1 x2 a8 y1 y3 a7 lv7 lv8 Y1 Y2 Y3
          go_wp2_with fail
          refine (bytes_is o O32.out _).mono ?_
          rintro e w9 ⟨rfl, hE9⟩
          have V1 := Lib.hid (X1.out.ext hE9); have V3 := Lib.hid (X3.out.ext hE9)
          clear hE9 hlx X1 X2 X3 hl9 hl10 hst7 hst8
          go_wp2_with (at_builtin; refine wpList_append_bytes2 rfl (.tmp 42) (.tmp 44) 9 rfl u6 _ rfl rfl l o V1.out.row (src_string _ o) bytes_str (by rw [HLL.out, O32.out]; omega) ?_; intro v6n w10 hrow hgr; have hld := dg_load (V1.out.dgkeep V3.out hgr) S32.out)
          have U1 := Lib.hid (V1.out.push hrow hgr)
          clear hrow hgr V1 V3 hld
          refine (bytes_is s S32.out _).mono ?_
          rintro e w11 ⟨rfl, hE11⟩
          have U2 := Lib.hid (U1.out.ext hE11)
          clear hE11 U1
          go_wp2_with (at_builtin; refine wpList_append_bytes2 rfl (.tmp 46) (.tmp 48) 9 rfl v6n _ rfl rfl (l ++ o) s U2.out.row (src_string _ s) bytes_str (by rw [List.length_append, HLL.out, O32.out, S32.out]; omega) ?_; intro v6m w12 hrow hgr)
          have U3 := Lib.hid (U2.out.push hrow hgr)
          clear hrow hgr U2
          go_wp2_with fail
          go_roundw
          case rel => exact ⟨p + 1, by omega, by go_num, by rw [HXS.out, HLS.out]; exact U3.out⟩
          case measure => simp [intOf]; omega
    · obtain rfl : p = 128 := by omega
      obtain ⟨L, hL⟩ : ∃ l, leafS sumV (bitV t) rev oth 128 = l := ⟨_, rfl⟩
      obtain ⟨xs, hx⟩ : ∃ l, xsP rev 128 = l := ⟨_, rfl⟩
      have hLl : L.length = 8193 := by rw [← hL]; exact leafS_len (H := sumV) (fun _ => rfl) (bit := bitV t) (rev := rev) W5.out 128 (by rw [L2.out]; omega)
      have hxl : xs.length = 128 := by rw [← hx]; exact xsP_len rev 128
      obtain ⟨D, hD⟩ : ∃ D, sumV L = D := ⟨_, rfl⟩
      have d32 : D.length = 32 := by rw [← hD]; rfl
      have st := ST.out
      rw [hL, hx] at st
      have ST := Lib.hid st; have HL := Lib.hid hL; have HX := Lib.hid hx; have HXL := Lib.hid hxl; have HLL := Lib.hid hLl; have HD := Lib.hid hD; have D32 := Lib.hid d32
      have hcv := brow_string st.row
      clear st hL hx hxl hLl hD d32
      go_wp2_with (at_builtin; refine wpList_append_size2 rfl (.tmp 50) (.tmp 53) 40 rfl W1.heap.size 9 inf _ 1 16 Try.underlying40 I1.out I2.out I3.out I4.out rfl (by decide) _ (xs).length ((xs).map sv) (some ⟨_, 0, none⟩) 1 1 [sv L] rfl (by simp [Act.eval]) rfl (by simp [sv, Value.oneCell']) (by simp [HXL.out, maxLen]) (by simp [HXL.out]) (own_stab3 ((Ext.refl _).alloc _) ST.out.own) (Cells.new _ _ [sv L] rfl) (by have := ST.out.row.ext.size; simp; omega) ?_; intro v13 w13 hown hgr hbk; have st13 := (ST.out.ext ((Ext.refl _).alloc _)).app hown hgr; have ST13 := Lib.hid st13; have hcv2 := brow_string st13.row; clear st13 hown hgr)
      clear hcv hcv2 ST
      refine (rsum_is L (by rw [HLL.out]; omega) _).mono ?_
      rintro e w14 ⟨rfl, hE14⟩
      rw [HD.out]
      obtain ⟨g11, hg11⟩ : ∃ g, w14.heap.size = g := ⟨_, rfl⟩
      obtain ⟨W15, hst, a15, e15, -⟩ := new_dg w14 D D32.out
      rw [hg11] at hst a15
      have st15 := (ST13.out.ext hE14).ext e15
      have hb11 : W1.heap.size ≤ g11 := by rw [← hg11]; exact (ST13.out.ext hE14).row.ext.size
      have ST15 := Lib.hid st15; have A15 := Lib.hid a15; have HB11 := Lib.hid hb11
      clear st15 a15 e15 hE14 hb11 ST13
      go_wp2_with fail
      clear hst hg11
      refine wp_region_text (fun W => Ext W15 W) [0, 1, 2, 3, 4, 5, 6] (by kernel_rfl) (Stab.ext _) (Ext.refl W15).drew (by kernel_rfl) (fun _ d _ _ _ h => by cases d <;> exact h) ?_
      iterate 7
        refine wpTk_want rfl (Eq.refl true) ?_
        apply Exists.intro
        refine ⟨fun wx hx => ?_, ?_⟩
        · have c3 := (B3.out.ext (ST15.out.row.ext.trans hx)).cell 3
          have d1 := dgs_load (fun j x hj => (ST15.out.row.ext.trans hx).cell (CP.out j x hj)) W6.out (i := 0) (d := p0) rfl
          rw [Nat.zero_mul, Nat.add_zero] at d1
          have hl := dg_load (A15.out.ext hx) D32.out
          clear hx
          go_simp
          with_reducible first | exact gives_ok _ _ _ | exact gives_call _ _ _ (above_is D p0 D32.out q0 wx)
        simp only [Act.put, List.setIfInBounds_toArray, List.set_cons_zero, List.set_cons_succ]
      refine wpTk_nil ?_
      intro w16 hE16
      have ST16 := Lib.hid (ST15.out.ext hE16); have A16 := Lib.hid (A15.out.ext hE16)
      have c0 := (B3.out.ext ST16.out.row.ext).cell 0
      clear hE16 ST15 A15
      by_cases hc1 : i % 2 = 1
      · have hn1 : upV sumV (decide (i % 2 = 1)) L p0 = (aboveV p0 D) := by unfold upV; rw [HD.out, show decide (i % 2 = 1) = true by simpa using hc1]; rfl
        have HN1 := Lib.hid hn1; clear hn1
        have l1 : (aboveV p0 D).length = 65 := by simp [aboveV, D32.out, q0]
        obtain ⟨D1, hD1⟩ : ∃ Z, sumV (aboveV p0 D) = Z := ⟨_, rfl⟩
        have d32 : D1.length = 32 := by rw [← hD1]; rfl
        have HD1 := Lib.hid hD1; have E32 := Lib.hid d32; have LL1 := Lib.hid l1
        clear hD1 d32 l1
        go_wp2_with fail
        refine wp_region_text (fun W => Ext w16 W) [0, 1, 2, 3, 4, 5, 6] (by kernel_rfl) (Stab.ext _) (Ext.refl w16).drew (by kernel_rfl) (fun _ d _ _ _ h => by cases d <;> exact h) ?_
        iterate 7
          refine wpTk_want rfl (Eq.refl true) ?_
          apply Exists.intro
          refine ⟨fun wx hx => ?_, ?_⟩
          · have c3 := (B3.out.ext (ST16.out.row.ext.trans hx)).cell 3
            have d1 := dgs_load (fun j x hj => (ST16.out.row.ext.trans hx).cell (CP.out j x hj)) W6.out (i := 0) (d := p0) rfl
            rw [Nat.zero_mul, Nat.add_zero] at d1
            have hl := dg_load (A16.out.ext hx) D32.out
            clear hx
            go_simp
            with_reducible first | exact gives_ok _ _ _ | exact gives_call _ _ _ (above_is p0 D q0 D32.out wx)
          simp only [Act.put, List.setIfInBounds_toArray, List.set_cons_zero, List.set_cons_succ]
        refine wpTk_nil ?_
        intro w17 hE17
        have ST17 := Lib.hid (ST16.out.ext hE17); have A17 := Lib.hid (A16.out.ext hE17)
        clear hE17 ST16 A16 c0
        go_wp2_with (at_builtin; refine wpList_append_size2 rfl (.tmp 74) (.tmp 76) 40 rfl W1.heap.size 9 inf _ 1 16 Try.underlying40 I1.out I2.out I3.out I4.out rfl (by decide) _ (xs ++ [L]).length ((xs ++ [L]).map sv) (some ⟨_, 0, none⟩) 1 1 [sv (aboveV p0 D)] rfl (by simp [Act.eval]) rfl (by simp [sv, Value.oneCell']) (by simp [HXL.out, maxLen]) (by simp [HXL.out]) (own_stab3 ((Ext.refl _).alloc _) ST17.out.own) (Cells.new _ _ [sv (aboveV p0 D)] rfl) (by have := ST17.out.row.ext.size; simp; omega) ?_; intro v18 w18 hown hgr hbk; have st18 := (ST17.out.ext ((Ext.refl _).alloc _)).app hown hgr; have ST18 := Lib.hid st18; have A18 := Lib.hid ((ST17.out.ext ((Ext.refl _).alloc _)).dgkeep2 (A17.out.ext ((Ext.refl _).alloc _)) hgr); clear st18 hown hgr)
        clear ST17 A17
        refine (rsum_is (aboveV p0 D) (by rw [LL1.out]; omega) _).mono ?_
        rintro e w19 ⟨rfl, hE19⟩
        rw [HD1.out]
        obtain ⟨W20, hst, a20, lv20⟩ := put_dg_lv (A18.out.ext hE19) (by rw [dgl_len]; exact D32.out) D1 E32.out
        have st20 := (ST18.out.ext hE19).dgset (A18.out.ext hE19) HB11.out lv20
        have ST20 := Lib.hid st20; have A20 := Lib.hid a20
        clear st20 a20 lv20 hE19 ST18 A18
        go_wp2_with fail
        clear hst
        refine wp_region_text (fun W => Ext W20 W) [0, 1, 2, 3, 4, 5, 6] (by kernel_rfl) (Stab.ext _) (Ext.refl W20).drew (by kernel_rfl) (fun _ d _ _ _ h => by cases d <;> exact h) ?_
        iterate 7
          refine wpTk_want rfl (Eq.refl true) ?_
          apply Exists.intro
          refine ⟨fun wx hx => ?_, ?_⟩
          · have c3 := (B3.out.ext (ST20.out.row.ext.trans hx)).cell 3
            have d1 := dgs_load (fun j x hj => (ST20.out.row.ext.trans hx).cell (CP.out j x hj)) W6.out (i := 1) (d := p1) rfl
            have hl := dg_load (A20.out.ext hx) E32.out
            clear hx
            go_simp
            with_reducible first | exact gives_ok _ _ _ | exact gives_call _ _ _ (above_is D1 p1 E32.out q1 wx)
          simp only [Act.put, List.setIfInBounds_toArray, List.set_cons_zero, List.set_cons_succ]
        refine wpTk_nil ?_
        intro w21 hE21
        have ST21 := Lib.hid (ST20.out.ext hE21); have A21 := Lib.hid (A20.out.ext hE21)
        have c0 := (B3.out.ext ST21.out.row.ext).cell 0
        clear hE21 ST20 A20
        by_cases hc2 : 1 < i
        · have hn2 : upV sumV (decide (1 < i)) (upV sumV (decide (i % 2 = 1)) L p0) p1 = (aboveV p1 D1) := by rw [HN1.out]; unfold upV; rw [HD1.out, show decide (1 < i) = true by simpa using hc2]; rfl
          have hfin : xsP rev 128 ++ [leafS sumV (bitV t) rev oth 128, upV sumV (decide (i % 2 = 1)) (leafS sumV (bitV t) rev oth 128) p0, upV sumV (decide (1 < i)) (upV sumV (decide (i % 2 = 1)) (leafS sumV (bitV t) rev oth 128) p0) p1] = xs ++ [L] ++ [(aboveV p0 D)] ++ [(aboveV p1 D1)] := by rw [HX.out, HL.out, hn2, HN1.out]; simp
          have HFIN := Lib.hid hfin
          clear hn2 hfin
          go_wp2_with fail
          refine wp_region_text (fun W => Ext w21 W) [0, 1, 2, 3, 4, 5, 6] (by kernel_rfl) (Stab.ext _) (Ext.refl w21).drew (by kernel_rfl) (fun _ d _ _ _ h => by cases d <;> exact h) ?_
          iterate 7
            refine wpTk_want rfl (Eq.refl true) ?_
            apply Exists.intro
            refine ⟨fun wx hx => ?_, ?_⟩
            · have c3 := (B3.out.ext (ST21.out.row.ext.trans hx)).cell 3
              have d1 := dgs_load (fun j x hj => (ST21.out.row.ext.trans hx).cell (CP.out j x hj)) W6.out (i := 1) (d := p1) rfl
              have hl := dg_load (A21.out.ext hx) E32.out
              clear hx
              go_simp
              with_reducible first | exact gives_ok _ _ _ | exact gives_call _ _ _ (above_is p1 D1 q1 E32.out wx)
            simp only [Act.put, List.setIfInBounds_toArray, List.set_cons_zero, List.set_cons_succ]
          refine wpTk_nil ?_
          intro w22 hE22
          have ST22 := Lib.hid (ST21.out.ext hE22)
          clear hE22 ST21 c0
          go_wp2_with (at_builtin; refine wpList_append_size2 rfl (.tmp 95) (.tmp 97) 40 rfl W1.heap.size 9 inf _ 1 16 Try.underlying40 I1.out I2.out I3.out I4.out rfl (by decide) _ (xs ++ [L] ++ [(aboveV p0 D)]).length ((xs ++ [L] ++ [(aboveV p0 D)]).map sv) (some ⟨_, 0, none⟩) 1 1 [sv (aboveV p1 D1)] rfl (by simp [Act.eval]) rfl (by simp [sv, Value.oneCell']) (by simp [HXL.out, maxLen]) (by simp [HXL.out]) (own_stab3 ((Ext.refl _).alloc _) ST22.out.own) (Cells.new _ _ [sv (aboveV p1 D1)] rfl) (by have := ST22.out.row.ext.size; simp; omega) ?_; intro v23 w23 hown hgr hbk; have st23 := (ST22.out.ext ((Ext.refl _).alloc _)).app hown hgr; have ST23 := Lib.hid st23; clear st23 hown hgr)
          clear ST22
          go_ret
          refine ⟨_, rfl, ?_, E1.out.trans ST23.out.row.ext⟩
          rw [← HRES.out, HFIN.out]
          have := own_base ST23.out.own (base' := w.heap.size) E1.out.size
          simpa [HXL.out] using this
        · have hn2 : upV sumV (decide (1 < i)) (upV sumV (decide (i % 2 = 1)) L p0) p1 = (aboveV D1 p1) := by rw [HN1.out]; unfold upV; rw [HD1.out, show decide (1 < i) = false by simpa using hc2]; rfl
          have hfin : xsP rev 128 ++ [leafS sumV (bitV t) rev oth 128, upV sumV (decide (i % 2 = 1)) (leafS sumV (bitV t) rev oth 128) p0, upV sumV (decide (1 < i)) (upV sumV (decide (i % 2 = 1)) (leafS sumV (bitV t) rev oth 128) p0) p1] = xs ++ [L] ++ [(aboveV p0 D)] ++ [(aboveV D1 p1)] := by rw [HX.out, HL.out, hn2, HN1.out]; simp
          have HFIN := Lib.hid hfin
          clear hn2 hfin
          go_wp2_with (at_builtin; refine wpList_append_size2 rfl (.tmp 95) (.tmp 97) 40 rfl W1.heap.size 9 inf _ 1 16 Try.underlying40 I1.out I2.out I3.out I4.out rfl (by decide) _ (xs ++ [L] ++ [(aboveV p0 D)]).length ((xs ++ [L] ++ [(aboveV p0 D)]).map sv) (some ⟨_, 0, none⟩) 1 1 [sv (aboveV D1 p1)] rfl (by simp [Act.eval]) rfl (by simp [sv, Value.oneCell']) (by simp [HXL.out, maxLen]) (by simp [HXL.out]) (own_stab3 ((Ext.refl _).alloc _) ST21.out.own) (Cells.new _ _ [sv (aboveV D1 p1)] rfl) (by have := ST21.out.row.ext.size; simp; omega) ?_; intro v23 w23 hown hgr hbk; have st23 := (ST21.out.ext ((Ext.refl _).alloc _)).app hown hgr; have ST23 := Lib.hid st23; clear st23 hown hgr)
          clear ST21
          go_ret
          refine ⟨_, rfl, ?_, E1.out.trans ST23.out.row.ext⟩
          rw [← HRES.out, HFIN.out]
          have := own_base ST23.out.own (base' := w.heap.size) E1.out.size
          simpa [HXL.out] using this
      · have hn1 : upV sumV (decide (i % 2 = 1)) L p0 = (aboveV D p0) := by unfold upV; rw [HD.out, show decide (i % 2 = 1) = false by simpa using hc1]; rfl
        have HN1 := Lib.hid hn1; clear hn1
        have l1 : (aboveV D p0).length = 65 := by simp [aboveV, D32.out, q0]
        obtain ⟨D1, hD1⟩ : ∃ Z, sumV (aboveV D p0) = Z := ⟨_, rfl⟩
        have d32 : D1.length = 32 := by rw [← hD1]; rfl
        have HD1 := Lib.hid hD1; have E32 := Lib.hid d32; have LL1 := Lib.hid l1
        clear hD1 d32 l1
        go_wp2_with (at_builtin; refine wpList_append_size2 rfl (.tmp 74) (.tmp 76) 40 rfl W1.heap.size 9 inf _ 1 16 Try.underlying40 I1.out I2.out I3.out I4.out rfl (by decide) _ (xs ++ [L]).length ((xs ++ [L]).map sv) (some ⟨_, 0, none⟩) 1 1 [sv (aboveV D p0)] rfl (by simp [Act.eval]) rfl (by simp [sv, Value.oneCell']) (by simp [HXL.out, maxLen]) (by simp [HXL.out]) (own_stab3 ((Ext.refl _).alloc _) ST16.out.own) (Cells.new _ _ [sv (aboveV D p0)] rfl) (by have := ST16.out.row.ext.size; simp; omega) ?_; intro v18 w18 hown hgr hbk; have st18 := (ST16.out.ext ((Ext.refl _).alloc _)).app hown hgr; have ST18 := Lib.hid st18; have A18 := Lib.hid ((ST16.out.ext ((Ext.refl _).alloc _)).dgkeep2 (A16.out.ext ((Ext.refl _).alloc _)) hgr); clear st18 hown hgr)
        clear ST16 A16
        refine (rsum_is (aboveV D p0) (by rw [LL1.out]; omega) _).mono ?_
        rintro e w19 ⟨rfl, hE19⟩
        rw [HD1.out]
        obtain ⟨W20, hst, a20, lv20⟩ := put_dg_lv (A18.out.ext hE19) (by rw [dgl_len]; exact D32.out) D1 E32.out
        have st20 := (ST18.out.ext hE19).dgset (A18.out.ext hE19) HB11.out lv20
        have ST20 := Lib.hid st20; have A20 := Lib.hid a20
        clear st20 a20 lv20 hE19 ST18 A18
        go_wp2_with fail
        clear hst
        refine wp_region_text (fun W => Ext W20 W) [0, 1, 2, 3, 4, 5, 6] (by kernel_rfl) (Stab.ext _) (Ext.refl W20).drew (by kernel_rfl) (fun _ d _ _ _ h => by cases d <;> exact h) ?_
        iterate 7
          refine wpTk_want rfl (Eq.refl true) ?_
          apply Exists.intro
          refine ⟨fun wx hx => ?_, ?_⟩
          · have c3 := (B3.out.ext (ST20.out.row.ext.trans hx)).cell 3
            have d1 := dgs_load (fun j x hj => (ST20.out.row.ext.trans hx).cell (CP.out j x hj)) W6.out (i := 1) (d := p1) rfl
            have hl := dg_load (A20.out.ext hx) E32.out
            clear hx
            go_simp
            with_reducible first | exact gives_ok _ _ _ | exact gives_call _ _ _ (above_is D1 p1 E32.out q1 wx)
          simp only [Act.put, List.setIfInBounds_toArray, List.set_cons_zero, List.set_cons_succ]
        refine wpTk_nil ?_
        intro w21 hE21
        have ST21 := Lib.hid (ST20.out.ext hE21); have A21 := Lib.hid (A20.out.ext hE21)
        have c0 := (B3.out.ext ST21.out.row.ext).cell 0
        clear hE21 ST20 A20
        by_cases hc2 : 1 < i
        · have hn2 : upV sumV (decide (1 < i)) (upV sumV (decide (i % 2 = 1)) L p0) p1 = (aboveV p1 D1) := by rw [HN1.out]; unfold upV; rw [HD1.out, show decide (1 < i) = true by simpa using hc2]; rfl
          have hfin : xsP rev 128 ++ [leafS sumV (bitV t) rev oth 128, upV sumV (decide (i % 2 = 1)) (leafS sumV (bitV t) rev oth 128) p0, upV sumV (decide (1 < i)) (upV sumV (decide (i % 2 = 1)) (leafS sumV (bitV t) rev oth 128) p0) p1] = xs ++ [L] ++ [(aboveV D p0)] ++ [(aboveV p1 D1)] := by rw [HX.out, HL.out, hn2, HN1.out]; simp
          have HFIN := Lib.hid hfin
          clear hn2 hfin
          go_wp2_with fail
          refine wp_region_text (fun W => Ext w21 W) [0, 1, 2, 3, 4, 5, 6] (by kernel_rfl) (Stab.ext _) (Ext.refl w21).drew (by kernel_rfl) (fun _ d _ _ _ h => by cases d <;> exact h) ?_
          iterate 7
            refine wpTk_want rfl (Eq.refl true) ?_
            apply Exists.intro
            refine ⟨fun wx hx => ?_, ?_⟩
            · have c3 := (B3.out.ext (ST21.out.row.ext.trans hx)).cell 3
              have d1 := dgs_load (fun j x hj => (ST21.out.row.ext.trans hx).cell (CP.out j x hj)) W6.out (i := 1) (d := p1) rfl
              have hl := dg_load (A21.out.ext hx) E32.out
              clear hx
              go_simp
              with_reducible first | exact gives_ok _ _ _ | exact gives_call _ _ _ (above_is p1 D1 q1 E32.out wx)
            simp only [Act.put, List.setIfInBounds_toArray, List.set_cons_zero, List.set_cons_succ]
          refine wpTk_nil ?_
          intro w22 hE22
          have ST22 := Lib.hid (ST21.out.ext hE22)
          clear hE22 ST21 c0
          go_wp2_with (at_builtin; refine wpList_append_size2 rfl (.tmp 95) (.tmp 97) 40 rfl W1.heap.size 9 inf _ 1 16 Try.underlying40 I1.out I2.out I3.out I4.out rfl (by decide) _ (xs ++ [L] ++ [(aboveV D p0)]).length ((xs ++ [L] ++ [(aboveV D p0)]).map sv) (some ⟨_, 0, none⟩) 1 1 [sv (aboveV p1 D1)] rfl (by simp [Act.eval]) rfl (by simp [sv, Value.oneCell']) (by simp [HXL.out, maxLen]) (by simp [HXL.out]) (own_stab3 ((Ext.refl _).alloc _) ST22.out.own) (Cells.new _ _ [sv (aboveV p1 D1)] rfl) (by have := ST22.out.row.ext.size; simp; omega) ?_; intro v23 w23 hown hgr hbk; have st23 := (ST22.out.ext ((Ext.refl _).alloc _)).app hown hgr; have ST23 := Lib.hid st23; clear st23 hown hgr)
          clear ST22
          go_ret
          refine ⟨_, rfl, ?_, E1.out.trans ST23.out.row.ext⟩
          rw [← HRES.out, HFIN.out]
          have := own_base ST23.out.own (base' := w.heap.size) E1.out.size
          simpa [HXL.out] using this
        · have hn2 : upV sumV (decide (1 < i)) (upV sumV (decide (i % 2 = 1)) L p0) p1 = (aboveV D1 p1) := by rw [HN1.out]; unfold upV; rw [HD1.out, show decide (1 < i) = false by simpa using hc2]; rfl
          have hfin : xsP rev 128 ++ [leafS sumV (bitV t) rev oth 128, upV sumV (decide (i % 2 = 1)) (leafS sumV (bitV t) rev oth 128) p0, upV sumV (decide (1 < i)) (upV sumV (decide (i % 2 = 1)) (leafS sumV (bitV t) rev oth 128) p0) p1] = xs ++ [L] ++ [(aboveV D p0)] ++ [(aboveV D1 p1)] := by rw [HX.out, HL.out, hn2, HN1.out]; simp
          have HFIN := Lib.hid hfin
          clear hn2 hfin
          go_wp2_with (at_builtin; refine wpList_append_size2 rfl (.tmp 95) (.tmp 97) 40 rfl W1.heap.size 9 inf _ 1 16 Try.underlying40 I1.out I2.out I3.out I4.out rfl (by decide) _ (xs ++ [L] ++ [(aboveV D p0)]).length ((xs ++ [L] ++ [(aboveV D p0)]).map sv) (some ⟨_, 0, none⟩) 1 1 [sv (aboveV D1 p1)] rfl (by simp [Act.eval]) rfl (by simp [sv, Value.oneCell']) (by simp [HXL.out, maxLen]) (by simp [HXL.out]) (own_stab3 ((Ext.refl _).alloc _) ST21.out.own) (Cells.new _ _ [sv (aboveV D1 p1)] rfl) (by have := ST21.out.row.ext.size; simp; omega) ?_; intro v23 w23 hown hgr hbk; have st23 := (ST21.out.ext ((Ext.refl _).alloc _)).app hown hgr; have ST23 := Lib.hid st23; clear st23 hown hgr)
          clear ST21
          go_ret
          refine ⟨_, rfl, ?_, E1.out.trans ST23.out.row.ext⟩
          rw [← HRES.out, HFIN.out]
          have := own_base ST23.out.own (base' := w.heap.size) E1.out.size
          simpa [HXL.out] using this
end Go.Proofs.Ytmmcjcaccicheaa

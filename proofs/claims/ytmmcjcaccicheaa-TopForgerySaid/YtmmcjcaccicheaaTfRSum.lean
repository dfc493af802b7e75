/- The reference's Bytes and Sum. No condition. -/
import Derived.Test.YtmmcjcaccicheaaTfRPad
import Derived.Test.YtmmcjcaccicheaaTfRStep
namespace Go.Proofs.Ytmmcjcaccicheaa
open Go.RowKit
set_option maxHeartbeats 1000000 in
theorem bytes_is (l : Bs) (hl : l.length = 32) (w : World) : Calls Try.prog 14 #[dv l] w fun e w' => e = .returned (.string (bst l)) ∧ Ext w w' := by
  have hA := Arr.new w (dgl l).toArray 34
  have hc := string_back (w.alloc (.cells (dgl l).toArray 34)) w.heap.size 0 32 l hl (fun j x hj => by rw [Nat.zero_add]; exact hA.cell (dgl_get hj))
  rw [bst_mk] at hc
  unfold dv
  go_enter Try.func14, Try.ntmps14
  go_wp2_with fail
  go_ret
  exact ⟨rfl, (Ext.refl w).alloc _⟩
set_option maxRecDepth 100000 in
set_option maxHeartbeats 4000000 in
theorem rsum_is (l : Bs) (hl : l.length < 1073741824) (w : World) : Calls Try.prog 13 #[.string (bst l)] w fun e w' => e = .returned (dv (sumV l)) ∧ Ext w w' := by
  have p0 := (Arr.new w ZDg 34).ext ((Ext.refl _).alloc (.cells ZW8 68))
  have p1 := Arr.new (w.alloc (.cells ZDg 34)) ZW8 68
  have hE : Ext w ((w.alloc (.cells ZDg 34)).alloc (.cells ZW8 68)) := ((Ext.refl w).alloc _).alloc _
  obtain ⟨g0, hg0⟩ : ∃ g, w.heap.size = g := ⟨_, rfl⟩
  rw [World.size_alloc, hg0] at p1
  rw [hg0] at p0
  obtain ⟨W1, hW1⟩ : ∃ W1, (w.alloc (.cells ZDg 34)).alloc (.cells ZW8 68) = W1 := ⟨_, rfl⟩
  rw [hW1] at p0 p1 hE
  have hst := stW8 p1 (by rw [zw8]; rfl) (V8.arr_len initV) (V8.arr_one _)
  have q0 := p0.far (k := g0 + 1) (by omega) initV.arr.toArray
  have q1 := p1.put initV.arr
  have hE1 := hE.setRow (g := g0 + 1) (by omega) initV.arr.toArray
  obtain ⟨W2, hW2⟩ : ∃ W2, W1.setRow (g0 + 1) initV.arr.toArray = W2 := ⟨_, rfl⟩
  rw [hW2] at hst q0 q1 hE1
  have Q0 := Lib.hid q0; have Q1 := Lib.hid q1; have HE := Lib.hid hE1; clear q0 q1 hE1 p0 p1 hE
  go_enter Try.func13, Try.ntmps13
  go_wp2_with fail
  refine (padded_is l hl _).mono ?_
  rintro e w3 ⟨rfl, hE3⟩
  have R0 := Lib.hid (Q0.out.ext hE3); have R1 := Lib.hid (Q1.out.ext hE3); have HE3 := Lib.hid (HE.out.trans hE3); have HG := Lib.hid hg0
  clear Q0 Q1 HE hE3 hst hW1 hW2 hg0
  obtain ⟨m, hm⟩ : ∃ m, padV l = m := ⟨_, rfl⟩
  obtain ⟨N, hN⟩ : ∃ N, (l.length + 72) / 64 = N := ⟨_, rfl⟩
  have hml : m.length = 64 * N := by rw [← hm, pad_len, hN]
  have hNb : N < 16777219 := by omega
  rw [hm]
  have HM := Lib.hid hm; have HN := Lib.hid hN; clear hm hN
  go_wp2_with fail
  go_loopw [5] (fun v5 wr => ∃ i : Nat, i ≤ N ∧ v5 = .int .i64 (64 * (i : Int)) ∧ Arr wr g0 34 ZDg.toList ∧ Arr wr (g0 + 1) 68 (foldV m i).arr ∧ Ext w wr) (fun v5 _ => 64 * N - (intOf v5).toNat)
  case atStart => exact ⟨0, by omega, rfl, R0.out, R1.out, HE3.out⟩
  case round =>
    clear R0 R1 HE3
    obtain ⟨i, hi, rfl, r0, r1, hE⟩ := hrel
    have R0 := Lib.hid r0; have R1 := Lib.hid r1; have HE := Lib.hid hE; clear r0 r1 hE
    by_cases h : i < N
    · obtain ⟨B, hB⟩ : ∃ B, blockV m i = B := ⟨_, rfl⟩
      have hBl : B.length = 64 := by rw [← hB]; exact block_len m (by omega)
      have hex : List.take 64 (List.drop (64 * i) m) = B := hB
      have hfs : foldV m (i + 1) = comprV (foldV m i) B := by rw [foldV, hB]
      obtain ⟨V, hV⟩ : ∃ V, foldV m i = V := ⟨_, rfl⟩
      rw [hV] at R1 hfs
      have HF := Lib.hid hfs; clear hfs hV hB
      have h1 : (0 : Int) ≤ i := Int.natCast_nonneg _
      have h2 : (i : Int) < N := by omega
      have n1 : (64 * (i : Int)).toNat = 64 * i := by omega
      have n2 : (64 * (i : Int) + 64).toNat = 64 * i + 64 := by omega
      have n3 : 64 * i + 64 - 64 * i = 64 := by omega
      have n4 : 64 * (i : Int) + 64 ≤ 64 * N := by omega
      have n5 : (0 : Int) ≤ 64 * i := by omega
      have n6 : (0 : Int) ≤ 64 * i + 64 := by omega
      have n7 : 64 * (i : Int) ≤ 64 * i + 64 := by omega
      have n8 : IntKind.i64.wrap (64 * (i : Int) + 64) = 64 * i + 64 := wrap_i _
      go_wp2_with fail
      refine wp_region_X (T := fun _ => True) (fun wx => Ext wr wx) (by kernel_rfl) (Ext.refl wr).drew (wpX_takes (by kernel_rfl) (fun _ d _ _ _ h => by cases d <;> exact h) (Stab.ext _) (fun _ _ => trivial) (fuel := 3) [1,2,3,4,5] _ _ (by kernel_rfl) ?_)
      iterate 5
        refine wpTk_want rfl (Eq.refl true) ?_
        apply Exists.intro
        refine ⟨fun wx hx => ?_, ?_⟩
        · clear hx
          go_simp
          with_reducible exact gives_ok _ _ _
        simp only [Act.put, List.setIfInBounds_toArray, List.set_cons_zero, List.set_cons_succ]
      refine wpTk_nil ?_
      refine wpX_one 0 (by kernel_rfl) rfl rfl (fun wx hx K hK => ?_)
      have hld := ldW8 (R1.out.ext hx) (V8.arr_len V)
      go_simp
      refine hK _ _ ⟨fun wz => Ext wr wz, Stab.ext _, fun _ _ => trivial, hx, ?_⟩
      clear hld hK K hx wx
      refine wpX_one 6 (by kernel_rfl) rfl rfl (fun wx hx K hK => ?_)
      go_simp
      refine (rstep_is (bst B) B (bst_list B) (by rw [bst_size, hBl]) V wx).mono ?_
      rintro e w5 ⟨rfl, hE5⟩
      refine hK _ _ ⟨fun wz => Ext wr wz, Stab.ext _, fun _ _ => trivial, hx.trans hE5, ?_⟩
      clear hK K hx hE5 w5 wx
      refine wpX_one 7 (by kernel_rfl) rfl rfl (fun wx hx K hK => ?_)
      have hst := stW8 (R1.out.ext hx) (V8.arr_len V) (V8.arr_len (comprV V B)) (V8.arr_one _)
      have q0 := (R0.out.ext hx).far (k := g0 + 1) (by omega) (comprV V B).arr.toArray
      have q1 := (R1.out.ext hx).put (comprV V B).arr
      have hE7 := (HE.out.trans hx).setRow (g := g0 + 1) (by have := HG.out; omega) (comprV V B).arr.toArray
      obtain ⟨W7, hW7⟩ : ∃ W, wx.setRow (g0 + 1) (comprV V B).arr.toArray = W := ⟨_, rfl⟩
      rw [hW7] at hst q0 q1 hE7
      clear hW7
      go_simp
      refine hK _ _ ⟨fun wz => Ext W7 wz, Stab.ext _, fun _ _ => trivial, Ext.refl _, ?_⟩
      clear hK K hx hst wx
      refine wpX_done (by kernel_rfl) (fun W8 hE8 => ?_) _
      have Q0 := Lib.hid (q0.ext hE8); have Q1 := Lib.hid (q1.ext hE8); have HE8 := Lib.hid (hE7.trans hE8)
      clear q0 q1 hE7 hE8
      go_wp2_with fail
      go_roundw
      case rel => exact ⟨i + 1, by omega, by go_num, Q0.out, by rw [HF.out]; exact Q1.out, HE8.out⟩
      case measure => simp [intOf]; omega
    · obtain rfl : i = N := by omega
      obtain ⟨V, hV⟩ : ∃ V, foldV m i = V := ⟨_, rfl⟩
      have hs : sumV l = bytesV V := by
        unfold sumV; rw [HM.out, hml, Nat.mul_div_cancel_left _ (by omega), hV]
      rw [hV] at R1
      have HS := Lib.hid hs; clear hV hs HM HN
      have h1 : ¬ (64 * (i : Int) + 64 ≤ 64 * i) := by omega
      obtain ⟨g6, hg6⟩ : ∃ g, wr.heap.size = g := ⟨_, rfl⟩
      have hlt := R1.out.lt
      rw [hg6] at hlt
      have s0 := R0.out.ext ((Ext.refl wr).alloc (.cells ZDg 34)); have s1 := R1.out.ext ((Ext.refl wr).alloc (.cells ZDg 34))
      have s6 := Arr.new wr ZDg 34
      rw [hg6] at s6
      have hE6 := HE.out.alloc (.cells ZDg 34)
      obtain ⟨W6, hW6⟩ : ∃ W, wr.alloc (.cells ZDg 34) = W := ⟨_, rfl⟩
      rw [hW6] at s0 s1 s6 hE6
      have hst := stDg s6 (by rw [zdg]; rfl) (l' := ZDg.toList) (by rw [zdg]; rfl) (by rw [zdg]; decide)
      have t0 := s0.far (k := g6) (by omega) ZDg.toList.toArray; have t1 := s1.far (k := g6) (by omega) ZDg.toList.toArray; have t6 := s6.put ZDg.toList
      have hE7 := hE6.setRow (g := g6) (by have := HG.out; omega) ZDg.toList.toArray
      obtain ⟨W7, hW7⟩ : ∃ W, W6.setRow g6 ZDg.toList.toArray = W := ⟨_, rfl⟩
      rw [hW7] at hst t0 t1 t6 hE7
      rw [show ZDg.toList.toArray = ZDg by simp] at hst
      have T0 := Lib.hid t0; have T1 := Lib.hid t1; have T6 := Lib.hid t6; have HE7 := Lib.hid hE7; have HL := Lib.hid hlt
      clear t0 t1 t6 hE7 s0 s1 s6 hE6 hlt R0 R1 HE hW7
      go_wp2_with fail
      go_loopw [7] (fun v7 wr => ∃ i : Nat, i ≤ 32 ∧ v7 = .int .i64 i ∧ Arr wr g0 34 ZDg.toList ∧ Arr wr (g0 + 1) 68 V.arr ∧ Arr wr g6 34 (dgl (partB 32 (bytesV V) i)) ∧ Ext w wr) (fun v7 _ => 32 - (intOf v7).toNat)
      case atStart => exact ⟨0, by omega, rfl, T0.out, T1.out, by rw [partB_zero]; have := T6.out; rw [zdg] at this; exact this, HE7.out⟩
      case round =>
        clear T0 T1 T6 HE7
        obtain ⟨j, hj, rfl, t0, t1, t6, hE7⟩ := hrel
        have T0 := Lib.hid t0; have T1 := Lib.hid t1; have T6 := Lib.hid t6; have HE7 := Lib.hid hE7; clear t0 t1 t6 hE7
        by_cases hj2 : j < 32
        · as_aux_lemma =>
            obtain ⟨x, hx⟩ : ∃ x, V.list.getD (j / 4) 0 = x := ⟨_, rfl⟩
            have hb := bytesV_get V hj2
            have cx := T1.out.cell (arr_get V (i := j / 4) (by omega))
            rw [hx] at hb cx
            have hB := bytesV_len V
            obtain ⟨y, hy⟩ : ∃ y, (dgl (partB 32 (bytesV V) j))[j]? = some y := ⟨_, List.getElem?_eq_getElem (by rw [dgl_len, partB_len hB hj]; exact hj2)⟩
            have cy := T6.out.cell hy
            have fy : wr.frozen? ⟨g6, j, none⟩ = false := by simp [World.frozen?, T6.out.heap]
            have hlt := HL.out
            have u0 := T0.out.setFar (k := g6) (i := j) (by omega) (bv (byteOf x (j % 4)))
            have u1 := T1.out.setFar (k := g6) (i := j) (by omega) (bv (byteOf x (j % 4)))
            have u6 := T6.out.setCell (i := j) (bv (byteOf x (j % 4)))
            rw [partB_set hB hb] at u6
            have hEu := HE7.out.setCell (p := ⟨g6, j, none⟩) (by show w.heap.size ≤ g6; have := HG.out; omega) (bv (byteOf x (j % 4)))
            have U0 := Lib.hid u0; have U1 := Lib.hid u1; have U6 := Lib.hid u6; have HEU := Lib.hid hEu; clear u0 u1 u6 hEu hy hb hx hB
            unfold wv at cx
            go_wp2_with fail
            go_roundw
            case rel => exact ⟨j + 1, by omega, by go_num, U0.out, U1.out, U6.out, HEU.out⟩
            case measure => simp [intOf]; omega
        · obtain rfl : j = 32 := by omega
          have t6 := T6.out
          rw [partB_full (bytesV_len V)] at t6
          have hld := ldDg t6 (by rw [dgl_len]; rfl)
          have hst := stDg T0.out (by rw [zdg]; rfl) (l' := dgl (bytesV V)) (by rw [dgl_len]; rfl) (dgl_one _)
          have t0 := T0.out.put (dgl (bytesV V))
          have hE := HE7.out.setRow (g := g0) (Nat.le_of_eq HG.out) (dgl (bytesV V)).toArray
          obtain ⟨L, hL⟩ : ∃ L, dgl (bytesV V) = L := ⟨_, rfl⟩
          have hLl : L.length = 32 := by rw [← hL, dgl_len]; rfl
          have hd : dv (sumV l) = .agg L.toArray := by rw [HS.out]; unfold dv; rw [hL]
          rw [hL] at hld hst t0 hE
          obtain ⟨W9, hW9⟩ : ∃ W, wr.setRow g0 L.toArray = W := ⟨_, rfl⟩
          rw [hW9] at hst t0 hE
          have HD := Lib.hid hd; have TT := Lib.hid t0; have HEE := Lib.hid hE; have HLl := Lib.hid hLl; clear hd t0 hE hW9 hL hLl t6
          go_wp2_with fail
          exact ret_cell (A := ⟨g0, 0, none⟩) rfl rfl (lvDg TT.out HLl.out) rfl ⟨by rw [HD.out], HEE.out⟩
end Go.Proofs.Ytmmcjcaccicheaa

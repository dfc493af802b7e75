/- The program's blocks: an iterator. No condition. -/
import Derived.Test.YtmmcjcaccicheaaTfRow
import Derived.Test.YtmmcjcaccicheaaHiIter
namespace Go.Proofs.Ytmmcjcaccicheaa
open Go.RowKit
attribute [local go_sem] Oper.semAt_some
def PreT (X : Nat → Prop) (w0 : World) (S : Nat → Prop) (W : World) : Prop := Lv X w0 W ∧ ∀ g, g < w0.heap.size → S g → X g
def EncS (x : Bs) (vs : Array Value) (_ : Nat → Prop) (_ : World) : Prop := vs = #[.string (bst x)]
theorem PreT.next {X S S' : Nat → Prop} {w0 W W' : World} (h : PreT X w0 S W) (hv : Lv S W W') (hs : ∀ g, S' g → S g ∨ W.heap.size ≤ g) : PreT X w0 S' W' :=
  ⟨h.1.trans hv (fun g hg hh => h.2 g hg hh), fun g hg hh => (hs g hh).elim (fun h' => h.2 g hg h') (fun h' => by have := h.1.size; omega)⟩
theorem blocksV_get (l : Bs) {i : Nat} (h : i < (l.length + 72) / 64) : (blocksV l)[i]? = some (blockV (padV l) i) := by
  unfold blocksV
  rw [List.getElem?_map, List.getElem?_range h]; rfl
theorem blocksV_pre (l : Bs) {i : Nat} (h : i < (l.length + 72) / 64) : (blocksV l).take (i + 1) = (blocksV l).take i ++ [blockV (padV l) i] := by
  rw [List.take_add_one, blocksV_get l h]; rfl
set_option maxRecDepth 100000 in
set_option maxHeartbeats 8000000 in
theorem blocks_iter (l : Bs) (hl : l.length < 268435456) (gs : Nat) (X : Nat → Prop) (w0 : World) (hKn : ∀ W, Lv X w0 W → Blk W gs (.cells #[.string (bst l)] 9 (0, 0))) :
    Iter Try.prog 56 #[.pointer (some ⟨gs, 0, none⟩)] EncS (blocksV l) (fun _ => False) (PreT X w0) := by
  intro ly J Jx S W hP hSz hJ hJx hY h0
  have HP := Lib.hid hP; have HJ := Lib.hid hJ; have HJX := Lib.hid hJx; have HY := Lib.hid hY; have H0 := Lib.hid h0; have HZ := Lib.hid hSz; have HK := Lib.hid hKn; clear hP hSz hJ hJx hY h0 hKn
  refine callsIn_wide.2 ?_
  simp only [List.append_toArray, List.cons_append, List.nil_append]
  obtain ⟨n, hn⟩ : ∃ n, l.length = n := ⟨_, rfl⟩
  have c0 : W.cell? ⟨gs, 0, none⟩ = some (.string (bst l)) := (HK.out _ HP.out.1).cell 0
  have HN := Lib.hid hn
  rw [hn] at hl
  go_enter Try.func56, Try.ntmps56
  go_wp2_with fail
  go_loopw [4] (fun v4 wr => ∃ (i : Nat) (S' : Nat → Prop), i ≤ n / 64 ∧ v4 = .int .i64 (64 * (i : Int)) ∧ J ((blocksV l).take i) S' wr ∧ PreT X w0 S' wr ∧ (∀ h, S' h → h < wr.heap.size)) (fun v4 _ => 64 * (n / 64) - (intOf v4).toNat)
  case atStart => exact ⟨0, S, Nat.zero_le _, rfl, H0.out, HP.out, HZ.out⟩
  clear c0
  case round =>
    obtain ⟨i, S1, hi, rfl, hJ1, hP1, hZ1⟩ := hrel
    have HJ1 := Lib.hid hJ1; have HP1 := Lib.hid hP1; have HZ1 := Lib.hid hZ1; clear hJ1 hP1 hZ1
    have c0 : wr.cell? ⟨gs, 0, none⟩ = some (.string (bst l)) := (HK.out _ HP1.out.1).cell 0
    by_cases h : i < n / 64
    · have hb : (l.drop (64 * i)).take 64 = blockV (padV l) i := (block_low l (by rw [HN.out]; exact h)).symm
      have hpre := blocksV_pre l (i := i) (by rw [HN.out]; omega)
      obtain ⟨B, hB⟩ : ∃ B, blockV (padV l) i = B := ⟨_, rfl⟩
      rw [hB] at hb hpre
      have hpx : (blocksV l).take i ++ [B] <+: blocksV l := by rw [← hpre]; exact List.take_prefix _ _
      have hR := HY.out _ B #[.string (bst B)] S1 wr HJ1.out hpx rfl
      have HR := Lib.hid hR; have HPX := Lib.hid hpx; have HPR := Lib.hid hpre
      clear hR hpx hpre hB
      have h1 : (0 : Int) ≤ 64 * i := by omega
      have h2 : 64 * (i : Int) + 64 ≤ n := by omega
      have h3 : (64 * (i : Int)).toNat = 64 * i := by omega
      have h4 : (64 * (i : Int) + 64).toNat = 64 * i + 64 := by omega
      have h5 : 64 * i + 64 - 64 * i = 64 := by omega
      have h6 : 64 * (i : Int) ≤ 64 * i + 64 := by omega
      have h7 : (0 : Int) ≤ 64 * (i : Int) + 64 := by omega
      have h8 : 64 * (i : Int) < 64 * ((n : Int) / 64) := by omega
      refine wp_of_In ?_
      obtain ⟨fn, tmps, assign, body, hy, hRR⟩ := HR.out
      gi_wp2
      refine ⟨rfl, hRR.mono ?_⟩
      rintro e W2 ⟨S3, hv2, hs2, hz2, (⟨rfl, hJ2⟩ | ⟨rfl, hJx2⟩)⟩
      case inr =>
        clear hy hRR c0
        have HX := Lib.hid hJx2; clear hv2 hs2 hz2 hJx2
        gi_wp2
        go_wp2_with fail
        refine bodyPost_ret (results_none rfl _ _ _) rfl ?_
        exact ⟨⟨_, rfl⟩, .inr ⟨_, _, HPX.out, HX.out⟩⟩
      case inl =>
        have HP3 := Lib.hid (HP1.out.next hv2 hs2); have HZ3 := Lib.hid hz2
        rw [← HPR.out] at hJ2
        have HJ3 := Lib.hid hJ2
        clear hy hRR c0 hv2 hs2 hz2 hJ2
        gi_wp2
        go_wp2_with fail
        go_roundw
        case rel => exact ⟨i + 1, S3, by omega, by go_num, HJ3.out, HP3.out, HZ3.out⟩
        case measure => simp [intOf]; omega
    · obtain rfl : i = n / 64 := by omega
      have hm1 : n / 64 * 64 ≤ n := by omega
      have h8 : ¬ (64 * ((n / 64 : Nat) : Int) < (n : Int) / 64 * 64) := by omega
      obtain ⟨wb, hwb⟩ : ∃ W, W = wr := ⟨_, rfl⟩
      subst hwb
      obtain ⟨T, hT⟩ : ∃ T, l.drop (n / 64 * 64) = T := ⟨_, rfl⟩
      have hTl : T.length = n % 64 := by rw [← hT, List.length_drop, HN.out]; omega
      have htk : List.take (n - n / 64 * 64) (List.drop (n / 64 * 64) l) = T := by rw [hT, List.take_of_length_le (by omega)]
      obtain ⟨v1, W1, hcv, hrow⟩ := brow_conv (bst T) T (bst_list T) (by simp only [maxLen]; omega) wb wb (Ext.refl wb)
      have HT := Lib.hid hT; have HR1 := Lib.hid hrow; have HTL := Lib.hid hTl; clear hT hrow hTl
      obtain ⟨g1, cap1, hv1, -⟩ := HR1.out.row
      go_wp2_with (at_builtin; refine wpList_append_bytes rfl (.tmp 28) (.tmp 29) 71 rfl v1 _ rfl rfl T [128] (HR1.out.more ((Ext.refl _).alloc _)) (src_new _ 128 128 rfl) bytes_slice (by have := HTL.out; simp; omega) ?_; intro v2 W2 hrow2)
      have HR2 := Lib.hid hrow2
      obtain ⟨z, hz⟩ : ∃ z, zerosN n = z := ⟨_, rfl⟩
      have hz64 : z < 64 := by rw [← hz]; unfold zerosN; omega
      have HZN := Lib.hid hz
      clear hrow2 hcv hz
      go_loopw [5] (fun v5 wq => ∃ k : Nat, k ≤ z ∧ BRow wb wq v5 (T ++ 128 :: List.replicate k 0)) (fun v5 _ => n % 64 + 1 + z - slen v5)
      case atStart => exact ⟨0, Nat.zero_le _, by simpa using HR2.out⟩
      case round =>
        clear HR2 HR1 hv1
        obtain ⟨k, hk, hrow⟩ := hrel
        have HR := Lib.hid hrow; clear hrow
        have hlen : (T ++ 128 :: List.replicate k (0 : UInt8)).length = n % 64 + 1 + k := by have := HTL.out; simp; omega
        obtain ⟨g, cap, rfl, hg0, hgl, hlc, hcm, hcells⟩ := HR.out.cells
        obtain ⟨m, hm⟩ : ∃ m, (T ++ 128 :: List.replicate k (0 : UInt8)).length = m := ⟨_, rfl⟩
        rw [hm] at hlc HR hlen ⊢
        have HC := Lib.hid hcells; have HML := Lib.hid hm; have HLEN := Lib.hid hlen; have hmb : m < 200 := by omega
        clear hcells hm hlen
        by_cases h : k < z
        · as_aux_lemma =>
            have hmod : ¬ ((m : Int) % 64 = 56) := by have := HZN.out; have := HLEN.out; unfold zerosN at *; omega
            go_wp2_with (at_builtin; refine wpList_append_bytes rfl (.tmp 35) (.tmp 36) 71 rfl (.slice (some ⟨g, 0, none⟩) m cap) _ rfl rfl (T ++ 128 :: List.replicate k 0) [0] (HR.out.more ((Ext.refl _).alloc _)) (src_new _ 0 0 rfl) bytes_slice (by rw [HML.out]; simp; omega) ?_; intro v2 W2 hrow2)
            have HR3 := Lib.hid hrow2; clear hrow2
            go_wp2_with fail
            have hl3 := HR3.out.len
            rw [List.length_append, HML.out] at hl3
            refine ⟨⟨k + 1, by omega, by have := HR3.out; simpa [List.replicate_succ'] using this⟩, ?_⟩
            rw [hl3]; have := HLEN.out; simp [slen]; omega
        · obtain rfl : k = z := by omega
          have hmod : (m : Int) % 64 = 56 := by have := HZN.out; have := HLEN.out; unfold zerosN at *; omega
          go_wp2_with fail
          obtain ⟨A, hA⟩ : ∃ A, T ++ 128 :: List.replicate k (0 : UInt8) = A := ⟨_, rfl⟩
          have hAl : A.length = m := by rw [← hA]; exact HML.out
          rw [hA] at HR
          have HA := Lib.hid hA; have HAL := Lib.hid hAl
          clear hA hAl hmod
          go_loopw [5, 6] (fun v5 v6 wq => ∃ j : Nat, j ≤ 8 ∧ v6 = .int .i64 (56 - 8 * (j : Int)) ∧ BRow wb wq v5 (A ++ (lenB n).take j)) (fun _ v6 _ => (intOf v6 + 8).toNat)
          case atStart => exact ⟨0, Nat.zero_le _, rfl, by simpa using HR.out⟩
          case round =>
            clear HR
            obtain ⟨j, hj, rfl, hrow⟩ := hrel
            have HR := Lib.hid hrow; clear hrow
            obtain ⟨g4, cap4, rfl, hg40, hg4l, hlc4, hcm4, hcells⟩ := HR.out.cells
            have hlen4 : (A ++ (lenB n).take j).length = m + j := by
              rw [List.length_append, HAL.out, List.length_take]; show m + min j 8 = m + j; omega
            rw [hlen4] at hlc4 HR ⊢
            have HC4 := Lib.hid hcells; have HML4 := Lib.hid hlen4
            clear hcells hlen4
            by_cases h : j < 8
            · as_aux_lemma =>
                have c1 : wr.cell? ⟨gs, 0, none⟩ = some (.string (bst l)) := HR.out.ext.cell ((HK.out _ HP1.out.1).cell 0)
                obtain ⟨x, hx⟩ : ∃ x, UInt8.ofNat ((n * 8) >>> (8 * (7 - j))) = x := ⟨_, rfl⟩
                have hbx : (n : Int) * 8 / 2 ^ (8 * (7 - j)) % 256 = ub x := by rw [byte_of, hx]; rfl
                have ht := lenB_take n h
                rw [hx] at ht
                have e1 : (56 - 8 * (j : Int)).toNat = 8 * (7 - j) := by omega
                have HT2 := Lib.hid ht; clear ht hx
                have e2 : (0 : Int) ≤ 56 - 8 * j := by omega
                go_wp2_with (at_builtin; refine wpList_append_bytes rfl (.tmp 42) (.tmp 50) 71 rfl (.slice (some ⟨g4, 0, none⟩) (m + j) cap4) _ rfl rfl (A ++ (lenB n).take j) [x] (HR.out.more ((Ext.refl _).alloc _)) (src_new _ _ x rfl) bytes_slice (by rw [HML4.out]; simp; omega) ?_; intro v2 W2 hrow2)
                have HR3 := Lib.hid hrow2; clear hrow2
                go_wp2_with fail
                refine ⟨⟨j + 1, by omega, by go_num, ?_⟩, by simp [intOf]; omega⟩
                rw [HT2.out, ← List.append_assoc]; exact HR3.out
            · obtain rfl : j = 8 := by omega
              have hM : A ++ (lenB n).take 8 = lastV l := by
                rw [lenB_full, ← HA.out]; unfold lastV
                rw [HN.out, HT.out, HZN.out]; simp
              rw [hM] at HR HC4
              obtain ⟨M, hM2⟩ : ∃ M, lastV l = M := ⟨_, rfl⟩
              have hMl : M.length = 64 * ((n + 72) / 64 - n / 64) := by rw [← hM2, last_len, HN.out]
              have hm8 : m + 8 = 64 * ((n + 72) / 64 - n / 64) := by rw [← hMl, ← hM2, ← hM]; exact HML4.out.symm
              rw [hM2] at HR HC4
              have HM2 := Lib.hid hM2
              obtain ⟨Q, hQ⟩ : ∃ Q, (n + 72) / 64 - n / 64 = Q := ⟨_, rfl⟩
              rw [hQ] at hm8 hMl
              have hQ3 : Q < 4 := by omega
              have HQ := Lib.hid hQ; have HMl := Lib.hid hMl; clear hQ hMl hM2 hM
              obtain ⟨N4, hN4⟩ : ∃ N4, m + 8 = N4 := ⟨_, rfl⟩
              rw [show (56 - 8 * ((8 : Nat) : Int)) = -8 from rfl]
              rw [hN4] at hm8 HR hlc4 ⊢
              subst hm8
              have hJ4 := HJ.out _ _ _ _ HJ1.out (Lv.of_ext HR.out.ext)
              have hP4 : PreT X w0 S1 wr := ⟨HP1.out.1.ext HR.out.ext, HP1.out.2⟩
              have hZ4 : ∀ h, S1 h → h < wr.heap.size := fun h hh => Nat.lt_of_lt_of_le (HZ1.out h hh) HR.out.ext.size
              have hn4 : ¬ S1 g4 := fun h => by have := HZ1.out _ h; omega
              obtain ⟨cs, f, hb4, hcs⟩ := HR.out.block
              have HJ4 := Lib.hid hJ4; have HP4 := Lib.hid hP4; have HZ4 := Lib.hid hZ4; have HN4 := Lib.hid hn4; have HB4 := Lib.hid hb4; have HCS := Lib.hid hcs; have HN44 := Lib.hid hN4
              clear hJ4 hP4 hZ4 hn4 hb4 hcs hN4 HR
              go_wp2_with fail
              go_loopw [7] (fun v7 wq => ∃ (i : Nat) (S' : Nat → Prop), i ≤ Q ∧ v7 = .int .i64 (64 * (i : Int)) ∧ J ((blocksV l).take (n / 64 + i)) S' wq ∧ PreT X w0 S' wq ∧ (∀ h, S' h → h < wq.heap.size) ∧ Blk wq g4 (.cells cs 5 f) ∧ ¬ S' g4) (fun v7 _ => 64 * Q - (intOf v7).toNat)
              case atStart => exact ⟨0, S1, Nat.zero_le _, rfl, HJ4.out, HP4.out, HZ4.out, HB4.out, HN4.out⟩
              case round =>
                clear HJ4 HP4 HZ4 HN4 HB4
                obtain ⟨i, S4, hi4, rfl, hJ4, hP4, hZ4, hB4, hN4⟩ := hrel
                have HJ4 := Lib.hid hJ4; have HP4 := Lib.hid hP4; have HZ4 := Lib.hid hZ4; have HB4 := Lib.hid hB4; have HN4 := Lib.hid hN4
                clear hJ4 hP4 hZ4 hB4 hN4
                by_cases h : i < Q
                · have hb : blockV (padV l) (n / 64 + i) = blockV M i := by rw [← HN.out, block_high, HM2.out]
                  have hlt : n / 64 + i < (l.length + 72) / 64 := by rw [HN.out]; have := HQ.out; omega
                  have hpre := blocksV_pre l hlt
                  obtain ⟨B, hB⟩ : ∃ B, blockV M i = B := ⟨_, rfl⟩
                  have hBl : B.length = 64 := by rw [← hB]; exact block_len M (by rw [HMl.out]; omega)
                  rw [hb, hB] at hpre
                  have hcv := string_back wr g4 (64 * i) (cap4 - 64 * i) B hBl (fun j x hj => by
                    rw [HB4.out.cellm]
                    refine HCS.out _ _ ?_
                    rw [← hB] at hj
                    unfold blockV at hj
                    rw [List.getElem?_take] at hj
                    split at hj
                    · rw [List.getElem?_drop] at hj; exact hj
                    · cases hj)
                  rw [bst_mk] at hcv
                  have hpx : (blocksV l).take (n / 64 + i) ++ [B] <+: blocksV l := by rw [← hpre]; exact List.take_prefix _ _
                  have hR := HY.out _ B #[.string (bst B)] S4 wr HJ4.out hpx rfl
                  have HR := Lib.hid hR; have HPX := Lib.hid hpx; have HPR := Lib.hid hpre
                  clear hR hpx hpre hB hb hBl
                  have h1 : (0 : Int) ≤ 64 * i := by omega
                  have h2 : 64 * (i : Int) + 64 ≤ cap4 := by omega
                  have h3 : (64 * (i : Int)).toNat = 64 * i := by omega
                  have h4 : (64 * (i : Int) + 64).toNat = 64 * i + 64 := by omega
                  have h5 : 64 * i + 64 - 64 * i = 64 := by omega
                  have h6 : 64 * (i : Int) ≤ 64 * i + 64 := by omega
                  have h7 : (0 : Int) ≤ 64 * (i : Int) + 64 := by omega
                  have h8 : 64 * (i : Int) < 64 * (Q : Int) := by omega
                  have h9 : ¬ cap4 = 64 * i := by omega
                  refine wp_of_In ?_
                  obtain ⟨fn, tmps, assign, body, hy, hRR⟩ := HR.out
                  gi_wp2
                  refine ⟨rfl, hRR.mono ?_⟩
                  rintro e W2 ⟨S3, hv2, hs2, hz2, (⟨rfl, hJ2⟩ | ⟨rfl, hJx2⟩)⟩
                  case inr =>
                    clear hy hRR
                    have HX := Lib.hid hJx2; clear hv2 hs2 hz2 hJx2
                    gi_wp2
                    go_wp2_with fail
                    refine bodyPost_ret (results_none rfl _ _ _) rfl ?_
                    exact ⟨⟨_, rfl⟩, .inr ⟨_, _, HPX.out, HX.out⟩⟩
                  case inl =>
                    have HP3 := Lib.hid (HP4.out.next hv2 hs2); have HZ3 := Lib.hid hz2
                    have HB3 := Lib.hid (HB4.out.lv hv2 HN4.out)
                    have HN3 := Lib.hid (show ¬ S3 g4 from fun hh => (hs2 _ hh).elim HN4.out (fun h' => by have := HB4.out.lt; omega))
                    rw [← HPR.out] at hJ2
                    have HJ3 := Lib.hid hJ2
                    clear hy hRR hv2 hs2 hz2 hJ2 hcv
                    gi_wp2
                    go_wp2_with fail
                    go_roundw
                    case rel => exact ⟨i + 1, S3, by omega, by go_num, HJ3.out, HP3.out, HZ3.out, HB3.out, HN3.out⟩
                    case measure => simp [intOf]; omega
                · obtain rfl : i = Q := by omega
                  have hall : (blocksV l).take (n / 64 + i) = blocksV l := by
                    refine List.take_of_length_le ?_
                    unfold blocksV
                    rw [List.length_map, List.length_range, HN.out]
                    have := HQ.out; omega
                  have hJf := HJ4.out
                  rw [hall] at hJf
                  have HJF := Lib.hid hJf
                  clear hall hJf
                  go_wp2_with fail
                  refine bodyPost_end (results_none rfl _ _ _) rfl ?_
                  exact ⟨⟨_, rfl⟩, .inl ⟨_, HJF.out⟩⟩
end Go.Proofs.Ytmmcjcaccicheaa

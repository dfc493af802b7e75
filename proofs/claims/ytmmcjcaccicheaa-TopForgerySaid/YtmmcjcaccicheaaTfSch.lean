/- The program's schedule. No condition. -/
import Derived.Test.YtmmcjcaccicheaaTfConst
namespace Go.Proofs.Ytmmcjcaccicheaa
open Go.RowKit
set_option maxRecDepth 100000 in
set_option maxHeartbeats 4000000 in
theorem sched_is (s : ByteArray) (b : Bs) (hsb : s.data.toList = b) (hsz : s.size = 64) (w : World) :
    Calls Try.prog 57 #[.string s] w fun e w' => e = .returned (.agg ((schedV b 64).map wv).toArray) ∧ Ext w w' := by
  have a1 := (Arr.new w ZW64 99).ext ((Ext.refl _).alloc (.cells ZW64 99))
  have a2 := Arr.new (w.alloc (.cells ZW64 99)) ZW64 99
  have hE : Ext w ((w.alloc (.cells ZW64 99)).alloc (.cells ZW64 99)) := ((Ext.refl w).alloc _).alloc _
  rw [World.size_alloc] at a2
  rw [zw64] at a1 a2
  have HA1 := Lib.hid a1; have HA2 := Lib.hid a2; have HE := Lib.hid hE; clear a1 a2 hE
  go_enter Try.func57, Try.ntmps57
  go_wp2_with fail
  obtain ⟨g1, hg1⟩ : ∃ g1, w.heap.size = g1 := ⟨_, rfl⟩
  have hlt : g1 < g1 + 1 := by omega
  rw [hg1] at HA1 HA2
  rw [hg1]
  generalize (w.alloc (.cells ZW64 99)).alloc (.cells ZW64 99) = W at *
  have HS := Lib.hid hsb; clear hsb
  have HG := Lib.hid hg1; clear hg1
  go_loopw [9] (fun v9 wr => ∃ i : Nat, i ≤ 64 ∧ v9 = .int .i64 i ∧ Arr wr g1 99 (partW []) ∧ Arr wr (g1 + 1) 99 (partW (schedV b i)) ∧ Ext w wr) (fun v9 _ => 64 - (intOf v9).toNat)
  case atStart => exact ⟨0, by omega, rfl, HA1.out, HA2.out, HE.out⟩
  case round =>
    obtain ⟨i, hi, rfl, hA1, hA2, hE⟩ := hrel
    have HB1 := Lib.hid hA1; have HB2 := Lib.hid hA2; have HEr := Lib.hid hE; clear hA1 hA2 hE HA1 HA2 HE
    by_cases h : i < 64
    · by_cases h16 : i < 16
      · as_aux_lemma =>
          have hbl : b.length = 64 := by rw [← HS.out]; exact hsz
          obtain ⟨cap, W1, hcv, hcap, hE1, hlt1, hcell, -⟩ := bytes_conv (s.extract (4 * i) (4 * i + 4)) ((b.drop (4 * i)).take 4) (by rw [extract_list HS.out, Nat.add_sub_cancel_left]) wr
          have hl4 : ((b.drop (4 * i)).take 4).length = 4 := by rw [List.length_take, List.length_drop]; omega
          rw [hl4] at hcv hcap
          obtain ⟨gb, hgb⟩ : ∃ gb, wr.heap.size = gb := ⟨_, rfl⟩
          have hlt2 := HB2.out.lt
          have hgt : g1 + 1 < gb := by omega
          rw [hgb] at hcv hcell hlt1
          have hC : ∀ k, k < 4 → ∃ x, W1.cell? ⟨gb, k, none⟩ = some (.int .u8 (x : UInt8).toNat) ∧ by32 b (4 * i + k) = bw x := by
            intro k hk
            have hk2 : 4 * i + k < b.length := by omega
            refine ⟨b[4 * i + k], hcell k _ ?_, by32_get (List.getElem?_eq_getElem hk2)⟩
            rw [List.getElem?_take, if_pos hk, List.getElem?_drop, List.getElem?_eq_getElem hk2]
          have HC := Lib.hid hC
          have HC1 := Lib.hid (HB1.out.ext hE1); have HC2 := Lib.hid (HB2.out.ext hE1); have HEs := Lib.hid (HEr.out.trans hE1)
          clear hC hcell hl4 hgb hE1 HB1 HB2 HEr
          go_wp2_with fail
          clear hcv
          go_loopw [23] (fun v23 wr => ∃ k : Nat, k ≤ 4 ∧ v23 = .int .i64 k ∧ Arr wr g1 99 (partW []) ∧ Arr wr (g1 + 1) 99 ((partW (schedV b i)).set i (wv (accV b i k))) ∧ Ext w wr ∧ ∀ j, j < 4 → wr.cell? ⟨gb, j, none⟩ = W1.cell? ⟨gb, j, none⟩) (fun v23 _ => 4 - (intOf v23).toNat)
          case atStart => exact ⟨0, by omega, rfl, HC1.out, by rw [accV, partW_zero (schedV_len b i) h]; exact HC2.out, HEs.out, fun _ _ => rfl⟩
          case round =>
            clear HC1 HC2 HEs
            obtain ⟨k, hk, rfl, hA1, hA2, hE, hCs⟩ := hrel
            have HB1 := Lib.hid hA1; have HB2 := Lib.hid hA2; have HEr := Lib.hid hE; have HCs := Lib.hid hCs; clear hA1 hA2 hE hCs
            by_cases h4 : k < 4
            · as_aux_lemma =>
                obtain ⟨x, hx, hby⟩ := HC.out k h4
                have cb := (HCs.out k h4).trans hx
                have c1 : wr.cell? ⟨g1 + 1, i, none⟩ = some (wv (accV b i k)) := HB2.out.cell (by rw [List.getElem?_set_self]; rw [partW_len (by rw [schedV_len]; omega)]; exact h)
                have c2 : wr.frozen? ⟨g1 + 1, i, none⟩ = false := by simp [World.frozen?, HB2.out.heap]
                have hA7 := HB2.out.setCell (i := i) (wv (accV b i k <<< 8 ||| bw x))
                rw [List.set_set, ← hby] at hA7
                have hB7 := HB1.out.setFar (k := g1 + 1) (i := i) (by omega) (wv (accV b i k <<< 8 ||| bw x))
                have hE7 := HEr.out.setCell (p := ⟨g1 + 1, i, none⟩) (by show w.heap.size ≤ g1 + 1; have := HG.out; omega) (wv (accV b i k <<< 8 ||| bw x))
                have hC7 : ∀ j, j < 4 → (wr.setCell ⟨g1 + 1, i, none⟩ (wv (accV b i k <<< 8 ||| bw x))).cell? ⟨gb, j, none⟩ = W1.cell? ⟨gb, j, none⟩ := by
                  intro j hj
                  rw [World.cell?_setCell_other _ _ _ _ (fun e => by injection e; omega)]; exact HCs.out j hj
                rw [hby] at hA7
                have hac : accV b i (k + 1) = accV b i k <<< 8 ||| bw x := by rw [accV, hby]
                rw [← hac] at hA7 hB7 hE7 hC7
                have HA7 := Lib.hid hA7; have HB7 := Lib.hid hB7; have HE7 := Lib.hid hE7; have HC7 := Lib.hid hC7; have HAC := Lib.hid hac
                clear hA7 hB7 hE7 hC7 hac hby hx
                unfold wv at c1
                go_wp2_with fail
                refine ⟨⟨k + 1, by omega, by go_num, ?_, ?_, ?_, ?_⟩, by simp [intOf]; omega⟩
                · have := HB7.out; rw [HAC.out] at this; exact this
                · have := HA7.out; rw [HAC.out] at this ⊢; exact this
                · have := HE7.out; rw [HAC.out] at this; exact this
                · have := HC7.out; rw [HAC.out] at this; exact this
            · obtain rfl : k = 4 := by omega
              have hA9 := HB2.out
              have hs9 := partW_set (blkV b i) (l := schedV b i) (by rw [schedV_len]; omega)
              rw [schedV_len] at hs9
              rw [accV_four, hs9, show schedV b i ++ [blkV b i] = schedV b (i + 1) by rw [schedV]; unfold nextW; rw [if_pos h16]] at hA9
              have HA9 := Lib.hid hA9
              clear hs9 hA9
              go_wp2_with fail
              go_roundw
              case rel => exact ⟨i + 1, by omega, by go_num, HB1.out, HA9.out, HEr.out⟩
              case measure => simp [intOf]; omega
      · as_aux_lemma =>
          have hl := schedV_len b i
          obtain ⟨x, hx⟩ : ∃ x, (schedV b i).getD (i - 15) 0 = x := ⟨_, rfl⟩
          obtain ⟨y, hy⟩ : ∃ x, (schedV b i).getD (i - 2) 0 = x := ⟨_, rfl⟩
          obtain ⟨p, hp⟩ : ∃ x, (schedV b i).getD (i - 7) 0 = x := ⟨_, rfl⟩
          obtain ⟨q, hq⟩ : ∃ x, (schedV b i).getD (i - 16) 0 = x := ⟨_, rfl⟩
          have cx := HB2.out.cell (partW_get (l := schedV b i) (i := i - 15) (by omega))
          have cy := HB2.out.cell (partW_get (l := schedV b i) (i := i - 2) (by omega))
          have cp := HB2.out.cell (partW_get (l := schedV b i) (i := i - 7) (by omega))
          have cq := HB2.out.cell (partW_get (l := schedV b i) (i := i - 16) (by omega))
          have c0 : ∃ v, (partW (schedV b i))[i]? = some v := ⟨_, List.getElem?_eq_getElem (by unfold partW; simp [schedV_len]; omega)⟩
          obtain ⟨v0, c0⟩ := c0
          have c1 := HB2.out.cell c0
          have c2 : wr.frozen? ⟨g1 + 1, i, none⟩ = false := by simp [World.frozen?, HB2.out.heap]
          have hlt2 := HB2.out.lt
          have k1 : ((i : Int) - 15).toNat = i - 15 := by omega
          have k2 : ((i : Int) - 2).toNat = i - 2 := by omega
          have k3 : ((i : Int) - 7).toNat = i - 7 := by omega
          have k4 : ((i : Int) - 16).toNat = i - 16 := by omega
          have b3 : (7 : Int) ≤ (i : Int) := by omega
          have b4 : (16 : Int) ≤ (i : Int) := by omega
          have b5 : (i : Int) - 7 < 64 := by omega
          have b6 : (i : Int) - 16 < 64 := by omega
          have b7 : (i : Int) < 64 := by omega
          have e3 : IntKind.i64.wrap ((i : Int) - 7) = i - 7 := wrap_i _
          have e4 : IntKind.i64.wrap ((i : Int) - 16) = i - 16 := wrap_i _
          rw [hx] at cx; rw [hy] at cy; rw [hp] at cp; rw [hq] at cq
          have hnx : nextW b (schedV b i) i = ((((rotV y 17 ^^^ rotV y 19) ^^^ y >>> 10) + p) + ((rotV x 7 ^^^ rotV x 18) ^^^ x >>> 3)) + q := by
            unfold nextW; rw [if_neg (by omega)]; simp only [hx, hy, hp, hq]
          have HN := Lib.hid hnx; clear hnx hx hy hp hq hl c0
          unfold wv at cx cy cp cq
          go_wp2_with fail
          go_region
          go_wp2_with fail
          obtain ⟨T, hT⟩ : ∃ T : World → Prop, T = fun wx => wx.cell? ⟨g1 + 1, i - 7, none⟩ = some (.int .u32 (wn p)) ∧ wx.cell? ⟨g1 + 1, i - 16, none⟩ = some (.int .u32 (wn q)) := ⟨_, rfl⟩
          have hST : ∀ wx, Ext wr wx → T wx := by
            rw [hT]; exact fun wx h => ⟨h.cell cp, h.cell cq⟩
          have hSV : ∀ wx v, Ext wr wx → ∀ wz, Ext (wx.setCell ⟨g1 + 1, i, none⟩ v) wz → T wz := by
            rw [hT]
            intro wx v hx wz hz
            refine ⟨hz.cell ?_, hz.cell ?_⟩
            · rw [World.cell?_setCell_other _ _ _ _ (fun e => by injection e; omega)]; exact hx.cell cp
            · rw [World.cell?_setCell_other _ _ _ _ (fun e => by injection e; omega)]; exact hx.cell cq
          refine wp_region_X (T := T) (fun wx => Ext wr wx) (by kernel_rfl) (Ext.refl wr).drew.drew (wpX_takes (by kernel_rfl) (fun _ d _ _ _ h => by cases d <;> exact h) (Stab.ext _) hST (fuel := 1) [0,1,2,3,4,5,6,7,8,9,10,11,12,13,14,15,16,17,18,19,20,21,22,23,24,25,26,27,28] _ _ (by kernel_rfl) ?_)
          iterate 2
            refine wpTk_want rfl (Eq.refl true) ?_
            apply Exists.intro
            refine ⟨fun wx hx => ?_, ?_⟩
            · rw [hT] at hx
              obtain ⟨d1, d2⟩ := hx
              go_simp
              with_reducible exact gives_ok _ _ _
            simp only [Act.put, List.setIfInBounds_toArray, List.set_cons_zero, List.set_cons_succ]
          refine wpTk_want rfl (Eq.refl true) ⟨wv (rotV y 17), fun wx hx => ?_, ?_⟩
          · clear hx
            go_simp
            refine gives_call _ _ _ ((right_is y 17 (by omega) (by omega) wx).mono ?_)
            rintro e w' ⟨rfl, rfl⟩
            exact ⟨rfl, Ext.refl _⟩
          simp only [Act.put, List.setIfInBounds_toArray, List.set_cons_zero, List.set_cons_succ]
          unfold wv
          iterate 1
            refine wpTk_want rfl (Eq.refl true) ?_
            apply Exists.intro
            refine ⟨fun wx hx => ?_, ?_⟩
            · rw [hT] at hx
              obtain ⟨d1, d2⟩ := hx
              go_simp
              with_reducible exact gives_ok _ _ _
            simp only [Act.put, List.setIfInBounds_toArray, List.set_cons_zero, List.set_cons_succ]
          refine wpTk_want rfl (Eq.refl true) ⟨wv (rotV y 19), fun wx hx => ?_, ?_⟩
          · clear hx
            go_simp
            refine gives_call _ _ _ ((right_is y 19 (by omega) (by omega) wx).mono ?_)
            rintro e w' ⟨rfl, rfl⟩
            exact ⟨rfl, Ext.refl _⟩
          simp only [Act.put, List.setIfInBounds_toArray, List.set_cons_zero, List.set_cons_succ]
          unfold wv
          iterate 10
            refine wpTk_want rfl (Eq.refl true) ?_
            apply Exists.intro
            refine ⟨fun wx hx => ?_, ?_⟩
            · rw [hT] at hx
              obtain ⟨d1, d2⟩ := hx
              go_simp
              with_reducible exact gives_ok _ _ _
            simp only [Act.put, List.setIfInBounds_toArray, List.set_cons_zero, List.set_cons_succ]
          refine wpTk_want rfl (Eq.refl true) ⟨wv (rotV x 7), fun wx hx => ?_, ?_⟩
          · clear hx
            go_simp
            refine gives_call _ _ _ ((right_is x 7 (by omega) (by omega) wx).mono ?_)
            rintro e w' ⟨rfl, rfl⟩
            exact ⟨rfl, Ext.refl _⟩
          simp only [Act.put, List.setIfInBounds_toArray, List.set_cons_zero, List.set_cons_succ]
          unfold wv
          iterate 1
            refine wpTk_want rfl (Eq.refl true) ?_
            apply Exists.intro
            refine ⟨fun wx hx => ?_, ?_⟩
            · rw [hT] at hx
              obtain ⟨d1, d2⟩ := hx
              go_simp
              with_reducible exact gives_ok _ _ _
            simp only [Act.put, List.setIfInBounds_toArray, List.set_cons_zero, List.set_cons_succ]
          refine wpTk_want rfl (Eq.refl true) ⟨wv (rotV x 18), fun wx hx => ?_, ?_⟩
          · clear hx
            go_simp
            refine gives_call _ _ _ ((right_is x 18 (by omega) (by omega) wx).mono ?_)
            rintro e w' ⟨rfl, rfl⟩
            exact ⟨rfl, Ext.refl _⟩
          simp only [Act.put, List.setIfInBounds_toArray, List.set_cons_zero, List.set_cons_succ]
          unfold wv
          iterate 11
            refine wpTk_want rfl (Eq.refl true) ?_
            apply Exists.intro
            refine ⟨fun wx hx => ?_, ?_⟩
            · rw [hT] at hx
              obtain ⟨d1, d2⟩ := hx
              go_simp
              with_reducible exact gives_ok _ _ _
            simp only [Act.put, List.setIfInBounds_toArray, List.set_cons_zero, List.set_cons_succ]
          refine wpTk_nil ?_
          refine wpX_one 29 (by kernel_rfl) rfl rfl (fun wx hx K hK => ?_)
          have d2 := hx.cell c1
          have d3 := (hx.frozen (p := ⟨g1 + 1, i, none⟩) (by show g1 + 1 < _; exact hlt2)).trans c2
          have hA7 := (HB2.out.ext hx).setCell (i := i) (wv (nextW b (schedV b i) i))
          have hp7 := partW_set (nextW b (schedV b i) i) (l := schedV b i) (by rw [schedV_len]; omega)
          rw [schedV_len] at hp7
          rw [hp7] at hA7
          have hB7 := (HB1.out.ext hx).setFar (k := g1 + 1) (i := i) (by omega) (wv (nextW b (schedV b i) i))
          have hE7 := (HEr.out.trans hx).setCell (p := ⟨g1 + 1, i, none⟩) (by show w.heap.size ≤ g1 + 1; have := HG.out; omega) (wv (nextW b (schedV b i) i))
          rw [HN.out] at hA7 hB7 hE7
          have hnx : ∀ W, Arr W (g1 + 1) 99 (partW (schedV b i ++ [((((rotV y 17 ^^^ rotV y 19) ^^^ y >>> 10) + p) + ((rotV x 7 ^^^ rotV x 18) ^^^ x >>> 3)) + q])) → Arr W (g1 + 1) 99 (partW (schedV b (i + 1))) := by
            intro W h; rw [schedV, HN.out]; exact h
          go_simp
          unfold wv at hA7 hB7 hE7
          obtain ⟨W5, hW5⟩ : ∃ W5, wx.setCell ⟨g1 + 1, i, none⟩ (.int .u32 (wn (((((rotV y 17 ^^^ rotV y 19) ^^^ y >>> 10) + p) + ((rotV x 7 ^^^ rotV x 18) ^^^ x >>> 3)) + q))) = W5 := ⟨_, rfl⟩
          have hTW := hSV wx (.int .u32 (wn (((((rotV y 17 ^^^ rotV y 19) ^^^ y >>> 10) + p) + ((rotV x 7 ^^^ rotV x 18) ^^^ x >>> 3)) + q))) hx
          rw [hW5] at hA7 hB7 hE7 hTW ⊢
          replace hA7 := hnx _ hA7
          refine hK _ _ ⟨fun wz => Ext W5 wz, Stab.ext _, hTW, Ext.refl _, ?_⟩
          clear hK K hx hW5 d2 d3 wx hnx HN hSV hTW hST hT
          refine wpX_done (by kernel_rfl) (fun W6 hE6 => ?_) _
          have HA8 := Lib.hid (hA7.ext hE6); have HB8 := Lib.hid (hB7.ext hE6); have HE8 := Lib.hid (hE7.trans hE6)
          clear hA7 hB7 hE7 hE6
          go_wp2_with fail
          go_roundw
          case rel => exact ⟨i + 1, by omega, by go_num, HB8.out, HA8.out, HE8.out⟩
          case measure => simp [intOf]; omega
    · obtain rfl : i = 64 := by omega
      as_aux_lemma =>
        have hl := schedV_len b 64
        have hA9 := HB1.out.put (partW (schedV b 64))
        have hE9 := HEr.out.setRow (g := g1) (Nat.le_of_eq HG.out) (partW (schedV b 64)).toArray
        have hld := ldW64 HB2.out (partW_len (by omega))
        have hst := stW64 HB1.out (l' := partW (schedV b 64)) (partW_len (by simp)) (partW_len (by omega)) (fun v hv => by unfold partW at hv; obtain ⟨x, -, rfl⟩ := List.mem_map.1 hv; rfl)
        rw [partW_full hl] at hld hst hA9 hE9
        obtain ⟨L, hL⟩ : ∃ L, (schedV b 64).map wv = L := ⟨_, rfl⟩
        have hn : L.length = 64 := by rw [← hL]; simp [hl]
        rw [hL] at hld hst hA9 hE9
        obtain ⟨W9, hW9⟩ : ∃ W9, wr.setRow g1 L.toArray = W9 := ⟨_, rfl⟩
        rw [hW9] at hst hA9 hE9
        have HL := Lib.hid hL; have HA9 := Lib.hid hA9; have HE9 := Lib.hid hE9; have HN := Lib.hid hn; clear hL hA9 hE9 hl hn
        go_wp2_with fail
        exact ret_cell (A := ⟨g1, 0, none⟩) rfl rfl (lvW64 HA9.out HN.out) rfl ⟨by rw [HL.out], HE9.out⟩
end Go.Proofs.Ytmmcjcaccicheaa

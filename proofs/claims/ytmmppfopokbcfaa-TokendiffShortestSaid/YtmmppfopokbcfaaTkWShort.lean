/- TokendiffShortest: its walk. -/
import Derived.Test.YtmmppfopokbcfaaTkWRefine
namespace Go.Proofs.Ytmmppfopokbcfaa
open Go.RowKit

theorem one_pc_new (w : World) (x : Pc) (hx : x.wf) : Pcs (w.alloc x.obj) (some ⟨w.heap.size, 0, none⟩) 1 [x] :=
  ⟨rfl, fun p hp => by obtain rfl := List.mem_singleton.1 hp; exact hx, Cells.new w _ x.cells rfl⟩
set_option maxRecDepth 100000 in
set_option maxHeartbeats 8000000 in
theorem shortest_walk {s t : ByteArray} (w : World) (hs : s.size ≤ Reach) (ht : t.size ≤ Reach) :
    Calls Try.prog 5 #[.string s, .string t] w fun e w' => e = .returned (.bool true) ∧ Ext w w' := by
  have HT2 := Lib.hid (two_strs w s t hs ht)
  have HE0 := Lib.hid ((Ext.refl w).alloc (.cells #[.string s, .string t] 9))
  cases hl : longV [s, t] with
  | true =>
    have HL := Lib.hid hl; clear hl
    go_enter Try.func5, Try.ntmps5
    go_wp2_with fail
    refine (long_is HL.out HT2.out (by unfold Reach; omega)).mono ?_
    rintro e w1 ⟨rfl, rfl⟩
    go_wp2_with fail
    refine awake_is.mono ?_
    rintro e w2 ⟨rfl, hE⟩
    have HE2 := Lib.hid (HE0.out.trans hE); clear hE
    go_wp2_with fail
    go_ret
    exact ⟨rfl, HE2.out⟩
  | false =>
    have h1 : s.size ≤ 100 := by simp [longV] at hl; omega
    have h2 : t.size ≤ 100 := by simp [longV] at hl; omega
    have hlen := refine_few s t
    have hch := refine_changed s t
    have hdd := dist_le (wordsV s) (wordsV t)
    have hws := words_few s
    have hwt := words_few t
    have hsf := refine_self s
    have hbd : ∀ x ∈ refineV s t, x.t.size ≤ 200 := fun x hx => by have := (refine_piece hx).1; omega
    obtain ⟨L, hL⟩ : ∃ L, refineV s t = L := ⟨_, rfl⟩
    rw [hL] at hlen hch hbd
    have HL := Lib.hid hl; have HCH := Lib.hid hch; have HBD := Lib.hid hbd; have HSF := Lib.hid hsf; have HLL := Lib.hid hL; clear hl hch hbd hsf hL
    go_enter Try.func5, Try.ntmps5
    go_wp2_with fail
    refine (long_is HL.out HT2.out (by unfold Reach; omega)).mono ?_
    rintro e w1 ⟨rfl, rfl⟩
    go_wp2_with fail
    refine (refine_is h1 h2).mono ?_
    rintro e w2 ⟨A, c, rfl, hc, hP, hE⟩
    rw [HLL.out] at hP hc ⊢
    have HE2 := Lib.hid (HE0.out.trans hE); have HP := Lib.hid hP; clear hE hP
    go_wp2_with fail
    go_loopw [5, 18] (fun v5 v18 wr => ∃ j : Nat, j ≤ L.length ∧ v18 = .int .i64 j ∧ v5 = .int .i64 (sumG changed (L.take j) : Nat) ∧ Ext w2 wr) (fun _ v18 _ => L.length - (intOf v18).toNat)
    case atStart => exact ⟨0, Nat.zero_le _, rfl, rfl, Ext.refl _⟩
    case round =>
      obtain ⟨j, hj, rfl, rfl, hE⟩ := hrel
      have HE3 := Lib.hid hE; clear hE
      have hle := sumG_take changed L j
      rw [HCH.out] at hle
      by_cases hlt : j < L.length
      · obtain ⟨b, off, x, rfl, hb, hx, hwf, c0, c1⟩ := (HP.out.ext HE3.out).get hlt
        obtain ⟨xk, xt⟩ := x
        have hxs : xt.size ≤ 200 := HBD.out _ (List.mem_of_getElem? hx)
        have hst : sumG changed (L.take (j + 1)) = sumG changed (L.take j) + changed ⟨xk, xt⟩ := by
          rw [take_succ_of hx, sumG_app]; simp [sumG]
        have hle1 := sumG_take changed L (j + 1)
        rw [HCH.out, hst] at hle1
        have HST := Lib.hid hst; clear hst hwf hx
        dsimp only at c0 c1
        by_cases hk : xk = 0
        · subst hk
          go_wp2_with fail
          go_roundw
          case rel => exact ⟨j + 1, by omega, by go_num, by rw [HST.out]; simp [changed], HE3.out.alloc _⟩
          case measure => simp [intOf]; omega
        · have q1 : (xk != 0) = true := by simpa using hk
          have hce : changed ⟨xk, xt⟩ = (wordsV xt).length := by simp [changed, hk]
          rw [hce] at hle1
          have HE4 := Lib.hid (HE3.out.alloc (Pc.obj ⟨xk, xt⟩))
          have HCE := Lib.hid hce; clear hce hk
          go_wp2_with fail
          refine (words_is (by omega)).mono ?_
          rintro e w4 ⟨A4, c4, rfl, hc4, -, hE⟩
          have HE5 := Lib.hid (HE4.out.trans hE); clear hE
          go_wp2_with fail
          go_roundw
          case rel => exact ⟨j + 1, by omega, by go_num, by rw [HST.out, HCE.out]; simp, HE5.out⟩
          case measure => simp [intOf]; omega
      · have hn : sumG changed (L.take j) = dist (wordsV s) (wordsV t) := by rw [List.take_of_length_le (by omega), HCH.out]
        rw [hn]
        clear hn
        obtain ⟨D, hD⟩ : ∃ D, dist (wordsV s) (wordsV t) = D := ⟨_, rfl⟩
        rw [hD] at hdd hle ⊢
        have HD := Lib.hid hD; clear hD
        go_wp2_with fail
        refine (refine_is h1 h1).mono ?_
        rintro e w4 ⟨A4, c4, rfl, hc4, hP4, hE⟩
        rw [HSF.out] at hP4 hc4 ⊢
        have HE5 := Lib.hid (HE3.out.trans hE); have HP4 := Lib.hid hP4; clear hE hP4
        by_cases h0 : s.size = 0
        · have q0 := emp_yes h0
          rw [if_pos h0] at HP4 hc4 ⊢
          go_wp2_with fail
          refine (words_is (by omega)).mono ?_
          rintro e w6 ⟨A6, c6, rfl, hc6, hS6, hE⟩
          have HE6 := Lib.hid (HE5.out.trans hE); have HS6 := Lib.hid hS6; clear hE hS6
          go_wp2_with fail
          refine (words_is (by omega)).mono ?_
          rintro e w7 ⟨A7, c7, rfl, hc7, hS7, hE⟩
          have HE7 := Lib.hid (HE6.out.trans hE); have HS7 := Lib.hid hS7; replace HS6 := Lib.hid (HS6.out.ext hE); clear hE hS7
          go_wp2_with fail
          refine (distance_any A6 A7 (wordsV s).length c6 (wordsV t).length c7 (wordsV s) (wordsV t) w7 HS6.out HS7.out (by omega) (by omega) D (by omega) (by rw [← HD.out]; exact last_dist _ _)).mono ?_
          rintro e w8 ⟨rfl, hE⟩
          have HE8 := Lib.hid (HE7.out.trans hE); clear hE
          go_wp2_with fail
          refine awake_is.mono ?_
          rintro e w9 ⟨rfl, hE⟩
          have HE9 := Lib.hid (HE8.out.trans hE); clear hE
          go_wp2_with fail
          go_ret
          exact ⟨rfl, HE2.out.trans HE9.out⟩
        · have q0 := emp_no h0
          rw [if_neg h0] at HP4 hc4 ⊢
          go_wp2_with fail
          refine (samep_is (r := true) (by simp) (HP4.out.ext ((Ext.refl _).alloc _)) (one_pc_new w4 ⟨0, s⟩ ⟨⟨by dsimp only; omega, by dsimp only; omega⟩, hs⟩) (by unfold Reach; simp) (by unfold Reach; omega)).mono ?_
          rintro e w5 ⟨rfl, hE⟩
          replace HE5 := Lib.hid ((HE5.out.alloc _).trans hE); clear hE
          go_wp2_with fail
          refine (words_is (by omega)).mono ?_
          rintro e w6 ⟨A6, c6, rfl, hc6, hS6, hE⟩
          have HE6 := Lib.hid (HE5.out.trans hE); have HS6 := Lib.hid hS6; clear hE hS6
          go_wp2_with fail
          refine (words_is (by omega)).mono ?_
          rintro e w7 ⟨A7, c7, rfl, hc7, hS7, hE⟩
          have HE7 := Lib.hid (HE6.out.trans hE); have HS7 := Lib.hid hS7; replace HS6 := Lib.hid (HS6.out.ext hE); clear hE hS7
          go_wp2_with fail
          refine (distance_any A6 A7 (wordsV s).length c6 (wordsV t).length c7 (wordsV s) (wordsV t) w7 HS6.out HS7.out (by omega) (by omega) D (by omega) (by rw [← HD.out]; exact last_dist _ _)).mono ?_
          rintro e w8 ⟨rfl, hE⟩
          have HE8 := Lib.hid (HE7.out.trans hE); clear hE
          go_wp2_with fail
          refine awake_is.mono ?_
          rintro e w9 ⟨rfl, hE⟩
          have HE9 := Lib.hid (HE8.out.trans hE); clear hE
          go_wp2_with fail
          go_ret
          exact ⟨rfl, HE2.out.trans HE9.out⟩
end Go.Proofs.Ytmmppfopokbcfaa

/- Contract: the reference's Refine. -/
import Derived.Test.YtmmppfopokbcfaaTkRJoin
import Derived.Test.YtmmppfopokbcfaaMyRefDiff
namespace Go.Proofs.Ytmmppfopokbcfaa
open Go.RowKit

theorem own_newP (w : World) (t : TypeId) : (w.alloc (.cells #[] t)).ownsRow w.heap.size t 2 (.slice (some ⟨w.heap.size, 0, none⟩) 0 0) 0 [] :=
  ⟨rfl, .inr ⟨w.heap.size, 0, #[], rfl, Nat.le_refl _, heap_alloc_new w _, Nat.le_refl _, by simp [maxLen], rfl, rfl⟩⟩
theorem cutW_sub (a : Lns) (x y : Int) : ∀ z ∈ cutW a x y, z ∈ a := fun _ h => List.drop_subset _ _ (List.take_subset _ _ h)

set_option maxRecDepth 100000 in
set_option maxHeartbeats 8000000 in
theorem rrefine_any (s t : ByteArray) (w : World) (hs : s.size ≤ 100) (ht : t.size ≤ 100) :
    Calls Try.prog 15 #[.string s, .string t] w fun e w' => ∃ v base, e = .returned v ∧ w'.ownsRow base 30 2 v (refineV s t).length ((refineV s t).flatMap Pc.cells) ∧ w.heap.size ≤ base ∧ Ext w w' := by
  go_enter Try.func15, Try.ntmps15
  go_wp2_with fail
  refine (rwords_is (by omega)).mono ?_
  rintro e w1 ⟨A, c, rfl, hc, hA, hE⟩
  have HA := Lib.hid hA; have HE := Lib.hid hE; clear hA hE
  go_wp2_with fail
  refine (rwords_is (by omega)).mono ?_
  rintro e w2 ⟨B, d, rfl, hd, hB, hE⟩
  have HB := Lib.hid hB; have HE2 := Lib.hid (HE.out.trans hE); replace HA := Lib.hid (HA.out.ext hE); clear hB hE HE
  obtain ⟨a, ha⟩ : ∃ a, wordsV s = a := ⟨_, rfl⟩
  obtain ⟨b, hb⟩ : ∃ b, wordsV t = b := ⟨_, rfl⟩
  have hla : a.length ≤ 100 := by rw [← ha]; exact Nat.le_trans (words_few s) hs
  have hlb : b.length ≤ 100 := by rw [← hb]; exact Nat.le_trans (words_few t) ht
  have hja : (joinV a).size ≤ 100 := by rw [← ha, join_words]; exact hs
  have hjb : (joinV b).size ≤ 100 := by rw [← hb, join_words]; exact ht
  have hna : ∀ x ∈ a, x.size ≠ 0 := by rw [← ha]; exact words_ne s
  have hnb : ∀ x ∈ b, x.size ≠ 0 := by rw [← hb]; exact words_ne t
  have hre : refineV s t = refL a b 0 0 (diffV a b (dist a b)) := by rw [refineV, ha, hb]
  have hok := okF_start (diff_ok a b).1
  have hdl := diff_len a b
  have hdd := dist_le a b
  rw [ha] at HA hc ⊢
  rw [hb] at HB hd ⊢
  have HRE := Lib.hid hre; have HNA := Lib.hid hna; have HNB := Lib.hid hnb; clear hre hna hnb
  clear ha hb
  go_wp2_with fail
  refine (rdiff_any A B a.length c b.length d a b _ HA.out HB.out (by omega) (by omega)).mono ?_
  rintro e w3 ⟨v, N, rfl, ho, hwf, hE⟩
  obtain ⟨ms, hms⟩ : ∃ ms, diffV a b (dist a b) = ms := ⟨_, rfl⟩
  rw [hms] at ho hwf hok hdl
  obtain ⟨C, cc, rfl, hcc, hM⟩ := ownM_mts ho hwf
  obtain rfl := hM.1
  obtain ⟨g, hg⟩ : ∃ g, w3.heap.size = g := ⟨_, rfl⟩
  have HG := Lib.hid hg; have HM := Lib.hid hms; have HO := Lib.hid ho; have HWF := Lib.hid hwf; have HOK := Lib.hid hok; have HE4 := Lib.hid hE
  have hgw : w2.heap.size ≤ g := by rw [← hg]; exact hE.size
  clear hms ho hwf hok hE hM
  go_wp2_with fail
  go_loopw [8, 9, 10, 11] (fun v8 v9 v10 v11 wr => ∃ (j x y : Nat) (L : List Pc), v9 = .int .i64 x ∧ v10 = .int .i64 y ∧ v11 = .int .i64 j ∧ j ≤ ms.length ∧ x ≤ a.length ∧ y ≤ b.length ∧ L.length ≤ 3 * j ∧
    okF a.length b.length x y (ms.drop j) ∧ L ++ refL a b x y (ms.drop j) = refL a b 0 0 ms ∧ wr.ownsRow g 30 2 v8 L.length (L.flatMap Pc.cells) ∧ g ≤ wr.heap.size ∧ OutN g w3 wr) (fun _ _ _ v11 _ => ms.length - (intOf v11).toNat)
  case atStart =>
    refine ⟨0, 0, 0, [], rfl, rfl, rfl, Nat.zero_le _, Nat.zero_le _, Nat.zero_le _, Nat.zero_le _, HOK.out, rfl, ?_, ?_, ⟨Ext.below ((Ext.refl w3).alloc _) (by omega), (Lib.OthersKept.refl _ _ _).alloc _⟩⟩
    · have := own_newP w3 30
      rw [HG.out] at this; exact this
    · have := ((Ext.refl w3).alloc (.cells #[] 30)).size; omega
  case round =>
    obtain ⟨j, x, y, L, rfl, rfl, rfl, hj, hx, hy, hL, hok, hre, hout, hgr, hK⟩ := hrel
    have HK := Lib.hid hK; have HRL := Lib.hid hre; have HOT := Lib.hid hout; clear hK hre hout
    have hoM := HK.out.own HO.out (by decide)
    obtain ⟨C', cc', hv', -, hM⟩ := ownM_mts hoM HWF.out
    obtain ⟨rfl, rfl⟩ : C = C' ∧ cc = cc' := by simpa using hv'
    clear hv' hoM
    by_cases hlt : j < ms.length
    · obtain ⟨bk, off, m, hA, hb1, hm, hwf, c0, c1, c2⟩ := hM.get hlt
      cases hA
      obtain ⟨⟨m1, m2, m3, m4, m5⟩, hok2⟩ := okF_at hm hok
      obtain ⟨ma, mb, mn⟩ := m
      dsimp only at m1 m2 m3 m4 m5 hok2 c0 c1 c2
      obtain ⟨p, rfl⟩ : ∃ p : Nat, ma = p := ⟨ma.toNat, by omega⟩
      obtain ⟨q, rfl⟩ : ∃ p : Nat, mb = p := ⟨mb.toNat, by omega⟩
      obtain ⟨l, rfl⟩ : ∃ p : Nat, mn = p := ⟨mn.toNat, by omega⟩
      have HOK2 := Lib.hid hok2; have HMJ := Lib.hid hm; clear hok2 hm hok hwf hM c0 c1 c2
      have hdM : ∀ wx, OutN g w3 wx → wx.cell? ⟨bk, off + j * 3, none⟩ = some (.int .i64 p) ∧ wx.cell? ⟨bk, off + j * 3 + 1, none⟩ = some (.int .i64 q) ∧ wx.cell? ⟨bk, off + j * 3 + 2, none⟩ = some (.int .i64 l) := by
        intro wx hx
        obtain ⟨C2, cc2, hv2, -, hM2⟩ := ownM_mts (hx.own HO.out (by decide)) HWF.out
        cases hv2
        obtain ⟨b2, o2, m2, hA2, -, hm2, -, e0, e1, e2⟩ := hM2.get hlt
        cases hA2
        rw [HMJ.out] at hm2
        cases hm2
        exact ⟨e0, e1, e2⟩
      have DM := Lib.hid hdM; clear hdM
      obtain ⟨d0, d1, d2⟩ := DM.out wr HK.out
      go_wp2_with fail
      refine (rjoin_any _ (p - x) _ (cutW a x p) wr (strs_cutW (HA.out.ext (outN_ext HE4.out hgw HK.out)) hc (by omega) (by omega) (if_neg (by omega))) (by omega) (Nat.le_trans (joinV_le _ _ _) (by omega))).mono ?_
      rintro e Wr' ⟨rfl, rfl⟩
      go_wp2_with fail
      refine (radd_any 1 (cutW a x p) _ rfl (fun z hz => HNA.out z (cutW_sub _ _ _ z hz)) _ g L Wr' HOT.out (by omega) hgr).mono ?_
      rintro e W6 ⟨vW6, rfl, hot, hk⟩
      have HK6 := Lib.hid (HK.out.trans hk); have HT6 := Lib.hid hot; have hg6 : g ≤ W6.heap.size := Nat.le_trans hgr hk.1.size
      have hlW6 := pcV_len 1 (cutW a x p)
      clear hot hk d0 d1 d2
      obtain ⟨d0, d1, d2⟩ := DM.out W6 HK6.out
      go_wp2_with fail
      refine (rjoin_any _ (q - y) _ (cutW b y q) W6 (strs_cutW (HB.out.ext (outN_ext HE4.out hgw HK6.out)) hd (by omega) (by omega) (if_neg (by omega))) (by omega) (Nat.le_trans (joinV_le _ _ _) (by omega))).mono ?_
      rintro e W6' ⟨rfl, rfl⟩
      go_wp2_with fail
      refine (radd_any 2 (cutW b y q) _ rfl (fun z hz => HNB.out z (cutW_sub _ _ _ z hz)) _ g (L ++ pcV 1 (cutW a x p)) W6' HT6.out (by rw [List.length_append]; omega) hg6).mono ?_
      rintro e W7 ⟨vW7, rfl, hot, hk⟩
      have HK7 := Lib.hid (HK6.out.trans hk); have HT7 := Lib.hid hot; have hg7 : g ≤ W7.heap.size := Nat.le_trans hg6 hk.1.size
      have hlW7 := pcV_len 2 (cutW b y q)
      clear hot hk d0 d1 d2
      have hd := DM.out W7 HK7.out
      obtain ⟨d0, d1, d2⟩ := hd
      go_wp2_with fail
      go_quiet (fail)
      clear d0 d1 d2
      have HKx := Lib.hid (HK7.out.drewN nq); have HTx := Lib.hid (own_stab3 ((Ext.refl W7).drewN nq) HT7.out)
      have hgx : g ≤ (W7.drewN nq).heap.size := Nat.le_trans hg7 ((Ext.refl W7).drewN nq).size
      generalize W7.drewN nq = W7' at HKx HTx hgx ⊢
      obtain ⟨d0, d1, d2⟩ := DM.out W7' HKx.out
      have hw8 : p + l ≤ a.length := by omega
      go_wp2_with fail
      refine (rjoin_any _ l _ (cutW a p ((p : Int) + l)) W7' (strs_cutL (HA.out.ext (outN_ext HE4.out hgw HKx.out)) hc (by omega) (if_neg (by omega))) (by omega) (Nat.le_trans (joinV_le _ _ _) (by omega))).mono ?_
      rintro e W8' ⟨rfl, rfl⟩
      go_wp2_with fail
      refine (radd_any 0 (cutW a p ((p : Int) + l)) _ rfl (fun z hz => HNA.out z (cutW_sub _ _ _ z hz)) _ g (L ++ pcV 1 (cutW a x p) ++ pcV 2 (cutW b y q)) W8' HTx.out (by rw [List.length_append, List.length_append]; omega) hgx).mono ?_
      rintro e W8 ⟨v8', rfl, hot, hk⟩
      have HK8 := Lib.hid (HKx.out.trans hk); have HT8 := Lib.hid hot; have hg8 : g ≤ W8.heap.size := Nat.le_trans hgx hk.1.size
      have hl3 := pcV_len 0 (cutW a p ((p : Int) + l))
      clear hot hk d0 d1 d2
      go_wp2_with fail
      go_roundw
      case rel =>
        refine ⟨j + 1, p + l, q + l, _, by go_num, by go_num, by go_num, by omega, by omega, by omega, ?_, HOK2.out, ?_, HT8.out, hg8, HK8.out⟩
        · rw [List.length_append, List.length_append, List.length_append]; omega
        · rw [← HRL.out, drop_of HMJ.out, refL]; simp only [List.append_assoc]; rfl
      case measure => simp [intOf]; omega
    · have hjN : j = ms.length := by omega
      have hre := HRL.out
      rw [hjN, List.drop_length, refL] at hre
      have HRF := Lib.hid hre
      clear hre hok hM hjN
      by_cases e1 : c = x <;> by_cases e2 : d = y
      · skip
        go_wp2_with fail
        refine (rjoin_any _ (a.length - x) _ (a.drop x) wr (strs_cutE (HA.out.ext (outN_ext HE4.out hgw HK.out)) hc (by omega) (by first | exact if_neg (by omega) | exact if_pos (by omega))) (by omega) (Nat.le_trans (joinV_sub (List.drop_sublist _ _)) (by omega))).mono ?_
        rintro e W5' ⟨rfl, rfl⟩
        go_wp2_with fail
        refine (radd_any 1 (a.drop x) _ rfl (fun z hz => HNA.out z (List.drop_subset _ _ hz)) _ g L W5' HOT.out (by omega) hgr).mono ?_
        rintro e W5 ⟨v5, rfl, hot, hk⟩
        have HK5 := Lib.hid (HK.out.trans hk); have HT5 := Lib.hid hot; have hg5 : g ≤ W5.heap.size := Nat.le_trans hgr hk.1.size
        have hl1 := pcV_len 1 (a.drop x)
        clear hot hk
        go_wp2_with fail
        refine (rjoin_any _ (b.length - y) _ (b.drop y) W5 (strs_cutE (HB.out.ext (outN_ext HE4.out hgw HK5.out)) hd (by omega) (by first | exact if_neg (by omega) | exact if_pos (by omega))) (by omega) (Nat.le_trans (joinV_sub (List.drop_sublist _ _)) (by omega))).mono ?_
        rintro e W6' ⟨rfl, rfl⟩
        go_wp2_with fail
        refine (radd_any 2 (b.drop y) _ rfl (fun z hz => HNB.out z (List.drop_subset _ _ hz)) _ g (L ++ pcV 1 (a.drop x)) W6' HT5.out (by rw [List.length_append]; omega) hg5).mono ?_
        rintro e W6 ⟨v6, rfl, ho6, hk⟩
        have HK6 := Lib.hid (HK5.out.trans hk); have HO6 := Lib.hid ho6
        clear ho6 hk
        go_wp2_with fail
        go_ret
        have h9 := HO6.out
        refine ⟨v6, g, rfl, ?_, Nat.le_trans HE2.out.size hgw, HE2.out.trans (outN_ext HE4.out hgw HK6.out)⟩
        rw [HRE.out, HM.out, ← HRF.out, ← List.append_assoc]; exact h9
      · skip
        go_wp2_with fail
        refine (rjoin_any _ (a.length - x) _ (a.drop x) wr (strs_cutE (HA.out.ext (outN_ext HE4.out hgw HK.out)) hc (by omega) (by first | exact if_neg (by omega) | exact if_pos (by omega))) (by omega) (Nat.le_trans (joinV_sub (List.drop_sublist _ _)) (by omega))).mono ?_
        rintro e W5' ⟨rfl, rfl⟩
        go_wp2_with fail
        refine (radd_any 1 (a.drop x) _ rfl (fun z hz => HNA.out z (List.drop_subset _ _ hz)) _ g L W5' HOT.out (by omega) hgr).mono ?_
        rintro e W5 ⟨v5, rfl, hot, hk⟩
        have HK5 := Lib.hid (HK.out.trans hk); have HT5 := Lib.hid hot; have hg5 : g ≤ W5.heap.size := Nat.le_trans hgr hk.1.size
        have hl1 := pcV_len 1 (a.drop x)
        clear hot hk
        go_wp2_with fail
        refine (rjoin_any _ (b.length - y) _ (b.drop y) W5 (strs_cutE (HB.out.ext (outN_ext HE4.out hgw HK5.out)) hd (by omega) (by first | exact if_neg (by omega) | exact if_pos (by omega))) (by omega) (Nat.le_trans (joinV_sub (List.drop_sublist _ _)) (by omega))).mono ?_
        rintro e W6' ⟨rfl, rfl⟩
        go_wp2_with fail
        refine (radd_any 2 (b.drop y) _ rfl (fun z hz => HNB.out z (List.drop_subset _ _ hz)) _ g (L ++ pcV 1 (a.drop x)) W6' HT5.out (by rw [List.length_append]; omega) hg5).mono ?_
        rintro e W6 ⟨v6, rfl, ho6, hk⟩
        have HK6 := Lib.hid (HK5.out.trans hk); have HO6 := Lib.hid ho6
        clear ho6 hk
        go_wp2_with fail
        go_ret
        have h9 := HO6.out
        refine ⟨v6, g, rfl, ?_, Nat.le_trans HE2.out.size hgw, HE2.out.trans (outN_ext HE4.out hgw HK6.out)⟩
        rw [HRE.out, HM.out, ← HRF.out, ← List.append_assoc]; exact h9
      · skip
        go_wp2_with fail
        refine (rjoin_any _ (a.length - x) _ (a.drop x) wr (strs_cutE (HA.out.ext (outN_ext HE4.out hgw HK.out)) hc (by omega) (by first | exact if_neg (by omega) | exact if_pos (by omega))) (by omega) (Nat.le_trans (joinV_sub (List.drop_sublist _ _)) (by omega))).mono ?_
        rintro e W5' ⟨rfl, rfl⟩
        go_wp2_with fail
        refine (radd_any 1 (a.drop x) _ rfl (fun z hz => HNA.out z (List.drop_subset _ _ hz)) _ g L W5' HOT.out (by omega) hgr).mono ?_
        rintro e W5 ⟨v5, rfl, hot, hk⟩
        have HK5 := Lib.hid (HK.out.trans hk); have HT5 := Lib.hid hot; have hg5 : g ≤ W5.heap.size := Nat.le_trans hgr hk.1.size
        have hl1 := pcV_len 1 (a.drop x)
        clear hot hk
        go_wp2_with fail
        refine (rjoin_any _ (b.length - y) _ (b.drop y) W5 (strs_cutE (HB.out.ext (outN_ext HE4.out hgw HK5.out)) hd (by omega) (by first | exact if_neg (by omega) | exact if_pos (by omega))) (by omega) (Nat.le_trans (joinV_sub (List.drop_sublist _ _)) (by omega))).mono ?_
        rintro e W6' ⟨rfl, rfl⟩
        go_wp2_with fail
        refine (radd_any 2 (b.drop y) _ rfl (fun z hz => HNB.out z (List.drop_subset _ _ hz)) _ g (L ++ pcV 1 (a.drop x)) W6' HT5.out (by rw [List.length_append]; omega) hg5).mono ?_
        rintro e W6 ⟨v6, rfl, ho6, hk⟩
        have HK6 := Lib.hid (HK5.out.trans hk); have HO6 := Lib.hid ho6
        clear ho6 hk
        go_wp2_with fail
        go_ret
        have h9 := HO6.out
        refine ⟨v6, g, rfl, ?_, Nat.le_trans HE2.out.size hgw, HE2.out.trans (outN_ext HE4.out hgw HK6.out)⟩
        rw [HRE.out, HM.out, ← HRF.out, ← List.append_assoc]; exact h9
      · skip
        go_wp2_with fail
        refine (rjoin_any _ (a.length - x) _ (a.drop x) wr (strs_cutE (HA.out.ext (outN_ext HE4.out hgw HK.out)) hc (by omega) (by first | exact if_neg (by omega) | exact if_pos (by omega))) (by omega) (Nat.le_trans (joinV_sub (List.drop_sublist _ _)) (by omega))).mono ?_
        rintro e W5' ⟨rfl, rfl⟩
        go_wp2_with fail
        refine (radd_any 1 (a.drop x) _ rfl (fun z hz => HNA.out z (List.drop_subset _ _ hz)) _ g L W5' HOT.out (by omega) hgr).mono ?_
        rintro e W5 ⟨v5, rfl, hot, hk⟩
        have HK5 := Lib.hid (HK.out.trans hk); have HT5 := Lib.hid hot; have hg5 : g ≤ W5.heap.size := Nat.le_trans hgr hk.1.size
        have hl1 := pcV_len 1 (a.drop x)
        clear hot hk
        go_wp2_with fail
        refine (rjoin_any _ (b.length - y) _ (b.drop y) W5 (strs_cutE (HB.out.ext (outN_ext HE4.out hgw HK5.out)) hd (by omega) (by first | exact if_neg (by omega) | exact if_pos (by omega))) (by omega) (Nat.le_trans (joinV_sub (List.drop_sublist _ _)) (by omega))).mono ?_
        rintro e W6' ⟨rfl, rfl⟩
        go_wp2_with fail
        refine (radd_any 2 (b.drop y) _ rfl (fun z hz => HNB.out z (List.drop_subset _ _ hz)) _ g (L ++ pcV 1 (a.drop x)) W6' HT5.out (by rw [List.length_append]; omega) hg5).mono ?_
        rintro e W6 ⟨v6, rfl, ho6, hk⟩
        have HK6 := Lib.hid (HK5.out.trans hk); have HO6 := Lib.hid ho6
        clear ho6 hk
        go_wp2_with fail
        go_ret
        have h9 := HO6.out
        refine ⟨v6, g, rfl, ?_, Nat.le_trans HE2.out.size hgw, HE2.out.trans (outN_ext HE4.out hgw HK6.out)⟩
        rw [HRE.out, HM.out, ← HRF.out, ← List.append_assoc]; exact h9
end Go.Proofs.Ytmmppfopokbcfaa

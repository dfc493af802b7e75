/- Contracts: the reference's Old, New, Render. -/
import Derived.Test.YtmmppfopokbcfaaTkRQuote
namespace Go.Proofs.Ytmmppfopokbcfaa
open Go.RowKit

theorem app_empty (s : ByteArray) : s ++ (⟨#[]⟩ : ByteArray) = s := by
  apply toList_inj
  rw [ByteArray.toList_eq, ByteArray.toList_eq, ByteArray.data_append]; simp
theorem app_mk (a b : Bs) : mkS a ++ mkS b = mkS (a ++ b) := by
  apply toList_inj
  rw [ByteArray.toList_eq, ByteArray.toList_eq, ByteArray.data_append, Array.toList_append]; rfl
theorem side_snoc (k : Int) (l : List Pc) (x : Pc) : sideV k (l ++ [x]) = sideV k l ++ (if decide (x.k ≠ k) then x.t else ⟨#[]⟩) := by
  unfold sideV
  rw [bytes_snoc, ← app_mk]
  congr 1
  by_cases h : x.k = k
  · simp [h]; rfl
  · simp [h, mkS_of]

set_option maxRecDepth 100000 in
set_option maxHeartbeats 8000000 in
theorem rold_any (A : Option Addr) (n c : Nat) (l : List Pc) (w : World) (hS : Pcs w A n l) (hn : n ≤ 100000) (hl : sizeS l ≤ 80000) :
    Calls Try.prog 31 #[.slice A n c] w fun e w' => e = .returned (.string (sideV 2 l)) ∧ w' = w := by
  have HS := Lib.hid hS; have HL := Lib.hid hS.1; clear hS
  have hbn := bytes_le (fun x => decide (x.k ≠ 2)) l
  go_enter Try.func31, Try.ntmps31
  go_wp2_with fail
  go_loop [3, 4] (fun v3 v4 => ∃ j : Nat, j ≤ n ∧ v4 = .int .i64 j ∧ v3 = .string (sideV 2 (l.take j))) (fun _ v4 => n - (intOf v4).toNat)
  case atStart => exact ⟨0, Nat.zero_le _, rfl, rfl⟩
  case round =>
    obtain ⟨j, hj, rfl, rfl⟩ := hrel
    by_cases hlt : j < n
    · obtain ⟨b, off, x, rfl, hb, hx, hwf, c0, c1⟩ := HS.out.get hlt
      obtain ⟨xk, xt⟩ := x
      dsimp only at c0 c1
      have hst : sideV 2 (l.take (j + 1)) = sideV 2 (l.take j) ++ (if decide (xk ≠ 2) then xt else ⟨#[]⟩) := by
        rw [take_succ_of hx]; exact side_snoc _ _ _
      have hle := bytes_take (fun x => decide (x.k ≠ 2)) l (j + 1)
      have hs2 : (sideV 2 (l.take (j + 1))).size ≤ 80000 := by rw [sideV, mkS_size]; omega
      have HST := Lib.hid hst; clear hx hwf hle
      by_cases hk : xk = 2
      · have q1 : (xk != 2) = false := by simpa using hk
        have hd : decide (xk ≠ 2) = false := by simpa using hk
        rw [hd] at HST
        clear hk hst
        go_wp2_with fail
        go_round
        case rel =>
          refine ⟨j + 1, by omega, by go_num, ?_⟩
          have h9 := HST.out
          rw [if_neg (by simp)] at h9
          rw [h9, app_empty]
        case measure => simp [intOf]; omega
      · have q1 : (xk != 2) = true := by simpa using hk
        have hd : decide (xk ≠ 2) = true := by simpa using hk
        rw [hd, if_pos rfl] at hst
        have hsum : (sideV 2 (l.take j)).size + xt.size ≤ 80000 := by rw [← ByteArray.size_append, ← hst]; exact hs2
        have hc1 : ¬ (9223372036854775807 < (sideV 2 (l.take j)).size + xt.size) := by omega
        have HST := Lib.hid hst
        clear hk hst hs2
        go_wp2_with fail
        go_round
        case rel => exact ⟨j + 1, by omega, by go_num, by rw [HST.out]⟩
        case measure => simp [intOf]; omega
    · have h9 : l.take j = l := List.take_of_length_le (by rw [HL.out]; omega)
      rw [h9]
      clear h9
      go_wp2_with fail
      go_ret
      exact ⟨rfl, rfl⟩

set_option maxRecDepth 100000 in
set_option maxHeartbeats 8000000 in
theorem rnew_any (A : Option Addr) (n c : Nat) (l : List Pc) (w : World) (hS : Pcs w A n l) (hn : n ≤ 100000) (hl : sizeS l ≤ 80000) :
    Calls Try.prog 33 #[.slice A n c] w fun e w' => e = .returned (.string (sideV 1 l)) ∧ w' = w := by
  have HS := Lib.hid hS; have HL := Lib.hid hS.1; clear hS
  have hbn := bytes_le (fun x => decide (x.k ≠ 1)) l
  go_enter Try.func33, Try.ntmps33
  go_wp2_with fail
  go_loop [3, 4] (fun v3 v4 => ∃ j : Nat, j ≤ n ∧ v4 = .int .i64 j ∧ v3 = .string (sideV 1 (l.take j))) (fun _ v4 => n - (intOf v4).toNat)
  case atStart => exact ⟨0, Nat.zero_le _, rfl, rfl⟩
  case round =>
    obtain ⟨j, hj, rfl, rfl⟩ := hrel
    by_cases hlt : j < n
    · obtain ⟨b, off, x, rfl, hb, hx, hwf, c0, c1⟩ := HS.out.get hlt
      obtain ⟨xk, xt⟩ := x
      dsimp only at c0 c1
      have hst : sideV 1 (l.take (j + 1)) = sideV 1 (l.take j) ++ (if decide (xk ≠ 1) then xt else ⟨#[]⟩) := by
        rw [take_succ_of hx]; exact side_snoc _ _ _
      have hle := bytes_take (fun x => decide (x.k ≠ 1)) l (j + 1)
      have hs2 : (sideV 1 (l.take (j + 1))).size ≤ 80000 := by rw [sideV, mkS_size]; omega
      have HST := Lib.hid hst; clear hx hwf hle
      by_cases hk : xk = 1
      · have q1 : (xk != 1) = false := by simpa using hk
        have hd : decide (xk ≠ 1) = false := by simpa using hk
        rw [hd] at HST
        clear hk hst
        go_wp2_with fail
        go_round
        case rel =>
          refine ⟨j + 1, by omega, by go_num, ?_⟩
          have h9 := HST.out
          rw [if_neg (by simp)] at h9
          rw [h9, app_empty]
        case measure => simp [intOf]; omega
      · have q1 : (xk != 1) = true := by simpa using hk
        have hd : decide (xk ≠ 1) = true := by simpa using hk
        rw [hd, if_pos rfl] at hst
        have hsum : (sideV 1 (l.take j)).size + xt.size ≤ 80000 := by rw [← ByteArray.size_append, ← hst]; exact hs2
        have hc1 : ¬ (9223372036854775807 < (sideV 1 (l.take j)).size + xt.size) := by omega
        have HST := Lib.hid hst
        clear hk hst hs2
        go_wp2_with fail
        go_round
        case rel => exact ⟨j + 1, by omega, by go_num, by rw [HST.out]⟩
        case measure => simp [intOf]; omega
    · have h9 : l.take j = l := List.take_of_length_le (by rw [HL.out]; omega)
      rw [h9]
      clear h9
      go_wp2_with fail
      go_ret
      exact ⟨rfl, rfl⟩

set_option maxRecDepth 100000 in
set_option maxHeartbeats 16000000 in
theorem rrender_any (A : Option Addr) (n c : Nat) (l : List Pc) (w : World) (hS : Pcs w A n l) (hn : n ≤ 100000) (hl : (rendL l).length ≤ 80000) :
    Calls Try.prog 28 #[.slice A n c] w fun e w' => e = .returned (.tuple #[.string (rendV l), .int .i64 (renE l)]) ∧ Ext w w' := by
  have HS := Lib.hid hS; have HL := Lib.hid hS.1; clear hS
  cases hv : vldV l with
  | false =>
    have hr : rendV l = mkS [] := by rw [rendV, if_neg (by simp [hv])]
    have hr2 : renE l = 1 := by rw [renE, if_neg (by simp [hv])]
    rw [hr, hr2]
    have HV := Lib.hid hv; clear hv hr hr2
    go_enter Try.func28, Try.ntmps28
    go_wp2_with fail
    refine (rvalid_any A n c l w HS.out (by unfold Reach; omega)).mono ?_
    rintro e w1 ⟨rfl, hE⟩
    rw [HV.out]
    go_wp2_with fail
    go_ret2
    exact ⟨rfl, hE⟩
  | true =>
    have hr : rendV l = mkS (rendL l) := by rw [rendV, if_pos hv]
    have hr2 : renE l = 0 := by rw [renE, if_pos hv]
    rw [hr, hr2]
    have HV := Lib.hid hv; clear hv hr hr2
    go_enter Try.func28, Try.ntmps28
    go_wp2_with fail
    refine (rvalid_any A n c l w HS.out (by unfold Reach; omega)).mono ?_
    rintro e w1 ⟨rfl, hE⟩
    rw [HV.out]
    have HS1 := Lib.hid (HS.out.ext hE); have HE := Lib.hid hE; clear hE
    go_wp2_with fail
    go_loopw [4, 5] (fun v4 v5 wr => ∃ j : Nat, j ≤ n ∧ v5 = .int .i64 j ∧ v4 = .string (mkS (rendL (l.take j))) ∧ Ext w1 wr) (fun _ v5 _ => n - (intOf v5).toNat)
    case atStart => exact ⟨0, Nat.zero_le _, rfl, rfl, Ext.refl _⟩
    case round =>
      obtain ⟨j, hj, rfl, rfl, hk⟩ := hrel
      have HK := Lib.hid hk; clear hk
      by_cases hlt : j < n
      · obtain ⟨b, off, x, rfl, hb, hx, hwf, c0, c1⟩ := (HS1.out.ext HK.out).get hlt
        obtain ⟨xk, xt⟩ := x
        dsimp only at c0 c1
        have hle := rend_take l (j + 1)
        have hle1 := rend_take l j
        rw [take_succ_of hx, rend_snoc] at hle
        simp only [List.length_append] at hle
        have hj1 : (mkS (rendL (l.take j))).size ≤ 80000 := by rw [mkS_size]; omega
        have hj2 : (mkS (quoteL xt.data.toList)).size ≤ 80000 := by rw [mkS_size]; omega
        by_cases h1 : xk = 1
        · subst h1
          have hst : mkS (rendL (l.take (j + 1))) = mkS (rendL (l.take j)) ++ ((⟨#[91, 45]⟩ : ByteArray) ++ mkS (quoteL xt.data.toList) ++ (⟨#[45, 93]⟩ : ByteArray)) := by
            rw [take_succ_of hx, rend_snoc]
            apply toList_inj
            rw [show lead (1 : Int) = [91, 45] from rfl, show trail (1 : Int) = [45, 93] from rfl]
            simp [ByteArray.toList_eq, ByteArray.data_append, mkS]
          have HST := Lib.hid hst; clear hst hx hwf
          go_wp2_with fail
          refine (rquote_any xt _ (by omega)).mono ?_
          rintro e w2 ⟨rfl, hE⟩
          have HE2 := Lib.hid (HK.out.trans hE)
          have c0 := hE.cell c0
          clear hE
          go_wp2_with fail
          go_roundw
          case rel => exact ⟨j + 1, by omega, by go_num, by rw [HST.out], HE2.out⟩
          case measure => simp [intOf]; omega
        by_cases h2 : xk = 2
        · subst h2
          have hst : mkS (rendL (l.take (j + 1))) = mkS (rendL (l.take j)) ++ ((⟨#[123, 43]⟩ : ByteArray) ++ mkS (quoteL xt.data.toList) ++ (⟨#[43, 125]⟩ : ByteArray)) := by
            rw [take_succ_of hx, rend_snoc]
            apply toList_inj
            rw [show lead (2 : Int) = [123, 43] from rfl, show trail (2 : Int) = [43, 125] from rfl]
            simp [ByteArray.toList_eq, ByteArray.data_append, mkS]
          have HST := Lib.hid hst; clear hst hx hwf
          go_wp2_with fail
          refine (rquote_any xt _ (by omega)).mono ?_
          rintro e w2 ⟨rfl, hE⟩
          have HE2 := Lib.hid (HK.out.trans hE)
          have c0 := hE.cell c0
          clear hE
          go_wp2_with fail
          go_roundw
          case rel => exact ⟨j + 1, by omega, by go_num, by rw [HST.out], HE2.out⟩
          case measure => simp [intOf]; omega
        have q1 : (xk == 1) = false := by simpa using h1
        have q2 : (xk == 2) = false := by simpa using h2
        have hle' : lead xk = [] := by rw [lead, if_neg h1, if_neg h2]
        have htr' : trail xk = [] := by rw [trail, if_neg h1, if_neg h2]
        have hst : mkS (rendL (l.take (j + 1))) = mkS (rendL (l.take j)) ++ mkS (quoteL xt.data.toList) := by
          rw [take_succ_of hx, rend_snoc]
          apply toList_inj
          rw [hle', htr']
          simp [ByteArray.toList_eq, ByteArray.data_append, mkS]
        have HST := Lib.hid hst; clear hst hx hwf
        go_wp2_with fail
        refine (rquote_any xt _ (by omega)).mono ?_
        rintro e w2 ⟨rfl, hE⟩
        have HE2 := Lib.hid (HK.out.trans hE)
        have c0 := hE.cell c0
        clear hE
        go_wp2_with fail
        go_roundw
        case rel => exact ⟨j + 1, by omega, by go_num, by rw [HST.out], HE2.out⟩
        case measure => simp [intOf]; omega
      · have h9 : l.take j = l := List.take_of_length_le (by rw [HL.out]; omega)
        rw [h9]
        clear h9
        go_wp2_with fail
        go_ret2
        exact ⟨rfl, HE.out.trans HK.out⟩
end Go.Proofs.Ytmmppfopokbcfaa

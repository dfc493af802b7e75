/- The reference's padded message. No condition. -/
import Derived.Test.YtmmcjcaccicheaaTfStr
namespace Go.Proofs.Ytmmcjcaccicheaa
open Go.RowKit
set_option maxHeartbeats 1000000 in
theorem zeros_is (n : Nat) (hn : n ≤ 64) (w : World) : Calls Try.prog 43 #[.int .i64 n] w fun e w' => e = .returned (.string (bst (List.replicate n 0))) ∧ Ext w w' := by
  go_enter Try.func43, Try.ntmps43
  go_wp2_with fail
  go_loopw [3, 4] (fun v3 v4 wr => ∃ i : Nat, i ≤ n ∧ v4 = .int .i64 i ∧ v3 = .string (bst (List.replicate i 0)) ∧ Ext w wr) (fun _ v4 _ => n - (intOf v4).toNat)
  case atStart => exact ⟨0, by omega, rfl, by rw [bst_nil]; rfl, Ext.refl w⟩
  case round =>
    obtain ⟨i, hi, rfl, rfl, hE⟩ := hrel
    have HE := Lib.hid hE; clear hE
    by_cases h : i < n
    · have h1 : (i : Int) < n := by omega
      have hl : (List.replicate i (0 : UInt8)).length = i := by simp
      go_wp2_with fail
      go_roundw
      case rel => exact ⟨i + 1, by omega, by go_num, by rw [List.replicate_succ'], HE.out⟩
      case measure => simp [intOf]; omega
    · obtain rfl : i = n := by omega
      have h1 : ¬ ((i : Int) < i) := by omega
      go_wp2_with fail
      go_ret
      exact ⟨rfl, HE.out⟩
theorem zeros_q (k : Int) (n : Nat) (hk : k = n) (hn : n ≤ 64) (w : World) : Calls Try.prog 43 #[.int .i64 k] w fun e w' => e = .returned (.string (bst (List.replicate n 0))) ∧ Ext w w' := by
  subst hk; exact zeros_is n hn w
set_option maxRecDepth 10000 in
set_option maxHeartbeats 4000000 in
theorem padded_is (l : Bs) (hl : l.length < 1073741824) (w : World) : Calls Try.prog 28 #[.string (bst l)] w fun e w' => e = .returned (.string (bst (padV l))) ∧ Ext w w' := by
  obtain ⟨n, hn⟩ : ∃ n, l.length = n := ⟨_, rfl⟩
  have HN := Lib.hid hn
  rw [hn] at hl
  have w1 : IntKind.i64.wrap ((n : Int) + 1) = (n : Int) + 1 := wrap_i _
  go_enter Try.func28, Try.ntmps28
  go_wp2_with fail
  obtain ⟨z, hz⟩ : ∃ z, zerosN n = z := ⟨_, rfl⟩
  have hz64 : z ≤ 64 := by rw [← hz]; unfold zerosN; omega
  refine (zeros_q _ z (by rw [← hz]; unfold zerosN; omega) hz64 _).mono ?_
  rintro e w1 ⟨rfl, hE⟩
  have HE := Lib.hid hE; have HZ := Lib.hid hz; clear hE hz
  have hr : (List.replicate z (0 : UInt8)).length = z := by simp
  go_wp2_with fail
  go_loopw [3, 5] (fun v3 v5 wr => ∃ k : Nat, k ≤ 8 ∧ v5 = .int .i64 (7 - (k : Int)) ∧ v3 = .string (bst (l ++ 128 :: List.replicate z 0 ++ (lenB n).take k)) ∧ Ext w wr) (fun _ v5 _ => (intOf v5 + 1).toNat)
  case atStart => exact ⟨0, by omega, rfl, by simp, HE.out⟩
  case round =>
    obtain ⟨k, hk, rfl, rfl, hE⟩ := hrel
    clear HE
    have HE := Lib.hid hE; clear hE
    by_cases h : k < 8
    · obtain ⟨x, hx⟩ : ∃ x, UInt8.ofNat ((n * 8) >>> (8 * (7 - k))) = x := ⟨_, rfl⟩
      have hc := one_byte ((n : Int) * 8 / 2 ^ (8 * (7 - k)) % 256) x (by rw [byte_of, hx]) wr
      have ht := lenB_take n h
      rw [hx] at ht
      have HT := Lib.hid ht; clear ht hx
      have hll : ((lenB n).take k).length = k := by rw [List.length_take]; show min k 8 = k; omega
      go_wp2_with fail
      trace_state
      go_roundw
      case rel => exact ⟨k + 1, by omega, by go_num, by rw [HT.out]; simp, HE.out.alloc _⟩
      case measure => simp [intOf]; omega
    · obtain rfl : k = 8 := by omega
      have hp : l ++ 128 :: List.replicate z 0 ++ List.take 8 (lenB n) = padV l := by
        rw [lenB_full]; unfold padV
        rw [HN.out, ← HZ.out]; unfold zerosN; simp
      rw [hp]
      go_wp2_with fail
      go_ret
      exact ⟨rfl, HE.out⟩
end Go.Proofs.Ytmmcjcaccicheaa

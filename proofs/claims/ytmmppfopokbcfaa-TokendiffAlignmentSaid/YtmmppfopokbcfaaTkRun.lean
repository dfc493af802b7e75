/- Contracts: runs of bytes of a kind. -/
import Derived.Test.YtmmppfopokbcfaaTkWalkA
namespace Go.Proofs.Ytmmppfopokbcfaa
open Go.RowKit

theorem byte_at {s : ByteArray} {j : Nat} (h : j < s.size) : s.data.toList[j]? = some s[j] := by
  obtain ⟨⟨l⟩⟩ := s
  exact List.getElem?_eq_getElem h
theorem tw_more {p : UInt8 → Bool} {s : ByteArray} {j : Nat} (h : ∀ x ∈ s.data.toList.take j, p x = true) (hj : j < s.size) (hc : p s[j] = true) : ∀ x ∈ s.data.toList.take (j + 1), p x = true := by
  intro x hx
  rw [take_succ_of (byte_at hj)] at hx
  rcases List.mem_append.1 hx with hx | hx
  · exact h x hx
  · obtain rfl := List.mem_singleton.1 hx; exact hc
theorem tw_stop {p : UInt8 → Bool} {s : ByteArray} {j : Nat} (h : ∀ x ∈ s.data.toList.take j, p x = true) (hj : j < s.size) (hc : p s[j] = false) : tw p s.data.toList = j := by
  have := tw_app h (.inr ⟨_, _, drop_of (byte_at hj), hc⟩)
  rw [List.take_append_drop, List.length_take, ← size_len] at this
  omega
theorem tw_all {p : UInt8 → Bool} {s : ByteArray} {j : Nat} (h : ∀ x ∈ s.data.toList.take j, p x = true) (hj : s.size ≤ j) : tw p s.data.toList = s.size := by
  have := tw_app h (l := s.data.toList.drop j) (.inl (List.drop_eq_nil_of_le (by rw [← size_len]; exact hj)))
  rw [List.take_append_drop, List.length_take, ← size_len] at this
  omega

set_option maxRecDepth 100000 in
set_option maxHeartbeats 4000000 in
theorem runW_any (s : ByteArray) (w : World) (hs : s.size ≤ Reach) :
    Calls Try.prog 41 #[.string s, .func (.func 42) #[] #[]] w fun e w' => e = .returned (.int .i64 (tw wordB s.data.toList : Nat)) ∧ w' = w := by
  unfold Reach at hs
  go_enter Try.func41, Try.ntmps41
  go_wp2_with fail
  go_loop [5] (fun v5 => ∃ j : Nat, j ≤ s.size ∧ v5 = .int .i64 j ∧ ∀ x ∈ s.data.toList.take j, wordB x = true) (fun v5 => s.size - (intOf v5).toNat)
  case atStart => exact ⟨0, Nat.zero_le _, rfl, by simp⟩
  case round =>
    obtain ⟨j, hj, rfl, hp⟩ := hrel
    have HP := Lib.hid hp; clear hp
    by_cases hlt : j < s.size
    · cases hc : wordB s[j] with
      | true =>
        have HC := Lib.hid hc; clear hc
        go_wp2_with fail
        refine (wordByte_any s[j] _).mono ?_
        rintro e w' ⟨rfl, rfl⟩
        have hc := HC.out
        go_wp2_with fail
        go_round
        case rel => exact ⟨j + 1, by omega, by go_num, tw_more HP.out hlt HC.out⟩
        case measure => simp [intOf]; omega
      | false =>
        have HC := Lib.hid hc; clear hc
        go_wp2_with fail
        refine (wordByte_any s[j] _).mono ?_
        rintro e w' ⟨rfl, rfl⟩
        have hc := HC.out
        go_wp2_with fail
        go_ret
        exact ⟨ret_int (by rw [tw_stop HP.out hlt HC.out]), rfl⟩
    · go_wp2_with fail
      go_ret
      exact ⟨ret_int (by rw [tw_all HP.out (by omega)]; omega), rfl⟩

set_option maxRecDepth 100000 in
set_option maxHeartbeats 4000000 in
theorem runS_any (s : ByteArray) (w : World) (hs : s.size ≤ Reach) :
    Calls Try.prog 41 #[.string s, .func (.func 43) #[] #[]] w fun e w' => e = .returned (.int .i64 (tw spaceB s.data.toList : Nat)) ∧ w' = w := by
  unfold Reach at hs
  go_enter Try.func41, Try.ntmps41
  go_wp2_with fail
  go_loop [5] (fun v5 => ∃ j : Nat, j ≤ s.size ∧ v5 = .int .i64 j ∧ ∀ x ∈ s.data.toList.take j, spaceB x = true) (fun v5 => s.size - (intOf v5).toNat)
  case atStart => exact ⟨0, Nat.zero_le _, rfl, by simp⟩
  case round =>
    obtain ⟨j, hj, rfl, hp⟩ := hrel
    have HP := Lib.hid hp; clear hp
    by_cases hlt : j < s.size
    · cases hc : spaceB s[j] with
      | true =>
        have HC := Lib.hid hc; clear hc
        go_wp2_with fail
        refine (space_any s[j] _).mono ?_
        rintro e w' ⟨rfl, rfl⟩
        have hc := HC.out
        go_wp2_with fail
        go_round
        case rel => exact ⟨j + 1, by omega, by go_num, tw_more HP.out hlt HC.out⟩
        case measure => simp [intOf]; omega
      | false =>
        have HC := Lib.hid hc; clear hc
        go_wp2_with fail
        refine (space_any s[j] _).mono ?_
        rintro e w' ⟨rfl, rfl⟩
        have hc := HC.out
        go_wp2_with fail
        go_ret
        exact ⟨ret_int (by rw [tw_stop HP.out hlt HC.out]), rfl⟩
    · go_wp2_with fail
      go_ret
      exact ⟨ret_int (by rw [tw_all HP.out (by omega)]; omega), rfl⟩
end Go.Proofs.Ytmmppfopokbcfaa

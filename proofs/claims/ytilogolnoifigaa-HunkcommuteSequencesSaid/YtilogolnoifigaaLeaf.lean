/- Contracts of the small functions. -/
import Derived.Test.YtilogolnoifigaaRegion
namespace Go.Proofs.Ytilogolnoifigaa
open Go.RowKit

set_option maxHeartbeats 400000 in
theorem same04_any (A B : Option Addr) (n m c d : Nat) (xs ys : List ByteArray) (w : World) (ha : Strs w A n xs) (hb : Strs w B m ys) (hn : n ≤ Reach) (hm : m ≤ Reach) :
    Calls Try.prog 30 #[.slice A n c, .slice B m d] w fun e w' => e = .returned (.bool (decide (xs = ys))) ∧ Ext w w' := by
  unfold Reach at hn hm
  have HA := Lib.hid ha; have HB := Lib.hid hb; clear ha hb
  by_cases hnm : n = m
  · subst hnm
    have h0 : ((n : Int) != (n : Int)) = false := by simp
    go_enter Try.func30, Try.ntmps30
    go_wp2
    go_loopw [5] (fun i wr => ∃ k : Nat, k ≤ n ∧ i = .int .i64 k ∧ xs.take k = ys.take k ∧ Ext w wr) (fun i _ => n - (intOf i).toNat)
    case atStart => exact ⟨0, Nat.zero_le _, rfl, rfl, Ext.refl _⟩
    case round =>
      obtain ⟨k, hk, rfl, htk, hE⟩ := hrel
      have HE := Lib.hid hE; have HT := Lib.hid htk; clear hE htk
      by_cases hlt : k < n
      · obtain ⟨b, off, s, rfl, hb1, hs1, hs2, hc1⟩ := (HA.out.ext HE.out).get hlt
        obtain ⟨b', off', s', rfl, hb1', hs1', hs2', hc1'⟩ := (HB.out.ext HE.out).get hlt
        have HS := Lib.hid hs1; have HS' := Lib.hid hs1'; clear hs1 hs1'
        go_wp2
        go_quiet (fail)
        go_wp2
        · go_ret
          have hne : (!s.toList == s'.toList) = true := by assumption
          refine ⟨?_, HE.out.drewN _⟩
          have : xs ≠ ys := fun e => by
            have h1 := HS.out; rw [e, HS'.out] at h1
            obtain rfl : s' = s := by simpa using h1
            simp at hne
          simp [this]
        · have heq : (!s.toList == s'.toList) = false := by assumption
          go_roundw
          case rel => exact ⟨k + 1, by omega, by go_num, by rw [take_succ_of HS.out, take_succ_of HS'.out, HT.out, toList_eq heq], HE.out.drewN _⟩
          case measure => simp [intOf]; omega
      · go_wp2
        go_ret
        refine ⟨?_, HE.out⟩
        have : xs = ys := by
          have h1 := HT.out
          rwa [List.take_of_length_le (by rw [HA.out.1]; omega), List.take_of_length_le (by rw [HB.out.1]; omega)] at h1
        simp [this]
  · have h0 : ((n : Int) != (m : Int)) = true := by simp; omega
    go_enter Try.func30, Try.ntmps30
    go_wp2
    go_ret
    refine ⟨?_, Ext.refl _⟩
    have : xs ≠ ys := fun e => hnm (by rw [← HA.out.1, ← HB.out.1, e])
    simp [this]

/-- The length of all strings together, as Go adds it up. -/
def wsum (l : List ByteArray) : Int := l.foldl (fun t s => wrap64 (t + s.size)) 0
theorem wsum_snoc (l : List ByteArray) (s : ByteArray) : wsum (l ++ [s]) = wrap64 (wsum l + s.size) := by simp [wsum]
def great04 (l : List ByteArray) : Bool := decide (40 < l.length) || decide (3000 < wsum l)

set_option maxHeartbeats 400000 in
theorem great04_any (A : Option Addr) (n c : Nat) (xs : List ByteArray) (w : World) (ha : Strs w A n xs) (hn : n ≤ Reach) :
    Calls Try.prog 38 #[.slice A n c] w fun e w' => e = .returned (.bool (great04 xs)) ∧ w = w' := by
  unfold Reach at hn
  have HA := Lib.hid ha; clear ha
  go_enter Try.func38, Try.ntmps38
  go_wp2
  go_loop [3, 4] (fun t i => ∃ k : Nat, k ≤ n ∧ i = .int .i64 k ∧ t = .int .i64 (wsum (xs.take k))) (fun _ i => n - (intOf i).toNat)
  case atStart => exact ⟨0, Nat.zero_le _, rfl, rfl⟩
  case round =>
    obtain ⟨k, hk, rfl, rfl⟩ := hrel
    by_cases hlt : k < n
    · obtain ⟨b, off, s, rfl, hb1, hs1, hs2, hc1⟩ := HA.out.get hlt
      have HS := Lib.hid hs1; clear hs1
      go_wp2
      go_round
      case rel => exact ⟨k + 1, by omega, by go_num, by rw [take_succ_of HS.out, wsum_snoc]⟩
      case measure => simp [intOf]; omega
    · have hkn : xs.take k = xs := List.take_of_length_le (by rw [HA.out.1]; omega)
      have HK := Lib.hid hkn; clear hkn
      go_wp2
      all_goals go_ret
      · exact ⟨ret_bool (by rw [HK.out, great04, HA.out.1, Bool.eq_iff_iff]; simp only [Bool.or_eq_true, decide_eq_true_eq]; omega), rfl⟩
      · have h40 : (40 : Int) < n := by assumption
        exact ⟨ret_bool (by rw [great04, HA.out.1]; simp; omega), rfl⟩

end Go.Proofs.Ytilogolnoifigaa

/- The contract of slices.Equal at slices of strings. No condition. -/
import Derived.Test.YtmmhbnlafcmloaaMem
namespace Go.Proofs.Ytmmhbnlafcmloaa
open Go.RowKit

set_option maxHeartbeats 400000 in
theorem equal_any (A B : Option Addr) (n m c d : Nat) (xs ys : List ByteArray) (w : World) (ha : Strs w A n xs) (hb : Strs w B m ys) (hn : n ≤ Reach) (hm : m ≤ Reach) :
    Calls Try.prog 37 #[.slice A n c, .slice B m d] w fun e w' => e = .returned (.bool (decide (xs = ys))) ∧ Ext w w' := by
  unfold Reach at hn hm
  have HA := Lib.hid ha; have HB := Lib.hid hb; clear ha hb
  by_cases hnm : n = m
  · subst hnm
    have h0 : ((n : Int) != (n : Int)) = false := by simp
    go_enter Try.func37, Try.ntmps37
    go_wp2
    go_loopw [13] (fun i wr => ∃ k : Nat, k ≤ n ∧ i = .int .i64 k ∧ xs.take k = ys.take k ∧ Ext w wr) (fun i _ => n - (intOf i).toNat)
    case atStart => exact ⟨0, Nat.zero_le _, rfl, rfl, Ext.refl _⟩
    case round =>
      obtain ⟨k, hk, rfl, htk, hE⟩ := hrel
      have HE := Lib.hid hE; have HT := Lib.hid htk; clear hE htk
      by_cases hlt : k < n
      · obtain ⟨b, off, s, rfl, hb1, hs1, hs2, hc1⟩ := (HA.out.ext HE.out).get hlt
        obtain ⟨b', off', s', rfl, hb1', hs1', hs2', hc1'⟩ := (HB.out.ext HE.out).get hlt
        have HS := Lib.hid hs1; have HS' := Lib.hid hs1'; clear hs1 hs1'
        go_wp2
        go_quiet (fail)
        go_wp2
        · go_ret
          have hne : (!s.toList == s'.toList) = true := by assumption
          refine ⟨?_, HE.out.drewN _⟩
          have : xs ≠ ys := fun e => by
            have h1 := HS.out; rw [e, HS'.out] at h1
            obtain rfl : s' = s := by simpa using h1
            simp at hne
          simp [this]
        · have heq : (!s.toList == s'.toList) = false := by assumption
          go_roundw
          case rel => exact ⟨k + 1, by omega, by go_num, by rw [take_succ_of HS.out, take_succ_of HS'.out, HT.out, toList_eq heq], HE.out.drewN _⟩
          case measure => simp [intOf]; omega
      · go_wp2
        go_ret
        refine ⟨?_, HE.out⟩
        have : xs = ys := by
          have h1 := HT.out
          rwa [List.take_of_length_le (by rw [HA.out.1]; omega), List.take_of_length_le (by rw [HB.out.1]; omega)] at h1
        simp [this]
  · have h0 : ((n : Int) != (m : Int)) = true := by simp; omega
    go_enter Try.func37, Try.ntmps37
    go_wp2
    go_ret
    refine ⟨?_, Ext.refl _⟩
    have : xs ≠ ys := fun e => hnm (by rw [← HA.out.1, ← HB.out.1, e])
    simp [this]
theorem strs_cut {w : World} {A A' : Option Addr} {n c lo k : Nat} {ss : List ByteArray} (h : Strs w A n ss) (hn : n ≤ c) (hi : lo + k ≤ n) (hA : (if c = lo then A else A.map (fun x => x.add lo)) = A') :
    Strs w A' k ((ss.drop lo).take k) := by
  subst hA
  refine ⟨by rw [List.length_take, List.length_drop, h.1]; omega, fun s hs => h.2.1 s (List.mem_of_mem_drop (List.mem_of_mem_take hs)), ?_⟩
  have := (h.2.2.cut (k := lo) (size := 1) (cap := c) (by rw [List.length_map, h.1]; omega)).take k
  simpa [List.map_take, List.map_drop] using this

theorem equal_is {A B : Option Addr} {n m c d : Nat} {xs ys : List ByteArray} {r : Bool} (w : World) (ha : Strs w A n xs) (hb : Strs w B m ys) (hn : n ≤ Reach) (hm : m ≤ Reach) (hr : decide (xs = ys) = r) :
    Calls Try.prog 37 #[.slice A n c, .slice B m d] w fun e w' => e = .returned (.bool r) ∧ Ext w w' := by
  subst hr; exact equal_any A B n m c d xs ys w ha hb hn hm

theorem nd {p : Prop} [Decidable p] (h : ¬ p) : decide p = false := by simpa using h
theorem yd {p : Prop} [Decidable p] (h : p) : decide p = true := by simpa using h
end Go.Proofs.Ytmmhbnlafcmloaa

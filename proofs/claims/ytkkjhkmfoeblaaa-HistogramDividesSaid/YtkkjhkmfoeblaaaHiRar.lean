/- Contract: rarity. -/
import Derived.Test.YtkkjhkmfoeblaaaHiMap
namespace Go.Proofs.Ytkkjhkmfoeblaaa
open Go.RowKit

set_option maxHeartbeats 4000000 in
theorem rar_any (A : Option Addr) (n c g N : Nat) (ls : Lns) (φ : ByteArray → Nat) (w : World) (ha : Strs w A n ls) (hm : MapI w g N (fun s => (φ s : Int))) (hn : n ≤ 1000) (h0 : 0 < n) (hφ : ∀ s, φ s ≤ 1000) :
    Calls Try.prog 27 #[.slice A n c, .map (some g)] w fun e w' => e = .returned (.int .i64 (least (ls.map φ))) ∧ Ext w w' := by
  obtain rfl : ls.length = n := ha.1
  have HA := Lib.hid ha; have HM := Lib.hid hm; clear ha hm
  obtain ⟨b0, o0, s0, hA0, hb0, hs0, hz0, hc0⟩ := HA.out.get (k := 0) h0
  have hrun := HM.out.look (s := s0) (by unfold Reach at hz0; unfold maxLen; omega)
  rw [Nat.add_zero] at hc0
  subst hA0
  go_enter Try.func27, Try.ntmps27
  go_wp2_with fail
  have HC0 := Lib.hid hc0; have HS0 := Lib.hid hs0; clear hrun hc0 hs0
  go_loopw [5, 15] (fun v5 v15 wr => ∃ (k x : Nat), k ≤ ls.length ∧ x ≤ 1000 ∧ v5 = .int .i64 x ∧ v15 = .int .i64 k ∧ ((k = 0 ∧ x = φ s0) ∨ (0 < k ∧ x = least ((ls.take k).map φ))) ∧ Ext w wr) (fun _ v15 _ => ls.length - (intOf v15).toNat)
  case atStart => exact ⟨0, φ s0, Nat.zero_le _, hφ _, rfl, rfl, .inl ⟨rfl, rfl⟩, Ext.refl _⟩
  case round =>
    obtain ⟨k, x, hk, hx, rfl, rfl, hr, hE⟩ := hrel
    have HR := Lib.hid hr; have HE := Lib.hid hE; clear hr hE
    by_cases hlt : k < ls.length
    case neg =>
      obtain rfl : k = ls.length := by omega
      go_wp2_with fail
      go_ret
      refine ⟨ret_int ?_, HE.out⟩
      rcases HR.out with ⟨h, _⟩ | ⟨_, h⟩
      · omega
      · rw [h, List.take_of_length_le (Nat.le_refl _)]
    obtain ⟨b1, o1, s, hA1, hb1, hs, hz, hc⟩ := (HA.out.ext HE.out).get hlt
    cases hA1
    obtain ⟨z, hzz⟩ : ∃ z, φ s = z := ⟨_, rfl⟩
    have hz2 : z ≤ 1000 := by rw [← hzz]; exact hφ s
    have hrun := (HM.out.ext HE.out).look (s := s) (by unfold Reach at hz; unfold maxLen; omega)
    rw [hzz] at hrun
    have HS := Lib.hid hs; have HZ := Lib.hid hzz; clear hs hzz
    go_wp2_with fail
    go_roundw
    case rel =>
      refine ⟨k + 1, min x z, by omega, by omega, by go_num, by go_num, .inr ⟨by omega, ?_⟩, HE.out⟩
      rw [take_succ_of HS.out, List.map_append, List.map_cons, List.map_nil, HZ.out]
      rcases HR.out with ⟨rfl, h⟩ | ⟨h0, h⟩
      · have := HS.out; rw [HS0.out] at this
        obtain rfl : s0 = s := by simpa using this
        simp [least, h, HZ.out]
      · rw [least_snoc, h]
        intro e
        have := congrArg List.length e
        simp only [List.length_map, List.length_take, List.length_nil] at this
        omega
    case measure => simp [intOf]; omega
end Go.Proofs.Ytkkjhkmfoeblaaa

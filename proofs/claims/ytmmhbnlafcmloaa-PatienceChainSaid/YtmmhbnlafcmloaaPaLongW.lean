/- PatienceLongest: the walk. -/
import Derived.Test.YtmmhbnlafcmloaaPaRLong
import Derived.Test.YtmmhbnlafcmloaaPaChP
namespace Go.Proofs.Ytmmhbnlafcmloaa
open Go.RowKit

theorem long_mem {l : List Mt} {x : Mt} (h : x ∈ longV l) : x ∈ l := by
  obtain ⟨k, hk⟩ := List.mem_iff_getElem?.1 h
  obtain ⟨c, y, _, _, h1, h2, _⟩ := long_get (List.getElem?_eq_some_iff.1 hk).1
  rw [hk] at h2; cases h2
  exact List.mem_of_getElem? h1
theorem long_le (l : List Mt) : (longV l).length ≤ l.length := by rw [longV_len]; exact mostV_le _ _ (tails_le l)
theorem longest_is (A : Option Addr) (n c : Nat) (l : List Mt) (w : World) (ha : Mts w A n l) (hn : n ≤ 500) :
    Calls Try.prog 16 #[.slice A n c] w fun e w' => ∃ C k, e = .returned (.slice C (longV l).length k) ∧ Mts w' C (longV l).length (longV l) ∧ Ext w w' := by
  refine (longest_any A n c l w ha hn).mono ?_
  rintro e w' ⟨v, rfl, ho, hE⟩
  obtain ⟨C, k, rfl, _, hM⟩ := ownM_mts ho (fun m hm => ha.2.1 m (long_mem hm))
  exact ⟨C, k, rfl, hM, hE⟩
theorem rlongest_is (A : Option Addr) (n c : Nat) (l : List Mt) (w : World) (ha : Mts w A n l) (hn : n ≤ 500) :
    Calls Try.prog 17 #[.slice A n c] w fun e w' => ∃ C k, e = .returned (.slice C (longV l).length k) ∧ Mts w' C (longV l).length (longV l) ∧ Ext w w' := by
  refine (rlongest_any A n c l w ha hn).mono ?_
  rintro e w' ⟨v, rfl, ho, hE⟩
  obtain ⟨C, k, rfl, _, hM⟩ := ownM_mts ho (fun m hm => ha.2.1 m (long_mem hm))
  exact ⟨C, k, rfl, hM, hE⟩

set_option maxRecDepth 100000 in
set_option maxHeartbeats 8000000 in
theorem longest_walk {A : Option Addr} {n c : Nat} {l : List Mt} (w : World) (han : n ≤ Reach) (ha : Mts w A n l) :
    Calls Try.prog 4 #[.slice A n c] w (Good w) := by
  obtain rfl : l.length = n := ha.1
  have HA := Lib.hid ha; clear ha
  go_enter Try.func4, Try.ntmps4
  by_cases h40 : 40 < l.length
  · have q0 : decide ((40 : Int) < l.length) = true := yd (by omega)
    have q1 : decide (40 < l.length) = true := yd h40
    clear h40
    go_wp2_with fail
    refine (awake_any _).mono ?_
    rintro e w9 ⟨rfl, hE⟩
    have HE9 := Lib.hid hE; clear hE
    go_wp2_with fail
    go_ret
    exact ⟨rfl, HE9.out⟩
  · have q0 : decide ((40 : Int) < l.length) = false := nd (by omega)
    have q1 : decide (40 < l.length) = false := nd h40
    have hll := long_le l
    go_wp2_with fail
    refine (longest_is A l.length c l _ HA.out (by omega)).mono ?_
    rintro e w1 ⟨C1, k1, rfl, hM, hE⟩
    have HE1 := Lib.hid hE; have HM := Lib.hid hM; clear hE hM
    go_wp2_with fail
    refine (rlongest_is A l.length c l _ (HA.out.ext HE1.out) (by omega)).mono ?_
    rintro e w2 ⟨C2, k2, rfl, hM2, hE⟩
    have HE2 := Lib.hid (HE1.out.trans hE); have HM1 := Lib.hid (HM.out.ext hE); have HM2 := Lib.hid hM2; clear hE hM2
    go_wp2_with fail
    refine (sameM_is (r := true) (by simp) HM1.out HM2.out (by unfold Reach; omega) (by unfold Reach; omega)).mono ?_
    rintro e w4 ⟨rfl, hE⟩
    have HE4 := Lib.hid (HE2.out.trans hE); clear hE
    go_wp2_with fail
    refine (awake_any _).mono ?_
    rintro e w9 ⟨rfl, hE⟩
    have HE9 := Lib.hid (HE4.out.trans hE); clear hE
    go_wp2_with fail
    go_ret
    exact ⟨rfl, HE9.out⟩
end Go.Proofs.Ytmmhbnlafcmloaa

/- TokendiffSimilar: its walk. -/
import Derived.Test.YtmmppfopokbcfaaTkWRefine
namespace Go.Proofs.Ytmmppfopokbcfaa
open Go.RowKit

set_option maxRecDepth 100000 in
set_option maxHeartbeats 8000000 in
theorem similar_walk {s t : ByteArray} (w : World) (hs : s.size ≤ Reach) (ht : t.size ≤ Reach) :
    Calls Try.prog 4 #[.string s, .string t] w fun e w' => e = .returned (.bool true) ∧ Ext w w' := by
  have HT2 := Lib.hid (two_strs w s t hs ht)
  have HE0 := Lib.hid ((Ext.refl w).alloc (.cells #[.string s, .string t] 9))
  cases hl : longV [s, t] with
  | true =>
    have HL := Lib.hid hl; clear hl
    go_enter Try.func4, Try.ntmps4
    go_wp2_with fail
    refine (long_is HL.out HT2.out (by unfold Reach; omega)).mono ?_
    rintro e w1 ⟨rfl, rfl⟩
    go_wp2_with fail
    refine awake_is.mono ?_
    rintro e w2 ⟨rfl, hE⟩
    have HE2 := Lib.hid (HE0.out.trans hE); clear hE
    go_wp2_with fail
    go_ret
    exact ⟨rfl, HE2.out⟩
  | false =>
    have h1 : s.size ≤ 100 := by simp [longV] at hl; omega
    have h2 : t.size ≤ 100 := by simp [longV] at hl; omega
    obtain ⟨r1, r2, r3⟩ := sim_range s t
    obtain ⟨N, hN⟩ : ∃ N, simV s t = N := ⟨_, rfl⟩
    rw [hN] at r1 r2 r3
    have HL := Lib.hid hl; have HN := Lib.hid hN; clear hl hN
    by_cases he : s = t
    · have hN1 : N = 100 := by rw [← HN.out, he, sim_self]
      subst hN1 he
      clear r1 r2 r3
      go_enter Try.func4, Try.ntmps4
      go_wp2_with fail
      refine (long_is HL.out HT2.out (by unfold Reach; omega)).mono ?_
      rintro e w1 ⟨rfl, rfl⟩
      go_wp2_with fail
      refine (sim_any s s _ h1 h2).mono ?_
      rintro e w5 ⟨rfl, hE⟩
      rw [HN.out]
      have HE5 := Lib.hid (HE0.out.trans hE); clear hE
      go_wp2_with fail
      refine awake_is.mono ?_
      rintro e w7 ⟨rfl, hE⟩
      have HE7 := Lib.hid (HE5.out.trans hE); clear hE
      go_wp2_with fail
      go_ret
      exact ⟨rfl, HE7.out⟩
    · have q1 : (N == 100) = false := by simpa using fun e => he (r3 e)
      have q2 : (s.toList == t.toList) = false := by
        cases e : s.toList == t.toList with
        | false => rfl
        | true => exact absurd (toList_inj (by simpa using e)) he
      clear r3 he
      go_enter Try.func4, Try.ntmps4
      go_wp2_with fail
      refine (long_is HL.out HT2.out (by unfold Reach; omega)).mono ?_
      rintro e w1 ⟨rfl, rfl⟩
      go_wp2_with fail
      refine (sim_any s t _ h1 h2).mono ?_
      rintro e w5 ⟨rfl, hE⟩
      rw [HN.out]
      have HE5 := Lib.hid (HE0.out.trans hE); clear hE
      go_wp2_with fail
      refine awake_is.mono ?_
      rintro e w7 ⟨rfl, hE⟩
      have HE7 := Lib.hid (HE5.out.trans hE); clear hE
      go_wp2_with fail
      go_ret
      exact ⟨rfl, HE7.out⟩
end Go.Proofs.Ytmmppfopokbcfaa

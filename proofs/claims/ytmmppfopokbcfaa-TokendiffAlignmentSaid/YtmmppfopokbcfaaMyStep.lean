/- Contracts: table.step; the reference's follow, at, down. -/
import Derived.Test.YtmmppfopokbcfaaMyFol
namespace Go.Proofs.Ytmmppfopokbcfaa
open Go.RowKit

theorem at_none {A : Option Addr} {n c : Nat} {t : List Int} {k : Int} {w : World} (h : atV t k = none) (ht : Ints w A n t) (hn : n ≤ 1000) (hk : -1000 ≤ k) (hk' : k ≤ 1000) :
    Calls Try.prog 61 #[.slice A n c, .int .i64 k] w fun e w' => e = .returned (.tuple #[.int .i64 0, .bool false]) ∧ w = w' := by
  have := at_any A n c t k w ht hn hk hk'
  rw [h] at this; exact this
theorem at_some {A : Option Addr} {n c : Nat} {t : List Int} {k x : Int} {w : World} (h : atV t k = some x) (ht : Ints w A n t) (hn : n ≤ 1000) (hk : -1000 ≤ k) (hk' : k ≤ 1000) :
    Calls Try.prog 61 #[.slice A n c, .int .i64 k] w fun e w' => e = .returned (.tuple #[.int .i64 x, .bool true]) ∧ w = w' := by
  have := at_any A n c t k w ht hn hk hk'
  rw [h] at this; exact this
/-- All numbers of a table are small. -/
def SmallT (t : List Int) : Prop := ∀ x ∈ t, -100000 ≤ x ∧ x ≤ 100000
theorem atV_small {t : List Int} (h : SmallT t) {k x : Int} (e : atV t k = some x) : -100000 ≤ x ∧ x ≤ 100000 := by
  unfold atV at e
  split at e
  · cases e
  · exact h _ (List.mem_of_getElem? e)

set_option maxRecDepth 100000 in
set_option maxHeartbeats 2000000 in
theorem step_any (A : Option Addr) (n c : Nat) (t : List Int) (k : Int) (w : World) (ht : Ints w A n t) (hn : n ≤ 1000) (hk : -500 ≤ k) (hk' : k ≤ 500) (hst : SmallT t) :
    Calls Try.prog 60 #[.slice A n c, .int .i64 k] w fun e w' => e = .returned (.tuple #[.int .i64 (stepV t k).1, .int .i64 (stepV t k).2]) ∧ w = w' := by
  have HT := Lib.hid ht; clear ht
  have HS := Lib.hid hst; clear hst
  obtain ⟨r1, h1⟩ : ∃ r, atV t (k - 1) = r := ⟨_, rfl⟩
  obtain ⟨r2, h2⟩ : ∃ r, atV t (k + 1) = r := ⟨_, rfl⟩
  cases r1 with
  | none =>
    cases r2 with
    | none =>
      have hV : stepV t k = (0, k + 1) := by simp only [stepV, h1, h2]
      have H1 := Lib.hid h1; have H2 := Lib.hid h2; have HV := Lib.hid hV; clear h1 h2 hV
      go_enter Try.func60, Try.ntmps60
      go_wp2_with fail
      refine (at_none H1.out HT.out hn (by omega) (by omega)).mono ?_
      rintro e w1 ⟨rfl, rfl⟩
      go_wp2_with fail
      refine (at_none H2.out HT.out hn (by omega) (by omega)).mono ?_
      rintro e w1 ⟨rfl, rfl⟩
      go_wp2_with fail
      exact bodyPost_ret (v := .tuple #[.int .i64 0, .int .i64 (k + 1)]) (by simp [results, Try.results60, go_sem]) rfl ⟨by rw [HV.out], rfl⟩
    | some q =>
      have hV : stepV t k = (q, k + 1) := by simp only [stepV, h1, h2]
      have H1 := Lib.hid h1; have H2 := Lib.hid h2; have HV := Lib.hid hV; clear h1 h2 hV
      go_enter Try.func60, Try.ntmps60
      go_wp2_with fail
      refine (at_none H1.out HT.out hn (by omega) (by omega)).mono ?_
      rintro e w1 ⟨rfl, rfl⟩
      go_wp2_with fail
      refine (at_some H2.out HT.out hn (by omega) (by omega)).mono ?_
      rintro e w1 ⟨rfl, rfl⟩
      go_wp2_with fail
      exact bodyPost_ret (v := .tuple #[.int .i64 q, .int .i64 (k + 1)]) (by simp [results, Try.results60, go_sem]) rfl ⟨by rw [HV.out], rfl⟩
  | some p =>
    have hp := atV_small HS.out h1
    cases r2 with
    | none =>
      have hV : stepV t k = (p + 1, k - 1) := by simp only [stepV, h1, h2]
      have H1 := Lib.hid h1; have H2 := Lib.hid h2; have HV := Lib.hid hV; clear h1 h2 hV
      go_enter Try.func60, Try.ntmps60
      go_wp2_with fail
      refine (at_some H1.out HT.out hn (by omega) (by omega)).mono ?_
      rintro e w1 ⟨rfl, rfl⟩
      go_wp2_with fail
      refine (at_none H2.out HT.out hn (by omega) (by omega)).mono ?_
      rintro e w1 ⟨rfl, rfl⟩
      go_wp2_with fail
      exact bodyPost_ret (v := .tuple #[.int .i64 (p + 1), .int .i64 (k - 1)]) (by simp [results, Try.results60, go_sem]) rfl ⟨by rw [HV.out], rfl⟩
    | some q =>
      have hq := atV_small HS.out h2
      by_cases hpq : p < q
      · have hV : stepV t k = (q, k + 1) := by simp only [stepV, h1, h2, if_pos hpq]
        have H1 := Lib.hid h1; have H2 := Lib.hid h2; have HV := Lib.hid hV; clear h1 h2 hV
        go_enter Try.func60, Try.ntmps60
        go_wp2_with fail
        refine (at_some H1.out HT.out hn (by omega) (by omega)).mono ?_
        rintro e w1 ⟨rfl, rfl⟩
        go_wp2_with fail
        refine (at_some H2.out HT.out hn (by omega) (by omega)).mono ?_
        rintro e w1 ⟨rfl, rfl⟩
        go_wp2_with fail
        exact bodyPost_ret (v := .tuple #[.int .i64 q, .int .i64 (k + 1)]) (by simp [results, Try.results60, go_sem]) rfl ⟨by rw [HV.out], rfl⟩
      · have hV : stepV t k = (p + 1, k - 1) := by simp only [stepV, h1, h2, if_neg hpq]
        have hpq' : decide (p < q) = false := by simpa using hpq
        have H1 := Lib.hid h1; have H2 := Lib.hid h2; have HV := Lib.hid hV; clear h1 h2 hV
        go_enter Try.func60, Try.ntmps60
        go_wp2_with fail
        refine (at_some H1.out HT.out hn (by omega) (by omega)).mono ?_
        rintro e w1 ⟨rfl, rfl⟩
        go_wp2_with fail
        refine (at_some H2.out HT.out hn (by omega) (by omega)).mono ?_
        rintro e w1 ⟨rfl, rfl⟩
        go_wp2_with fail
        exact bodyPost_ret (v := .tuple #[.int .i64 (p + 1), .int .i64 (k - 1)]) (by simp [results, Try.results60, go_sem]) rfl ⟨by rw [HV.out], rfl⟩
theorem step_is {A : Option Addr} {n c : Nat} {t : List Int} {k p q : Int} {w : World} (h : stepV t k = (p, q)) (ht : Ints w A n t) (hn : n ≤ 1000) (hk : -500 ≤ k) (hk' : k ≤ 500) (hst : SmallT t) :
    Calls Try.prog 60 #[.slice A n c, .int .i64 k] w fun e w' => e = .returned (.tuple #[.int .i64 p, .int .i64 q]) ∧ w = w' := by
  have := step_any A n c t k w ht hn hk hk' hst
  rw [h] at this; exact this
end Go.Proofs.Ytmmppfopokbcfaa

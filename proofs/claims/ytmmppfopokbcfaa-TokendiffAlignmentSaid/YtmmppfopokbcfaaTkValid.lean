/- Contracts: valid; Same. -/
import Derived.Test.YtmmppfopokbcfaaTkQuote
namespace Go.Proofs.Ytmmppfopokbcfaa
open Go.RowKit

theorem vld_no {p : Int} {x : Pc} {r : List Pc} (h : x.k < 0 ∨ 2 < x.k ∨ x.t.size = 0 ∨ p = x.k ∨ (p = 2 ∧ x.k = 1)) : vldF p (x :: r) = false := by
  cases e : vldF p (x :: r) with
  | false => rfl
  | true =>
    rw [vldF] at e
    simp only [Bool.and_eq_true, decide_eq_true_eq, Bool.not_eq_true', decide_eq_false_iff_not, Bool.and_eq_false_iff] at e
    omega
theorem vld_yes {p : Int} {x : Pc} {r : List Pc} (h1 : 0 ≤ x.k) (h2 : x.k ≤ 2) (h3 : x.t.size ≠ 0) (h4 : p ≠ x.k) (h5 : ¬ (p = 2 ∧ x.k = 1)) : vldF p (x :: r) = vldF x.k r := by
  rw [vldF]
  have e1 : decide (0 ≤ x.k) = true := by simpa using h1
  have e2 : decide (x.k ≤ 2) = true := by simpa using h2
  have e3 : decide (x.t.size ≠ 0) = true := by simpa using h3
  have e4 : decide (p = x.k) = false := by simpa using h4
  have e5 : (decide (p = 2) && decide (x.k = 1)) = false := by
    rw [Bool.and_eq_false_iff]; simp only [decide_eq_false_iff_not]; omega
  rw [e1, e2, e3, e4, e5]; rfl

set_option maxRecDepth 100000 in
set_option maxHeartbeats 8000000 in
theorem valid_any (A : Option Addr) (n c : Nat) (l : List Pc) (w : World) (hS : Pcs w A n l) (hn : n ≤ Reach) :
    Calls Try.prog 48 #[.slice A n c] w fun e w' => e = .returned (.bool (vldV l)) ∧ Ext w w' := by
  unfold Reach at hn
  have HS := Lib.hid hS; have HL := Lib.hid hS.1; clear hS
  go_enter Try.func48, Try.ntmps48
  go_wp2_with fail
  go_loopw [7] (fun v7 wr => ∃ (j : Nat) (p : Int), j ≤ n ∧ v7 = .int .i64 j ∧ vldF p (l.drop j) = vldV l ∧ (j = 0 → p = -1) ∧ (0 < j → ∃ x, l[j - 1]? = some x ∧ x.k = p) ∧ Ext w wr) (fun v7 _ => n - (intOf v7).toNat)
  case atStart => exact ⟨0, -1, Nat.zero_le _, rfl, rfl, fun _ => rfl, fun h => absurd h (by omega), Ext.refl _⟩
  case round =>
    obtain ⟨j, p, hj, rfl, hv, hp0, hp1, hE⟩ := hrel
    have HV := Lib.hid hv; have HE := Lib.hid hE; have HP0 := Lib.hid hp0; have HP1 := Lib.hid hp1; clear hv hE hp0 hp1
    by_cases hlt : j < n
    · obtain ⟨b, off, x, rfl, hb, hx, hwf, c0, c1⟩ := (HS.out.ext HE.out).get hlt
      obtain ⟨xk, xt⟩ := x
      dsimp only at c0 c1
      have hd := drop_of hx
      have HD := Lib.hid hd; have HX := Lib.hid hx; clear hd hx hwf
      by_cases k1 : xk < 0
      · have hr : vldV l = false := by rw [← HV.out, HD.out, vld_no (.inl k1)]
        have HR := Lib.hid hr; clear hr
        go_wp2_with fail
        go_ret
        exact ⟨ret_bool HR.out.symm, HE.out.alloc _⟩
      by_cases k2 : 2 < xk
      · have hr : vldV l = false := by rw [← HV.out, HD.out, vld_no (.inr (.inl k2))]
        have HR := Lib.hid hr; clear hr
        go_wp2_with fail
        go_ret
        exact ⟨ret_bool HR.out.symm, HE.out.alloc _⟩
      by_cases k3 : xt.size = 0
      · have hr : vldV l = false := by rw [← HV.out, HD.out, vld_no (.inr (.inr (.inl k3)))]
        have HR := Lib.hid hr; clear hr
        have q3 := emp_yes k3
        clear k3
        go_wp2_with fail
        go_ret
        exact ⟨ret_bool HR.out.symm, HE.out.alloc _⟩
      have q3 := emp_no k3
      by_cases hj0 : j = 0
      · subst hj0
        simp only [Nat.zero_mul, Nat.add_zero] at c0 c1
        have hs : vldF xk (l.drop 1) = vldV l := by rw [← HV.out, HD.out, HP0.out rfl, vld_yes (by dsimp only; omega) (by dsimp only; omega) k3 (by dsimp only; omega) (by omega)]
        have HS1 := Lib.hid hs; clear hs k3
        go_wp2_with fail
        go_quiet (fail)
        go_wp2_with fail
        go_roundw
        case rel => exact ⟨1, xk, by omega, rfl, HS1.out, fun h => by omega, fun _ => ⟨_, HX.out, rfl⟩, (HE.out.alloc _).drewN _⟩
        case measure => simp [intOf]; omega
      · obtain ⟨y, hy, hyk⟩ := HP1.out (by omega)
        obtain ⟨b', off', y', hA', -, hy', -, d0, -⟩ := (HS.out.ext HE.out).get (j := j - 1) (by omega)
        cases hA'
        rw [hy] at hy'
        cases hy'
        rw [hyk] at d0
        have hjs : ((j : Int) - 1) = ((j - 1 : Nat) : Int) := by omega
        have hj1 : 0 < j := by omega
        clear hy hyk
        by_cases k4 : p = xk
        · have hr : vldV l = false := by rw [← HV.out, HD.out, vld_no (.inr (.inr (.inr (.inl k4))))]
          have HR := Lib.hid hr; clear hr
          have q4 : (p == xk) = true := by simpa using k4
          clear k4 k3
          go_wp2_with fail
          go_quiet (fail)
          go_wp2_with fail
          go_ret
          exact ⟨ret_bool HR.out.symm, (HE.out.alloc _).drewN _⟩
        have q4 : (p == xk) = false := by simpa using k4
        by_cases k5 : p = 2
        · by_cases k6 : xk = 1
          · have hr : vldV l = false := by rw [← HV.out, HD.out, vld_no (.inr (.inr (.inr (.inr ⟨k5, k6⟩))))]
            have HR := Lib.hid hr; clear hr
            have q5 : (p == 2) = true := by simpa using k5
            have q6 : (xk == 1) = true := by simpa using k6
            clear k3 k4
            go_wp2_with fail
            go_quiet (fail)
            go_wp2_with fail
            go_ret
            exact ⟨ret_bool HR.out.symm, (HE.out.alloc _).drewN _⟩
          · have hs : vldF xk (l.drop (j + 1)) = vldV l := by rw [← HV.out, HD.out, vld_yes (by dsimp only; omega) (by dsimp only; omega) k3 k4 (by dsimp only; omega)]
            have HS1 := Lib.hid hs; clear hs
            have q5 : (p == 2) = true := by simpa using k5
            have q6 : (xk == 1) = false := by simpa using k6
            clear k3 k4 k5 k6
            go_wp2_with fail
            go_quiet (fail)
            go_wp2_with fail
            go_roundw
            case rel => exact ⟨j + 1, xk, by omega, by go_num, HS1.out, fun h => by omega, fun _ => ⟨_, HX.out, rfl⟩, (HE.out.alloc _).drewN _⟩
            case measure => simp [intOf]; omega
        · have hs : vldF xk (l.drop (j + 1)) = vldV l := by rw [← HV.out, HD.out, vld_yes (by dsimp only; omega) (by dsimp only; omega) k3 k4 (by dsimp only; omega)]
          have HS1 := Lib.hid hs; clear hs
          have q5 : (p == 2) = false := by simpa using k5
          clear k3 k4 k5
          go_wp2_with fail
          go_quiet (fail)
          go_wp2_with fail
          go_roundw
          case rel => exact ⟨j + 1, xk, by omega, by go_num, HS1.out, fun h => by omega, fun _ => ⟨_, HX.out, rfl⟩, (HE.out.alloc _).drewN _⟩
          case measure => simp [intOf]; omega
    · have hr : vldV l = true := by
        rw [← HV.out, List.drop_eq_nil_of_le (by rw [HL.out]; omega)]; rfl
      have HR := Lib.hid hr; clear hr
      go_wp2_with fail
      go_ret
      exact ⟨ret_bool HR.out.symm, HE.out⟩
end Go.Proofs.Ytmmppfopokbcfaa

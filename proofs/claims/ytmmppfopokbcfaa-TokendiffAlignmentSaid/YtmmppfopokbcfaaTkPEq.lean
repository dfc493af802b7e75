/- Contracts: slices.Equal of pairs of ints, great. -/
import Derived.Test.YtmmppfopokbcfaaTkRPairs
import Derived.Test.YtmmppfopokbcfaaTkAwake
namespace Go.Proofs.Ytmmppfopokbcfaa
open Go.RowKit

theorem plainI : Try.prog.plainKey 3 = true := by kernel_rfl
theorem cellsInt : Try.prog.cellsOf 3 = 1 := by kernel_rfl
theorem eq_pair (x0 x1 y0 y1 : Int) (w : World) : (Op.equal 39 (.agg #[.int .i64 x0, .int .i64 x1]) (.agg #[.int .i64 y0, .int .i64 y1])).run Try.prog w = .ok (x0 == y0 && x1 == y1) w := by
  obtain ⟨inf, i1, -⟩ := info_of infoIn
  unfold Op.equal
  rw [show Op.maxDepth = 9998 + 1 + 1 from rfl, run_equalIn_array w (9998 + 1) _ _ Try.underlying39 i1, cellsInt]
  have e (a b : Int) : (Op.equalIn (9998 + 1) 3 (.int .i64 a) (.int .i64 b)).run Try.prog w = .ok (a == b) w := run_equalIn_int w 9998 3 .i64 .i64 a b Try.underlying3
  have p0 (a b : Int) : (part 3 #[.int .i64 a, .int .i64 b] (0 * 1)).run Try.prog w = .ok (.int .i64 a) w := run_part_plain w plainI rfl
  have p1 (a b : Int) : (part 3 #[.int .i64 a, .int .i64 b] (1 * 1)).run Try.prog w = .ok (.int .i64 b) w := run_part_plain w plainI rfl
  rw [show List.range 2 = [0, 1] from rfl]
  simp only [Op.eqItems, Sem.run_bind, p0, e, Result.andThen_ok]
  have p2 (a b : Int) : (part 3 #[.int .i64 a, .int .i64 b] 1).run Try.prog w = .ok (.int .i64 b) w := p1 a b
  have e2 (a b : Int) : (Op.equalIn 9999 3 (.int .i64 a) (.int .i64 b)).run Try.prog w = .ok (a == b) w := e a b
  by_cases h0 : x0 = y0 <;> by_cases h1 : x1 = y1 <;> simp [h0, h1, p2, e2]
theorem ne_pair (x0 x1 y0 y1 : Int) (w : World) : (binOp BinOp.neq 39 (.agg #[.int .i64 x0, .int .i64 x1]) (.agg #[.int .i64 y0, .int .i64 y1])).run Try.prog w = .ok (.bool (!(x0 == y0 && x1 == y1))) w := by
  have h := eq_pair x0 x1 y0 y1 w
  simp only [binOp] at h ⊢
  simp [h]
set_option maxRecDepth 100000 in
set_option maxHeartbeats 4000000 in
theorem equalp_any (A B : Option Addr) (n m c d : Nat) (xs ys : List (Int × Int)) (w : World) (ha : Prs w A n xs) (hb : Prs w B m ys) (hn : n ≤ Reach) (hm : m ≤ Reach) :
    Calls Try.prog 23 #[.slice A n c, .slice B m d] w fun e w' => e = .returned (.bool (decide (xs = ys))) ∧ Ext w w' := by
  unfold Reach at hn hm
  have HA := Lib.hid ha; have HB := Lib.hid hb; clear ha hb
  by_cases hnm : n = m
  · subst hnm
    have h0 : ((n : Int) != (n : Int)) = false := by simp
    go_enter Try.func23, Try.ntmps23
    go_wp2
    go_loopw [13] (fun i wr => ∃ k : Nat, k ≤ n ∧ i = .int .i64 k ∧ xs.take k = ys.take k ∧ Ext w wr) (fun i _ => n - (intOf i).toNat)
    case atStart => exact ⟨0, Nat.zero_le _, rfl, rfl, Ext.refl _⟩
    case round =>
      obtain ⟨k, hk, rfl, htk, hE⟩ := hrel
      have HE := Lib.hid hE; have HT := Lib.hid htk; clear hE htk
      by_cases hlt : k < n
      · obtain ⟨b, off, s, rfl, hb1, hs1, hs2, c1, c2⟩ := (HA.out.ext HE.out).get hlt
        obtain ⟨b', off', s', rfl, hb1', hs1', hs2', c1', c2'⟩ := (HB.out.ext HE.out).get hlt
        have HS := Lib.hid hs1; have HS' := Lib.hid hs1'; clear hs1 hs1'
        obtain ⟨s0, s1⟩ := s
        obtain ⟨s0', s1'⟩ := s'
        dsimp only at c1 c2 c1' c2'
        by_cases he : (s0, s1) = (s0', s1')
        · obtain ⟨rfl, rfl⟩ : s0 = s0' ∧ s1 = s1' := by simpa using he
          have hne := ne_pair s0 s1 s0 s1
          simp only [beq_self_eq_true, Bool.and_self, Bool.not_true] at hne
          go_wp2
          go_quiet (fail)
          go_wp2
          go_roundw
          case rel => exact ⟨k + 1, by omega, by go_num, by rw [take_succ_of HS.out, take_succ_of HS'.out, HT.out], HE.out.drewN _⟩
          case measure => simp [intOf]; omega
        · have hx : xs ≠ ys := fun e => by
            have h1 := HS.out; rw [e, HS'.out] at h1
            exact he (by simpa using h1.symm)
          have hd : (s0 == s0') = false ∨ ((s0 == s0') = true ∧ (s1 == s1') = false) := by
            simp only [Prod.mk.injEq, not_and] at he
            simp only [beq_eq_false_iff_ne, beq_iff_eq]
            omega
          have HX := Lib.hid hx; clear hx he
          have hne : ∀ w, (binOp BinOp.neq 39 (.agg #[.int .i64 s0, .int .i64 s1]) (.agg #[.int .i64 s0', .int .i64 s1'])).run Try.prog w = .ok (.bool true) w := fun w => by
            rw [ne_pair]; rcases hd with h1 | ⟨h1, h2⟩
            · simp [h1]
            · simp [h1, h2]
          clear hd
          go_wp2
          go_quiet (fail)
          go_wp2
          go_ret
          exact ⟨ret_bool (by simp [HX.out]), HE.out.drewN _⟩
      · go_wp2
        go_ret
        refine ⟨?_, HE.out⟩
        have : xs = ys := by
          have h1 := HT.out
          rwa [List.take_of_length_le (by rw [HA.out.1]; omega), List.take_of_length_le (by rw [HB.out.1]; omega)] at h1
        simp [this]
  · have h0 : ((n : Int) != (m : Int)) = true := by simp; omega
    go_enter Try.func23, Try.ntmps23
    go_wp2
    go_ret
    refine ⟨?_, Ext.refl _⟩
    have : xs ≠ ys := fun e => hnm (by rw [← HA.out.1, ← HB.out.1, e])
    simp [this]
theorem equalp_is {A B : Option Addr} {n m c d : Nat} {xs ys : List (Int × Int)} {r : Bool} {w : World} (hr : decide (xs = ys) = r) (ha : Prs w A n xs) (hb : Prs w B m ys) (hn : n ≤ Reach) (hm : m ≤ Reach) :
    Calls Try.prog 23 #[.slice A n c, .slice B m d] w fun e w' => e = .returned (.bool r) ∧ Ext w w' := by
  subst hr; exact equalp_any A B n m c d xs ys w ha hb hn hm
/-- Larger than the statements use. -/
def great9 (a b : Lns) : Bool := decide (10 < a.length) || decide (10 < b.length) || longV a || longV b
set_option maxRecDepth 100000 in
set_option maxHeartbeats 4000000 in
theorem great9_any (A B : Option Addr) (n m c d : Nat) (a b : Lns) (w : World) (hA : Strs w A n a) (hB : Strs w B m b) (hn : n ≤ Reach) (hm : m ≤ Reach) :
    Calls Try.prog 20 #[.slice A n c, .slice B m d] w fun e w' => e = .returned (.bool (great9 a b)) ∧ w' = w := by
  have HN := Lib.hid hn; have HM := Lib.hid hm
  unfold Reach at hn hm
  have HA := Lib.hid hA; have HB := Lib.hid hB
  obtain rfl : a.length = n := hA.1
  obtain rfl : b.length = m := hB.1
  clear hA hB
  by_cases h1 : 10 < a.length
  · have q1 : (10 : Int) < (a.length : Int) := by omega
    have hr : great9 a b = true := by simp [great9, h1]
    have HR := Lib.hid hr; clear hr
    go_enter Try.func20, Try.ntmps20
    go_wp2_with fail
    go_ret
    exact ⟨ret_bool HR.out.symm, rfl⟩
  have q1 : ¬ (10 : Int) < (a.length : Int) := by omega
  by_cases h2 : 10 < b.length
  · have q2 : (10 : Int) < (b.length : Int) := by omega
    have hr : great9 a b = true := by simp [great9, h2]
    have HR := Lib.hid hr; clear hr
    go_enter Try.func20, Try.ntmps20
    go_wp2_with fail
    go_ret
    exact ⟨ret_bool HR.out.symm, rfl⟩
  have q2 : ¬ (10 : Int) < (b.length : Int) := by omega
  cases h3 : longV a with
  | true =>
    have hr : great9 a b = true := by simp [great9, h3]
    have HR := Lib.hid hr; have H3 := Lib.hid h3; clear hr h3
    go_enter Try.func20, Try.ntmps20
    go_wp2_with fail
    refine (long_is H3.out HA.out HN.out).mono ?_
    rintro e w1 ⟨rfl, rfl⟩
    go_wp2_with fail
    go_ret
    exact ⟨ret_bool HR.out.symm, rfl⟩
  | false =>
    obtain ⟨r, hr⟩ : ∃ r, longV b = r := ⟨_, rfl⟩
    have hg : great9 a b = r := by rw [great9, nd h1, nd h2, h3, hr]; simp
    have HR := Lib.hid hr; have HG := Lib.hid hg; have H3 := Lib.hid h3; clear hr h3 hg
    go_enter Try.func20, Try.ntmps20
    go_wp2_with fail
    refine (long_is H3.out HA.out HN.out).mono ?_
    rintro e w1 ⟨rfl, rfl⟩
    go_wp2_with fail
    refine (long_is HR.out HB.out HM.out).mono ?_
    rintro e w1 ⟨rfl, rfl⟩
    go_wp2_with fail
    go_ret
    exact ⟨ret_bool HG.out.symm, rfl⟩
theorem great9_is {A B : Option Addr} {n m c d : Nat} {a b : Lns} {r : Bool} {w : World} (hr : great9 a b = r) (hA : Strs w A n a) (hB : Strs w B m b) (hn : n ≤ Reach) (hm : m ≤ Reach) :
    Calls Try.prog 20 #[.slice A n c, .slice B m d] w fun e w' => e = .returned (.bool r) ∧ w' = w := by
  subst hr; exact great9_any A B n m c d a b w hA hB hn hm
theorem small9 {a b : Lns} (h : great9 a b = false) : a.length ≤ 10 ∧ b.length ≤ 10 ∧ (∀ s ∈ a, s.size ≤ 100) ∧ (∀ s ∈ b, s.size ≤ 100) := by
  simp only [great9, Bool.or_eq_false_iff, decide_eq_false_iff_not, longV, List.any_eq_false, decide_eq_true_eq] at h
  obtain ⟨⟨⟨h1, h2⟩, h3⟩, h4⟩ := h
  exact ⟨by omega, by omega, fun s hs => by have := h3 s hs; omega, fun s hs => by have := h4 s hs; omega⟩
end Go.Proofs.Ytmmppfopokbcfaa

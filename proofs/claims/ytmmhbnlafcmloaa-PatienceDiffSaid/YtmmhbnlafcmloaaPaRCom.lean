/- Contract: the reference's Common. -/
import Derived.Test.YtmmhbnlafcmloaaPaCom
import Derived.Test.YtmmhbnlafcmloaaMyCheck
namespace Go.Proofs.Ytmmhbnlafcmloaa
open Go.RowKit

theorem mtB_far {a b : Lns} {i j : Int} (h : ¬ (i < a.length ∧ j < b.length)) : mtB a b i j = false := by
  cases e : mtB a b i j with
  | false => rfl
  | true => have := mtB_lt e; exact absurd ⟨by omega, by omega⟩ h
set_option maxRecDepth 100000 in
set_option maxHeartbeats 8000000 in
theorem rcommon_any (A B : Option Addr) (n c m d : Nat) (a b : Lns) (w : World) (ha : Strs w A n a) (hb : Strs w B m b) (hn : n ≤ 1000) (hm : m ≤ 1000) :
    Calls Try.prog 31 #[.slice A n c, .slice B m d] w fun e w' => e = .returned (.tuple #[.int .i64 (preN a b), .int .i64 (sufN a b)]) ∧ Ext w w' := by
  obtain rfl : a.length = n := ha.1
  obtain rfl : b.length = m := hb.1
  have HA := Lib.hid ha; have HB := Lib.hid hb; clear ha hb
  go_enter Try.func31, Try.ntmps31
  go_wp2_with fail
  go_loopw [6] (fun v6 wr => ∃ k : Nat, k ≤ a.length ∧ k ≤ b.length ∧ v6 = .int .i64 k ∧ folV a b k 0 = folV a b 0 0 ∧ Ext w wr) (fun v6 _ => b.length - (intOf v6).toNat)
  case atStart => exact ⟨0, Nat.zero_le _, Nat.zero_le _, rfl, rfl, Ext.refl _⟩
  case round =>
    obtain ⟨k, hk1, hk2, rfl, hf, hE⟩ := hrel
    have HF := Lib.hid hf; have HE := Lib.hid hE; clear hf hE
    by_cases l1 : k < a.length
    case neg =>
      have hp := pre_stop HF.out (mtB_far (by omega))
      have HP := Lib.hid hp; clear hp
      have q1 : decide (k < a.length) = false := nd l1
      go_wp2_with fail
      go_quiet (fail)
      go_wp2_with fail
      clear q1 l1
      have HE9 := Lib.hid (HE.out.drewN nq)
      obtain ⟨w5, hw5⟩ : ∃ w5, w5 = wr.drewN nq := ⟨_, rfl⟩
      rw [← hw5] at HE9
      rw [← hw5]
      clear hw5 HE HF
      go_loopw [7] (fun v7 wr => ∃ j : Nat, k + j ≤ a.length ∧ k + j ≤ b.length ∧ v7 = .int .i64 j ∧ sufF a b (min a.length b.length - k - j) j = sufN a b ∧ Ext w wr) (fun v7 _ => b.length - (intOf v7).toNat)
      case atStart => exact ⟨0, by omega, by omega, rfl, by rw [sufN, HP.out]; congr 1, HE9.out⟩
      clear HE9
      case round =>
        obtain ⟨j, hj1, hj2, rfl, hf, hE⟩ := hrel
        have HF := Lib.hid hf; have HE := Lib.hid hE; clear hf hE
        have e0 : IntKind.i64.wrap ((k : Int) + j) = (k : Int) + j := wrap_in (by omega) (by omega)
        have e9 : wrap64 ((k : Int) + j) = (k : Int) + j := w64_in (by omega) (by omega)
        by_cases ha1 : k + j < a.length
        case neg =>
          have hp := suf_stop HF.out (.inl (by omega))
          have HP2 := Lib.hid hp; clear hp
          have q1 : decide ((k : Int) + j < (a.length : Nat)) = false := nd (by omega)
          go_wp2_with fail
          go_quiet (fail)
          go_wp2_with fail
          refine bodyPost_ret (v := .tuple #[.int .i64 (k : Int), .int .i64 (j : Int)]) (by simp [results, Try.results31, go_sem]) rfl ⟨by rw [HP.out, HP2.out], HE.out.drewN _⟩
        have q1 : decide ((k : Int) + j < (a.length : Nat)) = true := yd (by omega)
        by_cases hb1 : k + j < b.length
        case neg =>
          have hp := suf_stop HF.out (.inl (by omega))
          have HP2 := Lib.hid hp; clear hp
          have q2 : decide ((k : Int) + j < (b.length : Nat)) = false := nd (by omega)
          go_wp2_with fail
          go_quiet (fail)
          go_wp2_with fail
          refine bodyPost_ret (v := .tuple #[.int .i64 (k : Int), .int .i64 (j : Int)]) (by simp [results, Try.results31, go_sem]) rfl ⟨by rw [HP.out, HP2.out], HE.out.drewN _⟩
        have q2 : decide ((k : Int) + j < (b.length : Nat)) = true := yd (by omega)
        obtain ⟨x, hx⟩ : ∃ x, a.length = x + 1 + j := ⟨a.length - 1 - j, by omega⟩
        obtain ⟨y, hy⟩ : ∃ y, b.length = y + 1 + j := ⟨b.length - 1 - j, by omega⟩
        obtain ⟨ba, oa, s, hA, hba, hs, hs2, hc1⟩ := (HA.out.ext HE.out).get (k := x) (by omega)
        first | subst hA | cases hA
        obtain ⟨bb, ob, t, hB, hbb, ht, ht2, hc2⟩ := (HB.out.ext HE.out).get (k := y) (by omega)
        first | subst hB | cases hB
        have hmt : mtB a b ((a.length : Int) - 1 - j) ((b.length : Int) - 1 - j) = decide (s = t) := by
          rw [show (a.length : Int) - 1 - j = (x : Nat) by omega, show (b.length : Int) - 1 - j = (y : Nat) by omega]; exact mtB_at hs ht
        have HMT := Lib.hid hmt; clear hmt hs ht
        have e1 : IntKind.i64.wrap ((a.length : Int) - 1 - j) = (x : Int) := by rw [wrap_in (by omega) (by omega)]; omega
        have e2 : IntKind.i64.wrap ((b.length : Int) - 1 - j) = (y : Int) := by rw [wrap_in (by omega) (by omega)]; omega
        have e3 : IntKind.i64.wrap ((a.length : Int) - 1) = (a.length : Int) - 1 := wrap_in (by omega) (by omega)
        have e4 : IntKind.i64.wrap ((b.length : Int) - 1) = (b.length : Int) - 1 := wrap_in (by omega) (by omega)
        have l1 : x < a.length := by omega
        have l2 : y < b.length := by omega
        have HX := Lib.hid hx; have HY := Lib.hid hy; clear hx hy
        by_cases hst : s = t
        · subst hst
          have hst2 := suf_step (f := min a.length b.length - k - (j + 1)) (by rw [show min a.length b.length - k - (j + 1) + 1 = min a.length b.length - k - j by omega]; exact HF.out) (by rw [HMT.out]; simp)
          have HST := Lib.hid hst2; clear hst2
          go_wp2_with fail
          go_quiet (fail)
          go_wp2_with fail
          go_roundw
          case rel => exact ⟨j + 1, by omega, by omega, by go_num, HST.out, HE.out.drewN _⟩
          case measure => simp [intOf]; omega
        have hne := ne_list hst
        have hp := suf_stop HF.out (.inr (by rw [HMT.out]; simpa using hst))
        have HP2 := Lib.hid hp; clear hp hst
        go_wp2_with fail
        go_quiet (fail)
        go_wp2_with fail
        refine bodyPost_ret (v := .tuple #[.int .i64 (k : Int), .int .i64 (j : Int)]) (by simp [results, Try.results31, go_sem]) rfl ⟨by rw [HP.out, HP2.out], HE.out.drewN _⟩
    by_cases l2 : k < b.length
    case neg =>
      have hp := pre_stop HF.out (mtB_far (by omega))
      have HP := Lib.hid hp; clear hp
      have q1 : decide (k < a.length) = true := yd l1
      have q2 : decide (k < b.length) = false := nd l2
      go_wp2_with fail
      go_quiet (fail)
      go_wp2_with fail
      clear q1 l1 q2 l2
      have HE9 := Lib.hid (HE.out.drewN nq)
      obtain ⟨w5, hw5⟩ : ∃ w5, w5 = wr.drewN nq := ⟨_, rfl⟩
      rw [← hw5] at HE9
      rw [← hw5]
      clear hw5 HE HF
      go_loopw [7] (fun v7 wr => ∃ j : Nat, k + j ≤ a.length ∧ k + j ≤ b.length ∧ v7 = .int .i64 j ∧ sufF a b (min a.length b.length - k - j) j = sufN a b ∧ Ext w wr) (fun v7 _ => b.length - (intOf v7).toNat)
      case atStart => exact ⟨0, by omega, by omega, rfl, by rw [sufN, HP.out]; congr 1, HE9.out⟩
      clear HE9
      case round =>
        obtain ⟨j, hj1, hj2, rfl, hf, hE⟩ := hrel
        have HF := Lib.hid hf; have HE := Lib.hid hE; clear hf hE
        have e0 : IntKind.i64.wrap ((k : Int) + j) = (k : Int) + j := wrap_in (by omega) (by omega)
        have e9 : wrap64 ((k : Int) + j) = (k : Int) + j := w64_in (by omega) (by omega)
        by_cases ha1 : k + j < a.length
        case neg =>
          have hp := suf_stop HF.out (.inl (by omega))
          have HP2 := Lib.hid hp; clear hp
          have q1 : decide ((k : Int) + j < (a.length : Nat)) = false := nd (by omega)
          go_wp2_with fail
          go_quiet (fail)
          go_wp2_with fail
          refine bodyPost_ret (v := .tuple #[.int .i64 (k : Int), .int .i64 (j : Int)]) (by simp [results, Try.results31, go_sem]) rfl ⟨by rw [HP.out, HP2.out], HE.out.drewN _⟩
        have q1 : decide ((k : Int) + j < (a.length : Nat)) = true := yd (by omega)
        by_cases hb1 : k + j < b.length
        case neg =>
          have hp := suf_stop HF.out (.inl (by omega))
          have HP2 := Lib.hid hp; clear hp
          have q2 : decide ((k : Int) + j < (b.length : Nat)) = false := nd (by omega)
          go_wp2_with fail
          go_quiet (fail)
          go_wp2_with fail
          refine bodyPost_ret (v := .tuple #[.int .i64 (k : Int), .int .i64 (j : Int)]) (by simp [results, Try.results31, go_sem]) rfl ⟨by rw [HP.out, HP2.out], HE.out.drewN _⟩
        have q2 : decide ((k : Int) + j < (b.length : Nat)) = true := yd (by omega)
        obtain ⟨x, hx⟩ : ∃ x, a.length = x + 1 + j := ⟨a.length - 1 - j, by omega⟩
        obtain ⟨y, hy⟩ : ∃ y, b.length = y + 1 + j := ⟨b.length - 1 - j, by omega⟩
        obtain ⟨ba, oa, s, hA, hba, hs, hs2, hc1⟩ := (HA.out.ext HE.out).get (k := x) (by omega)
        first | subst hA | cases hA
        obtain ⟨bb, ob, t, hB, hbb, ht, ht2, hc2⟩ := (HB.out.ext HE.out).get (k := y) (by omega)
        first | subst hB | cases hB
        have hmt : mtB a b ((a.length : Int) - 1 - j) ((b.length : Int) - 1 - j) = decide (s = t) := by
          rw [show (a.length : Int) - 1 - j = (x : Nat) by omega, show (b.length : Int) - 1 - j = (y : Nat) by omega]; exact mtB_at hs ht
        have HMT := Lib.hid hmt; clear hmt hs ht
        have e1 : IntKind.i64.wrap ((a.length : Int) - 1 - j) = (x : Int) := by rw [wrap_in (by omega) (by omega)]; omega
        have e2 : IntKind.i64.wrap ((b.length : Int) - 1 - j) = (y : Int) := by rw [wrap_in (by omega) (by omega)]; omega
        have e3 : IntKind.i64.wrap ((a.length : Int) - 1) = (a.length : Int) - 1 := wrap_in (by omega) (by omega)
        have e4 : IntKind.i64.wrap ((b.length : Int) - 1) = (b.length : Int) - 1 := wrap_in (by omega) (by omega)
        have l1 : x < a.length := by omega
        have l2 : y < b.length := by omega
        have HX := Lib.hid hx; have HY := Lib.hid hy; clear hx hy
        by_cases hst : s = t
        · subst hst
          have hst2 := suf_step (f := min a.length b.length - k - (j + 1)) (by rw [show min a.length b.length - k - (j + 1) + 1 = min a.length b.length - k - j by omega]; exact HF.out) (by rw [HMT.out]; simp)
          have HST := Lib.hid hst2; clear hst2
          go_wp2_with fail
          go_quiet (fail)
          go_wp2_with fail
          go_roundw
          case rel => exact ⟨j + 1, by omega, by omega, by go_num, HST.out, HE.out.drewN _⟩
          case measure => simp [intOf]; omega
        have hne := ne_list hst
        have hp := suf_stop HF.out (.inr (by rw [HMT.out]; simpa using hst))
        have HP2 := Lib.hid hp; clear hp hst
        go_wp2_with fail
        go_quiet (fail)
        go_wp2_with fail
        refine bodyPost_ret (v := .tuple #[.int .i64 (k : Int), .int .i64 (j : Int)]) (by simp [results, Try.results31, go_sem]) rfl ⟨by rw [HP.out, HP2.out], HE.out.drewN _⟩
    have q1 : decide (k < a.length) = true := yd l1
    have q2 : decide (k < b.length) = true := yd l2
    obtain ⟨ba, oa, s, hA, hba, hs, hs2, hc1⟩ := (HA.out.ext HE.out).get l1
    obtain ⟨bb, ob, t, hB, hbb, ht, ht2, hc2⟩ := (HB.out.ext HE.out).get l2
    subst hA; subst hB
    have hmt := mtB_at hs ht
    have HMT := Lib.hid hmt; clear hmt hs ht
    by_cases hst : s = t
    · subst hst
      have hst2 := pre_step HF.out (by rw [HMT.out]; simp)
      have HST := Lib.hid hst2; clear hst2
      go_wp2_with fail
      go_quiet (fail)
      go_wp2_with fail
      go_roundw
      case rel => exact ⟨k + 1, by omega, by omega, by go_num, HST.out, HE.out.drewN _⟩
      case measure => simp [intOf]; omega
    have hne := ne_list hst
    have hp := pre_stop HF.out (by rw [HMT.out]; simpa using hst)
    have HP := Lib.hid hp; clear hp hst
    go_wp2_with fail
    go_quiet (fail)
    go_wp2_with fail
    clear q1 q2 hc1 hc2 hne hba hbb hs2 ht2 l1 l2 HMT
    have HE9 := Lib.hid (HE.out.drewN nq)
    obtain ⟨w5, hw5⟩ : ∃ w5, w5 = wr.drewN nq := ⟨_, rfl⟩
    rw [← hw5] at HE9
    rw [← hw5]
    clear hw5 HE HF
    go_loopw [7] (fun v7 wr => ∃ j : Nat, k + j ≤ a.length ∧ k + j ≤ b.length ∧ v7 = .int .i64 j ∧ sufF a b (min a.length b.length - k - j) j = sufN a b ∧ Ext w wr) (fun v7 _ => b.length - (intOf v7).toNat)
    case atStart => exact ⟨0, by omega, by omega, rfl, by rw [sufN, HP.out]; congr 1, HE9.out⟩
    clear HE9
    case round =>
      obtain ⟨j, hj1, hj2, rfl, hf, hE⟩ := hrel
      have HF := Lib.hid hf; have HE := Lib.hid hE; clear hf hE
      have e0 : IntKind.i64.wrap ((k : Int) + j) = (k : Int) + j := wrap_in (by omega) (by omega)
      have e9 : wrap64 ((k : Int) + j) = (k : Int) + j := w64_in (by omega) (by omega)
      by_cases ha1 : k + j < a.length
      case neg =>
        have hp := suf_stop HF.out (.inl (by omega))
        have HP2 := Lib.hid hp; clear hp
        have q1 : decide ((k : Int) + j < (a.length : Nat)) = false := nd (by omega)
        go_wp2_with fail
        go_quiet (fail)
        go_wp2_with fail
        refine bodyPost_ret (v := .tuple #[.int .i64 (k : Int), .int .i64 (j : Int)]) (by simp [results, Try.results31, go_sem]) rfl ⟨by rw [HP.out, HP2.out], HE.out.drewN _⟩
      have q1 : decide ((k : Int) + j < (a.length : Nat)) = true := yd (by omega)
      by_cases hb1 : k + j < b.length
      case neg =>
        have hp := suf_stop HF.out (.inl (by omega))
        have HP2 := Lib.hid hp; clear hp
        have q2 : decide ((k : Int) + j < (b.length : Nat)) = false := nd (by omega)
        go_wp2_with fail
        go_quiet (fail)
        go_wp2_with fail
        refine bodyPost_ret (v := .tuple #[.int .i64 (k : Int), .int .i64 (j : Int)]) (by simp [results, Try.results31, go_sem]) rfl ⟨by rw [HP.out, HP2.out], HE.out.drewN _⟩
      have q2 : decide ((k : Int) + j < (b.length : Nat)) = true := yd (by omega)
      obtain ⟨x, hx⟩ : ∃ x, a.length = x + 1 + j := ⟨a.length - 1 - j, by omega⟩
      obtain ⟨y, hy⟩ : ∃ y, b.length = y + 1 + j := ⟨b.length - 1 - j, by omega⟩
      obtain ⟨ba, oa, s, hA, hba, hs, hs2, hc1⟩ := (HA.out.ext HE.out).get (k := x) (by omega)
      first | subst hA | cases hA
      obtain ⟨bb, ob, t, hB, hbb, ht, ht2, hc2⟩ := (HB.out.ext HE.out).get (k := y) (by omega)
      first | subst hB | cases hB
      have hmt : mtB a b ((a.length : Int) - 1 - j) ((b.length : Int) - 1 - j) = decide (s = t) := by
        rw [show (a.length : Int) - 1 - j = (x : Nat) by omega, show (b.length : Int) - 1 - j = (y : Nat) by omega]; exact mtB_at hs ht
      have HMT := Lib.hid hmt; clear hmt hs ht
      have e1 : IntKind.i64.wrap ((a.length : Int) - 1 - j) = (x : Int) := by rw [wrap_in (by omega) (by omega)]; omega
      have e2 : IntKind.i64.wrap ((b.length : Int) - 1 - j) = (y : Int) := by rw [wrap_in (by omega) (by omega)]; omega
      have e3 : IntKind.i64.wrap ((a.length : Int) - 1) = (a.length : Int) - 1 := wrap_in (by omega) (by omega)
      have e4 : IntKind.i64.wrap ((b.length : Int) - 1) = (b.length : Int) - 1 := wrap_in (by omega) (by omega)
      have l1 : x < a.length := by omega
      have l2 : y < b.length := by omega
      have HX := Lib.hid hx; have HY := Lib.hid hy; clear hx hy
      by_cases hst : s = t
      · subst hst
        have hst2 := suf_step (f := min a.length b.length - k - (j + 1)) (by rw [show min a.length b.length - k - (j + 1) + 1 = min a.length b.length - k - j by omega]; exact HF.out) (by rw [HMT.out]; simp)
        have HST := Lib.hid hst2; clear hst2
        go_wp2_with fail
        go_quiet (fail)
        go_wp2_with fail
        go_roundw
        case rel => exact ⟨j + 1, by omega, by omega, by go_num, HST.out, HE.out.drewN _⟩
        case measure => simp [intOf]; omega
      have hne := ne_list hst
      have hp := suf_stop HF.out (.inr (by rw [HMT.out]; simpa using hst))
      have HP2 := Lib.hid hp; clear hp hst
      go_wp2_with fail
      go_quiet (fail)
      go_wp2_with fail
      refine bodyPost_ret (v := .tuple #[.int .i64 (k : Int), .int .i64 (j : Int)]) (by simp [results, Try.results31, go_sem]) rfl ⟨by rw [HP.out, HP2.out], HE.out.drewN _⟩
theorem rcommon_is (A B : Option Addr) (n c m d : Nat) (a b : Lns) (w : World) (ha : Strs w A n a) (hb : Strs w B m b) (hn : n ≤ 1000) (hm : m ≤ 1000) (x y : Nat) (hx : preN a b = x) (hy : sufN a b = y) :
    Calls Try.prog 31 #[.slice A n c, .slice B m d] w fun e w' => e = .returned (.tuple #[.int .i64 x, .int .i64 y]) ∧ Ext w w' := by
  subst hx; subst hy; exact rcommon_any A B n c m d a b w ha hb hn hm
end Go.Proofs.Ytmmhbnlafcmloaa

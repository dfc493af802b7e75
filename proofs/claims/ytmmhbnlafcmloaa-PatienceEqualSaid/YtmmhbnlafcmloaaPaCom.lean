/- Contract: lines.Common. -/
import Derived.Test.YtmmhbnlafcmloaaPaPcs
namespace Go.Proofs.Ytmmhbnlafcmloaa
open Go.RowKit

theorem ne_list {s t : ByteArray} (h : s ≠ t) : (s.toList == t.toList) = false := by
  cases e : (s.toList == t.toList) with
  | false => rfl
  | true => exact absurd (toList_inj (by simpa using e)) h
theorem pre_stop {a b : Lns} {k : Nat} (h : folV a b k 0 = folV a b 0 0) (hs : mtB a b (k : Nat) (k : Nat) = false) : preN a b = k := by
  unfold preN
  rw [← h, folV_stop (by rw [Int.sub_zero]; exact hs)]; simp
theorem pre_step {a b : Lns} {k : Nat} (h : folV a b k 0 = folV a b 0 0) (hs : mtB a b (k : Nat) (k : Nat) = true) : folV a b ((k + 1 : Nat) : Int) 0 = folV a b 0 0 := by
  rw [← h, folV_step (x := (k : Int)) (by rw [Int.sub_zero]; exact hs)]; rfl
theorem suf_step {a b : Lns} {f m : Nat} (h : sufF a b (f + 1) m = sufN a b) (hs : mtB a b ((a.length : Int) - 1 - m) ((b.length : Int) - 1 - m) = true) : sufF a b f (m + 1) = sufN a b := by
  rw [← h, sufF, if_pos hs]
theorem suf_stop {a b : Lns} {f m : Nat} (h : sufF a b f m = sufN a b) (hs : f = 0 ∨ mtB a b ((a.length : Int) - 1 - m) ((b.length : Int) - 1 - m) = false) : sufN a b = m := by
  rw [← h]
  cases f with
  | zero => rfl
  | succ f =>
    rw [sufF, if_neg (by rcases hs with h | h; omega; rw [h]; simp)]

set_option maxRecDepth 100000 in
set_option maxHeartbeats 8000000 in
theorem common_any (A B : Option Addr) (n c m d : Nat) (a b : Lns) (w : World) (ha : Strs w A n a) (hb : Strs w B m b) (hn : n ≤ 1000) (hm : m ≤ 1000) :
    Calls Try.prog 24 #[.slice A n c, .slice B m d] w fun e w' => e = .returned (.tuple #[.int .i64 (preN a b), .int .i64 (sufN a b)]) ∧ Ext w w' := by
  obtain rfl : a.length = n := ha.1
  obtain rfl : b.length = m := hb.1
  have HA := Lib.hid ha; have HB := Lib.hid hb; clear ha hb
  by_cases hab : b.length < a.length
  · go_enter Try.func24, Try.ntmps24
    go_wp2_with fail
    go_loopw [7] (fun v7 wr => ∃ k : Nat, k ≤ b.length ∧ v7 = .int .i64 k ∧ folV a b k 0 = folV a b 0 0 ∧ Ext w wr) (fun v7 _ => b.length - (intOf v7).toNat)
    case atStart => exact ⟨0, Nat.zero_le _, rfl, rfl, Ext.refl _⟩
    case round =>
      obtain ⟨k, hk, rfl, hf, hE⟩ := hrel
      have HF := Lib.hid hf; have HE := Lib.hid hE; clear hf hE
      by_cases hlt : k < b.length
      case pos =>
        obtain ⟨ba, oa, s, hA, hba, hs, hs2, hc1⟩ := (HA.out.ext HE.out).get (k := k) (by omega)
        obtain ⟨bb, ob, t, hB, hbb, ht, ht2, hc2⟩ := (HB.out.ext HE.out).get (k := k) (by omega)
        subst hA; subst hB
        have hmt := mtB_at hs ht
        have HMT := Lib.hid hmt; clear hmt hs ht
        have q1 : decide (k < b.length) = true := yd hlt
        have l1 : k < a.length := by omega
        have l2 : k < b.length := by omega
        by_cases hst : s = t
        · subst hst
          have hst2 := pre_step HF.out (by rw [HMT.out]; simp)
          have HST := Lib.hid hst2; clear hst2
          go_wp2_with fail
          go_quiet (fail)
          go_wp2_with fail
          go_roundw
          case rel => exact ⟨k + 1, by omega, by go_num, HST.out, HE.out.drewN _⟩
          case measure => simp [intOf]; omega
        have hne := ne_list hst
        have hp := pre_stop HF.out (by rw [HMT.out]; simpa using hst)
        have HP := Lib.hid hp; clear hp hst
        go_wp2_with fail
        go_quiet (fail)
        go_wp2_with fail
        clear q1 hc1 hc2 hne hba hbb hs2 ht2 l1 l2
        have HE9 := Lib.hid (HE.out.drewN nq)
        obtain ⟨w5, hw5⟩ : ∃ w5, w5 = wr.drewN nq := ⟨_, rfl⟩
        rw [← hw5] at HE9
        rw [← hw5]
        clear hw5 HE HF
        go_loopw [8] (fun v8 wr => ∃ j : Nat, k + j ≤ b.length ∧ v8 = .int .i64 j ∧ sufF a b (b.length - k - j) j = sufN a b ∧ Ext w wr) (fun v8 _ => b.length - (intOf v8).toNat)
        case atStart => exact ⟨0, by omega, rfl, by rw [sufN, HP.out]; congr 1; omega, HE9.out⟩
        clear HE9
        case round =>
          obtain ⟨j, hj, rfl, hf, hE⟩ := hrel
          have HF := Lib.hid hf; have HE := Lib.hid hE; clear hf hE
          by_cases hlt2 : k + j < b.length
          case pos =>
            obtain ⟨x, hx⟩ : ∃ x, a.length = x + 1 + j := ⟨a.length - 1 - j, by omega⟩
            obtain ⟨y, hy⟩ : ∃ y, b.length = y + 1 + j := ⟨b.length - 1 - j, by omega⟩
            obtain ⟨ba, oa, s, hA, hba, hs, hs2, hc1⟩ := (HA.out.ext HE.out).get (k := x) (by omega)
            first | subst hA | cases hA
            obtain ⟨bb, ob, t, hB, hbb, ht, ht2, hc2⟩ := (HB.out.ext HE.out).get (k := y) (by omega)
            first | subst hB | cases hB
            have hmt : mtB a b ((a.length : Int) - 1 - j) ((b.length : Int) - 1 - j) = decide (s = t) := by
              rw [show (a.length : Int) - 1 - j = (x : Nat) by omega, show (b.length : Int) - 1 - j = (y : Nat) by omega]; exact mtB_at hs ht
            have HMT := Lib.hid hmt; clear hmt hs ht
            have q1 : decide ((k : Int) + j < (b.length : Nat)) = true := yd (by omega)
            have e0 : IntKind.i64.wrap ((k : Int) + j) = (k : Int) + j := wrap_in (by omega) (by omega)
            have e1 : IntKind.i64.wrap ((a.length : Int) - 1 - j) = (x : Int) := by rw [wrap_in (by omega) (by omega)]; omega
            have e2 : IntKind.i64.wrap ((b.length : Int) - 1 - j) = (y : Int) := by rw [wrap_in (by omega) (by omega)]; omega
            have l1 : x < a.length := by omega
            have l2 : y < b.length := by omega
            have HX := Lib.hid hx; have HY := Lib.hid hy; clear hx hy
            by_cases hst : s = t
            · subst hst
              have hst2 := suf_step (f := b.length - k - (j + 1)) (by rw [show b.length - k - (j + 1) + 1 = b.length - k - j by omega]; exact HF.out) (by rw [HMT.out]; simp)
              have HST := Lib.hid hst2; clear hst2
              go_wp2_with fail
              go_quiet (fail)
              go_wp2_with fail
              go_roundw
              case rel => exact ⟨j + 1, by omega, by go_num, HST.out, HE.out.drewN _⟩
              case measure => simp [intOf]; omega
            have hne := ne_list hst
            have hp := suf_stop HF.out (.inr (by rw [HMT.out]; simpa using hst))
            have HP2 := Lib.hid hp; clear hp hst
            go_wp2_with fail
            go_quiet (fail)
            go_wp2_with fail
            refine bodyPost_ret (v := .tuple #[.int .i64 (k : Int), .int .i64 (j : Int)]) (by simp [results, Try.results24, go_sem]) rfl ⟨by rw [HP.out, HP2.out], HE.out.drewN _⟩
          case neg =>
            have hp := suf_stop HF.out (.inl (by omega))
            have HP2 := Lib.hid hp; clear hp
            have q1 : decide ((k : Int) + j < (b.length : Nat)) = false := nd (by omega)
            have e0 : IntKind.i64.wrap ((k : Int) + j) = (k : Int) + j := wrap_in (by omega) (by omega)
            go_wp2_with fail
            go_quiet (fail)
            go_wp2_with fail
            refine bodyPost_ret (v := .tuple #[.int .i64 (k : Int), .int .i64 (j : Int)]) (by simp [results, Try.results24, go_sem]) rfl ⟨by rw [HP.out, HP2.out], HE.out.drewN _⟩
      case neg =>
        obtain rfl : k = b.length := by omega
        have hp := pre_stop HF.out (mtB_out (by omega))
        have HP := Lib.hid hp; clear hp
        have q1 : decide (b.length < b.length) = false := nd hlt
        go_wp2_with fail
        go_quiet (fail)
        go_wp2_with fail
        clear q1
        have HE9 := Lib.hid (HE.out.drewN nq)
        obtain ⟨w5, hw5⟩ : ∃ w5, w5 = wr.drewN nq := ⟨_, rfl⟩
        rw [← hw5] at HE9
        rw [← hw5]
        clear hw5 HE HF
        go_loopw [8] (fun v8 wr => ∃ j : Nat, b.length + j ≤ b.length ∧ v8 = .int .i64 j ∧ sufF a b (b.length - b.length - j) j = sufN a b ∧ Ext w wr) (fun v8 _ => b.length - (intOf v8).toNat)
        case atStart => exact ⟨0, by omega, rfl, by rw [sufN, HP.out]; congr 1; omega, HE9.out⟩
        clear HE9
        case round =>
          obtain ⟨j, hj, rfl, hf, hE⟩ := hrel
          have HF := Lib.hid hf; have HE := Lib.hid hE; clear hf hE
          by_cases hlt2 : b.length + j < b.length
          case pos =>
            obtain ⟨x, hx⟩ : ∃ x, a.length = x + 1 + j := ⟨a.length - 1 - j, by omega⟩
            obtain ⟨y, hy⟩ : ∃ y, b.length = y + 1 + j := ⟨b.length - 1 - j, by omega⟩
            obtain ⟨ba, oa, s, hA, hba, hs, hs2, hc1⟩ := (HA.out.ext HE.out).get (k := x) (by omega)
            first | subst hA | cases hA
            obtain ⟨bb, ob, t, hB, hbb, ht, ht2, hc2⟩ := (HB.out.ext HE.out).get (k := y) (by omega)
            first | subst hB | cases hB
            have hmt : mtB a b ((a.length : Int) - 1 - j) ((b.length : Int) - 1 - j) = decide (s = t) := by
              rw [show (a.length : Int) - 1 - j = (x : Nat) by omega, show (b.length : Int) - 1 - j = (y : Nat) by omega]; exact mtB_at hs ht
            have HMT := Lib.hid hmt; clear hmt hs ht
            have q1 : decide ((b.length : Int) + j < (b.length : Nat)) = true := yd (by omega)
            have e0 : IntKind.i64.wrap ((b.length : Int) + j) = (b.length : Int) + j := wrap_in (by omega) (by omega)
            have e1 : IntKind.i64.wrap ((a.length : Int) - 1 - j) = (x : Int) := by rw [wrap_in (by omega) (by omega)]; omega
            have e2 : IntKind.i64.wrap ((b.length : Int) - 1 - j) = (y : Int) := by rw [wrap_in (by omega) (by omega)]; omega
            have l1 : x < a.length := by omega
            have l2 : y < b.length := by omega
            have HX := Lib.hid hx; have HY := Lib.hid hy; clear hx hy
            by_cases hst : s = t
            · subst hst
              have hst2 := suf_step (f := b.length - b.length - (j + 1)) (by rw [show b.length - b.length - (j + 1) + 1 = b.length - b.length - j by omega]; exact HF.out) (by rw [HMT.out]; simp)
              have HST := Lib.hid hst2; clear hst2
              go_wp2_with fail
              go_quiet (fail)
              go_wp2_with fail
              go_roundw
              case rel => exact ⟨j + 1, by omega, by go_num, HST.out, HE.out.drewN _⟩
              case measure => simp [intOf]; omega
            have hne := ne_list hst
            have hp := suf_stop HF.out (.inr (by rw [HMT.out]; simpa using hst))
            have HP2 := Lib.hid hp; clear hp hst
            go_wp2_with fail
            go_quiet (fail)
            go_wp2_with fail
            refine bodyPost_ret (v := .tuple #[.int .i64 (b.length : Int), .int .i64 (j : Int)]) (by simp [results, Try.results24, go_sem]) rfl ⟨by rw [HP.out, HP2.out], HE.out.drewN _⟩
          case neg =>
            have hp := suf_stop HF.out (.inl (by omega))
            have HP2 := Lib.hid hp; clear hp
            have q1 : decide ((b.length : Int) + j < (b.length : Nat)) = false := nd (by omega)
            have e0 : IntKind.i64.wrap ((b.length : Int) + j) = (b.length : Int) + j := wrap_in (by omega) (by omega)
            go_wp2_with fail
            go_quiet (fail)
            go_wp2_with fail
            refine bodyPost_ret (v := .tuple #[.int .i64 (b.length : Int), .int .i64 (j : Int)]) (by simp [results, Try.results24, go_sem]) rfl ⟨by rw [HP.out, HP2.out], HE.out.drewN _⟩
  · go_enter Try.func24, Try.ntmps24
    go_wp2_with fail
    go_loopw [7] (fun v7 wr => ∃ k : Nat, k ≤ a.length ∧ v7 = .int .i64 k ∧ folV a b k 0 = folV a b 0 0 ∧ Ext w wr) (fun v7 _ => a.length - (intOf v7).toNat)
    case atStart => exact ⟨0, Nat.zero_le _, rfl, rfl, Ext.refl _⟩
    case round =>
      obtain ⟨k, hk, rfl, hf, hE⟩ := hrel
      have HF := Lib.hid hf; have HE := Lib.hid hE; clear hf hE
      by_cases hlt : k < a.length
      case pos =>
        obtain ⟨ba, oa, s, hA, hba, hs, hs2, hc1⟩ := (HA.out.ext HE.out).get (k := k) (by omega)
        obtain ⟨bb, ob, t, hB, hbb, ht, ht2, hc2⟩ := (HB.out.ext HE.out).get (k := k) (by omega)
        subst hA; subst hB
        have hmt := mtB_at hs ht
        have HMT := Lib.hid hmt; clear hmt hs ht
        have q1 : decide (k < a.length) = true := yd hlt
        have l1 : k < a.length := by omega
        have l2 : k < b.length := by omega
        by_cases hst : s = t
        · subst hst
          have hst2 := pre_step HF.out (by rw [HMT.out]; simp)
          have HST := Lib.hid hst2; clear hst2
          go_wp2_with fail
          go_quiet (fail)
          go_wp2_with fail
          go_roundw
          case rel => exact ⟨k + 1, by omega, by go_num, HST.out, HE.out.drewN _⟩
          case measure => simp [intOf]; omega
        have hne := ne_list hst
        have hp := pre_stop HF.out (by rw [HMT.out]; simpa using hst)
        have HP := Lib.hid hp; clear hp hst
        go_wp2_with fail
        go_quiet (fail)
        go_wp2_with fail
        clear q1 hc1 hc2 hne hba hbb hs2 ht2 l1 l2
        have HE9 := Lib.hid (HE.out.drewN nq)
        obtain ⟨w5, hw5⟩ : ∃ w5, w5 = wr.drewN nq := ⟨_, rfl⟩
        rw [← hw5] at HE9
        rw [← hw5]
        clear hw5 HE HF
        go_loopw [8] (fun v8 wr => ∃ j : Nat, k + j ≤ a.length ∧ v8 = .int .i64 j ∧ sufF a b (a.length - k - j) j = sufN a b ∧ Ext w wr) (fun v8 _ => a.length - (intOf v8).toNat)
        case atStart => exact ⟨0, by omega, rfl, by rw [sufN, HP.out]; congr 1; omega, HE9.out⟩
        clear HE9
        case round =>
          obtain ⟨j, hj, rfl, hf, hE⟩ := hrel
          have HF := Lib.hid hf; have HE := Lib.hid hE; clear hf hE
          by_cases hlt2 : k + j < a.length
          case pos =>
            obtain ⟨x, hx⟩ : ∃ x, a.length = x + 1 + j := ⟨a.length - 1 - j, by omega⟩
            obtain ⟨y, hy⟩ : ∃ y, b.length = y + 1 + j := ⟨b.length - 1 - j, by omega⟩
            obtain ⟨ba, oa, s, hA, hba, hs, hs2, hc1⟩ := (HA.out.ext HE.out).get (k := x) (by omega)
            first | subst hA | cases hA
            obtain ⟨bb, ob, t, hB, hbb, ht, ht2, hc2⟩ := (HB.out.ext HE.out).get (k := y) (by omega)
            first | subst hB | cases hB
            have hmt : mtB a b ((a.length : Int) - 1 - j) ((b.length : Int) - 1 - j) = decide (s = t) := by
              rw [show (a.length : Int) - 1 - j = (x : Nat) by omega, show (b.length : Int) - 1 - j = (y : Nat) by omega]; exact mtB_at hs ht
            have HMT := Lib.hid hmt; clear hmt hs ht
            have q1 : decide ((k : Int) + j < (a.length : Nat)) = true := yd (by omega)
            have e0 : IntKind.i64.wrap ((k : Int) + j) = (k : Int) + j := wrap_in (by omega) (by omega)
            have e1 : IntKind.i64.wrap ((a.length : Int) - 1 - j) = (x : Int) := by rw [wrap_in (by omega) (by omega)]; omega
            have e2 : IntKind.i64.wrap ((b.length : Int) - 1 - j) = (y : Int) := by rw [wrap_in (by omega) (by omega)]; omega
            have l1 : x < a.length := by omega
            have l2 : y < b.length := by omega
            have HX := Lib.hid hx; have HY := Lib.hid hy; clear hx hy
            by_cases hst : s = t
            · subst hst
              have hst2 := suf_step (f := a.length - k - (j + 1)) (by rw [show a.length - k - (j + 1) + 1 = a.length - k - j by omega]; exact HF.out) (by rw [HMT.out]; simp)
              have HST := Lib.hid hst2; clear hst2
              go_wp2_with fail
              go_quiet (fail)
              go_wp2_with fail
              go_roundw
              case rel => exact ⟨j + 1, by omega, by go_num, HST.out, HE.out.drewN _⟩
              case measure => simp [intOf]; omega
            have hne := ne_list hst
            have hp := suf_stop HF.out (.inr (by rw [HMT.out]; simpa using hst))
            have HP2 := Lib.hid hp; clear hp hst
            go_wp2_with fail
            go_quiet (fail)
            go_wp2_with fail
            refine bodyPost_ret (v := .tuple #[.int .i64 (k : Int), .int .i64 (j : Int)]) (by simp [results, Try.results24, go_sem]) rfl ⟨by rw [HP.out, HP2.out], HE.out.drewN _⟩
          case neg =>
            have hp := suf_stop HF.out (.inl (by omega))
            have HP2 := Lib.hid hp; clear hp
            have q1 : decide ((k : Int) + j < (a.length : Nat)) = false := nd (by omega)
            have e0 : IntKind.i64.wrap ((k : Int) + j) = (k : Int) + j := wrap_in (by omega) (by omega)
            go_wp2_with fail
            go_quiet (fail)
            go_wp2_with fail
            refine bodyPost_ret (v := .tuple #[.int .i64 (k : Int), .int .i64 (j : Int)]) (by simp [results, Try.results24, go_sem]) rfl ⟨by rw [HP.out, HP2.out], HE.out.drewN _⟩
      case neg =>
        obtain rfl : k = a.length := by omega
        have hp := pre_stop HF.out (mtB_out (by omega))
        have HP := Lib.hid hp; clear hp
        have q1 : decide (a.length < a.length) = false := nd hlt
        go_wp2_with fail
        go_quiet (fail)
        go_wp2_with fail
        clear q1
        have HE9 := Lib.hid (HE.out.drewN nq)
        obtain ⟨w5, hw5⟩ : ∃ w5, w5 = wr.drewN nq := ⟨_, rfl⟩
        rw [← hw5] at HE9
        rw [← hw5]
        clear hw5 HE HF
        go_loopw [8] (fun v8 wr => ∃ j : Nat, a.length + j ≤ a.length ∧ v8 = .int .i64 j ∧ sufF a b (a.length - a.length - j) j = sufN a b ∧ Ext w wr) (fun v8 _ => a.length - (intOf v8).toNat)
        case atStart => exact ⟨0, by omega, rfl, by rw [sufN, HP.out]; congr 1; omega, HE9.out⟩
        clear HE9
        case round =>
          obtain ⟨j, hj, rfl, hf, hE⟩ := hrel
          have HF := Lib.hid hf; have HE := Lib.hid hE; clear hf hE
          by_cases hlt2 : a.length + j < a.length
          case pos =>
            obtain ⟨x, hx⟩ : ∃ x, a.length = x + 1 + j := ⟨a.length - 1 - j, by omega⟩
            obtain ⟨y, hy⟩ : ∃ y, b.length = y + 1 + j := ⟨b.length - 1 - j, by omega⟩
            obtain ⟨ba, oa, s, hA, hba, hs, hs2, hc1⟩ := (HA.out.ext HE.out).get (k := x) (by omega)
            first | subst hA | cases hA
            obtain ⟨bb, ob, t, hB, hbb, ht, ht2, hc2⟩ := (HB.out.ext HE.out).get (k := y) (by omega)
            first | subst hB | cases hB
            have hmt : mtB a b ((a.length : Int) - 1 - j) ((b.length : Int) - 1 - j) = decide (s = t) := by
              rw [show (a.length : Int) - 1 - j = (x : Nat) by omega, show (b.length : Int) - 1 - j = (y : Nat) by omega]; exact mtB_at hs ht
            have HMT := Lib.hid hmt; clear hmt hs ht
            have q1 : decide ((a.length : Int) + j < (a.length : Nat)) = true := yd (by omega)
            have e0 : IntKind.i64.wrap ((a.length : Int) + j) = (a.length : Int) + j := wrap_in (by omega) (by omega)
            have e1 : IntKind.i64.wrap ((a.length : Int) - 1 - j) = (x : Int) := by rw [wrap_in (by omega) (by omega)]; omega
            have e2 : IntKind.i64.wrap ((b.length : Int) - 1 - j) = (y : Int) := by rw [wrap_in (by omega) (by omega)]; omega
            have l1 : x < a.length := by omega
            have l2 : y < b.length := by omega
            have HX := Lib.hid hx; have HY := Lib.hid hy; clear hx hy
            by_cases hst : s = t
            · subst hst
              have hst2 := suf_step (f := a.length - a.length - (j + 1)) (by rw [show a.length - a.length - (j + 1) + 1 = a.length - a.length - j by omega]; exact HF.out) (by rw [HMT.out]; simp)
              have HST := Lib.hid hst2; clear hst2
              go_wp2_with fail
              go_quiet (fail)
              go_wp2_with fail
              go_roundw
              case rel => exact ⟨j + 1, by omega, by go_num, HST.out, HE.out.drewN _⟩
              case measure => simp [intOf]; omega
            have hne := ne_list hst
            have hp := suf_stop HF.out (.inr (by rw [HMT.out]; simpa using hst))
            have HP2 := Lib.hid hp; clear hp hst
            go_wp2_with fail
            go_quiet (fail)
            go_wp2_with fail
            refine bodyPost_ret (v := .tuple #[.int .i64 (a.length : Int), .int .i64 (j : Int)]) (by simp [results, Try.results24, go_sem]) rfl ⟨by rw [HP.out, HP2.out], HE.out.drewN _⟩
          case neg =>
            have hp := suf_stop HF.out (.inl (by omega))
            have HP2 := Lib.hid hp; clear hp
            have q1 : decide ((a.length : Int) + j < (a.length : Nat)) = false := nd (by omega)
            have e0 : IntKind.i64.wrap ((a.length : Int) + j) = (a.length : Int) + j := wrap_in (by omega) (by omega)
            go_wp2_with fail
            go_quiet (fail)
            go_wp2_with fail
            refine bodyPost_ret (v := .tuple #[.int .i64 (a.length : Int), .int .i64 (j : Int)]) (by simp [results, Try.results24, go_sem]) rfl ⟨by rw [HP.out, HP2.out], HE.out.drewN _⟩
end Go.Proofs.Ytmmhbnlafcmloaa

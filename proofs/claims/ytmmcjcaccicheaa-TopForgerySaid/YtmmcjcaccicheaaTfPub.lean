/- Lamport's published strings: an iterator. No condition. -/
import Derived.Test.YtmmcjcaccicheaaTfLam
import Derived.Test.YtmmcjcaccicheaaTfBld
namespace Go.Proofs.Ytmmcjcaccicheaa
open Go.RowKit
attribute [local go_sem] Oper.semAt_some
def EncD (x : Bs) (vs : Array Value) (_ : Nat → Prop) (_ : World) : Prop := vs = #[dv x] ∧ x.length = 32
def pubsV (sd : Bs) (k : Nat) : List Bs := (List.range 256).map fun i => pubV sd k (i / 2) (i % 2)
theorem pubs_len (sd : Bs) (k : Nat) : (pubsV sd k).length = 256 := by unfold pubsV; simp
theorem pubs_take (sd : Bs) (k p v : Nat) (hp : p < 128) (hv : v < 2) : (pubsV sd k).take (2 * p + v + 1) = (pubsV sd k).take (2 * p + v) ++ [pubV sd k p v] := by
  have h : (pubsV sd k)[2 * p + v]? = some (pubV sd k p v) := by
    unfold pubsV
    rw [List.getElem?_map, List.getElem?_range (by omega)]
    show some (pubV sd k ((2 * p + v) / 2) ((2 * p + v) % 2)) = _
    rw [show (2 * p + v) / 2 = p by omega, show (2 * p + v) % 2 = v by omega]
  rw [List.take_add_one, h]; rfl
set_option maxRecDepth 100000 in
set_option maxHeartbeats 8000000 in
theorem published_iter (sd : Bs) (hs : sd.length < 134217728) (k : Nat) (gs gi : Nat) (X : Nat → Prop) (w0 : World) (hKn : ∀ W, Lv X w0 W → Blk W gs (.cells #[.string (bst sd)] 9 (0, 0)) ∧ Blk W gi (.cells #[.int .i64 k] 3 (0, 0))) :
    Iter Try.prog 54 #[.pointer (some ⟨gs, 0, none⟩), .pointer (some ⟨gi, 0, none⟩)] EncD (pubsV sd k) (fun _ => False) (PreT X w0) := by
  intro ly J Jx S W hP hSz hJ hJx hY h0
  have HP := Lib.hid hP; have HJ := Lib.hid hJ; have HJX := Lib.hid hJx; have HY := Lib.hid hY; have H0 := Lib.hid h0; have HZ := Lib.hid hSz; have HK := Lib.hid hKn; clear hP hSz hJ hJx hY h0 hKn
  refine callsIn_wide.2 ?_
  simp only [List.append_toArray, List.cons_append, List.nil_append]
  go_enter Try.func54, Try.ntmps54
  go_wp2_with fail
  go_loopw [6] (fun v6 wr => ∃ (p : Nat) (S' : Nat → Prop), p ≤ 128 ∧ v6 = .int .i64 p ∧ J ((pubsV sd k).take (2 * p)) S' wr ∧ PreT X w0 S' wr ∧ (∀ h, S' h → h < wr.heap.size)) (fun v6 _ => 128 - (intOf v6).toNat)
  case atStart => exact ⟨0, S, Nat.zero_le _, rfl, H0.out, HP.out, HZ.out⟩
  case round =>
    obtain ⟨p, S1, hp, rfl, hJ1, hP1, hZ1⟩ := hrel
    have HJ1 := Lib.hid hJ1; have HP1 := Lib.hid hP1; have HZ1 := Lib.hid hZ1; clear hJ1 hP1 hZ1
    by_cases h : p < 128
    · have hp1 : (p : Int) < 128 := by omega
      go_wp2_with fail
      go_loopw [9] (fun v9 wr => ∃ (v : Nat) (S' : Nat → Prop), v ≤ 2 ∧ v9 = .int .i64 v ∧ J ((pubsV sd k).take (2 * p + v)) S' wr ∧ PreT X w0 S' wr ∧ (∀ h, S' h → h < wr.heap.size)) (fun v9 _ => 2 - (intOf v9).toNat)
      case atStart => exact ⟨0, S1, Nat.zero_le _, rfl, HJ1.out, HP1.out, HZ1.out⟩
      case round =>
        clear HJ1 HP1 HZ1
        obtain ⟨v, S2, hv, rfl, hJ1, hP1, hZ1⟩ := hrel
        have HJ1 := Lib.hid hJ1; have HP1 := Lib.hid hP1; have HZ1 := Lib.hid hZ1; clear hJ1 hP1 hZ1
        by_cases h2 : v < 2
        · have c0 : wr.cell? ⟨gs, 0, none⟩ = some (.string (bst sd)) := (HK.out _ HP1.out.1).1.cell 0
          have c1 : wr.cell? ⟨gi, 0, none⟩ = some (.int .i64 k) := (HK.out _ HP1.out.1).2.cell 0
          have hv1 : (v : Int) < 2 := by omega
          refine wp_of_In ?_
          gi_wp2
          refine ⟨trivial, rfl, callsIn_wide.2 ((secret_is sd hs k p v _).mono ?_)⟩
          rintro e w1 ⟨rfl, hE1⟩
          gi_wp2
          refine ⟨trivial, rfl, callsIn_wide.2 ((public_is (secV sd k p v) rfl _).mono ?_)⟩
          rintro e w2 ⟨rfl, hE2⟩
          have hE := hE1.trans hE2
          have hpre := pubs_take sd k p v h h2
          have hpx : (pubsV sd k).take (2 * p + v) ++ [pubV sd k p v] <+: pubsV sd k := by rw [← hpre]; exact List.take_prefix _ _
          have hR := HY.out _ (pubV sd k p v) #[dv (pubV sd k p v)] S2 w2 (HJ.out _ _ _ _ HJ1.out (Lv.of_ext hE)) hpx ⟨rfl, rfl⟩
          have HR := Lib.hid hR; have HPX := Lib.hid hpx; have HPR := Lib.hid hpre
          have hP2 : PreT X w0 S2 w2 := ⟨HP1.out.1.ext hE, HP1.out.2⟩
          clear hR hpx hpre hE1 hE2 c0 c1
          obtain ⟨fn, tmps, assign, body, hy, hRR⟩ := HR.out
          rw [show sumV (secV sd k p v) = pubV sd k p v from rfl]
          gi_wp2
          refine ⟨rfl, hRR.mono ?_⟩
          rintro e W2 ⟨S3, hv2, hs2, hz2, (⟨rfl, hJ2⟩ | ⟨rfl, hJx2⟩)⟩
          case inr =>
            clear hy hRR
            have HX := Lib.hid hJx2; clear hv2 hs2 hz2 hJx2
            gi_wp2
            go_wp2_with fail
            refine bodyPost_ret (results_none rfl _ _ _) rfl ?_
            exact ⟨⟨_, rfl⟩, .inr ⟨_, _, HPX.out, HX.out⟩⟩
          case inl =>
            have HP3 := Lib.hid (hP2.next hv2 hs2); have HZ3 := Lib.hid hz2
            rw [← HPR.out] at hJ2
            have HJ3 := Lib.hid hJ2
            clear hy hRR hv2 hs2 hz2 hJ2 hP2
            gi_wp2
            go_wp2_with fail
            go_roundw
            case rel => exact ⟨v + 1, S3, by omega, by go_num, HJ3.out, HP3.out, HZ3.out⟩
            case measure => simp [intOf]; omega
        · obtain rfl : v = 2 := by omega
          go_wp2_with fail
          go_roundw
          case rel => exact ⟨p + 1, S2, by omega, by go_num, by rw [show 2 * (p + 1) = 2 * p + 2 by omega]; exact HJ1.out, HP1.out, HZ1.out⟩
          case measure => simp [intOf]; omega
    · obtain rfl : p = 128 := by omega
      have hall : (pubsV sd k).take (2 * 128) = pubsV sd k := List.take_of_length_le (by rw [pubs_len]; omega)
      have hJf := HJ1.out
      rw [hall] at hJf
      have HJF := Lib.hid hJf; clear hall hJf
      go_wp2_with fail
      refine bodyPost_end (results_none rfl _ _ _) rfl ?_
      exact ⟨⟨_, rfl⟩, .inl ⟨_, HJF.out⟩⟩
end Go.Proofs.Ytmmcjcaccicheaa

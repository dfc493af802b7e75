/- HistogramMatching: the walk. -/
import Derived.Test.YtkkjhkmfoeblaaaHiWalk
namespace Go.Proofs.Ytkkjhkmfoeblaaa
open Go.RowKit

set_option maxRecDepth 100000 in
set_option maxHeartbeats 8000000 in
theorem matching_walk {A : Option Addr} {n c : Nat} {a : Lns} {B : Option Addr} {m d : Nat} {b : Lns} (w : World) (ha : Strs w A n a) (hac : n ≤ c) (han : n ≤ Reach) (hb : Strs w B m b) (hbc : m ≤ d) (hbn : m ≤ Reach) :
    Calls Try.prog 9 #[.slice A n c, .slice B m d] w (Good w) := by
  obtain rfl : a.length = n := ha.1
  obtain rfl : b.length = m := hb.1
  have HA := Lib.hid ha; have HB := Lib.hid hb; clear ha hb
  have HG := Lib.hid (rss2 (c := c) (d := d) HA.out han HB.out hbn)
  by_cases hg : ([(⟨A, a.length, c, a⟩ : SS), ⟨B, b.length, d, b⟩].any fun s => great03 s.l) = true
  · have HGR := Lib.hid hg; clear hg
    go_enter Try.func9, Try.ntmps9
    go_wp2_with fail
    refine (great_new (L := [(⟨A, a.length, c, a⟩ : SS), ⟨B, b.length, d, b⟩]) rfl HGR.out HG.out (by simp)).mono ?_
    rintro e w1 ⟨rfl, hE⟩
    have HE := Lib.hid hE; clear hE
    go_wp2_with fail
    refine (awake_any _).mono ?_
    rintro e w9 ⟨rfl, hE⟩
    have HE9 := Lib.hid (HE.out.trans hE); clear hE
    go_wp2_with fail
    go_ret
    exact ⟨rfl, HE9.out⟩
  have hg' : ([(⟨A, a.length, c, a⟩ : SS), ⟨B, b.length, d, b⟩].any fun s => great03 s.l) = false := by simpa using hg
  have h1 : a.length ≤ 12 := great03_len (by simp at hg'; exact hg'.1)
  have h2 : b.length ≤ 12 := great03_len (by simp at hg'; exact hg'.2)
  have HGR := Lib.hid hg'; clear hg hg'
  have hok := hdiff_ok (a.length + 1) a b (by omega) (by omega)
  have hst := check_steps hok
  have hsz := check_sizes _ _ _ hok (by simp)
  have hdl := dist_le a b
  obtain ⟨L, hL⟩ : ∃ L, hdiffV (a.length + 1) a b = L := ⟨_, rfl⟩
  rw [hL] at hok hst hsz
  have hln : L.length ≤ 12 := by have := hsz.1; simp at this; omega
  have hsm : ∀ m ∈ L, 0 ≤ m.n ∧ m.n ≤ 1000 := fun m hm => by have := hsz.2 m hm; omega
  have HL := Lib.hid hL; have HOK := Lib.hid hok; have HST := Lib.hid hst; have HSM := Lib.hid hsm; clear hok hst hsz hL hsm
  go_enter Try.func9, Try.ntmps9
  go_wp2_with fail
  refine (great_new (L := [(⟨A, a.length, c, a⟩ : SS), ⟨B, b.length, d, b⟩]) rfl HGR.out HG.out (by simp)).mono ?_
  rintro e w1 ⟨rfl, hE⟩
  have HE := Lib.hid hE; clear hE
  go_wp2_with fail
  refine (hdiff_is A B a.length c b.length d a b _ (HA.out.ext HE.out) (HB.out.ext HE.out) (by omega) (by omega) hac hbc).mono ?_
  rintro e w2 ⟨C1, N1, k1, rfl, hN1, hNa, hM, hE⟩
  rw [HL.out] at hM
  obtain rfl : L.length = N1 := hM.1
  have HE2 := Lib.hid (HE.out.trans hE); have HM := Lib.hid hM; clear hE hM
  go_wp2_with fail
  go_loopw [6, 19] (fun v6 v19 wr => ∃ (k : Nat) (x : Int), k ≤ L.length ∧ v6 = .int .i64 x ∧ v19 = .int .i64 k ∧ keptV (L.take k) = x ∧ Ext w2 wr) (fun _ v19 _ => L.length - (intOf v19).toNat)
  case atStart => exact ⟨0, 0, Nat.zero_le _, rfl, rfl, rfl, Ext.refl _⟩
  case round =>
    obtain ⟨k, x, hk, rfl, rfl, hx, hE⟩ := hrel
    have hb := keptV_bound HSM.out k
    rw [hx] at hb
    have HX := Lib.hid hx; have HEr := Lib.hid hE; clear hx hE
    obtain ⟨hb1, hb2⟩ := hb
    by_cases hlt : k < L.length
    case pos =>
      obtain ⟨ba, oa, ⟨p, q, y⟩, hC, hba, hm, hwf, d1, d2, d3⟩ := (HM.out.ext HEr.out).get hlt
      subst hC
      have hy := HSM.out _ (List.mem_of_getElem? hm)
      dsimp only at d1 d2 d3 hy
      obtain ⟨hy1, hy2⟩ := hy
      have hsn : keptV (L.take (k + 1)) = x + y := by rw [take_succ_of hm, keptV_snoc, HX.out]
      have HSN := Lib.hid hsn; clear hsn hm hwf
      have e1 : IntKind.i64.wrap (x + y) = x + y := wrap_in (by omega) (by omega)
      go_wp2_with fail
      go_roundw
      case rel => exact ⟨k + 1, x + y, by omega, by go_num, by go_num, HSN.out, HEr.out.alloc _⟩
      case measure => simp [intOf]; omega
    case neg =>
      obtain rfl : k = L.length := by omega
      rw [List.take_length] at HX
      have hst := HST.out
      rw [HX.out] at hst
      have HST2 := Lib.hid hst; clear hst
      go_wp2_with fail
      refine (check_is HOK.out (HA.out.ext (HE2.out.trans HEr.out)) (HB.out.ext (HE2.out.trans HEr.out)) (HM.out.ext HEr.out) (by omega) (by omega) (by omega) hac hbc).mono ?_
      rintro e w3 ⟨rfl, hE⟩
      have HE3 := Lib.hid ((HE2.out.trans HEr.out).trans hE); clear hE
      go_wp2_with fail
      refine (distance_any A B a.length c b.length d a b _ (HA.out.ext HE3.out) (HB.out.ext HE3.out) (by omega) (by omega) (dist a b) (by omega) (last_dist a b)).mono ?_
      rintro e w4 ⟨rfl, hE⟩
      have HE4 := Lib.hid (HE3.out.trans hE); clear hE
      have q1 : decide ((dist a b : Int) ≤ (a.length : Int) + b.length - 2 * x) = true := yd HST2.out
      go_wp2_with fail
      refine (awake_any _).mono ?_
      rintro e w9 ⟨rfl, hE⟩
      have HE9 := Lib.hid (HE4.out.trans hE); clear hE
      go_wp2_with fail
      go_ret
      exact ⟨rfl, HE9.out⟩
end Go.Proofs.Ytkkjhkmfoeblaaa

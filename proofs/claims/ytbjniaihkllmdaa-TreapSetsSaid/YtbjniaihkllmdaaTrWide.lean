/- Contracts on maps of any form: wide, several, Size. -/
import Derived.Test.YtbjniaihkllmdaaTrTree
namespace Go.Proofs.Ytbjniaihkllmdaa
open Go.RowKit

theorem MT.len_zero {t : MT} (h : t.len = 0) : t = .nil := by cases t with
  | nil => rfl
  | cons => simp [MT.len] at h

set_option maxRecDepth 100000 in
set_option maxHeartbeats 8000000 in
theorem wide_any : ∀ (N : Nat) (t : MT) (A : Option Addr) (n c : Nat) (w : World), t.size < N → MapAt w t A n →
    Calls Try.prog 44 #[.slice A n c] w fun e w' => e = .returned (.bool t.wide) ∧ w = w'
  | 0, _, _, _, _, _, h, _ => absurd h (by omega)
  | N + 1, .nil, A, n, c, w, _, hm => by
    obtain rfl : n = 0 := by have := hm.2.1; simpa [MT.len] using this.symm
    clear hm
    go_enter Try.func44, Try.ntmps44
    go_wp2_with fail
    go_ret
    exact ⟨rfl, rfl⟩
  | N + 1, .cons key val l r (.cons k2 v2 l2 r2 rest), A, n, c, w, _, hm => by
    have hn : n = rest.len + 2 := by have := hm.2.1; simp only [MT.len] at this; omega
    have q1 : decide (1 < n) = true := yd (by omega)
    have q2 : decide ((1 : Int) < (n : Int)) = true := yd (by omega)
    have q3 : ((n : Int) == 0) = false := beq_eq_false_iff_ne.2 (by omega)
    clear hm hn
    go_enter Try.func44, Try.ntmps44
    go_wp2_with fail
    go_ret
    exact ⟨rfl, rfl⟩
  | N + 1, .cons key val l r .nil, A, n, c, w, hN, hm => by
    have IH := wide_any N
    have hn : n = 1 := by have := hm.2.1; simpa [MT.len] using this.symm
    subst hn
    obtain ⟨b, off, key', val', l', r', rest, Al, nl, cl, Ar, nr, cr, hd, rfl, hb, hs, c0, c1, c2, c3, hl, hr⟩ := hm.at (j := 0) (by omega)
    have hd2 : MT.cons key val l r .nil = .cons key' val' l' r' rest := hd
    cases hd2
    simp only [Nat.zero_mul, Nat.add_zero] at c0 c1 c2 c3
    have hz : l.size + r.size < N := by simp only [MT.size] at hN; omega
    have hv : (MT.cons key val l r .nil).wide = (l.wide || r.wide) := rfl
    have HL := Lib.hid hl; have HR := Lib.hid hr; have HIH := Lib.hid IH; have HV := Lib.hid hv; clear hl hr hd hs IH hm hv hN
    go_enter Try.func44, Try.ntmps44
    go_wp2_with fail
    refine (HIH.out l Al nl cl _ (by omega) HL.out).mono ?_
    rintro e w' ⟨rfl, rfl⟩
    cases hlw : l.wide with
    | true =>
      have hv2 := HV.out
      rw [hlw] at hv2
      have HV2 := Lib.hid hv2; clear hv2 hlw
      go_wp2_with fail
      go_ret
      exact ⟨ret_bool (by rw [HV2.out]; rfl), rfl⟩
    | false =>
      have hv2 := HV.out
      rw [hlw] at hv2
      have HV2 := Lib.hid hv2; clear hv2 hlw
      go_wp2_with fail
      refine (HIH.out r Ar nr cr _ (by omega) HR.out).mono ?_
      rintro e w' ⟨rfl, rfl⟩
      go_wp2_with fail
      go_ret
      exact ⟨ret_bool (by rw [HV2.out]; rfl), rfl⟩

set_option maxRecDepth 100000 in
set_option maxHeartbeats 8000000 in
theorem several_any : ∀ (N : Nat) (t : MT) (A : Option Addr) (n c : Nat) (w : World), t.size < N → MapAt w t A n →
    Calls Try.prog 49 #[.slice A n c] w fun e w' => e = .returned (.bool t.wide) ∧ w = w'
  | 0, _, _, _, _, _, h, _ => absurd h (by omega)
  | N + 1, .nil, A, n, c, w, _, hm => by
    obtain rfl : n = 0 := by have := hm.2.1; simpa [MT.len] using this.symm
    clear hm
    go_enter Try.func49, Try.ntmps49
    go_wp2_with fail
    go_ret
    exact ⟨rfl, rfl⟩
  | N + 1, .cons key val l r (.cons k2 v2 l2 r2 rest), A, n, c, w, _, hm => by
    have hn : n = rest.len + 2 := by have := hm.2.1; simp only [MT.len] at this; omega
    have q1 : decide (1 < n) = true := yd (by omega)
    have q2 : decide ((1 : Int) < (n : Int)) = true := yd (by omega)
    have q3 : ((n : Int) == 0) = false := beq_eq_false_iff_ne.2 (by omega)
    clear hm hn
    go_enter Try.func49, Try.ntmps49
    go_wp2_with fail
    go_ret
    exact ⟨rfl, rfl⟩
  | N + 1, .cons key val l r .nil, A, n, c, w, hN, hm => by
    have IH := several_any N
    have hn : n = 1 := by have := hm.2.1; simpa [MT.len] using this.symm
    subst hn
    obtain ⟨b, off, key', val', l', r', rest, Al, nl, cl, Ar, nr, cr, hd, rfl, hb, hs, c0, c1, c2, c3, hl, hr⟩ := hm.at (j := 0) (by omega)
    have hd2 : MT.cons key val l r .nil = .cons key' val' l' r' rest := hd
    cases hd2
    simp only [Nat.zero_mul, Nat.add_zero] at c0 c1 c2 c3
    have hz : l.size + r.size < N := by simp only [MT.size] at hN; omega
    have hv : (MT.cons key val l r .nil).wide = (l.wide || r.wide) := rfl
    have HL := Lib.hid hl; have HR := Lib.hid hr; have HIH := Lib.hid IH; have HV := Lib.hid hv; clear hl hr hd hs IH hm hv hN
    go_enter Try.func49, Try.ntmps49
    go_wp2_with fail
    refine (HIH.out l Al nl cl _ (by omega) HL.out).mono ?_
    rintro e w' ⟨rfl, rfl⟩
    cases hlw : l.wide with
    | true =>
      have hv2 := HV.out
      rw [hlw] at hv2
      have HV2 := Lib.hid hv2; clear hv2 hlw
      go_wp2_with fail
      go_ret
      exact ⟨ret_bool (by rw [HV2.out]; rfl), rfl⟩
    | false =>
      have hv2 := HV.out
      rw [hlw] at hv2
      have HV2 := Lib.hid hv2; clear hv2 hlw
      go_wp2_with fail
      refine (HIH.out r Ar nr cr _ (by omega) HR.out).mono ?_
      rintro e w' ⟨rfl, rfl⟩
      go_wp2_with fail
      go_ret
      exact ⟨ret_bool (by rw [HV2.out]; rfl), rfl⟩

set_option maxRecDepth 100000 in
set_option maxHeartbeats 8000000 in
theorem size_any : ∀ (N : Nat) (t : MT) (A : Option Addr) (n c m : Nat) (w : World), t.size < N → MapAt w t A n → m ≤ 20000 →
    Calls Try.prog 32 #[.slice A n c, .int .i64 m] w fun e w' => e = .returned (.int .i64 ((min t.size (m + 1) : Nat) : Int)) ∧ w = w'
  | 0, _, _, _, _, _, _, h, _, _ => absurd h (by omega)
  | N + 1, t, A, n, c, m, w, hN, hm, hk => by
    have IH := size_any N
    have hnl := hm.2.1
    have hnR := hm.1
    unfold Reach at hnR
    have HM := Lib.hid hm; have HIH := Lib.hid IH; clear hm IH
    go_enter Try.func32, Try.ntmps32
    go_wp2_with fail
    go_loop [5, 6] (fun v5 v6 => ∃ j p : Nat, j ≤ n ∧ v6 = .int .i64 j ∧ v5 = .int .i64 (p : Int) ∧ p ≤ m ∧ p + (t.drop j).size = t.size) (fun _ v6 => n - (intOf v6).toNat)
    case atStart => exact ⟨0, 0, Nat.zero_le _, rfl, rfl, Nat.zero_le _, by simp [MT.drop]⟩
    case round =>
      obtain ⟨j, p, hj, rfl, rfl, hpm, hp⟩ := hrel
      by_cases hlt : j < n
      case neg =>
        have hz := MT.drop_all (t := t) (n := j) (by omega)
        rw [hz] at hp
        obtain rfl : p = t.size := by omega
        go_wp2_with fail
        go_ret
        exact ⟨ret_int (by omega), rfl⟩
      obtain ⟨b, off, key, val, l, r, rest, Al, nl, cl, Ar, nr, cr, hd, rfl, hb, hs, c0, c1, c2, c3, hl, hr⟩ := HM.out.at hlt
      obtain ⟨s1, s2, s3⟩ := MT.at_size hd
      have HL := Lib.hid hl; have HR := Lib.hid hr; clear hl hr hd hs
      by_cases h1 : p + 1 ≤ m
      case neg =>
        have q1 : decide ((p : Int) + 1 ≤ (m : Int)) = false := nd (by omega)
        have q2 : decide ((m : Int) < (p : Int) + 1) = true := yd (by omega)
        go_wp2_with fail
        go_ret
        exact ⟨ret_int (by omega), rfl⟩
      have q1 : decide ((p : Int) + 1 ≤ (m : Int)) = true := yd (by omega)
      have e1 : IntKind.i64.wrap ((m : Int) - ((p : Int) + 1)) = ((m - (p + 1) : Nat) : Int) := by rw [wrap_in (by omega) (by omega)]; omega
      have e2 : wrap64 ((m : Int) - ((p : Int) + 1)) = ((m - (p + 1) : Nat) : Int) := by rw [w64_in (by omega) (by omega)]; omega
      go_wp2_with fail
      refine (HIH.out l Al nl cl (m - (p + 1)) _ (by omega) HL.out (by omega)).mono ?_
      rintro e w' ⟨rfl, rfl⟩
      clear e1 e2
      by_cases h2 : p + 1 + l.size ≤ m
      case neg =>
        obtain ⟨x, hx⟩ : ∃ x, min l.size (m - (p + 1) + 1) = x := ⟨_, rfl⟩
        rw [hx]
        have hx2 : p + 1 + x = m + 1 := by omega
        have q2 : decide ((p : Int) + 1 + x ≤ (m : Int)) = false := nd (by omega)
        have q3 : decide ((m : Int) < (p : Int) + 1 + x) = true := yd (by omega)
        clear hx
        go_wp2_with fail
        go_ret
        exact ⟨ret_int (by omega), rfl⟩
      obtain ⟨x, hx⟩ : ∃ x, min l.size (m - (p + 1) + 1) = x := ⟨_, rfl⟩
      rw [hx]
      obtain rfl : x = l.size := by omega
      obtain ⟨y, hy⟩ : ∃ y, l.size = y := ⟨_, rfl⟩
      rw [hy] at h2 s1 s3 ⊢
      have q2 : decide ((p : Int) + 1 + y ≤ (m : Int)) = true := yd (by omega)
      have e1 : IntKind.i64.wrap ((m : Int) - ((p : Int) + 1 + y)) = ((m - (p + 1 + y) : Nat) : Int) := by rw [wrap_in (by omega) (by omega)]; omega
      have e2 : wrap64 ((m : Int) - ((p : Int) + 1 + y)) = ((m - (p + 1 + y) : Nat) : Int) := by rw [w64_in (by omega) (by omega)]; omega
      clear hx hy
      go_wp2_with fail
      refine (HIH.out r Ar nr cr (m - (p + 1 + y)) _ (by omega) HR.out (by omega)).mono ?_
      rintro e w' ⟨rfl, rfl⟩
      clear e1 e2
      obtain ⟨z, hz⟩ : ∃ z, min r.size (m - (p + 1 + y) + 1) = z := ⟨_, rfl⟩
      rw [hz]
      by_cases h3 : p + 1 + y + r.size ≤ m
      case neg =>
        have hx2 : p + 1 + y + z = m + 1 := by omega
        have q3 : decide ((m : Int) < (p : Int) + 1 + y + z) = true := yd (by omega)
        clear hz
        go_wp2_with fail
        go_ret
        exact ⟨ret_int (by omega), rfl⟩
      obtain rfl : z = r.size := by omega
      obtain ⟨z, hz2⟩ : ∃ z, r.size = z := ⟨_, rfl⟩
      rw [hz2] at h3 s1 s3 ⊢
      have q3 : decide ((m : Int) < (p : Int) + 1 + y + z) = false := nd (by omega)
      clear hz hz2
      go_wp2_with fail
      go_round
      case rel => exact ⟨j + 1, p + 1 + y + z, by omega, by go_num, by first | rfl | (congr 1; omega), by omega, by omega⟩
      case measure => simp [intOf]; omega
theorem wide_is {t : MT} {A : Option Addr} {n c : Nat} {w : World} (h : MapAt w t A n) : Calls Try.prog 44 #[.slice A n c] w fun e w' => e = .returned (.bool t.wide) ∧ w = w' := wide_any (t.size + 1) t A n c w (by omega) h
theorem several_is {t : MT} {A : Option Addr} {n c : Nat} {w : World} (h : MapAt w t A n) : Calls Try.prog 49 #[.slice A n c] w fun e w' => e = .returned (.bool t.wide) ∧ w = w' := several_any (t.size + 1) t A n c w (by omega) h
theorem size_is {t : MT} {A : Option Addr} {n c m : Nat} {w : World} {x : Nat} (hx : min t.size (m + 1) = x) (h : MapAt w t A n) (hm : m ≤ 20000) : Calls Try.prog 32 #[.slice A n c, .int .i64 m] w fun e w' => e = .returned (.int .i64 (x : Int)) ∧ w = w' := by
  subst hx; exact size_any (t.size + 1) t A n c m w (by omega) h hm
theorem count_is {t : MT} {A : Option Addr} {n c k : Nat} {w : World} {x : Nat} (hx : k + t.size = x) (h : MapAt w t A n) (hk : x ≤ 20000) : Calls Try.prog 43 #[.slice A n c, .int .i64 k] w fun e w' => e = .returned (.int .i64 (x : Int)) ∧ Ext w w' := by
  subst hx; exact count_any (t.size + 1) t A n c k w (by omega) h hk
end Go.Proofs.Ytbjniaihkllmdaa

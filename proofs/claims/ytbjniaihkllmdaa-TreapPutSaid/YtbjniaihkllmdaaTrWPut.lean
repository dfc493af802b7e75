/- TreapPut's walk. -/
import Derived.Test.YtbjniaihkllmdaaTrAwake
import Derived.Test.YtbjniaihkllmdaaTrLawP
namespace Go.Proofs.Ytbjniaihkllmdaa
open Go.RowKit
set_option maxRecDepth 100000
set_option maxHeartbeats 16000000
theorem put_walk {t : MT} {A : Option Addr} {n c : Nat} {key value other : ByteArray} (w : World) (hm : MapAt w t A n) (hk : key.size ≤ Reach) (hv : value.size ≤ Reach) (_ : other.size ≤ Reach) :
    Calls Try.prog 12 #[.slice A n c, .string key, .string value, .string other] w fun e w' => e = .returned (.bool true) ∧ Ext w w' := by
  have HM := Lib.hid hm; clear hm
  cases hz : valB t with
  | false =>
    have HZ := Lib.hid hz; clear hz
    have HE0 := Lib.hid (Ext.refl w)
    go_enter Try.func12, Try.ntmps12
    go_wp2_with fail
    refine (valid_is HZ.out (HM.out.ext HE0.out)).mono ?_
    rintro e w1 ⟨rfl, hE⟩
    have HE1 := Lib.hid (HE0.out.trans hE); clear hE
    go_wp2_with fail
    refine (awake_any _).mono ?_
    rintro e w2 ⟨rfl, hE⟩
    have HE2 := Lib.hid (HE1.out.trans hE); clear hE
    go_wp2_with fail
    go_ret
    exact ⟨rfl, HE2.out⟩
  | true =>
    obtain ⟨b, rfl, hok, hs⟩ := val_tree hz
    have HZ := Lib.hid hz; have HOK := Lib.hid hok; clear hz hok
    obtain ⟨x, hx⟩ : ∃ x, min b.mt.size (29 + 1) = x := ⟨_, rfl⟩
    have hxb : x = min b.size 30 := by rw [← hx, BT.mt_size]
    have HX := Lib.hid hx; clear hx
    by_cases h1 : b.size ≤ 29
    case neg =>
      have q1 : ((29 : Int) < (x : Int)) := by omega
      clear hxb
      have HE0 := Lib.hid (Ext.refl w)
      go_enter Try.func12, Try.ntmps12
      go_wp2_with fail
      refine (valid_is HZ.out (HM.out.ext HE0.out)).mono ?_
      rintro e w1 ⟨rfl, hE⟩
      have HE1 := Lib.hid (HE0.out.trans hE); clear hE
      go_wp2_with fail
      refine (size_is HX.out (HM.out.ext HE1.out) (by omega)).mono ?_
      rintro e w' ⟨rfl, rfl⟩
      go_wp2_with fail
      refine (awake_any _).mono ?_
      rintro e w2 ⟨rfl, hE⟩
      have HE2 := Lib.hid (HE1.out.trans hE); clear hE
      go_wp2_with fail
      go_ret
      exact ⟨rfl, HE2.out⟩
    have q1 : ¬ ((29 : Int) < (x : Int)) := by omega
    clear hxb
    by_cases k1 : key.size ≤ 40
    case neg =>
      have q2 : ((40 : Int) < (key.size : Int)) := by omega
      have HE0 := Lib.hid (Ext.refl w)
      go_enter Try.func12, Try.ntmps12
      go_wp2_with fail
      refine (valid_is HZ.out (HM.out.ext HE0.out)).mono ?_
      rintro e w1 ⟨rfl, hE⟩
      have HE1 := Lib.hid (HE0.out.trans hE); clear hE
      go_wp2_with fail
      refine (size_is HX.out (HM.out.ext HE1.out) (by omega)).mono ?_
      rintro e w' ⟨rfl, rfl⟩
      go_wp2_with fail
      refine (awake_any _).mono ?_
      rintro e w2 ⟨rfl, hE⟩
      have HE2 := Lib.hid (HE1.out.trans hE); clear hE
      go_wp2_with fail
      go_ret
      exact ⟨rfl, HE2.out⟩
    have q_k1 : ¬ ((40 : Int) < (key.size : Int)) := by omega
    by_cases k2 : value.size ≤ 1000
    case neg =>
      have q2 : ((1000 : Int) < (value.size : Int)) := by omega
      have HE0 := Lib.hid (Ext.refl w)
      go_enter Try.func12, Try.ntmps12
      go_wp2_with fail
      refine (valid_is HZ.out (HM.out.ext HE0.out)).mono ?_
      rintro e w1 ⟨rfl, hE⟩
      have HE1 := Lib.hid (HE0.out.trans hE); clear hE
      go_wp2_with fail
      refine (size_is HX.out (HM.out.ext HE1.out) (by omega)).mono ?_
      rintro e w' ⟨rfl, rfl⟩
      go_wp2_with fail
      refine (awake_any _).mono ?_
      rintro e w2 ⟨rfl, hE⟩
      have HE2 := Lib.hid (HE1.out.trans hE); clear hE
      go_wp2_with fail
      go_ret
      exact ⟨rfl, HE2.out⟩
    have q_k2 : ¬ ((1000 : Int) < (value.size : Int)) := by omega
    by_cases k3 : other.size ≤ 100
    case neg =>
      have q2 : ((100 : Int) < (other.size : Int)) := by omega
      have HE0 := Lib.hid (Ext.refl w)
      go_enter Try.func12, Try.ntmps12
      go_wp2_with fail
      refine (valid_is HZ.out (HM.out.ext HE0.out)).mono ?_
      rintro e w1 ⟨rfl, hE⟩
      have HE1 := Lib.hid (HE0.out.trans hE); clear hE
      go_wp2_with fail
      refine (size_is HX.out (HM.out.ext HE1.out) (by omega)).mono ?_
      rintro e w' ⟨rfl, rfl⟩
      go_wp2_with fail
      refine (awake_any _).mono ?_
      rintro e w2 ⟨rfl, hE⟩
      have HE2 := Lib.hid (HE1.out.trans hE); clear hE
      go_wp2_with fail
      go_ret
      exact ⟨rfl, HE2.out⟩
    have q_k3 : ¬ ((100 : Int) < (other.size : Int)) := by omega
    have hlg := lg_false k1 k2
    have h0 := (chk_ok b).2 HOK.out
    have hoa := ok_put (k := key) HOK.out hlg
    have hsa : (putV key value b).size ≤ 30 := by have := put_size key value b; omega
    have hva := val_mt hoa hsa
    have h0a := (chk_ok _).2 hoa
    have hf1 := find_put (k := key) (v := value) HOK.out
    have hob := ok_wo (k := key) hoa
    have hsb : (woV key (putV key value b)).size ≤ 30 := Nat.le_trans (wo_size key _) hsa
    have hvb := val_mt hob hsb
    have h0b := (chk_ok _).2 hob
    have hf2 := find_wo (k := key) hoa
    have hwp : findV key b = none → woV key (putV key value b) = b := wo_put HOK.out
    have hfo : other ≠ key → findV other (putV key value b) = findV other b := find_other HOK.out
    obtain ⟨a, ha⟩ : ∃ a, putV key value b = a := ⟨_, rfl⟩
    rw [ha] at hoa hsa hva h0a hf1 hob hsb hvb h0b hf2 hwp hfo
    obtain ⟨d, hd⟩ : ∃ d, woV key a = d := ⟨_, rfl⟩
    rw [hd] at hob hsb hvb h0b hf2 hwp
    obtain ⟨f1, hf1b⟩ : ∃ f, findV other b = f := ⟨_, rfl⟩
    rw [hf1b] at hfo
    obtain ⟨f2, hf2a⟩ : ∃ f, findV other a = f := ⟨_, rfl⟩
    rw [hf2a] at hfo
    have HLG := Lib.hid hlg; have H0 := Lib.hid h0; have HVA := Lib.hid hva; have H0A := Lib.hid h0a; have HF1 := Lib.hid hf1; have HVB := Lib.hid hvb; have H0B := Lib.hid h0b; have HF2 := Lib.hid hf2; have HD := Lib.hid hd; have HFB := Lib.hid hf1b; have HFA := Lib.hid hf2a; have HAE := Lib.hid ha; have HWP := Lib.hid hwp
    clear hlg h0 hva h0a hf1 hvb h0b hf2 hd hf1b hf2a ha hwp hoa hob
    cases hwas : findV key b with
    | some u0 =>
      have HWAS := Lib.hid hwas; clear hwas
      by_cases ho : other = key
      · obtain rfl := ho.symm
        clear hfo
        have HE0 := Lib.hid (Ext.refl w)
        go_enter Try.func12, Try.ntmps12
        go_wp2_with fail
        refine (valid_is HZ.out (HM.out.ext HE0.out)).mono ?_
        rintro e w1 ⟨rfl, hE⟩
        have HE1 := Lib.hid (HE0.out.trans hE); clear hE
        go_wp2_with fail
        refine (size_is HX.out (HM.out.ext HE1.out) (by omega)).mono ?_
        rintro e w' ⟨rfl, rfl⟩
        go_wp2_with fail
        refine (get_any (b := b) (A := A) (n := n) (c := c) (w := w1) key (HM.out.ext HE1.out) (Nat.le_trans hs (by decide)) H0.out).mono ?_
        rintro e w2 ⟨rfl, hE⟩
        have HE2 := Lib.hid (HE1.out.trans hE); clear hE
        rw [HWAS.out]
        go_wp2_with fail
        refine (get_any (b := b) (A := A) (n := n) (c := c) (w := w2) key (HM.out.ext HE2.out) (Nat.le_trans hs (by decide)) H0.out).mono ?_
        rintro e w3 ⟨rfl, hE⟩
        have HE3 := Lib.hid (HE2.out.trans hE); clear hE
        rw [HFB.out]
        go_wp2_with fail
        refine (Put_any (b := b) (A := A) (n := n) (c := c) (w := w3) (HM.out.ext HE3.out) (Nat.le_trans hs (by decide)) H0.out hk hv).mono ?_
        rintro e w4 ⟨A1, n1, c1, rfl, hA, hE⟩
        rw [HLG.out] at hA ⊢
        simp only [Bool.false_eq_true, if_false, HAE.out] at hA ⊢
        have HE4 := Lib.hid (HE3.out.trans hE); have HA := Lib.hid hA; clear hE hA
        go_wp2_with fail
        refine (valid_is HVA.out HA.out).mono ?_
        rintro e w5 ⟨rfl, hE⟩
        replace HA := Lib.hid (MapAt.ext HA.out hE)
        have HE5 := Lib.hid (HE4.out.trans hE); clear hE
        go_wp2_with fail
        refine (get_any (b := a) (A := A1) (n := n1) (c := c1) (w := w5) key HA.out (Nat.le_trans hsa (by decide)) H0A.out).mono ?_
        rintro e w6 ⟨rfl, hE⟩
        replace HA := Lib.hid (MapAt.ext HA.out hE)
        have HE6 := Lib.hid (HE5.out.trans hE); clear hE
        rw [HF1.out]
        go_wp2_with fail
        refine (get_any (b := a) (A := A1) (n := n1) (c := c1) (w := w6) key HA.out (Nat.le_trans hsa (by decide)) H0A.out).mono ?_
        rintro e w7 ⟨rfl, hE⟩
        replace HA := Lib.hid (MapAt.ext HA.out hE)
        have HE7 := Lib.hid (HE6.out.trans hE); clear hE
        rw [HFA.out]
        go_wp2_with fail
        refine (Delete_any (b := a) (A := A1) (n := n1) (c := c1) (w := w7) (k := key) HA.out (Nat.le_trans hsa (by decide)) H0A.out).mono ?_
        rintro e w8 ⟨A2, n2, c2, rfl, hD, hE⟩
        rw [HF1.out] at hD ⊢
        simp only [reduceCtorEq, if_false, HD.out] at hD ⊢
        have HE8 := Lib.hid (HE7.out.trans hE); have HDD := Lib.hid hD; clear hE hD HA
        go_wp2_with fail
        refine (valid_is HVB.out HDD.out).mono ?_
        rintro e w9 ⟨rfl, hE⟩
        replace HDD := Lib.hid (MapAt.ext HDD.out hE)
        have HE9 := Lib.hid (HE8.out.trans hE); clear hE
        go_wp2_with fail
        refine (get_any (b := d) (A := A2) (n := n2) (c := c2) (w := w9) key HDD.out (Nat.le_trans hsb (by decide)) H0B.out).mono ?_
        rintro e w10 ⟨rfl, hE⟩
        replace HDD := Lib.hid (MapAt.ext HDD.out hE)
        have HE10 := Lib.hid (HE9.out.trans hE); clear hE
        rw [HF2.out]
        go_wp2_with fail
        refine (awake_any _).mono ?_
        rintro e w11 ⟨rfl, hE⟩
        replace HDD := Lib.hid (MapAt.ext HDD.out hE)
        have HE11 := Lib.hid (HE10.out.trans hE); clear hE
        go_wp2_with fail
        go_ret
        exact ⟨rfl, HE11.out⟩
      · have q3 := ne_list ho
        obtain rfl := hfo ho
        clear ho hfo
        have HE0 := Lib.hid (Ext.refl w)
        go_enter Try.func12, Try.ntmps12
        go_wp2_with fail
        refine (valid_is HZ.out (HM.out.ext HE0.out)).mono ?_
        rintro e w1 ⟨rfl, hE⟩
        have HE1 := Lib.hid (HE0.out.trans hE); clear hE
        go_wp2_with fail
        refine (size_is HX.out (HM.out.ext HE1.out) (by omega)).mono ?_
        rintro e w' ⟨rfl, rfl⟩
        go_wp2_with fail
        refine (get_any (b := b) (A := A) (n := n) (c := c) (w := w1) key (HM.out.ext HE1.out) (Nat.le_trans hs (by decide)) H0.out).mono ?_
        rintro e w2 ⟨rfl, hE⟩
        have HE2 := Lib.hid (HE1.out.trans hE); clear hE
        rw [HWAS.out]
        go_wp2_with fail
        refine (get_any (b := b) (A := A) (n := n) (c := c) (w := w2) other (HM.out.ext HE2.out) (Nat.le_trans hs (by decide)) H0.out).mono ?_
        rintro e w3 ⟨rfl, hE⟩
        have HE3 := Lib.hid (HE2.out.trans hE); clear hE
        rw [HFB.out]
        go_wp2_with fail
        refine (Put_any (b := b) (A := A) (n := n) (c := c) (w := w3) (HM.out.ext HE3.out) (Nat.le_trans hs (by decide)) H0.out hk hv).mono ?_
        rintro e w4 ⟨A1, n1, c1, rfl, hA, hE⟩
        rw [HLG.out] at hA ⊢
        simp only [Bool.false_eq_true, if_false, HAE.out] at hA ⊢
        have HE4 := Lib.hid (HE3.out.trans hE); have HA := Lib.hid hA; clear hE hA
        go_wp2_with fail
        refine (valid_is HVA.out HA.out).mono ?_
        rintro e w5 ⟨rfl, hE⟩
        replace HA := Lib.hid (MapAt.ext HA.out hE)
        have HE5 := Lib.hid (HE4.out.trans hE); clear hE
        go_wp2_with fail
        refine (get_any (b := a) (A := A1) (n := n1) (c := c1) (w := w5) key HA.out (Nat.le_trans hsa (by decide)) H0A.out).mono ?_
        rintro e w6 ⟨rfl, hE⟩
        replace HA := Lib.hid (MapAt.ext HA.out hE)
        have HE6 := Lib.hid (HE5.out.trans hE); clear hE
        rw [HF1.out]
        go_wp2_with fail
        refine (get_any (b := a) (A := A1) (n := n1) (c := c1) (w := w6) other HA.out (Nat.le_trans hsa (by decide)) H0A.out).mono ?_
        rintro e w7 ⟨rfl, hE⟩
        replace HA := Lib.hid (MapAt.ext HA.out hE)
        have HE7 := Lib.hid (HE6.out.trans hE); clear hE
        rw [HFA.out]
        go_wp2_with fail
        refine (Delete_any (b := a) (A := A1) (n := n1) (c := c1) (w := w7) (k := key) HA.out (Nat.le_trans hsa (by decide)) H0A.out).mono ?_
        rintro e w8 ⟨A2, n2, c2, rfl, hD, hE⟩
        rw [HF1.out] at hD ⊢
        simp only [reduceCtorEq, if_false, HD.out] at hD ⊢
        have HE8 := Lib.hid (HE7.out.trans hE); have HDD := Lib.hid hD; clear hE hD HA
        go_wp2_with fail
        refine (valid_is HVB.out HDD.out).mono ?_
        rintro e w9 ⟨rfl, hE⟩
        replace HDD := Lib.hid (MapAt.ext HDD.out hE)
        have HE9 := Lib.hid (HE8.out.trans hE); clear hE
        go_wp2_with fail
        refine (get_any (b := d) (A := A2) (n := n2) (c := c2) (w := w9) key HDD.out (Nat.le_trans hsb (by decide)) H0B.out).mono ?_
        rintro e w10 ⟨rfl, hE⟩
        replace HDD := Lib.hid (MapAt.ext HDD.out hE)
        have HE10 := Lib.hid (HE9.out.trans hE); clear hE
        rw [HF2.out]
        go_wp2_with fail
        refine (awake_any _).mono ?_
        rintro e w11 ⟨rfl, hE⟩
        replace HDD := Lib.hid (MapAt.ext HDD.out hE)
        have HE11 := Lib.hid (HE10.out.trans hE); clear hE
        go_wp2_with fail
        go_ret
        exact ⟨rfl, HE11.out⟩
    | none =>
      have HWAS := Lib.hid hwas; clear hwas
      by_cases ho : other = key
      · obtain rfl := ho.symm
        clear hfo
        have HE0 := Lib.hid (Ext.refl w)
        go_enter Try.func12, Try.ntmps12
        go_wp2_with fail
        refine (valid_is HZ.out (HM.out.ext HE0.out)).mono ?_
        rintro e w1 ⟨rfl, hE⟩
        have HE1 := Lib.hid (HE0.out.trans hE); clear hE
        go_wp2_with fail
        refine (size_is HX.out (HM.out.ext HE1.out) (by omega)).mono ?_
        rintro e w' ⟨rfl, rfl⟩
        go_wp2_with fail
        refine (get_any (b := b) (A := A) (n := n) (c := c) (w := w1) key (HM.out.ext HE1.out) (Nat.le_trans hs (by decide)) H0.out).mono ?_
        rintro e w2 ⟨rfl, hE⟩
        have HE2 := Lib.hid (HE1.out.trans hE); clear hE
        rw [HWAS.out]
        go_wp2_with fail
        refine (get_any (b := b) (A := A) (n := n) (c := c) (w := w2) key (HM.out.ext HE2.out) (Nat.le_trans hs (by decide)) H0.out).mono ?_
        rintro e w3 ⟨rfl, hE⟩
        have HE3 := Lib.hid (HE2.out.trans hE); clear hE
        rw [HFB.out]
        go_wp2_with fail
        refine (Put_any (b := b) (A := A) (n := n) (c := c) (w := w3) (HM.out.ext HE3.out) (Nat.le_trans hs (by decide)) H0.out hk hv).mono ?_
        rintro e w4 ⟨A1, n1, c1, rfl, hA, hE⟩
        rw [HLG.out] at hA ⊢
        simp only [Bool.false_eq_true, if_false, HAE.out] at hA ⊢
        have HE4 := Lib.hid (HE3.out.trans hE); have HA := Lib.hid hA; clear hE hA
        go_wp2_with fail
        refine (valid_is HVA.out HA.out).mono ?_
        rintro e w5 ⟨rfl, hE⟩
        replace HA := Lib.hid (MapAt.ext HA.out hE)
        have HE5 := Lib.hid (HE4.out.trans hE); clear hE
        go_wp2_with fail
        refine (get_any (b := a) (A := A1) (n := n1) (c := c1) (w := w5) key HA.out (Nat.le_trans hsa (by decide)) H0A.out).mono ?_
        rintro e w6 ⟨rfl, hE⟩
        replace HA := Lib.hid (MapAt.ext HA.out hE)
        have HE6 := Lib.hid (HE5.out.trans hE); clear hE
        rw [HF1.out]
        go_wp2_with fail
        refine (get_any (b := a) (A := A1) (n := n1) (c := c1) (w := w6) key HA.out (Nat.le_trans hsa (by decide)) H0A.out).mono ?_
        rintro e w7 ⟨rfl, hE⟩
        replace HA := Lib.hid (MapAt.ext HA.out hE)
        have HE7 := Lib.hid (HE6.out.trans hE); clear hE
        rw [HFA.out]
        go_wp2_with fail
        refine (Delete_any (b := a) (A := A1) (n := n1) (c := c1) (w := w7) (k := key) HA.out (Nat.le_trans hsa (by decide)) H0A.out).mono ?_
        rintro e w8 ⟨A2, n2, c2, rfl, hD, hE⟩
        rw [HF1.out] at hD ⊢
        simp only [reduceCtorEq, if_false, HD.out] at hD ⊢
        have HE8 := Lib.hid (HE7.out.trans hE); have HDD := Lib.hid hD; clear hE hD HA
        go_wp2_with fail
        refine (valid_is HVB.out HDD.out).mono ?_
        rintro e w9 ⟨rfl, hE⟩
        replace HDD := Lib.hid (MapAt.ext HDD.out hE)
        have HE9 := Lib.hid (HE8.out.trans hE); clear hE
        go_wp2_with fail
        refine (get_any (b := d) (A := A2) (n := n2) (c := c2) (w := w9) key HDD.out (Nat.le_trans hsb (by decide)) H0B.out).mono ?_
        rintro e w10 ⟨rfl, hE⟩
        replace HDD := Lib.hid (MapAt.ext HDD.out hE)
        have HE10 := Lib.hid (HE9.out.trans hE); clear hE
        rw [HF2.out]
        go_wp2_with fail
        refine (rsame_is (r := true) ((sameB_iff _ _).2 (HWP.out HWAS.out)) HDD.out (HM.out.ext HE10.out)).mono ?_
        rintro e w11 ⟨rfl, hE⟩
        replace HDD := Lib.hid (MapAt.ext HDD.out hE)
        have HE11 := Lib.hid (HE10.out.trans hE); clear hE
        go_wp2_with fail
        refine (awake_any _).mono ?_
        rintro e w12 ⟨rfl, hE⟩
        replace HDD := Lib.hid (MapAt.ext HDD.out hE)
        have HE12 := Lib.hid (HE11.out.trans hE); clear hE
        go_wp2_with fail
        go_ret
        exact ⟨rfl, HE12.out⟩
      · have q3 := ne_list ho
        obtain rfl := hfo ho
        clear ho hfo
        have HE0 := Lib.hid (Ext.refl w)
        go_enter Try.func12, Try.ntmps12
        go_wp2_with fail
        refine (valid_is HZ.out (HM.out.ext HE0.out)).mono ?_
        rintro e w1 ⟨rfl, hE⟩
        have HE1 := Lib.hid (HE0.out.trans hE); clear hE
        go_wp2_with fail
        refine (size_is HX.out (HM.out.ext HE1.out) (by omega)).mono ?_
        rintro e w' ⟨rfl, rfl⟩
        go_wp2_with fail
        refine (get_any (b := b) (A := A) (n := n) (c := c) (w := w1) key (HM.out.ext HE1.out) (Nat.le_trans hs (by decide)) H0.out).mono ?_
        rintro e w2 ⟨rfl, hE⟩
        have HE2 := Lib.hid (HE1.out.trans hE); clear hE
        rw [HWAS.out]
        go_wp2_with fail
        refine (get_any (b := b) (A := A) (n := n) (c := c) (w := w2) other (HM.out.ext HE2.out) (Nat.le_trans hs (by decide)) H0.out).mono ?_
        rintro e w3 ⟨rfl, hE⟩
        have HE3 := Lib.hid (HE2.out.trans hE); clear hE
        rw [HFB.out]
        go_wp2_with fail
        refine (Put_any (b := b) (A := A) (n := n) (c := c) (w := w3) (HM.out.ext HE3.out) (Nat.le_trans hs (by decide)) H0.out hk hv).mono ?_
        rintro e w4 ⟨A1, n1, c1, rfl, hA, hE⟩
        rw [HLG.out] at hA ⊢
        simp only [Bool.false_eq_true, if_false, HAE.out] at hA ⊢
        have HE4 := Lib.hid (HE3.out.trans hE); have HA := Lib.hid hA; clear hE hA
        go_wp2_with fail
        refine (valid_is HVA.out HA.out).mono ?_
        rintro e w5 ⟨rfl, hE⟩
        replace HA := Lib.hid (MapAt.ext HA.out hE)
        have HE5 := Lib.hid (HE4.out.trans hE); clear hE
        go_wp2_with fail
        refine (get_any (b := a) (A := A1) (n := n1) (c := c1) (w := w5) key HA.out (Nat.le_trans hsa (by decide)) H0A.out).mono ?_
        rintro e w6 ⟨rfl, hE⟩
        replace HA := Lib.hid (MapAt.ext HA.out hE)
        have HE6 := Lib.hid (HE5.out.trans hE); clear hE
        rw [HF1.out]
        go_wp2_with fail
        refine (get_any (b := a) (A := A1) (n := n1) (c := c1) (w := w6) other HA.out (Nat.le_trans hsa (by decide)) H0A.out).mono ?_
        rintro e w7 ⟨rfl, hE⟩
        replace HA := Lib.hid (MapAt.ext HA.out hE)
        have HE7 := Lib.hid (HE6.out.trans hE); clear hE
        rw [HFA.out]
        go_wp2_with fail
        refine (Delete_any (b := a) (A := A1) (n := n1) (c := c1) (w := w7) (k := key) HA.out (Nat.le_trans hsa (by decide)) H0A.out).mono ?_
        rintro e w8 ⟨A2, n2, c2, rfl, hD, hE⟩
        rw [HF1.out] at hD ⊢
        simp only [reduceCtorEq, if_false, HD.out] at hD ⊢
        have HE8 := Lib.hid (HE7.out.trans hE); have HDD := Lib.hid hD; clear hE hD HA
        go_wp2_with fail
        refine (valid_is HVB.out HDD.out).mono ?_
        rintro e w9 ⟨rfl, hE⟩
        replace HDD := Lib.hid (MapAt.ext HDD.out hE)
        have HE9 := Lib.hid (HE8.out.trans hE); clear hE
        go_wp2_with fail
        refine (get_any (b := d) (A := A2) (n := n2) (c := c2) (w := w9) key HDD.out (Nat.le_trans hsb (by decide)) H0B.out).mono ?_
        rintro e w10 ⟨rfl, hE⟩
        replace HDD := Lib.hid (MapAt.ext HDD.out hE)
        have HE10 := Lib.hid (HE9.out.trans hE); clear hE
        rw [HF2.out]
        go_wp2_with fail
        refine (rsame_is (r := true) ((sameB_iff _ _).2 (HWP.out HWAS.out)) HDD.out (HM.out.ext HE10.out)).mono ?_
        rintro e w11 ⟨rfl, hE⟩
        replace HDD := Lib.hid (MapAt.ext HDD.out hE)
        have HE11 := Lib.hid (HE10.out.trans hE); clear hE
        go_wp2_with fail
        refine (awake_any _).mono ?_
        rintro e w12 ⟨rfl, hE⟩
        replace HDD := Lib.hid (MapAt.ext HDD.out hE)
        have HE12 := Lib.hid (HE11.out.trans hE); clear hE
        go_wp2_with fail
        go_ret
        exact ⟨rfl, HE12.out⟩
end Go.Proofs.Ytbjniaihkllmdaa

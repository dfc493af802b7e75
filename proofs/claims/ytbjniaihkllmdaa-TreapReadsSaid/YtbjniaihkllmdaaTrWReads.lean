/- TreapReads's walk. -/
import Derived.Test.YtbjniaihkllmdaaTrAwake
import Derived.Test.YtbjniaihkllmdaaTrRDiff
import Derived.Test.YtbjniaihkllmdaaTrLawP
namespace Go.Proofs.Ytbjniaihkllmdaa
open Go.RowKit
set_option maxRecDepth 100000
set_option maxHeartbeats 16000000
theorem reads_walk {t s : MT} {A : Option Addr} {n c : Nat} {B : Option Addr} {m d : Nat} {key : ByteArray} (w : World) (hm : MapAt w t A n) (hs : MapAt w s B m) (_ : key.size ≤ Reach) :
    Calls Try.prog 6 #[.slice A n c, .slice B m d, .string key] w fun e w' => e = .returned (.bool true) ∧ Ext w w' := by
  have HM := Lib.hid hm; have HS := Lib.hid hs; clear hm hs
  cases hz : valB t with
  | false =>
    have HZ := Lib.hid hz; clear hz
    have HE0 := Lib.hid (Ext.refl w)
    go_enter Try.func6, Try.ntmps6
    go_wp2_with fail
    refine (valid_is HZ.out (HM.out.ext HE0.out)).mono ?_
    rintro e w1 ⟨rfl, hE⟩
    have HE1 := Lib.hid (HE0.out.trans hE); clear hE
    go_wp2_with fail
    refine (awake_any _).mono ?_
    rintro e w2 ⟨rfl, hE⟩
    have HE2 := Lib.hid (HE1.out.trans hE); clear hE
    go_wp2_with fail
    go_ret
    exact ⟨rfl, HE2.out⟩
  | true =>
    have HZ := Lib.hid hz
    cases hz2 : valB s with
    | false =>
      have HZ2 := Lib.hid hz2; clear hz hz2
      have HE0 := Lib.hid (Ext.refl w)
      go_enter Try.func6, Try.ntmps6
      go_wp2_with fail
      refine (valid_is HZ.out (HM.out.ext HE0.out)).mono ?_
      rintro e w1 ⟨rfl, hE⟩
      have HE1 := Lib.hid (HE0.out.trans hE); clear hE
      go_wp2_with fail
      refine (valid_is HZ2.out (HS.out.ext HE1.out)).mono ?_
      rintro e w2 ⟨rfl, hE⟩
      have HE2 := Lib.hid (HE1.out.trans hE); clear hE
      go_wp2_with fail
      refine (awake_any _).mono ?_
      rintro e w3 ⟨rfl, hE⟩
      have HE3 := Lib.hid (HE2.out.trans hE); clear hE
      go_wp2_with fail
      go_ret
      exact ⟨rfl, HE3.out⟩
    | true =>
      have HZ2 := Lib.hid hz2
      obtain ⟨a, rfl, hoa, hsa⟩ := val_tree hz
      obtain ⟨b, rfl, hob, hsb⟩ := val_tree hz2
      clear hz hz2
      have HOA := Lib.hid hoa; have HOB := Lib.hid hob; clear hoa hob
      by_cases k1 : key.size ≤ 100
      case neg =>
        have q4 : ((100 : Int) < (key.size : Int)) := by omega
        have HE0 := Lib.hid (Ext.refl w)
        go_enter Try.func6, Try.ntmps6
        go_wp2_with fail
        refine (valid_is HZ.out (HM.out.ext HE0.out)).mono ?_
        rintro e w1 ⟨rfl, hE⟩
        have HE1 := Lib.hid (HE0.out.trans hE); clear hE
        go_wp2_with fail
        refine (valid_is HZ2.out (HS.out.ext HE1.out)).mono ?_
        rintro e w2 ⟨rfl, hE⟩
        have HE2 := Lib.hid (HE1.out.trans hE); clear hE
        go_wp2_with fail
        refine (awake_any _).mono ?_
        rintro e w3 ⟨rfl, hE⟩
        have HE3 := Lib.hid (HE2.out.trans hE); clear hE
        go_wp2_with fail
        go_ret
        exact ⟨rfl, HE3.out⟩
      have q4 : ¬ ((100 : Int) < (key.size : Int)) := by omega
      have h0 := (chk_ok a).2 HOA.out
      have h1 := (chk_ok b).2 HOB.out
      have hdl := diff_len (prsV a) (prsV b)
      rw [prs_len, prs_len] at hdl
      obtain ⟨D, hD⟩ : ∃ D, diffV (prsV a) (prsV b) = D := ⟨_, rfl⟩
      rw [hD] at hdl
      have hDl : D.length ≤ 100 := by omega
      obtain ⟨l, hl⟩ : ∃ l, prsV a = l := ⟨_, rfl⟩
      have hll : l.length ≤ 30 := by rw [← hl, prs_len]; exact hsa
      obtain ⟨fa, hfa⟩ : ∃ v, findV key a = v := ⟨_, rfl⟩
      have H0 := Lib.hid h0; have H1 := Lib.hid h1; have HD := Lib.hid hD; have HL := Lib.hid hl; have HFA := Lib.hid hfa
      clear h0 h1 hD hl hfa hdl
      have HE0 := Lib.hid (Ext.refl w)
      go_enter Try.func6, Try.ntmps6
      go_wp2_with fail
      refine (valid_is HZ.out (HM.out.ext HE0.out)).mono ?_
      rintro e w1 ⟨rfl, hE⟩
      have HE1 := Lib.hid (HE0.out.trans hE); clear hE
      go_wp2_with fail
      refine (valid_is HZ2.out (HS.out.ext HE1.out)).mono ?_
      rintro e w2 ⟨rfl, hE⟩
      have HE2 := Lib.hid (HE1.out.trans hE); clear hE
      go_wp2_with fail
      refine (get_any (b := a) (A := A) (n := n) (c := c) (w := w2) key (HM.out.ext HE2.out) (by omega) H0.out).mono ?_
      rintro e w3 ⟨rfl, hE⟩
      have HE3 := Lib.hid (HE2.out.trans hE); clear hE
      rw [HFA.out]
      go_wp2_with fail
      refine (rget_any (b := a) (A := A) (n := n) (c := c) (k := key) (w := w3) (HM.out.ext HE3.out) (by omega) HOA.out.1).mono ?_
      rintro e w4 ⟨rfl, hE⟩
      have HE4 := Lib.hid (HE3.out.trans hE); clear hE
      rw [HFA.out]
      go_wp2_with fail
      refine (list_is (l := l) HL.out (HM.out.ext HE4.out) (by omega) H0.out).mono ?_
      rintro e w5 ⟨A1, c1, rfl, hc1, hP, hE⟩
      have HE5 := Lib.hid (HE4.out.trans hE); have HP1 := Lib.hid hP; clear hE hP
      go_wp2_with fail
      refine (rList_any (l := l) HL.out (HM.out.ext HE5.out) (by omega)).mono ?_
      rintro e w6 ⟨A2, c2, rfl, hP, hE⟩
      replace HP1 := Lib.hid (Prs.ext HP1.out hE)
      have HE6 := Lib.hid (HE5.out.trans hE); have HP2 := Lib.hid hP; clear hE hP
      go_wp2_with fail
      refine (rpairs_any (p := l) (q := l) HP1.out HP2.out (by omega) (by omega)).mono ?_
      rintro e w7 ⟨rfl, hE⟩
      replace HP1 := Lib.hid (Prs.ext HP1.out hE)
      replace HP2 := Lib.hid (Prs.ext HP2.out hE)
      have HE7 := Lib.hid (HE6.out.trans hE); clear hE
      rw [show decide (l = l) = true from decide_eq_true rfl]
      go_wp2_with fail
      refine (diff_any (a := a) (b := b) (HM.out.ext HE7.out) (HS.out.ext HE7.out) (by omega) (by omega) H0.out H1.out).mono ?_
      rintro e w8 ⟨hE, v, rfl, ho⟩
      rw [HD.out] at ho
      obtain ⟨A3, c3, rfl, -, hC⟩ := ownC_chgs ho
      have HE8 := Lib.hid (HE7.out.trans hE); have HC1 := Lib.hid hC; clear hE hC ho
      go_wp2_with fail
      refine (rdiffP_any (a := a) (b := b) (HM.out.ext HE8.out) (HS.out.ext HE8.out) (by omega) (by omega) HOA.out HOB.out).mono ?_
      rintro e w9 ⟨hE, v, rfl, ho⟩
      rw [HD.out] at ho
      obtain ⟨A4, c4, rfl, -, hC⟩ := ownC_chgs ho
      replace HC1 := Lib.hid (Chgs.ext HC1.out hE)
      have HE9 := Lib.hid (HE8.out.trans hE); have HC2 := Lib.hid hC; clear hE hC ho
      go_wp2_with fail
      refine (rchanges_any (p := D) (q := D) HC1.out HC2.out (by omega) (by omega)).mono ?_
      rintro e w10 ⟨rfl, hE⟩
      have HE10 := Lib.hid (HE9.out.trans hE); clear hE
      rw [show decide (D = D) = true from decide_eq_true rfl]
      go_wp2_with fail
      refine (awake_any _).mono ?_
      rintro e w11 ⟨rfl, hE⟩
      have HE11 := Lib.hid (HE10.out.trans hE); clear hE
      go_wp2_with fail
      go_ret
      exact ⟨rfl, HE11.out⟩
end Go.Proofs.Ytbjniaihkllmdaa

/- TreapUnique's walk. -/
import Derived.Test.YtbjniaihkllmdaaTrAwake
import Derived.Test.YtbjniaihkllmdaaTrLawO
namespace Go.Proofs.Ytbjniaihkllmdaa
open Go.RowKit
set_option maxRecDepth 100000
set_option maxHeartbeats 16000000
theorem unique_walk {t s : MT} {A : Option Addr} {n c : Nat} {B : Option Addr} {m d : Nat} (w : World) (hm : MapAt w t A n) (hs : MapAt w s B m) :
    Calls Try.prog 5 #[.slice A n c, .slice B m d] w fun e w' => e = .returned (.bool true) ∧ Ext w w' := by
  have HM := Lib.hid hm; have HS := Lib.hid hs; clear hm hs
  cases hz : valB t with
  | false =>
    have HZ := Lib.hid hz; clear hz
    have HE0 := Lib.hid (Ext.refl w)
    go_enter Try.func5, Try.ntmps5
    go_wp2_with fail
    refine (valid_is HZ.out (HM.out.ext HE0.out)).mono ?_
    rintro e w1 ⟨rfl, hE⟩
    have HE1 := Lib.hid (HE0.out.trans hE); clear hE
    go_wp2_with fail
    refine (awake_any _).mono ?_
    rintro e w2 ⟨rfl, hE⟩
    have HE2 := Lib.hid (HE1.out.trans hE); clear hE
    go_wp2_with fail
    go_ret
    exact ⟨rfl, HE2.out⟩
  | true =>
    cases hz2 : valB s with
    | false =>
      have HZ := Lib.hid hz; have HZ2 := Lib.hid hz2; clear hz hz2
      have HE0 := Lib.hid (Ext.refl w)
      go_enter Try.func5, Try.ntmps5
      go_wp2_with fail
      refine (valid_is HZ.out (HM.out.ext HE0.out)).mono ?_
      rintro e w1 ⟨rfl, hE⟩
      have HE1 := Lib.hid (HE0.out.trans hE); clear hE
      go_wp2_with fail
      refine (valid_is HZ2.out (HS.out.ext HE1.out)).mono ?_
      rintro e w2 ⟨rfl, hE⟩
      have HE2 := Lib.hid (HE1.out.trans hE); clear hE
      go_wp2_with fail
      refine (awake_any _).mono ?_
      rintro e w3 ⟨rfl, hE⟩
      have HE3 := Lib.hid (HE2.out.trans hE); clear hE
      go_wp2_with fail
      go_ret
      exact ⟨rfl, HE3.out⟩
    | true =>
      obtain ⟨a, rfl, hoa, hsa⟩ := val_tree hz
      obtain ⟨b, rfl, hob, hsb⟩ := val_tree hz2
      have hof := of_list hoa
      have heq := same_prs hoa hob
      have h0 := (chk_ok a).2 hoa
      have h1 := (chk_ok b).2 hob
      have hla : (prsV a).length ≤ 30 := by rw [prs_len]; exact hsa
      have hlb : (prsV b).length ≤ 30 := by rw [prs_len]; exact hsb
      obtain ⟨l, hl⟩ : ∃ l, prsV a = l := ⟨_, rfl⟩
      obtain ⟨k, hk⟩ : ∃ k, prsV b = k := ⟨_, rfl⟩
      rw [hl] at hof heq hla; rw [hk] at heq hlb
      obtain ⟨z, hzz⟩ : ∃ z, sameB a b = z := ⟨_, rfl⟩
      rw [hzz] at heq
      have HZ := Lib.hid hz; have HZ2 := Lib.hid hz2; have HOF := Lib.hid hof; have HEQ := Lib.hid heq; have HSA := Lib.hid hzz; have H0 := Lib.hid h0; have H1 := Lib.hid h1; have HL := Lib.hid hl; have HK := Lib.hid hk
      clear hz hz2 hof heq hzz h0 h1 hoa hob hl hk
      have HE0 := Lib.hid (Ext.refl w)
      go_enter Try.func5, Try.ntmps5
      go_wp2_with fail
      refine (valid_is HZ.out (HM.out.ext HE0.out)).mono ?_
      rintro e w1 ⟨rfl, hE⟩
      have HE1 := Lib.hid (HE0.out.trans hE); clear hE
      go_wp2_with fail
      refine (valid_is HZ2.out (HS.out.ext HE1.out)).mono ?_
      rintro e w2 ⟨rfl, hE⟩
      have HE2 := Lib.hid (HE1.out.trans hE); clear hE
      go_wp2_with fail
      refine (list_is (l := l) HL.out (HM.out.ext HE2.out) (by omega) H0.out).mono ?_
      rintro e w3 ⟨A1, c1, rfl, hc1, hP, hE⟩
      have HE3 := Lib.hid (HE2.out.trans hE); have HPX := Lib.hid hP; clear hE hP
      go_wp2_with fail
      refine (Of_any (l := l) HPX.out (by omega)).mono ?_
      rintro e w4 ⟨A2, n2, c2, rfl, hO, hE⟩
      rw [HOF.out] at hO ⊢
      replace HPX := Lib.hid (HPX.out.ext hE)
      have HE4 := Lib.hid (HE3.out.trans hE); have HO := Lib.hid hO; clear hE hO
      go_wp2_with fail
      refine (list_is (l := k) HK.out (HS.out.ext HE4.out) (by omega) H1.out).mono ?_
      rintro e w5 ⟨A3, c3, rfl, hc3, hQ, hE⟩
      replace HPX := Lib.hid (HPX.out.ext hE); replace HO := Lib.hid (MapAt.ext HO.out hE)
      have HE5 := Lib.hid (HE4.out.trans hE); have HQ := Lib.hid hQ; clear hE hQ
      go_wp2_with fail
      refine (rpairs_any HPX.out HQ.out (by omega) (by omega)).mono ?_
      rintro e w6 ⟨rfl, hE⟩
      replace HPX := Lib.hid (Prs.ext HPX.out hE)
      replace HO := Lib.hid (MapAt.ext HO.out hE)
      have HE6 := Lib.hid (HE5.out.trans hE); clear hE
      rw [HEQ.out]
      go_wp2_with fail
      refine (rsame_is HSA.out (HM.out.ext HE6.out) (HS.out.ext HE6.out)).mono ?_
      rintro e w7 ⟨rfl, hE⟩
      replace HPX := Lib.hid (Prs.ext HPX.out hE)
      replace HO := Lib.hid (MapAt.ext HO.out hE)
      have HE7 := Lib.hid (HE6.out.trans hE); clear hE
      go_wp2_with fail
      refine (lsame_is (r := true) ((sameB_iff a a).2 rfl) HO.out (HM.out.ext HE7.out) (by omega) H0.out).mono ?_
      rintro e w8 ⟨rfl, hE⟩
      replace HPX := Lib.hid (Prs.ext HPX.out hE)
      replace HO := Lib.hid (MapAt.ext HO.out hE)
      have HE8 := Lib.hid (HE7.out.trans hE); clear hE
      go_wp2_with fail
      refine (awake_any _).mono ?_
      rintro e w9 ⟨rfl, hE⟩
      replace HPX := Lib.hid (Prs.ext HPX.out hE)
      replace HO := Lib.hid (MapAt.ext HO.out hE)
      have HE9 := Lib.hid (HE8.out.trans hE); clear hE
      go_wp2_with fail
      go_ret
      exact ⟨rfl, HE9.out⟩
end Go.Proofs.Ytbjniaihkllmdaa

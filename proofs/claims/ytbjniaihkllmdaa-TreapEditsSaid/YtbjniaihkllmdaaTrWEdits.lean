/- TreapEdits's walk. -/
import Derived.Test.YtbjniaihkllmdaaTrAwake
import Derived.Test.YtbjniaihkllmdaaTrRSplit
import Derived.Test.YtbjniaihkllmdaaTrLawP
namespace Go.Proofs.Ytbjniaihkllmdaa
open Go.RowKit
set_option maxRecDepth 100000
set_option maxHeartbeats 16000000
theorem edits_walk {t : MT} {A : Option Addr} {n c : Nat} {key value : ByteArray} (w : World) (hm : MapAt w t A n) (hk : key.size ≤ Reach) (hv : value.size ≤ Reach) :
    Calls Try.prog 11 #[.slice A n c, .string key, .string value] w fun e w' => e = .returned (.bool true) ∧ Ext w w' := by
  have HM := Lib.hid hm; clear hm
  cases hz : valB t with
  | false =>
    have HZ := Lib.hid hz; clear hz
    have HE0 := Lib.hid (Ext.refl w)
    go_enter Try.func11, Try.ntmps11
    go_wp2_with fail
    refine (valid_is HZ.out (HM.out.ext HE0.out)).mono ?_
    rintro e w1 ⟨rfl, hE⟩
    have HE1 := Lib.hid (HE0.out.trans hE); clear hE
    go_wp2_with fail
    refine (awake_any _).mono ?_
    rintro e w2 ⟨rfl, hE⟩
    have HE2 := Lib.hid (HE1.out.trans hE); clear hE
    go_wp2_with fail
    go_ret
    exact ⟨rfl, HE2.out⟩
  | true =>
    obtain ⟨b, rfl, hok, hs⟩ := val_tree hz
    have HZ := Lib.hid hz; have HOK := Lib.hid hok; clear hz hok
    obtain ⟨x, hx⟩ : ∃ x, min b.mt.size (29 + 1) = x := ⟨_, rfl⟩
    have hxb : x = min b.size 30 := by rw [← hx, BT.mt_size]
    have HX := Lib.hid hx; clear hx
    by_cases h1 : b.size ≤ 29
    case neg =>
      have q1 : ((29 : Int) < (x : Int)) := by omega
      clear hxb
      have HE0 := Lib.hid (Ext.refl w)
      go_enter Try.func11, Try.ntmps11
      go_wp2_with fail
      refine (valid_is HZ.out (HM.out.ext HE0.out)).mono ?_
      rintro e w1 ⟨rfl, hE⟩
      have HE1 := Lib.hid (HE0.out.trans hE); clear hE
      go_wp2_with fail
      refine (size_is HX.out (HM.out.ext HE1.out) (by omega)).mono ?_
      rintro e w' ⟨rfl, rfl⟩
      go_wp2_with fail
      refine (awake_any _).mono ?_
      rintro e w2 ⟨rfl, hE⟩
      have HE2 := Lib.hid (HE1.out.trans hE); clear hE
      go_wp2_with fail
      go_ret
      exact ⟨rfl, HE2.out⟩
    have q1 : ¬ ((29 : Int) < (x : Int)) := by omega
    clear hxb
    by_cases k1 : key.size ≤ 100
    case neg =>
      have q2 : ((100 : Int) < (key.size : Int)) := by omega
      have HE0 := Lib.hid (Ext.refl w)
      go_enter Try.func11, Try.ntmps11
      go_wp2_with fail
      refine (valid_is HZ.out (HM.out.ext HE0.out)).mono ?_
      rintro e w1 ⟨rfl, hE⟩
      have HE1 := Lib.hid (HE0.out.trans hE); clear hE
      go_wp2_with fail
      refine (size_is HX.out (HM.out.ext HE1.out) (by omega)).mono ?_
      rintro e w' ⟨rfl, rfl⟩
      go_wp2_with fail
      refine (awake_any _).mono ?_
      rintro e w2 ⟨rfl, hE⟩
      have HE2 := Lib.hid (HE1.out.trans hE); clear hE
      go_wp2_with fail
      go_ret
      exact ⟨rfl, HE2.out⟩
    have q_k1 : ¬ ((100 : Int) < (key.size : Int)) := by omega
    by_cases k2 : value.size ≤ 1100
    case neg =>
      have q2 : ((1100 : Int) < (value.size : Int)) := by omega
      have HE0 := Lib.hid (Ext.refl w)
      go_enter Try.func11, Try.ntmps11
      go_wp2_with fail
      refine (valid_is HZ.out (HM.out.ext HE0.out)).mono ?_
      rintro e w1 ⟨rfl, hE⟩
      have HE1 := Lib.hid (HE0.out.trans hE); clear hE
      go_wp2_with fail
      refine (size_is HX.out (HM.out.ext HE1.out) (by omega)).mono ?_
      rintro e w' ⟨rfl, rfl⟩
      go_wp2_with fail
      refine (awake_any _).mono ?_
      rintro e w2 ⟨rfl, hE⟩
      have HE2 := Lib.hid (HE1.out.trans hE); clear hE
      go_wp2_with fail
      go_ret
      exact ⟨rfl, HE2.out⟩
    have q_k2 : ¬ ((1100 : Int) < (value.size : Int)) := by omega
    have h0 := (chk_ok b).2 HOK.out
    obtain ⟨p, hp⟩ : ∃ p, (if lgB key value = true then BT.leaf else putV key value b) = p := ⟨_, rfl⟩
    obtain ⟨pz, hpz⟩ : ∃ z : Int, (if lgB key value = true then (4 : Int) else 0) = z := ⟨_, rfl⟩
    have hop : OK p := by
      rw [← hp]
      cases hl : lgB key value with
      | true => simpa using ok_leaf
      | false => simpa using ok_put HOK.out hl
    have hsp : p.size ≤ 30 := by
      rw [← hp]
      split
      · simp [BT.size]
      · have := put_size key value b; omega
    obtain ⟨d, hd⟩ : ∃ d, (if findV key b = none then BT.leaf else woV key b) = d := ⟨_, rfl⟩
    obtain ⟨dz, hdz⟩ : ∃ z : Int, (if findV key b = none then (7 : Int) else 0) = z := ⟨_, rfl⟩
    have hod : OK d := by
      rw [← hd]
      split
      · exact ok_leaf
      · exact ok_wo HOK.out
    have hsd : d.size ≤ 30 := by
      rw [← hd]
      split
      · simp [BT.size]
      · exact Nat.le_trans (wo_size key b) hs
    obtain ⟨s1, hs1⟩ : ∃ s, (splitV key b).1 = s := ⟨_, rfl⟩
    obtain ⟨s2, hs2⟩ : ∃ s, (splitV key b).2 = s := ⟨_, rfl⟩
    have ho1 := ok_split1 (k := key) HOK.out
    have ho2 := ok_split2 (k := key) HOK.out
    have hss := split_size key b
    rw [hs1] at ho1 hss; rw [hs2] at ho2 hss
    have hss1 : s1.size ≤ 30 := by omega
    have hss2 : s2.size ≤ 30 := by omega
    have H0 := Lib.hid h0; have HPE := Lib.hid hp; have HPZ := Lib.hid hpz; have HOP := Lib.hid ((chk_ok p).2 hop); have HDE := Lib.hid hd; have HDZ := Lib.hid hdz; have HOD := Lib.hid ((chk_ok d).2 hod); have HS1 := Lib.hid hs1; have HS2 := Lib.hid hs2; have HO1 := Lib.hid ((chk_ok s1).2 ho1); have HO2 := Lib.hid ((chk_ok s2).2 ho2)
    clear h0 hp hpz hop hd hdz hod hs1 hs2 ho1 ho2 hss
    have HE0 := Lib.hid (Ext.refl w)
    go_enter Try.func11, Try.ntmps11
    go_wp2_with fail
    refine (valid_is HZ.out (HM.out.ext HE0.out)).mono ?_
    rintro e w1 ⟨rfl, hE⟩
    have HE1 := Lib.hid (HE0.out.trans hE); clear hE
    go_wp2_with fail
    refine (size_is HX.out (HM.out.ext HE1.out) (by omega)).mono ?_
    rintro e w' ⟨rfl, rfl⟩
    go_wp2_with fail
    refine (Put_any (b := b) (A := A) (n := n) (c := c) (k := key) (v := value) (w := w1) (HM.out.ext HE1.out) (by omega) H0.out hk hv).mono ?_
    rintro e w2 ⟨A1, n1, c1, rfl, h1, hE⟩
    rw [HPE.out] at h1
    rw [HPZ.out]
    have HE2 := Lib.hid (HE1.out.trans hE); have HG1 := Lib.hid h1; clear hE h1
    go_wp2_with fail
    refine (rput_any (b := b) (A := A) (n := n) (c := c) (k := key) (v := value) (w := w2) (HM.out.ext HE2.out) (by omega) HOK.out hk hv).mono ?_
    rintro e w3 ⟨A2, n2, c2, rfl, h1, hE⟩
    rw [HPE.out] at h1
    rw [HPZ.out]
    replace HG1 := Lib.hid (MapAt.ext HG1.out hE)
    have HE3 := Lib.hid (HE2.out.trans hE); have HG2 := Lib.hid h1; clear hE h1
    go_wp2_with fail
    refine (lsame_is (r := true) ((sameB_iff p p).2 rfl) HG1.out HG2.out hsp HOP.out).mono ?_
    rintro e w4 ⟨rfl, hE⟩
    replace HG1 := Lib.hid (MapAt.ext HG1.out hE)
    replace HG2 := Lib.hid (MapAt.ext HG2.out hE)
    have HE4 := Lib.hid (HE3.out.trans hE); clear hE
    go_wp2_with fail
    refine (Delete_any (b := b) (A := A) (n := n) (c := c) (k := key) (w := w4) (HM.out.ext HE4.out) (by omega) H0.out).mono ?_
    rintro e w5 ⟨A3, n3, c3, rfl, h1, hE⟩
    rw [HDE.out] at h1
    rw [HDZ.out]
    have HE5 := Lib.hid (HE4.out.trans hE); have HG3 := Lib.hid h1; clear hE h1
    go_wp2_with fail
    refine (rdelete_any (b := b) (A := A) (n := n) (c := c) (k := key) (w := w5) (HM.out.ext HE5.out) (by omega) HOK.out).mono ?_
    rintro e w6 ⟨A4, n4, c4, rfl, h1, hE⟩
    rw [HDE.out] at h1
    rw [HDZ.out]
    replace HG3 := Lib.hid (MapAt.ext HG3.out hE)
    have HE6 := Lib.hid (HE5.out.trans hE); have HG4 := Lib.hid h1; clear hE h1
    go_wp2_with fail
    refine (lsame_is (r := true) ((sameB_iff d d).2 rfl) HG3.out HG4.out hsd HOD.out).mono ?_
    rintro e w7 ⟨rfl, hE⟩
    replace HG3 := Lib.hid (MapAt.ext HG3.out hE)
    replace HG4 := Lib.hid (MapAt.ext HG4.out hE)
    have HE7 := Lib.hid (HE6.out.trans hE); clear hE
    go_wp2_with fail
    refine (Split_any (b := b) (A := A) (n := n) (c := c) (k := key) (w := w7) (HM.out.ext HE7.out) (by omega) H0.out).mono ?_
    rintro e w8 ⟨A5, n5, c5, A6, n6, c6, rfl, h1, h2, hE⟩
    rw [HS1.out] at h1
    rw [HS2.out] at h2
    have HE8 := Lib.hid (HE7.out.trans hE); have HG5 := Lib.hid h1; have HG6 := Lib.hid h2; clear hE h1 h2
    go_wp2_with fail
    refine (rsplit_any (b := b) (A := A) (n := n) (c := c) (k := key) (w := w8) (HM.out.ext HE8.out) (by omega) HOK.out).mono ?_
    rintro e w9 ⟨A7, n7, c7, A8, n8, c8, rfl, h1, h2, hE⟩
    rw [HS1.out] at h1
    rw [HS2.out] at h2
    replace HG5 := Lib.hid (MapAt.ext HG5.out hE)
    replace HG6 := Lib.hid (MapAt.ext HG6.out hE)
    have HE9 := Lib.hid (HE8.out.trans hE); have HG7 := Lib.hid h1; have HG8 := Lib.hid h2; clear hE h1 h2
    go_wp2_with fail
    refine (lsame_is (r := true) ((sameB_iff s1 s1).2 rfl) HG5.out HG7.out hss1 HO1.out).mono ?_
    rintro e w10 ⟨rfl, hE⟩
    replace HG5 := Lib.hid (MapAt.ext HG5.out hE)
    replace HG6 := Lib.hid (MapAt.ext HG6.out hE)
    replace HG7 := Lib.hid (MapAt.ext HG7.out hE)
    replace HG8 := Lib.hid (MapAt.ext HG8.out hE)
    have HE10 := Lib.hid (HE9.out.trans hE); clear hE
    go_wp2_with fail
    refine (lsame_is (r := true) ((sameB_iff s2 s2).2 rfl) HG6.out HG8.out hss2 HO2.out).mono ?_
    rintro e w11 ⟨rfl, hE⟩
    replace HG5 := Lib.hid (MapAt.ext HG5.out hE)
    replace HG6 := Lib.hid (MapAt.ext HG6.out hE)
    replace HG7 := Lib.hid (MapAt.ext HG7.out hE)
    replace HG8 := Lib.hid (MapAt.ext HG8.out hE)
    have HE11 := Lib.hid (HE10.out.trans hE); clear hE
    go_wp2_with fail
    refine (awake_any _).mono ?_
    rintro e w12 ⟨rfl, hE⟩
    replace HG5 := Lib.hid (MapAt.ext HG5.out hE)
    replace HG6 := Lib.hid (MapAt.ext HG6.out hE)
    replace HG7 := Lib.hid (MapAt.ext HG7.out hE)
    replace HG8 := Lib.hid (MapAt.ext HG8.out hE)
    have HE12 := Lib.hid (HE11.out.trans hE); clear hE
    go_wp2_with fail
    go_ret
    exact ⟨rfl, HE12.out⟩
end Go.Proofs.Ytbjniaihkllmdaa

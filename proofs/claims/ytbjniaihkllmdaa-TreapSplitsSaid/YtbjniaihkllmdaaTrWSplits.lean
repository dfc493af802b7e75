/- TreapSplits's walk. -/
import Derived.Test.YtbjniaihkllmdaaTrAwake
import Derived.Test.YtbjniaihkllmdaaTrJoin
import Derived.Test.YtbjniaihkllmdaaTrLawP
namespace Go.Proofs.Ytbjniaihkllmdaa
open Go.RowKit
set_option maxRecDepth 100000
set_option maxHeartbeats 16000000
theorem splits_walk {t : MT} {A : Option Addr} {n c : Nat} {key : ByteArray} (w : World) (hm : MapAt w t A n) (_ : key.size ≤ Reach) :
    Calls Try.prog 8 #[.slice A n c, .string key] w fun e w' => e = .returned (.bool true) ∧ Ext w w' := by
  have HM := Lib.hid hm; clear hm
  cases hz : valB t with
  | false =>
    have HZ := Lib.hid hz; clear hz
    have HE0 := Lib.hid (Ext.refl w)
    go_enter Try.func8, Try.ntmps8
    go_wp2_with fail
    refine (valid_is HZ.out (HM.out.ext HE0.out)).mono ?_
    rintro e w1 ⟨rfl, hE⟩
    have HE1 := Lib.hid (HE0.out.trans hE); clear hE
    go_wp2_with fail
    refine (awake_any _).mono ?_
    rintro e w2 ⟨rfl, hE⟩
    have HE2 := Lib.hid (HE1.out.trans hE); clear hE
    go_wp2_with fail
    go_ret
    exact ⟨rfl, HE2.out⟩
  | true =>
    obtain ⟨b, rfl, hok, hs⟩ := val_tree hz
    have HZ := Lib.hid hz; have HOK := Lib.hid hok; clear hz hok
    by_cases k1 : key.size ≤ 100
    case neg =>
      have q2 : ((100 : Int) < (key.size : Int)) := by omega
      have HE0 := Lib.hid (Ext.refl w)
      go_enter Try.func8, Try.ntmps8
      go_wp2_with fail
      refine (valid_is HZ.out (HM.out.ext HE0.out)).mono ?_
      rintro e w1 ⟨rfl, hE⟩
      have HE1 := Lib.hid (HE0.out.trans hE); clear hE
      go_wp2_with fail
      refine (awake_any _).mono ?_
      rintro e w2 ⟨rfl, hE⟩
      have HE2 := Lib.hid (HE1.out.trans hE); clear hE
      go_wp2_with fail
      go_ret
      exact ⟨rfl, HE2.out⟩
    have q_k : ¬ ((100 : Int) < (key.size : Int)) := by omega
    have h0 := (chk_ok b).2 HOK.out
    have hoa := ok_split1 (k := key) HOK.out
    have hob := ok_split2 (k := key) HOK.out
    have hss := split_size key b
    have hj := join_split (k := key) HOK.out
    have hlt := split_lt (k := key) HOK.out
    obtain ⟨-, -, -, -, hk1, hk2⟩ := split_spec key b HOK.out.1 HOK.out.2.1
    have hk1' : ∀ p ∈ prsV (splitV key b).1, klt p.k key = true := fun p hp => ((hk1 p).1 hp).2
    have hk2' : ∀ p ∈ prsV (splitV key b).2, klt p.k key = false := fun p hp => ((hk2 p).1 hp).2
    clear hk1 hk2
    obtain ⟨a, ha⟩ : ∃ a, (splitV key b).1 = a := ⟨_, rfl⟩
    obtain ⟨d, hd⟩ : ∃ d, (splitV key b).2 = d := ⟨_, rfl⟩
    rw [ha] at hoa hss hj hlt hk1'
    rw [hd] at hob hss hj hlt hk2'
    have hsa : a.size ≤ 30 := by omega
    have hsb : d.size ≤ 30 := by omega
    have hva := val_mt hoa hsa
    have hvb := val_mt hob hsb
    have h0a := (chk_ok a).2 hoa
    have h0b := (chk_ok d).2 hob
    have hjo : joinOk (prsV a) (prsV d) = true := by
      unfold joinOk
      cases h1 : (prsV a).getLast? with
      | none => rfl
      | some x =>
        cases h2 : (prsV d).head? with
        | none => rfl
        | some y => exact head_last hlt x y h1 h2
    have hll : (prsV a).length ≤ 30 := by rw [prs_len]; exact hsa
    have hkl : (prsV d).length ≤ 30 := by rw [prs_len]; exact hsb
    have HJO := Lib.hid hjo; clear hjo hlt hss
    obtain ⟨l, hl⟩ : ∃ l, prsV a = l := ⟨_, rfl⟩
    obtain ⟨k, hk⟩ : ∃ k, prsV d = k := ⟨_, rfl⟩
    rw [hl] at hk1' hll
    rw [hk] at hk2' hkl
    have H0 := Lib.hid h0; have HS1 := Lib.hid ha; have HS2 := Lib.hid hd; have HVA := Lib.hid hva; have HVB := Lib.hid hvb; have H0A := Lib.hid h0a; have H0B := Lib.hid h0b; have HJE := Lib.hid hj; have HL := Lib.hid hl; have HK := Lib.hid hk; have HK1 := Lib.hid hk1'; have HK2 := Lib.hid hk2'
    clear h0 ha hd hva hvb h0a h0b hj hl hk hk1' hk2' hoa hob
    have HE0 := Lib.hid (Ext.refl w)
    go_enter Try.func8, Try.ntmps8
    go_wp2_with fail
    refine (valid_is HZ.out (HM.out.ext HE0.out)).mono ?_
    rintro e w1 ⟨rfl, hE⟩
    have HE1 := Lib.hid (HE0.out.trans hE); clear hE
    go_wp2_with fail
    refine (Split_any (b := b) (A := A) (n := n) (c := c) (w := w1) (k := key) (HM.out.ext HE1.out) (Nat.le_trans hs (by decide)) H0.out).mono ?_
    rintro e w2 ⟨A1, n1, c1, A2, n2, c2, rfl, hA, hB, hE⟩
    rw [HS1.out] at hA
    rw [HS2.out] at hB
    have HE2 := Lib.hid (HE1.out.trans hE); have HA := Lib.hid hA; have HB := Lib.hid hB; clear hE hA hB
    go_wp2_with fail
    refine (valid_is HVA.out HA.out).mono ?_
    rintro e w3 ⟨rfl, hE⟩
    replace HA := Lib.hid (MapAt.ext HA.out hE)
    replace HB := Lib.hid (MapAt.ext HB.out hE)
    have HE3 := Lib.hid (HE2.out.trans hE); clear hE
    go_wp2_with fail
    refine (valid_is HVB.out HB.out).mono ?_
    rintro e w4 ⟨rfl, hE⟩
    replace HA := Lib.hid (MapAt.ext HA.out hE)
    replace HB := Lib.hid (MapAt.ext HB.out hE)
    have HE4 := Lib.hid (HE3.out.trans hE); clear hE
    go_wp2_with fail
    refine (list_is (l := l) HL.out HA.out (Nat.le_trans hsa (by decide)) H0A.out).mono ?_
    rintro e w5 ⟨A3, c3, rfl, hc3, hP, hE⟩
    replace HA := Lib.hid (MapAt.ext HA.out hE); replace HB := Lib.hid (MapAt.ext HB.out hE)
    have HE5 := Lib.hid (HE4.out.trans hE); have HPX := Lib.hid hP; clear hE hP
    go_wp2_with fail
    go_loopw [39] (fun vi wr => ∃ i : Nat, vi = .int .i64 i ∧ i ≤ l.length ∧ Ext w5 wr) (fun vi _ => l.length - (intOf vi).toNat)
    case atStart => exact ⟨0, rfl, Nat.zero_le _, Ext.refl _⟩
    case round =>
      obtain ⟨i, rfl, hi, hE⟩ := hrel
      have HER := Lib.hid hE; clear hE
      by_cases hiN : i = l.length
      · have hnl : ¬ ((i : Int) < (l.length : Int)) := by omega
        go_wp2_with fail
        have HE6 := Lib.hid (HE5.out.trans HER.out)
        replace HA := Lib.hid (MapAt.ext HA.out HER.out); replace HB := Lib.hid (MapAt.ext HB.out HER.out)
        refine (list_is (l := k) HK.out HB.out (Nat.le_trans hsb (by decide)) H0B.out).mono ?_
        rintro e w7 ⟨A4, c4, rfl, hc4, hP, hE⟩
        replace HA := Lib.hid (MapAt.ext HA.out hE); replace HB := Lib.hid (MapAt.ext HB.out hE)
        have HE7 := Lib.hid (HE6.out.trans hE); have HPY := Lib.hid hP; clear hE hP hiN hnl hi
        go_wp2_with fail
        go_loopw [51] (fun vi wr => ∃ i : Nat, vi = .int .i64 i ∧ i ≤ k.length ∧ Ext w7 wr) (fun vi _ => k.length - (intOf vi).toNat)
        case atStart => exact ⟨0, rfl, Nat.zero_le _, Ext.refl _⟩
        case round =>
          obtain ⟨i', rfl, hi, hE⟩ := hrel
          have HES := Lib.hid hE; clear hE
          by_cases hiN : i' = k.length
          · have hnl : ¬ ((i' : Int) < (k.length : Int)) := by omega
            go_wp2_with fail
            have HE8 := Lib.hid (HE7.out.trans HES.out)
            replace HA := Lib.hid (MapAt.ext HA.out HES.out); replace HB := Lib.hid (MapAt.ext HB.out HES.out)
            refine (Join_any HA.out HB.out (Nat.le_trans hsa (by decide)) (Nat.le_trans hsb (by decide)) H0A.out H0B.out).mono ?_
            rintro e w9 ⟨A5, n5, c5, rfl, hJ, hE⟩
            rw [HJO.out] at hJ ⊢
            simp only [if_true, HJE.out] at hJ ⊢
            have HE9 := Lib.hid (HE8.out.trans hE); have HJ := Lib.hid hJ; clear hE hJ
            go_wp2_with fail
            refine (lsame_is (r := true) ((sameB_iff b b).2 rfl) HJ.out (HM.out.ext HE9.out) hs H0.out).mono ?_
            rintro e w10 ⟨rfl, hE⟩
            have HE10 := Lib.hid (HE9.out.trans hE); clear hE
            go_wp2_with fail
            refine (awake_any _).mono ?_
            rintro e w11 ⟨rfl, hE⟩
            have HE11 := Lib.hid (HE10.out.trans hE); clear hE
            go_wp2_with fail
            go_ret
            exact ⟨rfl, HE11.out⟩
          · have hlt : ((i' : Int) < (k.length : Int)) := by omega
            obtain ⟨b', off, p, rfl, hb', hx, hwf, c0, c1'⟩ := (HPY.out.ext HES.out).get (j := i') (by omega)
            have hp1 := HK2.out p (List.mem_of_getElem? hx)
            have q3 : Op.bytesLess p.k.toList key.toList = false := hp1
            obtain ⟨pk, pv⟩ := p
            dsimp only at c0 c1' q3
            have HEN := Lib.hid (HES.out.alloc (Pr.obj ⟨pk, pv⟩))
            clear hx hwf hp1
            go_wp2_with fail
            go_roundw
            case rel => exact ⟨i' + 1, by go_num, by omega, HEN.out⟩
            case measure => simp [intOf]; omega
      · have hlt : ((i : Int) < (l.length : Int)) := by omega
        obtain ⟨b', off, p, rfl, hb', hx, hwf, c0, c1'⟩ := (HPX.out.ext HER.out).get (j := i) (by omega)
        have hp1 := HK1.out p (List.mem_of_getElem? hx)
        have q3 : Op.bytesLess p.k.toList key.toList = true := hp1
        obtain ⟨pk, pv⟩ := p
        dsimp only at c0 c1' q3
        have HEN := Lib.hid (HER.out.alloc (Pr.obj ⟨pk, pv⟩))
        clear hx hwf hp1
        go_wp2_with fail
        go_roundw
        case rel => exact ⟨i + 1, by go_num, by omega, HEN.out⟩
        case measure => simp [intOf]; omega
end Go.Proofs.Ytbjniaihkllmdaa

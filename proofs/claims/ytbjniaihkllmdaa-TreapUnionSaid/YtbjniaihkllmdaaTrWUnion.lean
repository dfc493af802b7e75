/- TreapUnion's walk. -/
import Derived.Test.YtbjniaihkllmdaaTrAwake
import Derived.Test.YtbjniaihkllmdaaTrLawU
namespace Go.Proofs.Ytbjniaihkllmdaa
open Go.RowKit
set_option maxRecDepth 100000
set_option maxHeartbeats 16000000
theorem union_walk {t s r : MT} {A : Option Addr} {n c : Nat} {B : Option Addr} {m d : Nat} {C : Option Addr} {q e : Nat} {key : ByteArray} (w : World) (hm : MapAt w t A n) (hs : MapAt w s B m) (hr : MapAt w r C q) (_ : key.size ≤ Reach) :
    Calls Try.prog 7 #[.slice A n c, .slice B m d, .slice C q e, .string key] w fun e w' => e = .returned (.bool true) ∧ Ext w w' := by
  have HM := Lib.hid hm; have HS := Lib.hid hs; have HR := Lib.hid hr; clear hm hs hr
  cases hz : valB t with
  | false =>
    have HZ := Lib.hid hz; clear hz
    have HE0 := Lib.hid (Ext.refl w)
    go_enter Try.func7, Try.ntmps7
    go_wp2_with fail
    refine (valid_is HZ.out (HM.out.ext HE0.out)).mono ?_
    rintro e w1 ⟨rfl, hE⟩
    have HE1 := Lib.hid (HE0.out.trans hE); clear hE
    go_wp2_with fail
    refine (awake_any _).mono ?_
    rintro e w2 ⟨rfl, hE⟩
    have HE2 := Lib.hid (HE1.out.trans hE); clear hE
    go_wp2_with fail
    go_ret
    exact ⟨rfl, HE2.out⟩
  | true =>
    have HZ := Lib.hid hz
    cases hz2 : valB s with
    | false =>
      have HZ2 := Lib.hid hz2; clear hz hz2
      have HE0 := Lib.hid (Ext.refl w)
      go_enter Try.func7, Try.ntmps7
      go_wp2_with fail
      refine (valid_is HZ.out (HM.out.ext HE0.out)).mono ?_
      rintro e w1 ⟨rfl, hE⟩
      have HE1 := Lib.hid (HE0.out.trans hE); clear hE
      go_wp2_with fail
      refine (valid_is HZ2.out (HS.out.ext HE1.out)).mono ?_
      rintro e w2 ⟨rfl, hE⟩
      have HE2 := Lib.hid (HE1.out.trans hE); clear hE
      go_wp2_with fail
      refine (awake_any _).mono ?_
      rintro e w3 ⟨rfl, hE⟩
      have HE3 := Lib.hid (HE2.out.trans hE); clear hE
      go_wp2_with fail
      go_ret
      exact ⟨rfl, HE3.out⟩
    | true =>
      have HZ2 := Lib.hid hz2
      cases hz3 : valB r with
      | false =>
        have HZ3 := Lib.hid hz3; clear hz hz2 hz3
        have HE0 := Lib.hid (Ext.refl w)
        go_enter Try.func7, Try.ntmps7
        go_wp2_with fail
        refine (valid_is HZ.out (HM.out.ext HE0.out)).mono ?_
        rintro e w1 ⟨rfl, hE⟩
        have HE1 := Lib.hid (HE0.out.trans hE); clear hE
        go_wp2_with fail
        refine (valid_is HZ2.out (HS.out.ext HE1.out)).mono ?_
        rintro e w2 ⟨rfl, hE⟩
        have HE2 := Lib.hid (HE1.out.trans hE); clear hE
        go_wp2_with fail
        refine (valid_is HZ3.out (HR.out.ext HE2.out)).mono ?_
        rintro e w3 ⟨rfl, hE⟩
        have HE3 := Lib.hid (HE2.out.trans hE); clear hE
        go_wp2_with fail
        refine (awake_any _).mono ?_
        rintro e w4 ⟨rfl, hE⟩
        have HE4 := Lib.hid (HE3.out.trans hE); clear hE
        go_wp2_with fail
        go_ret
        exact ⟨rfl, HE4.out⟩
      | true =>
        have HZ3 := Lib.hid hz3
        obtain ⟨a, rfl, hoa, hsa⟩ := val_tree hz
        obtain ⟨b, rfl, hob, hsb⟩ := val_tree hz2
        obtain ⟨f, rfl, hof, hsf⟩ := val_tree hz3
        clear hz hz2 hz3
        have HOA := Lib.hid hoa; have HOB := Lib.hid hob; have HOF := Lib.hid hof; clear hoa hob hof
        obtain ⟨x1, hx1⟩ : ∃ x, min (BT.mt a).size (10 + 1) = x := ⟨_, rfl⟩
        have hxb1 : x1 = min a.size 11 := by rw [← hx1, BT.mt_size]
        have HX1 := Lib.hid hx1; clear hx1
        by_cases g1 : a.size ≤ 10
        case neg =>
          have q1 : ((10 : Int) < (x1 : Int)) := by omega
          clear hxb1
          have HE0 := Lib.hid (Ext.refl w)
          go_enter Try.func7, Try.ntmps7
          go_wp2_with fail
          refine (valid_is HZ.out (HM.out.ext HE0.out)).mono ?_
          rintro e w1 ⟨rfl, hE⟩
          have HE1 := Lib.hid (HE0.out.trans hE); clear hE
          go_wp2_with fail
          refine (valid_is HZ2.out (HS.out.ext HE1.out)).mono ?_
          rintro e w2 ⟨rfl, hE⟩
          have HE2 := Lib.hid (HE1.out.trans hE); clear hE
          go_wp2_with fail
          refine (valid_is HZ3.out (HR.out.ext HE2.out)).mono ?_
          rintro e w3 ⟨rfl, hE⟩
          have HE3 := Lib.hid (HE2.out.trans hE); clear hE
          go_wp2_with fail
          refine (size_is HX1.out (HM.out.ext HE3.out) (by omega)).mono ?_
          rintro e w' ⟨rfl, rfl⟩
          go_wp2_with fail
          refine (awake_any _).mono ?_
          rintro e w4 ⟨rfl, hE⟩
          have HE4 := Lib.hid (HE3.out.trans hE); clear hE
          go_wp2_with fail
          go_ret
          exact ⟨rfl, HE4.out⟩
        have q1 : ¬ ((10 : Int) < (x1 : Int)) := by omega
        clear hxb1
        obtain ⟨x2, hx2⟩ : ∃ x, min (BT.mt b).size (10 + 1) = x := ⟨_, rfl⟩
        have hxb2 : x2 = min b.size 11 := by rw [← hx2, BT.mt_size]
        have HX2 := Lib.hid hx2; clear hx2
        by_cases g2 : b.size ≤ 10
        case neg =>
          have q1 : ((10 : Int) < (x2 : Int)) := by omega
          clear hxb2
          have HE0 := Lib.hid (Ext.refl w)
          go_enter Try.func7, Try.ntmps7
          go_wp2_with fail
          refine (valid_is HZ.out (HM.out.ext HE0.out)).mono ?_
          rintro e w1 ⟨rfl, hE⟩
          have HE1 := Lib.hid (HE0.out.trans hE); clear hE
          go_wp2_with fail
          refine (valid_is HZ2.out (HS.out.ext HE1.out)).mono ?_
          rintro e w2 ⟨rfl, hE⟩
          have HE2 := Lib.hid (HE1.out.trans hE); clear hE
          go_wp2_with fail
          refine (valid_is HZ3.out (HR.out.ext HE2.out)).mono ?_
          rintro e w3 ⟨rfl, hE⟩
          have HE3 := Lib.hid (HE2.out.trans hE); clear hE
          go_wp2_with fail
          refine (size_is HX1.out (HM.out.ext HE3.out) (by omega)).mono ?_
          rintro e w' ⟨rfl, rfl⟩
          go_wp2_with fail
          refine (size_is HX2.out (HS.out.ext HE3.out) (by omega)).mono ?_
          rintro e w' ⟨rfl, rfl⟩
          go_wp2_with fail
          refine (awake_any _).mono ?_
          rintro e w4 ⟨rfl, hE⟩
          have HE4 := Lib.hid (HE3.out.trans hE); clear hE
          go_wp2_with fail
          go_ret
          exact ⟨rfl, HE4.out⟩
        have q2 : ¬ ((10 : Int) < (x2 : Int)) := by omega
        clear hxb2
        obtain ⟨x3, hx3⟩ : ∃ x, min (BT.mt f).size (10 + 1) = x := ⟨_, rfl⟩
        have hxb3 : x3 = min f.size 11 := by rw [← hx3, BT.mt_size]
        have HX3 := Lib.hid hx3; clear hx3
        by_cases g3 : f.size ≤ 10
        case neg =>
          have q1 : ((10 : Int) < (x3 : Int)) := by omega
          clear hxb3
          have HE0 := Lib.hid (Ext.refl w)
          go_enter Try.func7, Try.ntmps7
          go_wp2_with fail
          refine (valid_is HZ.out (HM.out.ext HE0.out)).mono ?_
          rintro e w1 ⟨rfl, hE⟩
          have HE1 := Lib.hid (HE0.out.trans hE); clear hE
          go_wp2_with fail
          refine (valid_is HZ2.out (HS.out.ext HE1.out)).mono ?_
          rintro e w2 ⟨rfl, hE⟩
          have HE2 := Lib.hid (HE1.out.trans hE); clear hE
          go_wp2_with fail
          refine (valid_is HZ3.out (HR.out.ext HE2.out)).mono ?_
          rintro e w3 ⟨rfl, hE⟩
          have HE3 := Lib.hid (HE2.out.trans hE); clear hE
          go_wp2_with fail
          refine (size_is HX1.out (HM.out.ext HE3.out) (by omega)).mono ?_
          rintro e w' ⟨rfl, rfl⟩
          go_wp2_with fail
          refine (size_is HX2.out (HS.out.ext HE3.out) (by omega)).mono ?_
          rintro e w' ⟨rfl, rfl⟩
          go_wp2_with fail
          refine (size_is HX3.out (HR.out.ext HE3.out) (by omega)).mono ?_
          rintro e w' ⟨rfl, rfl⟩
          go_wp2_with fail
          refine (awake_any _).mono ?_
          rintro e w4 ⟨rfl, hE⟩
          have HE4 := Lib.hid (HE3.out.trans hE); clear hE
          go_wp2_with fail
          go_ret
          exact ⟨rfl, HE4.out⟩
        have q3 : ¬ ((10 : Int) < (x3 : Int)) := by omega
        clear hxb3
        by_cases k1 : key.size ≤ 100
        case neg =>
          have q4 : ((100 : Int) < (key.size : Int)) := by omega
          have HE0 := Lib.hid (Ext.refl w)
          go_enter Try.func7, Try.ntmps7
          go_wp2_with fail
          refine (valid_is HZ.out (HM.out.ext HE0.out)).mono ?_
          rintro e w1 ⟨rfl, hE⟩
          have HE1 := Lib.hid (HE0.out.trans hE); clear hE
          go_wp2_with fail
          refine (valid_is HZ2.out (HS.out.ext HE1.out)).mono ?_
          rintro e w2 ⟨rfl, hE⟩
          have HE2 := Lib.hid (HE1.out.trans hE); clear hE
          go_wp2_with fail
          refine (valid_is HZ3.out (HR.out.ext HE2.out)).mono ?_
          rintro e w3 ⟨rfl, hE⟩
          have HE3 := Lib.hid (HE2.out.trans hE); clear hE
          go_wp2_with fail
          refine (size_is HX1.out (HM.out.ext HE3.out) (by omega)).mono ?_
          rintro e w' ⟨rfl, rfl⟩
          go_wp2_with fail
          refine (size_is HX2.out (HS.out.ext HE3.out) (by omega)).mono ?_
          rintro e w' ⟨rfl, rfl⟩
          go_wp2_with fail
          refine (size_is HX3.out (HR.out.ext HE3.out) (by omega)).mono ?_
          rintro e w' ⟨rfl, rfl⟩
          go_wp2_with fail
          refine (awake_any _).mono ?_
          rintro e w4 ⟨rfl, hE⟩
          have HE4 := Lib.hid (HE3.out.trans hE); clear hE
          go_wp2_with fail
          go_ret
          exact ⟨rfl, HE4.out⟩
        have q4 : ¬ ((100 : Int) < (key.size : Int)) := by omega
        have h0 := (chk_ok a).2 HOA.out
        have h1 := (chk_ok b).2 HOB.out
        have h2 := (chk_ok f).2 HOF.out
        have hox := (union_spec HOA.out HOB.out).1
        have hoy := (union_spec HOB.out HOF.out).1
        have has := union_assoc HOA.out HOB.out HOF.out
        have hog := (union_spec hox HOF.out).1
        have hfx := find_union HOA.out HOB.out key
        have hsx : (unionV a b).size ≤ 20 := by have := @union_size a b; omega
        have hsy : (unionV b f).size ≤ 20 := by have := @union_size b f; omega
        have hsg : (unionV (unionV a b) f).size ≤ 30 := by have := @union_size (unionV a b) f; omega
        obtain ⟨x, hx⟩ : ∃ x, unionV a b = x := ⟨_, rfl⟩
        obtain ⟨y, hy⟩ : ∃ y, unionV b f = y := ⟨_, rfl⟩
        rw [hx] at hox has hog hfx hsx hsg
        rw [hy] at hoy has hsy
        obtain ⟨g, hg⟩ : ∃ g, unionV x f = g := ⟨_, rfl⟩
        rw [hg] at has hog hsg
        have hvx := val_mt hox (by omega)
        have hvy := val_mt hoy (by omega)
        have h0x := (chk_ok x).2 hox
        have h0y := (chk_ok y).2 hoy
        have hg0 := (chk_ok g).2 hog
        obtain ⟨fa, hfa⟩ : ∃ v, findV key a = v := ⟨_, rfl⟩
        obtain ⟨fb, hfb⟩ : ∃ v, findV key b = v := ⟨_, rfl⟩
        rw [hfa, hfb] at hfx
        have H0 := Lib.hid h0; have H1 := Lib.hid h1; have H2 := Lib.hid h2; have HXE := Lib.hid hx; have HYE := Lib.hid hy; have HLE := Lib.hid hg; have HRE := Lib.hid has.symm; have HVX := Lib.hid hvx; have HVY := Lib.hid hvy; have H0X := Lib.hid h0x; have H0Y := Lib.hid h0y; have HG0 := Lib.hid hg0; have HFA := Lib.hid hfa; have HFB := Lib.hid hfb; have HFX := Lib.hid hfx
        clear h0 h1 h2 hx hy hg has hvx hvy h0x h0y hg0 hfa hfb hfx hox hoy hog
        cases fb with
        | some v =>
          have HE0 := Lib.hid (Ext.refl w)
          go_enter Try.func7, Try.ntmps7
          go_wp2_with fail
          refine (valid_is HZ.out (HM.out.ext HE0.out)).mono ?_
          rintro e w1 ⟨rfl, hE⟩
          have HE1 := Lib.hid (HE0.out.trans hE); clear hE
          go_wp2_with fail
          refine (valid_is HZ2.out (HS.out.ext HE1.out)).mono ?_
          rintro e w2 ⟨rfl, hE⟩
          have HE2 := Lib.hid (HE1.out.trans hE); clear hE
          go_wp2_with fail
          refine (valid_is HZ3.out (HR.out.ext HE2.out)).mono ?_
          rintro e w3 ⟨rfl, hE⟩
          have HE3 := Lib.hid (HE2.out.trans hE); clear hE
          go_wp2_with fail
          refine (size_is HX1.out (HM.out.ext HE3.out) (by omega)).mono ?_
          rintro e w' ⟨rfl, rfl⟩
          go_wp2_with fail
          refine (size_is HX2.out (HS.out.ext HE3.out) (by omega)).mono ?_
          rintro e w' ⟨rfl, rfl⟩
          go_wp2_with fail
          refine (size_is HX3.out (HR.out.ext HE3.out) (by omega)).mono ?_
          rintro e w' ⟨rfl, rfl⟩
          go_wp2_with fail
          refine (Union_any (a := a) (b := b) (HM.out.ext HE3.out) (HS.out.ext HE3.out) (by omega) (by omega) H0.out H1.out).mono ?_
          rintro e w4 ⟨A1, n1, c1, rfl, hU, hE⟩
          rw [HXE.out] at hU
          have HE4 := Lib.hid (HE3.out.trans hE); have HUX := Lib.hid hU; clear hE hU
          go_wp2_with fail
          refine (Union_any (a := b) (b := f) (HS.out.ext HE4.out) (HR.out.ext HE4.out) (by omega) (by omega) H1.out H2.out).mono ?_
          rintro e w5 ⟨A2, n2, c2, rfl, hU, hE⟩
          rw [HYE.out] at hU
          replace HUX := Lib.hid (MapAt.ext HUX.out hE)
          have HE5 := Lib.hid (HE4.out.trans hE); have HUY := Lib.hid hU; clear hE hU
          go_wp2_with fail
          refine (valid_is HVX.out HUX.out).mono ?_
          rintro e w6 ⟨rfl, hE⟩
          replace HUX := Lib.hid (MapAt.ext HUX.out hE)
          replace HUY := Lib.hid (MapAt.ext HUY.out hE)
          have HE6 := Lib.hid (HE5.out.trans hE); clear hE
          go_wp2_with fail
          refine (valid_is HVY.out HUY.out).mono ?_
          rintro e w7 ⟨rfl, hE⟩
          replace HUX := Lib.hid (MapAt.ext HUX.out hE)
          replace HUY := Lib.hid (MapAt.ext HUY.out hE)
          have HE7 := Lib.hid (HE6.out.trans hE); clear hE
          go_wp2_with fail
          refine (get_any (b := x) (A := A1) (n := n1) (c := c1) (w := w7) key HUX.out (by omega) H0X.out).mono ?_
          rintro e w8 ⟨rfl, hE⟩
          replace HUX := Lib.hid (MapAt.ext HUX.out hE)
          replace HUY := Lib.hid (MapAt.ext HUY.out hE)
          have HE8 := Lib.hid (HE7.out.trans hE); clear hE
          rw [HFX.out]
          dsimp only
          go_wp2_with fail
          refine (get_any (b := b) (A := B) (n := m) (c := d) (w := w8) key (HS.out.ext HE8.out) (by omega) H1.out).mono ?_
          rintro e w9 ⟨rfl, hE⟩
          replace HUX := Lib.hid (MapAt.ext HUX.out hE)
          replace HUY := Lib.hid (MapAt.ext HUY.out hE)
          have HE9 := Lib.hid (HE8.out.trans hE); clear hE
          rw [HFB.out]
          go_wp2_with fail
          refine (Union_any (a := x) (b := f) HUX.out (HR.out.ext HE9.out) (by omega) (by omega) H0X.out H2.out).mono ?_
          rintro e w10 ⟨A3, n3, c3, rfl, hU, hE⟩
          rw [HLE.out] at hU
          replace HUX := Lib.hid (MapAt.ext HUX.out hE)
          replace HUY := Lib.hid (MapAt.ext HUY.out hE)
          have HE10 := Lib.hid (HE9.out.trans hE); have HUL := Lib.hid hU; clear hE hU
          go_wp2_with fail
          refine (Union_any (a := a) (b := y) (HM.out.ext HE10.out) HUY.out (by omega) (by omega) H0.out H0Y.out).mono ?_
          rintro e w11 ⟨A4, n4, c4, rfl, hU, hE⟩
          rw [HRE.out] at hU
          replace HUX := Lib.hid (MapAt.ext HUX.out hE)
          replace HUY := Lib.hid (MapAt.ext HUY.out hE)
          replace HUL := Lib.hid (MapAt.ext HUL.out hE)
          have HE11 := Lib.hid (HE10.out.trans hE); have HUR := Lib.hid hU; clear hE hU
          go_wp2_with fail
          refine (lsame_is (r := true) ((sameB_iff g g).2 rfl) HUL.out HUR.out hsg HG0.out).mono ?_
          rintro e w12 ⟨rfl, hE⟩
          replace HUX := Lib.hid (MapAt.ext HUX.out hE)
          replace HUY := Lib.hid (MapAt.ext HUY.out hE)
          replace HUL := Lib.hid (MapAt.ext HUL.out hE)
          replace HUR := Lib.hid (MapAt.ext HUR.out hE)
          have HE12 := Lib.hid (HE11.out.trans hE); clear hE
          go_wp2_with fail
          refine (lsame_is (r := true) ((sameB_iff g g).2 rfl) HUR.out HUL.out hsg HG0.out).mono ?_
          rintro e w13 ⟨rfl, hE⟩
          replace HUX := Lib.hid (MapAt.ext HUX.out hE)
          replace HUY := Lib.hid (MapAt.ext HUY.out hE)
          replace HUL := Lib.hid (MapAt.ext HUL.out hE)
          replace HUR := Lib.hid (MapAt.ext HUR.out hE)
          have HE13 := Lib.hid (HE12.out.trans hE); clear hE
          go_wp2_with fail
          refine (awake_any _).mono ?_
          rintro e w14 ⟨rfl, hE⟩
          replace HUX := Lib.hid (MapAt.ext HUX.out hE)
          replace HUY := Lib.hid (MapAt.ext HUY.out hE)
          replace HUL := Lib.hid (MapAt.ext HUL.out hE)
          replace HUR := Lib.hid (MapAt.ext HUR.out hE)
          have HE14 := Lib.hid (HE13.out.trans hE); clear hE
          go_wp2_with fail
          go_ret
          exact ⟨rfl, HE14.out⟩
        | none =>
          have HE0 := Lib.hid (Ext.refl w)
          go_enter Try.func7, Try.ntmps7
          go_wp2_with fail
          refine (valid_is HZ.out (HM.out.ext HE0.out)).mono ?_
          rintro e w1 ⟨rfl, hE⟩
          have HE1 := Lib.hid (HE0.out.trans hE); clear hE
          go_wp2_with fail
          refine (valid_is HZ2.out (HS.out.ext HE1.out)).mono ?_
          rintro e w2 ⟨rfl, hE⟩
          have HE2 := Lib.hid (HE1.out.trans hE); clear hE
          go_wp2_with fail
          refine (valid_is HZ3.out (HR.out.ext HE2.out)).mono ?_
          rintro e w3 ⟨rfl, hE⟩
          have HE3 := Lib.hid (HE2.out.trans hE); clear hE
          go_wp2_with fail
          refine (size_is HX1.out (HM.out.ext HE3.out) (by omega)).mono ?_
          rintro e w' ⟨rfl, rfl⟩
          go_wp2_with fail
          refine (size_is HX2.out (HS.out.ext HE3.out) (by omega)).mono ?_
          rintro e w' ⟨rfl, rfl⟩
          go_wp2_with fail
          refine (size_is HX3.out (HR.out.ext HE3.out) (by omega)).mono ?_
          rintro e w' ⟨rfl, rfl⟩
          go_wp2_with fail
          refine (Union_any (a := a) (b := b) (HM.out.ext HE3.out) (HS.out.ext HE3.out) (by omega) (by omega) H0.out H1.out).mono ?_
          rintro e w4 ⟨A1, n1, c1, rfl, hU, hE⟩
          rw [HXE.out] at hU
          have HE4 := Lib.hid (HE3.out.trans hE); have HUX := Lib.hid hU; clear hE hU
          go_wp2_with fail
          refine (Union_any (a := b) (b := f) (HS.out.ext HE4.out) (HR.out.ext HE4.out) (by omega) (by omega) H1.out H2.out).mono ?_
          rintro e w5 ⟨A2, n2, c2, rfl, hU, hE⟩
          rw [HYE.out] at hU
          replace HUX := Lib.hid (MapAt.ext HUX.out hE)
          have HE5 := Lib.hid (HE4.out.trans hE); have HUY := Lib.hid hU; clear hE hU
          go_wp2_with fail
          refine (valid_is HVX.out HUX.out).mono ?_
          rintro e w6 ⟨rfl, hE⟩
          replace HUX := Lib.hid (MapAt.ext HUX.out hE)
          replace HUY := Lib.hid (MapAt.ext HUY.out hE)
          have HE6 := Lib.hid (HE5.out.trans hE); clear hE
          go_wp2_with fail
          refine (valid_is HVY.out HUY.out).mono ?_
          rintro e w7 ⟨rfl, hE⟩
          replace HUX := Lib.hid (MapAt.ext HUX.out hE)
          replace HUY := Lib.hid (MapAt.ext HUY.out hE)
          have HE7 := Lib.hid (HE6.out.trans hE); clear hE
          go_wp2_with fail
          refine (get_any (b := x) (A := A1) (n := n1) (c := c1) (w := w7) key HUX.out (by omega) H0X.out).mono ?_
          rintro e w8 ⟨rfl, hE⟩
          replace HUX := Lib.hid (MapAt.ext HUX.out hE)
          replace HUY := Lib.hid (MapAt.ext HUY.out hE)
          have HE8 := Lib.hid (HE7.out.trans hE); clear hE
          rw [HFX.out]
          dsimp only
          go_wp2_with fail
          refine (get_any (b := b) (A := B) (n := m) (c := d) (w := w8) key (HS.out.ext HE8.out) (by omega) H1.out).mono ?_
          rintro e w9 ⟨rfl, hE⟩
          replace HUX := Lib.hid (MapAt.ext HUX.out hE)
          replace HUY := Lib.hid (MapAt.ext HUY.out hE)
          have HE9 := Lib.hid (HE8.out.trans hE); clear hE
          rw [HFB.out]
          go_wp2_with fail
          refine (get_any (b := a) (A := A) (n := n) (c := c) (w := w9) key (HM.out.ext HE9.out) (by omega) H0.out).mono ?_
          rintro e w10 ⟨rfl, hE⟩
          replace HUX := Lib.hid (MapAt.ext HUX.out hE)
          replace HUY := Lib.hid (MapAt.ext HUY.out hE)
          have HE10 := Lib.hid (HE9.out.trans hE); clear hE
          rw [HFA.out]
          go_wp2_with fail
          refine (Union_any (a := x) (b := f) HUX.out (HR.out.ext HE10.out) (by omega) (by omega) H0X.out H2.out).mono ?_
          rintro e w11 ⟨A3, n3, c3, rfl, hU, hE⟩
          rw [HLE.out] at hU
          replace HUX := Lib.hid (MapAt.ext HUX.out hE)
          replace HUY := Lib.hid (MapAt.ext HUY.out hE)
          have HE11 := Lib.hid (HE10.out.trans hE); have HUL := Lib.hid hU; clear hE hU
          go_wp2_with fail
          refine (Union_any (a := a) (b := y) (HM.out.ext HE11.out) HUY.out (by omega) (by omega) H0.out H0Y.out).mono ?_
          rintro e w12 ⟨A4, n4, c4, rfl, hU, hE⟩
          rw [HRE.out] at hU
          replace HUX := Lib.hid (MapAt.ext HUX.out hE)
          replace HUY := Lib.hid (MapAt.ext HUY.out hE)
          replace HUL := Lib.hid (MapAt.ext HUL.out hE)
          have HE12 := Lib.hid (HE11.out.trans hE); have HUR := Lib.hid hU; clear hE hU
          go_wp2_with fail
          refine (lsame_is (r := true) ((sameB_iff g g).2 rfl) HUL.out HUR.out hsg HG0.out).mono ?_
          rintro e w13 ⟨rfl, hE⟩
          replace HUX := Lib.hid (MapAt.ext HUX.out hE)
          replace HUY := Lib.hid (MapAt.ext HUY.out hE)
          replace HUL := Lib.hid (MapAt.ext HUL.out hE)
          replace HUR := Lib.hid (MapAt.ext HUR.out hE)
          have HE13 := Lib.hid (HE12.out.trans hE); clear hE
          go_wp2_with fail
          refine (lsame_is (r := true) ((sameB_iff g g).2 rfl) HUR.out HUL.out hsg HG0.out).mono ?_
          rintro e w14 ⟨rfl, hE⟩
          replace HUX := Lib.hid (MapAt.ext HUX.out hE)
          replace HUY := Lib.hid (MapAt.ext HUY.out hE)
          replace HUL := Lib.hid (MapAt.ext HUL.out hE)
          replace HUR := Lib.hid (MapAt.ext HUR.out hE)
          have HE14 := Lib.hid (HE13.out.trans hE); clear hE
          go_wp2_with fail
          refine (awake_any _).mono ?_
          rintro e w15 ⟨rfl, hE⟩
          replace HUX := Lib.hid (MapAt.ext HUX.out hE)
          replace HUY := Lib.hid (MapAt.ext HUY.out hE)
          replace HUL := Lib.hid (MapAt.ext HUL.out hE)
          replace HUR := Lib.hid (MapAt.ext HUR.out hE)
          have HE15 := Lib.hid (HE14.out.trans hE); clear hE
          go_wp2_with fail
          go_ret
          exact ⟨rfl, HE15.out⟩
end Go.Proofs.Ytbjniaihkllmdaa

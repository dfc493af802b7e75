/- TreapSets's walk. -/
import Derived.Test.YtbjniaihkllmdaaTrAwake
import Derived.Test.YtbjniaihkllmdaaTrRSets
import Derived.Test.YtbjniaihkllmdaaTrLawP
import Derived.Test.YtbjniaihkllmdaaTrUnion
namespace Go.Proofs.Ytbjniaihkllmdaa
open Go.RowKit
set_option maxRecDepth 100000
set_option maxHeartbeats 16000000
theorem sets_walk {l : List Pr} {A0 : Option Addr} {n0 c0 : Nat} {t s : MT} {A : Option Addr} {n c : Nat} {B : Option Addr} {m d : Nat} (w : World) (_ : n0 ≤ Reach) (hp : Prs w A0 n0 l) (hm : MapAt w t A n) (hs : MapAt w s B m) :
    Calls Try.prog 10 #[.slice A0 n0 c0, .slice A n c, .slice B m d] w fun e w' => e = .returned (.bool true) ∧ Ext w w' := by
  obtain rfl := hp.1
  have HP := Lib.hid hp; have HM := Lib.hid hm; have HS := Lib.hid hs; clear hp hm hs
  by_cases g1 : l.length ≤ 15
  case neg =>
    have q1 : ((15 : Int) < (l.length : Int)) := by omega
    have HE0 := Lib.hid (Ext.refl w)
    go_enter Try.func10, Try.ntmps10
    go_wp2_with fail
    refine (awake_any _).mono ?_
    rintro e w1 ⟨rfl, hE⟩
    have HE1 := Lib.hid (HE0.out.trans hE); clear hE
    go_wp2_with fail
    go_ret
    exact ⟨rfl, HE1.out⟩
  have q1 : ¬ ((15 : Int) < (l.length : Int)) := by omega
  cases hz : valB t with
  | false =>
    have HZ := Lib.hid hz; clear hz
    have HE0 := Lib.hid (Ext.refl w)
    go_enter Try.func10, Try.ntmps10
    go_wp2_with fail
    refine (valid_is HZ.out (HM.out.ext HE0.out)).mono ?_
    rintro e w1 ⟨rfl, hE⟩
    have HE1 := Lib.hid (HE0.out.trans hE); clear hE
    go_wp2_with fail
    refine (awake_any _).mono ?_
    rintro e w2 ⟨rfl, hE⟩
    have HE2 := Lib.hid (HE1.out.trans hE); clear hE
    go_wp2_with fail
    go_ret
    exact ⟨rfl, HE2.out⟩
  | true =>
    cases hz2 : valB s with
    | false =>
      have HZ := Lib.hid hz; have HZ2 := Lib.hid hz2; clear hz hz2
      have HE0 := Lib.hid (Ext.refl w)
      go_enter Try.func10, Try.ntmps10
      go_wp2_with fail
      refine (valid_is HZ.out (HM.out.ext HE0.out)).mono ?_
      rintro e w1 ⟨rfl, hE⟩
      have HE1 := Lib.hid (HE0.out.trans hE); clear hE
      go_wp2_with fail
      refine (valid_is HZ2.out (HS.out.ext HE1.out)).mono ?_
      rintro e w2 ⟨rfl, hE⟩
      have HE2 := Lib.hid (HE1.out.trans hE); clear hE
      go_wp2_with fail
      refine (awake_any _).mono ?_
      rintro e w3 ⟨rfl, hE⟩
      have HE3 := Lib.hid (HE2.out.trans hE); clear hE
      go_wp2_with fail
      go_ret
      exact ⟨rfl, HE3.out⟩
    | true =>
      obtain ⟨a, rfl, hoa, hsa⟩ := val_tree hz
      obtain ⟨b, rfl, hob, hsb⟩ := val_tree hz2
      have HZ := Lib.hid hz; have HZ2 := Lib.hid hz2; have HOA := Lib.hid hoa; have HOB := Lib.hid hob; clear hz hz2 hoa hob
      obtain ⟨x, hx⟩ : ∃ x, min a.mt.size (15 + 1) = x := ⟨_, rfl⟩
      have hxa : x = min a.size 16 := by rw [← hx, BT.mt_size]
      obtain ⟨y, hy⟩ : ∃ y, min b.mt.size (15 + 1) = y := ⟨_, rfl⟩
      have hyb : y = min b.size 16 := by rw [← hy, BT.mt_size]
      have HX := Lib.hid hx; have HY := Lib.hid hy; clear hx hy
      by_cases g2 : a.size ≤ 15
      case neg =>
        have q2 : ((15 : Int) < (x : Int)) := by omega
        clear hxa hyb
        have HE0 := Lib.hid (Ext.refl w)
        go_enter Try.func10, Try.ntmps10
        go_wp2_with fail
        refine (valid_is HZ.out (HM.out.ext HE0.out)).mono ?_
        rintro e w1 ⟨rfl, hE⟩
        have HE1 := Lib.hid (HE0.out.trans hE); clear hE
        go_wp2_with fail
        refine (valid_is HZ2.out (HS.out.ext HE1.out)).mono ?_
        rintro e w2 ⟨rfl, hE⟩
        have HE2 := Lib.hid (HE1.out.trans hE); clear hE
        go_wp2_with fail
        refine (size_is HX.out (HM.out.ext HE2.out) (by omega)).mono ?_
        rintro e w' ⟨rfl, rfl⟩
        go_wp2_with fail
        refine (awake_any _).mono ?_
        rintro e w3 ⟨rfl, hE⟩
        have HE3 := Lib.hid (HE2.out.trans hE); clear hE
        go_wp2_with fail
        go_ret
        exact ⟨rfl, HE3.out⟩
      have q2 : ¬ ((15 : Int) < (x : Int)) := by omega
      by_cases g3 : b.size ≤ 15
      case neg =>
        have q3 : ((15 : Int) < (y : Int)) := by omega
        clear hxa hyb
        have HE0 := Lib.hid (Ext.refl w)
        go_enter Try.func10, Try.ntmps10
        go_wp2_with fail
        refine (valid_is HZ.out (HM.out.ext HE0.out)).mono ?_
        rintro e w1 ⟨rfl, hE⟩
        have HE1 := Lib.hid (HE0.out.trans hE); clear hE
        go_wp2_with fail
        refine (valid_is HZ2.out (HS.out.ext HE1.out)).mono ?_
        rintro e w2 ⟨rfl, hE⟩
        have HE2 := Lib.hid (HE1.out.trans hE); clear hE
        go_wp2_with fail
        refine (size_is HX.out (HM.out.ext HE2.out) (by omega)).mono ?_
        rintro e w' ⟨rfl, rfl⟩
        go_wp2_with fail
        refine (size_is HY.out (HS.out.ext HE2.out) (by omega)).mono ?_
        rintro e w' ⟨rfl, rfl⟩
        go_wp2_with fail
        refine (awake_any _).mono ?_
        rintro e w3 ⟨rfl, hE⟩
        have HE3 := Lib.hid (HE2.out.trans hE); clear hE
        go_wp2_with fail
        go_ret
        exact ⟨rfl, HE3.out⟩
      have q3 : ¬ ((15 : Int) < (y : Int)) := by omega
      clear hxa hyb
      have h0 := (chk_ok a).2 HOA.out
      have h1 := (chk_ok b).2 HOB.out
      obtain ⟨p, hpe⟩ : ∃ p, (ofR l).1 = p := ⟨_, rfl⟩
      obtain ⟨pz, hpz⟩ : ∃ z, (ofR l).2 = z := ⟨_, rfl⟩
      obtain ⟨hop, hsp⟩ := of_good l
      rw [hpe] at hop hsp
      replace hsp : p.size ≤ 30 := by omega
      obtain ⟨j, hj⟩ : ∃ j, (if joinOk (prsV a) (prsV b) = true then joinV a b else BT.leaf) = j := ⟨_, rfl⟩
      obtain ⟨jz, hjz⟩ : ∃ z : Int, (if joinOk (prsV a) (prsV b) = true then (0 : Int) else 9) = z := ⟨_, rfl⟩
      have hoj : OK j := by
        rw [← hj]
        split
        · next h => exact (join_prs HOA.out HOB.out h).2
        · exact ok_leaf
      have hsj : j.size ≤ 30 := by
        rw [← hj]
        split
        · rw [join_size]; omega
        · simp [BT.size]
      obtain ⟨hou, -⟩ := union_spec HOA.out HOB.out
      have hsu := union_size (a := a) (b := b)
      obtain ⟨u, hu⟩ : ∃ u, unionV a b = u := ⟨_, rfl⟩
      rw [hu] at hou hsu
      replace hsu : u.size ≤ 30 := by omega
      have H0 := Lib.hid h0; have H1 := Lib.hid h1; have HOE := Lib.hid hpe; have HOZ := Lib.hid hpz; have HOP := Lib.hid ((chk_ok p).2 hop); have HJE := Lib.hid hj; have HJZ := Lib.hid hjz; have HOJ := Lib.hid ((chk_ok j).2 hoj); have HUE := Lib.hid hu; have HOU := Lib.hid ((chk_ok u).2 hou)
      clear h0 h1 hpe hpz hop hj hjz hoj hu hou
      have HE0 := Lib.hid (Ext.refl w)
      go_enter Try.func10, Try.ntmps10
      go_wp2_with fail
      refine (valid_is HZ.out (HM.out.ext HE0.out)).mono ?_
      rintro e w1 ⟨rfl, hE⟩
      have HE1 := Lib.hid (HE0.out.trans hE); clear hE
      go_wp2_with fail
      refine (valid_is HZ2.out (HS.out.ext HE1.out)).mono ?_
      rintro e w2 ⟨rfl, hE⟩
      have HE2 := Lib.hid (HE1.out.trans hE); clear hE
      go_wp2_with fail
      refine (size_is HX.out (HM.out.ext HE2.out) (by omega)).mono ?_
      rintro e w' ⟨rfl, rfl⟩
      go_wp2_with fail
      refine (size_is HY.out (HS.out.ext HE2.out) (by omega)).mono ?_
      rintro e w' ⟨rfl, rfl⟩
      go_wp2_with fail
      go_loopw [39] (fun vi wr => ∃ i : Nat, vi = .int .i64 i ∧ i ≤ l.length ∧ Ext w wr) (fun vi _ => l.length - (intOf vi).toNat)
      case atStart => exact ⟨0, rfl, Nat.zero_le _, HE2.out⟩
      case round =>
        obtain ⟨i, rfl, hi, hE⟩ := hrel
        have HE3 := Lib.hid hE; clear hE
        by_cases hiN : i = l.length
        · have hnl : ¬ ((i : Int) < (l.length : Int)) := by omega
          go_wp2_with fail
          refine (Of_any (l := l) (A := A0) (c := c0) (w := wr) (HP.out.ext HE3.out) (by omega)).mono ?_
          rintro e w4 ⟨A1, n1, c1, rfl, h1, hE⟩
          rw [HOE.out] at h1
          rw [HOZ.out]
          have HE4 := Lib.hid (HE3.out.trans hE); have HG1 := Lib.hid h1; clear hE h1
          go_wp2_with fail
          refine (rOf_any (l := l) (A := A0) (c := c0) (w := w4) (HP.out.ext HE4.out) (by omega)).mono ?_
          rintro e w5 ⟨A2, n2, c2, rfl, h1, hE⟩
          rw [HOE.out] at h1
          rw [HOZ.out]
          replace HG1 := Lib.hid (MapAt.ext HG1.out hE)
          have HE5 := Lib.hid (HE4.out.trans hE); have HG2 := Lib.hid h1; clear hE h1
          go_wp2_with fail
          refine (lsame_is (r := true) ((sameB_iff p p).2 rfl) HG1.out HG2.out hsp HOP.out).mono ?_
          rintro e w6 ⟨rfl, hE⟩
          replace HG1 := Lib.hid (MapAt.ext HG1.out hE)
          replace HG2 := Lib.hid (MapAt.ext HG2.out hE)
          have HE6 := Lib.hid (HE5.out.trans hE); clear hE
          go_wp2_with fail
          refine (Join_any (a := a) (b := b) (A := A) (n := n) (c := c) (B := B) (m := m) (d := d) (w := w6) (HM.out.ext HE6.out) (HS.out.ext HE6.out) (by omega) (by omega) H0.out H1.out).mono ?_
          rintro e w7 ⟨A3, n3, c3, rfl, h1, hE⟩
          rw [HJE.out] at h1
          rw [HJZ.out]
          have HE7 := Lib.hid (HE6.out.trans hE); have HG3 := Lib.hid h1; clear hE h1
          go_wp2_with fail
          refine (rJoin_any (a := a) (b := b) (A := A) (n := n) (c := c) (B := B) (m := m) (d := d) (w := w7) (HM.out.ext HE7.out) (HS.out.ext HE7.out) (by omega) (by omega) HOA.out HOB.out).mono ?_
          rintro e w8 ⟨A4, n4, c4, rfl, h1, hE⟩
          rw [HJE.out] at h1
          rw [HJZ.out]
          replace HG3 := Lib.hid (MapAt.ext HG3.out hE)
          have HE8 := Lib.hid (HE7.out.trans hE); have HG4 := Lib.hid h1; clear hE h1
          go_wp2_with fail
          refine (lsame_is (r := true) ((sameB_iff j j).2 rfl) HG3.out HG4.out hsj HOJ.out).mono ?_
          rintro e w9 ⟨rfl, hE⟩
          replace HG3 := Lib.hid (MapAt.ext HG3.out hE)
          replace HG4 := Lib.hid (MapAt.ext HG4.out hE)
          have HE9 := Lib.hid (HE8.out.trans hE); clear hE
          go_wp2_with fail
          refine (Union_any (a := a) (b := b) (A := A) (n := n) (c := c) (B := B) (m := m) (d := d) (w := w9) (HM.out.ext HE9.out) (HS.out.ext HE9.out) (by omega) (by omega) H0.out H1.out).mono ?_
          rintro e w10 ⟨A5, n5, c5, rfl, h1, hE⟩
          rw [HUE.out] at h1
          have HE10 := Lib.hid (HE9.out.trans hE); have HG5 := Lib.hid h1; clear hE h1
          go_wp2_with fail
          refine (rUnion_any (a := a) (b := b) (A := A) (n := n) (c := c) (B := B) (m := m) (d := d) (w := w10) (HM.out.ext HE10.out) (HS.out.ext HE10.out) (by omega) (by omega) HOA.out HOB.out).mono ?_
          rintro e w11 ⟨A6, n6, c6, rfl, h1, hE⟩
          rw [HUE.out] at h1
          replace HG5 := Lib.hid (MapAt.ext HG5.out hE)
          have HE11 := Lib.hid (HE10.out.trans hE); have HG6 := Lib.hid h1; clear hE h1
          go_wp2_with fail
          refine (lsame_is (r := true) ((sameB_iff u u).2 rfl) HG5.out HG6.out hsu HOU.out).mono ?_
          rintro e w12 ⟨rfl, hE⟩
          replace HG5 := Lib.hid (MapAt.ext HG5.out hE)
          replace HG6 := Lib.hid (MapAt.ext HG6.out hE)
          have HE12 := Lib.hid (HE11.out.trans hE); clear hE
          go_wp2_with fail
          refine (awake_any _).mono ?_
          rintro e w13 ⟨rfl, hE⟩
          replace HG5 := Lib.hid (MapAt.ext HG5.out hE)
          replace HG6 := Lib.hid (MapAt.ext HG6.out hE)
          have HE13 := Lib.hid (HE12.out.trans hE); clear hE
          go_wp2_with fail
          go_ret
          exact ⟨rfl, HE13.out⟩
        · have hlt : ((i : Int) < (l.length : Int)) := by omega
          obtain ⟨b1, off1, x, rfl, hb1, hx, hwf, r0, r1⟩ := (HP.out.ext HE3.out).get (j := i) (by omega)
          obtain ⟨pk, pv⟩ := x
          dsimp only at r0 r1
          clear hx hwf
          have HE4 := Lib.hid (HE3.out.alloc (Pr.obj ⟨pk, pv⟩))
          by_cases s1 : pk.size ≤ 100
          case neg =>
            have q4 : ((100 : Int) < (pk.size : Int)) := by omega
            go_wp2_with fail
            refine (awake_any _).mono ?_
            rintro e w5 ⟨rfl, hE⟩
            have HE5 := Lib.hid (HE4.out.trans hE); clear hE
            go_wp2_with fail
            go_ret
            exact ⟨rfl, HE5.out⟩
          have q4 : ¬ ((100 : Int) < (pk.size : Int)) := by omega
          by_cases s2 : pv.size ≤ 1100
          case neg =>
            have q5 : ((1100 : Int) < (pv.size : Int)) := by omega
            go_wp2_with fail
            refine (awake_any _).mono ?_
            rintro e w5 ⟨rfl, hE⟩
            have HE5 := Lib.hid (HE4.out.trans hE); clear hE
            go_wp2_with fail
            go_ret
            exact ⟨rfl, HE5.out⟩
          have q5 : ¬ ((1100 : Int) < (pv.size : Int)) := by omega
          go_wp2_with fail
          go_roundw
          case rel => exact ⟨i + 1, by go_num, by omega, HE4.out⟩
          case measure => simp [intOf]; omega
end Go.Proofs.Ytbjniaihkllmdaa

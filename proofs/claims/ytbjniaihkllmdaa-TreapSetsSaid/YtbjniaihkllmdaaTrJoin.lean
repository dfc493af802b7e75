/- Contract: treap.Join. -/
import Derived.Test.YtbjniaihkllmdaaTrProg
namespace Go.Proofs.Ytbjniaihkllmdaa
open Go.RowKit

theorem list_is {b : BT} {A : Option Addr} {n c : Nat} {w : World} {l : List Pr} (hl : prsV b = l) (hb : BAt w b A n) (hs : b.size ≤ 1000) (h0 : chkV b = 0) :
    Calls Try.prog 22 #[.slice A n c] w fun e w' => ∃ B k, e = .returned (.slice B l.length k) ∧ l.length ≤ k ∧ Prs w' B l.length l ∧ Ext w w' := by
  subst hl
  refine (list_any b.mt A n c w hb (by rw [BT.mt_size]; exact hs)).mono ?_
  rintro e w' ⟨hE, v, rfl, ho⟩
  have hv : listV b.mt = prsV b := by rw [listV, if_pos (by rw [chk_mt]; exact h0), BT.tree_mt]
  rw [hv] at ho
  obtain ⟨B, k, rfl, hk, hP⟩ := ownP_prs ho (BAt.sizes hb)
  exact ⟨B, k, rfl, hk, hP, hE⟩
/-- Do the keys of the second list come behind those of the first? -/
def joinOk (k l : List Pr) : Bool := match k.getLast?, l.head? with
  | some x, some y => klt x.k y.k
  | _, _ => true
set_option maxRecDepth 100000
set_option maxHeartbeats 8000000
theorem Join_any {a b : BT} {A : Option Addr} {n c : Nat} {B : Option Addr} {m d : Nat} {w : World} (ha : BAt w a A n) (hb : BAt w b B m) (hsa : a.size ≤ 1000) (hsb : b.size ≤ 1000) (h0 : chkV a = 0) (h1 : chkV b = 0) :
    Calls Try.prog 35 #[.slice A n c, .slice B m d] w (Res (if joinOk (prsV a) (prsV b) = true then joinV a b else .leaf) (if joinOk (prsV a) (prsV b) = true then 0 else 9) w) := by
  have HA := Lib.hid ha; have HB := Lib.hid hb; have H0 := Lib.hid h0; have H1 := Lib.hid h1; clear ha hb h0 h1
  obtain ⟨k, hk⟩ : ∃ k, prsV a = k := ⟨_, rfl⟩
  obtain ⟨l, hl⟩ : ∃ l, prsV b = l := ⟨_, rfl⟩
  have hkl : k.length ≤ 1000 := by rw [← hk, prs_len]; exact hsa
  have hll : l.length ≤ 1000 := by rw [← hl, prs_len]; exact hsb
  rw [hk, hl]
  have HK := Lib.hid hk; have HL := Lib.hid hl; clear hk hl
  have lists : ∀ (Q : Exit → Act → World → Prop), True := fun _ => trivial
  clear lists
  obtain ⟨z, hz⟩ : ∃ z, joinOk k l = z := ⟨_, rfl⟩
  rw [hz]
  have HZ := Lib.hid hz; clear hz
  have fin : ∀ w3, Ext w w3 → Calls Try.prog 59 #[.slice A n c, .slice B m d] w3 (Got (joinV a b) w3) := fun w3 h => join_any _ a b A n c B m d w3 (Nat.lt_succ_self _) (HA.out.ext h) (HB.out.ext h)
  have FIN := Lib.hid fin; clear fin
  obtain ⟨kn, hkn⟩ : ∃ kn, k.length = kn := ⟨_, rfl⟩
  obtain ⟨ln, hln⟩ : ∃ ln, l.length = ln := ⟨_, rfl⟩
  have l1 : ∀ wx, Ext w wx → Calls Try.prog 22 #[.slice A n c] wx fun e w' => ∃ B k', e = .returned (.slice B kn k') ∧ kn ≤ k' ∧ Prs w' B kn k ∧ Ext wx w' := fun wx h => by
    have := list_is (c := c) HK.out (HA.out.ext h) hsa H0.out
    rwa [hkn] at this
  have l2 : ∀ wx, Ext w wx → Calls Try.prog 22 #[.slice B m d] wx fun e w' => ∃ B k', e = .returned (.slice B ln k') ∧ ln ≤ k' ∧ Prs w' B ln l ∧ Ext wx w' := fun wx h => by
    have := list_is (c := d) HL.out (HB.out.ext h) hsb H1.out
    rwa [hln] at this
  have L1 := Lib.hid l1; have L2 := Lib.hid l2; have HKN := Lib.hid hkn; have HLN := Lib.hid hln; clear l1 l2
  rw [hkn] at hkl; rw [hln] at hll; clear hkn hln
  have hgt : ¬ ((20000 : Int) < (kn : Int) + (ln : Int)) := by omega
  have rest : True := trivial
  clear rest
  cases kn with
  | zero =>
    have hz1 : z = true := by
      have : k = [] := List.eq_nil_of_length_eq_zero HKN.out
      rw [← HZ.out, this]; rfl
    subst hz1
    go_enter Try.func35, Try.ntmps35
    go_wp2_with fail
    refine (L1.out w (Ext.refl _)).mono ?_
    rintro e w1 ⟨Ak, ck, rfl, hck, hPk, hE⟩
    have HE := Lib.hid hE; have HP := Lib.hid hPk; clear hE hPk
    go_wp2_with fail
    refine (L2.out w1 HE.out).mono ?_
    rintro e w2 ⟨Al, cl, rfl, hcl, hPl, hE⟩
    have HE2 := Lib.hid (HE.out.trans hE); have HP1 := Lib.hid (HP.out.ext hE); have HP2 := Lib.hid hPl; clear hE hPl HP HE
    go_wp2_with fail
    go_quiet (fail)
    have hE1 : Ext w2 (w2.drewN nq) := (Ext.refl w2).drewN nq
    generalize w2.drewN nq = w3 at hE1 ⊢
    have HE3 := Lib.hid (HE2.out.trans hE1); clear hE1
    go_wp2_with fail
    refine (checkB (HA.out.ext HE3.out) hsa H0.out).mono ?_
    rintro e w4 ⟨rfl, hE⟩
    have HE4 := Lib.hid (HE3.out.trans hE); clear hE HE3
    go_wp2_with fail
    refine (checkB (HB.out.ext HE4.out) hsb H1.out).mono ?_
    rintro e w5 ⟨rfl, hE⟩
    have HE5 := Lib.hid (HE4.out.trans hE); clear hE HE4
    go_wp2_with fail
    refine (FIN.out w5 HE5.out).mono ?_
    rintro e w6 ⟨A1, n1, c1, rfl, hG, hE⟩
    have HE6 := Lib.hid (HE5.out.trans hE); have HG := Lib.hid hG; clear hE HE5 hG
    go_wp2_with fail
    refine bodyPost_ret (v := .tuple #[.slice A1 n1 c1, .int .i64 0]) (by simp [results, Try.results35, go_sem]) rfl ?_
    exact ⟨A1, n1, c1, rfl, HG.out, HE6.out⟩
  | succ kq =>
    cases ln with
    | zero =>
      have hz1 : z = true := by
        have : l = [] := List.eq_nil_of_length_eq_zero HLN.out
        rw [← HZ.out, this]; unfold joinOk; cases k.getLast? <;> rfl
      subst hz1
      go_enter Try.func35, Try.ntmps35
      go_wp2_with fail
      refine (L1.out w (Ext.refl _)).mono ?_
      rintro e w1 ⟨Ak, ck, rfl, hck, hPk, hE⟩
      have HE := Lib.hid hE; have HP := Lib.hid hPk; clear hE hPk
      go_wp2_with fail
      refine (L2.out w1 HE.out).mono ?_
      rintro e w2 ⟨Al, cl, rfl, hcl, hPl, hE⟩
      have HE2 := Lib.hid (HE.out.trans hE); have HP1 := Lib.hid (HP.out.ext hE); have HP2 := Lib.hid hPl; clear hE hPl HP HE
      go_wp2_with fail
      go_quiet (fail)
      have hE1 : Ext w2 (w2.drewN nq) := (Ext.refl w2).drewN nq
      generalize w2.drewN nq = w3 at hE1 ⊢
      have HE3 := Lib.hid (HE2.out.trans hE1); clear hE1
      go_wp2_with fail
      refine (checkB (HA.out.ext HE3.out) hsa H0.out).mono ?_
      rintro e w4 ⟨rfl, hE⟩
      have HE4 := Lib.hid (HE3.out.trans hE); clear hE HE3
      go_wp2_with fail
      refine (checkB (HB.out.ext HE4.out) hsb H1.out).mono ?_
      rintro e w5 ⟨rfl, hE⟩
      have HE5 := Lib.hid (HE4.out.trans hE); clear hE HE4
      go_wp2_with fail
      refine (FIN.out w5 HE5.out).mono ?_
      rintro e w6 ⟨A1, n1, c1, rfl, hG, hE⟩
      have HE6 := Lib.hid (HE5.out.trans hE); have HG := Lib.hid hG; clear hE HE5 hG
      go_wp2_with fail
      refine bodyPost_ret (v := .tuple #[.slice A1 n1 c1, .int .i64 0]) (by simp [results, Try.results35, go_sem]) rfl ?_
      exact ⟨A1, n1, c1, rfl, HG.out, HE6.out⟩
    | succ lq =>
      cases z with
      | false =>
        go_enter Try.func35, Try.ntmps35
        go_wp2_with fail
        refine (L1.out w (Ext.refl _)).mono ?_
        rintro e w1 ⟨Ak, ck, rfl, hck, hPk, hE⟩
        have HE := Lib.hid hE; have HP := Lib.hid hPk; clear hE hPk
        go_wp2_with fail
        refine (L2.out w1 HE.out).mono ?_
        rintro e w2 ⟨Al, cl, rfl, hcl, hPl, hE⟩
        have hP1 := HP.out.ext hE
        have HE2 := Lib.hid (HE.out.trans hE); clear hE HP HE
        obtain ⟨b1, off1, x, rfl, hb1, hx, hwx, c0, -⟩ := hP1.get (j := kq) (by omega)
        obtain ⟨b2, off2, y, rfl, hb2, hy, hwy, c1, -⟩ := hPl.get (j := 0) (by omega)
        simp only [Nat.zero_mul, Nat.add_zero] at c1
        have hq : Op.bytesLess x.k.toList y.k.toList = false := by
          have e1 : k.getLast? = some x := by rw [List.getLast?_eq_getElem?, HKN.out]; exact hx
          have e2 : l.head? = some y := by rw [List.head?_eq_getElem?]; exact hy
          have := HZ.out
          unfold joinOk at this; rw [e1, e2] at this
          exact this
        have i1 : ((kq : Int) + 1 - 1).toNat = kq := by omega
        have i2 : (kq : Int) + 1 - 1 = kq := by omega
        have i3 : ¬ ((kq : Int) < 0) := by omega
        have i4 : ((kq : Int) + 1) > 0 := by omega
        clear hx hy hwx hwy hP1 hPl
        go_wp2_with fail
        go_quiet (fail)
        have hE1 : Ext w2 (w2.drewN nq) := (Ext.refl w2).drewN nq
        generalize w2.drewN nq = w3 at hE1 ⊢
        have HE3 := Lib.hid (HE2.out.trans hE1); clear hE1 c0 c1
        go_wp2_with fail
        refine bodyPost_ret (v := .tuple #[.slice none 0 0, .int .i64 9]) (by simp [results, Try.results35, go_sem]) rfl ?_
        exact ⟨none, 0, 0, rfl, MapAt.nil _ _, HE3.out⟩
      | true =>
        go_enter Try.func35, Try.ntmps35
        go_wp2_with fail
        refine (L1.out w (Ext.refl _)).mono ?_
        rintro e w1 ⟨Ak, ck, rfl, hck, hPk, hE⟩
        have HE := Lib.hid hE; have HP := Lib.hid hPk; clear hE hPk
        go_wp2_with fail
        refine (L2.out w1 HE.out).mono ?_
        rintro e w2 ⟨Al, cl, rfl, hcl, hPl, hE⟩
        have hP1 := HP.out.ext hE
        have HE2 := Lib.hid (HE.out.trans hE); clear hE HP HE
        obtain ⟨b1, off1, x, rfl, hb1, hx, hwx, c0, -⟩ := hP1.get (j := kq) (by omega)
        obtain ⟨b2, off2, y, rfl, hb2, hy, hwy, c1, -⟩ := hPl.get (j := 0) (by omega)
        simp only [Nat.zero_mul, Nat.add_zero] at c1
        have hq : Op.bytesLess x.k.toList y.k.toList = true := by
          have e1 : k.getLast? = some x := by rw [List.getLast?_eq_getElem?, HKN.out]; exact hx
          have e2 : l.head? = some y := by rw [List.head?_eq_getElem?]; exact hy
          have := HZ.out
          unfold joinOk at this; rw [e1, e2] at this
          exact this
        have i1 : ((kq : Int) + 1 - 1).toNat = kq := by omega
        have i2 : (kq : Int) + 1 - 1 = kq := by omega
        have i3 : ¬ ((kq : Int) < 0) := by omega
        have i4 : ((kq : Int) + 1) > 0 := by omega
        clear hx hy hwx hwy hP1 hPl
        go_wp2_with fail
        go_quiet (fail)
        have hE1 : Ext w2 (w2.drewN nq) := (Ext.refl w2).drewN nq
        generalize w2.drewN nq = w3 at hE1 ⊢
        have HE3 := Lib.hid (HE2.out.trans hE1); clear hE1 c0 c1
        go_wp2_with fail
        refine (checkB (HA.out.ext HE3.out) hsa H0.out).mono ?_
        rintro e w4 ⟨rfl, hE⟩
        have HE4 := Lib.hid (HE3.out.trans hE); clear hE HE3
        go_wp2_with fail
        refine (checkB (HB.out.ext HE4.out) hsb H1.out).mono ?_
        rintro e w5 ⟨rfl, hE⟩
        have HE5 := Lib.hid (HE4.out.trans hE); clear hE HE4
        go_wp2_with fail
        refine (FIN.out w5 HE5.out).mono ?_
        rintro e w6 ⟨A1, n1, c1, rfl, hG, hE⟩
        have HE6 := Lib.hid (HE5.out.trans hE); have HG := Lib.hid hG; clear hE HE5 hG
        go_wp2_with fail
        refine bodyPost_ret (v := .tuple #[.slice A1 n1 c1, .int .i64 0]) (by simp [results, Try.results35, go_sem]) rfl ?_
        exact ⟨A1, n1, c1, rfl, HG.out, HE6.out⟩
end Go.Proofs.Ytbjniaihkllmdaa

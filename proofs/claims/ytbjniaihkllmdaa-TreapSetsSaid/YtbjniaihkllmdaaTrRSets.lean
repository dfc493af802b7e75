/- Contracts: the reference's Of, Union, Join. -/
import Derived.Test.YtbjniaihkllmdaaTrLawT
namespace Go.Proofs.Ytbjniaihkllmdaa
open Go.RowKit
set_option maxRecDepth 100000
set_option maxHeartbeats 16000000
theorem rOf_any {l : List Pr} {A : Option Addr} {c : Nat} {w : World} (hp : Prs w A l.length l) (hl : l.length ≤ 100) :
    Calls Try.prog 37 #[.slice A l.length c] w (Res (ofR l).1 (ofR l).2 w) := by
  have hend := of_all l
  have HP := Lib.hid hp; have HEND := Lib.hid hend; clear hp hend
  obtain ⟨N, hN⟩ : ∃ N, l.length = N := ⟨_, rfl⟩
  have HN := Lib.hid hN
  rw [hN] at hl ⊢; clear hN
  have hg : ¬ ((20000 : Int) < (N : Int)) := by omega
  have hEw : Ext w (w.alloc (.cells #[] 34)) := (Ext.refl w).alloc _
  have HEW := Lib.hid hEw; clear hEw
  go_enter Try.func37, Try.ntmps37
  go_wp2_with fail
  go_loopw [4, 5] (fun v4 vi wr => ∃ (i : Nat) (A3 : Option Addr) (c3 : Nat), vi = .int .i64 i ∧ v4 = .slice A3 (allV [] (l.take i)).length c3 ∧ (allV [] (l.take i)).length ≤ c3 ∧ i ≤ N ∧ Ext w wr ∧ Prs wr A3 (allV [] (l.take i)).length (allV [] (l.take i)) ∧ anyLong l = anyLong (l.drop i)) (fun _ vi _ => N - (intOf vi).toNat)
  case atStart => exact ⟨0, _, _, rfl, rfl, Nat.le_refl _, Nat.zero_le _, HEW.out, Prs.nil _ _, rfl⟩
  case round =>
    obtain ⟨i, A3, c3, rfl, rfl, hc3, hi, hE, hP, ha⟩ := hrel
    have HER := Lib.hid hE; have HP3 := Lib.hid hP; have HA := Lib.hid ha; have HC3 := Lib.hid hc3; clear hE hP ha hc3
    obtain ⟨q, hq⟩ : ∃ q, (allV [] (l.take i)).length = q := ⟨_, rfl⟩
    have hP3 := HP3.out; have hc3 := HC3.out
    rw [hq] at hP3 hc3 ⊢
    have hqs : q ≤ i := by have := all_len (l.take i) []; rw [List.length_take, List.length_nil] at this; omega
    have HP4 := Lib.hid hP3; have HQ := Lib.hid hq; have HC4 := Lib.hid hc3; clear hP3 hq HP3 HC3 hc3
    by_cases hiN : i = N
    · have hnl : ¬ ((i : Int) < (N : Int)) := by omega
      have hal : anyLong l = false := by rw [HA.out, List.drop_eq_nil_of_le (by rw [HN.out]; omega)]; rfl
      have hP2 := HP4.out; have hq2 := HQ.out
      rw [List.take_of_length_le (by rw [HN.out]; omega)] at hP2 hq2
      have HP5 := Lib.hid hP2; have HQ2 := Lib.hid hq2; clear hP2 hq2
      rcases HEND.out hal with ⟨hv, hlt⟩ | ⟨m, hv, hs, hh, hpm, hlen⟩
      · have hq3 : q < N := by rw [HQ2.out, HN.out] at hlt; exact hlt
        have q3 : ((q : Int) == (N : Int)) = false := by rw [beq_eq_false_iff_ne]; omega
        have HV := Lib.hid hv; clear hv hlt hal
        go_wp2_with fail
        refine bodyPost_ret (v := .tuple #[.slice none 0 0, .int .i64 6]) (by simp [results, Try.results37, go_sem]) rfl ?_
        rw [HV.out]
        exact ⟨none, 0, 0, rfl, MapAt.nil _ _, HER.out⟩
      · have hq3 : q = N := by rw [HQ2.out, HN.out] at hlen; exact hlen
        subst hq3
        have HV := Lib.hid hv; have HS := Lib.hid hs; have HH := Lib.hid hh; have HPM := Lib.hid hpm; clear hv hlen hal hs hh hpm
        go_wp2_with fail
        refine (rbuild_any m A3 q c3 _ HS.out HH.out (by omega) HC4.out (by rw [HPM.out]; exact HP5.out)).mono ?_
        rintro e w1 ⟨A1, n1, c1, rfl, hG, hE⟩
        have HG := Lib.hid hG; have HE := Lib.hid (HER.out.trans hE); clear hG hE
        go_wp2_with fail
        refine bodyPost_ret (v := .tuple #[.slice A1 n1 c1, .int .i64 0]) (by simp [results, Try.results37, go_sem]) rfl ?_
        rw [HV.out]
        exact ⟨A1, n1, c1, rfl, HG.out, HE.out⟩
    · have hlt : ((i : Int) < (N : Int)) := by omega
      obtain ⟨b1, off1, y, rfl, hb1, hy, hwy, e0, e1⟩ := (HP.out.ext HER.out).get (j := i) (by rw [HN.out]; omega)
      have ha := HA.out
      rw [long_drop hy] at ha
      obtain ⟨yk, yv⟩ := y
      dsimp only at e0 e1 ha
      have hst : allV [] (l.take (i + 1)) = withV (allV [] (l.take i)) ⟨yk, yv⟩ := by unfold allV; rw [List.take_add_one, hy]; simp
      have hwf : ∀ p ∈ allV [] (l.take (i + 1)), p.wf := fun p hp => by
        rw [hst] at hp
        rcases withG_mem _ _ _ hp with rfl | hp
        · exact hwy
        · exact HP4.out.2.1 p hp
      have HY0 := Lib.hid e0; have HY1 := Lib.hid e1
      cases hz : lgB yk yv with
      | true =>
        have hv : ofR l = (.leaf, 4) := by rw [ofR, if_pos (by rw [ha, hz]; rfl)]
        have HV := Lib.hid hv; have HZ := Lib.hid hz; clear hv hz ha hst hwf hy hwy
        go_wp2_with fail
        refine (rlong_any yk yv _).mono ?_
        rintro e w5 ⟨rfl, hE⟩
        rw [HZ.out]
        have HE5 := Lib.hid (HER.out.trans hE); clear hE
        go_wp2_with fail
        refine bodyPost_ret (v := .tuple #[.slice none 0 0, .int .i64 4]) (by simp [results, Try.results37, go_sem]) rfl ?_
        rw [HV.out]
        exact ⟨none, 0, 0, rfl, MapAt.nil _ _, HE5.out⟩
      | false =>
        rw [hz, Bool.false_or] at ha
        have HST := Lib.hid hst; have HWF := Lib.hid hwf; have HZ := Lib.hid hz; have HA2 := Lib.hid ha
        clear hst hwf hy hwy hz ha
        go_wp2_with fail
        refine (rlong_any yk yv _).mono ?_
        rintro e w4 ⟨rfl, hE⟩
        rw [HZ.out]
        have HE4 := Lib.hid (HER.out.trans hE); have HP6 := Lib.hid (HP4.out.ext hE)
        clear e0 e1
        have e0 := hE.cell HY0.out; have e1 := hE.cell HY1.out
        clear hE
        go_wp2_with fail
        refine (rwith_any (l := allV [] (l.take i)) (xk := yk) (xv := yv) (A := A3) (N := q) (c := c3) HP6.out (by omega)).mono ?_
        rintro e w5 ⟨hE, v, rfl, ho⟩
        rw [← HST.out] at ho
        obtain ⟨A5, c5, rfl, hc5, hP5⟩ := ownP_prs ho HWF.out
        have HP5 := Lib.hid hP5; have HE5 := Lib.hid (HE4.out.trans hE); have HC5 := Lib.hid hc5; clear hE ho hP5 e0 e1 hc5
        go_wp2_with fail
        go_roundw
        case rel => exact ⟨i + 1, A5, c5, by go_num, rfl, HC5.out, by omega, HE5.out, HP5.out, HA2.out⟩
        case measure => simp [intOf]; omega
theorem rUnion_any {a b : BT} {A : Option Addr} {n c : Nat} {B : Option Addr} {m d : Nat} {w : World} (ha : BAt w a A n) (hb : BAt w b B m) (hsa : a.size ≤ 100) (hsb : b.size ≤ 100) (hoa : OK a) (hob : OK b) :
    Calls Try.prog 39 #[.slice A n c, .slice B m d] w (Res (unionV a b) 0 w) := by
  have hall := all_union hoa hob
  obtain ⟨hou, -⟩ := union_spec hoa hob
  have hus := union_size (a := a) (b := b)
  have hwfa : ∀ p ∈ prsV a, p.wf := fun p hp => BAt.sizes ha p hp
  obtain ⟨l, hl⟩ : ∃ l, prsV a = l := ⟨_, rfl⟩
  obtain ⟨k, hk⟩ : ∃ k, prsV b = k := ⟨_, rfl⟩
  rw [hl, hk] at hall
  have hll : l.length ≤ 100 := by rw [← hl, prs_len]; exact hsa
  have hkl : k.length ≤ 100 := by rw [← hk, prs_len]; exact hsb
  have HA := Lib.hid ha; have HB := Lib.hid hb; have HOU := Lib.hid hou; have HALL := Lib.hid hall; have HL := Lib.hid hl; have HK := Lib.hid hk
  clear ha hb hoa hob hou hall hl hk hwfa hus
  go_enter Try.func39, Try.ntmps39
  go_wp2_with fail
  refine (rlist_is (l := l) HL.out HA.out (by omega)).mono ?_
  rintro e w1 ⟨A1, c1, rfl, hP, hO, hE⟩
  obtain ⟨_, _, hv, hc1, -⟩ := ownP_prs hO hP.2.1
  cases hv
  have HE1 := Lib.hid hE; have HP1 := Lib.hid hP; have HC1 := Lib.hid hc1; clear hE hP hO hc1
  go_wp2_with fail
  refine (rlist_is (l := k) HK.out (HB.out.ext HE1.out) (by omega)).mono ?_
  rintro e w2 ⟨A2, c2, rfl, hP, -, hE⟩
  have HE2 := Lib.hid (HE1.out.trans hE); have HP2 := Lib.hid hP; replace HP1 := Lib.hid (HP1.out.ext hE); clear hE hP
  go_wp2_with fail
  go_loopw [6, 8] (fun v6 vi wr => ∃ (i : Nat) (A3 : Option Addr) (c3 : Nat), vi = .int .i64 i ∧ v6 = .slice A3 (allV l (k.take i)).length c3 ∧ (allV l (k.take i)).length ≤ c3 ∧ i ≤ k.length ∧ Ext w2 wr ∧ Prs wr A3 (allV l (k.take i)).length (allV l (k.take i))) (fun _ vi _ => k.length - (intOf vi).toNat)
  case atStart => exact ⟨0, A1, c1, rfl, rfl, HC1.out, Nat.zero_le _, Ext.refl _, HP1.out⟩
  case round =>
    obtain ⟨i, A3, c3, rfl, rfl, hc3, hi, hE, hP⟩ := hrel
    have HER := Lib.hid hE; have HP3 := Lib.hid hP; have HC3 := Lib.hid hc3; clear hE hP hc3
    obtain ⟨q, hq⟩ : ∃ q, (allV l (k.take i)).length = q := ⟨_, rfl⟩
    have hP3 := HP3.out; have hc3 := HC3.out
    rw [hq] at hP3 hc3 ⊢
    have hqs : q ≤ 200 := by have := all_len (k.take i) l; rw [List.length_take] at this; omega
    have HP4 := Lib.hid hP3; have HQ := Lib.hid hq; have HC4 := Lib.hid hc3; clear hP3 hq HP3 HC3 hc3
    by_cases hiN : i = k.length
    · have hnl : ¬ ((i : Int) < (k.length : Int)) := by omega
      have hP2 := HP4.out; have hq2 := HQ.out
      rw [List.take_of_length_le (by omega)] at hP2 hq2
      have HP5 := Lib.hid hP2; have HQ2 := Lib.hid hq2; clear hP2 hq2 HP4 HQ
      go_wp2_with fail
      refine (rmade_any (b := unionV a b) (l := allV l k) (A := A3) (N := q) (c := c3) (w := wr) HALL.out HOU.out.1 HOU.out.2.1 (by omega) HC4.out HP5.out).mono ?_
      rintro e w3 ⟨A5, n5, c5, rfl, hG, hE⟩
      have HG := Lib.hid hG; have HE3 := Lib.hid ((HE2.out.trans HER.out).trans hE); clear hG hE
      go_wp2_with fail
      refine bodyPost_ret (v := .tuple #[.slice A5 n5 c5, .int .i64 0]) (by simp [results, Try.results39, go_sem]) rfl ?_
      exact ⟨A5, n5, c5, rfl, HG.out, HE3.out⟩
    · have hlt : ((i : Int) < (k.length : Int)) := by omega
      obtain ⟨b1, off1, y, rfl, hb1, hy, hwy, e0, e1⟩ := (HP2.out.ext HER.out).get (j := i) (by omega)
      obtain ⟨yk, yv⟩ := y
      dsimp only at e0 e1
      have hst : allV l (k.take (i + 1)) = withV (allV l (k.take i)) ⟨yk, yv⟩ := by unfold allV; rw [List.take_add_one, hy]; simp
      have hwf : ∀ p ∈ allV l (k.take (i + 1)), p.wf := fun p hp => by
        rw [hst] at hp
        rcases withG_mem _ _ _ hp with rfl | hp
        · exact hwy
        · exact HP4.out.2.1 p hp
      have HST := Lib.hid hst; have HWF := Lib.hid hwf
      clear hst hwf hy hwy
      go_wp2_with fail
      refine (rwith_any (l := allV l (k.take i)) (xk := yk) (xv := yv) (A := A3) (N := q) (c := c3) HP4.out (by omega)).mono ?_
      rintro e w5 ⟨hE, v, rfl, ho⟩
      rw [← HST.out] at ho
      obtain ⟨A5, c5, rfl, hc5, hP5⟩ := ownP_prs ho HWF.out
      have HP5 := Lib.hid hP5; have HE5 := Lib.hid (HER.out.trans hE); have HC5 := Lib.hid hc5; clear hE ho hP5 e0 e1 hc5
      go_wp2_with fail
      go_roundw
      case rel => exact ⟨i + 1, A5, c5, by go_num, rfl, HC5.out, by omega, HE5.out, HP5.out⟩
      case measure => simp [intOf]; omega
theorem rJoin_any {a b : BT} {A : Option Addr} {n c : Nat} {B : Option Addr} {m d : Nat} {w : World} (ha : BAt w a A n) (hb : BAt w b B m) (hsa : a.size ≤ 100) (hsb : b.size ≤ 100) (hoa : OK a) (hob : OK b) :
    Calls Try.prog 38 #[.slice A n c, .slice B m d] w (Res (if joinOk (prsV a) (prsV b) = true then joinV a b else .leaf) (if joinOk (prsV a) (prsV b) = true then 0 else 9) w) := by
  obtain ⟨inf, i1, i2, i3, i4⟩ := info_of infoP
  have I1 := Lib.hid i1; have I2 := Lib.hid i2; have I3 := Lib.hid i3; have I4 := Lib.hid i4; clear i1 i2 i3 i4
  have hjp := fun h => join_prs (a := a) (b := b) hoa hob h
  have hwa : ∀ p ∈ prsV a, p.wf := fun p hp => BAt.sizes ha p hp
  have hwb : ∀ p ∈ prsV b, p.wf := fun p hp => BAt.sizes hb p hp
  have HA := Lib.hid ha; have HB := Lib.hid hb; clear ha hb
  obtain ⟨k, hk⟩ : ∃ k, prsV a = k := ⟨_, rfl⟩
  obtain ⟨l, hl⟩ : ∃ l, prsV b = l := ⟨_, rfl⟩
  have hkl : k.length ≤ 100 := by rw [← hk, prs_len]; exact hsa
  have hll : l.length ≤ 100 := by rw [← hl, prs_len]; exact hsb
  rw [hk, hl] at hjp ⊢
  rw [hk] at hwa; rw [hl] at hwb
  have HK := Lib.hid hk; have HL := Lib.hid hl; clear hk hl hoa hob
  obtain ⟨z, hz⟩ : ∃ z, joinOk k l = z := ⟨_, rfl⟩
  rw [hz] at hjp ⊢
  have HZ := Lib.hid hz; have HJP := Lib.hid hjp; have HWA := Lib.hid hwa; have HWB := Lib.hid hwb; clear hz hjp hwa hwb
  obtain ⟨kn, hkn⟩ : ∃ kn, k.length = kn := ⟨_, rfl⟩
  obtain ⟨ln, hln⟩ : ∃ ln, l.length = ln := ⟨_, rfl⟩
  have l1 : ∀ wx, Ext w wx → Calls Try.prog 50 #[.slice A n c] wx fun e w' => ∃ B k', e = .returned (.slice B kn k') ∧ Prs w' B kn k ∧ w'.ownsRow wx.heap.size 34 2 (.slice B kn k') kn (k.flatMap Pr.cells) ∧ Ext wx w' := fun wx h => by
    have := rlist_is (c := c) HK.out (HA.out.ext h) (by omega)
    rwa [hkn] at this
  have l2 : ∀ wx, Ext w wx → Calls Try.prog 50 #[.slice B m d] wx fun e w' => ∃ B k', e = .returned (.slice B ln k') ∧ Prs w' B ln l ∧ w'.ownsRow wx.heap.size 34 2 (.slice B ln k') ln (l.flatMap Pr.cells) ∧ Ext wx w' := fun wx h => by
    have := rlist_is (c := d) HL.out (HB.out.ext h) (by omega)
    rwa [hln] at this
  have L1 := Lib.hid l1; have L2 := Lib.hid l2; have HKN := Lib.hid hkn; have HLN := Lib.hid hln; clear l1 l2
  rw [hkn] at hkl; rw [hln] at hll; clear hkn hln
  cases kn with
  | zero =>
    have hz1 : z = true := by
      have : k = [] := List.eq_nil_of_length_eq_zero HKN.out
      rw [← HZ.out, this]; rfl
    subst hz1
    go_enter Try.func38, Try.ntmps38
    go_wp2_with fail
    refine (L1.out w (Ext.refl _)).mono ?_
    rintro e w1 ⟨Ak, ck, rfl, hPk, hO, hE⟩
    have HE := Lib.hid hE; have HP := Lib.hid hPk; have HO := Lib.hid hO; clear hE hPk hO
    go_wp2_with fail
    refine (L2.out w1 HE.out).mono ?_
    rintro e w2 ⟨Al, cl, rfl, hPl, -, hE⟩
    have HE2 := Lib.hid (HE.out.trans hE); have HP1 := Lib.hid (HP.out.ext hE); have HP2 := Lib.hid hPl; have HO2 := Lib.hid (own_stab3 hE HO.out); clear hE hPl HP HE HO
    go_wp2_with fail
    go_quiet (fail)
    have hE1 : Ext w2 (w2.drewN nq) := (Ext.refl w2).drewN nq
    generalize w2.drewN nq = w3 at hE1 ⊢
    have HE3 := Lib.hid (HE2.out.trans hE1); have HP3 := Lib.hid (HP2.out.ext hE1); have HO3 := Lib.hid (own_stab3 hE1 HO2.out); clear hE1
    go_wp2_with (at_builtin; refine wpList_append_size2 rfl (.tmp 34) (.tmp 35) 31 rfl w.heap.size 34 inf _ 2 32 underP I1.out I2.out I3.out I4.out rfl (by decide) _ (0) (k.flatMap Pr.cells) Al (ln) cl (l.flatMap Pr.cells) rfl rfl (by rw [flat_len pr_cells_len, HLN.out]) (one_pr _) (by simp only [maxLen]; omega) (by omega) HO3.out HP3.out.2.2 HE3.out.size ?_; intro v9 w9 hown9 hg9 hb9; have HO9 := Lib.hid hown9; have HG9 := Lib.hid hg9; clear hown9 hg9 hb9)
    obtain ⟨A5, c5, hv5, hc5, hP5⟩ := ownP_prs (l := k ++ l) (by rw [List.flatMap_append]; exact HO9.out) (fun p hp => by
      rcases List.mem_append.1 hp with hp | hp
      · exact HWA.out p hp
      · exact HWB.out p hp)
    subst hv5
    have HP5 := Lib.hid hP5; have HC5 := Lib.hid hc5; clear hP5 hc5
    have HE9 := Lib.hid (Ext.own3 HE3.out HO3.out HG9.out)
    go_wp2_with fail
    refine (rmade_any (b := joinV a b) (l := k ++ l) (A := A5) (N := _) (c := c5) (w := w9) (HJP.out (by simp)).1 (HJP.out (by simp)).2.1 (HJP.out (by simp)).2.2.1 (by omega) HC5.out HP5.out).mono ?_
    rintro e w5 ⟨A6, n6, c6, rfl, hG, hE⟩
    have HG := Lib.hid hG; have HE5 := Lib.hid (HE9.out.trans hE); clear hG hE
    go_wp2_with fail
    refine bodyPost_ret (v := .tuple #[.slice A6 n6 c6, .int .i64 0]) (by simp [results, Try.results38, go_sem]) rfl ?_
    exact ⟨A6, n6, c6, rfl, HG.out, HE5.out⟩
  | succ kq =>
    cases ln with
    | zero =>
      have hz1 : z = true := by
        have : l = [] := List.eq_nil_of_length_eq_zero HLN.out
        rw [← HZ.out, this]; unfold joinOk; cases k.getLast? <;> rfl
      subst hz1
      go_enter Try.func38, Try.ntmps38
      go_wp2_with fail
      refine (L1.out w (Ext.refl _)).mono ?_
      rintro e w1 ⟨Ak, ck, rfl, hPk, hO, hE⟩
      have HE := Lib.hid hE; have HP := Lib.hid hPk; have HO := Lib.hid hO; clear hE hPk hO
      go_wp2_with fail
      refine (L2.out w1 HE.out).mono ?_
      rintro e w2 ⟨Al, cl, rfl, hPl, -, hE⟩
      have HE2 := Lib.hid (HE.out.trans hE); have HP1 := Lib.hid (HP.out.ext hE); have HP2 := Lib.hid hPl; have HO2 := Lib.hid (own_stab3 hE HO.out); clear hE hPl HP HE HO
      go_wp2_with fail
      go_quiet (fail)
      have hE1 : Ext w2 (w2.drewN nq) := (Ext.refl w2).drewN nq
      generalize w2.drewN nq = w3 at hE1 ⊢
      have HE3 := Lib.hid (HE2.out.trans hE1); have HP3 := Lib.hid (HP2.out.ext hE1); have HO3 := Lib.hid (own_stab3 hE1 HO2.out); clear hE1
      go_wp2_with (at_builtin; refine wpList_append_size2 rfl (.tmp 34) (.tmp 35) 31 rfl w.heap.size 34 inf _ 2 32 underP I1.out I2.out I3.out I4.out rfl (by decide) _ (kq + 1) (k.flatMap Pr.cells) Al (0) cl (l.flatMap Pr.cells) rfl rfl (by rw [flat_len pr_cells_len, HLN.out]) (one_pr _) (by simp only [maxLen]; omega) (by omega) HO3.out HP3.out.2.2 HE3.out.size ?_; intro v9 w9 hown9 hg9 hb9; have HO9 := Lib.hid hown9; have HG9 := Lib.hid hg9; clear hown9 hg9 hb9)
      obtain ⟨A5, c5, hv5, hc5, hP5⟩ := ownP_prs (l := k ++ l) (by rw [List.flatMap_append]; exact HO9.out) (fun p hp => by
        rcases List.mem_append.1 hp with hp | hp
        · exact HWA.out p hp
        · exact HWB.out p hp)
      subst hv5
      have HP5 := Lib.hid hP5; have HC5 := Lib.hid hc5; clear hP5 hc5
      have HE9 := Lib.hid (Ext.own3 HE3.out HO3.out HG9.out)
      go_wp2_with fail
      refine (rmade_any (b := joinV a b) (l := k ++ l) (A := A5) (N := _) (c := c5) (w := w9) (HJP.out (by simp)).1 (HJP.out (by simp)).2.1 (HJP.out (by simp)).2.2.1 (by omega) HC5.out HP5.out).mono ?_
      rintro e w5 ⟨A6, n6, c6, rfl, hG, hE⟩
      have HG := Lib.hid hG; have HE5 := Lib.hid (HE9.out.trans hE); clear hG hE
      go_wp2_with fail
      refine bodyPost_ret (v := .tuple #[.slice A6 n6 c6, .int .i64 0]) (by simp [results, Try.results38, go_sem]) rfl ?_
      exact ⟨A6, n6, c6, rfl, HG.out, HE5.out⟩
    | succ lq =>
      cases z with
      | true =>
        go_enter Try.func38, Try.ntmps38
        go_wp2_with fail
        refine (L1.out w (Ext.refl _)).mono ?_
        rintro e w1 ⟨Ak, ck, rfl, hPk, hO, hE⟩
        have HE := Lib.hid hE; have HP := Lib.hid hPk; have HO := Lib.hid hO; clear hE hPk hO
        go_wp2_with fail
        refine (L2.out w1 HE.out).mono ?_
        rintro e w2 ⟨Al, cl, rfl, hPl, -, hE⟩
        have HE2 := Lib.hid (HE.out.trans hE); have HP1 := Lib.hid (HP.out.ext hE); have HP2 := Lib.hid hPl; have HO2 := Lib.hid (own_stab3 hE HO.out); clear hE hPl HP HE HO
        obtain ⟨b1, off1, x, rfl, hb1, hx, hwx, c0, -⟩ := HP1.out.get (j := kq) (by omega)
        obtain ⟨b2, off2, y, rfl, hb2, hy, hwy, c1, -⟩ := HP2.out.get (j := 0) (by omega)
        simp only [Nat.zero_mul, Nat.add_zero] at c1
        have hq : klt x.k y.k = true := by
          have e1 : k.getLast? = some x := by rw [List.getLast?_eq_getElem?, HKN.out]; exact hx
          have e2 : l.head? = some y := by rw [List.head?_eq_getElem?]; exact hy
          have := HZ.out
          unfold joinOk at this; rw [e1, e2] at this
          exact this
        have i1 : ((kq : Int) + 1 - 1).toNat = kq := by omega
        have i2 : (kq : Int) + 1 - 1 = kq := by omega
        have i3 : ¬ ((kq : Int) < 0) := by omega
        have i4 : ((kq : Int) + 1) > 0 := by omega
        have q1 : Op.bytesLess y.k.toList x.k.toList = false := klt_asymm hq
        have q2 := ne_list (klt_ne hq)
        have q3 := ne_list (klt_ne hq).symm
        have q0 : Op.bytesLess x.k.toList y.k.toList = true := hq
        clear hx hy hwx hwy
        go_wp2_with fail
        go_quiet (fail)
        have hE1 : Ext w2 (w2.drewN nq) := (Ext.refl w2).drewN nq
        generalize w2.drewN nq = w3 at hE1 ⊢
        have HE3 := Lib.hid (HE2.out.trans hE1); have HP3 := Lib.hid (HP2.out.ext hE1); have HO3 := Lib.hid (own_stab3 hE1 HO2.out); clear hE1 c0 c1
        go_wp2_with (at_builtin; refine wpList_append_size2 rfl (.tmp 34) (.tmp 35) 31 rfl w.heap.size 34 inf _ 2 32 underP I1.out I2.out I3.out I4.out rfl (by decide) _ (kq + 1) (k.flatMap Pr.cells) (some ⟨b2, off2, none⟩) (lq + 1) cl (l.flatMap Pr.cells) rfl rfl (by rw [flat_len pr_cells_len, HLN.out]) (one_pr _) (by simp only [maxLen]; omega) (by omega) HO3.out HP3.out.2.2 HE3.out.size ?_; intro v9 w9 hown9 hg9 hb9; have HO9 := Lib.hid hown9; have HG9 := Lib.hid hg9; clear hown9 hg9 hb9)
        obtain ⟨A5, c5, hv5, hc5, hP5⟩ := ownP_prs (l := k ++ l) (by rw [List.flatMap_append]; exact HO9.out) (fun p hp => by
          rcases List.mem_append.1 hp with hp | hp
          · exact HWA.out p hp
          · exact HWB.out p hp)
        subst hv5
        have HP5 := Lib.hid hP5; have HC5 := Lib.hid hc5; clear hP5 hc5
        have HE9 := Lib.hid (Ext.own3 HE3.out HO3.out HG9.out)
        go_wp2_with fail
        refine (rmade_any (b := joinV a b) (l := k ++ l) (A := A5) (N := _) (c := c5) (w := w9) (HJP.out (by simp)).1 (HJP.out (by simp)).2.1 (HJP.out (by simp)).2.2.1 (by omega) HC5.out HP5.out).mono ?_
        rintro e w5 ⟨A6, n6, c6, rfl, hG, hE⟩
        have HG := Lib.hid hG; have HE5 := Lib.hid (HE9.out.trans hE); clear hG hE
        go_wp2_with fail
        refine bodyPost_ret (v := .tuple #[.slice A6 n6 c6, .int .i64 0]) (by simp [results, Try.results38, go_sem]) rfl ?_
        exact ⟨A6, n6, c6, rfl, HG.out, HE5.out⟩
      | false =>
        go_enter Try.func38, Try.ntmps38
        go_wp2_with fail
        refine (L1.out w (Ext.refl _)).mono ?_
        rintro e w1 ⟨Ak, ck, rfl, hPk, hO, hE⟩
        have HE := Lib.hid hE; have HP := Lib.hid hPk; have HO := Lib.hid hO; clear hE hPk hO
        go_wp2_with fail
        refine (L2.out w1 HE.out).mono ?_
        rintro e w2 ⟨Al, cl, rfl, hPl, -, hE⟩
        have HE2 := Lib.hid (HE.out.trans hE); have HP1 := Lib.hid (HP.out.ext hE); have HP2 := Lib.hid hPl; have HO2 := Lib.hid (own_stab3 hE HO.out); clear hE hPl HP HE HO
        obtain ⟨b1, off1, x, rfl, hb1, hx, hwx, c0, -⟩ := HP1.out.get (j := kq) (by omega)
        obtain ⟨b2, off2, y, rfl, hb2, hy, hwy, c1, -⟩ := HP2.out.get (j := 0) (by omega)
        simp only [Nat.zero_mul, Nat.add_zero] at c1
        have hq : klt x.k y.k = false := by
          have e1 : k.getLast? = some x := by rw [List.getLast?_eq_getElem?, HKN.out]; exact hx
          have e2 : l.head? = some y := by rw [List.head?_eq_getElem?]; exact hy
          have := HZ.out
          unfold joinOk at this; rw [e1, e2] at this
          exact this
        have i1 : ((kq : Int) + 1 - 1).toNat = kq := by omega
        have i2 : (kq : Int) + 1 - 1 = kq := by omega
        have i3 : ¬ ((kq : Int) < 0) := by omega
        have i4 : ((kq : Int) + 1) > 0 := by omega
        rcases klt_tri x.k y.k with h | h | h
        · rw [hq] at h; cases h
        · obtain ⟨xk, xv⟩ := x
          obtain ⟨yk, yv⟩ := y
          dsimp only at h c0 c1 hq hx hy
          subst h
          have q0 : Op.bytesLess xk.toList xk.toList = false := hq
          clear hx hy hwx hwy
          go_wp2_with fail
          go_quiet (fail)
          have hE1 : Ext w2 (w2.drewN nq) := (Ext.refl w2).drewN nq
          generalize w2.drewN nq = w3 at hE1 ⊢
          have HE3 := Lib.hid (HE2.out.trans hE1); have HP3 := Lib.hid (HP2.out.ext hE1); have HO3 := Lib.hid (own_stab3 hE1 HO2.out); clear hE1 c0 c1
          go_wp2_with fail
          refine bodyPost_ret (v := .tuple #[.slice none 0 0, .int .i64 9]) (by simp [results, Try.results38, go_sem]) rfl ?_
          exact ⟨none, 0, 0, rfl, MapAt.nil _ _, HE3.out⟩
        · have q1 : Op.bytesLess y.k.toList x.k.toList = true := h
          have q2 := ne_list (klt_ne h)
          have q3 := ne_list (klt_ne h).symm
          have q0 : Op.bytesLess x.k.toList y.k.toList = false := hq
          clear hx hy hwx hwy
          go_wp2_with fail
          go_quiet (fail)
          have hE1 : Ext w2 (w2.drewN nq) := (Ext.refl w2).drewN nq
          generalize w2.drewN nq = w3 at hE1 ⊢
          have HE3 := Lib.hid (HE2.out.trans hE1); have HP3 := Lib.hid (HP2.out.ext hE1); have HO3 := Lib.hid (own_stab3 hE1 HO2.out); clear hE1 c0 c1
          go_wp2_with fail
          refine bodyPost_ret (v := .tuple #[.slice none 0 0, .int .i64 9]) (by simp [results, Try.results38, go_sem]) rfl ?_
          exact ⟨none, 0, 0, rfl, MapAt.nil _ _, HE3.out⟩
end Go.Proofs.Ytbjniaihkllmdaa

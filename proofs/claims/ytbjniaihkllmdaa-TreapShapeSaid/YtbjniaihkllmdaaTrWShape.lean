/- TreapShape's walk. -/
import Derived.Test.YtbjniaihkllmdaaTrAwake
import Derived.Test.YtbjniaihkllmdaaTrLawS
import Derived.Test.YtbjniaihkllmdaaTrOpenP
namespace Go.Proofs.Ytbjniaihkllmdaa
open Go.RowKit
theorem own_one2 (w : World) (t : TypeId) (a b : Value) : (w.alloc (.cells #[a, b] t)).ownsRow w.heap.size t 2 (.slice (some ⟨w.heap.size, 0, none⟩) 1 1) 1 [a, b] :=
  ⟨rfl, .inr ⟨w.heap.size, 1, #[a, b], rfl, Nat.le_refl _, heap_alloc_new w _, Nat.le_refl _, by simp [maxLen], rfl, rfl⟩⟩
set_option maxRecDepth 100000
set_option maxHeartbeats 16000000
theorem shape_walk {A : Option Addr} {n c : Nat} {lp : List Pr} {B : Option Addr} {K d : Nat} {os : List Int} (w : World) (_ : n ≤ Reach) (hp : Prs w A n lp) (_ : K ≤ Reach) (hb : Byt w B K os) :
    Calls Try.prog 4 #[.slice A n c, .slice B K d] w fun e w' => e = .returned (.bool true) ∧ Ext w w' := by
  obtain ⟨inf, i1, i2, i3, i4⟩ := info_of infoP
  have I1 := Lib.hid i1; have I2 := Lib.hid i2; have I3 := Lib.hid i3; have I4 := Lib.hid i4; clear i1 i2 i3 i4
  have HPL := Lib.hid hp; have HBY := Lib.hid hb; clear hp hb
  by_cases k1 : n ≤ 15
  case neg =>
    have q1 : ((15 : Int) < (n : Int)) := by omega
    have HE0 := Lib.hid (Ext.refl w)
    go_enter Try.func4, Try.ntmps4
    go_wp2_with fail
    refine (awake_any _).mono ?_
    rintro e w1 ⟨rfl, hE⟩
    have HE1 := Lib.hid (HE0.out.trans hE); clear hE
    go_wp2_with fail
    go_ret
    exact ⟨rfl, HE1.out⟩
  have q1 : ¬ ((15 : Int) < (n : Int)) := by omega
  by_cases k2 : K ≤ 30
  case neg =>
    have q2 : ((30 : Int) < (K : Int)) := by omega
    have HE0 := Lib.hid (Ext.refl w)
    go_enter Try.func4, Try.ntmps4
    go_wp2_with fail
    refine (awake_any _).mono ?_
    rintro e w1 ⟨rfl, hE⟩
    have HE1 := Lib.hid (HE0.out.trans hE); clear hE
    go_wp2_with fail
    go_ret
    exact ⟨rfl, HE1.out⟩
  have q2 : ¬ ((30 : Int) < (K : Int)) := by omega
  by_cases k3 : n = 0
  · subst k3
    have HE0 := Lib.hid (Ext.refl w)
    go_enter Try.func4, Try.ntmps4
    go_wp2_with fail
    refine (awake_any _).mono ?_
    rintro e w1 ⟨rfl, hE⟩
    have HE1 := Lib.hid (HE0.out.trans hE); clear hE
    go_wp2_with fail
    go_ret
    exact ⟨rfl, HE1.out⟩
  have q3 : ((n : Int) == 0) = false := by simpa using k3
  have HEA := Lib.hid (((Ext.refl w).alloc (.cells #[] 34)))
  go_enter Try.func4, Try.ntmps4
  go_wp2_with fail
  go_loopw [5, 6, 34] (fun vm vl vi wr => ∃ (i : Nat) (M : BT) (L : List Pr) (A' : Option Addr) (n' c' : Nat) (B' : Option Addr) (m' k' : Nat), vi = .int .i64 i ∧ vm = .slice A' n' c' ∧ vl = .slice B' m' k' ∧ i ≤ K ∧ Ext w wr ∧ BAt wr M A' n' ∧ Prs wr B' m' L ∧ OKL M L ∧ M.size ≤ i ∧ m' ≤ i) (fun _ _ vi _ => K - (intOf vi).toNat)
  case atStart => exact ⟨0, .leaf, [], none, 0, 0, _, 0, _, rfl, rfl, rfl, Nat.zero_le _, HEA.out, MapAt.nil _ _, Prs.nil _ _, okl_nil, Nat.le_refl _, Nat.le_refl _⟩
  case round =>
    obtain ⟨i, M, L, A', n', c', B', m', k', rfl, rfl, rfl, hi, hE, hM, hL, hok, hms, hls⟩ := hrel
    have HER := Lib.hid hE; have HMM := Lib.hid hM; have HLL := Lib.hid hL; have HOK := Lib.hid hok; have HMS := Lib.hid hms; clear hE hM hL hok hms
    have h0M := (chk_ok M).2 HOK.out.1
    have H0M := Lib.hid h0M; clear h0M
    by_cases hiN : i = K
    · have hnl : ¬ ((i : Int) < (K : Int)) := by omega
      obtain ⟨hend, hlen⟩ := okl_end HOK.out
      have hml : L.length = m' := HLL.out.1
      have HEND := Lib.hid hend; have HOM := Lib.hid HOK.out.1
      have hl2 : (prsV M).length = m' := by rw [hlen, hml]
      have HL2 := Lib.hid hl2; clear hend hlen hl2
      go_wp2_with fail
      subst hml
      refine (Of_any (l := L) HLL.out (by omega)).mono ?_
      rintro e w1 ⟨A2, n2, c2, rfl, hO, hE⟩
      rw [HEND.out] at hO ⊢
      have HE1 := Lib.hid (HER.out.trans hE); have HO := Lib.hid hO; have HM1 := Lib.hid (MapAt.ext HMM.out hE); clear hE hO
      go_wp2_with fail
      refine (lsame_is (r := true) ((sameB_iff M M).2 rfl) HM1.out HO.out (by have := HMS.out; omega) H0M.out).mono ?_
      rintro e w2 ⟨rfl, hE⟩
      have HE2 := Lib.hid (HE1.out.trans hE); have HM2 := Lib.hid (MapAt.ext HM1.out hE); clear hE
      go_wp2_with fail
      refine (list_is (l := prsV M) rfl HM2.out (by have := HMS.out; omega) H0M.out).mono ?_
      rintro e w3 ⟨A3, c3, rfl, hc3, -, hE⟩
      rw [HL2.out]
      have HE3 := Lib.hid (HE2.out.trans hE); clear hE hc3
      go_wp2_with fail
      refine (awake_any _).mono ?_
      rintro e w4 ⟨rfl, hE⟩
      have HE4 := Lib.hid (HE3.out.trans hE); clear hE
      go_wp2_with fail
      go_ret
      exact ⟨rfl, HE4.out⟩
    · have hlt : ((i : Int) < (K : Int)) := by omega
      obtain ⟨b1, off1, x, rfl, hb1, -, hx0, hx1, p0⟩ := (HBY.out.ext HER.out).get (j := i) (by omega)
      obtain ⟨xn, rfl⟩ : ∃ xn : Nat, x = xn := ⟨x.toNat, by omega⟩
      obtain ⟨j, hj⟩ : ∃ j, xn % n = j := ⟨_, rfl⟩
      have hjn : j < n := by rw [← hj]; exact Nat.mod_lt _ (by omega)
      have hrem : Int.tmod (xn : Int) (n : Int) = (j : Int) := by rw [← hj]; exact (Int.ofNat_tmod xn n).symm
      obtain ⟨b2, off2, p, rfl, hb2, -, hwf, r0, r1⟩ := (HPL.out.ext HER.out).get (j := j) hjn
      obtain ⟨pk, pv⟩ := p
      dsimp only at r0 r1
      have HWF := Lib.hid hwf; clear hwf
      by_cases s1 : pk.size ≤ 40
      case neg =>
        have q4 : ((40 : Int) < (pk.size : Int)) := by omega
        have HEB := Lib.hid (HER.out.alloc (Pr.obj ⟨pk, pv⟩))
        go_wp2_with fail
        refine (awake_any _).mono ?_
        rintro e w4 ⟨rfl, hE⟩
        have HE4 := Lib.hid (HEB.out.trans hE); clear hE
        go_wp2_with fail
        go_ret
        exact ⟨rfl, HE4.out⟩
      have q4 : ¬ ((40 : Int) < (pk.size : Int)) := by omega
      by_cases s2 : pv.size ≤ 1000
      case neg =>
        have q5 : ((1000 : Int) < (pv.size : Int)) := by omega
        have HEB := Lib.hid (HER.out.alloc (Pr.obj ⟨pk, pv⟩))
        go_wp2_with fail
        refine (awake_any _).mono ?_
        rintro e w4 ⟨rfl, hE⟩
        have HE4 := Lib.hid (HEB.out.trans hE); clear hE
        go_wp2_with fail
        go_ret
        exact ⟨rfl, HE4.out⟩
      have q5 : ¬ ((1000 : Int) < (pv.size : Int)) := by omega
      have hlg := lg_false s1 s2
      have hstep := okl_step HOK.out ⟨pk, pv⟩ hlg
      have hps := put_size pk pv M
      have hps2 : (putV pk pv M).size ≤ i + 1 := by have := HMS.out; omega
      dsimp only at hstep
      obtain ⟨gx, hgx⟩ : ∃ gx, wr.heap.size = gx := ⟨_, rfl⟩
      have hbx : Blk (wr.alloc (Pr.obj ⟨pk, pv⟩)) gx (Pr.obj ⟨pk, pv⟩) := Blk.new wr _ hgx.symm
      have hEx : Ext wr (wr.alloc (Pr.obj ⟨pk, pv⟩)) := (Ext.refl wr).alloc _
      have HLG := Lib.hid hlg; have HST := Lib.hid hstep; have HPS := Lib.hid hps2; have HBX := Lib.hid hbx; have HEX := Lib.hid hEx
      clear hlg hstep hps hps2 hbx hEx
      go_wp2_with fail
      refine (Put_any (k := pk) (v := pv) (MapAt.ext HMM.out HEX.out) (by have := HMS.out; omega) H0M.out HWF.out.1 HWF.out.2).mono ?_
      rintro e w3 ⟨A2, n2, c2, rfl, hP, hE⟩
      rw [HLG.out] at hP ⊢
      simp only [Bool.false_eq_true, if_false] at hP ⊢
      have hb3 := HBX.out.ext hE
      have z0 := hb3.cell 0; have z1 := hb3.cell 1
      simp only [List.getElem?_toArray, List.getElem?_cons_zero, List.getElem?_cons_succ] at z0 z1
      have HB3 := Lib.hid hb3; have HP3 := Lib.hid hP; have HL3 := Lib.hid (HLL.out.ext (HEX.out.trans hE)); have HE3 := Lib.hid (HER.out.trans (HEX.out.trans hE)); have hgl := hb3.lt
      have hown := own_one2 w3 34 (.string pk) (.string pv)
      have hE34 : Ext w3 (w3.alloc (Pr.obj ⟨pk, pv⟩)) := (Ext.refl w3).alloc _
      have HOW := Lib.hid hown; have HE34 := Lib.hid hE34
      clear hP hE hb3 r0 r1 p0 hown hE34 HMM HEX HBX hgx
      go_wp2_with fail
      clear z0 z1
      go_loopw [12, 73] (fun v12 vi wr2 => ∃ i2 : Nat, vi = .int .i64 i2 ∧ i2 ≤ m' ∧ Ext w3 wr2 ∧ wr2.ownsRow w3.heap.size 34 2 v12 (restL ⟨pk, pv⟩ L i2).length ((restL ⟨pk, pv⟩ L i2).flatMap Pr.cells)) (fun _ vi _ => m' - (intOf vi).toNat)
      case atStart => exact ⟨0, rfl, Nat.zero_le _, HE34.out, HOW.out⟩
      case round =>
        obtain ⟨i2, rfl, hi2, hE, ho⟩ := hrel
        have HE5 := Lib.hid hE; have HO5 := Lib.hid ho; clear hE ho
        have hml : L.length = m' := HL3.out.1
        by_cases hi2N : i2 = m'
        · have hnl2 : ¬ ((i2 : Int) < (m' : Int)) := by omega
          have ho := HO5.out
          rw [rest_end (by omega)] at ho
          have hwf2 : ∀ p ∈ newL ⟨pk, pv⟩ L, p.wf := fun p hp => by
            rw [← rest_end (i := m') (by omega)] at hp
            rcases rest_mem hp with rfl | hp
            · exact HWF.out
            · exact HL3.out.2.1 p hp
          obtain ⟨Aq, cq, hvq, hcq, hPq⟩ := ownP_prs ho hwf2
          have hnl3 := newL_len ⟨pk, pv⟩ L
          have HPQ := Lib.hid hPq; have HNL := Lib.hid hnl3; clear ho hwf2 hPq hcq hnl3
          subst hvq
          go_wp2_with fail
          go_roundw
          case rel => exact ⟨i + 1, _, newL ⟨pk, pv⟩ L, A2, n2, c2, Aq, _, cq, by go_num, rfl, rfl, by omega, HE3.out.trans HE5.out, MapAt.ext HP3.out HE5.out, HPQ.out, HST.out, HPS.out, by have := HNL.out; omega⟩
          case measure => simp [intOf]; omega
        · have hlt2 : ((i2 : Int) < (m' : Int)) := by omega
          obtain ⟨b5, off5, y, rfl, hb5, hy, hwy, r0, r1⟩ := (HL3.out.ext HE5.out).get (j := i2) (by omega)
          obtain ⟨yk, yv⟩ := y
          dsimp only at r0 r1
          have hrs := rest_step (x := ⟨pk, pv⟩) hy
          dsimp only at hrs
          have hbg := HB3.out.ext HE5.out
          have zg : ∀ o, (wr.alloc o).cell? ⟨gx, 0, none⟩ = some (.string pk) := fun o => (hbg.alloc o).cell 0
          have hrl := rest_len ⟨pk, pv⟩ L i2
          have HY := Lib.hid hy; have HRL := Lib.hid hrl
          clear hy hwy hrl hbg
          by_cases hyk : yk = pk
          · rw [if_pos hyk] at hrs
            obtain rfl := hyk
            have HRS := Lib.hid hrs; clear hrs
            have HE6 := Lib.hid (HE5.out.alloc (Pr.obj ⟨yk, yv⟩))
            have HO6 := Lib.hid (own_stab3 ((Ext.refl _).alloc (Pr.obj ⟨yk, yv⟩)) HO5.out)
            go_wp2_with fail
            go_roundw
            case rel => exact ⟨i2 + 1, by go_num, by omega, HE6.out, by rw [HRS.out]; exact HO6.out⟩
            case measure => simp [intOf]; omega
          · rw [if_neg hyk] at hrs
            have q6 := ne_list hyk
            have HRS := Lib.hid hrs; clear hrs hyk
            have hcn : Cells ((wr.alloc (Pr.obj ⟨yk, yv⟩)).alloc (Pr.obj ⟨yk, yv⟩)) (some ⟨wr.heap.size + 1, 0, none⟩) [.string yk, .string yv] := by
              have h := Cells.new (wr.alloc (Pr.obj ⟨yk, yv⟩)) 34 [.string yk, .string yv] rfl
              simpa using h
            have HCN := Lib.hid hcn; clear hcn
            go_wp2_with (at_builtin; refine wpList_append_size2 rfl (.tmp 82) (.tmp 84) 31 rfl w3.heap.size 34 inf _ 2 32 underP I1.out I2.out I3.out I4.out rfl (by decide) _ (restL ⟨pk, pv⟩ L i2).length ((restL ⟨pk, pv⟩ L i2).flatMap Pr.cells) (some ⟨wr.heap.size + 1, 0, none⟩) 1 1 [.string yk, .string yv] rfl (by simp [Act.eval]) rfl (by simp [Value.oneCell']) (by have := HRL.out; simp only [maxLen]; omega) (by have := HRL.out; omega) (own_stab3 (((Ext.refl wr).alloc _).alloc _) HO5.out) HCN.out (by have := HE5.out.size; simp; omega) ?_; intro v9 w9 hown9 hg9 hb9; have HO9 := Lib.hid hown9; have HG9 := Lib.hid hg9; clear hown9 hg9 hb9)
            have HE9 := Lib.hid (((HE5.out.alloc (Pr.obj ⟨yk, yv⟩)).alloc (Pr.obj ⟨yk, yv⟩)).own3 (own_stab3 (((Ext.refl wr).alloc _).alloc _) HO5.out) HG9.out)
            go_roundw
            case rel => exact ⟨i2 + 1, by go_num, by omega, HE9.out, by rw [HRS.out, List.length_append, List.flatMap_append]; exact HO9.out⟩
            case measure => simp [intOf]; omega
end Go.Proofs.Ytbjniaihkllmdaa

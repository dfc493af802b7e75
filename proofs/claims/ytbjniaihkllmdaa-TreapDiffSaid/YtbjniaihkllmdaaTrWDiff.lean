/- TreapDiff's walk. -/
import Derived.Test.YtbjniaihkllmdaaTrAwake
import Derived.Test.YtbjniaihkllmdaaTrLawD
namespace Go.Proofs.Ytbjniaihkllmdaa
open Go.RowKit
set_option maxRecDepth 100000
set_option maxHeartbeats 16000000
theorem diff_walk {t s : MT} {A : Option Addr} {n c : Nat} {B : Option Addr} {m d : Nat} (w : World) (hm : MapAt w t A n) (hs : MapAt w s B m) :
    Calls Try.prog 9 #[.slice A n c, .slice B m d] w fun e w' => e = .returned (.bool true) ∧ Ext w w' := by
  have HM := Lib.hid hm; have HS := Lib.hid hs; clear hm hs
  cases hz : valB t with
  | false =>
    have HZ := Lib.hid hz; clear hz
    have HE0 := Lib.hid (Ext.refl w)
    go_enter Try.func9, Try.ntmps9
    go_wp2_with fail
    refine (valid_is HZ.out (HM.out.ext HE0.out)).mono ?_
    rintro e w1 ⟨rfl, hE⟩
    have HE1 := Lib.hid (HE0.out.trans hE); clear hE
    go_wp2_with fail
    refine (awake_any _).mono ?_
    rintro e w2 ⟨rfl, hE⟩
    have HE2 := Lib.hid (HE1.out.trans hE); clear hE
    go_wp2_with fail
    go_ret
    exact ⟨rfl, HE2.out⟩
  | true =>
    have HZ := Lib.hid hz
    cases hz2 : valB s with
    | false =>
      have HZ2 := Lib.hid hz2; clear hz hz2
      have HE0 := Lib.hid (Ext.refl w)
      go_enter Try.func9, Try.ntmps9
      go_wp2_with fail
      refine (valid_is HZ.out (HM.out.ext HE0.out)).mono ?_
      rintro e w1 ⟨rfl, hE⟩
      have HE1 := Lib.hid (HE0.out.trans hE); clear hE
      go_wp2_with fail
      refine (valid_is HZ2.out (HS.out.ext HE1.out)).mono ?_
      rintro e w2 ⟨rfl, hE⟩
      have HE2 := Lib.hid (HE1.out.trans hE); clear hE
      go_wp2_with fail
      refine (awake_any _).mono ?_
      rintro e w3 ⟨rfl, hE⟩
      have HE3 := Lib.hid (HE2.out.trans hE); clear hE
      go_wp2_with fail
      go_ret
      exact ⟨rfl, HE3.out⟩
    | true =>
      have HZ2 := Lib.hid hz2
      obtain ⟨a, rfl, hoa, hsa⟩ := val_tree hz
      obtain ⟨b, rfl, hob, hsb⟩ := val_tree hz2
      clear hz hz2
      have HOA := Lib.hid hoa; have HOB := Lib.hid hob; clear hoa hob
      obtain ⟨x1, hx1⟩ : ∃ x, min (BT.mt a).size (14 + 1) = x := ⟨_, rfl⟩
      have hxb1 : x1 = min a.size 15 := by rw [← hx1, BT.mt_size]
      have HX1 := Lib.hid hx1; clear hx1
      by_cases g1 : a.size ≤ 14
      case neg =>
        have q1 : ((14 : Int) < (x1 : Int)) := by omega
        clear hxb1
        have HE0 := Lib.hid (Ext.refl w)
        go_enter Try.func9, Try.ntmps9
        go_wp2_with fail
        refine (valid_is HZ.out (HM.out.ext HE0.out)).mono ?_
        rintro e w1 ⟨rfl, hE⟩
        have HE1 := Lib.hid (HE0.out.trans hE); clear hE
        go_wp2_with fail
        refine (valid_is HZ2.out (HS.out.ext HE1.out)).mono ?_
        rintro e w2 ⟨rfl, hE⟩
        have HE2 := Lib.hid (HE1.out.trans hE); clear hE
        go_wp2_with fail
        refine (size_is HX1.out (HM.out.ext HE2.out) (by omega)).mono ?_
        rintro e w' ⟨rfl, rfl⟩
        go_wp2_with fail
        refine (awake_any _).mono ?_
        rintro e w3 ⟨rfl, hE⟩
        have HE3 := Lib.hid (HE2.out.trans hE); clear hE
        go_wp2_with fail
        go_ret
        exact ⟨rfl, HE3.out⟩
      have q1 : ¬ ((14 : Int) < (x1 : Int)) := by omega
      clear hxb1
      obtain ⟨x2, hx2⟩ : ∃ x, min (BT.mt b).size (14 + 1) = x := ⟨_, rfl⟩
      have hxb2 : x2 = min b.size 15 := by rw [← hx2, BT.mt_size]
      have HX2 := Lib.hid hx2; clear hx2
      by_cases g2 : b.size ≤ 14
      case neg =>
        have q1 : ((14 : Int) < (x2 : Int)) := by omega
        clear hxb2
        have HE0 := Lib.hid (Ext.refl w)
        go_enter Try.func9, Try.ntmps9
        go_wp2_with fail
        refine (valid_is HZ.out (HM.out.ext HE0.out)).mono ?_
        rintro e w1 ⟨rfl, hE⟩
        have HE1 := Lib.hid (HE0.out.trans hE); clear hE
        go_wp2_with fail
        refine (valid_is HZ2.out (HS.out.ext HE1.out)).mono ?_
        rintro e w2 ⟨rfl, hE⟩
        have HE2 := Lib.hid (HE1.out.trans hE); clear hE
        go_wp2_with fail
        refine (size_is HX1.out (HM.out.ext HE2.out) (by omega)).mono ?_
        rintro e w' ⟨rfl, rfl⟩
        go_wp2_with fail
        refine (size_is HX2.out (HS.out.ext HE2.out) (by omega)).mono ?_
        rintro e w' ⟨rfl, rfl⟩
        go_wp2_with fail
        refine (awake_any _).mono ?_
        rintro e w3 ⟨rfl, hE⟩
        have HE3 := Lib.hid (HE2.out.trans hE); clear hE
        go_wp2_with fail
        go_ret
        exact ⟨rfl, HE3.out⟩
      have q2 : ¬ ((14 : Int) < (x2 : Int)) := by omega
      clear hxb2
      have h0 := (chk_ok a).2 HOA.out
      have h1 := (chk_ok b).2 HOB.out
      have hsw := diff_swap (prsV a) (prsV b)
      have hself := diff_self (prsV a)
      have hend := steps_end HOA.out HOB.out
      have hlen := diff_len (prsV a) (prsV b)
      rw [prs_len, prs_len] at hlen
      have hstep : ∀ i, i ≤ (diffV (prsV a) (prsV b)).length → OK (((diffV (prsV a) (prsV b)).take i).foldl stepC a) ∧ (((diffV (prsV a) (prsV b)).take i).foldl stepC a).size ≤ 1000 := fun i hi => by
        refine ⟨(steps_spec HOA.out HOB.out i hi).1, ?_⟩
        have := steps_size a ((diffV (prsV a) (prsV b)).take i)
        rw [List.length_take] at this; omega
      have hthere : ∀ (i : Nat) c, (diffV (prsV a) (prsV b))[i]? = some c → c.n = none → findV c.k (((diffV (prsV a) (prsV b)).take i).foldl stepC a) ≠ none := fun i c hc hn => step_there HOA.out HOB.out hc hn
      have hnew : ∀ c ∈ diffV (prsV a) (prsV b), ∀ v, c.n = some v → lgB c.k v = false := fun c hc v hn => by
        obtain ⟨-, d2, -⟩ := diff_spec (prsV a) (prsV b) ((asc_sp a).2 HOA.out.1) ((asc_sp b).2 HOB.out.1)
        obtain ⟨-, e2, -⟩ := d2 c hc
        rw [hn] at e2
        exact HOB.out.2.2 _ ((look_mem HOB.out.1 c.k v).1 e2.symm)
      obtain ⟨D, hD⟩ : ∃ D, diffV (prsV a) (prsV b) = D := ⟨_, rfl⟩
      rw [hD] at hsw hend hlen hstep hthere hnew
      obtain ⟨N, hN⟩ : ∃ N, D.length = N := ⟨_, rfl⟩
      have hNs : (D.map swapC).length = N := by rw [List.length_map]; exact hN
      have hN2 : N ≤ 28 := by omega
      rw [hN] at hstep
      have H0 := Lib.hid h0; have H1 := Lib.hid h1; have HD := Lib.hid hD; have HDS := Lib.hid hsw; have HSELF := Lib.hid hself; have HEND := Lib.hid hend; have HN := Lib.hid hN; have HNS := Lib.hid hNs; have HSTEP := Lib.hid hstep; have HTHERE := Lib.hid hthere; have HNEW := Lib.hid hnew
      clear h0 h1 hD hsw hself hend hN hNs hstep hthere hnew hlen
      have HE0 := Lib.hid (Ext.refl w)
      go_enter Try.func9, Try.ntmps9
      go_wp2_with fail
      refine (valid_is HZ.out (HM.out.ext HE0.out)).mono ?_
      rintro e w1 ⟨rfl, hE⟩
      have HE1 := Lib.hid (HE0.out.trans hE); clear hE
      go_wp2_with fail
      refine (valid_is HZ2.out (HS.out.ext HE1.out)).mono ?_
      rintro e w2 ⟨rfl, hE⟩
      have HE2 := Lib.hid (HE1.out.trans hE); clear hE
      go_wp2_with fail
      refine (size_is HX1.out (HM.out.ext HE2.out) (by omega)).mono ?_
      rintro e w' ⟨rfl, rfl⟩
      go_wp2_with fail
      refine (size_is HX2.out (HS.out.ext HE2.out) (by omega)).mono ?_
      rintro e w' ⟨rfl, rfl⟩
      go_wp2_with fail
      refine (diff_any (a := a) (b := b) (HM.out.ext HE2.out) (HS.out.ext HE2.out) (Nat.le_trans hsa (by decide)) (Nat.le_trans hsb (by decide)) H0.out H1.out).mono ?_
      rintro e w3 ⟨hE, v, rfl, ho⟩
      rw [HD.out, HN.out] at ho
      obtain ⟨A1, c1, rfl, -, hC⟩ := ownC_chgs ho
      have HE3 := Lib.hid (HE2.out.trans hE); have HC1 := Lib.hid hC; clear hE hC ho
      go_wp2_with fail
      refine (diff_any (a := b) (b := a) (HS.out.ext HE3.out) (HM.out.ext HE3.out) (Nat.le_trans hsb (by decide)) (Nat.le_trans hsa (by decide)) H1.out H0.out).mono ?_
      rintro e w4 ⟨hE, v, rfl, ho⟩
      rw [HDS.out, HNS.out] at ho
      obtain ⟨A2, c2, rfl, -, hC⟩ := ownC_chgs ho
      replace HC1 := Lib.hid (Chgs.ext HC1.out hE)
      have HE4 := Lib.hid (HE3.out.trans hE); have HC2 := Lib.hid hC; clear hE hC ho
      go_wp2_with fail
      refine (diff_any (a := a) (b := a) (HM.out.ext HE4.out) (HM.out.ext HE4.out) (Nat.le_trans hsa (by decide)) (Nat.le_trans hsa (by decide)) H0.out H0.out).mono ?_
      rintro e w5 ⟨hE, v, rfl, ho⟩
      rw [HSELF.out] at ho
      obtain ⟨A3, c3, rfl, -, hC⟩ := ownC_chgs ho
      replace HC1 := Lib.hid (Chgs.ext HC1.out hE)
      replace HC2 := Lib.hid (Chgs.ext HC2.out hE)
      have HE5 := Lib.hid (HE4.out.trans hE); have HC3 := Lib.hid hC; clear hE hC ho
      go_wp2_with fail
      go_loopw [7, 53] (fun vm vi wr => ∃ (i : Nat) (A' : Option Addr) (n' c' : Nat), vi = .int .i64 i ∧ vm = .slice A' n' c' ∧ i ≤ N ∧ Ext w5 wr ∧ BAt wr ((D.take i).foldl stepC a) A' n') (fun _ vi _ => N - (intOf vi).toNat)
      case atStart => exact ⟨0, A, n, c, rfl, rfl, Nat.zero_le _, Ext.refl _, HM.out.ext HE5.out⟩
      case round =>
        obtain ⟨i, A', n', c', rfl, rfl, hi, hE, hM⟩ := hrel
        have HER := Lib.hid hE; have HMM := Lib.hid hM; clear hE hM
        by_cases hiN : i = N
        · have hnl : ¬ ((i : Int) < (N : Int)) := by omega
          have hfin := HMM.out
          rw [List.take_of_length_le (by rw [HN.out]; omega), HEND.out] at hfin
          have HFB := Lib.hid hfin; clear hfin
          go_wp2_with fail
          refine (lsame_is (r := true) ((sameB_iff b b).2 rfl) HFB.out (HS.out.ext (HE5.out.trans HER.out)) (Nat.le_trans hsb (by decide)) H1.out).mono ?_
          rintro e w8 ⟨rfl, hE⟩
          have HE8 := Lib.hid ((HE5.out.trans HER.out).trans hE); clear hE
          go_wp2_with fail
          refine (awake_any _).mono ?_
          rintro e w9 ⟨rfl, hE⟩
          have HE9 := Lib.hid (HE8.out.trans hE); clear hE
          go_wp2_with fail
          go_ret
          exact ⟨rfl, HE9.out⟩
        · have hlt : ((i : Int) < (N : Int)) := by omega
          obtain ⟨b1, off1, x, rfl, hb1, hx, p0, p1, p2, p3, p4⟩ := (HC1.out.ext HER.out).get (j := i) (by omega)
          obtain ⟨b2, off2, y, rfl, hb2, hy, r0, r1, r2, r3, r4⟩ := (HC2.out.ext HER.out).get (j := i) (by omega)
          have hyx : y = swapC x := by
            rw [List.getElem?_map, hx] at hy; exact (Option.some.inj hy).symm
          obtain ⟨xk, xo, xn⟩ := x
          subst hyx
          dsimp only [swapC] at p0 p1 p2 p3 p4 r0 r1 r2 r3 r4
          have htk : (D.take (i + 1)).foldl stepC a = stepC ((D.take i).foldl stepC a) ⟨xk, xo, xn⟩ := by
            rw [List.take_add_one, hx]; simp
          have hsp := HSTEP.out i hi
          have hth := HTHERE.out i _ hx
          have hnv := HNEW.out _ (List.mem_of_getElem? hx)
          dsimp only at hth hnv
          obtain ⟨M, hMe⟩ : ∃ M, (D.take i).foldl stepC a = M := ⟨_, rfl⟩
          rw [hMe] at htk hsp hth
          have hmm := HMM.out
          rw [hMe] at hmm
          have HM2 := Lib.hid hmm; have HTK := Lib.hid htk; have HTH := Lib.hid hth; have HNV := Lib.hid hnv; have HSP := Lib.hid hsp
          have hMs : M.size ≤ 1000 := hsp.2
          have h0M := (chk_ok M).2 hsp.1
          have H0M := Lib.hid h0M
          clear hx hy htk hth hnv hmm hsp hMe HMM h0M
          obtain ⟨gx, hgx⟩ : ∃ gx, wr.heap.size = gx := ⟨_, rfl⟩
          obtain ⟨uo, huo⟩ : ∃ u, xo.isSome = u := ⟨_, rfl⟩
          obtain ⟨vo, hvo⟩ : ∃ u, xo.getD nothing = u := ⟨_, rfl⟩
          rw [huo] at p1 r2
          rw [hvo] at p3 r4
          have HUO := Lib.hid huo; have HVO := Lib.hid hvo; clear huo hvo
          cases xn with
          | some nv =>
            dsimp only [Option.isSome, Option.getD] at p2 p4 r1 r3
            have rr0 := fun o => ((Ext.refl wr).alloc o).cell r0
            have rr1 := fun o => ((Ext.refl wr).alloc o).cell r1
            have rr2 := fun o => ((Ext.refl wr).alloc o).cell r2
            have rr3 := fun o => ((Ext.refl wr).alloc o).cell r3
            have rr4 := fun o => ((Ext.refl wr).alloc o).cell r4
            have e1 : Blk ((wr.alloc (chgObj xk uo true vo nv)).alloc (chgObj xk true uo nv vo)) gx (chgObj xk uo true vo nv) := (Blk.new wr _ hgx.symm).alloc _
            have e2 : Blk ((wr.alloc (chgObj xk uo true vo nv)).alloc (chgObj xk true uo nv vo)) (gx + 1) (chgObj xk true uo nv vo) := Blk.new _ _ (by simp [hgx])
            have hEB : Ext wr ((wr.alloc (chgObj xk uo true vo nv)).alloc (chgObj xk true uo nv vo)) := ((Ext.refl wr).alloc _).alloc _
            have z0 := e1.cell 0; have z1 := e1.cell 1; have z2 := e1.cell 2; have z3 := e1.cell 3; have z4 := e1.cell 4
            have y0 := e2.cell 0; have y1 := e2.cell 1; have y2 := e2.cell 2; have y3 := e2.cell 3; have y4 := e2.cell 4
            simp only [List.getElem?_toArray, List.getElem?_cons_zero, List.getElem?_cons_succ] at z0 z1 z2 z3 z4 y0 y1 y2 y3 y4
            have E1 := Lib.hid e1; have HEB := Lib.hid hEB
            clear e1 e2 hEB
            go_wp2_with fail
            refine (Delete_any (b := M) (k := xk) (HM2.out.ext HEB.out) hMs H0M.out).mono ?_
            rintro e wd ⟨A4, n4, c4, rfl, hR, hE⟩
            obtain ⟨zz, hzz⟩ : ∃ zz : Int, (if findV xk M = none then 7 else 0) = zz := ⟨_, rfl⟩
            rw [hzz]
            clear hzz hR z0 z1 z2 z3 z4 y0 y1 y2 y3 y4 p0 p1 p2 p3 p4 r0 r1 r2 r3 r4 rr0 rr1 rr2 rr3 rr4
            have hb3 := E1.out.ext hE
            have z0 := hb3.cell 0; have z1 := hb3.cell 1; have z2 := hb3.cell 2; have z3 := hb3.cell 3; have z4 := hb3.cell 4
            simp only [List.getElem?_toArray, List.getElem?_cons_zero, List.getElem?_cons_succ] at z0 z1 z2 z3 z4
            have HED := Lib.hid (HEB.out.trans hE); clear hE hb3
            go_wp2_with fail
            have hlg := HNV.out nv rfl
            have hls := lg_sizes hlg
            refine (Put_any (b := M) (k := xk) (v := nv) (HM2.out.ext HED.out) hMs H0M.out (Nat.le_trans hls.1 (by decide)) (Nat.le_trans hls.2 (by decide))).mono ?_
            rintro e we ⟨A5, n5, c5, rfl, hR, hE⟩
            rw [hlg] at hR ⊢
            simp only [Bool.false_eq_true, if_false] at hR ⊢
            have HRR := Lib.hid hR; have HEE := Lib.hid (HER.out.trans (HED.out.trans hE)); clear hR hE hlg hls z0 z1 z2 z3 z4
            go_wp2_with fail
            go_roundw
            case rel => exact ⟨i + 1, A5, n5, c5, by go_num, rfl, by omega, HEE.out, by rw [HTK.out]; exact HRR.out⟩
            case measure => simp [intOf]; omega
          | none =>
            dsimp only [Option.isSome, Option.getD] at p2 p4 r1 r3
            have rr0 := fun o => ((Ext.refl wr).alloc o).cell r0
            have rr1 := fun o => ((Ext.refl wr).alloc o).cell r1
            have rr2 := fun o => ((Ext.refl wr).alloc o).cell r2
            have rr3 := fun o => ((Ext.refl wr).alloc o).cell r3
            have rr4 := fun o => ((Ext.refl wr).alloc o).cell r4
            have e1 : Blk ((wr.alloc (chgObj xk uo false vo nothing)).alloc (chgObj xk false uo nothing vo)) gx (chgObj xk uo false vo nothing) := (Blk.new wr _ hgx.symm).alloc _
            have e2 : Blk ((wr.alloc (chgObj xk uo false vo nothing)).alloc (chgObj xk false uo nothing vo)) (gx + 1) (chgObj xk false uo nothing vo) := Blk.new _ _ (by simp [hgx])
            have hEB : Ext wr ((wr.alloc (chgObj xk uo false vo nothing)).alloc (chgObj xk false uo nothing vo)) := ((Ext.refl wr).alloc _).alloc _
            have z0 := e1.cell 0; have z1 := e1.cell 1; have z2 := e1.cell 2; have z3 := e1.cell 3; have z4 := e1.cell 4
            have y0 := e2.cell 0; have y1 := e2.cell 1; have y2 := e2.cell 2; have y3 := e2.cell 3; have y4 := e2.cell 4
            simp only [List.getElem?_toArray, List.getElem?_cons_zero, List.getElem?_cons_succ] at z0 z1 z2 z3 z4 y0 y1 y2 y3 y4
            have E1 := Lib.hid e1; have HEB := Lib.hid hEB
            clear e1 e2 hEB
            go_wp2_with fail
            refine (Delete_any (b := M) (k := xk) (HM2.out.ext HEB.out) hMs H0M.out).mono ?_
            rintro e wd ⟨A4, n4, c4, rfl, hR, hE⟩
            rw [if_neg (HTH.out (by trivial))] at hR ⊢
            clear z0 z1 z2 z3 z4 y0 y1 y2 y3 y4 p0 p1 p2 p3 p4 r0 r1 r2 r3 r4 rr0 rr1 rr2 rr3 rr4
            have hb3 := E1.out.ext hE
            have z0 := hb3.cell 0; have z1 := hb3.cell 1; have z2 := hb3.cell 2; have z3 := hb3.cell 3; have z4 := hb3.cell 4
            simp only [List.getElem?_toArray, List.getElem?_cons_zero, List.getElem?_cons_succ] at z0 z1 z2 z3 z4
            have HRR := Lib.hid hR; have HEE := Lib.hid (HER.out.trans (HEB.out.trans hE)); clear hR hE hb3
            go_wp2_with fail
            go_roundw
            case rel => exact ⟨i + 1, A4, n4, c4, by go_num, rfl, by omega, HEE.out, by rw [HTK.out]; exact HRR.out⟩
            case measure => simp [intOf]; omega
end Go.Proofs.Ytbjniaihkllmdaa

/- TopForgery, walked. No condition. -/
import Derived.Test.YtmmcjcaccicheaaTfFin
import Derived.Test.YtmmcjcaccicheaaTfOpen
namespace Go.Proofs.Ytmmcjcaccicheaa
open Go.RowKit
theorem rem_fin : ∀ n : Fin 256, wrap64 (n.val : Int) % 4 = ((n.val % 4 : Nat) : Int) := by decide +kernel
theorem rem_byte (x : UInt8) : wrap64 (ub x) % 4 = ((x.toNat % 4 : Nat) : Int) := rem_fin ⟨x.toNat, x.toNat_lt⟩
theorem remt_fin : ∀ n : Fin 256, Int.tmod (wrap64 (n.val : Int)) 4 = ((n.val % 4 : Nat) : Int) := by decide +kernel
theorem remt_byte (x : UInt8) : Int.tmod (wrap64 (ub x)) 4 = ((x.toNat % 4 : Nat) : Int) := remt_fin ⟨x.toNat, x.toNat_lt⟩
set_option maxRecDepth 100000 in
set_option maxHeartbeats 16000000 in
theorem forgery_walk (sd a b : Bs) (x : UInt8) (i : Int) (A : Option Addr) (n c : Nat) (l : List Bs) (A' : Option Addr) (n' c' : Nat) (l' : List Bs) (A'' : Option Addr) (n'' c'' : Nat) (l'' : List Bs) (w : World)
    (hn : l.length = n) (hs : DgS w (.slice A n c) l) (hn' : l'.length = n') (hs' : DgS w (.slice A' n' c') l') (hn'' : l''.length = n'') (hs'' : DgS w (.slice A'' n'' c'') l'') :
    Calls Try.prog 3 #[.string (bst sd), bv x, .agg #[.string (bst a), .string (bst b)], .agg (sgc i (.slice A n c) (.slice A' n' c') (.slice A'' n'' c''))] w fun e w' => e = .returned (.bool true) ∧ Ext w w' := by
  obtain ⟨W1, hW1⟩ : ∃ W, (w.alloc (.cells #[.string (bst a), .string (bst b)] 22)).alloc (.cells (sgc i (.slice A n c) (.slice A' n' c') (.slice A'' n'' c'')) 25) = W := ⟨_, rfl⟩
  obtain ⟨g6, hg6⟩ : ∃ g, w.heap.size = g := ⟨_, rfl⟩
  have b6 : Blk W1 g6 (.cells #[.string (bst a), .string (bst b)] 22 (0, 0)) := by rw [← hW1]; exact (Blk.new w _ hg6.symm).alloc _
  have b7 : Blk W1 (g6 + 1) (.cells (sgc i (.slice A n c) (.slice A' n' c') (.slice A'' n'' c'')) 25 (0, 0)) := by rw [← hW1]; exact Blk.new _ _ (by rw [World.size_alloc, hg6])
  have e1 : Ext w W1 := by rw [← hW1]; exact ((Ext.refl w).alloc _).alloc _
  have B6 := Lib.hid b6; have B7 := Lib.hid b7; have E1 := Lib.hid e1
  clear b6 b7 e1
  unfold bv
  go_enter Try.func3, Try.ntmps3
  go_wp2_with fail
  clear hW1 hg6
  refine wp_region_text (fun W => Ext W1 W) [0, 1, 2, 3, 4, 5] (by kernel_rfl) (Stab.ext _) (Ext.refl W1).drew (by kernel_rfl) (fun _ d _ _ _ h => by cases d <;> exact h) ?_
  iterate 6
    refine wpTk_want rfl (Eq.refl true) ?_
    apply Exists.intro
    refine ⟨fun wx hx => ?_, ?_⟩
    · have c0 := (B6.out.ext hx).cell 0
      have c1 := (B6.out.ext hx).cell 1
      clear hx
      go_simp
      with_reducible first | exact gives_ok _ _ _
    simp only [Act.put, List.setIfInBounds_toArray, List.set_cons_zero, List.set_cons_succ]
  refine wpTk_nil ?_
  intro w2 hE2
  have D7 := Lib.hid (B7.out.ext hE2); have E2 := Lib.hid (E1.out.trans hE2)
  clear hE2 B6 B7 E1
  by_cases h1 : (200 : Int) < sd.length
  · skip
    go_wp2_with fail
    refine (awake_is _).mono ?_
    rintro e wz ⟨rfl, hEz⟩
    go_wp2_with fail
    go_ret
    exact ⟨rfl, E2.out.trans hEz⟩
  by_cases h2 : (200 : Int) < a.length
  · skip
    go_wp2_with fail
    refine (awake_is _).mono ?_
    rintro e wz ⟨rfl, hEz⟩
    go_wp2_with fail
    go_ret
    exact ⟨rfl, E2.out.trans hEz⟩
  by_cases h3 : (200 : Int) < b.length
  · skip
    go_wp2_with fail
    refine (awake_is _).mono ?_
    rintro e wz ⟨rfl, hEz⟩
    go_wp2_with fail
    go_ret
    exact ⟨rfl, E2.out.trans hEz⟩
  have c0 := D7.out.cell 0; have c1 := D7.out.cell 1; have c2 := D7.out.cell 2; have c3 := D7.out.cell 3
  go_wp2_with fail
  refine (rgreat_is i A A' A'' n c n' c' n'' c'' _).mono ?_
  rintro e w3 ⟨rfl, hE3⟩
  clear c0 c1 c2 c3
  cases hgv : greatV n n' n'' with
  | true =>
    go_wp2_with fail
    refine (awake_is _).mono ?_
    rintro e wz ⟨rfl, hEz⟩
    go_wp2_with fail
    go_ret
    exact ⟨rfl, (E2.out.trans hE3).trans hEz⟩
  | false =>
  clear hgv
  have D3 := Lib.hid (D7.out.ext hE3); have E3 := Lib.hid (E2.out.trans hE3)
  clear hE3 D7 E2
  have r1 := rem_byte x; have r2 := remt_byte x
  obtain ⟨kk, hkk⟩ : ∃ k, x.toNat % 4 = k := ⟨_, rfl⟩
  have hk4 : kk < 4 := by rw [← hkk]; exact Nat.mod_lt _ (by omega)
  rw [hkk] at r1 r2
  go_wp2_with fail
  refine (lsign_is sd (by omega) kk hk4 a (by omega) _).mono ?_
  rintro e w4 ⟨vR, vO, vP, rfl, hR, hO, hP, hE4⟩
  clear r1 r2 hkk
  obtain ⟨hRg, hRo, hRc, rfl, -⟩ := hR.at (by intro e; have := congrArg List.length e; rw [(sign_wf sd kk a).1] at this; cases this)
  obtain ⟨hOg, hOo, hOc, rfl, hOcells⟩ := hO.at (by intro e; have := congrArg List.length e; rw [(sign_wf sd kk a).2.1] at this; cases this)
  obtain ⟨hPg, hPo, hPc, rfl, -⟩ := hP.at (by intro e; have := congrArg List.length e; rw [(sign_wf sd kk a).2.2.1] at this; cases this)
  rw [(sign_wf sd kk a).1] at hR ⊢; rw [(sign_wf sd kk a).2.1] at hO ⊢; rw [(sign_wf sd kk a).2.2.1] at hP ⊢
  obtain ⟨W5, hW5⟩ : ∃ W, w4.alloc (.cells (sgc kk (.slice (some ⟨hRg, hRo, none⟩) 128 hRc) (.slice (some ⟨hOg, hOo, none⟩) 128 hOc) (.slice (some ⟨hPg, hPo, none⟩) 2 hPc)) 25) = W := ⟨_, rfl⟩
  obtain ⟨g12, hg12⟩ : ∃ g, w4.heap.size = g := ⟨_, rfl⟩
  have b12 : Blk W5 g12 (.cells (sgc kk (.slice (some ⟨hRg, hRo, none⟩) 128 hRc) (.slice (some ⟨hOg, hOo, none⟩) 128 hOc) (.slice (some ⟨hPg, hPo, none⟩) 2 hPc)) 25 (0, 0)) := by rw [← hW5]; exact Blk.new _ _ hg12.symm
  have x5 : Ext w4 W5 := by rw [← hW5]; exact (Ext.refl w4).alloc _
  have B12 := Lib.hid b12; have D5 := Lib.hid ((D3.out.ext hE4).ext x5); have E5 := Lib.hid ((E3.out.trans hE4).trans x5)
  have HR := Lib.hid (hR.ext x5); have HO := Lib.hid (hO.ext x5); have HP := Lib.hid (hP.ext x5)
  have HOC := Lib.hid (fun j y hj => x5.cell (hOcells j y hj))
  clear b12 x5 hE4 hR hO hP hOcells D3 E3
  have HW5 := Lib.hid hW5; clear hW5
  go_wp2_with fail
  have hW5' := HW5.out
  rw [hW5']
  refine (check_is kk _ _ _ _ _ _ _ _ _ _).mono ?_
  rintro e w6 ⟨rfl, hE6⟩
  rw [checkV_of (i := (kk : Int)) (Int.natCast_nonneg _) (by omega) rfl rfl rfl]
  clear hW5' HW5 hg12
  have C12 := Lib.hid (B12.out.ext hE6); have D6 := Lib.hid (D5.out.ext hE6); have E6 := Lib.hid (E5.out.trans hE6)
  have HR6 := Lib.hid (HR.out.ext hE6); have HO6 := Lib.hid (HO.out.ext hE6); have HP6 := Lib.hid (HP.out.ext hE6); have HOC6 := Lib.hid (fun j y hj => hE6.cell (HOC.out j y hj))
  clear hE6 B12 D5 E5 HR HO HP HOC
  have c2 := C12.out.cell 2
  go_wp2_with fail
  clear c2
  obtain ⟨cv, hcv⟩ : ∃ z, checkV i n n' n'' = z := ⟨_, rfl⟩
  have hCK : ∀ wx, Calls Try.prog 8 #[.agg (sgc i (.slice A n c) (.slice A' n' c') (.slice A'' n'' c''))] wx fun e w' => e = .returned (.int .i64 cv) ∧ Ext wx w' := fun wx => by rw [← hcv]; exact rcheck_is i A A' A'' n c n' c' n'' c'' wx
  have HCK := Lib.hid hCK; clear hCK
  by_cases hc0 : cv = 0
  rotate_left
  · have hcb : (cv != 0) = true := by simpa using hc0
    have hcd : (cv == 0) = false := by simpa using hc0
    refine wp_region_text (fun W => Ext w6 W) [0, 1, 2, 3, 4, 5, 6, 7, 8, 9, 10, 11, 12, 13, 14, 15, 16, 17, 18, 19, 20, 21, 22, 23] (by kernel_rfl) (Stab.ext _) (Ext.refl w6).drew (by kernel_rfl) (fun _ d _ _ _ h => by cases d <;> exact h) ?_
    iterate 4
      refine wpTk_want rfl (Eq.refl true) ?_
      apply Exists.intro
      refine ⟨fun wx hx => ?_, ?_⟩
      · have q0 := (D6.out.ext hx).cell 0
        have q1 := (D6.out.ext hx).cell 1
        have q2 := (D6.out.ext hx).cell 2
        have q3 := (D6.out.ext hx).cell 3
        clear hx
        go_simp
        with_reducible first | exact gives_ok _ _ _ | exact gives_call _ _ _ (HCK.out wx)
      simp only [Act.put, List.setIfInBounds_toArray, List.set_cons_zero, List.set_cons_succ]
    iterate 4
      refine wpTk_skip rfl rfl ?_
      simp only [Act.put, List.setIfInBounds_toArray, List.set_cons_zero, List.set_cons_succ]
    iterate 2
      refine wpTk_want rfl (Eq.refl true) ?_
      apply Exists.intro
      refine ⟨fun wx hx => ?_, ?_⟩
      · clear hx
        go_simp
        with_reducible first | exact gives_ok _ _ _
      simp only [Act.put, List.setIfInBounds_toArray, List.set_cons_zero, List.set_cons_succ]
    iterate 6
      refine wpTk_skip rfl rfl ?_
      simp only [Act.put, List.setIfInBounds_toArray, List.set_cons_zero, List.set_cons_succ]
    iterate 2
      refine wpTk_want rfl (Eq.refl true) ?_
      apply Exists.intro
      refine ⟨fun wx hx => ?_, ?_⟩
      · clear hx
        go_simp
        with_reducible first | exact gives_ok _ _ _
      simp only [Act.put, List.setIfInBounds_toArray, List.set_cons_zero, List.set_cons_succ]
    iterate 5
      refine wpTk_skip rfl rfl ?_
      simp only [Act.put, List.setIfInBounds_toArray, List.set_cons_zero, List.set_cons_succ]
    refine wpTk_want rfl (Eq.refl true) ?_
    apply Exists.intro
    refine ⟨fun wx hx => ?_, ?_⟩
    · clear hx
      go_simp
      with_reducible first | exact gives_ok _ _ _
    simp only [Act.put, List.setIfInBounds_toArray, List.set_cons_zero, List.set_cons_succ]
    refine wpTk_nil ?_
    intro w7 hE7
    go_wp2_with fail
    refine (awake_is _).mono ?_
    rintro e wz ⟨rfl, hEz⟩
    go_wp2_with fail
    go_ret
    exact ⟨rfl, (E6.out.trans hE7).trans hEz⟩
  subst hc0
  obtain ⟨hi0, hi4, rfl, rfl, rfl⟩ := checkV_ok hcv
  by_cases hik : i = (kk : Int)
  rotate_left
  · have hcb : (i != (kk : Int)) = true := by simpa using hik
    have hcd : (i == (kk : Int)) = false := by simpa using hik
    refine wp_region_text (fun W => Ext w6 W) [0, 1, 2, 3, 4, 5, 6, 7, 8, 9, 10, 11, 12, 13, 14, 15, 16, 17, 18, 19, 20, 21, 22, 23] (by kernel_rfl) (Stab.ext _) (Ext.refl w6).drew (by kernel_rfl) (fun _ d _ _ _ h => by cases d <;> exact h) ?_
    iterate 10
      refine wpTk_want rfl (Eq.refl true) ?_
      apply Exists.intro
      refine ⟨fun wx hx => ?_, ?_⟩
      · have q0 := (D6.out.ext hx).cell 0
        have q1 := (D6.out.ext hx).cell 1
        have q2 := (D6.out.ext hx).cell 2
        have q3 := (D6.out.ext hx).cell 3
        clear hx
        go_simp
        with_reducible first | exact gives_ok _ _ _ | exact gives_call _ _ _ (HCK.out wx)
      simp only [Act.put, List.setIfInBounds_toArray, List.set_cons_zero, List.set_cons_succ]
    iterate 6
      refine wpTk_skip rfl rfl ?_
      simp only [Act.put, List.setIfInBounds_toArray, List.set_cons_zero, List.set_cons_succ]
    iterate 2
      refine wpTk_want rfl (Eq.refl true) ?_
      apply Exists.intro
      refine ⟨fun wx hx => ?_, ?_⟩
      · clear hx
        go_simp
        with_reducible first | exact gives_ok _ _ _
      simp only [Act.put, List.setIfInBounds_toArray, List.set_cons_zero, List.set_cons_succ]
    iterate 5
      refine wpTk_skip rfl rfl ?_
      simp only [Act.put, List.setIfInBounds_toArray, List.set_cons_zero, List.set_cons_succ]
    refine wpTk_want rfl (Eq.refl true) ?_
    apply Exists.intro
    refine ⟨fun wx hx => ?_, ?_⟩
    · clear hx
      go_simp
      with_reducible first | exact gives_ok _ _ _
    simp only [Act.put, List.setIfInBounds_toArray, List.set_cons_zero, List.set_cons_succ]
    refine wpTk_nil ?_
    intro w7 hE7
    go_wp2_with fail
    refine (awake_is _).mono ?_
    rintro e wz ⟨rfl, hEz⟩
    go_wp2_with fail
    go_ret
    exact ⟨rfl, (E6.out.trans hE7).trans hEz⟩
  subst hik
  have hgw : (⟨(kk : Int), l, l', l''⟩ : Sg).wf := ⟨hn, hn', hn'', hs.1, hs'.1, hs''.1⟩
  have hV : ∀ wx, Ext w wx → Calls Try.prog 9 #[dv (rootV sd), .string (bst b), .agg (sgc (kk : Int) (.slice A 128 c) (.slice A' 128 c') (.slice A'' 2 c''))] wx fun e w' => e = .returned (.bool (verV b ⟨(kk : Int), l, l', l''⟩ == rootV sd)) ∧ Ext wx w' := fun wx he =>
    verify_is (rootV sd) b rfl (by omega) ⟨(kk : Int), l, l', l''⟩ hgw hi0 hi4 _ _ _ wx (hs.ext he) (hs'.ext he) (hs''.ext he)
  have hPB : ∀ wx, Calls Try.prog 10 #[.string (bst sd)] wx fun e w' => e = .returned (dv (rootV sd)) ∧ Ext wx w' := fun wx => lpublic_is sd (by omega) wx
  obtain ⟨R, hRt⟩ : ∃ R, rootV sd = R := ⟨_, rfl⟩
  have HRT := Lib.hid hRt
  rw [hRt] at hV hPB
  have HPB := Lib.hid hPB
  clear hPB hRt
  cases hvb : (verV b ⟨(kk : Int), l, l', l''⟩ == R) with
  | false =>
    rw [hvb] at hV
    have HV := Lib.hid hV; clear hV
    refine wp_region_text (fun W => Ext w6 W) [0, 1, 2, 3, 4, 5, 6, 7, 8, 9, 10, 11, 12, 13, 14, 15, 16, 17, 18, 19, 20, 21, 22, 23] (by kernel_rfl) (Stab.ext _) (Ext.refl w6).drew (by kernel_rfl) (fun _ d _ _ _ h => by cases d <;> exact h) ?_
    iterate 18
      refine wpTk_want rfl (Eq.refl true) ?_
      apply Exists.intro
      refine ⟨fun wx hx => ?_, ?_⟩
      · have q0 := (D6.out.ext hx).cell 0
        have q1 := (D6.out.ext hx).cell 1
        have q2 := (D6.out.ext hx).cell 2
        have q3 := (D6.out.ext hx).cell 3
        have hvv := HV.out wx (E6.out.trans hx)
        clear hx
        go_simp
        with_reducible first | exact gives_ok _ _ _ | exact gives_call _ _ _ (HCK.out wx) | exact gives_call _ _ _ (HPB.out wx) | exact gives_call _ _ _ (hvv)
      simp only [Act.put, List.setIfInBounds_toArray, List.set_cons_zero, List.set_cons_succ]
    iterate 5
      refine wpTk_skip rfl rfl ?_
      simp only [Act.put, List.setIfInBounds_toArray, List.set_cons_zero, List.set_cons_succ]
    refine wpTk_want rfl (Eq.refl true) ?_
    apply Exists.intro
    refine ⟨fun wx hx => ?_, ?_⟩
    · clear hx
      go_simp
      with_reducible first | exact gives_ok _ _ _
    simp only [Act.put, List.setIfInBounds_toArray, List.set_cons_zero, List.set_cons_succ]
    refine wpTk_nil ?_
    intro w7 hE7
    go_wp2_with fail
    refine (awake_is _).mono ?_
    rintro e wz ⟨rfl, hEz⟩
    go_wp2_with fail
    go_ret
    exact ⟨rfl, (E6.out.trans hE7).trans hEz⟩
  | true =>
  rw [hvb] at hV
  have HV := Lib.hid hV; clear hV
  have hvr : verV b ⟨(kk : Int), l, l', l''⟩ = rootV sd := by rw [HRT.out]; simpa using hvb
  have HVR := Lib.hid hvr
  clear hvr hvb
  obtain ⟨ta, hta⟩ : ∃ t, tagV sumV a = t := ⟨_, rfl⟩
  obtain ⟨tb, htb⟩ : ∃ t, tagV sumV b = t := ⟨_, rfl⟩
  have ta16 : ta.length = 16 := by rw [← hta]; rfl
  have tb16 : tb.length = 16 := by rw [← htb]; rfl
  have hTA : ∀ wx, Calls Try.prog 11 #[.string (bst a)] wx fun e w' => e = .returned (.string (bst ta)) ∧ Ext wx w' := fun wx => by rw [← hta]; exact rtag_is a (by omega) wx
  have hTB : ∀ wx, Calls Try.prog 11 #[.string (bst b)] wx fun e w' => e = .returned (.string (bst tb)) ∧ Ext wx w' := fun wx => by rw [← htb]; exact rtag_is b (by omega) wx
  have TA := Lib.hid hTA; have TB := Lib.hid hTB; have HTA := Lib.hid hta; have HTB := Lib.hid htb
  clear hTA hTB hta htb
  have heqs : ((bst ta).toList == (bst tb).toList) = (ta == tb) := by rw [ByteArray.toList_eq, ByteArray.toList_eq, bst_list, bst_list]
  by_cases htt : ta = tb
  · have htt' : (ta == tb) = true := by simpa using htt
    rw [htt'] at heqs
    clear htt htt'
    refine wp_region_text (fun W => Ext w6 W) [0, 1, 2, 3, 4, 5, 6, 7, 8, 9, 10, 11, 12, 13, 14, 15, 16, 17, 18, 19, 20, 21, 22, 23] (by kernel_rfl) (Stab.ext _) (Ext.refl w6).drew (by kernel_rfl) (fun _ d _ _ _ h => by cases d <;> exact h) ?_
    iterate 24
      refine wpTk_want rfl (Eq.refl true) ?_
      apply Exists.intro
      refine ⟨fun wx hx => ?_, ?_⟩
      · have q0 := (D6.out.ext hx).cell 0
        have q1 := (D6.out.ext hx).cell 1
        have q2 := (D6.out.ext hx).cell 2
        have q3 := (D6.out.ext hx).cell 3
        have hvv := HV.out wx (E6.out.trans hx)
        clear hx
        go_simp
        with_reducible first | exact gives_ok _ _ _ | exact gives_call _ _ _ (HCK.out wx) | exact gives_call _ _ _ (HPB.out wx) | exact gives_call _ _ _ (hvv) | exact gives_call _ _ _ (TA.out wx) | exact gives_call _ _ _ (TB.out wx)
      simp only [Act.put, List.setIfInBounds_toArray, List.set_cons_zero, List.set_cons_succ]
    refine wpTk_nil ?_
    intro w7 hE7
    go_wp2_with fail
    refine (awake_is _).mono ?_
    rintro e wz ⟨rfl, hEz⟩
    go_wp2_with fail
    go_ret
    exact ⟨rfl, (E6.out.trans hE7).trans hEz⟩
  have htt' : (ta == tb) = false := by simpa using htt
  rw [htt'] at heqs
  have HTT := Lib.hid htt
  clear htt htt'
  refine wp_region_text (fun W => Ext w6 W) [0, 1, 2, 3, 4, 5, 6, 7, 8, 9, 10, 11, 12, 13, 14, 15, 16, 17, 18, 19, 20, 21, 22, 23] (by kernel_rfl) (Stab.ext _) (Ext.refl w6).drew (by kernel_rfl) (fun _ d _ _ _ h => by cases d <;> exact h) ?_
  iterate 24
    refine wpTk_want rfl (Eq.refl true) ?_
    apply Exists.intro
    refine ⟨fun wx hx => ?_, ?_⟩
    · have q0 := (D6.out.ext hx).cell 0
      have q1 := (D6.out.ext hx).cell 1
      have q2 := (D6.out.ext hx).cell 2
      have q3 := (D6.out.ext hx).cell 3
      have hvv := HV.out wx (E6.out.trans hx)
      clear hx
      go_simp
      with_reducible first | exact gives_ok _ _ _ | exact gives_call _ _ _ (HCK.out wx) | exact gives_call _ _ _ (HPB.out wx) | exact gives_call _ _ _ (hvv) | exact gives_call _ _ _ (TA.out wx) | exact gives_call _ _ _ (TB.out wx)
    simp only [Act.put, List.setIfInBounds_toArray, List.set_cons_zero, List.set_cons_succ]
  refine wpTk_nil ?_
  intro w7 hE7
  have C7 := Lib.hid (C12.out.ext hE7); have D7 := Lib.hid (D6.out.ext hE7); have E7 := Lib.hid (E6.out.trans hE7)
  have HR7 := Lib.hid (HR6.out.ext hE7); have HO7 := Lib.hid (HO6.out.ext hE7); have HP7 := Lib.hid (HP6.out.ext hE7); have HOC7 := Lib.hid (fun j y hj => hE7.cell (HOC6.out j y hj))
  have HGW := Lib.hid hgw
  clear hE7 C12 D6 E6 HR6 HO6 HP6 HOC6 HCK HPB HV heqs hgw
  obtain ⟨gg, go, gc, hA, hcl⟩ := hs.at (by intro e; rw [e] at hn; cases hn)
  rw [hn] at hA
  simp only [Value.slice.injEq] at hA
  obtain ⟨rfl, -, rfl⟩ := hA
  have HCL := Lib.hid hcl; clear hcl
  go_wp2_with fail
  go_loopw [85] (fun v85 wq => ∃ p : Nat, p ≤ 128 ∧ v85 = .int .i64 p ∧ Ext w7 wq ∧ ∀ q, q < p → bitV ta q ≠ bitV tb q → sumV (l.getD q []) ≠ (signV sd kk a).oth.getD q []) (fun v85 _ => 128 - (intOf v85).toNat)
  case atStart => exact ⟨0, by omega, rfl, Ext.refl _, fun q h => absurd h (Nat.not_lt_zero _)⟩
  case round =>
    obtain ⟨p, hp, rfl, he, hno⟩ := hrel
    have HE := Lib.hid he; have HNO := Lib.hid hno; clear he hno
    by_cases h : p < 128
    · have hp0 : (0 : Int) ≤ p := Int.natCast_nonneg _
      have hp1 : (p : Int) < 128 := by omega
      have hB1 : ∀ wx, Calls Try.prog 12 #[.string (bst ta), .int .i64 p] wx fun e w' => e = .returned (.int .i64 (bitV ta p)) ∧ Ext wx w' := fun wx => rbit_is ta ta16 h wx
      have hB2 : ∀ wx, Calls Try.prog 12 #[.string (bst tb), .int .i64 p] wx fun e w' => e = .returned (.int .i64 (bitV tb p)) ∧ Ext wx w' := fun wx => rbit_is tb tb16 h wx
      obtain ⟨ba, hba⟩ : ∃ z : Int, (bitV ta p : Int) = z := ⟨_, rfl⟩
      obtain ⟨bb, hbb⟩ : ∃ z : Int, (bitV tb p : Int) = z := ⟨_, rfl⟩
      rw [hba] at hB1; rw [hbb] at hB2
      have B1 := Lib.hid hB1; have B2 := Lib.hid hB2; have HBA := Lib.hid hba; have HBB := Lib.hid hbb
      clear hB1 hB2 hba hbb
      go_wp2_with fail
      by_cases hbe : ba = bb
      · subst hbe
        refine wp_region_text (fun W => Ext wr W) [0, 1, 2, 3, 4, 5, 6, 7, 8, 9, 10, 11, 12, 13, 14, 15, 16, 17, 18, 19, 20, 21, 22, 23] (by kernel_rfl) (Stab.ext _) (Ext.refl wr).drew (by kernel_rfl) (fun _ d _ _ _ h => by cases d <;> exact h) ?_
        iterate 10
          refine wpTk_want rfl (Eq.refl true) ?_
          apply Exists.intro
          refine ⟨fun wx hx => ?_, ?_⟩
          · clear hx
            go_simp
            with_reducible first | exact gives_ok _ _ _ | exact gives_call _ _ _ (TA.out wx) | exact gives_call _ _ _ (TB.out wx) | exact gives_call _ _ _ (B1.out wx) | exact gives_call _ _ _ (B2.out wx)
          simp only [Act.put, List.setIfInBounds_toArray, List.set_cons_zero, List.set_cons_succ]
        iterate 13
          refine wpTk_skip rfl rfl ?_
          simp only [Act.put, List.setIfInBounds_toArray, List.set_cons_zero, List.set_cons_succ]
        refine wpTk_want rfl (Eq.refl true) ?_
        apply Exists.intro
        refine ⟨fun wx hx => ?_, ?_⟩
        · clear hx
          go_simp
          with_reducible first | exact gives_ok _ _ _
        simp only [Act.put, List.setIfInBounds_toArray, List.set_cons_zero, List.set_cons_succ]
        refine wpTk_nil ?_
        intro w8 hE8
        have H8 := Lib.hid (HE.out.trans hE8); clear hE8
        go_wp2_with fail
        go_roundw
        case rel =>
          refine ⟨p + 1, by omega, by go_num, H8.out, fun q hq hne => ?_⟩
          rcases Nat.lt_or_ge q p with hqp | hqp
          · exact HNO.out q hqp hne
          · obtain rfl : q = p := by omega
            exact absurd (by have h1 := HBA.out; have h2 := HBB.out; omega) hne
        case measure => simp [intOf]; omega
      · have hcb : (ba != bb) = true := by simpa using hbe
        have hcd : (ba == bb) = false := by simpa using hbe
        have hsw := sign_wf sd kk a
        have hrr : l[p]? = some (l.getD p []) := by rw [List.getD_eq_getElem?_getD, List.getElem?_eq_getElem (by rw [hn]; exact h)]; rfl
        have hoo : (signV sd kk a).oth[p]? = some ((signV sd kk a).oth.getD p []) := by rw [List.getD_eq_getElem?_getD, List.getElem?_eq_getElem (by rw [hsw.2.1]; exact h)]; rfl
        obtain ⟨r, hr⟩ : ∃ r, l.getD p [] = r := ⟨_, rfl⟩
        obtain ⟨ot, ho⟩ : ∃ r, (signV sd kk a).oth.getD p [] = r := ⟨_, rfl⟩
        rw [hr] at hrr; rw [ho] at hoo
        have r32 : r.length = 32 := hs.1 _ (List.mem_of_getElem? hrr)
        have o32 : ot.length = 32 := hsw.2.2.2.2.1 _ (List.mem_of_getElem? hoo)
        obtain ⟨s, hss⟩ : ∃ s, sumV r = s := ⟨_, rfl⟩
        have s32 : s.length = 32 := by rw [← hss]; rfl
        have hSM : ∀ wx, Calls Try.prog 13 #[.string (bst r)] wx fun e w' => e = .returned (dv s) ∧ Ext wx w' := fun wx => by rw [← hss]; exact rsum_is r (by rw [r32]; omega) wx
        have HSM := Lib.hid hSM; have HRR := Lib.hid hrr; have HOO := Lib.hid hoo; have R32 := Lib.hid r32; have O32 := Lib.hid o32; have S32 := Lib.hid s32; have HSW := Lib.hid hsw; have HR := Lib.hid hr; have HOT := Lib.hid ho; have HSS := Lib.hid hss
        clear hSM hrr hoo r32 o32 s32 hsw hr ho hss
        cases heq : (s == ot) with
        | true =>
          refine wp_region_text (fun W => Ext wr W) [0, 1, 2, 3, 4, 5, 6, 7, 8, 9, 10, 11, 12, 13, 14, 15, 16, 17, 18, 19, 20, 21, 22, 23] (by kernel_rfl) (Stab.ext _) (Ext.refl wr).drew (by kernel_rfl) (fun _ d _ _ _ h => by cases d <;> exact h) ?_
          iterate 24
            refine wpTk_want rfl (Eq.refl true) ?_
            apply Exists.intro
            refine ⟨fun wx hx => ?_, ?_⟩
            · have q1 := (D7.out.ext (HE.out.trans hx)).cell 1
              have q2 := (C7.out.ext (HE.out.trans hx)).cell 2
              have d1 := dgs_load (fun j y hj => ((E7.out.trans HE.out).trans hx).cell (HCL.out j y hj)) hs.1 HRR.out
              have d2 := dgs_load (fun j y hj => (HE.out.trans hx).cell (HOC7.out j y hj)) HSW.out.2.2.2.2.1 HOO.out
              have hq := eql_dg S32.out O32.out wx
              rw [heq] at hq
              clear hx
              go_simp
              with_reducible first | exact gives_ok _ _ _ | exact gives_call _ _ _ (TA.out wx) | exact gives_call _ _ _ (TB.out wx) | exact gives_call _ _ _ (B1.out wx) | exact gives_call _ _ _ (B2.out wx) | exact gives_call _ _ _ (bytes_is r R32.out wx) | exact gives_call _ _ _ (HSM.out wx)
            simp only [Act.put, List.setIfInBounds_toArray, List.set_cons_zero, List.set_cons_succ]
          refine wpTk_nil ?_
          intro w8 hE8
          go_wp2_with fail
          refine (awake_is _).mono ?_
          rintro e wz ⟨rfl, hEz⟩
          go_wp2_with fail
          go_ret
          exact ⟨rfl, (E7.out.trans (HE.out.trans hE8)).trans hEz⟩
        | false =>
          refine wp_region_text (fun W => Ext wr W) [0, 1, 2, 3, 4, 5, 6, 7, 8, 9, 10, 11, 12, 13, 14, 15, 16, 17, 18, 19, 20, 21, 22, 23] (by kernel_rfl) (Stab.ext _) (Ext.refl wr).drew (by kernel_rfl) (fun _ d _ _ _ h => by cases d <;> exact h) ?_
          iterate 24
            refine wpTk_want rfl (Eq.refl true) ?_
            apply Exists.intro
            refine ⟨fun wx hx => ?_, ?_⟩
            · have q1 := (D7.out.ext (HE.out.trans hx)).cell 1
              have q2 := (C7.out.ext (HE.out.trans hx)).cell 2
              have d1 := dgs_load (fun j y hj => ((E7.out.trans HE.out).trans hx).cell (HCL.out j y hj)) hs.1 HRR.out
              have d2 := dgs_load (fun j y hj => (HE.out.trans hx).cell (HOC7.out j y hj)) HSW.out.2.2.2.2.1 HOO.out
              have hq := eql_dg S32.out O32.out wx
              rw [heq] at hq
              clear hx
              go_simp
              with_reducible first | exact gives_ok _ _ _ | exact gives_call _ _ _ (TA.out wx) | exact gives_call _ _ _ (TB.out wx) | exact gives_call _ _ _ (B1.out wx) | exact gives_call _ _ _ (B2.out wx) | exact gives_call _ _ _ (bytes_is r R32.out wx) | exact gives_call _ _ _ (HSM.out wx)
            simp only [Act.put, List.setIfInBounds_toArray, List.set_cons_zero, List.set_cons_succ]
          refine wpTk_nil ?_
          intro w8 hE8
          have H8 := Lib.hid (HE.out.trans hE8); clear hE8
          have hne : s ≠ ot := by simpa using heq
          have HNE := Lib.hid hne; clear hne heq
          go_wp2_with fail
          go_roundw
          case rel =>
            refine ⟨p + 1, by omega, by go_num, H8.out, fun q hq hne => ?_⟩
            rcases Nat.lt_or_ge q p with hqp | hqp
            · exact HNO.out q hqp hne
            · obtain rfl : q = p := by omega
              rw [HR.out, HOT.out, HSS.out]
              exact HNE.out
          case measure => simp [intOf]; omega
    · obtain rfl : p = 128 := by omega
      have hcol := collide_true sd a b hk4 ⟨(kk : Int), l, l', l''⟩ HGW.out rfl HVR.out (by rw [HTA.out, HTB.out]; exact HTT.out) (fun p hp hne => HNO.out p hp (by rw [HTA.out, HTB.out] at hne; exact hne))
      rw [HTA.out, HTB.out] at hcol
      have sA := strings_small ta (signV sd kk a) (sign_wf sd kk a)
      have sB := strings_small tb ⟨(kk : Int), l, l', l''⟩ HGW.out
      have lA := strings_len ta (signV sd kk a)
      have lB := strings_len tb ⟨(kk : Int), l, l', l''⟩
      have hSA : ∀ wx, Ext w7 wx → Calls Try.prog 16 #[.string (bst ta), .agg (sgc kk (.slice (some ⟨hRg, hRo, none⟩) 128 hRc) (.slice (some ⟨hOg, hOo, none⟩) 128 hOc) (.slice (some ⟨hPg, hPo, none⟩) 2 hPc))] wx fun e w' => ∃ v, e = .returned v ∧ w'.ownsRow wx.heap.size 9 1 v 131 ((stringsV sumV ta (signV sd kk a)).map sv) ∧ Ext wx w' := fun wx he =>
        strings_is ta ta16 (signV sd kk a) (sign_wf sd kk a) (Int.natCast_nonneg _) (by show (kk : Int) < 4; omega) _ _ _ wx (HR7.out.ext he) (HO7.out.ext he) (HP7.out.ext he)
      have hSB : ∀ wx, Ext w wx → Calls Try.prog 16 #[.string (bst tb), .agg (sgc (kk : Int) (.slice (some ⟨gg, go, none⟩) 128 c) (.slice A' 128 c') (.slice A'' 2 c''))] wx fun e w' => ∃ v, e = .returned v ∧ w'.ownsRow wx.heap.size 9 1 v 131 ((stringsV sumV tb ⟨(kk : Int), l, l', l''⟩).map sv) ∧ Ext wx w' := fun wx he =>
        strings_is tb tb16 ⟨(kk : Int), l, l', l''⟩ HGW.out hi0 hi4 _ _ _ wx (hs.ext he) (hs'.ext he) (hs''.ext he)
      obtain ⟨XA, hXA⟩ : ∃ x, stringsV sumV ta (signV sd kk a) = x := ⟨_, rfl⟩
      obtain ⟨XB, hXB⟩ : ∃ x, stringsV sumV tb ⟨(kk : Int), l, l', l''⟩ = x := ⟨_, rfl⟩
      rw [hXA] at hcol sA lA hSA; rw [hXB] at hcol sB lB hSB
      have HSA := Lib.hid hSA; have HSB := Lib.hid hSB; have HCOL := Lib.hid hcol; have SA := Lib.hid sA; have SB := Lib.hid sB; have LA := Lib.hid lA; have LB := Lib.hid lB
      clear hSA hSB hcol sA sB lA lB hXA hXB HGW HVR HTT HNO
      obtain ⟨inf, i1, i2, i3, i4⟩ := info_of infoStr
      have I1 := Lib.hid i1; have I2 := Lib.hid i2; have I3 := Lib.hid i3; have I4 := Lib.hid i4; clear i1 i2 i3 i4
      go_wp2_with fail
      refine wp_region_X (T := fun W => Ext wr W) (fun W => Ext wr W) (by kernel_rfl) (Ext.refl wr).drew (wpX_takes (by kernel_rfl) (fun _ d _ _ _ h => by cases d <;> exact h) (Stab.ext _) (fun _ h => h) (fuel := 9) [0, 1, 2, 4, 6] _ _ (by kernel_rfl) ?_)
      iterate 5
        refine wpTk_want rfl (Eq.refl true) ?_
        apply Exists.intro
        refine ⟨fun wx hx => ?_, ?_⟩
        · have b7 := D7.out.ext (HE.out.trans hx)
          have b12 := C7.out.ext (HE.out.trans hx)
          have q0 := b7.cell 0
          have q1 := b7.cell 1
          have q2 := b7.cell 2
          have q3 := b7.cell 3
          have s0 := b12.cell 0
          have s1 := b12.cell 1
          have s2 := b12.cell 2
          have s3 := b12.cell 3
          clear b7 b12
          clear hx
          go_simp
          with_reducible first | exact gives_ok _ _ _ | exact gives_call _ _ _ (TA.out wx)
        simp only [Act.put, List.setIfInBounds_toArray, List.set_cons_zero, List.set_cons_succ]
      refine wpTk_nil ?_
      refine wpX_one 3 (by kernel_rfl) rfl rfl (fun wx hx K hK => ?_)
      go_simp
      refine (HSA.out wx (HE.out.trans hx)).mono ?_
      rintro e wy ⟨v3, rfl, ho3, hEy⟩
      refine hK _ _ ⟨fun W => Ext wr W ∧ W.ownsRow wr.heap.size 9 1 v3 131 (XA.map sv), (Stab.ext _).and (fun _ _ e h => own_stab3 e h), fun _ h => h.1, ⟨hx.trans hEy, own_base ho3 hx.size⟩, ?_⟩
      clear hK K hx ho3 hEy wx wy
      refine wpX_one 5 (by kernel_rfl) rfl rfl (fun wx hx K hK => ?_)
      go_simp
      refine (TB.out wx).mono ?_
      rintro e wy ⟨rfl, hEy⟩
      refine hK _ _ ⟨fun W => Ext wr W ∧ W.ownsRow wr.heap.size 9 1 v3 131 (XA.map sv), (Stab.ext _).and (fun _ _ e h => own_stab3 e h), fun _ h => h.1, ⟨hx.1.trans hEy, own_stab3 hEy hx.2⟩, ?_⟩
      clear hK K hx hEy wx wy
      refine wpX_one 7 (by kernel_rfl) rfl rfl (fun wx hx K hK => ?_)
      go_simp
      refine (HSB.out wx (E7.out.trans (HE.out.trans hx.1))).mono ?_
      rintro e wy ⟨v7, rfl, ho7, hEy⟩
      obtain ⟨A7, c7, rfl, -, hc7, -⟩ := own_cells ho7 (.inl (by intro e; have := congrArg List.length e; rw [List.length_map, LB.out] at this; cases this))
      refine hK _ _ ⟨fun W => Ext wr W ∧ W.ownsRow wr.heap.size 9 1 v3 131 (XA.map sv) ∧ Cells W A7 (XB.map sv), (Stab.ext _).and (Stab.and (fun _ _ e h => own_stab3 e h) (fun _ _ e h => h.ext e)), fun _ h => h.1, ⟨hx.1.trans hEy, own_stab3 hEy hx.2, hc7⟩, ?_⟩
      clear hK K hx ho7 hc7 hEy wx wy
      refine wpX_append_size 8 (by kernel_rfl) rfl rfl (.tmp 117) (.tmp 121) 40 rfl wr.heap.size 9 inf _ 1 16 Try.underlying40 I1.out I2.out I3.out I4.out rfl (by decide) v3 131 (XA.map sv) A7 131 c7 (XB.map sv) (by simp [Act.eval, Act.put]) (by simp [Act.eval, Act.put]) (by rw [List.length_map, LB.out]) (by intro u hu; obtain ⟨y, -, rfl⟩ := List.mem_map.1 hu; rfl) (by simp [maxLen]) (by simp) (fun wx hx => ⟨hx.2.1, hx.2.2, hx.1.size⟩) (fun wx hx v8 wy hown hg => ?_)
      have hne8 : XA.map sv ++ XB.map sv ≠ [] := by intro e; have := congrArg List.length e; rw [List.length_append, List.length_map, List.length_map, LA.out, LB.out] at this; cases this
      obtain ⟨g8, c8, rfl⟩ := own_slice hown hne8
      refine ⟨fun W => Ext wr W ∧ W.ownsRow wr.heap.size 9 1 (.slice (some ⟨g8, 0, none⟩) (131 + 131) c8) (131 + 131) (XA.map sv ++ XB.map sv), (Stab.ext _).and (fun _ _ e h => own_stab3 e h), fun _ h => h.1, ⟨hx.1.own3 hx.2.1 hg, hown⟩, ?_⟩
      clear hx hown hg wx wy hne8
      simp only [Act.put, List.setIfInBounds_toArray, List.set_cons_zero, List.set_cons_succ]
      refine wpX_one 9 (by kernel_rfl) rfl rfl (fun wx hx K hK => ?_)
      have hcells : ∀ i y, (XA ++ XB)[i]? = some y → wx.cell? ⟨g8, 0 + i, none⟩ = some (sv y) := fun i y hy => by
        have := hx.2.cells (g := g8) rfl i (sv y) (by rw [← List.map_append, List.getElem?_map, hy]; rfl)
        have hadd : (⟨g8, 0, none⟩ : Addr).add i = ⟨g8, i, none⟩ := by unfold Addr.add; split <;> simp_all
        rw [hadd] at this
        rw [Nat.zero_add]
        exact this
      have hlen : (XA ++ XB).length = 262 := by rw [List.length_append, LA.out, LB.out]
      have hcl := collide_is (XA ++ XB) (fun y hy => by rcases List.mem_append.1 hy with h | h; exact SA.out y h; exact SB.out y h) (by rw [hlen]; omega) g8 0 c8 wx hcells
      rw [hlen, HCOL.out] at hcl
      have HCLL := Lib.hid hcl
      clear hcl hcells hlen
      go_simp
      refine HCLL.out.mono ?_
      rintro e wy ⟨rfl, hEy⟩
      refine hK _ _ ⟨fun W => Ext wr W, Stab.ext _, fun _ h => h, hx.1.trans hEy, ?_⟩
      clear hK K hx hEy HCLL wx wy
      refine wpX_takes (by kernel_rfl) (fun _ d _ _ _ h => by cases d <;> exact h) (Stab.ext _) (fun _ h => h) (fuel := 0) [10, 11, 12, 13] _ _ (by kernel_rfl) ?_
      iterate 4
        refine wpTk_want rfl (Eq.refl true) ?_
        apply Exists.intro
        refine ⟨fun wx hx => ?_, ?_⟩
        · clear hx
          go_simp
          with_reducible first | exact gives_ok _ _ _ | exact gives_call _ _ _ (awake_is wx)
        simp only [Act.put, List.setIfInBounds_toArray, List.set_cons_zero, List.set_cons_succ]
      refine wpTk_nil ?_
      refine wpX_done (by kernel_rfl) (fun w9 hE9 => ?_) _
      go_wp2_with fail
      go_ret
      exact ⟨rfl, E7.out.trans (HE.out.trans hE9)⟩
end Go.Proofs.Ytmmcjcaccicheaa

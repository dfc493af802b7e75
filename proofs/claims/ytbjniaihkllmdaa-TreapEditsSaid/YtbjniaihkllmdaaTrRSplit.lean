/- Contract: the reference's Split. -/
import Derived.Test.YtbjniaihkllmdaaTrREdit
namespace Go.Proofs.Ytbjniaihkllmdaa
open Go.RowKit
set_option maxRecDepth 100000
set_option maxHeartbeats 16000000
theorem rsplit_any {b : BT} {A : Option Addr} {n c : Nat} {k : ByteArray} {w : World} (hb : BAt w b A n) (hs : b.size ≤ 100) (hok : OK b) :
    Calls Try.prog 42 #[.slice A n c, .string k] w (Got2 (splitV k b) w) := by
  have hst := fun (i : Nat) => split_at (k := k) hok (i := i)
  obtain ⟨p1, p2, p3, p4, -, -⟩ := split_spec k b hok.1 hok.2.1
  have hso := (asc_sp b).2 hok.1
  obtain ⟨l, hl⟩ : ∃ l, prsV b = l := ⟨_, rfl⟩
  have hll : l.length ≤ 100 := by rw [← hl, prs_len]; exact hs
  rw [hl] at hst hso
  obtain ⟨s1, hs1⟩ : ∃ s, (splitV k b).1 = s := ⟨_, rfl⟩
  obtain ⟨s2, hs2⟩ : ∃ s, (splitV k b).2 = s := ⟨_, rfl⟩
  rw [hs1] at hst p1 p2
  rw [hs2] at hst p3 p4
  have hsp : splitV k b = (s1, s2) := by rw [← hs1, ← hs2]
  rw [hsp]
  have HB := Lib.hid hb; have HST := Lib.hid hst; have HP1 := Lib.hid p1; have HP2 := Lib.hid p2; have HP3 := Lib.hid p3; have HP4 := Lib.hid p4; have HL := Lib.hid hl; have HSO := Lib.hid hso
  clear hb hst p1 p2 p3 p4 hl hso hs1 hs2 hsp hok
  go_enter Try.func42, Try.ntmps42
  go_wp2_with fail
  refine (rlist_is (l := l) HL.out HB.out (by omega)).mono ?_
  rintro e w1 ⟨A1, c1, rfl, hP, ho, hE⟩
  obtain ⟨Aq, cq, heq, hc1, -⟩ := ownP_prs ho hP.2.1
  cases heq
  have HE := Lib.hid hE; have HPX := Lib.hid hP; clear hE hP ho
  go_wp2_with fail
  go_loopw [7] (fun vi wr => ∃ i : Nat, vi = .int .i64 i ∧ i ≤ l.length ∧ Ext w1 wr ∧ ∀ p ∈ l.take i, klt p.k k = true) (fun vi _ => l.length - (intOf vi).toNat)
  case atStart => exact ⟨0, rfl, Nat.zero_le _, Ext.refl _, by simp⟩
  case round =>
    obtain ⟨i, rfl, hi, hE, ht⟩ := hrel
    have HER := Lib.hid hE; have HT := Lib.hid ht; clear hE ht
    have fin : (∀ p ∈ l.drop i, klt p.k k = false) → l.take i = prsV s1 ∧ l.drop i = prsV s2 := fun h => HST.out i HT.out h
    have FIN := Lib.hid fin; clear fin
    have go_on : i < l.length → True := fun _ => trivial
    clear go_on
    by_cases hiN : i = l.length
    · have hnl : ¬ ((i : Int) < (l.length : Int)) := by omega
      obtain ⟨g1, g2⟩ := FIN.out (by rw [List.drop_eq_nil_of_le (by omega)]; simp)
      have HG1 := Lib.hid g1; have HG2 := Lib.hid g2; clear g1 g2
      have hpl := (HPX.out.ext HER.out).take (k := i) (by omega)
      rw [HG1.out] at hpl
      rw [hiN] at hpl
      have hpr : ∀ A, Prs wr A 0 (prsV s2) := fun A => by rw [← HG2.out, List.drop_eq_nil_of_le (by omega)]; exact Prs.nil _ _
      have HPL := Lib.hid hpl; have HPR := Lib.hid hpr; clear hpl hpr
      have i4 : (l.length : Int) ≤ (c1 : Int) := by omega
      have i5 : (i : Int) ≤ (l.length : Int) := by omega
      have i6 : (i : Int) ≤ (c1 : Int) := by omega
      go_wp2_with fail
      obtain ⟨T, hT⟩ : ∃ T, T = (fun wx => Ext wr wx) := ⟨_, rfl⟩
      have hTs : Stab T := by rw [hT]; exact Stab.ext _
      refine wp_region_X (T := T) T (by kernel_rfl) (by rw [hT]; exact (Ext.refl wr).drew) (wpX_takes (by kernel_rfl) (fun _ d _ _ _ h => by cases d <;> exact h) hTs (fun _ h => h) (fuel := 4) [0,1,2,4,5,6] _ _ (by kernel_rfl) ?_)
      iterate 6
        refine wpTk_want rfl (Eq.refl true) ?_
        apply Exists.intro
        refine ⟨fun wx hx => ?_, ?_⟩
        · clear hx
          go_simp
          with_reducible exact gives_ok _ _ _
        simp only [Act.put, List.setIfInBounds_toArray, List.set_cons_zero, List.set_cons_succ]
      refine wpTk_nil ?_
      refine wpX_one 3 (by kernel_rfl) rfl rfl (fun wx hx K hK => ?_)
      have hx1 := hx
      rw [hT] at hx1
      go_simp
      refine (rbuild_any s1 _ _ _ wx HP1.out HP2.out (by omega) (by omega) (HPL.out.ext hx1)).mono ?_
      rintro e wy ⟨B1, m1, d1, rfl, hG, hE⟩
      refine hK _ _ ⟨fun wz => T wz ∧ BAt wz s1 B1 m1, hTs.and (fun _ _ e h => MapAt.ext h e), (fun _ h => h.1), ⟨hTs _ _ hE hx, hG⟩, ?_⟩
      clear hK K hx hx1 hE hG wx wy
      refine wpX_one 7 (by kernel_rfl) rfl rfl (fun wx hx K hK => ?_)
      have hx1 := hx.1
      rw [hT] at hx1
      go_simp
      refine (rbuild_any s2 _ _ _ wx HP3.out HP4.out (by omega) (by omega) ((HPR.out _).ext hx1)).mono ?_
      rintro e wy ⟨B2, m2, d2, rfl, hG, hE⟩
      refine hK _ _ ⟨fun wz => T wz ∧ (BAt wz s1 B1 m1 ∧ BAt wz s2 B2 m2), hTs.and (Stab.and (fun _ _ e h => MapAt.ext h e) (fun _ _ e h => MapAt.ext h e)), (fun _ h => h.1), ⟨hTs _ _ hE hx.1, MapAt.ext hx.2 hE, hG⟩, ?_⟩
      clear hK K hx hx1 hE hG wx wy
      refine wpX_one 8 (by kernel_rfl) rfl rfl (fun wx hx K hK => ?_)
      go_simp
      refine hK _ _ ⟨fun wz => T wz ∧ (BAt wz s1 B1 m1 ∧ BAt wz s2 B2 m2), hTs.and (Stab.and (fun _ _ e h => MapAt.ext h e) (fun _ _ e h => MapAt.ext h e)), (fun _ h => h.1), hx, ?_⟩
      clear hK K hx wx
      refine wpX_one 9 (by kernel_rfl) rfl rfl (fun wx hx K hK => ?_)
      go_simp
      refine hK _ _ ⟨fun wz => T wz ∧ (BAt wz s1 B1 m1 ∧ BAt wz s2 B2 m2), hTs.and (Stab.and (fun _ _ e h => MapAt.ext h e) (fun _ _ e h => MapAt.ext h e)), (fun _ h => h.1), hx, ?_⟩
      clear hK K hx wx
      refine wpX_done (by kernel_rfl) (fun wz hz => ?_) _
      have hz1 := hz.1
      rw [hT] at hz1
      have HZ1 := Lib.hid ((HE.out.trans HER.out).trans hz1); have HZ2 := Lib.hid hz.2; clear hz hz1 hT hTs
      go_wp2_with fail
      all_goals refine bodyPost_ret (v := .tuple #[.slice B1 m1 d1, .slice B2 m2 d2]) (by simp [results, Try.results42, go_sem]) rfl ?_
      all_goals exact ⟨B1, m1, d1, B2, m2, d2, rfl, HZ2.out.1, HZ2.out.2, HZ1.out⟩
    · have hlt : ((i : Int) < (l.length : Int)) := by omega
      obtain ⟨b1, off1, y, rfl, hb1, hy, hwy, e0, e1⟩ := (HPX.out.ext HER.out).get (j := i) (by omega)
      obtain ⟨yk, yv⟩ := y
      dsimp only at e0 e1
      cases hk : klt yk k with
      | true =>
        have q1 : Op.bytesLess yk.toList k.toList = true := hk
        have hn : ∀ p ∈ l.take (i + 1), klt p.k k = true := fun p hp => by
          rw [List.take_add_one, hy] at hp
          rcases List.mem_append.1 hp with hp | hp
          · exact HT.out p hp
          · simp at hp; subst hp; exact hk
        have HN := Lib.hid hn; clear hn hy hwy hk
        go_wp2_with fail
        go_roundw
        case rel => exact ⟨i + 1, by go_num, by omega, HER.out, HN.out⟩
        case measure => simp [intOf]; omega
      | false =>
        have q1 : Op.bytesLess yk.toList k.toList = false := hk
        obtain ⟨g1, g2⟩ := FIN.out (fun p hp => by
          obtain ⟨m, hm⟩ := List.getElem?_of_mem hp
          rw [List.getElem?_drop] at hm
          cases hpk : klt p.k k with
          | false => rfl
          | true =>
            exfalso
            obtain ⟨hj1, hj2⟩ := List.getElem?_eq_some_iff.1 hy
            obtain ⟨hm1, hm2⟩ := List.getElem?_eq_some_iff.1 hm
            rcases Nat.eq_zero_or_pos m with h0 | h0
            · subst h0
              have : (⟨yk, yv⟩ : Pr) = p := by rw [← hj2, ← hm2]; rfl
              subst this
              rw [hk] at hpk; cases hpk
            · have := (List.pairwise_iff_getElem.1 HSO.out) i (i + m) hj1 hm1 (by omega)
              rw [hj2, hm2] at this
              rw [klt_trans this hpk] at hk; cases hk)
        have HG1 := Lib.hid g1; have HG2 := Lib.hid g2; clear g1 g2 hy hwy hk
        have hpl := (HPX.out.ext HER.out).take (k := i) (by omega)
        rw [HG1.out] at hpl
        have hpr := (HPX.out.ext HER.out).drop (k := i) (by omega) hc1
        rw [HG2.out] at hpr
        have HPL := Lib.hid hpl; have HPR := Lib.hid hpr; clear hpl hpr
        have i4 : (l.length : Int) ≤ (c1 : Int) := by omega
        have i5 : (i : Int) ≤ (l.length : Int) := by omega
        have i6 : (i : Int) ≤ (c1 : Int) := by omega
        go_wp2_with fail
        obtain ⟨T, hT⟩ : ∃ T, T = (fun wx => Ext wr wx) := ⟨_, rfl⟩
        have hTs : Stab T := by rw [hT]; exact Stab.ext _
        refine wp_region_X (T := T) T (by kernel_rfl) (by rw [hT]; exact (Ext.refl wr).drew) (wpX_takes (by kernel_rfl) (fun _ d _ _ _ h => by cases d <;> exact h) hTs (fun _ h => h) (fuel := 4) [0,1,2,4,5,6] _ _ (by kernel_rfl) ?_)
        iterate 6
          refine wpTk_want rfl (Eq.refl true) ?_
          apply Exists.intro
          refine ⟨fun wx hx => ?_, ?_⟩
          · clear hx
            go_simp
            with_reducible exact gives_ok _ _ _
          simp only [Act.put, List.setIfInBounds_toArray, List.set_cons_zero, List.set_cons_succ]
        refine wpTk_nil ?_
        refine wpX_one 3 (by kernel_rfl) rfl rfl (fun wx hx K hK => ?_)
        have hx1 := hx
        rw [hT] at hx1
        go_simp
        refine (rbuild_any s1 _ _ _ wx HP1.out HP2.out (by omega) (by omega) (HPL.out.ext hx1)).mono ?_
        rintro e wy ⟨B1, m1, d1, rfl, hG, hE⟩
        refine hK _ _ ⟨fun wz => T wz ∧ BAt wz s1 B1 m1, hTs.and (fun _ _ e h => MapAt.ext h e), (fun _ h => h.1), ⟨hTs _ _ hE hx, hG⟩, ?_⟩
        clear hK K hx hx1 hE hG wx wy
        refine wpX_one 7 (by kernel_rfl) rfl rfl (fun wx hx K hK => ?_)
        have hx1 := hx.1
        rw [hT] at hx1
        go_simp
        refine (rbuild_any s2 _ _ _ wx HP3.out HP4.out (by omega) (by omega) (HPR.out.ext hx1)).mono ?_
        rintro e wy ⟨B2, m2, d2, rfl, hG, hE⟩
        refine hK _ _ ⟨fun wz => T wz ∧ (BAt wz s1 B1 m1 ∧ BAt wz s2 B2 m2), hTs.and (Stab.and (fun _ _ e h => MapAt.ext h e) (fun _ _ e h => MapAt.ext h e)), (fun _ h => h.1), ⟨hTs _ _ hE hx.1, MapAt.ext hx.2 hE, hG⟩, ?_⟩
        clear hK K hx hx1 hE hG wx wy
        refine wpX_one 8 (by kernel_rfl) rfl rfl (fun wx hx K hK => ?_)
        go_simp
        refine hK _ _ ⟨fun wz => T wz ∧ (BAt wz s1 B1 m1 ∧ BAt wz s2 B2 m2), hTs.and (Stab.and (fun _ _ e h => MapAt.ext h e) (fun _ _ e h => MapAt.ext h e)), (fun _ h => h.1), hx, ?_⟩
        clear hK K hx wx
        refine wpX_one 9 (by kernel_rfl) rfl rfl (fun wx hx K hK => ?_)
        go_simp
        refine hK _ _ ⟨fun wz => T wz ∧ (BAt wz s1 B1 m1 ∧ BAt wz s2 B2 m2), hTs.and (Stab.and (fun _ _ e h => MapAt.ext h e) (fun _ _ e h => MapAt.ext h e)), (fun _ h => h.1), hx, ?_⟩
        clear hK K hx wx
        refine wpX_done (by kernel_rfl) (fun wz hz => ?_) _
        have hz1 := hz.1
        rw [hT] at hz1
        have HZ1 := Lib.hid ((HE.out.trans HER.out).trans hz1); have HZ2 := Lib.hid hz.2; clear hz hz1 hT hTs
        go_wp2_with fail
        all_goals refine bodyPost_ret (v := .tuple #[.slice B1 m1 d1, .slice B2 m2 d2]) (by simp [results, Try.results42, go_sem]) rfl ?_
        all_goals exact ⟨B1, m1, d1, B2, m2, d2, rfl, HZ2.out.1, HZ2.out.2, HZ1.out⟩
end Go.Proofs.Ytbjniaihkllmdaa

/- Lamport's claimed strings: an iterator. No condition. -/
import Derived.Test.YtmmcjcaccicheaaTfSign
namespace Go.Proofs.Ytmmcjcaccicheaa
open Go.RowKit
attribute [local go_sem] Oper.semAt_some
/-- The pair of a position. -/
def pairD (m : Bs) (rev oth : List Bs) (p j : Nat) : Bs := if j = bitM m p then sumV (rev.getD p []) else oth.getD p []
def clmV (m : Bs) (rev oth : List Bs) : List Bs := (List.range 256).map fun i => pairD m rev oth (i / 2) (i % 2)
theorem clm_len (m : Bs) (rev oth : List Bs) : (clmV m rev oth).length = 256 := by unfold clmV; simp
theorem clm_take (m : Bs) (rev oth : List Bs) (p v : Nat) (hp : p < 128) (hv : v < 2) : (clmV m rev oth).take (2 * p + v + 1) = (clmV m rev oth).take (2 * p + v) ++ [pairD m rev oth p v] := by
  have h : (clmV m rev oth)[2 * p + v]? = some (pairD m rev oth p v) := by
    unfold clmV
    rw [List.getElem?_map, List.getElem?_range (by omega)]
    show some (pairD m rev oth ((2 * p + v) / 2) ((2 * p + v) % 2)) = _
    rw [show (2 * p + v) / 2 = p by omega, show (2 * p + v) % 2 = v by omega]
  rw [List.take_add_one, h]; rfl
theorem clm_wf (m : Bs) (rev oth : List Bs) (hol : oth.length = 128) (ho : ∀ d ∈ oth, d.length = 32) : ∀ d ∈ clmV m rev oth, d.length = 32 := by
  intro d hd
  obtain ⟨i, hi, rfl⟩ := List.mem_map.1 hd
  have hi := List.mem_range.1 hi
  show (pairD m rev oth (i / 2) (i % 2)).length = 32
  unfold pairD
  split
  · rfl
  · exact getD_len ho (by omega)
theorem clm_flat (m : Bs) (rev oth : List Bs) : (0 : UInt8) :: (clmV m rev oth).flatten = leafS sumV (bitM m) rev oth 128 := by
  unfold clmV leafS
  rw [show (256 : Nat) = 2 * 128 from rfl, range_pairs]
  congr 1
  have : ∀ l : List Nat, (l.flatMap fun p => [pairD m rev oth (2 * p / 2) (2 * p % 2), pairD m rev oth ((2 * p + 1) / 2) ((2 * p + 1) % 2)]).flatten = l.flatMap (pairV sumV (bitM m) rev oth) := by
    intro l
    induction l with
    | nil => rfl
    | cons x r ih =>
      rw [List.flatMap_cons, List.flatten_append, ih, List.flatMap_cons, show 2 * x / 2 = x by omega, show 2 * x % 2 = 0 by omega, show (2 * x + 1) / 2 = x by omega, show (2 * x + 1) % 2 = 1 by omega]
      congr 1
      unfold pairD pairV
      rcases bitM_two m x with h | h <;> rw [h] <;> simp
  exact this _
theorem zd2' : ZD2.toList = dgs [List.replicate 32 0, List.replicate 32 0] := zd2
theorem wrpa : IntKind.i64.wrap (1 - 0) = 1 := rfl
theorem wrpb : IntKind.i64.wrap (1 - 1) = 0 := rfl
theorem bdD2z (w : World) : (BdT 96 #[]).run Try.prog w = .ok (.agg ZD2) w := by
  unfold BdT
  exact run_build w _ _ _ (by kernel_rfl)
set_option maxRecDepth 100000 in
set_option maxHeartbeats 8000000 in
theorem claimed_iter (m : Bs) (hm : m.length < 268435456) (rev oth : List Bs) (hrl : rev.length = 128) (hol : oth.length = 128) (hrw : ∀ d ∈ rev, d.length = 32) (how : ∀ d ∈ oth, d.length = 32) (gm gg : Nat) (k : Int) (vP : Value) (gR oR cR gO oO cO : Nat) (X : Nat → Prop) (w0 : World)
    (hKn : ∀ W, Lv X w0 W → Blk W gm (.cells #[.string (bst m)] 9 (0, 0)) ∧ Blk W gg (.cells (sgc k (.slice (some ⟨gR, oR, none⟩) 128 cR) (.slice (some ⟨gO, oO, none⟩) 128 cO) vP) 25 (0, 0)) ∧
      (∀ j x, (dgs rev)[j]? = some x → W.cell? ⟨gR, oR + j, none⟩ = some x) ∧ (∀ j x, (dgs oth)[j]? = some x → W.cell? ⟨gO, oO + j, none⟩ = some x)) :
    Iter Try.prog 42 #[.pointer (some ⟨gm, 0, none⟩), .pointer (some ⟨gg, 0, none⟩)] EncD (clmV m rev oth) (fun _ => False) (PreT X w0) := by
  intro ly J Jx S W hP hSz hJ hJx hY h0
  have HP := Lib.hid hP; have HJ := Lib.hid hJ; have HJX := Lib.hid hJx; have HY := Lib.hid hY; have H0 := Lib.hid h0; have HZ := Lib.hid hSz; have HK := Lib.hid hKn; clear hP hSz hJ hJx hY h0 hKn
  have HRL := Lib.hid hrl; have HOL := Lib.hid hol; have HRW := Lib.hid hrw; have HOW := Lib.hid how; clear hrl hol hrw how
  refine callsIn_wide.2 ?_
  simp only [List.append_toArray, List.cons_append, List.nil_append]
  go_enter Try.func42, Try.ntmps42
  have cm : W.cell? ⟨gm, 0, none⟩ = some (.string (bst m)) := (HK.out _ HP.out.1).1.cell 0
  go_wp2_with fail
  clear cm
  refine (tag_is m hm _).mono ?_
  rintro e w1 ⟨rfl, hE1⟩
  have hv1 : Lv (fun _ => False) W w1 := Lv.of_ext hE1
  have HJ1 := Lib.hid (HJ.out _ _ _ _ H0.out hv1); have HP1 := Lib.hid (show PreT X w0 S w1 from ⟨HP.out.1.ext hE1, HP.out.2⟩); have HZ1 := Lib.hid (fun h (hh : S h) => Nat.lt_of_lt_of_le (HZ.out h hh) hE1.size)
  clear hE1 hv1 H0 HP HZ
  go_wp2_with fail
  go_loopw [9] (fun v9 wr => ∃ (p : Nat) (S' : Nat → Prop), p ≤ 128 ∧ v9 = .int .i64 p ∧ J ((clmV m rev oth).take (2 * p)) S' wr ∧ PreT X w0 S' wr ∧ (∀ h, S' h → h < wr.heap.size)) (fun v9 _ => 128 - (intOf v9).toNat)
  case atStart => exact ⟨0, S, Nat.zero_le _, rfl, HJ1.out, HP1.out, HZ1.out⟩
  case round =>
    clear HJ1 HP1 HZ1
    obtain ⟨p, S1, hp, rfl, hJ1, hP1, hZ1⟩ := hrel
    have HJ1 := Lib.hid hJ1; have HP1 := Lib.hid hP1; have HZ1 := Lib.hid hZ1; clear hJ1 hP1 hZ1
    by_cases h : p < 128
    · have hp0 : (0 : Int) ≤ p := Int.natCast_nonneg _
      have hp1 : (p : Int) < 128 := by omega
      have t0 := clm_take m rev oth p 0 h (by omega); have t1 := clm_take m rev oth p 1 h (by omega)
      have hr : rev[p]? = some (rev.getD p []) := by rw [List.getD_eq_getElem?_getD, List.getElem?_eq_getElem (by rw [HRL.out]; exact h)]; rfl
      have ho : oth[p]? = some (oth.getD p []) := by rw [List.getD_eq_getElem?_getD, List.getElem?_eq_getElem (by rw [HOL.out]; exact h)]; rfl
      obtain ⟨r, hrr⟩ : ∃ r, rev.getD p [] = r := ⟨_, rfl⟩
      obtain ⟨o, hoo⟩ : ∃ r, oth.getD p [] = r := ⟨_, rfl⟩
      rw [hrr] at hr; rw [hoo] at ho
      have r32 : r.length = 32 := HRW.out _ (List.mem_of_getElem? hr)
      have o32 : o.length = 32 := HOW.out _ (List.mem_of_getElem? ho)
      have HR := Lib.hid hr; have HO := Lib.hid ho; have R32 := Lib.hid r32; have O32 := Lib.hid o32
      clear hr ho r32 o32
      obtain ⟨g6, hg6⟩ : ∃ g, wr.heap.size = g := ⟨_, rfl⟩
      obtain ⟨W2, hW2⟩ : ∃ W, wr.alloc (.cells ZD2 96) = W := ⟨_, rfl⟩
      have a2 := Arr.new wr ZD2 96
      have e2 : Ext wr (wr.alloc (.cells ZD2 96)) := (Ext.refl wr).alloc _
      rw [hW2, hg6, zd2'] at a2; rw [hW2] at e2
      have hst : (StT 96 (.pointer (some ⟨g6, 0, none⟩)) (.agg ZD2)).run Try.prog W2 = .ok () (W2.setRow g6 ZD2.toList.toArray) := stD2 (l' := ZD2.toList) a2 (by rw [← zd2']; unfold ZD2; simp) (by unfold ZD2; simp) (fun v hv => by unfold ZD2 at hv; simp at hv; rw [hv]; rfl)
      have a3 := a2.put ZD2.toList
      rw [zd2'] at a3 hst
      have e3 := e2.setRow (g := g6) (Nat.le_of_eq hg6) (dgs [List.replicate 32 0, List.replicate 32 0]).toArray
      obtain ⟨W3, hW3⟩ : ∃ W, W2.setRow g6 (dgs [List.replicate 32 0, List.replicate 32 0]).toArray = W := ⟨_, rfl⟩
      rw [hW3] at hst a3 e3
      have A3 := Lib.hid a3; have E3 := Lib.hid e3; have HG6 := Lib.hid hg6
      clear a2 e2 a3 e3 hW3
      have hbd : (BdT 96 #[]).run Try.prog wr = .ok (.agg ZD2) wr := bdD2z wr
      rcases bitM_two m p with hb | hb
      · have hix : (Instr.index 56 (.agg (bitsA m).toArray) (.int .i64 p)).run Try.prog wr = .ok (.int .i64 0) wr := by have := run_bidx m h wr; rw [hb] at this; exact this
        have hq0 : pairD m rev oth p 0 = sumV r := by unfold pairD; rw [hb, hrr, hoo]; rfl
        have hq1 : pairD m rev oth p 1 = o := by unfold pairD; rw [hb, hrr, hoo]; rfl
        rw [hq0] at t0; rw [hq1] at t1
        have T0 := Lib.hid t0; have T1 := Lib.hid t1
        clear t0 t1 hq0 hq1 hrr hoo hb
        go_wp2_with fail
        clear hix hbd hst hW2 hg6
        have hlv : Lv X w0 wr := HP1.out.1
        obtain ⟨s, hs⟩ : ∃ s, sumV r = s := ⟨_, rfl⟩
        have hs32 : s.length = 32 := by rw [← hs]; rfl
        rw [hs] at T0
        have HS := Lib.hid hs; have HS32 := Lib.hid hs32; clear hs hs32
        have hSt : Stab (fun W => Ext wr W ∧ Arr W g6 96 (dgs [List.replicate 32 0, List.replicate 32 0])) := (Stab.ext _).and (Stab.arr _ _ _)
        have hST : ∀ W, Ext wr W ∧ Arr W g6 96 (dgs [List.replicate 32 0, List.replicate 32 0]) → Lv X w0 W := fun W hx => hlv.ext hx.1
        refine wp_region_X (T := fun W => Lv X w0 W) (fun W => Ext wr W ∧ Arr W g6 96 (dgs [List.replicate 32 0, List.replicate 32 0])) (by kernel_rfl) ⟨E3.out.drew, A3.out.ext (Ext.refl W3).drew⟩ (wpX_takes (by kernel_rfl) (fun _ d _ _ _ h => by cases d <;> exact h) hSt hST (fuel := 3) [0,1,2,3,4,5,6,7,8,9,10,11,12,13,14] _ _ (by kernel_rfl) ?_)
        iterate 8
          refine wpTk_want rfl (Eq.refl true) ?_
          apply Exists.intro
          refine ⟨fun wx hx => ?_, ?_⟩
          · have hk := HK.out wx hx
            have c1 := hk.2.1.cell 1
            have d1 := dgs_load hk.2.2.1 HRW.out HR.out
            clear hx hk
            go_simp
            with_reducible exact gives_ok _ _ _
          simp only [Act.put, List.setIfInBounds_toArray, List.set_cons_zero, List.set_cons_succ, wrp0, wrp4, wrpa, wrpb]
        refine wpTk_want rfl (Eq.refl true) ⟨dv s, fun wx hx => ?_, ?_⟩
        · clear hx
          go_simp
          rw [← HS.out]
          exact gives_call _ _ _ (public_is r R32.out wx)
        simp only [Act.put, List.setIfInBounds_toArray, List.set_cons_zero, List.set_cons_succ, wrp0, wrp4, wrpa, wrpb]
        iterate 6
          refine wpTk_want rfl (Eq.refl true) ?_
          apply Exists.intro
          refine ⟨fun wx hx => ?_, ?_⟩
          · have hk := HK.out wx hx
            have c2 := hk.2.1.cell 2
            have d2 := dgs_load hk.2.2.2 HOW.out HO.out
            clear hx hk
            go_simp
            with_reducible exact gives_ok _ _ _
          simp only [Act.put, List.setIfInBounds_toArray, List.set_cons_zero, List.set_cons_succ, wrp0, wrp4, wrpa, wrpb]
        refine wpTk_nil ?_
        have q0 : ∀ d ∈ ([List.replicate 32 0, List.replicate 32 0] : List Bs), d.length = 32 := by simp
        have q1 : ∀ d ∈ ([s, List.replicate 32 0] : List Bs), d.length = 32 := by simp [HS32.out]
        have q2 : ∀ d ∈ ([s, o] : List Bs), d.length = 32 := by simp [HS32.out, O32.out]
        refine wpX_one 15 (by kernel_rfl) rfl rfl (fun wz hz K hK => ?_)
        obtain ⟨W4, hst, t4, g4⟩ := hz.2.dgput q0 (i := 0) (by simp) (d := s) HS32.out
        rw [show 0 * 32 = 0 from rfl] at hst
        have TE := hz.1.grownBy g4 (Nat.le_of_eq HG6.out)
        go_simp
        refine hK _ _ ⟨fun W => Ext wr W ∧ Arr W g6 96 (dgs [s, List.replicate 32 0]), (Stab.ext _).and (Stab.arr _ _ _), fun W hx => hlv.ext hx.1, ⟨TE, t4⟩, ?_⟩
        clear hK K hz hst t4 g4 TE wz W4
        refine wpX_one 16 (by kernel_rfl) rfl rfl (fun wz hz K hK => ?_)
        go_simp
        refine hK _ _ ⟨fun W => Ext wr W ∧ Arr W g6 96 (dgs [s, List.replicate 32 0]), (Stab.ext _).and (Stab.arr _ _ _), fun W hx => hlv.ext hx.1, hz, ?_⟩
        clear hK K hz wz
        refine wpX_one 17 (by kernel_rfl) rfl rfl (fun wz hz K hK => ?_)
        obtain ⟨W4, hst, t4, g4⟩ := hz.2.dgput q1 (i := 1) (by simp) (d := o) O32.out
        rw [show 1 * 32 = 32 from rfl] at hst
        have TE := hz.1.grownBy g4 (Nat.le_of_eq HG6.out)
        go_simp
        refine hK _ _ ⟨fun W => Ext wr W ∧ Arr W g6 96 (dgs [s, o]), (Stab.ext _).and (Stab.arr _ _ _), fun W hx => hlv.ext hx.1, ⟨TE, t4⟩, ?_⟩
        clear hK K hz hst t4 g4 TE wz W4
        refine wpX_done (by kernel_rfl) (fun W5 hz => ?_) _
        obtain ⟨e5, a5⟩ := hz
        have hl0 := a5.dg q2 (i := 0) (d := s) rfl
        rw [show 0 * 32 = 0 from rfl] at hl0
        have P5 : PreT X w0 S1 W5 := ⟨hlv.ext e5, HP1.out.2⟩
        have J5 := HJ.out _ _ _ _ HJ1.out (Lv.of_ext e5)
        have T0' : (clmV m rev oth).take (2 * p + 1) = (clmV m rev oth).take (2 * p) ++ [s] := T0.out
        have T1' : (clmV m rev oth).take (2 * (p + 1)) = (clmV m rev oth).take (2 * p + 1) ++ [o] := T1.out
        have px0 : (clmV m rev oth).take (2 * p) ++ [s] <+: clmV m rev oth := by rw [← T0']; exact List.take_prefix _ _
        have px1 : (clmV m rev oth).take (2 * p + 1) ++ [o] <+: clmV m rev oth := by rw [← T1']; exact List.take_prefix _ _
        have hR := HY.out _ s #[dv s] S1 W5 J5 px0 ⟨rfl, HS32.out⟩
        have HR5 := Lib.hid hR; have PX0 := Lib.hid px0; have PX1 := Lib.hid px1; have A5 := Lib.hid a5; have P5 := Lib.hid P5; have T0 := Lib.hid T0'; have T1 := Lib.hid T1'; have Q2 := Lib.hid q2
        clear hR px0 px1 a5 e5 J5 T0' T1' q0 q1 q2 hSt hST hlv
        obtain ⟨fn, tmps, assign, body, hy, hRR⟩ := HR5.out
        simp only [Exit.then]
        apply_assumption
        refine wp_of_In ?_
        gi_wp2
        refine ⟨rfl, hRR.mono ?_⟩
        rintro e W6 ⟨S3, hv2, hs2, hz2, (⟨rfl, hJ2⟩ | ⟨rfl, hJx2⟩)⟩
        case inr =>
          clear hy hRR hl0
          have HX := Lib.hid hJx2; clear hv2 hs2 hz2 hJx2
          gi_wp2
          refine ⟨fun _ e => (by cases e), ?_⟩
          gi_wp2
          go_wp2_with fail
          refine bodyPost_ret (results_none rfl _ _ _) rfl ?_
          exact ⟨⟨_, rfl⟩, .inr ⟨_, _, PX0.out, HX.out⟩⟩
        case inl =>
          have a6 := A5.out.lv hv2 (fun hx => by have := HZ1.out _ hx; have := HG6.out; omega)
          have hl1 := a6.dg Q2.out (i := 1) (d := o) rfl
          rw [show 1 * 32 = 32 from rfl] at hl1
          rw [← T0.out] at hJ2
          have hR2 := HY.out _ o #[dv o] S3 W6 hJ2 PX1.out ⟨rfl, O32.out⟩
          have P6 := Lib.hid (P5.out.next hv2 hs2); have HR6 := Lib.hid hR2
          clear hy hRR hl0 hv2 hs2 hz2 hJ2 hR2 a6 HR5 A5 P5
          obtain ⟨fn, tmps, assign, body, hy, hRR⟩ := HR6.out
          gi_wp2
          refine ⟨rfl, hRR.mono ?_⟩
          rintro e W7 ⟨S4, hv3, hs3, hz3, (⟨rfl, hJ3⟩ | ⟨rfl, hJx3⟩)⟩
          case inr =>
            clear hy hRR hl1
            have HX := Lib.hid hJx3; clear hv3 hs3 hz3 hJx3
            gi_wp2
            go_wp2_with fail
            refine bodyPost_ret (results_none rfl _ _ _) rfl ?_
            exact ⟨⟨_, rfl⟩, .inr ⟨_, _, PX1.out, HX.out⟩⟩
          case inl =>
            have HP7 := Lib.hid (P6.out.next hv3 hs3); have HZ7 := Lib.hid hz3
            rw [← T1.out] at hJ3
            have HJ7 := Lib.hid hJ3
            clear hy hRR hv3 hs3 hz3 hJ3 P6 HR6 hl1
            gi_wp2
            go_wp2_with fail
            go_roundw
            case rel => exact ⟨p + 1, S4, by omega, by go_num, HJ7.out, HP7.out, HZ7.out⟩
            case measure => simp [intOf]; omega
      · have hix : (Instr.index 56 (.agg (bitsA m).toArray) (.int .i64 p)).run Try.prog wr = .ok (.int .i64 1) wr := by have := run_bidx m h wr; rw [hb] at this; exact this
        have hq0 : pairD m rev oth p 0 = o := by unfold pairD; rw [hb, hrr, hoo]; rfl
        have hq1 : pairD m rev oth p 1 = sumV r := by unfold pairD; rw [hb, hrr, hoo]; rfl
        rw [hq0] at t0; rw [hq1] at t1
        have T0 := Lib.hid t0; have T1 := Lib.hid t1
        clear t0 t1 hq0 hq1 hrr hoo hb
        go_wp2_with fail
        clear hix hbd hst hW2 hg6
        have hlv : Lv X w0 wr := HP1.out.1
        obtain ⟨s, hs⟩ : ∃ s, sumV r = s := ⟨_, rfl⟩
        have hs32 : s.length = 32 := by rw [← hs]; rfl
        rw [hs] at T1
        have HS := Lib.hid hs; have HS32 := Lib.hid hs32; clear hs hs32
        have hSt : Stab (fun W => Ext wr W ∧ Arr W g6 96 (dgs [List.replicate 32 0, List.replicate 32 0])) := (Stab.ext _).and (Stab.arr _ _ _)
        have hST : ∀ W, Ext wr W ∧ Arr W g6 96 (dgs [List.replicate 32 0, List.replicate 32 0]) → Lv X w0 W := fun W hx => hlv.ext hx.1
        refine wp_region_X (T := fun W => Lv X w0 W) (fun W => Ext wr W ∧ Arr W g6 96 (dgs [List.replicate 32 0, List.replicate 32 0])) (by kernel_rfl) ⟨E3.out.drew, A3.out.ext (Ext.refl W3).drew⟩ (wpX_takes (by kernel_rfl) (fun _ d _ _ _ h => by cases d <;> exact h) hSt hST (fuel := 3) [0,1,2,3,4,5,6,7,8,9,10,11,12,13,14] _ _ (by kernel_rfl) ?_)
        iterate 8
          refine wpTk_want rfl (Eq.refl true) ?_
          apply Exists.intro
          refine ⟨fun wx hx => ?_, ?_⟩
          · have hk := HK.out wx hx
            have c1 := hk.2.1.cell 1
            have d1 := dgs_load hk.2.2.1 HRW.out HR.out
            clear hx hk
            go_simp
            with_reducible exact gives_ok _ _ _
          simp only [Act.put, List.setIfInBounds_toArray, List.set_cons_zero, List.set_cons_succ, wrp0, wrp4, wrpa, wrpb]
        refine wpTk_want rfl (Eq.refl true) ⟨dv s, fun wx hx => ?_, ?_⟩
        · clear hx
          go_simp
          rw [← HS.out]
          exact gives_call _ _ _ (public_is r R32.out wx)
        simp only [Act.put, List.setIfInBounds_toArray, List.set_cons_zero, List.set_cons_succ, wrp0, wrp4, wrpa, wrpb]
        iterate 6
          refine wpTk_want rfl (Eq.refl true) ?_
          apply Exists.intro
          refine ⟨fun wx hx => ?_, ?_⟩
          · have hk := HK.out wx hx
            have c2 := hk.2.1.cell 2
            have d2 := dgs_load hk.2.2.2 HOW.out HO.out
            clear hx hk
            go_simp
            with_reducible exact gives_ok _ _ _
          simp only [Act.put, List.setIfInBounds_toArray, List.set_cons_zero, List.set_cons_succ, wrp0, wrp4, wrpa, wrpb]
        refine wpTk_nil ?_
        have q0 : ∀ d ∈ ([List.replicate 32 0, List.replicate 32 0] : List Bs), d.length = 32 := by simp
        have q1 : ∀ d ∈ ([List.replicate 32 0, s] : List Bs), d.length = 32 := by simp [HS32.out]
        have q2 : ∀ d ∈ ([o, s] : List Bs), d.length = 32 := by simp [HS32.out, O32.out]
        refine wpX_one 15 (by kernel_rfl) rfl rfl (fun wz hz K hK => ?_)
        obtain ⟨W4, hst, t4, g4⟩ := hz.2.dgput q0 (i := 1) (by simp) (d := s) HS32.out
        rw [show 1 * 32 = 32 from rfl] at hst
        have TE := hz.1.grownBy g4 (Nat.le_of_eq HG6.out)
        go_simp
        refine hK _ _ ⟨fun W => Ext wr W ∧ Arr W g6 96 (dgs [List.replicate 32 0, s]), (Stab.ext _).and (Stab.arr _ _ _), fun W hx => hlv.ext hx.1, ⟨TE, t4⟩, ?_⟩
        clear hK K hz hst t4 g4 TE wz W4
        refine wpX_one 16 (by kernel_rfl) rfl rfl (fun wz hz K hK => ?_)
        go_simp
        refine hK _ _ ⟨fun W => Ext wr W ∧ Arr W g6 96 (dgs [List.replicate 32 0, s]), (Stab.ext _).and (Stab.arr _ _ _), fun W hx => hlv.ext hx.1, hz, ?_⟩
        clear hK K hz wz
        refine wpX_one 17 (by kernel_rfl) rfl rfl (fun wz hz K hK => ?_)
        obtain ⟨W4, hst, t4, g4⟩ := hz.2.dgput q1 (i := 0) (by simp) (d := o) O32.out
        rw [show 0 * 32 = 0 from rfl] at hst
        have TE := hz.1.grownBy g4 (Nat.le_of_eq HG6.out)
        go_simp
        refine hK _ _ ⟨fun W => Ext wr W ∧ Arr W g6 96 (dgs [o, s]), (Stab.ext _).and (Stab.arr _ _ _), fun W hx => hlv.ext hx.1, ⟨TE, t4⟩, ?_⟩
        clear hK K hz hst t4 g4 TE wz W4
        refine wpX_done (by kernel_rfl) (fun W5 hz => ?_) _
        obtain ⟨e5, a5⟩ := hz
        have hl0 := a5.dg q2 (i := 0) (d := o) rfl
        rw [show 0 * 32 = 0 from rfl] at hl0
        have P5 : PreT X w0 S1 W5 := ⟨hlv.ext e5, HP1.out.2⟩
        have J5 := HJ.out _ _ _ _ HJ1.out (Lv.of_ext e5)
        have T0' : (clmV m rev oth).take (2 * p + 1) = (clmV m rev oth).take (2 * p) ++ [o] := T0.out
        have T1' : (clmV m rev oth).take (2 * (p + 1)) = (clmV m rev oth).take (2 * p + 1) ++ [s] := T1.out
        have px0 : (clmV m rev oth).take (2 * p) ++ [o] <+: clmV m rev oth := by rw [← T0']; exact List.take_prefix _ _
        have px1 : (clmV m rev oth).take (2 * p + 1) ++ [s] <+: clmV m rev oth := by rw [← T1']; exact List.take_prefix _ _
        have hR := HY.out _ o #[dv o] S1 W5 J5 px0 ⟨rfl, O32.out⟩
        have HR5 := Lib.hid hR; have PX0 := Lib.hid px0; have PX1 := Lib.hid px1; have A5 := Lib.hid a5; have P5 := Lib.hid P5; have T0 := Lib.hid T0'; have T1 := Lib.hid T1'; have Q2 := Lib.hid q2
        clear hR px0 px1 a5 e5 J5 T0' T1' q0 q1 q2 hSt hST hlv
        obtain ⟨fn, tmps, assign, body, hy, hRR⟩ := HR5.out
        simp only [Exit.then]
        apply_assumption
        refine wp_of_In ?_
        gi_wp2
        refine ⟨rfl, hRR.mono ?_⟩
        rintro e W6 ⟨S3, hv2, hs2, hz2, (⟨rfl, hJ2⟩ | ⟨rfl, hJx2⟩)⟩
        case inr =>
          clear hy hRR hl0
          have HX := Lib.hid hJx2; clear hv2 hs2 hz2 hJx2
          gi_wp2
          refine ⟨fun _ e => (by cases e), ?_⟩
          gi_wp2
          go_wp2_with fail
          refine bodyPost_ret (results_none rfl _ _ _) rfl ?_
          exact ⟨⟨_, rfl⟩, .inr ⟨_, _, PX0.out, HX.out⟩⟩
        case inl =>
          have a6 := A5.out.lv hv2 (fun hx => by have := HZ1.out _ hx; have := HG6.out; omega)
          have hl1 := a6.dg Q2.out (i := 1) (d := s) rfl
          rw [show 1 * 32 = 32 from rfl] at hl1
          rw [← T0.out] at hJ2
          have hR2 := HY.out _ s #[dv s] S3 W6 hJ2 PX1.out ⟨rfl, HS32.out⟩
          have P6 := Lib.hid (P5.out.next hv2 hs2); have HR6 := Lib.hid hR2
          clear hy hRR hl0 hv2 hs2 hz2 hJ2 hR2 a6 HR5 A5 P5
          obtain ⟨fn, tmps, assign, body, hy, hRR⟩ := HR6.out
          gi_wp2
          refine ⟨rfl, hRR.mono ?_⟩
          rintro e W7 ⟨S4, hv3, hs3, hz3, (⟨rfl, hJ3⟩ | ⟨rfl, hJx3⟩)⟩
          case inr =>
            clear hy hRR hl1
            have HX := Lib.hid hJx3; clear hv3 hs3 hz3 hJx3
            gi_wp2
            go_wp2_with fail
            refine bodyPost_ret (results_none rfl _ _ _) rfl ?_
            exact ⟨⟨_, rfl⟩, .inr ⟨_, _, PX1.out, HX.out⟩⟩
          case inl =>
            have HP7 := Lib.hid (P6.out.next hv3 hs3); have HZ7 := Lib.hid hz3
            rw [← T1.out] at hJ3
            have HJ7 := Lib.hid hJ3
            clear hy hRR hv3 hs3 hz3 hJ3 P6 HR6 hl1
            gi_wp2
            go_wp2_with fail
            go_roundw
            case rel => exact ⟨p + 1, S4, by omega, by go_num, HJ7.out, HP7.out, HZ7.out⟩
            case measure => simp [intOf]; omega
    · obtain rfl : p = 128 := by omega
      have hall : (clmV m rev oth).take (2 * 128) = clmV m rev oth := List.take_of_length_le (by rw [clm_len]; omega)
      have hJf := HJ1.out
      rw [hall] at hJf
      have HJF := Lib.hid hJf; clear hall hJf
      go_wp2_with fail
      refine bodyPost_end (results_none rfl _ _ _) rfl ?_
      exact ⟨⟨_, rfl⟩, .inl ⟨_, HJF.out⟩⟩
end Go.Proofs.Ytmmcjcaccicheaa

/- Lamport's Public. No condition. -/
import Derived.Test.YtmmcjcaccicheaaTfDgs
import Derived.Test.YtmmcjcaccicheaaHiApp
namespace Go.Proofs.Ytmmcjcaccicheaa
open Go.RowKit
/-- Two operations that read: in either order. -/
theorem wpX_reads2 {P : Program} {Q : Exit → Act → World → Prop} {T : World → Prop} {md : Region.Mode} {l : List Oper} (i j : Nat) (vi vj : Value) {oi oj : Oper} {fuel : Nat} {listed : Array Bool} {S : World → Prop} {a : Act} (hr : Region.ready md l.toArray listed = [i, j])
    (hri : Region.ready md l.toArray (listed.setIfInBounds i true) = [j]) (hrj : Region.ready md l.toArray (listed.setIfInBounds j true) = [i]) (hij : i ≠ j)
    (hoi : nth l i = some oi) (hoj : nth l j = some oj) (hgi : oi.guard = none) (hgj : oj.guard = none) (hd : ∀ d, oi.dst = some d → oj.dst ≠ some d)
    (hst : Stab S) (hST : ∀ w, S w → T w)
    (ri : ∀ w, S w → Gives P vi w ((execOp a.eval oi).run P w)) (ri' : ∀ w, S w → Gives P vi w ((execOp (a.put oj.dst vj).eval oi).run P w))
    (rj : ∀ w, S w → Gives P vj w ((execOp a.eval oj).run P w)) (rj' : ∀ w, S w → Gives P vj w ((execOp (a.put oi.dst vi).eval oj).run P w))
    (h : wpX P md l.toArray Q T fuel ((listed.setIfInBounds i true).setIfInBounds j true) S ((a.put oi.dst vi).put oj.dst vj)) :
    wpX P md l.toArray Q T (fuel + 1 + 1) listed S a := by
  refine wpX_two i j hr hoi hgi hoj hgj (fun w hS K hK => wp_of_gives (ri w hS) fun w' e => hK _ _ ⟨S, hst, hST, hst _ _ e hS, ?_⟩) (fun w hS K hK => wp_of_gives (rj w hS) fun w' e => hK _ _ ⟨S, hst, hST, hst _ _ e hS, ?_⟩)
  · exact wpX_one j hri hoj hgj (fun w hS K hK => wp_of_gives (rj' w hS) fun w' e => hK _ _ ⟨S, hst, hST, hst _ _ e hS, h⟩)
  · refine wpX_one i hrj hoi hgi (fun w hS K hK => wp_of_gives (ri' w hS) fun w' e => hK _ _ ⟨S, hst, hST, hst _ _ e hS, ?_⟩)
    rw [Array.setIfInBounds_comm _ _ hij, Act.put_comm a _ _ hd] at h
    exact h
theorem wrp0 : IntKind.i64.wrap 0 = 0 := rfl
theorem wrp1 : IntKind.i64.wrap (0 + 1) = 1 := rfl
theorem wrp2 : IntKind.i64.wrap 2 = 2 := rfl
theorem wrp3 : IntKind.i64.wrap (2 + 1) = 3 := rfl
theorem wrp4 : IntKind.i64.wrap 1 = 1 := rfl
theorem wrp5 : IntKind.i64.wrap 3 = 3 := rfl
theorem Stab.arr (g : Nat) (t : TypeId) (l : List Value) : Stab (fun w => Arr w g t l) := fun _ _ e h => h.ext e
def rootV (sd : Bs) : Bs := nodV (nodV (lfOf sd 0) (lfOf sd 1)) (nodV (lfOf sd 2) (lfOf sd 3))
theorem zd4' : ZD4.toList = dgs (zdgs 4) := zd4
/-- The leaves done, the rest 0. -/
def lvsV (sd : Bs) (k : Nat) : List Bs := (List.range k).map (lfOf sd) ++ zdgs (4 - k)
theorem lvs_len (sd : Bs) {k : Nat} (h : k ≤ 4) : (lvsV sd k).length = 4 := by unfold lvsV zdgs; simp; omega
theorem lvs_wf (sd : Bs) (k : Nat) : ∀ d ∈ lvsV sd k, d.length = 32 := by
  intro d hd; unfold lvsV at hd
  rcases List.mem_append.1 hd with h | h
  · obtain ⟨i, -, rfl⟩ := List.mem_map.1 h; rfl
  · exact zdgs_wf _ d h
theorem lvs_set (sd : Bs) {k : Nat} (h : k < 4) : (lvsV sd k).set k (lfOf sd k) = lvsV sd (k + 1) := by
  match k, h with
  | 0, _ => rfl | 1, _ => rfl | 2, _ => rfl | 3, _ => rfl
set_option maxRecDepth 100000 in
set_option maxHeartbeats 8000000 in
theorem lpublic_is (sd : Bs) (hs : sd.length < 134217728) (w : World) : Calls Try.prog 10 #[.string (bst sd)] w fun e w' => e = .returned (dv (rootV sd)) ∧ Ext w w' := by
  have p0 := (Arr.new w ZDg 34).ext ((Ext.refl _).alloc (.cells ZD4 66))
  have p1 := Arr.new (w.alloc (.cells ZDg 34)) ZD4 66
  have e0 : Ext w ((w.alloc (.cells ZDg 34)).alloc (.cells ZD4 66)) := ((Ext.refl w).alloc _).alloc _
  rw [World.size_alloc, zd4'] at p1
  obtain ⟨g2, hg2⟩ : ∃ g, w.heap.size = g := ⟨_, rfl⟩
  obtain ⟨W1, hW1⟩ : ∃ W, (w.alloc (.cells ZDg 34)).alloc (.cells ZD4 66) = W := ⟨_, rfl⟩
  rw [hW1, hg2] at p0 p1; rw [hW1] at e0
  have P0 := Lib.hid p0; have P1 := Lib.hid p1; have E0 := Lib.hid e0; have HG := Lib.hid hg2
  clear p0 p1 e0
  go_enter Try.func10, Try.ntmps10
  go_wp2_with fail
  clear hW1 hg2
  go_loopw [7] (fun v7 wq => ∃ k : Nat, k ≤ 4 ∧ v7 = .int .i64 k ∧ Arr wq g2 34 ZDg.toList ∧ Arr wq (g2 + 1) 66 (dgs (lvsV sd k)) ∧ Ext w wq) (fun v7 _ => 4 - (intOf v7).toNat)
  case atStart => exact ⟨0, by omega, rfl, P0.out, P1.out, E0.out⟩
  case round =>
    clear P0 P1 E0
    obtain ⟨k, hk, rfl, p0, p1, e0⟩ := hrel
    have P0 := Lib.hid p0; have P1 := Lib.hid p1; have E0 := Lib.hid e0; clear p0 p1 e0
    by_cases h : k < 4
    · as_aux_lemma =>
        have h0 : (0 : Int) ≤ k := Int.natCast_nonneg _
        have h4 : (k : Int) < 4 := by omega
        go_wp2_with fail
        refine (leaf_is sd hs k _).mono ?_
        rintro e w3 ⟨rfl, hE3⟩
        obtain ⟨W4, hst, t4, g4⟩ := (P1.out.ext hE3).dgput (lvs_wf sd k) (i := k) (by rw [lvs_len sd hk]; exact h) (d := lfOf sd k) rfl
        rw [lvs_set sd h] at t4
        have T0 := Lib.hid ((P0.out.ext hE3).grown g4 (by omega)); have T1 := Lib.hid t4; have TE := Lib.hid ((E0.out.trans hE3).grownBy g4 (by rw [HG.out]; omega))
        clear t4 g4 hE3
        go_wp2_with fail
        go_roundw
        case rel => exact ⟨k + 1, by omega, by go_num, T0.out, T1.out, TE.out⟩
        case measure => simp [intOf]; omega
    · obtain rfl : k = 4 := by omega
      have hl4 : lvsV sd 4 = [lfOf sd 0, lfOf sd 1, lfOf sd 2, lfOf sd 3] := rfl
      rw [hl4] at P1
      obtain ⟨l0, e0⟩ : ∃ l, lfOf sd 0 = l := ⟨_, rfl⟩
      obtain ⟨l1, e1⟩ : ∃ l, lfOf sd 1 = l := ⟨_, rfl⟩
      obtain ⟨l2, e2⟩ : ∃ l, lfOf sd 2 = l := ⟨_, rfl⟩
      obtain ⟨l3, e3⟩ : ∃ l, lfOf sd 3 = l := ⟨_, rfl⟩
      have hrt : rootV sd = nodV (nodV l0 l1) (nodV l2 l3) := by unfold rootV; rw [e0, e1, e2, e3]
      have Hl0 : l0.length = 32 := by rw [← e0]; rfl
      have Hl1 : l1.length = 32 := by rw [← e1]; rfl
      have Hl2 : l2.length = 32 := by rw [← e2]; rfl
      have Hl3 : l3.length = 32 := by rw [← e3]; rfl
      rw [e0, e1, e2, e3] at P1
      obtain ⟨n0, en0⟩ : ∃ l, nodV l0 l1 = l := ⟨_, rfl⟩
      obtain ⟨n1, en1⟩ : ∃ l, nodV l2 l3 = l := ⟨_, rfl⟩
      obtain ⟨r, er⟩ : ∃ l, nodV n0 n1 = l := ⟨_, rfl⟩
      have Hn0 : n0.length = 32 := by rw [← en0]; rfl
      have Hn1 : n1.length = 32 := by rw [← en1]; rfl
      have Hr : r.length = 32 := by rw [← er]; rfl
      rw [en0, en1, er] at hrt
      have HRT := Lib.hid hrt; have EN0 := Lib.hid en0; have EN1 := Lib.hid en1; have ER := Lib.hid er
      have HL0 := Lib.hid Hl0; have HL1 := Lib.hid Hl1; have HL2 := Lib.hid Hl2; have HL3 := Lib.hid Hl3; have HN0 := Lib.hid Hn0; have HN1 := Lib.hid Hn1; have HR := Lib.hid Hr
      clear hrt en0 en1 er e0 e1 e2 e3 hl4 Hl0 Hl1 Hl2 Hl3 Hn0 Hn1 Hr
      rw [show (((4 : Nat)) : Int) = 4 from rfl]
      go_wp2_with fail
      go_loopw [5] (fun v5 wq => Arr wq g2 34 ZDg.toList ∧ Ext w wq ∧ ((v5 = .int .i64 2 ∧ Arr wq (g2 + 1) 66 (dgs [l0, l1, l2, l3])) ∨ (v5 = .int .i64 1 ∧ Arr wq (g2 + 1) 66 (dgs [n0, n1, l2, l3])) ∨ (v5 = .int .i64 0 ∧ Arr wq (g2 + 1) 66 (dgs [r, n1, l2, l3])))) (fun v5 _ => (intOf v5).toNat)
      case atStart => exact ⟨P0.out, E0.out, .inl ⟨rfl, P1.out⟩⟩
      case round =>
        clear P0 P1 E0
        obtain ⟨p0, e0, hcase⟩ := hrel
        have P0 := Lib.hid p0; have E0 := Lib.hid e0; clear p0 e0
        rcases hcase with ⟨rfl, p1⟩ | ⟨rfl, p1⟩ | ⟨rfl, p1⟩
        · have P1 := Lib.hid p1; clear p1
          go_wp2_with fail
          go_loopw [21] (fun v21 wq => Arr wq g2 34 ZDg.toList ∧ Ext w wq ∧ ((v21 = .int .i64 0 ∧ Arr wq (g2 + 1) 66 (dgs [l0, l1, l2, l3])) ∨ (v21 = .int .i64 1 ∧ Arr wq (g2 + 1) 66 (dgs [n0, l1, l2, l3])) ∨ (v21 = .int .i64 2 ∧ Arr wq (g2 + 1) 66 (dgs [n0, n1, l2, l3])))) (fun v21 _ => 2 - (intOf v21).toNat)
          case atStart => exact ⟨P0.out, E0.out, .inl ⟨rfl, P1.out⟩⟩
          case round =>
            clear P0 P1 E0
            obtain ⟨p0, e0, hcase⟩ := hrel
            have P0 := Lib.hid p0; have E0 := Lib.hid e0; clear p0 e0
            rcases hcase with ⟨rfl, p1⟩ | ⟨rfl, p1⟩ | ⟨rfl, p1⟩
            · have P1 := Lib.hid p1; clear p1
              as_aux_lemma =>
                have w4 : ∀ d ∈ [l0, l1, l2, l3], d.length = 32 := by simp [HL0.out, HL1.out, HL2.out, HL3.out]
                have hSs : Stab (fun wx => (Arr wx g2 34 ZDg.toList ∧ Ext w wx) ∧ Arr wx (g2 + 1) 66 (dgs [l0, l1, l2, l3])) := ((Stab.arr _ _ _).and (Stab.ext _)).and (Stab.arr _ _ _)
                obtain ⟨S, hS⟩ : ∃ S, S = (fun wx => (Arr wx g2 34 ZDg.toList ∧ Ext w wx) ∧ Arr wx (g2 + 1) 66 (dgs [l0, l1, l2, l3])) := ⟨_, rfl⟩
                rw [← hS] at hSs
                have hS0 : S wr.drew := by rw [hS]; exact ⟨⟨P0.out.ext (Ext.refl wr).drew, E0.out.drew⟩, P1.out.ext (Ext.refl wr).drew⟩
                clear P0 P1 E0
                go_wp2_with fail
                refine wp_region_X (T := fun _ => True) S (by kernel_rfl) hS0 (wpX_takes (by kernel_rfl) (fun _ d _ _ _ h => by cases d <;> exact h) hSs (fun _ _ => trivial) (fuel := 5) [0,1,2,3,5,6,7,8] _ _ (by kernel_rfl) ?_)
                iterate 8
                  refine wpTk_want rfl (Eq.refl true) ?_
                  apply Exists.intro
                  refine ⟨fun wx hx => ?_, ?_⟩
                  · clear hx
                    go_simp
                    with_reducible exact gives_ok _ _ _
                  simp only [Act.put, List.setIfInBounds_toArray, List.set_cons_zero, List.set_cons_succ, wrp0, wrp1, wrp2, wrp3, wrp4, wrp5]
                refine wpTk_nil ?_
                refine wpX_reads2 4 9 (dv l0) (dv l1) (by kernel_rfl) (by kernel_rfl) (by kernel_rfl) (by decide) rfl rfl rfl rfl (fun d h => by cases h; decide) hSs (fun _ _ => trivial) (fun wx hx => ?_) (fun wx hx => ?_) (fun wx hx => ?_) (fun wx hx => ?_) ?_
                iterate 2
                  rw [hS] at hx
                  have hd1 := hx.2.dg w4 (i := 0) (d := l0) rfl
                  rw [show 0 * 32 = 0 from rfl] at hd1
                  clear hx
                  go_simp
                  with_reducible exact gives_ok _ _ _
                iterate 2
                  rw [hS] at hx
                  have hd1 := hx.2.dg w4 (i := 1) (d := l1) rfl
                  rw [show 1 * 32 = 32 from rfl] at hd1
                  clear hx
                  go_simp
                  with_reducible exact gives_ok _ _ _
                simp only [Act.put, List.setIfInBounds_toArray, List.set_cons_zero, List.set_cons_succ]
                refine wpX_one 10 (by kernel_rfl) rfl rfl (fun wx hx K hK => ?_)
                go_simp
                refine (node_is l0 l1 HL0.out HL1.out _).mono ?_
                rintro e wy ⟨rfl, hE⟩
                rw [EN0.out]
                refine hK _ _ ⟨S, hSs, fun _ _ => trivial, hSs _ _ hE hx, ?_⟩
                clear hK K hx hE wx wy
                refine wpX_one 11 (by kernel_rfl) rfl rfl (fun wz hz K hK => ?_)
                go_simp
                refine hK _ _ ⟨S, hSs, fun _ _ => trivial, hz, ?_⟩
                clear hK K hz wz
                refine wpX_one 12 (by kernel_rfl) rfl rfl (fun wz hz K hK => ?_)
                rw [hS] at hz
                obtain ⟨W4, hst, t4, g4⟩ := hz.2.dgput w4 (i := 0) (by simp) (d := n0) HN0.out
                rw [show 0 * 32 = 0 from rfl] at hst
                have T0 := hz.1.1.grown g4 (by omega); have TE := hz.1.2.grownBy g4 (by rw [HG.out]; omega)
                go_simp
                refine hK _ _ ⟨fun wx => (Arr wx g2 34 ZDg.toList ∧ Ext w wx) ∧ Arr wx (g2 + 1) 66 (dgs ([l0, l1, l2, l3].set 0 n0)), ((Stab.arr _ _ _).and (Stab.ext _)).and (Stab.arr _ _ _), fun _ _ => trivial, ⟨⟨T0, TE⟩, t4⟩, ?_⟩
                clear hK K hz hst t4 g4 T0 TE wz W4
                refine wpX_done (by kernel_rfl) (fun wz hz => ?_) _
                have T0 := Lib.hid hz.1.1; have TE := Lib.hid hz.1.2; have T1 := Lib.hid hz.2
                clear hz hS hSs hS0
                go_wp2_with fail
                go_roundw
                case rel => exact ⟨T0.out, TE.out, .inr (.inl ⟨rfl, T1.out⟩)⟩
                case measure => simp [intOf]
            · have P1 := Lib.hid p1; clear p1
              as_aux_lemma =>
                have w4 : ∀ d ∈ [n0, l1, l2, l3], d.length = 32 := by simp [HN0.out, HL1.out, HL2.out, HL3.out]
                have hSs : Stab (fun wx => (Arr wx g2 34 ZDg.toList ∧ Ext w wx) ∧ Arr wx (g2 + 1) 66 (dgs [n0, l1, l2, l3])) := ((Stab.arr _ _ _).and (Stab.ext _)).and (Stab.arr _ _ _)
                obtain ⟨S, hS⟩ : ∃ S, S = (fun wx => (Arr wx g2 34 ZDg.toList ∧ Ext w wx) ∧ Arr wx (g2 + 1) 66 (dgs [n0, l1, l2, l3])) := ⟨_, rfl⟩
                rw [← hS] at hSs
                have hS0 : S wr.drew := by rw [hS]; exact ⟨⟨P0.out.ext (Ext.refl wr).drew, E0.out.drew⟩, P1.out.ext (Ext.refl wr).drew⟩
                clear P0 P1 E0
                go_wp2_with fail
                refine wp_region_X (T := fun _ => True) S (by kernel_rfl) hS0 (wpX_takes (by kernel_rfl) (fun _ d _ _ _ h => by cases d <;> exact h) hSs (fun _ _ => trivial) (fuel := 5) [0,1,2,3,5,6,7,8] _ _ (by kernel_rfl) ?_)
                iterate 8
                  refine wpTk_want rfl (Eq.refl true) ?_
                  apply Exists.intro
                  refine ⟨fun wx hx => ?_, ?_⟩
                  · clear hx
                    go_simp
                    with_reducible exact gives_ok _ _ _
                  simp only [Act.put, List.setIfInBounds_toArray, List.set_cons_zero, List.set_cons_succ, wrp0, wrp1, wrp2, wrp3, wrp4, wrp5]
                refine wpTk_nil ?_
                refine wpX_reads2 4 9 (dv l2) (dv l3) (by kernel_rfl) (by kernel_rfl) (by kernel_rfl) (by decide) rfl rfl rfl rfl (fun d h => by cases h; decide) hSs (fun _ _ => trivial) (fun wx hx => ?_) (fun wx hx => ?_) (fun wx hx => ?_) (fun wx hx => ?_) ?_
                iterate 2
                  rw [hS] at hx
                  have hd1 := hx.2.dg w4 (i := 2) (d := l2) rfl
                  rw [show 2 * 32 = 64 from rfl] at hd1
                  clear hx
                  go_simp
                  with_reducible exact gives_ok _ _ _
                iterate 2
                  rw [hS] at hx
                  have hd1 := hx.2.dg w4 (i := 3) (d := l3) rfl
                  rw [show 3 * 32 = 96 from rfl] at hd1
                  clear hx
                  go_simp
                  with_reducible exact gives_ok _ _ _
                simp only [Act.put, List.setIfInBounds_toArray, List.set_cons_zero, List.set_cons_succ]
                refine wpX_one 10 (by kernel_rfl) rfl rfl (fun wx hx K hK => ?_)
                go_simp
                refine (node_is l2 l3 HL2.out HL3.out _).mono ?_
                rintro e wy ⟨rfl, hE⟩
                rw [EN1.out]
                refine hK _ _ ⟨S, hSs, fun _ _ => trivial, hSs _ _ hE hx, ?_⟩
                clear hK K hx hE wx wy
                refine wpX_one 11 (by kernel_rfl) rfl rfl (fun wz hz K hK => ?_)
                go_simp
                refine hK _ _ ⟨S, hSs, fun _ _ => trivial, hz, ?_⟩
                clear hK K hz wz
                refine wpX_one 12 (by kernel_rfl) rfl rfl (fun wz hz K hK => ?_)
                rw [hS] at hz
                obtain ⟨W4, hst, t4, g4⟩ := hz.2.dgput w4 (i := 1) (by simp) (d := n1) HN1.out
                rw [show 1 * 32 = 32 from rfl] at hst
                have T0 := hz.1.1.grown g4 (by omega); have TE := hz.1.2.grownBy g4 (by rw [HG.out]; omega)
                go_simp
                refine hK _ _ ⟨fun wx => (Arr wx g2 34 ZDg.toList ∧ Ext w wx) ∧ Arr wx (g2 + 1) 66 (dgs ([n0, l1, l2, l3].set 1 n1)), ((Stab.arr _ _ _).and (Stab.ext _)).and (Stab.arr _ _ _), fun _ _ => trivial, ⟨⟨T0, TE⟩, t4⟩, ?_⟩
                clear hK K hz hst t4 g4 T0 TE wz W4
                refine wpX_done (by kernel_rfl) (fun wz hz => ?_) _
                have T0 := Lib.hid hz.1.1; have TE := Lib.hid hz.1.2; have T1 := Lib.hid hz.2
                clear hz hS hSs hS0
                go_wp2_with fail
                go_roundw
                case rel => exact ⟨T0.out, TE.out, .inr (.inr ⟨rfl, T1.out⟩)⟩
                case measure => simp [intOf]
            · go_wp2_with fail
              go_roundw
              case rel => exact ⟨P0.out, E0.out, .inr (.inl ⟨rfl, p1⟩)⟩
              case measure => simp [intOf]
        · have P1 := Lib.hid p1; clear p1
          go_wp2_with fail
          go_loopw [21] (fun v21 wq => Arr wq g2 34 ZDg.toList ∧ Ext w wq ∧ ((v21 = .int .i64 0 ∧ Arr wq (g2 + 1) 66 (dgs [n0, n1, l2, l3])) ∨ (v21 = .int .i64 1 ∧ Arr wq (g2 + 1) 66 (dgs [r, n1, l2, l3])))) (fun v21 _ => 1 - (intOf v21).toNat)
          case atStart => exact ⟨P0.out, E0.out, .inl ⟨rfl, P1.out⟩⟩
          case round =>
            clear P0 P1 E0
            obtain ⟨p0, e0, hcase⟩ := hrel
            have P0 := Lib.hid p0; have E0 := Lib.hid e0; clear p0 e0
            rcases hcase with ⟨rfl, p1⟩ | ⟨rfl, p1⟩
            · have P1 := Lib.hid p1; clear p1
              as_aux_lemma =>
                have w4 : ∀ d ∈ [n0, n1, l2, l3], d.length = 32 := by simp [HN0.out, HN1.out, HL2.out, HL3.out]
                have hSs : Stab (fun wx => (Arr wx g2 34 ZDg.toList ∧ Ext w wx) ∧ Arr wx (g2 + 1) 66 (dgs [n0, n1, l2, l3])) := ((Stab.arr _ _ _).and (Stab.ext _)).and (Stab.arr _ _ _)
                obtain ⟨S, hS⟩ : ∃ S, S = (fun wx => (Arr wx g2 34 ZDg.toList ∧ Ext w wx) ∧ Arr wx (g2 + 1) 66 (dgs [n0, n1, l2, l3])) := ⟨_, rfl⟩
                rw [← hS] at hSs
                have hS0 : S wr.drew := by rw [hS]; exact ⟨⟨P0.out.ext (Ext.refl wr).drew, E0.out.drew⟩, P1.out.ext (Ext.refl wr).drew⟩
                clear P0 P1 E0
                go_wp2_with fail
                refine wp_region_X (T := fun _ => True) S (by kernel_rfl) hS0 (wpX_takes (by kernel_rfl) (fun _ d _ _ _ h => by cases d <;> exact h) hSs (fun _ _ => trivial) (fuel := 5) [0,1,2,3,5,6,7,8] _ _ (by kernel_rfl) ?_)
                iterate 8
                  refine wpTk_want rfl (Eq.refl true) ?_
                  apply Exists.intro
                  refine ⟨fun wx hx => ?_, ?_⟩
                  · clear hx
                    go_simp
                    with_reducible exact gives_ok _ _ _
                  simp only [Act.put, List.setIfInBounds_toArray, List.set_cons_zero, List.set_cons_succ, wrp0, wrp1, wrp2, wrp3, wrp4, wrp5]
                refine wpTk_nil ?_
                refine wpX_reads2 4 9 (dv n0) (dv n1) (by kernel_rfl) (by kernel_rfl) (by kernel_rfl) (by decide) rfl rfl rfl rfl (fun d h => by cases h; decide) hSs (fun _ _ => trivial) (fun wx hx => ?_) (fun wx hx => ?_) (fun wx hx => ?_) (fun wx hx => ?_) ?_
                iterate 2
                  rw [hS] at hx
                  have hd1 := hx.2.dg w4 (i := 0) (d := n0) rfl
                  rw [show 0 * 32 = 0 from rfl] at hd1
                  clear hx
                  go_simp
                  with_reducible exact gives_ok _ _ _
                iterate 2
                  rw [hS] at hx
                  have hd1 := hx.2.dg w4 (i := 1) (d := n1) rfl
                  rw [show 1 * 32 = 32 from rfl] at hd1
                  clear hx
                  go_simp
                  with_reducible exact gives_ok _ _ _
                simp only [Act.put, List.setIfInBounds_toArray, List.set_cons_zero, List.set_cons_succ]
                refine wpX_one 10 (by kernel_rfl) rfl rfl (fun wx hx K hK => ?_)
                go_simp
                refine (node_is n0 n1 HN0.out HN1.out _).mono ?_
                rintro e wy ⟨rfl, hE⟩
                rw [ER.out]
                refine hK _ _ ⟨S, hSs, fun _ _ => trivial, hSs _ _ hE hx, ?_⟩
                clear hK K hx hE wx wy
                refine wpX_one 11 (by kernel_rfl) rfl rfl (fun wz hz K hK => ?_)
                go_simp
                refine hK _ _ ⟨S, hSs, fun _ _ => trivial, hz, ?_⟩
                clear hK K hz wz
                refine wpX_one 12 (by kernel_rfl) rfl rfl (fun wz hz K hK => ?_)
                rw [hS] at hz
                obtain ⟨W4, hst, t4, g4⟩ := hz.2.dgput w4 (i := 0) (by simp) (d := r) HR.out
                rw [show 0 * 32 = 0 from rfl] at hst
                have T0 := hz.1.1.grown g4 (by omega); have TE := hz.1.2.grownBy g4 (by rw [HG.out]; omega)
                go_simp
                refine hK _ _ ⟨fun wx => (Arr wx g2 34 ZDg.toList ∧ Ext w wx) ∧ Arr wx (g2 + 1) 66 (dgs ([n0, n1, l2, l3].set 0 r)), ((Stab.arr _ _ _).and (Stab.ext _)).and (Stab.arr _ _ _), fun _ _ => trivial, ⟨⟨T0, TE⟩, t4⟩, ?_⟩
                clear hK K hz hst t4 g4 T0 TE wz W4
                refine wpX_done (by kernel_rfl) (fun wz hz => ?_) _
                have T0 := Lib.hid hz.1.1; have TE := Lib.hid hz.1.2; have T1 := Lib.hid hz.2
                clear hz hS hSs hS0
                go_wp2_with fail
                go_roundw
                case rel => exact ⟨T0.out, TE.out, .inr ⟨rfl, T1.out⟩⟩
                case measure => simp [intOf]
            · go_wp2_with fail
              go_roundw
              case rel => exact ⟨P0.out, E0.out, .inr (.inr ⟨rfl, p1⟩)⟩
              case measure => simp [intOf]
        · have P1 := Lib.hid p1; clear p1
          have w4 : ∀ d ∈ [r, n1, l2, l3], d.length = 32 := by simp [HR.out, HN1.out, HL2.out, HL3.out]
          have hd1 := P1.out.dg w4 (i := 0) (d := r) rfl
          obtain ⟨W3, hst, t3, x3, -, -⟩ := put_dg P0.out zdg_len r HR.out
          have EX := Lib.hid (x3 w E0.out (Nat.le_of_eq HG.out)); have TT := Lib.hid t3
          clear x3 t3
          rw [Nat.zero_mul] at hd1
          go_wp2_with fail
          exact ret_cell (A := ⟨g2, 0, none⟩) rfl rfl (dg_ret TT.out HR.out) rfl ⟨by rw [HRT.out], EX.out⟩
end Go.Proofs.Ytmmcjcaccicheaa

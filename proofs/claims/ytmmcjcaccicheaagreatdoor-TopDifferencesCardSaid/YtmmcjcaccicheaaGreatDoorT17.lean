/- PaMidA PaKept: parts of the proof of TopDifferences, one text behind the other. No condition. -/
import Derived.Test.YtmmcjcaccicheaaGreatDoorT16
import Derived.Test.YtmmcjcaccicheaaGreatDoorT15
/- Contracts: middle, diff, Diff. -/
namespace Go.Proofs.YtmmcjcaccicheaaGreatDoor
open Go.RowKit
attribute [local go_sem] Oper.semAt_some

set_option maxRecDepth 100000 in
set_option maxHeartbeats 8000000 in
theorem middle_of_diff (f : Nat) (wO : World) (gm base : Nat) (A : Option Addr) (c : Nat) (B : Option Addr) (d : Nat) (a b : Lns) (hoA : Strs wO A a.length a) (hoB : Strs wO B b.length b) (hgO : wO.heap.size ≤ gm) (hc : a.length ≤ c) (hd : b.length ≤ d) (hn : a.length ≤ 125) (hm : b.length ≤ 125) (hD : DiffC f wO gm base A c B d a b) : MidC f wO gm base A c B d a b := by
  intro p ms v w hS hO hB h1 h2 h3 h4 hf hlen
  obtain ⟨pa, pa', pb, pb'⟩ := p
  dsimp only at h1 h2 h3 h4 hf hlen
  by_cases hcase : pa' - pa ≠ 0 ∧ pb' - pb ≠ 0 ∧ longV (uniqV (cutV a pa pa') (cutV b pb pb')) ≠ []
  case pos => exact middle_parts f wO gm base A c B d a b hoA hoB hgO hc hd hn hm hD pa pa' pb pb' ms v w hS hO hB h1 h2 h3 h4 hf hlen hcase.1 hcase.2.1 hcase.2.2
  have HCASE := Lib.hid hcase; clear hcase
  have ha := hoA.ext hO
  have hb := hoB.ext hO
  have HD := Lib.hid hD; have HS := Lib.hid hS; have HB := Lib.hid hB; have HA := Lib.hid ha; have HBB := Lib.hid hb; have HO := Lib.hid hO; have HOA := Lib.hid hoA; have HOB := Lib.hid hoB
  clear hD hS hB ha hb hO hoA hoB
  dsimp only
  obtain ⟨xs, hxs⟩ : ∃ xs, cutV a pa pa' = xs := ⟨_, rfl⟩
  obtain ⟨ys, hys⟩ : ∃ ys, cutV b pb pb' = ys := ⟨_, rfl⟩
  have hxl : xs.length = pa' - pa := by rw [← hxs]; exact cutV_len h2
  have hyl : ys.length = pb' - pb := by rw [← hys]; exact cutV_len h4
  obtain ⟨A', hA'⟩ : ∃ A', (if c = pa then A else A.map (fun z => z.add pa)) = A' := ⟨_, rfl⟩
  obtain ⟨B', hB'⟩ : ∃ B', (if d = pb then B else B.map (fun z => z.add pb)) = B' := ⟨_, rfl⟩
  have sA : ∀ wx, Ext wO wx → Strs wx A' (pa' - pa) xs := fun wx hx => by rw [← hxs]; exact strs_part (HOA.out.ext hx) hc h1 h2 hA'
  have sB : ∀ wx, Ext wO wx → Strs wx B' (pb' - pb) ys := fun wx hx => by rw [← hys]; exact strs_part (HOB.out.ext hx) hd h3 h4 hB'
  rw [hxs, hys]
  obtain ⟨M2, hM2⟩ : ∃ M2, (if xs = [] ∨ ys = [] then [] else shV (midG (pcV f) xs ys) pa pb) = M2 := ⟨_, rfl⟩
  rw [hM2]
  have HM2 := Lib.hid hM2; clear hM2
  have HXS := Lib.hid hxs; have HYS := Lib.hid hys; have HXL := Lib.hid hxl; have HYL := Lib.hid hyl; have AA := Lib.hid hA'; have BB := Lib.hid hB'; have SA := Lib.hid sA; have SB := Lib.hid sB
  clear hxs hys hxl hyl hA' hB' sA sB
  dsimp only [Pt.val]
  go_enter Tryz.func73, Tryz.ntmps73
  go_wp2_with fail
  obtain ⟨g2, hg2⟩ : ∃ gp, gp = w.heap.size := ⟨_, rfl⟩
  obtain ⟨g3, hg3⟩ : ∃ gp, gp = w.heap.size + 1 := ⟨_, rfl⟩
  obtain ⟨w1, hw1, hb2, hb3, hE1⟩ : ∃ w1, w1 = (w.alloc (boxPtr gm)).alloc (Pt.obj ⟨pa, pa', pb, pb'⟩) ∧ Blk w1 g2 (boxPtr gm) ∧ Blk w1 g3 (Pt.obj ⟨pa, pa', pb, pb'⟩) ∧ Ext w w1 := ⟨_, rfl, (Blk.new w _ hg2).alloc _, Blk.new (w.alloc _) _ (by rw [hg3]; simp), ((Ext.refl w).alloc _).alloc _⟩
  rw [← hw1, ← hg3, ← hg2]
  have HB2 := Lib.hid hb2; have HB3 := Lib.hid hb3; have HE1 := Lib.hid hE1; have HG2 := Lib.hid hg2; have HG3 := Lib.hid hg3
  clear hw1 hb2 hb3 hE1 hg2 hg3
  have b1 : (pa' : Int) ≤ c := by omega
  have b2 : (pb' : Int) ≤ d := by omega
  have b3 : (pa : Int) ≤ pa' := by omega
  have b4 : (pb : Int) ≤ pb' := by omega
  refine wp_region_text (fun wx => Ext w1 wx) [0,1,2,3,4,5,6,7,8,9,10,11,12,13,14,15,16,17,18,19] (by kernel_rfl) (Stab.ext _) (Ext.refl w1).drew (by kernel_rfl) (fun _ d _ _ _ h => by cases d <;> exact h) ?_
  iterate 8
    refine wpTk_want rfl (Eq.refl true) ?_
    apply Exists.intro
    refine ⟨fun wx hx => ?_, ?_⟩
    · obtain ⟨m0, m1, m2⟩ := (HS.out.blk.ext (HE1.out.trans hx)).cells3
      obtain ⟨p0, p1, p2, p3⟩ := (HB3.out.ext hx).cells4
      have q0 := (HB2.out.ext hx).cell 0
      replace q0 : wx.cell? ⟨g2, 0, none⟩ = some (.pointer (some ⟨gm, 0, none⟩)) := q0
      clear hx
      go_simp
      with_reducible exact gives_ok _ _ _
    simp only [Act.put, List.setIfInBounds_toArray, List.set_cons_zero, List.set_cons_succ]
  refine wpTk_want rfl (Eq.refl true) ⟨.slice A' (pa' - pa) (c - pa), fun wx hx => ?_, ?_⟩
  · clear hx
    go_simp
    rw [AA.out]
    with_reducible exact gives_ok _ _ _
  simp only [Act.put, List.setIfInBounds_toArray, List.set_cons_zero, List.set_cons_succ]
  iterate 8
    refine wpTk_want rfl (Eq.refl true) ?_
    apply Exists.intro
    refine ⟨fun wx hx => ?_, ?_⟩
    · obtain ⟨m0, m1, m2⟩ := (HS.out.blk.ext (HE1.out.trans hx)).cells3
      obtain ⟨p0, p1, p2, p3⟩ := (HB3.out.ext hx).cells4
      have q0 := (HB2.out.ext hx).cell 0
      replace q0 : wx.cell? ⟨g2, 0, none⟩ = some (.pointer (some ⟨gm, 0, none⟩)) := q0
      clear hx
      go_simp
      with_reducible exact gives_ok _ _ _
    simp only [Act.put, List.setIfInBounds_toArray, List.set_cons_zero, List.set_cons_succ]
  refine wpTk_want rfl (Eq.refl true) ⟨.slice B' (pb' - pb) (d - pb), fun wx hx => ?_, ?_⟩
  · clear hx
    go_simp
    rw [BB.out]
    with_reducible exact gives_ok _ _ _
  simp only [Act.put, List.setIfInBounds_toArray, List.set_cons_zero, List.set_cons_succ]
  iterate 2
    refine wpTk_want rfl (Eq.refl true) ?_
    apply Exists.intro
    refine ⟨fun wx hx => ?_, ?_⟩
    · obtain ⟨m0, m1, m2⟩ := (HS.out.blk.ext (HE1.out.trans hx)).cells3
      obtain ⟨p0, p1, p2, p3⟩ := (HB3.out.ext hx).cells4
      have q0 := (HB2.out.ext hx).cell 0
      replace q0 : wx.cell? ⟨g2, 0, none⟩ = some (.pointer (some ⟨gm, 0, none⟩)) := q0
      clear hx
      go_simp
      with_reducible exact gives_ok _ _ _
    simp only [Act.put, List.setIfInBounds_toArray, List.set_cons_zero, List.set_cons_succ]
  refine wpTk_nil ?_
  intro w2 hx
  have HE2 := Lib.hid (HE1.out.trans hx); have HB22 := Lib.hid (HB2.out.ext hx); have HB32 := Lib.hid (HB3.out.ext hx); clear hx HB2 HB3 HE1 b1 b2 b3 b4
  have hR2 : Run wO w gm base A a.length c B b.length d v ms v w2 := ⟨HS.out.ext HE2.out, Lv.of_ext HE2.out, fun g h => .inl h, HO.out.trans HE2.out⟩
  have HR2 := Lib.hid hR2; clear hR2
  by_cases hx0 : pa' - pa = 0
  case pos =>
    have hxs0 : xs = [] := List.eq_nil_of_length_eq_zero (by rw [HXL.out]; exact hx0)
    have hm := HM2.out
    rw [if_pos (.inl hxs0)] at hm
    have HMM := Lib.hid hm; clear hm hxs0
    rw [hx0]
    go_wp2_with fail
    refine bodyPost_ret (results_none rfl _ _ _) rfl ?_
    rw [← HMM.out]
    exact ⟨⟨_, rfl⟩, HB.out, HR2.out.done⟩
  by_cases hy0 : pb' - pb = 0
  case pos =>
    have hys0 : ys = [] := List.eq_nil_of_length_eq_zero (by rw [HYL.out]; exact hy0)
    have hx1 : (((pa' - pa : Nat) : Int) == 0) = false := by simp; omega
    have hm := HM2.out
    rw [if_pos (.inr hys0)] at hm
    have HMM := Lib.hid hm; clear hm hys0
    rw [hy0]
    go_wp2_with fail
    refine bodyPost_ret (results_none rfl _ _ _) rfl ?_
    rw [← HMM.out]
    exact ⟨⟨_, rfl⟩, HB.out, HR2.out.done⟩
  have hx1 : (((pa' - pa : Nat) : Int) == 0) = false := by simp; omega
  have hy1 : (((pb' - pb : Nat) : Int) == 0) = false := by simp; omega
  have hm3 := HM2.out
  rw [if_neg (fun h => h.elim (fun h => hx0 (by rw [← HXL.out, h]; rfl)) (fun h => hy0 (by rw [← HYL.out, h]; rfl)))] at hm3
  have HM3 := Lib.hid hm3; clear hm3 HM2
  go_wp2_with fail
  refine (unique_any A' B' (pa' - pa) (c - pa) (pb' - pb) (d - pb) xs ys w2 (SA.out _ HR2.out.org) (SB.out _ HR2.out.org) (by omega) (by omega)).mono ?_
  rintro e w3 ⟨vu, rfl, ho, hE⟩
  have hul := uniqP_len xs ys xs.length
  obtain ⟨Au, ku, rfl, -, hMu⟩ := ownM_mts ho ((uniq_bnd xs ys 500 (by rw [HXL.out]; omega) (by rw [HYL.out]; omega) _ (Nat.le_refl _)).wf (by omega))
  have HMU := Lib.hid hMu
  have HR3 := Lib.hid (HR2.out.ext hE); have HB23 := Lib.hid (HB22.out.ext hE); have HB33 := Lib.hid (HB32.out.ext hE)
  clear ho hE hMu HR2 HB22 HB32
  go_wp2_with fail
  refine (longest_any Au (uniqV xs ys).length ku (uniqV xs ys) w3 HMU.out (by rw [HXL.out] at hul; unfold uniqV; rw [HXL.out]; omega)).mono ?_
  rintro e w4 ⟨vl, rfl, ho, hE⟩
  obtain ⟨L, hL⟩ : ∃ L, longV (uniqV xs ys) = L := ⟨_, rfl⟩
  have hLb : Bnd 500 L := by rw [← hL]; exact long_bnd (by rw [HXL.out]; omega) (by rw [HYL.out]; omega)
  have hLa : Asc xs.length ys.length 0 0 L := by rw [← hL]; exact uniq_asc xs ys
  have hmid : midG (pcV f) xs ys = if L = [] then diffV xs ys (dist xs ys) else partG (pcV f) xs ys 0 0 L := by unfold midG; rw [hL]
  rw [hL] at ho
  obtain ⟨Al, kl, rfl, hkl, hMl⟩ := ownM_mts ho (hLb.wf (by omega))
  have HML := Lib.hid hMl; have HLB := Lib.hid hLb; have HLA := Lib.hid hLa; have HMID := Lib.hid hmid
  have HR4 := Lib.hid (HR3.out.ext hE); have HB24 := Lib.hid (HB23.out.ext hE); have HB34 := Lib.hid (HB33.out.ext hE)
  have hL' := hL; clear ho hE hMl hLb hLa hmid hL HR3 HB23 HB33 HMU hul
  by_cases hL0 : L = []
  case pos =>
    have hm2 := HMID.out
    rw [if_pos hL0] at hm2
    have hm3 := HM3.out
    rw [hm2] at hm3
    have HMM := Lib.hid hm3
    subst hL0
    clear hm2 hm3 HMID HM3 hL'
    have hdl3 := dist_le xs ys
    have hdl4 := diff_len xs ys
    have hin := diff_in xs ys
    rw [HXL.out, HYL.out] at hdl3
    rw [HXL.out, HYL.out] at hin
    go_wp2_with fail
    refine (diff_any A' B' (pa' - pa) (c - pa) (pb' - pb) (d - pb) xs ys w4 (SA.out _ HR4.out.org) (SB.out _ HR4.out.org) (by omega) (by omega) (dist xs ys) (by omega) (last_dist xs ys)).mono ?_
    rintro e w5 ⟨vd, N, rfl, ho, hwf, hE⟩
    obtain ⟨dl, hdl⟩ : ∃ dl, diffV xs ys (dist xs ys) = dl := ⟨_, rfl⟩
    rw [hdl] at ho hwf hdl4 hin HMM
    obtain ⟨Cd, kd, rfl, hkd, hMd⟩ := ownM_mts ho hwf
    obtain rfl : dl.length = N := hMd.1
    have hgd : ∀ g, (Value.slice Cd dl.length kd).ownBlock = some g → w4.heap.size ≤ g := fun g hg => (own_blk ho hg).1
    have hbm := HS.out.lt; have hbl := HS.out.le
    have hw4 := HR4.out.lv.size
    have HWF := Lib.hid hwf; have HIN := Lib.hid hin; have HO5 := Lib.hid ho; have HGD := Lib.hid hgd
    have HR5 := Lib.hid (HR4.out.ext hE); have HB25 := Lib.hid (HB24.out.ext hE); have HB35 := Lib.hid (HB34.out.ext hE)
    have hne5 : ∀ g, v.ownBlock = some g → (Value.slice Cd dl.length kd).ownBlock ≠ some g := fun g h1 h2 => by have := (own_blk HS.out.own h1).2; obtain ⟨cur, hc⟩ := this; have := hc.lt; have := HGD.out g h2; omega
    have HNE5 := Lib.hid hne5
    clear hwf hin ho hgd hE hMd hdl hne5 HR4 HB24 HB34
    go_wp2_with fail
    go_loopw [48] (fun v48 wr => ∃ (j : Nat) (v' : Value), j ≤ dl.length ∧ v48 = .int .i64 j ∧ Run wO w gm base A a.length c B b.length d v ((shV (dl.take j) pa pb).foldl keepV ms) v' wr ∧ wr.ownsRow w4.heap.size 104 3 (.slice Cd dl.length kd) dl.length (dl.flatMap Mt.cells) ∧ (∀ g, v'.ownBlock = some g → (Value.slice Cd dl.length kd).ownBlock ≠ some g) ∧ Blk wr g2 (boxPtr gm) ∧ Blk wr g3 (Pt.obj ⟨pa, pa', pb, pb'⟩) ∧ Bnd 500 ((shV (dl.take j) pa pb).foldl keepV ms)) (fun v48 _ => dl.length - (intOf v48).toNat)
    case atStart => exact ⟨0, v, Nat.zero_le _, rfl, HR5.out, HO5.out, HNE5.out, HB25.out, HB35.out, HB.out⟩
    clear HR5 HO5 HNE5 HB25 HB35
    case round =>
      obtain ⟨j, v', hj, rfl, hR, ho, hne, hb2, hb3, hbd⟩ := hrel
      have HR := Lib.hid hR; have HOd := Lib.hid ho; have HNE := Lib.hid hne; have HB2 := Lib.hid hb2; have HB3 := Lib.hid hb3; have HBD := Lib.hid hbd
      clear hR ho hne hb2 hb3 hbd
      by_cases hjl : j < dl.length
      case neg =>
        obtain rfl : j = dl.length := by omega
        go_wp2_with fail
        refine bodyPost_ret (results_none rfl _ _ _) rfl ?_
        have h8 := HR.out; have h9 := HBD.out
        rw [List.take_length, HMM.out] at h8 h9
        exact ⟨⟨_, rfl⟩, h9, h8.done⟩
      case pos =>
        obtain ⟨A9, c9, hv9, -, hM9⟩ := ownM_mts HOd.out HWF.out
        cases hv9
        obtain ⟨ba, oa, ⟨x, y, z⟩, hC, hba, hmj, -, d0, d1, d2⟩ := hM9.get hjl
        subst hC
        have hxyz := HIN.out _ (List.mem_of_getElem? hmj)
        have hst := shV_take (pa : Int) (pb : Int) hmj
        dsimp only at d0 d1 d2 hxyz
        obtain ⟨y1, y2, y3, y4, y5⟩ := hxyz
        have hst2 : (shV (dl.take (j + 1)) pa pb).foldl keepV ms = keepV ((shV (dl.take j) pa pb).foldl keepV ms) ⟨(pa : Int) + x, (pb : Int) + y, z⟩ := by
          rw [hst, List.foldl_append]
          simp only [List.foldl_cons, List.foldl_nil, mvM]
          rw [Int.add_comm x, Int.add_comm y]
        have hfl := fold_len (shV (dl.take j) pa pb) ms
        have htl : (shV (dl.take j) pa pb).length ≤ j := by simp only [shV, List.length_map, List.length_take]; omega
        have HST := Lib.hid hst2
        clear hst hst2 hM9 hmj
        obtain ⟨p0, p1, p2, p3⟩ := HB3.out.cells4
        have q0 := HB2.out.cell 0
        replace q0 : wr.cell? ⟨g2, 0, none⟩ = some (.pointer (some ⟨gm, 0, none⟩)) := q0
        have l2 := HB2.out.lt; have l3 := HB3.out.lt
        have e1 : IntKind.i64.wrap ((pa : Int) + x) = (pa : Int) + x := wrap_in (by omega) (by omega)
        have e2 : IntKind.i64.wrap ((pb : Int) + y) = (pb : Int) + y := wrap_in (by omega) (by omega)
        go_wp2_with fail
        have hx : Ext wr (wr.alloc (Mt.obj ⟨x, y, z⟩)) := (Ext.refl wr).alloc _
        have hRx := HR.out.ext hx
        have hm' : Bnd 500 [⟨(pa : Int) + x, (pb : Int) + y, z⟩] := Bnd.one (by omega)
        refine (keep_any gm base A a.length c B b.length d _ v' ((pa : Int) + x) ((pb : Int) + y) z 500 _ hRx.mat HBD.out hm' (by omega) (by omega)).mono ?_
        rintro e w6 ⟨⟨u6, rfl⟩, hU⟩
        obtain ⟨v6, hR6, hL6⟩ := hRx.upd hgO hU
        have hU2 := hU
        obtain ⟨v7, hm7, hl7, ho7⟩ := hU2
        have hg23 : g2 ≠ gm ∧ g3 ≠ gm := by have := HG2.out; have := HG3.out; omega
        have hk6 : ∃ v6, Run wO w gm base A a.length c B b.length d v (keepV ((shV (dl.take j) pa pb).foldl keepV ms) ⟨(pa : Int) + x, (pb : Int) + y, z⟩) v6 w6 ∧ (∀ g, v6.ownBlock = some g → (Value.slice (some ⟨ba, oa, none⟩) dl.length kd).ownBlock ≠ some g) := by
          refine ⟨v7, ⟨hm7, hRx.lv.trans hl7 (fun g hg h' => ?_), fun g hg => ?_, hRx.mat.org hRx.org hgO hl7⟩, fun g hg h2 => ?_⟩
          · rcases h' with h' | h'
            · exact .inl h'
            · rcases hRx.ob g h' with h'' | h''
              · exact .inr h''
              · omega
          · rcases ho7 g hg with h' | h'
            · exact hRx.ob g h'
            · have := hRx.lv.size; exact .inr (by omega)
          · rcases ho7 g hg with h' | h'
            · exact HNE.out g h' h2
            · have := (HOd.out.lt g h2).2
              simp only [World.size_alloc] at h'; omega
        obtain ⟨v6, hR6, hN6⟩ := hk6
        have hod := own_lv (own_stab3 hx HOd.out) hl7 (fun g hg hs => hs.elim (fun h => by have := HGD.out g hg; omega) (fun h => HNE.out g h hg))
        have HR6 := Lib.hid hR6; have HN6 := Lib.hid hN6; have HO6 := Lib.hid hod
        have HB26 := Lib.hid (hRx.mat.box (HB2.out.ext hx) (by decide) hg23.1 hl7)
        have HB36 := Lib.hid (hRx.mat.box (HB3.out.ext hx) (by decide) hg23.2 hl7)
        have HBD6 := Lib.hid (HBD.out.keep hm')
        clear hU hR6 hL6 hm7 hl7 ho7 hN6 hod hRx hx hm' p0 p1 p2 p3 q0 d0 d1 d2 HR HOd HNE HB2 HB3 HBD
        go_wp2_with fail
        go_roundw
        case rel => exact ⟨j + 1, v6, by omega, by go_num, by rw [HST.out]; exact HR6.out, HO6.out, HN6.out, HB26.out, HB36.out, by rw [HST.out]; exact HBD6.out⟩
        case measure => simp [intOf]; omega
  case neg =>
    exact absurd ⟨hx0, hy0, by rw [HXS.out, HYS.out, hL']; exact hL0⟩ HCASE.out

theorem diff_all (wO : World) (gm base : Nat) (A : Option Addr) (c : Nat) (B : Option Addr) (d : Nat) (a b : Lns) (hoA : Strs wO A a.length a) (hoB : Strs wO B b.length b) (hgO : wO.heap.size ≤ gm) (hc : a.length ≤ c) (hd : b.length ≤ d) (hn : a.length ≤ 125) (hm : b.length ≤ 125) : ∀ f, DiffC f wO gm base A c B d a b
  | 0 => fun p _ _ _ _ _ _ _ _ _ _ h _ => absurd h (by omega)
  | f + 1 => diff_of_middle f wO gm base A c B d a b hoA hoB hgO hc hd (by omega) (by omega) (middle_of_diff f wO gm base A c B d a b hoA hoB hgO hc hd hn hm (diff_all wO gm base A c B d a b hoA hoB hgO hc hd hn hm f))

set_option maxRecDepth 100000 in
set_option maxHeartbeats 8000000 in
theorem pdiff_any (A B : Option Addr) (n c m d : Nat) (a b : Lns) (w : World) (ha : Strs w A n a) (hb : Strs w B m b) (hn : n ≤ 125) (hm : m ≤ 125) (hnc : n ≤ c) (hmd : m ≤ d) :
    Calls Tryz.prog 26 #[.slice A n c, .slice B m d] w fun e w' => ∃ v, e = .returned v ∧ w'.ownsRow w.heap.size 104 3 v (pdV (a.length + 1) a b).length ((pdV (a.length + 1) a b).flatMap Mt.cells) ∧ Bnd 500 (pdV (a.length + 1) a b) ∧ Ext w w' := by
  obtain rfl : a.length = n := ha.1
  obtain rfl : b.length = m := hb.1
  obtain ⟨gm, hgm⟩ : ∃ g, g = w.heap.size := ⟨_, rfl⟩
  have hD := diff_all w gm (gm + 1) A c B d a b ha hb (by omega) hnc hmd hn hm (a.length + 1) ⟨0, a.length, 0, b.length⟩ [] (.slice none 0 0) (w.alloc (matO A a.length c B b.length d (.slice none 0 0)))
    ⟨Blk.new w _ hgm, World.ownsRow_nil _ _ _ _, by omega, by rw [hgm]; simp⟩ ((Ext.refl w).alloc _) (by intro m hm; simp at hm) (Nat.zero_le _) (Nat.le_refl _) (Nat.zero_le _) (Nat.le_refl _) (by dsimp only; omega) (by simp only [List.length_nil]; omega)
  dsimp only at hD
  have hz : shV (pcV (a.length + 1) (cutV a 0 a.length) (cutV b 0 b.length)) ((0 : Nat) : Int) ((0 : Nat) : Int) = pcV (a.length + 1) a b := by
    rw [show cutV a 0 a.length = a by simp [cutV], show cutV b 0 b.length = b by simp [cutV]]
    exact shV_zero _
  rw [hz] at hD
  have HD := Lib.hid hD; have HGM := Lib.hid hgm; clear hD hz ha hb
  go_enter Tryz.func26, Tryz.ntmps26
  go_wp2_with fail
  rw [← hgm]
  have hd := HD.out
  dsimp only [Pt.val] at hd
  refine hd.mono ?_
  rintro e w1 ⟨⟨u, rfl⟩, hB, v, hM, hL, hO⟩
  obtain ⟨c0, c1, c2⟩ := hM.blk.cells3
  have HM := Lib.hid hM; have HB := Lib.hid hB; have HL := Lib.hid hL
  clear hd hM hB hL hO hgm
  go_wp2_with fail
  go_ret
  have hgm := HGM.out
  refine ⟨_, rfl, own_base HM.out.own (by omega), HB.out, HL.out.extBelow ((Ext.refl w).alloc _) (fun g hg h => h.elim (fun h => by omega) (fun h => by cases h))⟩
end Go.Proofs.YtmmcjcaccicheaaGreatDoor
/- How many lines the patience matching keeps. No condition. -/
namespace Go.Proofs.YtmmcjcaccicheaaGreatDoor

theorem kept_snoc (l : List Mt) (m : Mt) : keptV (l ++ [m]) = keptV l + m.n := by simp [keptV]
theorem kept_keep {out : List Mt} {m : Mt} (h : 0 ≤ m.n) : keptV (keepV out m) = keptV out + m.n := by
  by_cases h0 : m.n < 1
  · rw [keepV_zero h0]; omega
  rcases snoc_or out with rfl | ⟨r, x, rfl⟩
  · rw [keepV_nil h0]; simp [keptV]
  · by_cases h1 : x.a + x.n = m.a ∧ x.b + x.n = m.b
    · rw [keepV_join h0 h1.1 h1.2, kept_snoc, kept_snoc]; dsimp only; omega
    · rw [keepV_new h0 h1, kept_snoc, kept_snoc]
theorem kept_fold : ∀ (l out : List Mt), (∀ m ∈ l, 0 ≤ m.n) → keptV (l.foldl keepV out) = keptV out + keptV l
  | [], out, _ => by simp [keptV]
  | m :: l, out, h => by
    rw [List.foldl_cons, kept_fold l _ (fun x hx => h x (by simp [hx])), kept_keep (h m (by simp)), keptV_cons]; omega
theorem kept_runs {l : List Mt} (h : ∀ m ∈ l, 0 ≤ m.n) : keptV (runsV l) = keptV l := by
  unfold runsV; rw [kept_fold l [] h]; simp [keptV]
theorem kept_append (l r : List Mt) : keptV (l ++ r) = keptV l + keptV r := by
  induction l with
  | nil => simp [keptV]
  | cons m l ih => rw [List.cons_append, keptV_cons, keptV_cons, ih]; omega
theorem kept_sh (l : List Mt) (x y : Int) : keptV (shV l x y) = keptV l := by
  induction l with
  | nil => rfl
  | cons m l ih => show keptV (mvM m x y :: shV l x y) = _; rw [keptV_cons, keptV_cons, ih]; rfl
theorem diff_nn (a b : Lns) : ∀ m ∈ diffV a b (dist a b), 0 ≤ m.n := fun m hm => (check_small _ _ _ (diff_ok a b).1 m hm).1
theorem part_nn {D : Lns → Lns → List Mt} (hD : ∀ x y, ∀ m ∈ D x y, 0 ≤ m.n) (a b : Lns) : ∀ (cs : List Mt) (p q : Nat), (∀ c ∈ cs, 0 ≤ c.n) → ∀ m ∈ partG D a b p q cs, 0 ≤ m.n
  | [], p, q, _, m, hm => by
    simp only [partG, shV] at hm
    obtain ⟨x, hx, rfl⟩ := List.mem_map.1 hm
    exact hD _ _ x hx
  | c :: cs, p, q, hc, m, hm => by
    simp only [partG, shV] at hm
    rcases List.mem_append.1 hm with hm | hm
    · rcases List.mem_append.1 hm with hm | hm
      · obtain ⟨x, hx, rfl⟩ := List.mem_map.1 hm
        exact hD _ _ x hx
      · simp only [List.mem_singleton] at hm; subst hm; exact hc _ (by simp)
    · exact part_nn hD a b cs _ _ (fun d hd => hc d (by simp [hd])) m hm
theorem long_one (a b : Lns) : ∀ c ∈ longV (uniqV a b), c.n = 1 := fun c hc => by
  have h := (chain_asc (uniq_pair a b a.length (Nat.le_refl _)) _ (Nat.le_refl _)).2.1 c hc
  exact (uniq_mem a b a.length (Nat.le_refl _) c h).2.2.2.2
theorem pc_nn : ∀ (f : Nat) (a b : Lns), ∀ m ∈ pcV f a b, 0 ≤ m.n
  | 0, a, b, m, hm => by simp [pcV] at hm
  | f + 1, a, b, m, hm => by
    rw [pcV] at hm
    rcases List.mem_append.1 hm with hm | hm
    · rcases List.mem_append.1 hm with hm | hm
      · simp only [List.mem_singleton] at hm; subst hm; exact Int.natCast_nonneg _
      · split at hm
        · simp at hm
        · obtain ⟨x, hx, rfl⟩ := List.mem_map.1 hm
          show 0 ≤ x.n
          unfold midG at hx
          split at hx
          · exact diff_nn _ _ x hx
          · exact part_nn (fun x y => pc_nn f x y) _ _ _ _ _ (fun c hc => by rw [long_one _ _ c hc]; omega) x hx
    · simp only [List.mem_singleton] at hm; subst hm; exact Int.natCast_nonneg _
/-- What is kept: the common ends, and what the middle keeps. -/
theorem pd_kept (f : Nat) (a b : Lns) : keptV (pdV (f + 1) a b) = (preN a b : Int) + (if cutV a (preN a b) (a.length - sufN a b) = [] ∨ cutV b (preN a b) (b.length - sufN a b) = [] then 0 else keptV (midG (pcV f) (cutV a (preN a b) (a.length - sufN a b)) (cutV b (preN a b) (b.length - sufN a b)))) + (sufN a b : Int) := by
  unfold pdV
  rw [kept_runs (pc_nn (f + 1) a b), pcV, kept_append, kept_append]
  congr 1
  · congr 1
    · simp [keptV]
    · split
      · rfl
      · rw [kept_sh]
  · simp [keptV]

/-! ### The common ends -/
theorem sufF_spec (a b : Lns) : ∀ (f m : Nat), (∀ j : Nat, j < m → mtB a b ((a.length : Int) - 1 - j) ((b.length : Int) - 1 - j) = true) → ∀ j : Nat, j < sufF a b f m → mtB a b ((a.length : Int) - 1 - j) ((b.length : Int) - 1 - j) = true
  | 0, m, h, j, hj => h j hj
  | f + 1, m, h, j, hj => by
    rw [sufF] at hj
    split at hj
    · rename_i h1
      refine sufF_spec a b f (m + 1) (fun i hi => ?_) j hj
      rcases Nat.lt_or_ge i m with h2 | h2
      · exact h i h2
      · obtain rfl : i = m := by omega
        exact h1
    · exact h j hj
theorem parts_eq (a : Lns) {n m : Nat} (h : n + m ≤ a.length) : a = a.take n ++ cutV a n (a.length - m) ++ a.drop (a.length - m) := by
  unfold cutV
  rw [List.append_assoc]
  have h1 : List.take (a.length - m - n) (List.drop n a) ++ List.drop (a.length - m) a = List.drop n a := by
    have := List.take_append_drop (a.length - m - n) (List.drop n a)
    rw [List.drop_drop, show n + (a.length - m - n) = a.length - m by omega] at this
    exact this
  rw [h1, List.take_append_drop]
theorem common_dist (a b : Lns) : dist a b = dist (cutV a (preN a b) (a.length - sufN a b)) (cutV b (preN a b) (b.length - sufN a b)) := by
  obtain ⟨h1, h2⟩ := suf_le a b
  obtain ⟨q1, q2, q3, _⟩ := preN_spec a b
  have hp : a.take (preN a b) = b.take (preN a b) := by
    have := run_slices (a := a) (b := b) (p := 0) (q := 0) (l := preN a b) (fun j hj => by simpa using q3 j hj)
    simpa using this
  have hs : a.drop (a.length - sufN a b) = b.drop (b.length - sufN a b) := by
    have hm : ∀ j, j < sufN a b → mtB a b ((a.length - sufN a b + j : Nat)) ((b.length - sufN a b + j : Nat)) = true := fun j hj => by
      have hlt : sufN a b - 1 - j < sufN a b := by omega
      have := sufF_spec a b (min a.length b.length - preN a b) 0 (fun j hj => by omega) (sufN a b - 1 - j) hlt
      rw [show (a.length : Int) - 1 - (sufN a b - 1 - j : Nat) = (a.length - sufN a b + j : Nat) by omega, show (b.length : Int) - 1 - (sufN a b - 1 - j : Nat) = (b.length - sufN a b + j : Nat) by omega] at this
      exact this
    have := run_slices hm
    rwa [List.take_of_length_le (by rw [List.length_drop]; omega), List.take_of_length_le (by rw [List.length_drop]; omega)] at this
  have e1 := parts_eq a h1
  have e2 := parts_eq b h2
  rw [hp, hs] at e1
  generalize cutV a (preN a b) (a.length - sufN a b) = x at *
  generalize cutV b (preN a b) (b.length - sufN a b) = y at *
  generalize List.take (preN a b) b = u at *
  generalize List.drop (b.length - sufN a b) b = v at *
  rw [e1, e2, dist_behind, dist_before]
theorem dist_nil (y : Lns) : dist [] y = y.length := by
  have h1 := dist_le [] y
  have h2 := dist_ed [] y
  have h3 := (ed_abs (a := []) (b := y) ([] : Lns).length y.length).2.1
  simp only [List.length_nil] at *
  omega
/-- Without unique lines between the common ends, nothing better is to be had. -/
theorem none_dist (f : Nat) (a b : Lns) (h : longV (uniqV (cutV a (preN a b) (a.length - sufN a b)) (cutV b (preN a b) (b.length - sufN a b))) = []) :
    (a.length : Int) + b.length - 2 * keptV (pdV (f + 1) a b) = dist a b := by
  obtain ⟨h1, h2⟩ := suf_le a b
  have hx := cutV_len (a := a) (x := preN a b) (y := a.length - sufN a b) (by omega)
  have hy := cutV_len (a := b) (x := preN a b) (y := b.length - sufN a b) (by omega)
  rw [pd_kept, common_dist]
  split
  · rename_i h0
    rcases h0 with h0 | h0
    · rw [h0] at hx ⊢
      rw [dist_nil]
      simp only [List.length_nil] at hx
      omega
    · rw [h0] at hy ⊢
      rw [dist_comm, dist_nil]
      simp only [List.length_nil] at hy
      omega
  · have := (diff_ok (cutV a (preN a b) (a.length - sufN a b)) (cutV b (preN a b) (b.length - sufN a b))).2
    unfold midG
    rw [if_pos h]
    omega
theorem kept_ge (f : Nat) (a b : Lns) : (preN a b : Int) + sufN a b ≤ keptV (pdV (f + 1) a b) := by
  rw [pd_kept]
  have : ∀ l : List Mt, (∀ m ∈ l, 0 ≤ m.n) → 0 ≤ keptV l := by
    intro l
    induction l with
    | nil => intro _; simp [keptV]
    | cons m l ih => intro h; have := ih (fun x hx => h x (by simp [hx])); have := h m (by simp); rw [keptV_cons]; omega
  split
  · omega
  · have h2 := this (midG (pcV f) (cutV a (preN a b) (a.length - sufN a b)) (cutV b (preN a b) (b.length - sufN a b))) (fun m hm => by
      unfold midG at hm
      split at hm
      · exact diff_nn _ _ m hm
      · exact part_nn (fun x y => pc_nn f x y) _ _ _ _ _ (fun c hc => by rw [long_one _ _ c hc]; omega) m hm)
    omega
end Go.Proofs.YtmmcjcaccicheaaGreatDoor

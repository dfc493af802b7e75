/- HiDif: parts of the proof of TopDifferences, one text behind the other. No condition. -/
import Derived.Test.YtmmcjcaccicheaaGreatDoorT19
import Derived.Test.YtmmcjcaccicheaaGreatDoorT21
import Derived.Test.YtmmcjcaccicheaaGreatDoorT06
/- Contract: the program's Diff. -/
namespace Go.Proofs.YtmmcjcaccicheaaGreatDoor
open Go.RowKit

set_option maxRecDepth 100000 in
set_option maxHeartbeats 8000000 in
theorem hdiff_any : ∀ (f : Nat) (A B : Option Addr) (n c m d : Nat) (a b : Lns) (w : World), a.length < f → Strs w A n a → Strs w B m b → n ≤ 60 → m ≤ 60 → n ≤ c → m ≤ d →
    Calls Tryz.prog 27 #[.slice A n c, .slice B m d] w (DiffR f a b w)
  | 0, _, _, _, _, _, _, a, _, _, hf, _, _, _, _, _, _ => absurd hf (by omega)
  | f + 1, A, B, n, c, m, d, a, b, w, hf, ha, hb, hn, hm, hnc, hmd => by
    have IH := hdiff_any f
    obtain rfl : a.length = n := ha.1
    obtain rfl : b.length = m := hb.1
    have HA := Lib.hid ha; have HB := Lib.hid hb; have HIH := Lib.hid IH; clear ha hb IH
    obtain ⟨inf, i1, i2, i3, i4⟩ := info_of infoM
    have I1 := Lib.hid i1; have I2 := Lib.hid i2; have I3 := Lib.hid i3; have I4 := Lib.hid i4; clear i1 i2 i3 i4
    go_enter Tryz.func27, Tryz.ntmps27
    go_wp2_with fail
    refine (best_any A B a.length c b.length d a b w HA.out HB.out hn hm hnc).mono ?_
    rintro e w1 ⟨rfl, hE⟩
    have HE := Lib.hid hE; clear hE
    rw [bestR, Mt.val]
    by_cases h64 : (bestV a b).2 ≤ 64
    case neg =>
      have h64' := nd h64
      have hV : hdiffV (f + 1) a b = diffV a b (dist a b) := by rw [hdiffV, if_neg h64]
      have HV := Lib.hid hV; clear hV h64
      go_wp2_with fail
      refine (diff_any A B a.length c b.length d a b _ (HA.out.ext (HE.out.alloc _)) (HB.out.ext (HE.out.alloc _)) (by omega) (by omega) (dist a b) (by have := dist_le a b; omega) (last_dist a b)).mono ?_
      rintro e w2 ⟨v, N, rfl, ho, hwf, hE⟩
      have HO := Lib.hid ho; have HE2 := Lib.hid hE; clear ho hE hwf
      go_wp2_with fail
      go_ret
      refine ⟨_, rfl, ?_, (HE.out.alloc _).trans HE2.out⟩
      rw [HV.out]
      have hN : N = (diffV a b (dist a b)).length := by have := HO.out.1; rw [flat_len mt_cells_len] at this; omega
      rw [← hN]
      exact own_base HO.out (HE.out.alloc _).size
    have h64' := yd h64
    obtain ⟨i, k, l, ⟨h1, h2, h3, h4, h5, h6⟩, _⟩ := best_some (b := b) (by omega : a.length ≤ 64) h64
    obtain ⟨p1, p2, p3, p4⟩ := runN_spec (a := a) (b := b) (i := i) (k := k) (by omega) (by omega)
    rw [h3] at p1 p2
    have hV : hdiffV (f + 1) a b = hdiffV f (a.take i) (b.take k) ++ [⟨i, k, l⟩] ++ (hdiffV f (a.drop (i + l)) (b.drop (k + l))).map (fun m => m.by ((i + l : Nat) : Int) ((k + l : Nat) : Int)) := by
      rw [hdiffV, if_pos h64, h1]
      simp only [Int.toNat_natCast]
      rw [show ((i : Int) + l).toNat = i + l by omega, show ((k : Int) + l).toNat = k + l by omega, show (i : Int) + l = ((i + l : Nat) : Int) by omega, show (k : Int) + l = ((k + l : Nat) : Int) by omega]
    rw [h1]
    dsimp only
    have hl0 : 0 < l := by omega
    have HV := Lib.hid hV; clear hV h64 h1 h2 h3 h6 p3 p4
    go_wp2_with fail
    have hbx : Blk ((w1.alloc (Mt.obj ⟨i, k, l⟩)).drew) w1.heap.size (Mt.obj ⟨i, k, l⟩) := (Blk.new w1 _ rfl).drew
    have hic : (i : Int) ≤ c := by omega
    have hkd : (k : Int) ≤ d := by omega
    obtain ⟨T, hT⟩ : ∃ T, T = (fun wx => Ext w wx ∧ Blk wx w1.heap.size (Mt.obj ⟨i, k, l⟩)) := ⟨_, rfl⟩
    have hTs : Stab T := by rw [hT]; exact (Stab.ext _).and (Stab.blk _ _)
    refine wp_region_X (T := T) T (by kernel_rfl) (by rw [hT]; exact ⟨(HE.out.alloc _).drew, hbx⟩) (wpX_takes (by kernel_rfl) (fun _ d _ _ _ h => by cases d <;> exact h) hTs (fun _ h => h) (fuel := 4) [0,1,2,3,4,5,6,7,9] _ _ (by kernel_rfl) ?_)
    iterate 9
      refine wpTk_want rfl (Eq.refl true) ?_
      apply Exists.intro
      refine ⟨fun wx hx => ?_, ?_⟩
      · rw [hT] at hx
        obtain ⟨d0, d1, d2⟩ := hx.2.cells3
        clear hx
        go_simp
        with_reducible exact gives_ok _ _ _
      simp only [Act.put, List.setIfInBounds_toArray, List.set_cons_zero, List.set_cons_succ]
    refine wpTk_nil ?_
    obtain ⟨L1, hL1⟩ : ∃ L1, hdiffV f (a.take i) (b.take k) = L1 := ⟨_, rfl⟩
    have hl1 : L1.length ≤ 64 := by rw [← hL1]; have := hdiff_len (f := f) (a := a.take i) (b := b.take k) (by rw [List.length_take]; omega) (by rw [List.length_take]; omega); rw [List.length_take] at this; omega
    rw [hL1] at HV
    have HL1 := Lib.hid hL1; clear hL1
    refine wpX_two 8 10 (by kernel_rfl) rfl rfl rfl rfl ?_ ?_
    · intro wx hx K hK
      rw [hT] at hx
      go_simp
      refine (HIH.out A B i c k d (a.take i) (b.take k) wx (by rw [List.length_take]; omega) (strs_front (HA.out.ext hx.1) (by omega)) (strs_front (HB.out.ext hx.1) (by omega)) (by omega) (by omega) (by omega) (by omega)).mono ?_
      rintro e wy ⟨v1, rfl, ho, hE⟩
      rw [HL1.out] at ho
      refine hK _ _ ⟨fun wz => (Ext w wz ∧ Blk wz w1.heap.size (Mt.obj ⟨i, k, l⟩)) ∧ wz.ownsRow (w1.heap.size + 1) 104 3 v1 L1.length (L1.flatMap Mt.cells), ((Stab.ext _).and (Stab.blk _ _)).and (fun _ _ e h => own_stab3 e h), (fun _ h => by rw [hT]; exact h.1), ⟨⟨hx.1.trans hE, hx.2.ext hE⟩, own_base ho hx.2.lt⟩, ?_⟩
      clear hK K hx ho hE wx wy
      refine wpX_push 10 11 (by kernel_rfl) rfl rfl (by kernel_rfl) rfl rfl (.tmp 31) (.tmp 33) 66 rfl (w1.heap.size + 1) 104 inf _ 3 24 underM I1.out I2.out I3.out I4.out rfl (by decide) v1 L1.length (L1.flatMap Mt.cells) (Mt.cells ⟨i, k, l⟩)
        (fun wz => by go_simp; rfl) (fun g => by simp [Act.eval, Act.put]) (fun g => by simp [Act.eval, Act.put]) rfl (by simp [Mt.cells, Value.oneCell']) (by simp only [maxLen]; omega) (by omega) (((Stab.ext _).and (Stab.blk _ _)).and (fun _ _ e h => own_stab3 e h)) (fun _ h => by rw [hT]; exact h.1) (fun _ h => ⟨h.2, h.1.2.lt⟩) (fun g wx hX v2 wy hown hg => ?_)
      refine ⟨fun wz => (Ext w wz ∧ Blk wz w1.heap.size (Mt.obj ⟨i, k, l⟩)) ∧ wz.ownsRow (w1.heap.size + 1) 104 3 v2 (L1.length + 1) (L1.flatMap Mt.cells ++ Mt.cells ⟨i, k, l⟩), ((Stab.ext _).and (Stab.blk _ _)).and (fun _ _ e h => own_stab3 e h), (fun _ h => by rw [hT]; exact h.1), ⟨⟨hX.1.1.own3 (own_base hX.2 (by have := HE.out.size; omega)) hg, hX.1.2.own_ltH hX.2 (by omega) hg⟩, hown⟩, ?_⟩
      clear hX
      simp only [Act.put, List.setIfInBounds_toArray, List.set_cons_zero, List.set_cons_succ]
      refine wpX_one 12 (by kernel_rfl) rfl rfl (fun wz hz K hK => ?_)
      go_simp
      refine hK _ _ ⟨fun wz => (Ext w wz ∧ Blk wz w1.heap.size (Mt.obj ⟨i, k, l⟩)) ∧ wz.ownsRow (w1.heap.size + 1) 104 3 v2 (L1.length + 1) (L1.flatMap Mt.cells ++ Mt.cells ⟨i, k, l⟩), ((Stab.ext _).and (Stab.blk _ _)).and (fun _ _ e h => own_stab3 e h), (fun _ h => by rw [hT]; exact h.1), hz, ?_⟩
      clear hK K hz wz
      refine wpX_done (by kernel_rfl) (fun wz hz => ?_) _
      have HZ := Lib.hid hz; clear hz hT hTs
      obtain ⟨d0, d1, d2⟩ := HZ.out.1.2.cells3
      go_wp2_with fail
      go_quiet (fail)
      go_wp2_with fail
      clear d0 d1 d2
      have hO2 := own_stab3 ((Ext.refl wz).drewN nq) HZ.out.2
      have hEz : Ext w (wz.drewN nq) := HZ.out.1.1.drewN _
      have hsz : w1.heap.size + 1 ≤ (wz.drewN nq).heap.size := by have := HZ.out.1.2.lt; have := ((Ext.refl wz).drewN nq).size; omega
      have e3 : ((i : Int) + l).toNat = i + l := by omega
      have e4 : ((k : Int) + l).toNat = k + l := by omega
      have e5 : 0 ≤ (i : Int) + l := by omega
      have e6 : 0 ≤ (k : Int) + l := by omega
      have hila : (i : Int) + l ≤ a.length := by omega
      have hklb : (k : Int) + l ≤ b.length := by omega
      obtain ⟨S, hS⟩ : ∃ S, S = (fun wz => (Ext w wz ∧ w1.heap.size + 1 ≤ wz.heap.size) ∧ wz.ownsRow (w1.heap.size + 1) 104 3 v2 (L1.length + 1) (L1.flatMap Mt.cells ++ Mt.cells ⟨i, k, l⟩)) := ⟨_, rfl⟩
      have hSs : Stab S := by rw [hS]; exact ((Stab.ext _).and (Stab.size _)).and (fun _ _ e h => own_stab3 e h)
      refine wp_region_X (T := fun wz => Ext w wz) S (by kernel_rfl) (by rw [hS]; exact ⟨⟨hEz.drew, hsz⟩, own_stab3 (Ext.refl _).drew hO2⟩) (wpX_takes (by kernel_rfl) (fun _ d _ _ _ h => by cases d <;> exact h) hSs (fun _ h => by rw [hS] at h; exact h.1.1) (fuel := 2) [0,1,2,3,4,5,8] _ _ (by kernel_rfl) ?_)
      iterate 7
        refine wpTk_want rfl (Eq.refl true) ?_
        apply Exists.intro
        refine ⟨fun wx hx => ?_, ?_⟩
        · clear hx
          go_simp
          with_reducible exact gives_ok _ _ _
        simp only [Act.put, List.setIfInBounds_toArray, List.set_cons_zero, List.set_cons_succ]
      refine wpTk_nil ?_
      obtain ⟨A5, hA5⟩ : ∃ A5, (if c = i + l then A else A.map (fun x => x.add (i + l))) = A5 := ⟨_, rfl⟩
      obtain ⟨B5, hB5⟩ : ∃ B5, (if d = k + l then B else B.map (fun x => x.add (k + l))) = B5 := ⟨_, rfl⟩
      rw [hA5, hB5]
      have HA5 := Lib.hid hA5; have HB5 := Lib.hid hB5; clear hA5 hB5
      obtain ⟨L2, hL2⟩ : ∃ L2, hdiffV f (a.drop (i + l)) (b.drop (k + l)) = L2 := ⟨_, rfl⟩
      have hok2 := hdiff_ok f (a.drop (i + l)) (b.drop (k + l)) (by rw [List.length_drop]; omega) (by rw [List.length_drop]; omega)
      rw [hL2] at HV hok2
      have hl2 := check_sizes _ _ _ hok2 (by simp)
      have hn2 : L2.length ≤ 64 := by have := hl2.1; rw [List.length_drop] at this; omega
      have hsm : SmallH L2 := fun m hm => by have := hl2.2 m hm; simp only [List.length_drop] at this; omega
      have hwf : ∀ m ∈ L2, m.wf := fun m hm => by have := hsm m hm; exact mt_wf_small (by omega) (by omega) (by omega)
      have HL2 := Lib.hid hL2; have HSM := Lib.hid hsm; have HWF := Lib.hid hwf; clear hL2 hok2 hl2 hsm hwf
      refine wpX_one 6 (by kernel_rfl) rfl rfl (fun wx hx K hK => ?_)
      rw [hS] at hx
      go_simp
      refine (HIH.out _ _ (a.length - (i + l)) (c - (i + l)) (b.length - (k + l)) (d - (k + l)) (a.drop (i + l)) (b.drop (k + l)) wx (by rw [List.length_drop]; omega) (strs_back (HA.out.ext hx.1.1) hnc (by omega) HA5.out) (strs_back (HB.out.ext hx.1.1) hmd (by omega) HB5.out) (by omega) (by omega) (by omega) (by omega)).mono ?_
      rintro e wy ⟨v3, rfl, ho, hE⟩
      rw [HL2.out] at ho
      have hne : ∀ g, v2.ownBlock = some g → v3.ownBlock ≠ some g := fun g h1 h2 => by have := (hx.2.lt g h1).2; have := (ho.lt g h2).1; omega
      obtain ⟨A3, c3, rfl, hc3, -⟩ := ownM_mts ho HWF.out
      refine hK _ _ ⟨fun wz => S wz ∧ wz.ownsRow (w1.heap.size + 1) 104 3 (.slice A3 L2.length c3) L2.length (L2.flatMap Mt.cells), hSs.and (fun _ _ e h => own_stab3 e h), (fun _ h => by have := h.1; rw [hS] at this; exact this.1.1), ⟨hSs _ _ hE (by rw [hS]; exact hx), own_base ho hx.1.2⟩, ?_⟩
      have HNE := Lib.hid hne
      clear hK K hx ho hE hne wx wy
      refine wpX_one 7 (by kernel_rfl) rfl rfl (fun wx hx K hK => ?_)
      go_simp
      refine hK _ _ ⟨fun wz => S wz ∧ wz.ownsRow (w1.heap.size + 1) 104 3 (.slice A3 L2.length c3) L2.length (L2.flatMap Mt.cells), hSs.and (fun _ _ e h => own_stab3 e h), (fun _ h => by have := h.1; rw [hS] at this; exact this.1.1), hx, ?_⟩
      clear hK K hx wx
      refine wpX_done (by kernel_rfl) (fun wx hx => ?_) _
      have hx1 := hx.1
      rw [hS] at hx1
      have HX1 := Lib.hid hx1; have HX2 := Lib.hid hx.2; clear hx hx1 hS hSs hO2 hEz hsz e3 e4 e5 e6
      go_wp2_with fail
      go_loopw [7, 53] (fun v7 v53 wr => ∃ j : Nat, j ≤ L2.length ∧ v53 = .int .i64 j ∧ wr.ownsRow (w1.heap.size + 1) 104 3 v7 (L1.length + 1 + j) (L1.flatMap Mt.cells ++ Mt.cells ⟨i, k, l⟩ ++ ((L2.take j).map (fun m => m.by ((i + l : Nat) : Int) ((k + l : Nat) : Int))).flatMap Mt.cells) ∧ wr.ownsRow (w1.heap.size + 1) 104 3 (.slice A3 L2.length c3) L2.length (L2.flatMap Mt.cells) ∧ (∀ g, v7.ownBlock = some g → (Value.slice A3 L2.length c3).ownBlock ≠ some g) ∧ Ext w wr ∧ w1.heap.size + 1 ≤ wr.heap.size) (fun _ v53 _ => L2.length - (intOf v53).toNat)
      case atStart => exact ⟨0, Nat.zero_le _, rfl, by simpa using HX1.out.2, HX2.out, HNE.out, HX1.out.1.1, HX1.out.1.2⟩
      clear HX1 HX2 HNE
      case round =>
        obtain ⟨j, hj, rfl, ho, ho3, hne, hE2, hsz⟩ := hrel
        have HO := Lib.hid ho; have HO3 := Lib.hid ho3; have HNE := Lib.hid hne; have HE2 := Lib.hid hE2; clear ho ho3 hne hE2
        by_cases hlt : j < L2.length
        case neg =>
          obtain rfl : j = L2.length := by omega
          go_wp2_with fail
          go_ret
          refine ⟨_, rfl, ?_, HE2.out⟩
          rw [HV.out]
          have h5 := own_base HO.out (base' := w.heap.size) (by have := HE.out.size; omega)
          rw [List.take_of_length_le (Nat.le_refl _)] at h5
          simp only [List.length_append, List.length_map, List.length_singleton, List.flatMap_append]
          simpa using h5
        obtain ⟨A', c', hv, _, hM⟩ := ownM_mts HO3.out HWF.out
        cases hv
        obtain ⟨ba, oa, ⟨p, q, nl⟩, rfl, hba, hm', hwf, d1, d2, d3⟩ := hM.get hlt
        obtain ⟨⟨p1, p2⟩, ⟨q1, q2⟩, ⟨l1, l2⟩⟩ := HSM.out _ (List.mem_of_getElem? hm')
        have hbt := by_take ((i + l : Nat) : Int) ((k + l : Nat) : Int) hm'
        dsimp only at d1 d2 d3 p1 p2 q1 q2 l1 l2
        have HBT := Lib.hid hbt
        clear hbt hm' hwf hM
        have e1 : IntKind.i64.wrap ((i : Int) + l + p) = (i : Int) + l + p := wrap_in (by omega) (by omega)
        have e2 : IntKind.i64.wrap ((k : Int) + l + q) = (k : Int) + l + q := wrap_in (by omega) (by omega)
        go_wp2_with (at_builtin; refine wpList_append_size2 rfl (.tmp 57) (.tmp 69) 66 rfl (w1.heap.size + 1) 104 inf _ 3 24 underM I1.out I2.out I3.out I4.out rfl (by decide) u7 (L1.length + 1 + j) _ (some ⟨(wr.alloc (Mt.obj ⟨p, q, nl⟩)).heap.size, 0, none⟩) 1 1 (Mt.cells ⟨(i : Int) + l + p, (k : Int) + l + q, nl⟩) rfl (by simp [Act.eval]) rfl (by simp [Mt.cells, Value.oneCell']) (by simp only [maxLen]; omega) (by omega) (own_stab3 (((Ext.refl wr).alloc _).alloc _) HO.out) (Cells.new (wr.alloc _) _ _ rfl) (by simp; omega) ?_; intro v' w2 hown hg hb)
        go_roundw
        case rel =>
          have hEE : Ext wr ((wr.alloc (Mt.obj ⟨p, q, nl⟩)).alloc (.cells #[.int .i64 ((i : Int) + l + p), .int .i64 ((k : Int) + l + q), .int .i64 nl] 104)) := ((Ext.refl wr).alloc _).alloc _
          refine ⟨j + 1, by omega, by go_num, ?_, (own_stab3 hEE HO3.out).kept hg ?_, fun g h1 h2 => ?_, (HE2.out.trans hEE).own3 (own_base (own_stab3 hEE HO.out) (by have := HE.out.size; omega)) hg, ?_⟩
          · rw [HBT.out, List.flatMap_append, ← List.append_assoc]
            have : (Mt.by ⟨p, q, nl⟩ ((i + l : Nat) : Int) ((k + l : Nat) : Int)) = ⟨(i : Int) + l + p, (k : Int) + l + q, nl⟩ := by unfold Mt.by; congr 1 <;> (push_cast; omega)
            rw [List.flatMap_singleton, this]; exact hown
          · by_cases h : (Value.slice (some ⟨ba, oa, none⟩) L2.length c3).ownBlock = none
            · exact .inl h
            · exact .inr (fun e => by obtain ⟨g, hg⟩ := Option.ne_none_iff_exists'.1 h; exact HNE.out g (e.symm.trans hg) hg)
          · rcases hb with hb | ⟨g', hb, hle⟩
            · rw [hb] at h1; exact HNE.out g h1 h2
            · rw [hb] at h1; cases h1
              have := (HO3.out.lt _ h2).2
              simp only [World.size_alloc] at hle; omega
          · have := hg.size
            simp only [World.size_alloc] at this; omega
        case measure => simp [intOf]; omega
    · intro wx hx K hK
      rw [hT] at hx
      go_simp
      refine hK _ _ ⟨fun wz => (Ext w wz ∧ Blk wz w1.heap.size (Mt.obj ⟨i, k, l⟩)) ∧ Blk wz wx.heap.size (Mt.obj ⟨i, k, l⟩), ((Stab.ext _).and (Stab.blk _ _)).and (Stab.blk _ _), (fun _ h => by rw [hT]; exact h.1), ⟨⟨hx.1.alloc _, hx.2.alloc _⟩, Blk.new wx _ rfl⟩, ?_⟩
      obtain ⟨g0, hg0⟩ : ∃ g0, g0 = wx.heap.size := ⟨_, rfl⟩
      rw [← hg0]
      clear hK K hx hg0 wx
      refine wpX_one 8 (by kernel_rfl) rfl rfl (fun wx hx K hK => ?_)
      go_simp
      refine (HIH.out A B i c k d (a.take i) (b.take k) wx (by rw [List.length_take]; omega) (strs_front (HA.out.ext hx.1.1) (by omega)) (strs_front (HB.out.ext hx.1.1) (by omega)) (by omega) (by omega) (by omega) (by omega)).mono ?_
      rintro e wy ⟨v1, rfl, ho, hE⟩
      rw [HL1.out] at ho
      refine hK _ _ ⟨fun wz => ((Ext w wz ∧ Blk wz w1.heap.size (Mt.obj ⟨i, k, l⟩)) ∧ Blk wz g0 (Mt.obj ⟨i, k, l⟩)) ∧ wz.ownsRow (w1.heap.size + 1) 104 3 v1 L1.length (L1.flatMap Mt.cells), (((Stab.ext _).and (Stab.blk _ _)).and (Stab.blk _ _)).and (fun _ _ e h => own_stab3 e h), (fun _ h => by rw [hT]; exact h.1.1), ⟨⟨⟨hx.1.1.trans hE, hx.1.2.ext hE⟩, hx.2.ext hE⟩, own_base ho hx.1.2.lt⟩, ?_⟩
      clear hK K hx ho hE wx wy
      refine wpX_append_size 11 (by kernel_rfl) rfl rfl (.tmp 31) (.tmp 33) 66 rfl (w1.heap.size + 1) 104 inf _ 3 24 underM I1.out I2.out I3.out I4.out rfl (by decide) v1 L1.length (L1.flatMap Mt.cells) (some ⟨g0, 0, none⟩) 1 1 (Mt.cells ⟨i, k, l⟩) rfl rfl rfl (by simp [Mt.cells, Value.oneCell']) (by simp only [maxLen]; omega) (by omega)
        (fun wx hx => ⟨hx.2, .inr ⟨_, 0, rfl, fun j u hu => by rw [hx.1.2.cell]; simpa [Mt.cells] using hu⟩, hx.1.1.2.lt⟩) (fun wx hX v2 wy hown hg => ?_)
      refine ⟨fun wz => (Ext w wz ∧ Blk wz w1.heap.size (Mt.obj ⟨i, k, l⟩)) ∧ wz.ownsRow (w1.heap.size + 1) 104 3 v2 (L1.length + 1) (L1.flatMap Mt.cells ++ Mt.cells ⟨i, k, l⟩), ((Stab.ext _).and (Stab.blk _ _)).and (fun _ _ e h => own_stab3 e h), (fun _ h => by rw [hT]; exact h.1), ⟨⟨hX.1.1.1.own3 (own_base hX.2 (by have := HE.out.size; omega)) hg, hX.1.1.2.own_ltH hX.2 (by omega) hg⟩, hown⟩, ?_⟩
      clear hX
      simp only [Act.put, List.setIfInBounds_toArray, List.set_cons_zero, List.set_cons_succ]
      refine wpX_one 12 (by kernel_rfl) rfl rfl (fun wz hz K hK => ?_)
      go_simp
      refine hK _ _ ⟨fun wz => (Ext w wz ∧ Blk wz w1.heap.size (Mt.obj ⟨i, k, l⟩)) ∧ wz.ownsRow (w1.heap.size + 1) 104 3 v2 (L1.length + 1) (L1.flatMap Mt.cells ++ Mt.cells ⟨i, k, l⟩), ((Stab.ext _).and (Stab.blk _ _)).and (fun _ _ e h => own_stab3 e h), (fun _ h => by rw [hT]; exact h.1), hz, ?_⟩
      clear hK K hz wz
      refine wpX_done (by kernel_rfl) (fun wz hz => ?_) _
      have HZ := Lib.hid hz; clear hz hT hTs
      obtain ⟨d0, d1, d2⟩ := HZ.out.1.2.cells3
      go_wp2_with fail
      go_quiet (fail)
      go_wp2_with fail
      clear d0 d1 d2
      have hO2 := own_stab3 ((Ext.refl wz).drewN nq) HZ.out.2
      have hEz : Ext w (wz.drewN nq) := HZ.out.1.1.drewN _
      have hsz : w1.heap.size + 1 ≤ (wz.drewN nq).heap.size := by have := HZ.out.1.2.lt; have := ((Ext.refl wz).drewN nq).size; omega
      have e3 : ((i : Int) + l).toNat = i + l := by omega
      have e4 : ((k : Int) + l).toNat = k + l := by omega
      have e5 : 0 ≤ (i : Int) + l := by omega
      have e6 : 0 ≤ (k : Int) + l := by omega
      have hila : (i : Int) + l ≤ a.length := by omega
      have hklb : (k : Int) + l ≤ b.length := by omega
      obtain ⟨S, hS⟩ : ∃ S, S = (fun wz => (Ext w wz ∧ w1.heap.size + 1 ≤ wz.heap.size) ∧ wz.ownsRow (w1.heap.size + 1) 104 3 v2 (L1.length + 1) (L1.flatMap Mt.cells ++ Mt.cells ⟨i, k, l⟩)) := ⟨_, rfl⟩
      have hSs : Stab S := by rw [hS]; exact ((Stab.ext _).and (Stab.size _)).and (fun _ _ e h => own_stab3 e h)
      refine wp_region_X (T := fun wz => Ext w wz) S (by kernel_rfl) (by rw [hS]; exact ⟨⟨hEz.drew, hsz⟩, own_stab3 (Ext.refl _).drew hO2⟩) (wpX_takes (by kernel_rfl) (fun _ d _ _ _ h => by cases d <;> exact h) hSs (fun _ h => by rw [hS] at h; exact h.1.1) (fuel := 2) [0,1,2,3,4,5,8] _ _ (by kernel_rfl) ?_)
      iterate 7
        refine wpTk_want rfl (Eq.refl true) ?_
        apply Exists.intro
        refine ⟨fun wx hx => ?_, ?_⟩
        · clear hx
          go_simp
          with_reducible exact gives_ok _ _ _
        simp only [Act.put, List.setIfInBounds_toArray, List.set_cons_zero, List.set_cons_succ]
      refine wpTk_nil ?_
      obtain ⟨A5, hA5⟩ : ∃ A5, (if c = i + l then A else A.map (fun x => x.add (i + l))) = A5 := ⟨_, rfl⟩
      obtain ⟨B5, hB5⟩ : ∃ B5, (if d = k + l then B else B.map (fun x => x.add (k + l))) = B5 := ⟨_, rfl⟩
      rw [hA5, hB5]
      have HA5 := Lib.hid hA5; have HB5 := Lib.hid hB5; clear hA5 hB5
      obtain ⟨L2, hL2⟩ : ∃ L2, hdiffV f (a.drop (i + l)) (b.drop (k + l)) = L2 := ⟨_, rfl⟩
      have hok2 := hdiff_ok f (a.drop (i + l)) (b.drop (k + l)) (by rw [List.length_drop]; omega) (by rw [List.length_drop]; omega)
      rw [hL2] at HV hok2
      have hl2 := check_sizes _ _ _ hok2 (by simp)
      have hn2 : L2.length ≤ 64 := by have := hl2.1; rw [List.length_drop] at this; omega
      have hsm : SmallH L2 := fun m hm => by have := hl2.2 m hm; simp only [List.length_drop] at this; omega
      have hwf : ∀ m ∈ L2, m.wf := fun m hm => by have := hsm m hm; exact mt_wf_small (by omega) (by omega) (by omega)
      have HL2 := Lib.hid hL2; have HSM := Lib.hid hsm; have HWF := Lib.hid hwf; clear hL2 hok2 hl2 hsm hwf
      refine wpX_one 6 (by kernel_rfl) rfl rfl (fun wx hx K hK => ?_)
      rw [hS] at hx
      go_simp
      refine (HIH.out _ _ (a.length - (i + l)) (c - (i + l)) (b.length - (k + l)) (d - (k + l)) (a.drop (i + l)) (b.drop (k + l)) wx (by rw [List.length_drop]; omega) (strs_back (HA.out.ext hx.1.1) hnc (by omega) HA5.out) (strs_back (HB.out.ext hx.1.1) hmd (by omega) HB5.out) (by omega) (by omega) (by omega) (by omega)).mono ?_
      rintro e wy ⟨v3, rfl, ho, hE⟩
      rw [HL2.out] at ho
      have hne : ∀ g, v2.ownBlock = some g → v3.ownBlock ≠ some g := fun g h1 h2 => by have := (hx.2.lt g h1).2; have := (ho.lt g h2).1; omega
      obtain ⟨A3, c3, rfl, hc3, -⟩ := ownM_mts ho HWF.out
      refine hK _ _ ⟨fun wz => S wz ∧ wz.ownsRow (w1.heap.size + 1) 104 3 (.slice A3 L2.length c3) L2.length (L2.flatMap Mt.cells), hSs.and (fun _ _ e h => own_stab3 e h), (fun _ h => by have := h.1; rw [hS] at this; exact this.1.1), ⟨hSs _ _ hE (by rw [hS]; exact hx), own_base ho hx.1.2⟩, ?_⟩
      have HNE := Lib.hid hne
      clear hK K hx ho hE hne wx wy
      refine wpX_one 7 (by kernel_rfl) rfl rfl (fun wx hx K hK => ?_)
      go_simp
      refine hK _ _ ⟨fun wz => S wz ∧ wz.ownsRow (w1.heap.size + 1) 104 3 (.slice A3 L2.length c3) L2.length (L2.flatMap Mt.cells), hSs.and (fun _ _ e h => own_stab3 e h), (fun _ h => by have := h.1; rw [hS] at this; exact this.1.1), hx, ?_⟩
      clear hK K hx wx
      refine wpX_done (by kernel_rfl) (fun wx hx => ?_) _
      have hx1 := hx.1
      rw [hS] at hx1
      have HX1 := Lib.hid hx1; have HX2 := Lib.hid hx.2; clear hx hx1 hS hSs hO2 hEz hsz e3 e4 e5 e6
      go_wp2_with fail
      go_loopw [7, 53] (fun v7 v53 wr => ∃ j : Nat, j ≤ L2.length ∧ v53 = .int .i64 j ∧ wr.ownsRow (w1.heap.size + 1) 104 3 v7 (L1.length + 1 + j) (L1.flatMap Mt.cells ++ Mt.cells ⟨i, k, l⟩ ++ ((L2.take j).map (fun m => m.by ((i + l : Nat) : Int) ((k + l : Nat) : Int))).flatMap Mt.cells) ∧ wr.ownsRow (w1.heap.size + 1) 104 3 (.slice A3 L2.length c3) L2.length (L2.flatMap Mt.cells) ∧ (∀ g, v7.ownBlock = some g → (Value.slice A3 L2.length c3).ownBlock ≠ some g) ∧ Ext w wr ∧ w1.heap.size + 1 ≤ wr.heap.size) (fun _ v53 _ => L2.length - (intOf v53).toNat)
      case atStart => exact ⟨0, Nat.zero_le _, rfl, by simpa using HX1.out.2, HX2.out, HNE.out, HX1.out.1.1, HX1.out.1.2⟩
      clear HX1 HX2 HNE
      case round =>
        obtain ⟨j, hj, rfl, ho, ho3, hne, hE2, hsz⟩ := hrel
        have HO := Lib.hid ho; have HO3 := Lib.hid ho3; have HNE := Lib.hid hne; have HE2 := Lib.hid hE2; clear ho ho3 hne hE2
        by_cases hlt : j < L2.length
        case neg =>
          obtain rfl : j = L2.length := by omega
          go_wp2_with fail
          go_ret
          refine ⟨_, rfl, ?_, HE2.out⟩
          rw [HV.out]
          have h5 := own_base HO.out (base' := w.heap.size) (by have := HE.out.size; omega)
          rw [List.take_of_length_le (Nat.le_refl _)] at h5
          simp only [List.length_append, List.length_map, List.length_singleton, List.flatMap_append]
          simpa using h5
        obtain ⟨A', c', hv, _, hM⟩ := ownM_mts HO3.out HWF.out
        cases hv
        obtain ⟨ba, oa, ⟨p, q, nl⟩, rfl, hba, hm', hwf, d1, d2, d3⟩ := hM.get hlt
        obtain ⟨⟨p1, p2⟩, ⟨q1, q2⟩, ⟨l1, l2⟩⟩ := HSM.out _ (List.mem_of_getElem? hm')
        have hbt := by_take ((i + l : Nat) : Int) ((k + l : Nat) : Int) hm'
        dsimp only at d1 d2 d3 p1 p2 q1 q2 l1 l2
        have HBT := Lib.hid hbt
        clear hbt hm' hwf hM
        have e1 : IntKind.i64.wrap ((i : Int) + l + p) = (i : Int) + l + p := wrap_in (by omega) (by omega)
        have e2 : IntKind.i64.wrap ((k : Int) + l + q) = (k : Int) + l + q := wrap_in (by omega) (by omega)
        go_wp2_with (at_builtin; refine wpList_append_size2 rfl (.tmp 57) (.tmp 69) 66 rfl (w1.heap.size + 1) 104 inf _ 3 24 underM I1.out I2.out I3.out I4.out rfl (by decide) u7 (L1.length + 1 + j) _ (some ⟨(wr.alloc (Mt.obj ⟨p, q, nl⟩)).heap.size, 0, none⟩) 1 1 (Mt.cells ⟨(i : Int) + l + p, (k : Int) + l + q, nl⟩) rfl (by simp [Act.eval]) rfl (by simp [Mt.cells, Value.oneCell']) (by simp only [maxLen]; omega) (by omega) (own_stab3 (((Ext.refl wr).alloc _).alloc _) HO.out) (Cells.new (wr.alloc _) _ _ rfl) (by simp; omega) ?_; intro v' w2 hown hg hb)
        go_roundw
        case rel =>
          have hEE : Ext wr ((wr.alloc (Mt.obj ⟨p, q, nl⟩)).alloc (.cells #[.int .i64 ((i : Int) + l + p), .int .i64 ((k : Int) + l + q), .int .i64 nl] 104)) := ((Ext.refl wr).alloc _).alloc _
          refine ⟨j + 1, by omega, by go_num, ?_, (own_stab3 hEE HO3.out).kept hg ?_, fun g h1 h2 => ?_, (HE2.out.trans hEE).own3 (own_base (own_stab3 hEE HO.out) (by have := HE.out.size; omega)) hg, ?_⟩
          · rw [HBT.out, List.flatMap_append, ← List.append_assoc]
            have : (Mt.by ⟨p, q, nl⟩ ((i + l : Nat) : Int) ((k + l : Nat) : Int)) = ⟨(i : Int) + l + p, (k : Int) + l + q, nl⟩ := by unfold Mt.by; congr 1 <;> (push_cast; omega)
            rw [List.flatMap_singleton, this]; exact hown
          · by_cases h : (Value.slice (some ⟨ba, oa, none⟩) L2.length c3).ownBlock = none
            · exact .inl h
            · exact .inr (fun e => by obtain ⟨g, hg⟩ := Option.ne_none_iff_exists'.1 h; exact HNE.out g (e.symm.trans hg) hg)
          · rcases hb with hb | ⟨g', hb, hle⟩
            · rw [hb] at h1; exact HNE.out g h1 h2
            · rw [hb] at h1; cases h1
              have := (HO3.out.lt _ h2).2
              simp only [World.size_alloc] at hle; omega
          · have := hg.size
            simp only [World.size_alloc] at this; omega
        case measure => simp [intOf]; omega
end Go.Proofs.YtmmcjcaccicheaaGreatDoor

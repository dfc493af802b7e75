/- The walk of HunkcommuteInverses: it returns true, and adds new memory at most. -/
import Derived.Test.YtilogolnoifigaaKnow
import Derived.Deep.DeepCutAuto
namespace Go.Proofs.Ytilogolnoifigaa
open Go.RowKit

theorem invert_is (h : Hk) (w : World) :
    Calls Try.prog 14 #[h.val] w fun e w' => e = .returned h.inv.val ∧ Ext w w' := invert_any h w
def AH.inv (x : AH) : AH := ⟨x.at_, x.new, x.old⟩
theorem rh_inv {w : World} {h : Hk} {x : AH} (r : RH w h x) : RH w h.inv x.inv := ⟨inv_small r.1, r.2.1, r.2.2.2, r.2.2.1⟩

set_option maxRecDepth 100000 in
set_option maxHeartbeats 4000000 in
theorem inverses_walk {a b : Hk} {x y : AH} (w : World) (ha : RH w a x) (hb : RH w b y) :
    Calls Try.prog 5 #[a.val, b.val] w fun e w' => e = .returned (.bool true) ∧ Ext w w' := by
  have HA := Lib.hid ha; have HB := Lib.hid hb; clear ha hb
  have K0 := Lib.hid (((Know.start w).new a.obj rfl).new b.obj (g := w.heap.size + 1) (by simp))
  obtain ⟨G, hG⟩ := great2 none 0 0 a b x y _ (by decide) (HA.out.ext K0.out.1) (HB.out.ext K0.out.1) (w.heap.size + 2) (w.heap.size + 3) (by simp) (by simp)
  have HG := Lib.hid hG; clear hG
  go_enter Try.func5, Try.ntmps5
  go_wp2_with fail
  refine HG.out.mono ?_
  rintro e w1 ⟨rfl, hE⟩
  have K1 := Lib.hid (K0.out.ext hE); clear hE
  cases G
  case true =>
    go_wp2_with fail
    refine (awake_any _).mono ?_
    rintro e w2 ⟨rfl, hE⟩
    have HE := Lib.hid (K1.out.1.trans hE); clear hE
    go_wp2_with fail
    go_ret
    exact ⟨rfl, HE.out⟩
  go_wp2_with fail
  refine wp_region_text (Know w [(w.heap.size + 1, b.obj), (w.heap.size, a.obj)]) [0,1,2,3,4,5] (by kernel_rfl) (Know.stab _ _) K1.out.drew (by kernel_rfl) (fun _ d _ _ _ h => by cases d <;> exact h) ?_
  iterate 6
    refine wpTk_want rfl (Eq.refl true) ?_
    apply Exists.intro
    refine ⟨fun wx hx => ?_, ?_⟩
    · obtain ⟨c00, c01, c02⟩ := (hx.at 1 rfl).cells3
      have HX := Lib.hid hx; clear hx
      go_simp
      first
        | with_reducible exact gives_ok _ _ _
        | (have r := invert_is a wx; with_reducible exact gives_call _ _ _ r)
        | (have r := invert_is a.inv wx; with_reducible exact gives_call _ _ _ r)
        | (have r := sameHunk_is (a := a.inv.inv) (b := a) (AH.same_refl x) (rh_inv (rh_inv (HA.out.ext HX.out.1))) (HA.out.ext HX.out.1); with_reducible exact gives_call _ _ _ r)
    simp only [Act.put, List.setIfInBounds_toArray, List.set_cons_zero, List.set_cons_succ]
  refine wpTk_nil ?_
  intro w2 hK
  have K2 := Lib.hid hK; clear hK
  obtain ⟨c00, c01, c02⟩ := (K2.out.at 1 rfl).cells3
  obtain ⟨c10, c11, c12⟩ := (K2.out.at 0 rfl).cells3
  go_wp2_with fail
  clear c00 c01 c02 c10 c11 c12
  obtain ⟨k, h, ok1, h1⟩ : ∃ x y ok, commuteT a b = (x, y, ok) := ⟨_, _, _, rfl⟩
  have S1 := Lib.hid (commuteT_small h1 HA.out.1 HB.out.1)
  refine (commute_is h1 _ HA.out.1 HB.out.1).mono ?_
  have H1 := Lib.hid h1; clear h1
  rintro e w3 ⟨rfl, hE⟩
  have K3 := Lib.hid (((K2.out.ext hE).new k.obj rfl).new h.obj (g := w3.heap.size + 1) (by simp)); clear hE
  cases ok1
  case false =>
    go_wp2_with fail
    refine (awake_any _).mono ?_
    rintro e w4 ⟨rfl, hE⟩
    have HE := Lib.hid (K3.out.1.trans hE); clear hE
    go_wp2_with fail
    go_ret
    exact ⟨rfl, HE.out⟩
  have hV := commuteV_inv (commuteT_true H1.out)
  have LK := Lib.hid (commuteV_like (commuteT_true H1.out))
  have HV := Lib.hid hV; clear hV
  go_upto_region 8 with fail
  go_cut [8, 9, 10] (fun s8 s9 s10 wx => ∃ g8 g9, s8 = .pointer (some ⟨g8, 0, none⟩) ∧ s9 = .pointer (some ⟨g9, 0, none⟩) ∧ s10 = .bool true ∧ Know w [(g8, b.obj), (g9, h.inv.obj), (w3.heap.size + 1, h.obj), (w3.heap.size, k.obj), (w.heap.size + 1, b.obj), (w.heap.size, a.obj)] wx)
  case first =>
    have TT : (World → Prop) := Know w [(w3.heap.size + 1, h.obj), (w3.heap.size, k.obj), (w.heap.size + 1, b.obj), (w.heap.size, a.obj)]
    refine wp_region_X (T := Know w [(w3.heap.size + 1, h.obj), (w3.heap.size, k.obj), (w.heap.size + 1, b.obj), (w.heap.size, a.obj)]) (Know w [(w3.heap.size + 1, h.obj), (w3.heap.size, k.obj), (w.heap.size + 1, b.obj), (w.heap.size, a.obj)]) (by kernel_rfl) K3.out.drew (wpX_takes (by kernel_rfl) (fun _ d _ _ _ h => by cases d <;> exact h) (Know.stab _ _) (fun _ h => h) (fuel := 5) [0,1,2,3,4,5,6,7] _ _ (by kernel_rfl) ?_)
    clear TT
    iterate 8
      refine wpTk_want rfl (Eq.refl true) ?_
      apply Exists.intro
      refine ⟨fun wx hx => ?_, ?_⟩
      · obtain ⟨d00, d01, d02⟩ := (hx.at 3 rfl).cells3
        obtain ⟨d10, d11, d12⟩ := (hx.at 1 rfl).cells3
        clear hx
        go_simp
        first
          | with_reducible exact gives_ok _ _ _
          | (have r := invert_is a wx; with_reducible exact gives_call _ _ _ r)
          | (have r := commute_some HV.out wx (inv_small HA.out.1) S1.out.1; with_reducible exact gives_call _ _ _ r)
      simp only [Act.put, List.setIfInBounds_toArray, List.set_cons_zero, List.set_cons_succ]
    refine wpTk_nil ?_
    refine wpX_alloc2 8 9 zeroObj (by kernel_rfl) (by kernel_rfl) (by kernel_rfl) (by decide) rfl rfl rfl rfl (by simp) (fun _ _ => by go_simp) (fun _ _ => by go_simp) (Know.stab _ _) (fun _ h => h) (fun g8 g9 wv hv hg8 hg9 hne => ?_)
    simp only [Act.put, List.setIfInBounds_toArray, List.set_cons_zero, List.set_cons_succ]
    have hw8 : w.heap.size ≤ g8 := Nat.le_trans hv.1.size hg8
    have hw9 : w.heap.size ≤ g9 := Nat.le_trans hv.1.size hg9
    have hL8 := fun p hp => Nat.ne_of_lt (Nat.lt_of_lt_of_le (hv.2 p hp).lt hg8)
    have hL9 := fun p hp => Nat.ne_of_lt (Nat.lt_of_lt_of_le (hv.2 p hp).lt hg9)
    have HN := Lib.hid (And.intro hw8 (And.intro hw9 (And.intro hL8 (And.intro hL9 hne))))
    clear hw8 hw9 hL8 hL9 hne hv hg8 hg9
    refine wpX_one 10 (by kernel_rfl) rfl rfl (fun wy hy K hK => ?_)
    have HY := Lib.hid hy; clear hy
    obtain ⟨d00, d01, d02⟩ := HY.out.2.1.cells3
    obtain ⟨e00, e01, e02⟩ := HY.out.2.1.free3
    go_simp
    refine hK _ _ ⟨fun wz => Know w [(w3.heap.size + 1, h.obj), (w3.heap.size, k.obj), (w.heap.size + 1, b.obj), (w.heap.size, a.obj)] wz ∧ Blk wz g8 b.obj ∧ Blk wz g9 zeroObj, (Know.stab _ _).and ((Stab.blk _ _).and (Stab.blk _ _)), fun _ h => h.1,
      ⟨HY.out.1.set3 HN.out.1 HN.out.2.2.1 _ _ _, HY.out.2.1.set3, HY.out.2.2.far3 HN.out.2.2.2.2.symm _ _ _⟩, ?_⟩
    clear hK K d00 d01 d02 e00 e01 e02 HY
    refine wpX_one 11 (by kernel_rfl) rfl rfl (fun wy hy K hK => ?_)
    have HY := Lib.hid hy; clear hy
    obtain ⟨d00, d01, d02⟩ := HY.out.2.2.cells3
    obtain ⟨e00, e01, e02⟩ := HY.out.2.2.free3
    go_simp
    refine hK _ _ ⟨fun wz => Know w [(w3.heap.size + 1, h.obj), (w3.heap.size, k.obj), (w.heap.size + 1, b.obj), (w.heap.size, a.obj)] wz ∧ Blk wz g8 b.obj ∧ Blk wz g9 h.inv.obj, (Know.stab _ _).and ((Stab.blk _ _).and (Stab.blk _ _)), fun _ h => h.1,
      ⟨HY.out.1.set3 HN.out.2.1 HN.out.2.2.2.1 _ _ _, HY.out.2.1.far3 HN.out.2.2.2.2 _ _ _, HY.out.2.2.set3⟩, ?_⟩
    clear hK K d00 d01 d02 e00 e01 e02 HY
    refine wpX_one 12 (by kernel_rfl) rfl rfl (fun wy hy K hK => ?_)
    go_simp
    refine hK _ _ ⟨_, (Know.stab w [(w3.heap.size + 1, h.obj), (w3.heap.size, k.obj), (w.heap.size + 1, b.obj), (w.heap.size, a.obj)]).and ((Stab.blk g8 b.obj).and (Stab.blk g9 h.inv.obj)), fun _ h => h.1, hy, ?_⟩
    clear hK K hy
    refine wpX_done (by kernel_rfl) (fun wz hz => ?_) _
    have HZ := Lib.hid hz; clear hz
    go_wp2_with fail
    go_meet
    exact ⟨g8, g9, rfl, rfl, rfl, (HZ.out.1.cons HZ.out.2.2).cons HZ.out.2.1⟩
  case rest =>
    obtain ⟨g8, g9, rfl, rfl, rfl, hK⟩ := hcut
    have K4 := Lib.hid hK; clear hK
    go_wp2_with fail
    refine wp_region_text (Know w [(g8, b.obj), (g9, h.inv.obj), (w3.heap.size + 1, h.obj), (w3.heap.size, k.obj), (w.heap.size + 1, b.obj), (w.heap.size, a.obj)]) [0,1,2,3,4,5,6,7,8,9,10,11,12,13,14,15] (by kernel_rfl) (Know.stab _ _) K4.out.drew (by kernel_rfl) (fun _ d _ _ _ h => by cases d <;> exact h) ?_
    iterate 16
      refine wpTk_want rfl (Eq.refl true) ?_
      apply Exists.intro
      refine ⟨fun wx hx => ?_, ?_⟩
      · obtain ⟨d00, d01, d02⟩ := (hx.at 0 rfl).cells3
        obtain ⟨d10, d11, d12⟩ := (hx.at 1 rfl).cells3
        obtain ⟨d20, d21, d22⟩ := (hx.at 2 rfl).cells3
        obtain ⟨d40, d41, d42⟩ := (hx.at 4 rfl).cells3
        have HX := Lib.hid hx; clear hx
        go_simp
        first
          | with_reducible exact gives_ok _ _ _
          | (have r := invert_is h wx; with_reducible exact gives_call _ _ _ r)
          | (have r := sameHunk_is (a := b) (b := b) (AH.same_refl y) (HB.out.ext HX.out.1) (HB.out.ext HX.out.1); with_reducible exact gives_call _ _ _ r)
          | (have r := sameHunk_is (a := h.inv) (b := h.inv) (AH.same_refl _) (rh_inv (rh_like (HA.out.ext HX.out.1) LK.out.2)) (rh_inv (rh_like (HA.out.ext HX.out.1) LK.out.2)); with_reducible exact gives_call _ _ _ r)
          | (have r := awake_any wx; with_reducible exact gives_call _ _ _ r)
      simp only [Act.put, List.setIfInBounds_toArray, List.set_cons_zero, List.set_cons_succ]
    refine wpTk_nil ?_
    intro w5 hK
    have K5 := Lib.hid hK; clear hK
    go_wp2_with fail
    go_ret
    exact ⟨rfl, K5.out.1⟩
end Go.Proofs.Ytilogolnoifigaa

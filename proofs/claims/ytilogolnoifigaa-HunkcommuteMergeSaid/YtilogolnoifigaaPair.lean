/- The walk of HunkcommutePair: it returns true, and adds new memory at most. -/
import Derived.Test.YtilogolnoifigaaKnow
import Derived.Test.YtilogolnoifigaaRefc
namespace Go.Proofs.Ytilogolnoifigaa
open Go.RowKit

theorem rh_zero (w : World) : RH w Hk.zero ⟨0, [], []⟩ := ⟨zero_small, rfl, Strs.nil _ _, Strs.nil _ _⟩
theorem commuteT_rh {a b x y : Hk} {ok : Bool} (h : commuteT a b = (x, y, ok)) (xa xb : AH) : ∃ X Y, ∀ w, RH w a xa → RH w b xb → RH w x X ∧ RH w y Y := by
  unfold commuteT at h
  split at h
  · cases h; exact ⟨_, _, fun w _ _ => ⟨rh_zero w, rh_zero w⟩⟩
  · rename_i h'; cases h
    obtain ⟨l1, l2⟩ := commuteV_like h'
    exact ⟨_, _, fun w ra rb => ⟨rh_like rb l1, rh_like ra l2⟩⟩
theorem mergeV_like {a b y x : Hk} (h : mergeV a b = some (y, x)) : b.like y ∧ a.like x := by
  unfold mergeV at h
  split at h
  · cases h
  · split at h
    · split at h
      · cases h; exact ⟨rfl, rfl⟩
      · cases h
    · split at h
      · split at h
        · cases h; exact ⟨rfl, rfl⟩
        · cases h
      · cases h
theorem mergeT_rh {a b x y : Hk} {ok : Bool} (h : mergeT a b = (x, y, ok)) (xa xb : AH) : ∃ X Y, ∀ w, RH w a xa → RH w b xb → RH w x X ∧ RH w y Y := by
  unfold mergeT at h
  split at h
  · cases h; exact ⟨_, _, fun w _ _ => ⟨rh_zero w, rh_zero w⟩⟩
  · rename_i h'; cases h
    obtain ⟨l1, l2⟩ := mergeV_like h'
    exact ⟨_, _, fun w ra rb => ⟨rh_like rb l1, rh_like ra l2⟩⟩
theorem invert_is' (h : Hk) (w : World) :
    Calls Try.prog 14 #[h.val] w fun e w' => e = .returned h.inv.val ∧ Ext w w' := invert_any h w
theorem rh_inv' {w : World} {h : Hk} {x : AH} (r : RH w h x) : RH w h.inv ⟨x.at_, x.new, x.old⟩ := ⟨inv_small r.1, r.2.1, r.2.2.2, r.2.2.1⟩

theorem Know.of {w0 wx : World} (e : Ext w0 wx) : Know w0 [] wx := ⟨e, by simp⟩
theorem blk_six {w : World} {g k1 k2 : Nat} {t : TypeId} {x y z : Value} (h : Blk w g (.cells #[x, y, z] t (0, 0))) (h1 : g ≠ k1) (h2 : g ≠ k2) :
    (∀ u1 u2 u3 u4 u5 u6, ((((((w.setCell ⟨k1, 0, none⟩ u1).setCell ⟨k1, 1, none⟩ u2).setCell ⟨k1, 2, none⟩ u3).setCell ⟨k2, 0, none⟩ u4).setCell ⟨k2, 1, none⟩ u5).setCell ⟨k2, 2, none⟩ u6).cell? ⟨g, 0, none⟩ = some x) ∧
    (∀ u1 u2 u3 u4 u5 u6, ((((((w.setCell ⟨k1, 0, none⟩ u1).setCell ⟨k1, 1, none⟩ u2).setCell ⟨k1, 2, none⟩ u3).setCell ⟨k2, 0, none⟩ u4).setCell ⟨k2, 1, none⟩ u5).setCell ⟨k2, 2, none⟩ u6).cell? ⟨g, 1, none⟩ = some y) ∧
    (∀ u1 u2 u3 u4 u5 u6, ((((((w.setCell ⟨k1, 0, none⟩ u1).setCell ⟨k1, 1, none⟩ u2).setCell ⟨k1, 2, none⟩ u3).setCell ⟨k2, 0, none⟩ u4).setCell ⟨k2, 1, none⟩ u5).setCell ⟨k2, 2, none⟩ u6).cell? ⟨g, 2, none⟩ = some z) :=
  ⟨fun u1 u2 u3 u4 u5 u6 => ((h.far3 h1 u1 u2 u3).far3 h2 u4 u5 u6).cell 0, fun u1 u2 u3 u4 u5 u6 => ((h.far3 h1 u1 u2 u3).far3 h2 u4 u5 u6).cell 1, fun u1 u2 u3 u4 u5 u6 => ((h.far3 h1 u1 u2 u3).far3 h2 u4 u5 u6).cell 2⟩

set_option maxRecDepth 100000 in
set_option maxHeartbeats 4000000 in
theorem pair_walk {a b : Hk} {x y : AH} (w : World) (ha : RH w a x) (hb : RH w b y) :
    Calls Try.prog 6 #[a.val, b.val] w fun e w' => e = .returned (.bool true) ∧ Ext w w' := by
  have HA := Lib.hid ha; have HB := Lib.hid hb; clear ha hb
  have K0 := Lib.hid (((Know.start w).new a.obj rfl).new b.obj (g := w.heap.size + 1) (by simp))
  obtain ⟨G, hG⟩ := great2 none 0 0 a b x y _ (by decide) (HA.out.ext K0.out.1) (HB.out.ext K0.out.1) (w.heap.size + 2) (w.heap.size + 3) (by simp) (by simp)
  have HG := Lib.hid hG; clear hG
  go_enter Try.func6, Try.ntmps6
  go_wp2_with fail
  refine HG.out.mono ?_
  rintro e w1 ⟨rfl, hE⟩
  have K1 := Lib.hid (K0.out.ext hE); clear hE
  cases G
  case true =>
    go_wp2_with fail
    refine (awake_any _).mono ?_
    rintro e w2 ⟨rfl, hE⟩
    have HE := Lib.hid (K1.out.1.trans hE); clear hE
    go_wp2_with fail
    go_ret
    exact ⟨rfl, HE.out⟩
  obtain ⟨c00, c01, c02⟩ := (K1.out.at 1 rfl).cells3
  obtain ⟨c10, c11, c12⟩ := (K1.out.at 0 rfl).cells3
  go_wp2_with fail
  clear c00 c01 c02 c10 c11 c12
  obtain ⟨p, q, ok, h1⟩ : ∃ x y ok, commuteT a b = (x, y, ok) := ⟨_, _, _, rfl⟩
  refine (commute_is h1 _ HA.out.1 HB.out.1).mono ?_
  have H1 := Lib.hid h1; clear h1
  rintro e w2 ⟨rfl, hE⟩
  have n2 := (K1.out.ext hE).lt 0 rfl
  have K2 := Lib.hid (((K1.out.ext hE).new p.obj rfl).new q.obj (g := w2.heap.size + 1) (by simp)); clear hE
  obtain ⟨c00, c01, c02⟩ := (K2.out.at 3 rfl).cells3
  obtain ⟨c10, c11, c12⟩ := (K2.out.at 2 rfl).cells3
  go_wp2_with fail
  clear c00 c01 c02 c10 c11 c12
  refine (refc_is H1.out _ HA.out.1 HB.out.1).mono ?_
  rintro e w3 ⟨rfl, hE⟩
  have n3 := (K2.out.ext hE).lt 0 rfl
  have K3 := Lib.hid (((K2.out.ext hE).new p.obj rfl).new q.obj (g := w3.heap.size + 1) (by simp)); clear hE
  obtain ⟨P, Q, hPQ⟩ := commuteT_rh H1.out x y
  have HPQ := Lib.hid hPQ; clear hPQ
  obtain ⟨c00, c01, c02⟩ := (K3.out.at 3 rfl).cells3
  have hok : (ok != ok) = false := by simp
  go_wp2_with fail
  clear c00 c01 c02
  refine (sameHunk_is (AH.same_refl P) (HPQ.out _ (HA.out.ext K3.out.1) (HB.out.ext K3.out.1)).1 (HPQ.out _ (HA.out.ext K3.out.1) (HB.out.ext K3.out.1)).1).mono ?_
  rintro e w4 ⟨rfl, hE⟩
  have K4 := Lib.hid (K3.out.ext hE); clear hE
  obtain ⟨c00, c01, c02⟩ := (K4.out.at 2 rfl).cells3
  obtain ⟨c10, c11, c12⟩ := (K4.out.at 0 rfl).cells3
  go_wp2_with fail
  clear c00 c01 c02 c10 c11 c12
  refine (sameHunk_is (AH.same_refl Q) (HPQ.out _ (HA.out.ext K4.out.1) (HB.out.ext K4.out.1)).2 (HPQ.out _ (HA.out.ext K4.out.1) (HB.out.ext K4.out.1)).2).mono ?_
  rintro e w5 ⟨rfl, hE⟩
  have K5 := Lib.hid (K4.out.ext hE); clear hE
  obtain ⟨c00, c01, c02⟩ := (K5.out.at 5 rfl).cells3
  obtain ⟨c10, c11, c12⟩ := (K5.out.at 4 rfl).cells3
  go_wp2_with fail
  clear c00 c01 c02 c10 c11 c12
  obtain ⟨p', q', ok', h2⟩ : ∃ x y ok, mergeT a b = (x, y, ok) := ⟨_, _, _, rfl⟩
  refine (merge_is h2 _ HA.out.1 HB.out.1).mono ?_
  have H2 := Lib.hid h2; clear h2
  rintro e w6 ⟨rfl, hE⟩
  have K6 := Lib.hid (K5.out.ext hE); clear hE
  obtain ⟨c00, c01, c02⟩ := blk_six (K6.out.at 5 rfl) (k1 := w2.heap.size) (k2 := w2.heap.size + 1) (by omega) (by omega)
  obtain ⟨c10, c11, c12⟩ := blk_six (K6.out.at 4 rfl) (k1 := w2.heap.size) (k2 := w2.heap.size + 1) (by omega) (by omega)
  obtain ⟨c20, c21, c22⟩ := (K6.out.at 3 rfl).cells3
  obtain ⟨c30, c31, c32⟩ := (K6.out.at 2 rfl).cells3
  obtain ⟨f20, f21, f22⟩ := (K6.out.at 3 rfl).free3
  obtain ⟨f30, f31, f32⟩ := (K6.out.at 2 rfl).free3
  go_wp2_with fail
  clear c00 c01 c02 c10 c11 c12 c20 c21 c22 c30 c31 c32 f20 f21 f22 f30 f31 f32
  refine (refm_is H2.out _ HA.out.1 HB.out.1).mono ?_
  rintro e w7 ⟨rfl, hE⟩
  have KE : Know w [] w7 := ⟨((K6.out.1.set3 (by omega) _ _ _).set3 (by omega) _ _ _).trans hE, by simp⟩
  have Ba := (((K6.out.at 5 rfl).far3 (k := w2.heap.size) (by omega) _ _ _).far3 (k := w2.heap.size + 1) (by omega) _ _ _).ext hE
  have Bb := (((K6.out.at 4 rfl).far3 (k := w2.heap.size) (by omega) _ _ _).far3 (k := w2.heap.size + 1) (by omega) _ _ _).ext hE
  have B5 := (((K6.out.at 3 rfl).set3).far3 (k := w2.heap.size + 1) (by omega) _ _ _).ext hE
  have B6 := (((K6.out.at 2 rfl).far3 (k := w2.heap.size) (by omega) _ _ _).set3).ext hE
  have B8 := (((K6.out.at 1 rfl).far3 (k := w2.heap.size) (by omega) _ _ _).far3 (k := w2.heap.size + 1) (by omega) _ _ _).ext hE
  have B9 := (((K6.out.at 0 rfl).far3 (k := w2.heap.size) (by omega) _ _ _).far3 (k := w2.heap.size + 1) (by omega) _ _ _).ext hE
  have K7 := Lib.hid ((((((KE.cons Ba).cons Bb).cons B5).cons B6).cons B8).cons B9)
  clear hE KE Ba Bb B5 B6 B8 B9
  obtain ⟨c20, c21, c22⟩ := (K7.out.at 1 rfl).cells3
  obtain ⟨c30, c31, c32⟩ := (K7.out.at 0 rfl).cells3
  obtain ⟨f20, f21, f22⟩ := (K7.out.at 1 rfl).free3
  obtain ⟨f30, f31, f32⟩ := (K7.out.at 0 rfl).free3
  go_wp2_with fail
  clear c20 c21 c22 c30 c31 c32 f20 f21 f22 f30 f31 f32
  obtain ⟨P', Q', hPQ'⟩ := mergeT_rh H2.out x y
  have HPQ' := Lib.hid hPQ'; clear hPQ'
  have KT : Know w [(w3.heap.size + 1, q'.obj), (w3.heap.size, p'.obj), (w2.heap.size + 1, q'.obj), (w2.heap.size, p'.obj), (w.heap.size, a.obj)] _ :=
    (((((Know.of ((K7.out.1.set3 (k := w3.heap.size) (by omega) (.int .i64 p'.at_) (.slice p'.oa p'.ol p'.oc) (.slice p'.na p'.nl p'.nc)).set3 (k := w3.heap.size + 1) (by omega) (.int .i64 q'.at_) (.slice q'.oa q'.ol q'.oc) (.slice q'.na q'.nl q'.nc))).cons
      (((K7.out.at 5 rfl).far3 (k := w3.heap.size) (by omega) _ _ _).far3 (k := w3.heap.size + 1) (by omega) _ _ _)).cons
      (((K7.out.at 3 rfl).far3 (k := w3.heap.size) (by omega) _ _ _).far3 (k := w3.heap.size + 1) (by omega) _ _ _)).cons
      (((K7.out.at 2 rfl).far3 (k := w3.heap.size) (by omega) _ _ _).far3 (k := w3.heap.size + 1) (by omega) _ _ _)).cons
      (((K7.out.at 1 rfl).set3).far3 (k := w3.heap.size + 1) (by omega) _ _ _)).cons
      (((K7.out.at 0 rfl).far3 (k := w3.heap.size) (by omega) _ _ _).set3)
  have HKT := Lib.hid KT; clear KT
  have hok' : (ok' == ok') = true := by simp
  refine wp_region_text (Know w [(w3.heap.size + 1, q'.obj), (w3.heap.size, p'.obj), (w2.heap.size + 1, q'.obj), (w2.heap.size, p'.obj), (w.heap.size, a.obj)]) [0,1,2,3,4,5,6,7,8,9,10,11,12,13,14,15,16,17,18,19,20,21,22,23] (by kernel_rfl) (Know.stab _ _) HKT.out.drew (by kernel_rfl) (fun _ d _ _ _ h => by cases d <;> exact h) ?_
  iterate 24
    refine wpTk_want rfl (Eq.refl true) ?_
    apply Exists.intro
    refine ⟨fun wx hx => ?_, ?_⟩
    · obtain ⟨d00, d01, d02⟩ := (hx.at 0 rfl).cells3
      obtain ⟨d10, d11, d12⟩ := (hx.at 1 rfl).cells3
      obtain ⟨d20, d21, d22⟩ := (hx.at 2 rfl).cells3
      obtain ⟨d30, d31, d32⟩ := (hx.at 3 rfl).cells3
      obtain ⟨d40, d41, d42⟩ := (hx.at 4 rfl).cells3
      have HX := Lib.hid hx; clear hx
      go_simp
      first
        | with_reducible exact gives_ok _ _ _
        | (have r := invert_is' a wx; with_reducible exact gives_call _ _ _ r)
        | (have r := invert11_is a wx; with_reducible exact gives_call _ _ _ r)
        | (have r := sameHunk_is (AH.same_refl P') (HPQ'.out _ (HA.out.ext HX.out.1) (HB.out.ext HX.out.1)).1 (HPQ'.out _ (HA.out.ext HX.out.1) (HB.out.ext HX.out.1)).1; with_reducible exact gives_call _ _ _ r)
        | (have r := sameHunk_is (AH.same_refl Q') (HPQ'.out _ (HA.out.ext HX.out.1) (HB.out.ext HX.out.1)).2 (HPQ'.out _ (HA.out.ext HX.out.1) (HB.out.ext HX.out.1)).2; with_reducible exact gives_call _ _ _ r)
        | (have r := sameHunk_is (AH.same_refl _) (rh_inv' (HA.out.ext HX.out.1)) (rh_inv' (HA.out.ext HX.out.1)); with_reducible exact gives_call _ _ _ r)
        | (have r := awake_any wx; with_reducible exact gives_call _ _ _ r)
    simp only [Act.put, List.setIfInBounds_toArray, List.set_cons_zero, List.set_cons_succ]
  refine wpTk_nil ?_
  intro w8 hK
  have K8 := Lib.hid hK; clear hK
  go_wp2_with fail
  go_ret
  exact ⟨rfl, K8.out.1⟩
end Go.Proofs.Ytilogolnoifigaa

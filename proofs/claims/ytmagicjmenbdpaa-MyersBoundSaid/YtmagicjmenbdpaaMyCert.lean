/- Contract: Certificate. -/
import Derived.Test.YtmagicjmenbdpaaMyColl
namespace Go.Proofs.Ytmagicjmenbdpaa
open Go.RowKit
attribute [local go_sem] Oper.semAt_some

set_option maxHeartbeats 4000000 in
theorem certificate_any (A B : Option Addr) (n c m cd : Nat) (a b : Lns) (w : World) (ha : Strs w A n a) (hb : Strs w B m b) (hn : n ≤ 100) (hm : m ≤ 100) (D : Nat) (hD : D ≤ 200) (hL : LastT a b D) :
    Calls Try.prog 22 #[.slice A n c, .slice B m cd] w fun e w' => ∃ g cc L, e = .returned (.slice (some ⟨g, 0, none⟩) D cc) ∧ RTBs w' (some ⟨g, 0, none⟩) D L ∧ L.map (·.t) = tabsV a b D ∧ Ext w w' := by
  obtain rfl : a.length = n := ha.1
  obtain rfl : b.length = m := hb.1
  have HA := Lib.hid ha; have HB := Lib.hid hb; have HL := Lib.hid hL; clear ha hb hL
  refine calls_marks Try.func22 rfl ?_
  simp only [Try.ntmps22, List.size_toArray, List.length_cons, List.length_nil, Nat.reduceAdd, Nat.reduceSub, Array.replicate_succ, Array.replicate_zero, List.push_toArray, List.append_toArray, List.nil_append, List.cons_append]
  go_wp2_with fail
  refine (follower_any _ _ _ _ _ _ _).mono ?_
  rintro e w1 ⟨rfl, rfl⟩
  go_wp2_with fail
  refine (tables_any _ _ _ _ _ _ _ _ _).mono ?_
  rintro e w1 ⟨rfl, rfl⟩
  go_wp2_with fail
  obtain ⟨w1, hw1⟩ : ∃ w1, w1 = w.alloc (.cells #[.slice none 0 0] 33) := ⟨_, rfl⟩
  have hs1 : w1.heap.size = w.heap.size + 1 := by rw [hw1]; simp
  obtain ⟨w0, hw0⟩ : ∃ w0, w0 = ((((w1.alloc (boxS A a.length c)).alloc (boxS B b.length cd)).alloc (boxS A a.length c)).alloc (boxS B b.length cd)).alloc (boxF w1.heap.size (w1.heap.size + 1)) := ⟨_, rfl⟩
  have hs0 : w0.heap.size = w.heap.size + 6 := by rw [hw0]; simp [hs1]
  have he1 : Ext w w1 := by rw [hw1]; exact (Ext.refl w).alloc _
  have he0 : Ext w1 w0 := by rw [hw0]; exact (((((Ext.refl w1).alloc _).alloc _).alloc _).alloc _).alloc _
  have hbx : Blk w0 w.heap.size (.cells #[.slice none 0 0] 33) := by
    refine Blk.ext ?_ he0
    rw [hw1]; exact Blk.new w _ rfl
  have hK := kn_start (X := fun g => g = w.heap.size) (d := cd) HA.out HB.out he1 (fun g hg => by subst hg; omega) hw0
  have hit := tables_iter A B c cd a b _ _ _ _ _ (fun g => g = w.heap.size) w0 hK hn hm D hD HL.out.1 HL.out.2
  have e0 : (((((w.alloc (Obj.cells #[Value.slice none 0 0] 33)).alloc (boxS A (List.length a) c)).alloc (boxS B (List.length b) cd)).alloc (boxS A (List.length a) c)).alloc (boxS B (List.length b) cd)).alloc (boxF (w.heap.size + 1) (w.heap.size + 1 + 1)) = w0 := by rw [hw0, hs1, hw1]
  rw [e0]
  rw [hs1] at hit
  obtain ⟨inf, i1, i2, i3, i4⟩ := info_of info47
  have I1 := Lib.hid i1; have I2 := Lib.hid i2; have I3 := Lib.hid i3; have I4 := Lib.hid i4; clear i1 i2 i3 i4
  have HBX := Lib.hid hbx; have HE1 := Lib.hid (he1.trans he0); have HS0 := Lib.hid hs0
  clear e0 hw0 hw1 hs1 he1 he0 hbx hK hs0
  refine wp_of_In (wpIn_range (gf := 47) rfl (enters_of Try.func47 (by kernel_rfl) rfl) hit encT_size encT_lv encT_less (fun g h => h.elim)
    (ColI w.heap.size w0.heap.size 33 47 w0) (fun _ _ _ _ => False) (col_firm (by rw [HS0.out]; omega) (Nat.le_refl _)) (fun _ _ _ _ _ h _ => h.elim) (fun g => g = w.heap.size ∨ Value.ownBlock (.slice none 0 0) = some g)
    ⟨_, [], HBX.out, World.ownsRow_nil _ _ _ _, ⟨rfl, by simp⟩, rfl, Lv.refl _ _⟩ (fun g h => by rcases h with rfl | h; rw [HS0.out]; omega; cases h)
    (fun S W e h => ⟨Lv.of_ext e, fun g hg hs => (h g hg hs).elim id (fun h => by cases h)⟩)
    (fun vs => { tmps := #[Value.slice A (List.length a) c, Value.slice B (List.length b) cd, undef, undef, Value.slice none 0 0,
          Value.pointer (some { block := w.heap.size, off := 0 }), vs.getD 0 undef, Value.slice A (List.length a) c,
          Value.slice B (List.length b) cd, Value.slice A (List.length a) c, Value.slice B (List.length b) cd,
          folF (w.heap.size + 1) (w.heap.size + 1 + 1),
          tabF (w.heap.size + 1 + 1 + 1 + 2) (w.heap.size + 1 + 1 + 1) (w.heap.size + 1 + 1 + 1 + 1), vs.getD 0 undef, undef,
          undef, undef, undef, undef, undef, undef, undef, undef], defers := [] }) ?assign ?body ?done (fun _ _ _ _ _ _ _ _ h _ => h.elim))
  case assign =>
    rintro l x vs S W K ⟨g, v, rfl, ht, hng⟩ hK
    gi_wp2
    exact hK
  case body =>
    rintro l pre x vs S W ⟨v, vs', h1, h2, h3, h4, h5⟩ hle hpx ⟨g, u, rfl, ht, hng⟩
    have hlen : pre.length ≤ D := by have := hpx.length_le; simp [tabsV] at this; omega
    have H1 := Lib.hid h1; have H2 := Lib.hid h2; have H3 := Lib.hid h3; have H4 := Lib.hid h4; have H5 := Lib.hid h5; have HT := Lib.hid ht; have HN := Lib.hid hng
    have c0 := h1.cell 0; have f0 := h1.free 0
    replace c0 : W.cell? ⟨w.heap.size, 0, none⟩ = some v := c0
    clear h1 h2 h3 h4 h5 ht hng
    obtain ⟨cc, cs, hv, -, -⟩ := HT.out
    subst hv
    gi_wp2_with (gi_at_builtin; refine wpListIn_append_size2 rfl (.tmp 14) (.tmp 16) 33 rfl w0.heap.size 47 inf _ 1 24 under33 I1.out I2.out I3.out I4.out rfl (by decide) v pre.length vs' (some ⟨W.heap.size, 0, none⟩) 1 1 [.slice (some ⟨g, 0, none⟩) x.length cc] rfl (by simp [Act.eval]) rfl (by simp [Value.oneCell']) (by simp only [maxLen]; omega) (by omega) (own_stab3 ((Ext.refl W).alloc _) H2.out) (Cells.new W _ [_] rfl) (by simp; omega) ?_; intro v2 w2 hown2 hg2 hb2; have hbx2 := col_box (by rw [HS0.out]; omega) H1.out H2.out ((Ext.refl W).alloc _) hg2; have c1 := hbx2.cell 0; have f1 := hbx2.free 0; obtain ⟨g', cap', rfl⟩ := ownsRow_succ hown2; have HO2 := Lib.hid hown2; have HG2 := Lib.hid hg2; have HB2 := Lib.hid hb2; clear hown2 hg2 hb2 hbx2 c0 f0; simp only [List.getElem?_toArray, List.getElem?_cons_zero] at c1)
    obtain ⟨p1, p2, p3, p4⟩ := col_step (by rw [HS0.out]; omega) (by decide) (by decide) H1.out H2.out H3.out H4.out H5.out (Nat.le_refl _) HT.out HN.out ((Ext.refl W).alloc _) HO2.out HG2.out HB2.out
    exact ⟨_, p1, p2, p3, p4⟩
  case done =>
    rintro D0 S W hD0 hnS ⟨v, vs', h1, h2, h3, h4, h5⟩ hdef
    have c0 := h1.cell 0
    replace c0 : W.cell? ⟨w.heap.size, 0, none⟩ = some v := c0
    have hlen : (tabsV a b (D + 1)).length = D + 1 := by simp [tabsV]
    rw [hlen] at h2
    obtain ⟨g, cc, L, rfl, hgb, hcc, hL1, hL2, hL3⟩ := own_tabs h2 h3 (tabsV_small a b (by omega))
    have HD := Lib.hid hdef; have H2 := Lib.hid h2; have H3 := Lib.hid h3; have H5 := Lib.hid h5; have HL1 := Lib.hid hL1; have HL2 := Lib.hid hL2; have HL3 := Lib.hid hL3
    clear hdef h1 h2 h3 h4 h5 hlen hL1 hL2 hL3
    go_wp2_with fail
    trace_state
    refine ⟨by simp, .inl ⟨_, _, rfl, run_takeDeferred HD.out, ?_⟩⟩
    have hlv : Lv (fun g => g = D0) W (W.putObj D0 (.deferred none)) := Lv.putObj (S := fun g => g = D0) (Lv.refl _ _) (fun _ => rfl) _
    have hE := ((H5.out.putObj (l := D0) (fun h => absurd h (by omega)) (.deferred none)).extBelow HE1.out (fun g hg h => by omega))
    have ho := own_lv H2.out hlv (fun g hg he => by
      subst he
      obtain ⟨_, cur, hb⟩ := own_blk H2.out hg
      exact hb.nc ⟨_, HD.out, rfl⟩)
    have ht := H3.out.lv hlv (fun g cs f he hb => by
      subst he
      exact hb.nc ⟨_, HD.out, rfl⟩)
    obtain ⟨g2, cc2, L2, hv2, hgb2, hcc2, hL1, hL2, hL3⟩ := own_tabs ho ht (tabsV_small a b (by omega))
    cases hv2
    refine ⟨_, results_tmp rfl _ _ _, g, cc, L2.take D, ?_, hL2.less (by omega), ?_, hE⟩
    · simp
    · rw [List.map_take, hL3, tabsV_succ, List.take_left' (by simp [tabsV])]
end Go.Proofs.Ytmagicjmenbdpaa

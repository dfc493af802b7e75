/- Contracts: the parser's states: bracketed, outside, the closure. -/
import Derived.Test.YtmmppfopokbcfaaTkPars
import Derived.Test.YtmmppfopokbcfaaTkRJoin
namespace Go.Proofs.Ytmmppfopokbcfaa
open Go.RowKit

theorem prefix_is {s p : ByteArray} {r : Bool} {w : World} (hr : Lib.hasPrefix s.data.toList p.data.toList = r) :
    Calls Try.prog 72 #[.string s, .string p] w fun e w' => e = .returned (.bool r) ∧ w' = w := by
  subst hr; exact sh_strings_HasPrefix s p w
theorem opn_one {q : Bs} : opn q = 1 ↔ Lib.hasPrefix q [91, 45] = true := by
  unfold opn Lib.hasPrefix
  rw [List.isPrefixOf_iff_prefix]
  by_cases h1 : [91, 45] <+: q
  · simp [h1]
  · by_cases h2 : [123, 43] <+: q <;> simp [h1, h2]
theorem opn_two {q : Bs} (h : Lib.hasPrefix q [91, 45] = false) : opn q = 2 ↔ Lib.hasPrefix q [123, 43] = true := by
  unfold opn
  have h1 : ¬ [91, 45] <+: q := by
    intro e
    rw [← List.isPrefixOf_iff_prefix] at e
    rw [Lib.hasPrefix, e] at h; cases h
  unfold Lib.hasPrefix
  rw [List.isPrefixOf_iff_prefix, if_neg h1]
  by_cases h2 : [123, 43] <+: q <;> simp [h2]
theorem OutN.blk {base k : Nat} {x y : World} {cs : Array Value} {t : TypeId} (h : OutN base x y) (hb : Blk x k (.cells cs t (0, 0))) (ht : t ≠ 30) : Blk y k (.cells cs t (0, 0)) :=
  h.2 k _ hb (fun e => by cases e) (fun c fz e => ht (by cases e; rfl))
/-- The state behind a bracket. -/
abbrev inV (kb pb : Nat) : Value := .func (.func 82) #[] #[.pointer (some ⟨kb, 0, none⟩), .pointer (some ⟨pb, 0, none⟩)]
/-- The state outside of brackets. -/
abbrev outV (g : Nat) : Value := .func (.func 53) #[.pointer (some ⟨g, 0, none⟩)] #[]
/-- The boxes of the state behind a bracket. -/
def Boxes (g kb pb : Nat) (k : Int) (w : World) : Prop := Blk w kb (.cells #[.int .i64 k] 3 (0, 0)) ∧ Blk w pb (.cells #[.pointer (some ⟨g, 0, none⟩)] 82 (0, 0)) ∧ kb ≠ g ∧ pb ≠ g
set_option maxRecDepth 100000 in
set_option maxHeartbeats 4000000 in
theorem bracketed_is {g : Nat} {k : Int} {w : World} (hg : g < w.heap.size) :
    Calls Try.prog 73 #[.pointer (some ⟨g, 0, none⟩), .int .i64 k] w fun e w' => ∃ kb pb, e = .returned (inV kb pb) ∧ Boxes g kb pb k w' ∧ Ext w w' := by
  go_enter Try.func73, Try.ntmps73
  go_wp2_with fail
  go_ret
  refine ⟨_, _, rfl, ⟨Blk.new _ _ (by simp), (Blk.new w _ rfl).ext ((Ext.refl _).alloc _), by simp; omega, by omega⟩, ((Ext.refl w).alloc _).alloc _⟩

set_option maxRecDepth 100000 in
set_option maxHeartbeats 8000000 in
theorem outside_any (g base : Nat) (s : ByteArray) (L : List Pc) (w : World) (hP : PSt g base s L w) (hbg : base ≤ g) (hs : s.size ≤ 80000) (hL : L.length ≤ 90000) :
    Calls Try.prog 53 #[.pointer (some ⟨g, 0, none⟩)] w fun e w' => Below base w w' ∧
      (((textL s.data.toList).2 = [] ∧ e = .returned (.tuple #[.nilFunc, .bool true]) ∧ PSt g base (mkS []) (L ++ preV (textL s.data.toList).1) w') ∨
       (∃ kb pb, opn (textL s.data.toList).2 ≠ 0 ∧ e = .returned (.tuple #[inV kb pb, .bool true]) ∧ PSt g base (mkS (textL s.data.toList).2) (L ++ preV (textL s.data.toList).1) w' ∧ Boxes g kb pb (opn (textL s.data.toList).2) w') ∨
       ((textL s.data.toList).2 ≠ [] ∧ opn (textL s.data.toList).2 = 0 ∧ e = .returned (.tuple #[.nilFunc, .bool false]))) := by
  obtain ⟨inf, i1, i2, i3, i4⟩ := info_of infoPc
  have I1 := Lib.hid i1; have I2 := Lib.hid i2; have I3 := Lib.hid i3; have I4 := Lib.hid i4; clear i1 i2 i3 i4
  have hle := (textL_le s.data.toList).2
  rw [← size_len] at hle
  have HP := Lib.hid hP; clear hP
  go_enter Try.func53, Try.ntmps53
  go_wp2_with fail
  refine (text_any g base s L w HP.out hbg hs).mono ?_
  rintro e w1 ⟨rfl, ⟨v, hb, ho⟩, hF⟩
  obtain ⟨t, ht⟩ : ∃ t, (textL s.data.toList).1 = t := ⟨_, rfl⟩
  obtain ⟨q, hq⟩ : ∃ q, (textL s.data.toList).2 = q := ⟨_, rfl⟩
  rw [ht, hq] at hle
  rw [hq] at hb
  rw [ht]
  have hbel := hF.1
  have hgw := hb.lt
  have HB := Lib.hid hb; have HO := Lib.hid ho; have HBEL := Lib.hid hbel; have HT := Lib.hid ht; have HQ := Lib.hid hq; clear hb ho hF hbel ht hq
  by_cases hqe : q = []
  · have q1 := emp_yes (r := mkS q) (by rw [hqe]; rfl)
    have HQE := Lib.hid hqe; clear hqe
    by_cases h0 : t = []
    · skip
      have hts : (mkS t).size = 0 := by rw [h0]; rfl
      have q0 := emp_yes hts
      have hpre : preV t = [] := by rw [preV, if_pos h0]
      have HPS := Lib.hid (show PSt g base (mkS q) (L ++ preV t) w1 from ⟨v, HB.out, by rw [hpre, List.append_nil]; exact HO.out⟩)
      have c0 := HB.out.cell 0
      replace c0 : w1.cell? ⟨g, 0, none⟩ = some (.string (mkS q)) := c0
      have HBELX := Lib.hid HBEL.out
      clear h0 hts hpre
      go_wp2_with fail
      obtain ⟨W, hW⟩ : ∃ W, w1 = W := ⟨_, rfl⟩
      rw [hW] at HPS HBELX c0 ⊢
      go_ret2
      refine ⟨HBELX.out, .inl ⟨by rw [HQ.out, HQE.out], rfl, ?_⟩⟩
      rw [HT.out]
      have h9 := HPS.out
      rw [HQE.out] at h9; exact h9
    · skip
      have hts : (mkS t).size ≠ 0 := by rw [mkS_size]; intro e; exact h0 (List.length_eq_zero_iff.1 e)
      have q0 := emp_no hts
      have hpre : preV t = [⟨0, mkS t⟩] := by rw [preV, if_neg h0]
      have c1 := HB.out.cell 1
      replace c1 : w1.cell? ⟨g, 1, none⟩ = some v := c1
      have HPRE := Lib.hid hpre; clear h0 hpre hts
      go_wp2_with (at_builtin; refine wpList_append_size rfl (.tmp 13) (.tmp 16) 25 rfl base 30 inf _ 2 24 underPc I1.out I2.out I3.out I4.out rfl (by decide) _ L.length (L.flatMap Pc.cells) (some ⟨w1.heap.size, 0, none⟩) 1 1 (Pc.cells ⟨0, mkS t⟩) rfl (by simp [Act.eval]) rfl (by simp [Pc.cells, Value.oneCell']) (by simp only [maxLen]; omega) (by omega) (own_stab3 ((Ext.refl w1).alloc _) HO.out) (Cells.new w1 _ (Pc.cells ⟨0, mkS t⟩) rfl) (by simp; omega) ?_; intro v2 w2 hown2 hg2; have hN := outN_of HO.out (((Lv.refl _ w1).alloc _).grown hg2 (fun k hk _ => hk)) (by omega); have hb3 := hN.blk HB.out (by decide); have f3 := two_free (j := 1) hb3; have c0 := hb3.cell 0; replace c0 : w2.cell? ⟨g, 0, none⟩ = some (.string (mkS q)) := c0; have c11 := hb3.cell 1; replace c11 : w2.cell? ⟨g, 1, none⟩ = some v := c11; obtain ⟨A2, c2, hv2⟩ := own_shape hown2; subst hv2; have c00 := (two_set1 (u := .slice A2 (L.length + 1) c2) hb3).cell 0; replace c00 : (w2.setCell ⟨g, 1, none⟩ (.slice A2 (L.length + 1) c2)).cell? ⟨g, 0, none⟩ = some (.string (mkS q)) := c00; have HB3 := Lib.hid hb3; have HO3 := Lib.hid hown2; have HN3 := Lib.hid hN; clear hown2 hg2 hN hb3 c1)
      have HPS := Lib.hid (show PSt g base (mkS q) (L ++ preV t) (w2.setCell ⟨g, 1, none⟩ (.slice A2 (L.length + 1) c2)) from
        ⟨_, two_set1 HB3.out, ownsRow_setCell_other (by rw [HPRE.out, List.length_append, List.flatMap_append]; simpa using HO3.out) (own_far HO3.out HB3.out (by decide)) _⟩)
      have HBELX := Lib.hid (Below.setCell (Below.trans HBEL.out HN3.out.1) (p := ⟨g, 1, none⟩) hbg (.slice A2 (L.length + 1) c2))
      obtain ⟨W, hW⟩ : ∃ W, w2.setCell ⟨g, 1, none⟩ (.slice A2 (L.length + 1) c2) = W := ⟨_, rfl⟩
      rw [hW] at HPS HBELX c00 ⊢
      go_ret2
      refine ⟨HBELX.out, .inl ⟨by rw [HQ.out, HQE.out], rfl, ?_⟩⟩
      rw [HT.out]
      have h9 := HPS.out
      rw [HQE.out] at h9; exact h9
  have q1 := emp_no (r := mkS q) (by rw [mkS_size]; intro e; exact hqe (List.length_eq_zero_iff.1 e))
  have HQE := Lib.hid hqe; clear hqe
  cases h1 : Lib.hasPrefix (mkS q).data.toList (⟨#[91, 45]⟩ : ByteArray).data.toList with
  | true =>
    have ho : opn q = 1 := opn_one.2 h1
    by_cases h0 : t = []
    · skip
      have hts : (mkS t).size = 0 := by rw [h0]; rfl
      have q0 := emp_yes hts
      have hpre : preV t = [] := by rw [preV, if_pos h0]
      have HPS := Lib.hid (show PSt g base (mkS q) (L ++ preV t) w1 from ⟨v, HB.out, by rw [hpre, List.append_nil]; exact HO.out⟩)
      have c0 := HB.out.cell 0
      replace c0 : w1.cell? ⟨g, 0, none⟩ = some (.string (mkS q)) := c0
      have HBELX := Lib.hid HBEL.out
      clear h0 hts hpre
      go_wp2_with fail
      obtain ⟨W, hW⟩ : ∃ W, w1 = W := ⟨_, rfl⟩
      rw [hW] at HPS HBELX c0 ⊢
      refine (prefix_is h1).mono ?_
      rintro e W2 ⟨rfl, rfl⟩
      go_wp2_with fail
      have hgW : g < W2.heap.size := by obtain ⟨v9, hb9, -⟩ := HPS.out; exact hb9.lt
      refine (bracketed_is hgW).mono ?_
      rintro e W3 ⟨kb, pb, rfl, hbx, hE⟩
      have HBX := Lib.hid hbx; have HE3 := Lib.hid hE; clear hbx hE
      go_wp2_with fail
      go_ret2
      refine ⟨Below.trans HBELX.out (Ext.below HE3.out (by omega)), .inr (.inl ⟨kb, pb, by rw [HQ.out, ho]; decide, rfl, ?_, by rw [HQ.out, ho]; exact HBX.out⟩)⟩
      obtain ⟨v9, hb9, ho9⟩ := HPS.out
      rw [HQ.out, HT.out]
      exact ⟨v9, hb9.ext HE3.out, own_stab3 HE3.out ho9⟩
    · skip
      have hts : (mkS t).size ≠ 0 := by rw [mkS_size]; intro e; exact h0 (List.length_eq_zero_iff.1 e)
      have q0 := emp_no hts
      have hpre : preV t = [⟨0, mkS t⟩] := by rw [preV, if_neg h0]
      have c1 := HB.out.cell 1
      replace c1 : w1.cell? ⟨g, 1, none⟩ = some v := c1
      have HPRE := Lib.hid hpre; clear h0 hpre hts
      go_wp2_with (at_builtin; refine wpList_append_size rfl (.tmp 13) (.tmp 16) 25 rfl base 30 inf _ 2 24 underPc I1.out I2.out I3.out I4.out rfl (by decide) _ L.length (L.flatMap Pc.cells) (some ⟨w1.heap.size, 0, none⟩) 1 1 (Pc.cells ⟨0, mkS t⟩) rfl (by simp [Act.eval]) rfl (by simp [Pc.cells, Value.oneCell']) (by simp only [maxLen]; omega) (by omega) (own_stab3 ((Ext.refl w1).alloc _) HO.out) (Cells.new w1 _ (Pc.cells ⟨0, mkS t⟩) rfl) (by simp; omega) ?_; intro v2 w2 hown2 hg2; have hN := outN_of HO.out (((Lv.refl _ w1).alloc _).grown hg2 (fun k hk _ => hk)) (by omega); have hb3 := hN.blk HB.out (by decide); have f3 := two_free (j := 1) hb3; have c0 := hb3.cell 0; replace c0 : w2.cell? ⟨g, 0, none⟩ = some (.string (mkS q)) := c0; have c11 := hb3.cell 1; replace c11 : w2.cell? ⟨g, 1, none⟩ = some v := c11; obtain ⟨A2, c2, hv2⟩ := own_shape hown2; subst hv2; have c00 := (two_set1 (u := .slice A2 (L.length + 1) c2) hb3).cell 0; replace c00 : (w2.setCell ⟨g, 1, none⟩ (.slice A2 (L.length + 1) c2)).cell? ⟨g, 0, none⟩ = some (.string (mkS q)) := c00; have HB3 := Lib.hid hb3; have HO3 := Lib.hid hown2; have HN3 := Lib.hid hN; clear hown2 hg2 hN hb3 c1)
      have HPS := Lib.hid (show PSt g base (mkS q) (L ++ preV t) (w2.setCell ⟨g, 1, none⟩ (.slice A2 (L.length + 1) c2)) from
        ⟨_, two_set1 HB3.out, ownsRow_setCell_other (by rw [HPRE.out, List.length_append, List.flatMap_append]; simpa using HO3.out) (own_far HO3.out HB3.out (by decide)) _⟩)
      have HBELX := Lib.hid (Below.setCell (Below.trans HBEL.out HN3.out.1) (p := ⟨g, 1, none⟩) hbg (.slice A2 (L.length + 1) c2))
      obtain ⟨W, hW⟩ : ∃ W, w2.setCell ⟨g, 1, none⟩ (.slice A2 (L.length + 1) c2) = W := ⟨_, rfl⟩
      rw [hW] at HPS HBELX c00 ⊢
      refine (prefix_is h1).mono ?_
      rintro e W2 ⟨rfl, rfl⟩
      go_wp2_with fail
      have hgW : g < W2.heap.size := by obtain ⟨v9, hb9, -⟩ := HPS.out; exact hb9.lt
      refine (bracketed_is hgW).mono ?_
      rintro e W3 ⟨kb, pb, rfl, hbx, hE⟩
      have HBX := Lib.hid hbx; have HE3 := Lib.hid hE; clear hbx hE
      go_wp2_with fail
      go_ret2
      refine ⟨Below.trans HBELX.out (Ext.below HE3.out (by omega)), .inr (.inl ⟨kb, pb, by rw [HQ.out, ho]; decide, rfl, ?_, by rw [HQ.out, ho]; exact HBX.out⟩)⟩
      obtain ⟨v9, hb9, ho9⟩ := HPS.out
      rw [HQ.out, HT.out]
      exact ⟨v9, hb9.ext HE3.out, own_stab3 HE3.out ho9⟩
  | false =>
    cases h2 : Lib.hasPrefix (mkS q).data.toList (⟨#[123, 43]⟩ : ByteArray).data.toList with
    | true =>
      have ho : opn q = 2 := (opn_two h1).2 h2
      by_cases h0 : t = []
      · skip
        have hts : (mkS t).size = 0 := by rw [h0]; rfl
        have q0 := emp_yes hts
        have hpre : preV t = [] := by rw [preV, if_pos h0]
        have HPS := Lib.hid (show PSt g base (mkS q) (L ++ preV t) w1 from ⟨v, HB.out, by rw [hpre, List.append_nil]; exact HO.out⟩)
        have c0 := HB.out.cell 0
        replace c0 : w1.cell? ⟨g, 0, none⟩ = some (.string (mkS q)) := c0
        have HBELX := Lib.hid HBEL.out
        clear h0 hts hpre
        go_wp2_with fail
        obtain ⟨W, hW⟩ : ∃ W, w1 = W := ⟨_, rfl⟩
        rw [hW] at HPS HBELX c0 ⊢
        refine (prefix_is h1).mono ?_
        rintro e W2 ⟨rfl, rfl⟩
        go_wp2_with fail
        refine (prefix_is (s := mkS q) (p := ⟨#[123, 43]⟩) h2).mono ?_
        rintro e W2 ⟨rfl, rfl⟩
        go_wp2_with fail
        have hgW : g < W2.heap.size := by obtain ⟨v9, hb9, -⟩ := HPS.out; exact hb9.lt
        refine (bracketed_is hgW).mono ?_
        rintro e W3 ⟨kb, pb, rfl, hbx, hE⟩
        have HBX := Lib.hid hbx; have HE3 := Lib.hid hE; clear hbx hE
        go_wp2_with fail
        go_ret2
        refine ⟨Below.trans HBELX.out (Ext.below HE3.out (by omega)), .inr (.inl ⟨kb, pb, by rw [HQ.out, ho]; decide, rfl, ?_, by rw [HQ.out, ho]; exact HBX.out⟩)⟩
        obtain ⟨v9, hb9, ho9⟩ := HPS.out
        rw [HQ.out, HT.out]
        exact ⟨v9, hb9.ext HE3.out, own_stab3 HE3.out ho9⟩
      · skip
        have hts : (mkS t).size ≠ 0 := by rw [mkS_size]; intro e; exact h0 (List.length_eq_zero_iff.1 e)
        have q0 := emp_no hts
        have hpre : preV t = [⟨0, mkS t⟩] := by rw [preV, if_neg h0]
        have c1 := HB.out.cell 1
        replace c1 : w1.cell? ⟨g, 1, none⟩ = some v := c1
        have HPRE := Lib.hid hpre; clear h0 hpre hts
        go_wp2_with (at_builtin; refine wpList_append_size rfl (.tmp 13) (.tmp 16) 25 rfl base 30 inf _ 2 24 underPc I1.out I2.out I3.out I4.out rfl (by decide) _ L.length (L.flatMap Pc.cells) (some ⟨w1.heap.size, 0, none⟩) 1 1 (Pc.cells ⟨0, mkS t⟩) rfl (by simp [Act.eval]) rfl (by simp [Pc.cells, Value.oneCell']) (by simp only [maxLen]; omega) (by omega) (own_stab3 ((Ext.refl w1).alloc _) HO.out) (Cells.new w1 _ (Pc.cells ⟨0, mkS t⟩) rfl) (by simp; omega) ?_; intro v2 w2 hown2 hg2; have hN := outN_of HO.out (((Lv.refl _ w1).alloc _).grown hg2 (fun k hk _ => hk)) (by omega); have hb3 := hN.blk HB.out (by decide); have f3 := two_free (j := 1) hb3; have c0 := hb3.cell 0; replace c0 : w2.cell? ⟨g, 0, none⟩ = some (.string (mkS q)) := c0; have c11 := hb3.cell 1; replace c11 : w2.cell? ⟨g, 1, none⟩ = some v := c11; obtain ⟨A2, c2, hv2⟩ := own_shape hown2; subst hv2; have c00 := (two_set1 (u := .slice A2 (L.length + 1) c2) hb3).cell 0; replace c00 : (w2.setCell ⟨g, 1, none⟩ (.slice A2 (L.length + 1) c2)).cell? ⟨g, 0, none⟩ = some (.string (mkS q)) := c00; have HB3 := Lib.hid hb3; have HO3 := Lib.hid hown2; have HN3 := Lib.hid hN; clear hown2 hg2 hN hb3 c1)
        have HPS := Lib.hid (show PSt g base (mkS q) (L ++ preV t) (w2.setCell ⟨g, 1, none⟩ (.slice A2 (L.length + 1) c2)) from
          ⟨_, two_set1 HB3.out, ownsRow_setCell_other (by rw [HPRE.out, List.length_append, List.flatMap_append]; simpa using HO3.out) (own_far HO3.out HB3.out (by decide)) _⟩)
        have HBELX := Lib.hid (Below.setCell (Below.trans HBEL.out HN3.out.1) (p := ⟨g, 1, none⟩) hbg (.slice A2 (L.length + 1) c2))
        obtain ⟨W, hW⟩ : ∃ W, w2.setCell ⟨g, 1, none⟩ (.slice A2 (L.length + 1) c2) = W := ⟨_, rfl⟩
        rw [hW] at HPS HBELX c00 ⊢
        refine (prefix_is h1).mono ?_
        rintro e W2 ⟨rfl, rfl⟩
        go_wp2_with fail
        refine (prefix_is (s := mkS q) (p := ⟨#[123, 43]⟩) h2).mono ?_
        rintro e W2 ⟨rfl, rfl⟩
        go_wp2_with fail
        have hgW : g < W2.heap.size := by obtain ⟨v9, hb9, -⟩ := HPS.out; exact hb9.lt
        refine (bracketed_is hgW).mono ?_
        rintro e W3 ⟨kb, pb, rfl, hbx, hE⟩
        have HBX := Lib.hid hbx; have HE3 := Lib.hid hE; clear hbx hE
        go_wp2_with fail
        go_ret2
        refine ⟨Below.trans HBELX.out (Ext.below HE3.out (by omega)), .inr (.inl ⟨kb, pb, by rw [HQ.out, ho]; decide, rfl, ?_, by rw [HQ.out, ho]; exact HBX.out⟩)⟩
        obtain ⟨v9, hb9, ho9⟩ := HPS.out
        rw [HQ.out, HT.out]
        exact ⟨v9, hb9.ext HE3.out, own_stab3 HE3.out ho9⟩
    | false =>
      have ho : opn q = 0 := by
        rcases opn_or q with h | h | h
        · exact h
        · exact absurd (h1.symm.trans ((opn_one (q := q)).1 h)) (by simp)
        · exact absurd (h2.symm.trans ((opn_two (q := q) h1).1 h)) (by simp)
      by_cases h0 : t = []
      · skip
        have hts : (mkS t).size = 0 := by rw [h0]; rfl
        have q0 := emp_yes hts
        have hpre : preV t = [] := by rw [preV, if_pos h0]
        have HPS := Lib.hid (show PSt g base (mkS q) (L ++ preV t) w1 from ⟨v, HB.out, by rw [hpre, List.append_nil]; exact HO.out⟩)
        have c0 := HB.out.cell 0
        replace c0 : w1.cell? ⟨g, 0, none⟩ = some (.string (mkS q)) := c0
        have HBELX := Lib.hid HBEL.out
        clear h0 hts hpre
        go_wp2_with fail
        obtain ⟨W, hW⟩ : ∃ W, w1 = W := ⟨_, rfl⟩
        rw [hW] at HPS HBELX c0 ⊢
        refine (prefix_is h1).mono ?_
        rintro e W2 ⟨rfl, rfl⟩
        go_wp2_with fail
        refine (prefix_is (s := mkS q) (p := ⟨#[123, 43]⟩) h2).mono ?_
        rintro e W2 ⟨rfl, rfl⟩
        go_wp2_with fail
        go_ret2
        exact ⟨HBELX.out, .inr (.inr ⟨by rw [HQ.out]; exact HQE.out, by rw [HQ.out]; exact ho, rfl⟩)⟩
      · skip
        have hts : (mkS t).size ≠ 0 := by rw [mkS_size]; intro e; exact h0 (List.length_eq_zero_iff.1 e)
        have q0 := emp_no hts
        have hpre : preV t = [⟨0, mkS t⟩] := by rw [preV, if_neg h0]
        have c1 := HB.out.cell 1
        replace c1 : w1.cell? ⟨g, 1, none⟩ = some v := c1
        have HPRE := Lib.hid hpre; clear h0 hpre hts
        go_wp2_with (at_builtin; refine wpList_append_size rfl (.tmp 13) (.tmp 16) 25 rfl base 30 inf _ 2 24 underPc I1.out I2.out I3.out I4.out rfl (by decide) _ L.length (L.flatMap Pc.cells) (some ⟨w1.heap.size, 0, none⟩) 1 1 (Pc.cells ⟨0, mkS t⟩) rfl (by simp [Act.eval]) rfl (by simp [Pc.cells, Value.oneCell']) (by simp only [maxLen]; omega) (by omega) (own_stab3 ((Ext.refl w1).alloc _) HO.out) (Cells.new w1 _ (Pc.cells ⟨0, mkS t⟩) rfl) (by simp; omega) ?_; intro v2 w2 hown2 hg2; have hN := outN_of HO.out (((Lv.refl _ w1).alloc _).grown hg2 (fun k hk _ => hk)) (by omega); have hb3 := hN.blk HB.out (by decide); have f3 := two_free (j := 1) hb3; have c0 := hb3.cell 0; replace c0 : w2.cell? ⟨g, 0, none⟩ = some (.string (mkS q)) := c0; have c11 := hb3.cell 1; replace c11 : w2.cell? ⟨g, 1, none⟩ = some v := c11; obtain ⟨A2, c2, hv2⟩ := own_shape hown2; subst hv2; have c00 := (two_set1 (u := .slice A2 (L.length + 1) c2) hb3).cell 0; replace c00 : (w2.setCell ⟨g, 1, none⟩ (.slice A2 (L.length + 1) c2)).cell? ⟨g, 0, none⟩ = some (.string (mkS q)) := c00; have HB3 := Lib.hid hb3; have HO3 := Lib.hid hown2; have HN3 := Lib.hid hN; clear hown2 hg2 hN hb3 c1)
        have HPS := Lib.hid (show PSt g base (mkS q) (L ++ preV t) (w2.setCell ⟨g, 1, none⟩ (.slice A2 (L.length + 1) c2)) from
          ⟨_, two_set1 HB3.out, ownsRow_setCell_other (by rw [HPRE.out, List.length_append, List.flatMap_append]; simpa using HO3.out) (own_far HO3.out HB3.out (by decide)) _⟩)
        have HBELX := Lib.hid (Below.setCell (Below.trans HBEL.out HN3.out.1) (p := ⟨g, 1, none⟩) hbg (.slice A2 (L.length + 1) c2))
        obtain ⟨W, hW⟩ : ∃ W, w2.setCell ⟨g, 1, none⟩ (.slice A2 (L.length + 1) c2) = W := ⟨_, rfl⟩
        rw [hW] at HPS HBELX c00 ⊢
        refine (prefix_is h1).mono ?_
        rintro e W2 ⟨rfl, rfl⟩
        go_wp2_with fail
        refine (prefix_is (s := mkS q) (p := ⟨#[123, 43]⟩) h2).mono ?_
        rintro e W2 ⟨rfl, rfl⟩
        go_wp2_with fail
        go_ret2
        exact ⟨HBELX.out, .inr (.inr ⟨by rw [HQ.out]; exact HQE.out, by rw [HQ.out]; exact ho, rfl⟩)⟩
end Go.Proofs.Ytmmppfopokbcfaa

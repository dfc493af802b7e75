/- Contract: treap.List. -/
import Derived.Test.YtbjniaihkllmdaaTrCheck
namespace Go.Proofs.Ytbjniaihkllmdaa
open Go.RowKit
attribute [local go_sem] Oper.semAt_some

def listV (t : MT) : List Pr := if chkT t = 0 then prsV t.tree else []
theorem chkT_tree {t : MT} (h : chkT t = 0) : t.wide = false := by
  rw [chkT] at h
  split at h
  · cases h
  · rename_i h1; simpa using h1
theorem Blk.own_lt {w w' : World} {g : Nat} {o : Obj} {base : Nat} {e : TypeId} {size n : Nat} {v : Value} {xs : List Value} (hb : Blk w g o) (h : w.ownsRow base e size v n xs) (hlt : g < base) (hg : w.grownBy w' v.ownBlock) : Blk w' g o :=
  (hg.block g hb.lt (fun e => by have := (h.lt g e.symm).1; omega)).trans hb
abbrev boxP (v : Value) : Obj := .cells #[v] 31
def nPr (x : Nod) : Pr := ⟨x.k, x.v⟩

set_option maxRecDepth 100000 in
set_option maxHeartbeats 8000000 in
theorem list_any (t : MT) (A : Option Addr) (n c : Nat) (w : World) (hm : MapAt w t A n) (hs : t.size ≤ 1000) :
    Calls Try.prog 22 #[.slice A n c] w fun e w' => Ext w w' ∧ ∃ v, e = .returned v ∧ w'.ownsRow w.heap.size 34 2 v (listV t).length ((listV t).flatMap Pr.cells) := by
  obtain ⟨inf, i1, i2, i3, i4⟩ := info_of infoP
  have I1 := Lib.hid i1; have I2 := Lib.hid i2; have I3 := Lib.hid i3; have I4 := Lib.hid i4; clear i1 i2 i3 i4
  have HM := Lib.hid hm; clear hm
  have hgo : Ext w (w.alloc (boxP (.slice none 0 0))) := (Ext.refl w).alloc _
  by_cases h0 : chkT t = 0
  case neg =>
    have hl : listV t = [] := if_neg h0
    obtain ⟨z, hz⟩ : ∃ z, chkT t = z := ⟨_, rfl⟩
    rw [hz] at h0
    have hq : (z != 0) = true := by simpa using h0
    have HL := Lib.hid hl; have HZ := Lib.hid hz; clear hl hz
    have c3 : ∀ w', Ext (w.alloc (boxP (.slice none 0 0))) w' → w'.cell? ⟨w.heap.size, 0, none⟩ = some (.slice none 0 0) := fun w' h => ((Blk.new w (boxP (.slice none 0 0)) rfl).ext h).cell 0
    have C3 := Lib.hid c3; clear c3
    go_enter Try.func22, Try.ntmps22
    go_wp2_with fail
    refine (check_any t A n c _ (HM.out.ext hgo) hs).mono ?_
    rintro e w1 ⟨rfl, hE⟩
    have hE1 := hgo.trans hE
    have c3 := C3.out w1 hE
    clear hE C3
    rw [HZ.out]
    go_wp2_with fail
    go_ret
    exact ⟨hE1, _, rfl, by rw [HL.out]; exact World.ownsRow_nil _ _ _ _⟩
  case pos =>
    have hw := chkT_tree h0
    have hbt : BAt w t.tree A n := by have := HM.out; rwa [MT.tree_of hw] at this
    have hl : listV t = (nodesV t.tree).map nPr := by rw [listV, if_pos h0, prs_nodes]; rfl
    obtain ⟨b, hb⟩ : ∃ b, t.tree = b := ⟨_, rfl⟩
    have hbs : b.size ≤ 1000 := by rw [← hb, ← BT.mt_size, ← MT.tree_of hw]; exact hs
    rw [hb] at hbt hl
    obtain ⟨xs, hxs⟩ : ∃ xs, nodesV b = xs := ⟨_, rfl⟩
    rw [hxs] at hl
    have hxl : xs.length ≤ 1000 := by rw [← hxs]; have := prs_len b; rw [prs_nodes] at this; simp at this; omega
    have HL := Lib.hid hl; have HZ := Lib.hid h0; have HB := Lib.hid hbt; have HXS := Lib.hid hxs; have HXL := Lib.hid hxl; clear hl h0 hbt hxs hw hb hxl
    refine calls_marks Try.func22 rfl ?_
    simp only [Try.ntmps22, List.size_toArray, List.length_cons, List.length_nil, Nat.reduceAdd, Nat.reduceSub, Array.replicate_succ, Array.replicate_zero, List.push_toArray, List.append_toArray, List.nil_append, List.cons_append]
    go_wp2_with fail
    refine (check_any t A n c _ (HM.out.ext hgo) hs).mono ?_
    rintro e w1 ⟨rfl, hE⟩
    rw [HZ.out]
    have HE := Lib.hid hE; clear hE
    go_wp2_with fail
    refine (nodes_any A n c _).mono ?_
    rintro e w0 ⟨rfl, hE0, hs0, hbm, hbw⟩
    have b3 : Blk w0 w.heap.size (boxP (.slice none 0 0)) := ((Blk.new w _ rfl).ext HE.out).ext hE0
    have hE1 : Ext w w0 := (hgo.trans HE.out).trans hE0
    have hw1 : w.heap.size + 1 ≤ w1.heap.size := by have := HE.out.size; simpa using this
    obtain ⟨g3, h3⟩ : ∃ g, g = w.heap.size := ⟨_, rfl⟩
    obtain ⟨gm, h8⟩ : ∃ g, g = w1.heap.size := ⟨_, rfl⟩
    obtain ⟨gw, h9⟩ : ∃ g, g = w1.heap.size + 1 := ⟨_, rfl⟩
    rw [← h3] at b3
    rw [← h8] at hbm; rw [← h9] at hbw
    rw [← h9, ← h8, ← h3]
    have hord : w.heap.size ≤ g3 ∧ g3 < gm ∧ gw = gm + 1 ∧ w0.heap.size = gm + 2 := by omega
    obtain ⟨X, hX⟩ : ∃ X : Nat → Prop, X = fun g => g = g3 := ⟨_, rfl⟩
    have hXi : ∀ g, X g ↔ g = g3 := fun g => by rw [hX]
    have hK : ∀ W, Lv X w0 W → Blk W gw (walkObj gw) ∧ Blk W gm (boxM A n c) ∧ Ext w W := fun W hv =>
      ⟨hbw.lv hv (fun h => by have := (hXi _).1 h; omega), hbm.lv hv (fun h => by have := (hXi _).1 h; omega), hv.extBelow hE1 (fun g hg h => by have := (hXi _).1 h; omega)⟩
    have hit := nodes_iterA b A n c gw gm X w w0 hK HB.out
    rw [HXS.out] at hit
    have HIT := Lib.hid hit; have B3 := Lib.hid b3; have HORD := Lib.hid hord; have HXI := Lib.hid hXi; have HKK := Lib.hid hK; have HE1 := Lib.hid hE1
    clear hit b3 hord hXi hK hE1 hX hE0 hs0 hbm hbw h3 h8 h9 hw1 hgo
    go_wp2_with fail
    generalize hA : Act.mk _ _ = a0
    refine wp_of_In (wpIn_range2 (gf := 64) (by rw [← hA]; rfl) (enters_of Try.func64 (by kernel_rfl) rfl) HIT.out (fun x vs S W h => by obtain ⟨_, _, _, _, _, _, _, _, _, rfl, _⟩ := h; rfl) (fun x vs S W W' h _ => h) (fun x vs S S' W h _ => h) (fun g h => h.elim)
      (fun pre S W => ∃ v : Value, (∀ g, S g ↔ g = g3 ∨ v.ownBlock = some g) ∧ Blk W g3 (boxP v) ∧ W.ownsRow w0.heap.size 34 2 v pre.length ((pre.map nPr).flatMap Pr.cells) ∧ Lv X w0 W)
      (fun _ _ _ _ => False) ?hI (fun _ _ _ _ _ h _ => h.elim) X ?h0 (fun g h => by have := HORD.out; have := (HXI.out g).1 h; omega)
      (fun S W e h => ⟨Lv.of_ext e, h⟩)
      (fun x vs W a₁ W' => ∃ A1 n1 c1 Al nl cl Ar nr cr, vs = #[.slice A1 n1 c1, .agg #[.string x.k, .string x.v, .slice Al nl cl, .slice Ar nr cr]] ∧ x.k.size ≤ Reach ∧ x.v.size ≤ Reach ∧
        a₁ = { tmps := (((a0.tmps.setIfInBounds 12 (.slice A1 n1 c1)).setIfInBounds 13 (.agg #[.string x.k, .string x.v, .slice Al nl cl, .slice Ar nr cr])).setIfInBounds 5 (.pointer (some ⟨W.heap.size, 0, none⟩))), defers := [] } ∧ Ext W W' ∧ Blk W' W.heap.size (nodeObj x.k x.v Al nl cl Ar nr cr))
      (fun x vs W a₁ W' h => by obtain ⟨_, _, _, _, _, _, _, _, _, _, _, _, _, h, _⟩ := h; exact h) ?assign ?body ?done (fun _ _ _ _ _ _ _ _ h _ => h.elim))
    case hI =>
      rintro pre S W W' ⟨v, hS, e3, e4, e5⟩ hv
      refine ⟨v, hS, e3.lv hv (fun h => h.elim id (fun h => e3.nc h.2)), own_lv e4 hv (fun g hg h => h.elim id (fun h => ?_)), e5.trans hv (fun g hg h => h.elim False.elim (fun h => by omega))⟩
      obtain ⟨_, cur, hb⟩ := own_blk e4 hg
      exact hb.nc h.2
    case h0 => exact ⟨.slice none 0 0, fun g => ⟨fun h => .inl ((HXI.out g).1 h), fun h => h.elim (HXI.out g).2 (fun h => by cases h)⟩, B3.out, World.ownsRow_nil _ _ _ _, Lv.refl _ _⟩
    case assign =>
      rintro l ⟨xl, xk, xv, xr⟩ vs S W K ⟨A1, n1, c1, Al, nl, cl, Ar, nr, cr, rfl, hl, hr, hk, hv⟩ hK
      subst hA
      dsimp only at hl hr hk hv
      have HKA := Lib.hid hK; clear hK hl hr
      gi_wp2
      exact HKA.out _ _ ⟨A1, n1, c1, Al, nl, cl, Ar, nr, cr, rfl, hk, hv, rfl, (Ext.refl W).alloc _, Blk.new W _ rfl⟩
    case body =>
      rintro l pre ⟨xl, xk, xv, xr⟩ vs S W0 W' W a₁ ⟨A1, n1, c1, Al, nl, cl, Ar, nr, cr, -, hk, hv, rfl, hEa, hba⟩ hle0 hvb ⟨v, hS, e3, e4, e5⟩ hleW hpx henc
      dsimp only at hk hv hba
      have ho := HORD.out
      obtain ⟨gx, hgx⟩ : ∃ gx, gx = W0.heap.size := ⟨_, rfl⟩
      rw [← hgx] at hba ⊢
      have bx : Blk W gx (nodeObj xk xv Al nl cl Ar nr cr) := hba.lv hvb (fun h => hba.nc h.2)
      have hpl : pre.length + 1 ≤ 1000 := by have := hpx.length_le; simp at this; have := HXL.out; omega
      have H3 := Lib.hid e3; have H4 := Lib.hid e4; have H5 := Lib.hid e5; have HX := Lib.hid bx; have HS := Lib.hid hS
      have c0 := e3.cell 0; have f0 := e3.free 0
      replace c0 : W.cell? ⟨g3, 0, none⟩ = some v := c0
      obtain ⟨d0, d1, -, -⟩ := bx.cells4
      clear hEa hba hvb hle0 henc hpx hgx e3 e4 e5 bx hS ho
      subst hA
      simp only [List.setIfInBounds_toArray, List.set_cons_zero, List.set_cons_succ]
      gi_wp2_with (gi_at_builtin; refine wpListIn_append_size2 rfl (.tmp 14) (.tmp 20) 31 rfl w0.heap.size 34 inf _ 2 32 underP I1.out I2.out I3.out I4.out rfl (by decide) v pre.length ((pre.map nPr).flatMap Pr.cells) (some ⟨W.heap.size, 0, none⟩) 1 1 [.string xk, .string xv] rfl (by simp [Act.eval]) rfl (by simp [Value.oneCell']) (by simp only [maxLen]; omega) (by omega) (own_stab3 ((Ext.refl W).alloc _) H4.out) (Cells.new W _ [_, _] rfl) (by have := HORD.out; have := H5.out.size; simp; omega) ?_; intro v2 w2 hown2 hg2 hb2; have hbx2 := (H3.out.alloc _).own_lt (own_stab3 ((Ext.refl W).alloc _) H4.out) (by have := HORD.out; omega) hg2; have c1 := hbx2.cell 0; have f1 := hbx2.free 0; obtain ⟨g', cap', rfl⟩ := ownsRow_succ hown2; have HO2 := Lib.hid hown2; have HG2 := Lib.hid hg2; have HB2 := Lib.hid hb2; have HBX := Lib.hid hbx2; clear hown2 hg2 hb2 hbx2 c0 f0; simp only [List.getElem?_toArray, List.getElem?_cons_zero] at c1)
      have hlv : Lv S W (w2.setCell ⟨g3, 0, none⟩ (.slice (some ⟨g', 0, none⟩) (pre.length + 1) cap')) :=
        (((Lv.refl S W).alloc _).grown HG2.out (fun k hk _ => (HS.out k).2 (.inr hk))).setCell (p := ⟨g3, 0, none⟩) (fun _ => (HS.out g3).2 (.inl rfl)) _
      have hg' := own_blk HO2.out (g := g') rfl
      have hg'l : g' < w2.heap.size := by obtain ⟨_, cur, hb⟩ := hg'; exact hb.lt
      have ho := HORD.out
      have hne : g' ≠ g3 := by have := hg'.1; omega
      refine ⟨fun g => g = g3 ∨ g = g', hlv, ?_, ?_, _, fun g => ⟨fun h => h.imp id (fun h => by rw [h]; rfl), fun h => h.imp id (fun h => by cases h; rfl)⟩, HBX.out.put 0 _, ?_, H5.out.trans hlv (fun g hg h => ?_)⟩
      · rintro g (rfl | rfl)
        · exact .inl ((HS.out _).2 (.inl rfl))
        · rcases HB2.out with h | ⟨g9, h, h9⟩
          · exact .inl ((HS.out _).2 (.inr h.symm))
          · cases h; right; simp at h9; omega
      · rintro g (rfl | rfl)
        · exact (HBX.out.put 0 _).lt
        · simpa using hg'l
      · have h1 := own_lv (S := fun g => g = g3) HO2.out ((Lv.refl (fun g => g = g3) w2).setCell (p := ⟨g3, 0, none⟩) (fun _ => rfl) (.slice (some ⟨g', 0, none⟩) (pre.length + 1) cap')) (fun g hg h => hne (by cases hg; exact h))
        have e1 : ((pre ++ [(⟨xl, xk, xv, xr⟩ : Nod)]).map nPr).flatMap Pr.cells = (pre.map nPr).flatMap Pr.cells ++ [.string xk, .string xv] := by simp [nPr, Pr.cells]
        rw [e1, List.length_append]
        exact h1
      · rcases (HS.out g).1 h with h | h
        · exact (HXI.out g).2 h
        · have := (own_blk H4.out h).1; omega
    case done =>
      rintro D0 S W hD0 hnS ⟨v, hS, e3, e4, e5⟩ hdef
      subst hA
      have ho := HORD.out
      obtain ⟨-, -, hEW⟩ := HKK.out W e5
      have hlv : Lv (fun g => g = D0) W (W.putObj D0 (.deferred none)) := Lv.putObj (S := fun g => g = D0) (Lv.refl _ _) (fun _ => rfl) _
      have hfin : Ext w (W.putObj D0 (.deferred none)) := hlv.extBelow hEW (fun g hg h => by omega)
      have hown : (W.putObj D0 (.deferred none)).ownsRow w.heap.size 34 2 v (listV t).length ((listV t).flatMap Pr.cells) := by
        rw [HL.out, List.length_map]
        refine own_base (own_lv e4 hlv (fun g hg he => ?_)) (by omega)
        subst he
        obtain ⟨_, cur, hb⟩ := own_blk e4 hg
        exact hb.nc ⟨_, hdef, rfl⟩
      have HFIN := Lib.hid hfin; have HDF := Lib.hid hdef; have HOWN := Lib.hid hown
      have c3 := e3.cell 0
      replace c3 : W.cell? ⟨g3, 0, none⟩ = some v := c3
      clear e3 e4 e5 hEW hdef hlv hfin ho hown hS
      go_wp2_with fail
      refine ⟨by simp, .inl ⟨_, _, rfl, run_takeDeferred HDF.out, ?_⟩⟩
      exact ⟨_, results_tmp rfl _ _ _, HFIN.out, v, rfl, HOWN.out⟩
end Go.Proofs.Ytbjniaihkllmdaa

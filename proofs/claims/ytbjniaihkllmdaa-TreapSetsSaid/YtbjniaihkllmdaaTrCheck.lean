/- Contract: treap.Check. -/
import Derived.Test.YtbjniaihkllmdaaTrKid
namespace Go.Proofs.Ytbjniaihkllmdaa
open Go.RowKit
attribute [local go_sem] Oper.semAt_some

/-- Does a node stand ahead of its children? -/
def okN (x : Nod) : Bool := topB x.k x.l && topB x.k x.r
theorem prs_nodes : ∀ b : BT, prsV b = (nodesV b).map fun x => ⟨x.k, x.v⟩
  | .leaf => rfl
  | .node l k v r => by simp [prsV, nodesV, prs_nodes l, prs_nodes r]
theorem heap_nodes : ∀ b : BT, heapB b = (nodesV b).all okN
  | .leaf => rfl
  | .node l k v r => by
    simp only [heapB, nodesV, List.all_append, List.all_cons, List.all_nil, Bool.and_true, heap_nodes l, heap_nodes r, okN]
    cases topB k l <;> cases topB k r <;> simp
def ascN (pre : List Nod) : Bool := ascB (pre.map fun x => ⟨x.k, x.v⟩)
def lgN (pre : List Nod) : Bool := anyLong (pre.map fun x => ⟨x.k, x.v⟩)
theorem asc_snoc : ∀ (l : List Pr) (x y : Pr), ascB (l ++ [x] ++ [y]) = (ascB (l ++ [x]) && klt x.k y.k)
  | [], x, y => by simp [ascB]
  | [z], x, y => by simp [ascB]
  | z :: u :: l, x, y => by
    have ih := asc_snoc (u :: l) x y
    simp only [List.cons_append] at ih ⊢
    rw [ascB, ascB, ih, Bool.and_assoc]
theorem lgN_snoc (pre : List Nod) (x : Nod) : lgN (pre ++ [x]) = (lgN pre || lgB x.k x.v) := by simp [lgN, anyLong]
theorem ascN_one0 {pre : List Nod} (h : pre.isEmpty = true) : ascN pre = true := by
  cases pre with
  | nil => rfl
  | cons y l => cases h
theorem ascN_one {pre : List Nod} (x : Nod) (h : pre.isEmpty = true) : ascN (pre ++ [x]) = true := by
  cases pre with
  | nil => rfl
  | cons y l => cases h
theorem ascN_snoc {pre : List Nod} (x : Nod) {bf : ByteArray} (h : ∀ y, pre.getLast? = some y → bf = y.k) (h0 : pre.isEmpty = false) : ascN (pre ++ [x]) = (ascN pre && klt bf x.k) := by
  obtain ⟨l, y, rfl⟩ : ∃ l y, pre = l ++ [y] := by
    refine ⟨pre.dropLast, pre.getLast (fun h => by subst h; cases h0), (List.dropLast_concat_getLast _).symm⟩
  rw [h y (by simp)]
  simp only [ascN, List.map_append, List.map_cons, List.map_nil]
  exact asc_snoc _ _ _
abbrev bObj (b : Bool) : Obj := .cells #[.bool b] 4
abbrev sObj (s : ByteArray) : Obj := .cells #[.string s] 9

set_option maxRecDepth 100000 in
set_option maxHeartbeats 16000000 in
theorem check_any (t : MT) (A : Option Addr) (n c : Nat) (w : World) (hm : MapAt w t A n) (hs : t.size ≤ 1000) :
    Calls Try.prog 15 #[.slice A n c] w fun e w' => e = .returned (.int .i64 (chkT t)) ∧ Ext w w' := by
  obtain ⟨x, hx⟩ : ∃ x, 0 + t.size = x := ⟨_, rfl⟩
  have hx2 : x ≤ 1000 := by omega
  have HM := Lib.hid hm; have HX := Lib.hid hx; clear hm hx
  have q0 : decide ((20000 : Int) < (x : Int)) = false := nd (by omega)
  have q00 : decide (20000 < x) = false := nd (by omega)
  cases hw : t.wide with
  | true =>
    have hv : chkT t = 1 := by rw [chkT, if_pos hw]
    have HV := Lib.hid hv; have HW := Lib.hid hw; clear hv hw
    go_enter Try.func15, Try.ntmps15
    go_wp2_with fail
    refine (count_is HX.out HM.out (by omega)).mono ?_
    rintro e w1 ⟨rfl, hE⟩
    have HE := Lib.hid hE; clear hE
    go_wp2_with fail
    refine (wide_is (HM.out.ext HE.out)).mono ?_
    rintro e w' ⟨rfl, rfl⟩
    rw [HW.out]
    go_wp2_with fail
    go_ret
    exact ⟨ret_int (by rw [HV.out]), HE.out⟩
  | false =>
    have hv : chkT t = chkV t.tree := by rw [chkT, if_neg (by rw [hw]; simp)]
    have hbt : BAt w t.tree A n := by have := HM.out; rwa [MT.tree_of hw] at this
    obtain ⟨b, hb⟩ : ∃ b, t.tree = b := ⟨_, rfl⟩
    have hbs : b.size ≤ 1000 := by rw [← hb, ← BT.mt_size, ← MT.tree_of hw]; exact hs
    rw [hb] at hv hbt
    obtain ⟨xs, hxs⟩ : ∃ xs, nodesV b = xs := ⟨_, rfl⟩
    have hv2 : chkV b = if lgN xs = true then 4 else if ascN xs = false then 9 else if xs.all okN = false then 10 else 0 := by rw [chkV, prs_nodes, heap_nodes, hxs]; rfl
    have HV := Lib.hid hv; have HV2 := Lib.hid hv2; have HW := Lib.hid hw; have HB := Lib.hid hbt; have HXS := Lib.hid hxs; clear hv hv2 hw hbt hxs hb
    refine calls_marks Try.func15 rfl ?_
    simp only [Try.ntmps15, List.size_toArray, List.length_cons, List.length_nil, Nat.reduceAdd, Nat.reduceSub, Array.replicate_succ, Array.replicate_zero, List.push_toArray, List.append_toArray, List.nil_append, List.cons_append]
    go_wp2_with fail
    refine (count_is HX.out HM.out (by omega)).mono ?_
    rintro e w1 ⟨rfl, hE⟩
    have HE := Lib.hid hE; clear hE
    go_wp2_with fail
    refine (wide_is (HM.out.ext HE.out)).mono ?_
    rintro e w' ⟨rfl, rfl⟩
    rw [HW.out]
    go_wp2_with fail
    refine (nodes_any A n c _).mono ?_
    rintro e w0 ⟨rfl, hE0, hs0, hbm, hbw⟩
    have b3 : Blk w0 w1.heap.size (bObj false) := (((((Blk.new w1 _ rfl).alloc _).alloc _).alloc _).alloc _).ext hE0
    have b4 : Blk w0 (w1.heap.size + 1) (bObj false) := ((((Blk.new (w1.alloc _) _ (by simp)).alloc _).alloc _).alloc _).ext hE0
    have b5 : Blk w0 (w1.heap.size + 1 + 1) (bObj false) := (((Blk.new ((w1.alloc _).alloc _) _ (by simp)).alloc _).alloc _).ext hE0
    have b6 : Blk w0 (w1.heap.size + 1 + 1 + 1) (bObj true) := ((Blk.new (((w1.alloc _).alloc _).alloc _) _ (by simp)).alloc _).ext hE0
    have b7 : Blk w0 (w1.heap.size + 1 + 1 + 1 + 1) (sObj ⟨#[]⟩) := (Blk.new ((((w1.alloc _).alloc _).alloc _).alloc _) _ (by simp)).ext hE0
    have hE1 : Ext w w0 := HE.out.trans ((((((Ext.refl w1).alloc _).alloc _).alloc _).alloc _).alloc _ |>.trans hE0)
    have hws := HE.out.size
    simp only [World.size_alloc] at hs0 hbm hbw ⊢
    obtain ⟨g3, h3⟩ : ∃ g, g = w1.heap.size := ⟨_, rfl⟩
    obtain ⟨g4, h4⟩ : ∃ g, g = w1.heap.size + 1 := ⟨_, rfl⟩
    obtain ⟨g5, h5⟩ : ∃ g, g = w1.heap.size + 1 + 1 := ⟨_, rfl⟩
    obtain ⟨g6, h6⟩ : ∃ g, g = w1.heap.size + 1 + 1 + 1 := ⟨_, rfl⟩
    obtain ⟨g7, h7⟩ : ∃ g, g = w1.heap.size + 1 + 1 + 1 + 1 := ⟨_, rfl⟩
    obtain ⟨gm, h8⟩ : ∃ g, g = w1.heap.size + 1 + 1 + 1 + 1 + 1 := ⟨_, rfl⟩
    obtain ⟨gw, h9⟩ : ∃ g, g = w1.heap.size + 1 + 1 + 1 + 1 + 1 + 1 := ⟨_, rfl⟩
    rw [← h3] at b3; rw [← h4] at b4; rw [← h5] at b5; rw [← h6] at b6; rw [← h7] at b7
    rw [← h8] at hbm; rw [← h9] at hbw
    rw [← h9, ← h8, ← h7, ← h6, ← h5, ← h4, ← h3]
    have hord : w.heap.size ≤ g3 ∧ g4 = g3 + 1 ∧ g5 = g3 + 2 ∧ g6 = g3 + 3 ∧ g7 = g3 + 4 ∧ gm = g3 + 5 ∧ gw = g3 + 6 ∧ w0.heap.size = g3 + 7 := by omega
    obtain ⟨X, hX⟩ : ∃ X : Nat → Prop, X = fun g => g3 ≤ g ∧ g ≤ g7 := ⟨_, rfl⟩
    have hXi : ∀ g, X g ↔ g3 ≤ g ∧ g ≤ g7 := fun g => by rw [hX]
    have hK : ∀ W, Lv X w0 W → Blk W gw (walkObj gw) ∧ Blk W gm (boxM A n c) ∧ Ext w W := fun W hv =>
      ⟨hbw.lv hv (fun h => by have := (hXi _).1 h; omega), hbm.lv hv (fun h => by have := (hXi _).1 h; omega), hv.extBelow hE1 (fun g hg h => by have := (hXi _).1 h; omega)⟩
    have hit := nodes_iter b A n c gw gm X w w0 hK HB.out
    rw [HXS.out] at hit
    have HIT := Lib.hid hit; have B3 := Lib.hid b3; have B4 := Lib.hid b4; have B5 := Lib.hid b5; have B6 := Lib.hid b6; have B7 := Lib.hid b7; have HORD := Lib.hid hord; have HXI := Lib.hid hXi; have HKK := Lib.hid hK; have HE1 := Lib.hid hE1
    clear hit b3 b4 b5 b6 b7 hord hXi hK hE1 hX hE0 hs0 hbm hbw h3 h4 h5 h6 h7 h8 h9 hws q0 q00
    go_wp2_with fail
    generalize hA : Act.mk _ _ = a0
    refine wp_of_In (wpIn_range3 (gf := 64) (by rw [← hA]; rfl) (enters_of Try.func64 (by kernel_rfl) rfl) HIT.out (fun x vs S W h => by obtain ⟨_, _, _, _, _, _, _, _, _, rfl, _⟩ := h; rfl) (fun x vs S W W' h _ => h) (fun x vs S S' W h _ => h)
      (fun pre S W => ∃ bf : ByteArray, X = S ∧ Blk W g3 (bObj (lgN pre)) ∧ Blk W g4 (bObj (!ascN pre)) ∧ Blk W g5 (bObj (!pre.all okN)) ∧ Blk W g6 (bObj pre.isEmpty) ∧ Blk W g7 (sObj bf) ∧ (∀ y, pre.getLast? = some y → bf = y.k) ∧ Lv X w0 W)
      (fun _ _ _ _ => False) ?hI (fun _ _ _ _ _ h _ => h.elim) X ?h0 (fun g h => by have := HORD.out; have := (HXI.out g).1 h; omega)
      (fun S W e h => ⟨Lv.of_ext e, h⟩)
      (fun x vs W a₁ W' => ∃ A1 n1 c1 Al nl cl Ar nr cr, vs = #[.slice A1 n1 c1, .agg #[.string x.k, .string x.v, .slice Al nl cl, .slice Ar nr cr]] ∧ BAt w x.l Al nl ∧ BAt w x.r Ar nr ∧ x.k.size ≤ Reach ∧ x.v.size ≤ Reach ∧
        a₁ = { tmps := (((a0.tmps.setIfInBounds 19 (.slice A1 n1 c1)).setIfInBounds 20 (.agg #[.string x.k, .string x.v, .slice Al nl cl, .slice Ar nr cr])).setIfInBounds 9 (.pointer (some ⟨W.heap.size, 0, none⟩))), defers := [] } ∧ Ext W W' ∧ Blk W' W.heap.size (nodeObj x.k x.v Al nl cl Ar nr cr))
      (fun x vs W a₁ W' h => by obtain ⟨_, _, _, _, _, _, _, _, _, _, _, _, _, _, _, h, _⟩ := h; exact h) ?assign ?body ?done (fun _ _ _ _ _ _ _ _ h _ => h.elim))
    case hI =>
      rintro pre S W W' ⟨bf, rfl, e3, e4, e5, e6, e7, e8, e9⟩ hv
      have ho := HORD.out
      have nS : ∀ g, X g → ¬ (w0.heap.size ≤ g ∧ ¬ X g) := fun g h h' => h'.2 h
      have x3 : X g3 := (HXI.out _).2 (by omega)
      have x4 : X g4 := (HXI.out _).2 (by omega)
      have x5 : X g5 := (HXI.out _).2 (by omega)
      have x6 : X g6 := (HXI.out _).2 (by omega)
      have x7 : X g7 := (HXI.out _).2 (by omega)
      exact ⟨bf, rfl, e3.lv hv (nS _ x3), e4.lv hv (nS _ x4), e5.lv hv (nS _ x5), e6.lv hv (nS _ x6), e7.lv hv (nS _ x7), e8, e9.trans hv (fun g hg h => by omega)⟩
    case h0 => exact ⟨⟨#[]⟩, rfl, B3.out, B4.out, B5.out, B6.out, B7.out, fun y h => by simp at h, Lv.refl _ _⟩
    case assign =>
      rintro l ⟨xl, xk, xv, xr⟩ vs S W K ⟨A1, n1, c1, Al, nl, cl, Ar, nr, cr, rfl, hl, hr, hk, hv⟩ hK
      subst hA
      dsimp only at hl hr hk hv
      have HL := Lib.hid hl; have HR := Lib.hid hr; have HKA := Lib.hid hK; clear hl hr hK
      gi_wp2
      exact HKA.out _ _ ⟨A1, n1, c1, Al, nl, cl, Ar, nr, cr, rfl, HL.out, HR.out, hk, hv, rfl, (Ext.refl W).alloc _, Blk.new W _ rfl⟩
    case body =>
      rintro l pre ⟨xl, xk, xv, xr⟩ vs S W0 W' W a₁ ⟨A1, n1, c1, Al, nl, cl, Ar, nr, cr, -, hl, hr, hk, hv, rfl, hEa, hba⟩ hle0 hvb ⟨bf, rfl, e3, e4, e5, e6, e7, e8, e9⟩ hleW hpx henc hSlt
      dsimp only at hl hr hk hv hba
      have ho := HORD.out
      obtain ⟨gx, hgx⟩ : ∃ gx, gx = W0.heap.size := ⟨_, rfl⟩
      rw [← hgx] at hba ⊢
      have bx : Blk W gx (nodeObj xk xv Al nl cl Ar nr cr) := hba.lv hvb (fun h => hba.nc h.2)
      obtain ⟨-, -, hEW⟩ := HKK.out W e9
      have hgx0 : ∀ g, X g → g < gx := fun g h => by rw [hgx]; exact hSlt g h
      have x3 : X g3 := (HXI.out _).2 (by omega)
      have x4 : X g4 := (HXI.out _).2 (by omega)
      have x5 : X g5 := (HXI.out _).2 (by omega)
      have x6 : X g6 := (HXI.out _).2 (by omega)
      have x7 : X g7 := (HXI.out _).2 (by omega)
      have n34 : g3 ≠ g4 := by omega
      have n43 : g4 ≠ g3 := by omega
      have n36 : g6 ≠ g3 := by omega
      have n37 : g7 ≠ g3 := by omega
      have n3x : gx ≠ g3 := by have := hgx0 _ x3; omega
      have n4x : gx ≠ g4 := by have := hgx0 _ x4; omega
      have n35 : g5 ≠ g3 := by omega
      have n45 : g5 ≠ g4 := by omega
      have n46 : g6 ≠ g4 := by omega
      have n47 : g7 ≠ g4 := by omega
      have HL := Lib.hid hl; have HR := Lib.hid hr; have HE9 := Lib.hid e9; have H8 := Lib.hid e8; have HEW := Lib.hid hEW
      have E3 := Lib.hid e3; have E4 := Lib.hid e4; have E5 := Lib.hid e5; have E6 := Lib.hid e6; have E7 := Lib.hid e7; have EX := Lib.hid bx
      have HGX := Lib.hid hgx0
      have HN := Lib.hid (And.intro n34 (And.intro n43 (And.intro n36 (And.intro n37 (And.intro n3x (And.intro n4x (And.intro n35 (And.intro n45 (And.intro n46 n47)))))))))
      have HXX := Lib.hid (And.intro x3 (And.intro x4 (And.intro x5 (And.intro x6 x7))))
      clear hEa hba hvb hle0 henc hpx hl hr e9 e8 hEW e3 e4 e5 e6 e7 bx hgx ho hgx0 n34 n43 n36 n37 n3x n4x n35 n45 n46 n47 x3 x4 x5 x6 x7 hSlt hleW
      subst hA
      simp only [List.setIfInBounds_toArray, List.set_cons_zero, List.set_cons_succ]
      obtain ⟨z3, h3⟩ : ∃ z, lgN pre = z := ⟨_, rfl⟩
      obtain ⟨z4, h4⟩ : ∃ z, ascN pre = z := ⟨_, rfl⟩
      obtain ⟨z5, h5⟩ : ∃ z, pre.all okN = z := ⟨_, rfl⟩
      obtain ⟨z6, h6⟩ : ∃ z, pre.isEmpty = z := ⟨_, rfl⟩
      have e3 := E3.out; have e4 := E4.out; have e5 := E5.out; have e6 := E6.out
      rw [h3] at e3; rw [h4] at e4; rw [h5] at e5; rw [h6] at e6
      have F3 := Lib.hid e3; have F4 := Lib.hid e4; have F5 := Lib.hid e5; have F6 := Lib.hid e6
      have Z3 := Lib.hid h3; have Z4 := Lib.hid h4; have Z5 := Lib.hid h5; have Z6 := Lib.hid h6
      clear E3 E4 E5 E6 h3 h4 h5 h6 e3 e4 e5 e6
      obtain ⟨v3, hv3⟩ : ∃ z, lgN (pre ++ [⟨xl, xk, xv, xr⟩]) = z := ⟨_, rfl⟩
      obtain ⟨v4, hv4⟩ : ∃ z, ascN (pre ++ [⟨xl, xk, xv, xr⟩]) = z := ⟨_, rfl⟩
      have V3 := Lib.hid hv3; have V4 := Lib.hid hv4; clear hv3 hv4
      cases z3 with
      | true =>
        cases z4 with
        | false =>
          obtain ⟨k34, k43, k36, k37, k3x, k4x, -, -, -, -⟩ := HN.out
          have c3 : W.cell? ⟨g3, 0, none⟩ = some (.bool true) := F3.out.cell 0
          have f3 := F3.out.free 0
          obtain ⟨d0, d1, d2, d3⟩ := EX.out.cells4
          have c4 : ∀ v, (W.setCell ⟨g3, 0, none⟩ v).cell? ⟨g4, 0, none⟩ = some (.bool true) := fun v => (F4.out.far (p := ⟨g3, 0, none⟩) k43 v).cell 0
          have c6 : ∀ v, (W.setCell ⟨g3, 0, none⟩ v).cell? ⟨g6, 0, none⟩ = some (.bool z6) := fun v => (F6.out.far (p := ⟨g3, 0, none⟩) k36 v).cell 0
          have c7 : ∀ v, (W.setCell ⟨g3, 0, none⟩ v).cell? ⟨g7, 0, none⟩ = some (.string bf) := fun v => (E7.out.far (p := ⟨g3, 0, none⟩) k37 v).cell 0
          have d0' : ∀ v, (W.setCell ⟨g3, 0, none⟩ v).cell? ⟨gx, 0, none⟩ = some (.string xk) := fun v => (EX.out.far (p := ⟨g3, 0, none⟩) k3x v).cells4.1
          have f4 : ∀ v, (W.setCell ⟨g3, 0, none⟩ v).frozen? ⟨g4, 0, none⟩ = false := fun v => (F4.out.far (p := ⟨g3, 0, none⟩) k43 v).free 0
          clear k34 k43 k36 k37 k3x k4x
          gi_wp2
          refine ⟨trivial, ?_⟩
          gi_wp2

          clear c3 c4 c6 c7 d0 d0' d1 d2 d3 f3 f4
          generalize hwc : World.alloc (World.setCell (World.setCell W ⟨g3, 0, none⟩ _) ⟨g4, 0, none⟩ _) _ = wc
          have q3 : v3 = (true) := by rw [← V3.out, lgN_snoc, Z3.out]; rfl
          have q4 : v4 = (false) := by
            cases z6 with
            | true => exact absurd Z4.out (by rw [ascN_one0 Z6.out]; simp)
            | false => rw [← V4.out, ascN_snoc _ H8.out Z6.out, Z4.out]; rfl
          obtain ⟨k34, k43, k36, k37, k3x, k4x, k35, k45, k46, k47⟩ := HN.out
          have hb3 : Blk wc g3 (bObj v3) := by rw [← hwc, q3]; exact ((F3.out.put 0 _).far (p := ⟨g4, 0, none⟩) k34 _).alloc _
          have hb4 : Blk wc g4 (bObj !v4) := by rw [← hwc, q4]; exact ((F4.out.far (p := ⟨g3, 0, none⟩) k43 _).put 0 _).alloc _
          have hb5 : Blk wc g5 (bObj !z5) := by rw [← hwc]; exact ((F5.out.far (p := ⟨g3, 0, none⟩) k35 _).far (p := ⟨g4, 0, none⟩) k45 _).alloc _
          have hb6 : Blk wc g6 (bObj z6) := by rw [← hwc]; exact ((F6.out.far (p := ⟨g3, 0, none⟩) k36 _).far (p := ⟨g4, 0, none⟩) k46 _).alloc _
          have hb7 : Blk wc g7 (sObj bf) := by rw [← hwc]; exact ((E7.out.far (p := ⟨g3, 0, none⟩) k37 _).far (p := ⟨g4, 0, none⟩) k47 _).alloc _
          have hbx : Blk wc gx (nodeObj xk xv Al nl cl Ar nr cr) := by rw [← hwc]; exact ((EX.out.far (p := ⟨g3, 0, none⟩) k3x _).far (p := ⟨g4, 0, none⟩) k4x _).alloc _
          have hbo : Blk wc W.heap.size (objT Al Ar nl cl nr cr) := by rw [← hwc]; exact Blk.new _ _ (by simp)
          have hlv : Lv X W wc := by rw [← hwc]; exact (((Lv.refl _ _).setCell (p := ⟨g3, 0, none⟩) (fun _ => HXX.out.1) _).setCell (p := ⟨g4, 0, none⟩) (fun _ => HXX.out.2.1) _).alloc _
          clear hwc k34 k43 k36 k37 k3x k4x k35 k45 k46 k47 q3 q4
          have hlv0 : Lv X w0 wc := HE9.out.trans hlv (fun g _ h => h)
          have hEc : Ext w wc := (HKK.out _ hlv0).2.2
          obtain ⟨Kl, hkl, hn1, hcl, hsl, htl⟩ := BAt.kids (b := xl) (HL.out.ext hEc)
          obtain ⟨Kr, hkr, hm1, hcr, hsr, htr⟩ := BAt.kids (b := xr) (HR.out.ext hEc)
          refine ⟨trivial, rfl, CallsIn.inRound l (callsIn_wide.2 ((concat_two Al Ar nl cl nr cr W.heap.size wc hbo hcl hcr (by rw [flat_len kd_len, hkl]) (by rw [flat_len kd_len, hkr]) (one_kd _) (one_kd _) (by omega) (by omega)).mono ?_))⟩
          rintro e w3 ⟨hE3, v, rfl, ho⟩
          rw [← List.flatMap_append] at ho
          obtain ⟨KL, hKL⟩ : ∃ KL, Kl ++ Kr = KL := ⟨_, rfl⟩
          rw [hKL] at ho
          have hoff : (z5 && kidsOk xk KL) = (pre ++ [(⟨xl, xk, xv, xr⟩ : Nod)]).all okN := by
            have h1 : kidsOk xk (Kl ++ Kr) = (kidsOk xk Kl && kidsOk xk Kr) := by simp [kidsOk]
            rw [← hKL, List.all_append, Z5.out, h1, htl, htr]; simp [okN]
          have hsk : ∀ x ∈ KL, x.k.size ≤ Reach ∧ x.v.size ≤ Reach := by
            intro x hx; rw [← hKL] at hx
            rcases List.mem_append.1 hx with h | h
            · exact hsl x h
            · exact hsr x h
          obtain ⟨Av, cv, rfl, hcv, hKn, -⟩ := own_kids ho
          have hln0 : KL.length = nl + nr := hKn
          have hkn2 : nl + nr ≤ 2 := by omega
          have G3 := Lib.hid (hb3.ext hE3); have G4 := Lib.hid (hb4.ext hE3); have G5 := Lib.hid (hb5.ext hE3); have G6 := Lib.hid (hb6.ext hE3); have G7 := Lib.hid (hb7.ext hE3); have GX := Lib.hid (hbx.ext hE3)
          have HLV := Lib.hid (hlv.ext hE3); have ho2 := ho; have HO := Lib.hid ho; have HOFF := Lib.hid hoff; have HSK := Lib.hid hsk; have HKN := Lib.hid hKn
          have hWs : W.heap.size ≤ wc.heap.size := hlv.size
          have HWS := Lib.hid hWs
          have hg5l := hb5.lt
          have HG5L := Lib.hid hg5l; clear hg5l
          clear hb3 hb4 hb5 hb6 hb7 hbx hE3 hlv ho hoff hsk hkl hkr hcl hcr hsl hsr htl htr hKL hKn hn1 hm1 hbo hlv0 hEc hWs F3 F4 F5 F6 E7 EX
          generalize hN : nl + nr = N
          rw [hN] at hln0
          have HLN0 := Lib.hid hln0; clear hln0
          have hN2 : N ≤ 2 := by omega
          clear hkn2
          rw [hN] at ho2 hcv
          have HO2 := Lib.hid ho2; clear ho2 HO
          gi_wp2
          gi_loopw [47] (fun vi wr => ∃ i : Nat, vi = .int .i64 i ∧ i ≤ N ∧ Lv (fun g => g = g5) w3 wr ∧ Blk wr g5 (bObj (!(z5 && kidsOk xk (KL.take i))))) (fun vi _ => N - (intOf vi).toNat)
          case atStart => exact ⟨0, rfl, Nat.zero_le _, Lv.refl _ _, by simpa [kidsOk] using G5.out⟩
          case round =>
            obtain ⟨i, rfl, hi, hlw, hb5⟩ := hrel
            have HLW := Lib.hid hlw; have HB5 := Lib.hid hb5; clear hlw hb5
            by_cases hiN : i = N
            · have hnl : ¬ ((i : Int) < (N : Int)) := by omega
              have hn5x : ¬ gx = g5 := by have := HGX.out _ HXX.out.2.2.1; omega
              have ho := HORD.out
              have k3 := G3.out.lv HLW.out (by omega)
              have k4 := G4.out.lv HLW.out (by omega)
              have k6 := G6.out.lv HLW.out (by omega)
              have k7 := G7.out.lv HLW.out (by omega)
              have kx := GX.out.lv HLW.out hn5x
              have K3 := Lib.hid k3; have K4 := Lib.hid k4; have K6 := Lib.hid k6; have K7 := Lib.hid k7; have KX := Lib.hid kx
              clear k3 k4 k6 k7 kx hn5x ho
              gi_wp2
              obtain rfl := hiN
              have hKL : KL.take i = KL := List.take_of_length_le (by have := HLN0.out; omega)
              have hb5 := HB5.out
              rw [hKL, HOFF.out] at hb5
              have HB6 := Lib.hid hb5; clear hb5 hKL
              have n67 : g6 ≠ g7 := by have := HORD.out; omega
              have hT2 : ∀ wx, (Lv X wr wx ∧ Blk wx gx (nodeObj xk xv Al nl cl Ar nr cr)) → wx.cell? ⟨gx, 0, none⟩ = some (.string xk) := fun wx h => h.2.cells4.1
              have hLX : ∀ wx, Ext wr wx → Lv X wr wx := fun wx h => Lv.of_ext h
              refine wpIn_region_X (T := fun wx => wx.cell? ⟨gx, 0, none⟩ = some (.string xk)) (fun wx => Ext wr wx) (by kernel_rfl) (by kernel_rfl) (fun ⟨_, _, h⟩ => h) ((Ext.refl wr).drew) (wpX_takes (by kernel_rfl) (fun _ d _ _ _ h => by cases d <;> exact h) (Stab.ext wr) (fun wx h => (KX.out.ext h).cells4.1) (fuel := 2) [0,1] _ _ (by kernel_rfl) ?_)
              refine wpTk_want rfl (Eq.refl true) ⟨.pointer (some ⟨gx, 0, none⟩), fun wx hx => ?_, ?_⟩
              · go_simp
                with_reducible exact gives_ok _ _ _
              simp only [Act.put, List.setIfInBounds_toArray, List.set_cons_zero, List.set_cons_succ]
              refine wpTk_want rfl (Eq.refl true) ⟨.string xk, fun wx hx => ?_, ?_⟩
              · go_simp
                with_reducible exact gives_ok _ _ _
              simp only [Act.put, List.setIfInBounds_toArray, List.set_cons_zero, List.set_cons_succ]
              refine wpTk_nil ?_
              obtain ⟨S2, hS2⟩ : ∃ S2 : Bool → ByteArray → World → Prop, S2 = fun s6 s7 wy => Lv X wr wy ∧ Blk wy g3 (bObj v3) ∧ Blk wy g4 (bObj !v4) ∧ Blk wy g5 (bObj (!(pre ++ [(⟨xl, xk, xv, xr⟩ : Nod)]).all okN)) ∧ Blk wy g6 (bObj s6) ∧ Blk wy g7 (sObj s7) ∧ Blk wy gx (nodeObj xk xv Al nl cl Ar nr cr) := ⟨_, rfl⟩
              have hSs : ∀ s6 s7, Stab (S2 s6 s7) := fun s6 s7 w1 w2 e h => by
                rw [hS2] at h ⊢
                exact ⟨h.1.ext e, h.2.1.ext e, h.2.2.1.ext e, h.2.2.2.1.ext e, h.2.2.2.2.1.ext e, h.2.2.2.2.2.1.ext e, h.2.2.2.2.2.2.ext e⟩
              have hST : ∀ s6 s7 wy, S2 s6 s7 wy → wy.cell? ⟨gx, 0, none⟩ = some (.string xk) := fun s6 s7 wy h => by
                rw [hS2] at h
                exact h.2.2.2.2.2.2.cells4.1
              have HS2 := Lib.hid hS2; clear hS2 hT2 hLX
              refine wpX_one 2 (by kernel_rfl) rfl rfl (fun wx hx KK hKK => ?_)
              have f6 := (K6.out.ext hx).free 0
              have c6 : wx.cell? ⟨g6, 0, none⟩ = some (.bool z6) := (K6.out.ext hx).cell 0
              go_simp
              refine hKK _ _ ⟨S2 false bf, hSs _ _, hST _ _, ?_, ?_⟩
              · rw [HS2.out]
                obtain ⟨-, -, k36, -, -, -, -, -, k46, -⟩ := HN.out
                have n56 : g5 ≠ g6 := by have := HORD.out; omega
                have n76 : g7 ≠ g6 := by have := HORD.out; omega
                have nx6 : gx ≠ g6 := by have := HGX.out _ HXX.out.2.2.2.1; omega
                exact ⟨(Lv.of_ext hx).setCell (p := ⟨g6, 0, none⟩) (fun _ => HXX.out.2.2.2.1) _, (K3.out.ext hx).far (p := ⟨g6, 0, none⟩) (Ne.symm k36) _, (K4.out.ext hx).far (p := ⟨g6, 0, none⟩) (Ne.symm k46) _, (HB6.out.ext hx).far (p := ⟨g6, 0, none⟩) n56 _, (K6.out.ext hx).put 0 _, (K7.out.ext hx).far (p := ⟨g6, 0, none⟩) n76 _, (KX.out.ext hx).far (p := ⟨g6, 0, none⟩) nx6 _⟩
              clear hKK KK f6 c6 hx wx
              refine wpX_one 3 (by kernel_rfl) rfl rfl (fun wx hx KK hKK => ?_)
              rw [HS2.out] at hx
              obtain ⟨y1, y2, y3, y4, y5, y6, y7⟩ := hx
              have f7 := y6.free 0
              have c7 : wx.cell? ⟨g7, 0, none⟩ = some (.string bf) := y6.cell 0
              go_simp
              refine hKK _ _ ⟨S2 false xk, hSs _ _, hST _ _, ?_, ?_⟩
              · rw [HS2.out]
                obtain ⟨-, -, -, k37, -, -, -, -, -, k47⟩ := HN.out
                have n57 : g5 ≠ g7 := by have := HORD.out; omega
                have n67 : g6 ≠ g7 := by have := HORD.out; omega
                have nx7 : gx ≠ g7 := by have := HGX.out _ HXX.out.2.2.2.2; omega
                exact ⟨y1.setCell (p := ⟨g7, 0, none⟩) (fun _ => HXX.out.2.2.2.2) _, y2.far (p := ⟨g7, 0, none⟩) (Ne.symm k37) _, y3.far (p := ⟨g7, 0, none⟩) (Ne.symm k47) _, y4.far (p := ⟨g7, 0, none⟩) n57 _, y5.far (p := ⟨g7, 0, none⟩) n67 _, y6.put 0 _, y7.far (p := ⟨g7, 0, none⟩) nx7 _⟩
              clear hKK KK f7 c7 y1 y2 y3 y4 y5 y6 y7 wx
              refine wpX_done (by kernel_rfl) (fun wx hx => ?_) _
              rw [HS2.out] at hx
              obtain ⟨y1, y2, y3, y4, y5, y6, y7⟩ := hx
              have hlvf : Lv X W wx := (HLV.out.trans HLW.out (fun g _ h => by subst h; exact HXX.out.2.2.1)).trans y1 (fun g _ h => h)
              refine ⟨X, hlvf, fun g h => .inl h, fun g h => by have := (HXI.out g).1 h; have := y6.lt; omega, xk, rfl, by rw [V3.out]; exact y2, by rw [V4.out]; exact y3, y4, ?_, y6, fun y h => by simp at h; rw [← h], HE9.out.trans hlvf (fun g _ h => h)⟩
              have : (pre ++ [(⟨xl, xk, xv, xr⟩ : Nod)]).isEmpty = false := by cases pre <;> rfl
              rw [this]; exact y5
            · have hlt : ((i : Int) < (N : Int)) := by omega
              have hnb : ∀ g, (Value.slice Av N cv).ownBlock = some g → ¬ g = g5 := fun g hg h => by have := (own_blk HO2.out hg).1; have := HG5L.out; omega
              have ho3 := own_lv HO2.out HLW.out hnb
              obtain ⟨A', c', hve, -, hln, hcell⟩ := own_kids ho3
              cases hve
              obtain ⟨x, hx⟩ : ∃ x, KL[i]? = some x := ⟨KL[i]'(by omega), List.getElem?_eq_getElem (by omega)⟩
              obtain ⟨gk, rfl, -, hgk, q0, q1, q2, q3⟩ := hcell i x hx
              have hkx := HSK.out x (List.mem_of_getElem? hx)
              have hgw : gx < wr.heap.size := Nat.lt_of_lt_of_le GX.out.lt HLW.out.size
              have hn5x : ¬ gx = g5 := by have := HGX.out _ HXX.out.2.2.1; omega
              have GX2 := GX.out.lv HLW.out hn5x
              have cx : ∀ o, (wr.alloc o).cell? ⟨gx, 0, none⟩ = some (.string xk) := fun o => (GX2.alloc o).cells4.1
              obtain ⟨zz, hzz⟩ : ∃ z, (z5 && kidsOk xk (KL.take i)) = z := ⟨_, rfl⟩
              have hb5 := HB5.out
              rw [hzz] at hb5
              have HZZ := Lib.hid hzz; have HBB := Lib.hid hb5; have HX := Lib.hid hx; have HKX := Lib.hid hkx; have HLN := Lib.hid hln
              have h5l : g5 < wr.heap.size := hb5.lt
              have f5 : ∀ o, (wr.alloc o).frozen? ⟨g5, 0, none⟩ = false := fun o => (HBB.out.alloc o).free 0
              have hNx : ∀ o, Blk (wr.alloc o) gx (nodeObj xk xv Al nl cl Ar nr cr) := fun o => GX2.alloc o
              clear hnb ho3 hcell hzz hb5 hx hkx hln hNx GX2 hn5x
              have hfin : ∀ v o, v = (zz && ahB xk x.k) → ∃ i' : Nat, Value.int .i64 ((i : Int) + 1) = .int .i64 i' ∧ i' ≤ N ∧ Lv (fun g => g = g5) w3 ((wr.setCell ⟨g5, 0, none⟩ (.bool (!v))).alloc o) ∧ Blk ((wr.setCell ⟨g5, 0, none⟩ (.bool (!v))).alloc o) g5 (bObj (!(z5 && kidsOk xk (KL.take i')))) := fun v o hv => by
                refine ⟨i + 1, by go_num, by omega, (HLW.out.setCell (p := ⟨g5, 0, none⟩) (fun _ => rfl) _).alloc o, ?_⟩
                rw [kids_take HX.out, ← Bool.and_assoc, HZZ.out, ← hv]
                exact (HBB.out.put 0 _).alloc o
              have HFIN := Lib.hid hfin; clear hfin
              cases zz with
              | false =>
                have c5 : ∀ o, (wr.alloc o).cell? ⟨g5, 0, none⟩ = some (.bool true) := fun o => (HBB.out.alloc o).cell 0
                gi_wp2
                refine ⟨trivial, ?_⟩
                gi_wp2
                go_roundw
                case rel => exact HFIN.out false _ rfl
                case measure => simp [intOf]; omega
              | true =>
                have c5 : ∀ o, (wr.alloc o).cell? ⟨g5, 0, none⟩ = some (.bool false) := fun o => (HBB.out.alloc o).cell 0
                gi_wp2
                refine ⟨trivial, rfl, CallsIn.inRound l (callsIn_wide.2 ((ahead_any xk x.k _ hk HKX.out.1).mono ?_))⟩
                rintro e w' ⟨rfl, rfl⟩
                gi_wp2
                go_roundw
                case rel => exact HFIN.out (ahB xk x.k) _ (by rw [Bool.true_and])
                case measure => simp [intOf]; omega
        | true =>
          cases z6 with
          | true =>
            obtain ⟨k34, k43, k36, k37, k3x, k4x, -, -, -, -⟩ := HN.out
            have c3 : W.cell? ⟨g3, 0, none⟩ = some (.bool true) := F3.out.cell 0
            have f3 := F3.out.free 0
            obtain ⟨d0, d1, d2, d3⟩ := EX.out.cells4
            have c4 : ∀ v, (W.setCell ⟨g3, 0, none⟩ v).cell? ⟨g4, 0, none⟩ = some (.bool false) := fun v => (F4.out.far (p := ⟨g3, 0, none⟩) k43 v).cell 0
            have c6 : ∀ v, (W.setCell ⟨g3, 0, none⟩ v).cell? ⟨g6, 0, none⟩ = some (.bool true) := fun v => (F6.out.far (p := ⟨g3, 0, none⟩) k36 v).cell 0
            have c7 : ∀ v, (W.setCell ⟨g3, 0, none⟩ v).cell? ⟨g7, 0, none⟩ = some (.string bf) := fun v => (E7.out.far (p := ⟨g3, 0, none⟩) k37 v).cell 0
            have d0' : ∀ v, (W.setCell ⟨g3, 0, none⟩ v).cell? ⟨gx, 0, none⟩ = some (.string xk) := fun v => (EX.out.far (p := ⟨g3, 0, none⟩) k3x v).cells4.1
            have f4 : ∀ v, (W.setCell ⟨g3, 0, none⟩ v).frozen? ⟨g4, 0, none⟩ = false := fun v => (F4.out.far (p := ⟨g3, 0, none⟩) k43 v).free 0
            clear k34 k43 k36 k37 k3x k4x
            gi_wp2
            refine ⟨trivial, ?_⟩
            gi_wp2

            clear c3 c4 c6 c7 d0 d0' d1 d2 d3 f3 f4
            generalize hwc : World.alloc (World.setCell (World.setCell W ⟨g3, 0, none⟩ _) ⟨g4, 0, none⟩ _) _ = wc
            have q3 : v3 = (true) := by rw [← V3.out, lgN_snoc, Z3.out]; rfl
            have q4 : v4 = (true) := by
              rw [← V4.out, ascN_one _ Z6.out]
            obtain ⟨k34, k43, k36, k37, k3x, k4x, k35, k45, k46, k47⟩ := HN.out
            have hb3 : Blk wc g3 (bObj v3) := by rw [← hwc, q3]; exact ((F3.out.put 0 _).far (p := ⟨g4, 0, none⟩) k34 _).alloc _
            have hb4 : Blk wc g4 (bObj !v4) := by rw [← hwc, q4]; exact ((F4.out.far (p := ⟨g3, 0, none⟩) k43 _).put 0 _).alloc _
            have hb5 : Blk wc g5 (bObj !z5) := by rw [← hwc]; exact ((F5.out.far (p := ⟨g3, 0, none⟩) k35 _).far (p := ⟨g4, 0, none⟩) k45 _).alloc _
            have hb6 : Blk wc g6 (bObj true) := by rw [← hwc]; exact ((F6.out.far (p := ⟨g3, 0, none⟩) k36 _).far (p := ⟨g4, 0, none⟩) k46 _).alloc _
            have hb7 : Blk wc g7 (sObj bf) := by rw [← hwc]; exact ((E7.out.far (p := ⟨g3, 0, none⟩) k37 _).far (p := ⟨g4, 0, none⟩) k47 _).alloc _
            have hbx : Blk wc gx (nodeObj xk xv Al nl cl Ar nr cr) := by rw [← hwc]; exact ((EX.out.far (p := ⟨g3, 0, none⟩) k3x _).far (p := ⟨g4, 0, none⟩) k4x _).alloc _
            have hbo : Blk wc W.heap.size (objT Al Ar nl cl nr cr) := by rw [← hwc]; exact Blk.new _ _ (by simp)
            have hlv : Lv X W wc := by rw [← hwc]; exact (((Lv.refl _ _).setCell (p := ⟨g3, 0, none⟩) (fun _ => HXX.out.1) _).setCell (p := ⟨g4, 0, none⟩) (fun _ => HXX.out.2.1) _).alloc _
            clear hwc k34 k43 k36 k37 k3x k4x k35 k45 k46 k47 q3 q4
            have hlv0 : Lv X w0 wc := HE9.out.trans hlv (fun g _ h => h)
            have hEc : Ext w wc := (HKK.out _ hlv0).2.2
            obtain ⟨Kl, hkl, hn1, hcl, hsl, htl⟩ := BAt.kids (b := xl) (HL.out.ext hEc)
            obtain ⟨Kr, hkr, hm1, hcr, hsr, htr⟩ := BAt.kids (b := xr) (HR.out.ext hEc)
            refine ⟨trivial, rfl, CallsIn.inRound l (callsIn_wide.2 ((concat_two Al Ar nl cl nr cr W.heap.size wc hbo hcl hcr (by rw [flat_len kd_len, hkl]) (by rw [flat_len kd_len, hkr]) (one_kd _) (one_kd _) (by omega) (by omega)).mono ?_))⟩
            rintro e w3 ⟨hE3, v, rfl, ho⟩
            rw [← List.flatMap_append] at ho
            obtain ⟨KL, hKL⟩ : ∃ KL, Kl ++ Kr = KL := ⟨_, rfl⟩
            rw [hKL] at ho
            have hoff : (z5 && kidsOk xk KL) = (pre ++ [(⟨xl, xk, xv, xr⟩ : Nod)]).all okN := by
              have h1 : kidsOk xk (Kl ++ Kr) = (kidsOk xk Kl && kidsOk xk Kr) := by simp [kidsOk]
              rw [← hKL, List.all_append, Z5.out, h1, htl, htr]; simp [okN]
            have hsk : ∀ x ∈ KL, x.k.size ≤ Reach ∧ x.v.size ≤ Reach := by
              intro x hx; rw [← hKL] at hx
              rcases List.mem_append.1 hx with h | h
              · exact hsl x h
              · exact hsr x h
            obtain ⟨Av, cv, rfl, hcv, hKn, -⟩ := own_kids ho
            have hln0 : KL.length = nl + nr := hKn
            have hkn2 : nl + nr ≤ 2 := by omega
            have G3 := Lib.hid (hb3.ext hE3); have G4 := Lib.hid (hb4.ext hE3); have G5 := Lib.hid (hb5.ext hE3); have G6 := Lib.hid (hb6.ext hE3); have G7 := Lib.hid (hb7.ext hE3); have GX := Lib.hid (hbx.ext hE3)
            have HLV := Lib.hid (hlv.ext hE3); have ho2 := ho; have HO := Lib.hid ho; have HOFF := Lib.hid hoff; have HSK := Lib.hid hsk; have HKN := Lib.hid hKn
            have hWs : W.heap.size ≤ wc.heap.size := hlv.size
            have HWS := Lib.hid hWs
            have hg5l := hb5.lt
            have HG5L := Lib.hid hg5l; clear hg5l
            clear hb3 hb4 hb5 hb6 hb7 hbx hE3 hlv ho hoff hsk hkl hkr hcl hcr hsl hsr htl htr hKL hKn hn1 hm1 hbo hlv0 hEc hWs F3 F4 F5 F6 E7 EX
            generalize hN : nl + nr = N
            rw [hN] at hln0
            have HLN0 := Lib.hid hln0; clear hln0
            have hN2 : N ≤ 2 := by omega
            clear hkn2
            rw [hN] at ho2 hcv
            have HO2 := Lib.hid ho2; clear ho2 HO
            gi_wp2
            gi_loopw [47] (fun vi wr => ∃ i : Nat, vi = .int .i64 i ∧ i ≤ N ∧ Lv (fun g => g = g5) w3 wr ∧ Blk wr g5 (bObj (!(z5 && kidsOk xk (KL.take i))))) (fun vi _ => N - (intOf vi).toNat)
            case atStart => exact ⟨0, rfl, Nat.zero_le _, Lv.refl _ _, by simpa [kidsOk] using G5.out⟩
            case round =>
              obtain ⟨i, rfl, hi, hlw, hb5⟩ := hrel
              have HLW := Lib.hid hlw; have HB5 := Lib.hid hb5; clear hlw hb5
              by_cases hiN : i = N
              · have hnl : ¬ ((i : Int) < (N : Int)) := by omega
                have hn5x : ¬ gx = g5 := by have := HGX.out _ HXX.out.2.2.1; omega
                have ho := HORD.out
                have k3 := G3.out.lv HLW.out (by omega)
                have k4 := G4.out.lv HLW.out (by omega)
                have k6 := G6.out.lv HLW.out (by omega)
                have k7 := G7.out.lv HLW.out (by omega)
                have kx := GX.out.lv HLW.out hn5x
                have K3 := Lib.hid k3; have K4 := Lib.hid k4; have K6 := Lib.hid k6; have K7 := Lib.hid k7; have KX := Lib.hid kx
                clear k3 k4 k6 k7 kx hn5x ho
                gi_wp2
                obtain rfl := hiN
                have hKL : KL.take i = KL := List.take_of_length_le (by have := HLN0.out; omega)
                have hb5 := HB5.out
                rw [hKL, HOFF.out] at hb5
                have HB6 := Lib.hid hb5; clear hb5 hKL
                have n67 : g6 ≠ g7 := by have := HORD.out; omega
                have hT2 : ∀ wx, (Lv X wr wx ∧ Blk wx gx (nodeObj xk xv Al nl cl Ar nr cr)) → wx.cell? ⟨gx, 0, none⟩ = some (.string xk) := fun wx h => h.2.cells4.1
                have hLX : ∀ wx, Ext wr wx → Lv X wr wx := fun wx h => Lv.of_ext h
                refine wpIn_region_X (T := fun wx => wx.cell? ⟨gx, 0, none⟩ = some (.string xk)) (fun wx => Ext wr wx) (by kernel_rfl) (by kernel_rfl) (fun ⟨_, _, h⟩ => h) ((Ext.refl wr).drew) (wpX_takes (by kernel_rfl) (fun _ d _ _ _ h => by cases d <;> exact h) (Stab.ext wr) (fun wx h => (KX.out.ext h).cells4.1) (fuel := 2) [0,1] _ _ (by kernel_rfl) ?_)
                refine wpTk_want rfl (Eq.refl true) ⟨.pointer (some ⟨gx, 0, none⟩), fun wx hx => ?_, ?_⟩
                · go_simp
                  with_reducible exact gives_ok _ _ _
                simp only [Act.put, List.setIfInBounds_toArray, List.set_cons_zero, List.set_cons_succ]
                refine wpTk_want rfl (Eq.refl true) ⟨.string xk, fun wx hx => ?_, ?_⟩
                · go_simp
                  with_reducible exact gives_ok _ _ _
                simp only [Act.put, List.setIfInBounds_toArray, List.set_cons_zero, List.set_cons_succ]
                refine wpTk_nil ?_
                obtain ⟨S2, hS2⟩ : ∃ S2 : Bool → ByteArray → World → Prop, S2 = fun s6 s7 wy => Lv X wr wy ∧ Blk wy g3 (bObj v3) ∧ Blk wy g4 (bObj !v4) ∧ Blk wy g5 (bObj (!(pre ++ [(⟨xl, xk, xv, xr⟩ : Nod)]).all okN)) ∧ Blk wy g6 (bObj s6) ∧ Blk wy g7 (sObj s7) ∧ Blk wy gx (nodeObj xk xv Al nl cl Ar nr cr) := ⟨_, rfl⟩
                have hSs : ∀ s6 s7, Stab (S2 s6 s7) := fun s6 s7 w1 w2 e h => by
                  rw [hS2] at h ⊢
                  exact ⟨h.1.ext e, h.2.1.ext e, h.2.2.1.ext e, h.2.2.2.1.ext e, h.2.2.2.2.1.ext e, h.2.2.2.2.2.1.ext e, h.2.2.2.2.2.2.ext e⟩
                have hST : ∀ s6 s7 wy, S2 s6 s7 wy → wy.cell? ⟨gx, 0, none⟩ = some (.string xk) := fun s6 s7 wy h => by
                  rw [hS2] at h
                  exact h.2.2.2.2.2.2.cells4.1
                have HS2 := Lib.hid hS2; clear hS2 hT2 hLX
                refine wpX_one 2 (by kernel_rfl) rfl rfl (fun wx hx KK hKK => ?_)
                have f6 := (K6.out.ext hx).free 0
                have c6 : wx.cell? ⟨g6, 0, none⟩ = some (.bool true) := (K6.out.ext hx).cell 0
                go_simp
                refine hKK _ _ ⟨S2 false bf, hSs _ _, hST _ _, ?_, ?_⟩
                · rw [HS2.out]
                  obtain ⟨-, -, k36, -, -, -, -, -, k46, -⟩ := HN.out
                  have n56 : g5 ≠ g6 := by have := HORD.out; omega
                  have n76 : g7 ≠ g6 := by have := HORD.out; omega
                  have nx6 : gx ≠ g6 := by have := HGX.out _ HXX.out.2.2.2.1; omega
                  exact ⟨(Lv.of_ext hx).setCell (p := ⟨g6, 0, none⟩) (fun _ => HXX.out.2.2.2.1) _, (K3.out.ext hx).far (p := ⟨g6, 0, none⟩) (Ne.symm k36) _, (K4.out.ext hx).far (p := ⟨g6, 0, none⟩) (Ne.symm k46) _, (HB6.out.ext hx).far (p := ⟨g6, 0, none⟩) n56 _, (K6.out.ext hx).put 0 _, (K7.out.ext hx).far (p := ⟨g6, 0, none⟩) n76 _, (KX.out.ext hx).far (p := ⟨g6, 0, none⟩) nx6 _⟩
                clear hKK KK f6 c6 hx wx
                refine wpX_one 3 (by kernel_rfl) rfl rfl (fun wx hx KK hKK => ?_)
                rw [HS2.out] at hx
                obtain ⟨y1, y2, y3, y4, y5, y6, y7⟩ := hx
                have f7 := y6.free 0
                have c7 : wx.cell? ⟨g7, 0, none⟩ = some (.string bf) := y6.cell 0
                go_simp
                refine hKK _ _ ⟨S2 false xk, hSs _ _, hST _ _, ?_, ?_⟩
                · rw [HS2.out]
                  obtain ⟨-, -, -, k37, -, -, -, -, -, k47⟩ := HN.out
                  have n57 : g5 ≠ g7 := by have := HORD.out; omega
                  have n67 : g6 ≠ g7 := by have := HORD.out; omega
                  have nx7 : gx ≠ g7 := by have := HGX.out _ HXX.out.2.2.2.2; omega
                  exact ⟨y1.setCell (p := ⟨g7, 0, none⟩) (fun _ => HXX.out.2.2.2.2) _, y2.far (p := ⟨g7, 0, none⟩) (Ne.symm k37) _, y3.far (p := ⟨g7, 0, none⟩) (Ne.symm k47) _, y4.far (p := ⟨g7, 0, none⟩) n57 _, y5.far (p := ⟨g7, 0, none⟩) n67 _, y6.put 0 _, y7.far (p := ⟨g7, 0, none⟩) nx7 _⟩
                clear hKK KK f7 c7 y1 y2 y3 y4 y5 y6 y7 wx
                refine wpX_done (by kernel_rfl) (fun wx hx => ?_) _
                rw [HS2.out] at hx
                obtain ⟨y1, y2, y3, y4, y5, y6, y7⟩ := hx
                have hlvf : Lv X W wx := (HLV.out.trans HLW.out (fun g _ h => by subst h; exact HXX.out.2.2.1)).trans y1 (fun g _ h => h)
                refine ⟨X, hlvf, fun g h => .inl h, fun g h => by have := (HXI.out g).1 h; have := y6.lt; omega, xk, rfl, by rw [V3.out]; exact y2, by rw [V4.out]; exact y3, y4, ?_, y6, fun y h => by simp at h; rw [← h], HE9.out.trans hlvf (fun g _ h => h)⟩
                have : (pre ++ [(⟨xl, xk, xv, xr⟩ : Nod)]).isEmpty = false := by cases pre <;> rfl
                rw [this]; exact y5
              · have hlt : ((i : Int) < (N : Int)) := by omega
                have hnb : ∀ g, (Value.slice Av N cv).ownBlock = some g → ¬ g = g5 := fun g hg h => by have := (own_blk HO2.out hg).1; have := HG5L.out; omega
                have ho3 := own_lv HO2.out HLW.out hnb
                obtain ⟨A', c', hve, -, hln, hcell⟩ := own_kids ho3
                cases hve
                obtain ⟨x, hx⟩ : ∃ x, KL[i]? = some x := ⟨KL[i]'(by omega), List.getElem?_eq_getElem (by omega)⟩
                obtain ⟨gk, rfl, -, hgk, q0, q1, q2, q3⟩ := hcell i x hx
                have hkx := HSK.out x (List.mem_of_getElem? hx)
                have hgw : gx < wr.heap.size := Nat.lt_of_lt_of_le GX.out.lt HLW.out.size
                have hn5x : ¬ gx = g5 := by have := HGX.out _ HXX.out.2.2.1; omega
                have GX2 := GX.out.lv HLW.out hn5x
                have cx : ∀ o, (wr.alloc o).cell? ⟨gx, 0, none⟩ = some (.string xk) := fun o => (GX2.alloc o).cells4.1
                obtain ⟨zz, hzz⟩ : ∃ z, (z5 && kidsOk xk (KL.take i)) = z := ⟨_, rfl⟩
                have hb5 := HB5.out
                rw [hzz] at hb5
                have HZZ := Lib.hid hzz; have HBB := Lib.hid hb5; have HX := Lib.hid hx; have HKX := Lib.hid hkx; have HLN := Lib.hid hln
                have h5l : g5 < wr.heap.size := hb5.lt
                have f5 : ∀ o, (wr.alloc o).frozen? ⟨g5, 0, none⟩ = false := fun o => (HBB.out.alloc o).free 0
                have hNx : ∀ o, Blk (wr.alloc o) gx (nodeObj xk xv Al nl cl Ar nr cr) := fun o => GX2.alloc o
                clear hnb ho3 hcell hzz hb5 hx hkx hln hNx GX2 hn5x
                have hfin : ∀ v o, v = (zz && ahB xk x.k) → ∃ i' : Nat, Value.int .i64 ((i : Int) + 1) = .int .i64 i' ∧ i' ≤ N ∧ Lv (fun g => g = g5) w3 ((wr.setCell ⟨g5, 0, none⟩ (.bool (!v))).alloc o) ∧ Blk ((wr.setCell ⟨g5, 0, none⟩ (.bool (!v))).alloc o) g5 (bObj (!(z5 && kidsOk xk (KL.take i')))) := fun v o hv => by
                  refine ⟨i + 1, by go_num, by omega, (HLW.out.setCell (p := ⟨g5, 0, none⟩) (fun _ => rfl) _).alloc o, ?_⟩
                  rw [kids_take HX.out, ← Bool.and_assoc, HZZ.out, ← hv]
                  exact (HBB.out.put 0 _).alloc o
                have HFIN := Lib.hid hfin; clear hfin
                cases zz with
                | false =>
                  have c5 : ∀ o, (wr.alloc o).cell? ⟨g5, 0, none⟩ = some (.bool true) := fun o => (HBB.out.alloc o).cell 0
                  gi_wp2
                  refine ⟨trivial, ?_⟩
                  gi_wp2
                  go_roundw
                  case rel => exact HFIN.out false _ rfl
                  case measure => simp [intOf]; omega
                | true =>
                  have c5 : ∀ o, (wr.alloc o).cell? ⟨g5, 0, none⟩ = some (.bool false) := fun o => (HBB.out.alloc o).cell 0
                  gi_wp2
                  refine ⟨trivial, rfl, CallsIn.inRound l (callsIn_wide.2 ((ahead_any xk x.k _ hk HKX.out.1).mono ?_))⟩
                  rintro e w' ⟨rfl, rfl⟩
                  gi_wp2
                  go_roundw
                  case rel => exact HFIN.out (ahB xk x.k) _ (by rw [Bool.true_and])
                  case measure => simp [intOf]; omega
          | false =>
            obtain ⟨k34, k43, k36, k37, k3x, k4x, -, -, -, -⟩ := HN.out
            have c3 : W.cell? ⟨g3, 0, none⟩ = some (.bool true) := F3.out.cell 0
            have f3 := F3.out.free 0
            obtain ⟨d0, d1, d2, d3⟩ := EX.out.cells4
            have c4 : ∀ v, (W.setCell ⟨g3, 0, none⟩ v).cell? ⟨g4, 0, none⟩ = some (.bool false) := fun v => (F4.out.far (p := ⟨g3, 0, none⟩) k43 v).cell 0
            have c6 : ∀ v, (W.setCell ⟨g3, 0, none⟩ v).cell? ⟨g6, 0, none⟩ = some (.bool false) := fun v => (F6.out.far (p := ⟨g3, 0, none⟩) k36 v).cell 0
            have c7 : ∀ v, (W.setCell ⟨g3, 0, none⟩ v).cell? ⟨g7, 0, none⟩ = some (.string bf) := fun v => (E7.out.far (p := ⟨g3, 0, none⟩) k37 v).cell 0
            have d0' : ∀ v, (W.setCell ⟨g3, 0, none⟩ v).cell? ⟨gx, 0, none⟩ = some (.string xk) := fun v => (EX.out.far (p := ⟨g3, 0, none⟩) k3x v).cells4.1
            have f4 : ∀ v, (W.setCell ⟨g3, 0, none⟩ v).frozen? ⟨g4, 0, none⟩ = false := fun v => (F4.out.far (p := ⟨g3, 0, none⟩) k43 v).free 0
            clear k34 k43 k36 k37 k3x k4x
            gi_wp2
            refine ⟨trivial, ?_⟩
            gi_wp2

            clear c3 c4 c6 c7 d0 d0' d1 d2 d3 f3 f4
            generalize hwc : World.alloc (World.setCell (World.setCell W ⟨g3, 0, none⟩ _) ⟨g4, 0, none⟩ _) _ = wc
            have q3 : v3 = (true) := by rw [← V3.out, lgN_snoc, Z3.out]; rfl
            have q4 : v4 = (klt bf xk) := by
              rw [← V4.out, ascN_snoc _ H8.out Z6.out, Z4.out]; rfl
            obtain ⟨k34, k43, k36, k37, k3x, k4x, k35, k45, k46, k47⟩ := HN.out
            have hb3 : Blk wc g3 (bObj v3) := by rw [← hwc, q3]; exact ((F3.out.put 0 _).far (p := ⟨g4, 0, none⟩) k34 _).alloc _
            have hb4 : Blk wc g4 (bObj !v4) := by rw [← hwc, q4]; exact ((F4.out.far (p := ⟨g3, 0, none⟩) k43 _).put 0 _).alloc _
            have hb5 : Blk wc g5 (bObj !z5) := by rw [← hwc]; exact ((F5.out.far (p := ⟨g3, 0, none⟩) k35 _).far (p := ⟨g4, 0, none⟩) k45 _).alloc _
            have hb6 : Blk wc g6 (bObj false) := by rw [← hwc]; exact ((F6.out.far (p := ⟨g3, 0, none⟩) k36 _).far (p := ⟨g4, 0, none⟩) k46 _).alloc _
            have hb7 : Blk wc g7 (sObj bf) := by rw [← hwc]; exact ((E7.out.far (p := ⟨g3, 0, none⟩) k37 _).far (p := ⟨g4, 0, none⟩) k47 _).alloc _
            have hbx : Blk wc gx (nodeObj xk xv Al nl cl Ar nr cr) := by rw [← hwc]; exact ((EX.out.far (p := ⟨g3, 0, none⟩) k3x _).far (p := ⟨g4, 0, none⟩) k4x _).alloc _
            have hbo : Blk wc W.heap.size (objT Al Ar nl cl nr cr) := by rw [← hwc]; exact Blk.new _ _ (by simp)
            have hlv : Lv X W wc := by rw [← hwc]; exact (((Lv.refl _ _).setCell (p := ⟨g3, 0, none⟩) (fun _ => HXX.out.1) _).setCell (p := ⟨g4, 0, none⟩) (fun _ => HXX.out.2.1) _).alloc _
            clear hwc k34 k43 k36 k37 k3x k4x k35 k45 k46 k47 q3 q4
            have hlv0 : Lv X w0 wc := HE9.out.trans hlv (fun g _ h => h)
            have hEc : Ext w wc := (HKK.out _ hlv0).2.2
            obtain ⟨Kl, hkl, hn1, hcl, hsl, htl⟩ := BAt.kids (b := xl) (HL.out.ext hEc)
            obtain ⟨Kr, hkr, hm1, hcr, hsr, htr⟩ := BAt.kids (b := xr) (HR.out.ext hEc)
            refine ⟨trivial, rfl, CallsIn.inRound l (callsIn_wide.2 ((concat_two Al Ar nl cl nr cr W.heap.size wc hbo hcl hcr (by rw [flat_len kd_len, hkl]) (by rw [flat_len kd_len, hkr]) (one_kd _) (one_kd _) (by omega) (by omega)).mono ?_))⟩
            rintro e w3 ⟨hE3, v, rfl, ho⟩
            rw [← List.flatMap_append] at ho
            obtain ⟨KL, hKL⟩ : ∃ KL, Kl ++ Kr = KL := ⟨_, rfl⟩
            rw [hKL] at ho
            have hoff : (z5 && kidsOk xk KL) = (pre ++ [(⟨xl, xk, xv, xr⟩ : Nod)]).all okN := by
              have h1 : kidsOk xk (Kl ++ Kr) = (kidsOk xk Kl && kidsOk xk Kr) := by simp [kidsOk]
              rw [← hKL, List.all_append, Z5.out, h1, htl, htr]; simp [okN]
            have hsk : ∀ x ∈ KL, x.k.size ≤ Reach ∧ x.v.size ≤ Reach := by
              intro x hx; rw [← hKL] at hx
              rcases List.mem_append.1 hx with h | h
              · exact hsl x h
              · exact hsr x h
            obtain ⟨Av, cv, rfl, hcv, hKn, -⟩ := own_kids ho
            have hln0 : KL.length = nl + nr := hKn
            have hkn2 : nl + nr ≤ 2 := by omega
            have G3 := Lib.hid (hb3.ext hE3); have G4 := Lib.hid (hb4.ext hE3); have G5 := Lib.hid (hb5.ext hE3); have G6 := Lib.hid (hb6.ext hE3); have G7 := Lib.hid (hb7.ext hE3); have GX := Lib.hid (hbx.ext hE3)
            have HLV := Lib.hid (hlv.ext hE3); have ho2 := ho; have HO := Lib.hid ho; have HOFF := Lib.hid hoff; have HSK := Lib.hid hsk; have HKN := Lib.hid hKn
            have hWs : W.heap.size ≤ wc.heap.size := hlv.size
            have HWS := Lib.hid hWs
            have hg5l := hb5.lt
            have HG5L := Lib.hid hg5l; clear hg5l
            clear hb3 hb4 hb5 hb6 hb7 hbx hE3 hlv ho hoff hsk hkl hkr hcl hcr hsl hsr htl htr hKL hKn hn1 hm1 hbo hlv0 hEc hWs F3 F4 F5 F6 E7 EX
            generalize hN : nl + nr = N
            rw [hN] at hln0
            have HLN0 := Lib.hid hln0; clear hln0
            have hN2 : N ≤ 2 := by omega
            clear hkn2
            rw [hN] at ho2 hcv
            have HO2 := Lib.hid ho2; clear ho2 HO
            gi_wp2
            gi_loopw [47] (fun vi wr => ∃ i : Nat, vi = .int .i64 i ∧ i ≤ N ∧ Lv (fun g => g = g5) w3 wr ∧ Blk wr g5 (bObj (!(z5 && kidsOk xk (KL.take i))))) (fun vi _ => N - (intOf vi).toNat)
            case atStart => exact ⟨0, rfl, Nat.zero_le _, Lv.refl _ _, by simpa [kidsOk] using G5.out⟩
            case round =>
              obtain ⟨i, rfl, hi, hlw, hb5⟩ := hrel
              have HLW := Lib.hid hlw; have HB5 := Lib.hid hb5; clear hlw hb5
              by_cases hiN : i = N
              · have hnl : ¬ ((i : Int) < (N : Int)) := by omega
                have hn5x : ¬ gx = g5 := by have := HGX.out _ HXX.out.2.2.1; omega
                have ho := HORD.out
                have k3 := G3.out.lv HLW.out (by omega)
                have k4 := G4.out.lv HLW.out (by omega)
                have k6 := G6.out.lv HLW.out (by omega)
                have k7 := G7.out.lv HLW.out (by omega)
                have kx := GX.out.lv HLW.out hn5x
                have K3 := Lib.hid k3; have K4 := Lib.hid k4; have K6 := Lib.hid k6; have K7 := Lib.hid k7; have KX := Lib.hid kx
                clear k3 k4 k6 k7 kx hn5x ho
                gi_wp2
                obtain rfl := hiN
                have hKL : KL.take i = KL := List.take_of_length_le (by have := HLN0.out; omega)
                have hb5 := HB5.out
                rw [hKL, HOFF.out] at hb5
                have HB6 := Lib.hid hb5; clear hb5 hKL
                have n67 : g6 ≠ g7 := by have := HORD.out; omega
                have hT2 : ∀ wx, (Lv X wr wx ∧ Blk wx gx (nodeObj xk xv Al nl cl Ar nr cr)) → wx.cell? ⟨gx, 0, none⟩ = some (.string xk) := fun wx h => h.2.cells4.1
                have hLX : ∀ wx, Ext wr wx → Lv X wr wx := fun wx h => Lv.of_ext h
                refine wpIn_region_X (T := fun wx => wx.cell? ⟨gx, 0, none⟩ = some (.string xk)) (fun wx => Ext wr wx) (by kernel_rfl) (by kernel_rfl) (fun ⟨_, _, h⟩ => h) ((Ext.refl wr).drew) (wpX_takes (by kernel_rfl) (fun _ d _ _ _ h => by cases d <;> exact h) (Stab.ext wr) (fun wx h => (KX.out.ext h).cells4.1) (fuel := 2) [0,1] _ _ (by kernel_rfl) ?_)
                refine wpTk_want rfl (Eq.refl true) ⟨.pointer (some ⟨gx, 0, none⟩), fun wx hx => ?_, ?_⟩
                · go_simp
                  with_reducible exact gives_ok _ _ _
                simp only [Act.put, List.setIfInBounds_toArray, List.set_cons_zero, List.set_cons_succ]
                refine wpTk_want rfl (Eq.refl true) ⟨.string xk, fun wx hx => ?_, ?_⟩
                · go_simp
                  with_reducible exact gives_ok _ _ _
                simp only [Act.put, List.setIfInBounds_toArray, List.set_cons_zero, List.set_cons_succ]
                refine wpTk_nil ?_
                obtain ⟨S2, hS2⟩ : ∃ S2 : Bool → ByteArray → World → Prop, S2 = fun s6 s7 wy => Lv X wr wy ∧ Blk wy g3 (bObj v3) ∧ Blk wy g4 (bObj !v4) ∧ Blk wy g5 (bObj (!(pre ++ [(⟨xl, xk, xv, xr⟩ : Nod)]).all okN)) ∧ Blk wy g6 (bObj s6) ∧ Blk wy g7 (sObj s7) ∧ Blk wy gx (nodeObj xk xv Al nl cl Ar nr cr) := ⟨_, rfl⟩
                have hSs : ∀ s6 s7, Stab (S2 s6 s7) := fun s6 s7 w1 w2 e h => by
                  rw [hS2] at h ⊢
                  exact ⟨h.1.ext e, h.2.1.ext e, h.2.2.1.ext e, h.2.2.2.1.ext e, h.2.2.2.2.1.ext e, h.2.2.2.2.2.1.ext e, h.2.2.2.2.2.2.ext e⟩
                have hST : ∀ s6 s7 wy, S2 s6 s7 wy → wy.cell? ⟨gx, 0, none⟩ = some (.string xk) := fun s6 s7 wy h => by
                  rw [hS2] at h
                  exact h.2.2.2.2.2.2.cells4.1
                have HS2 := Lib.hid hS2; clear hS2 hT2 hLX
                refine wpX_one 2 (by kernel_rfl) rfl rfl (fun wx hx KK hKK => ?_)
                have f6 := (K6.out.ext hx).free 0
                have c6 : wx.cell? ⟨g6, 0, none⟩ = some (.bool false) := (K6.out.ext hx).cell 0
                go_simp
                refine hKK _ _ ⟨S2 false bf, hSs _ _, hST _ _, ?_, ?_⟩
                · rw [HS2.out]
                  obtain ⟨-, -, k36, -, -, -, -, -, k46, -⟩ := HN.out
                  have n56 : g5 ≠ g6 := by have := HORD.out; omega
                  have n76 : g7 ≠ g6 := by have := HORD.out; omega
                  have nx6 : gx ≠ g6 := by have := HGX.out _ HXX.out.2.2.2.1; omega
                  exact ⟨(Lv.of_ext hx).setCell (p := ⟨g6, 0, none⟩) (fun _ => HXX.out.2.2.2.1) _, (K3.out.ext hx).far (p := ⟨g6, 0, none⟩) (Ne.symm k36) _, (K4.out.ext hx).far (p := ⟨g6, 0, none⟩) (Ne.symm k46) _, (HB6.out.ext hx).far (p := ⟨g6, 0, none⟩) n56 _, (K6.out.ext hx).put 0 _, (K7.out.ext hx).far (p := ⟨g6, 0, none⟩) n76 _, (KX.out.ext hx).far (p := ⟨g6, 0, none⟩) nx6 _⟩
                clear hKK KK f6 c6 hx wx
                refine wpX_one 3 (by kernel_rfl) rfl rfl (fun wx hx KK hKK => ?_)
                rw [HS2.out] at hx
                obtain ⟨y1, y2, y3, y4, y5, y6, y7⟩ := hx
                have f7 := y6.free 0
                have c7 : wx.cell? ⟨g7, 0, none⟩ = some (.string bf) := y6.cell 0
                go_simp
                refine hKK _ _ ⟨S2 false xk, hSs _ _, hST _ _, ?_, ?_⟩
                · rw [HS2.out]
                  obtain ⟨-, -, -, k37, -, -, -, -, -, k47⟩ := HN.out
                  have n57 : g5 ≠ g7 := by have := HORD.out; omega
                  have n67 : g6 ≠ g7 := by have := HORD.out; omega
                  have nx7 : gx ≠ g7 := by have := HGX.out _ HXX.out.2.2.2.2; omega
                  exact ⟨y1.setCell (p := ⟨g7, 0, none⟩) (fun _ => HXX.out.2.2.2.2) _, y2.far (p := ⟨g7, 0, none⟩) (Ne.symm k37) _, y3.far (p := ⟨g7, 0, none⟩) (Ne.symm k47) _, y4.far (p := ⟨g7, 0, none⟩) n57 _, y5.far (p := ⟨g7, 0, none⟩) n67 _, y6.put 0 _, y7.far (p := ⟨g7, 0, none⟩) nx7 _⟩
                clear hKK KK f7 c7 y1 y2 y3 y4 y5 y6 y7 wx
                refine wpX_done (by kernel_rfl) (fun wx hx => ?_) _
                rw [HS2.out] at hx
                obtain ⟨y1, y2, y3, y4, y5, y6, y7⟩ := hx
                have hlvf : Lv X W wx := (HLV.out.trans HLW.out (fun g _ h => by subst h; exact HXX.out.2.2.1)).trans y1 (fun g _ h => h)
                refine ⟨X, hlvf, fun g h => .inl h, fun g h => by have := (HXI.out g).1 h; have := y6.lt; omega, xk, rfl, by rw [V3.out]; exact y2, by rw [V4.out]; exact y3, y4, ?_, y6, fun y h => by simp at h; rw [← h], HE9.out.trans hlvf (fun g _ h => h)⟩
                have : (pre ++ [(⟨xl, xk, xv, xr⟩ : Nod)]).isEmpty = false := by cases pre <;> rfl
                rw [this]; exact y5
              · have hlt : ((i : Int) < (N : Int)) := by omega
                have hnb : ∀ g, (Value.slice Av N cv).ownBlock = some g → ¬ g = g5 := fun g hg h => by have := (own_blk HO2.out hg).1; have := HG5L.out; omega
                have ho3 := own_lv HO2.out HLW.out hnb
                obtain ⟨A', c', hve, -, hln, hcell⟩ := own_kids ho3
                cases hve
                obtain ⟨x, hx⟩ : ∃ x, KL[i]? = some x := ⟨KL[i]'(by omega), List.getElem?_eq_getElem (by omega)⟩
                obtain ⟨gk, rfl, -, hgk, q0, q1, q2, q3⟩ := hcell i x hx
                have hkx := HSK.out x (List.mem_of_getElem? hx)
                have hgw : gx < wr.heap.size := Nat.lt_of_lt_of_le GX.out.lt HLW.out.size
                have hn5x : ¬ gx = g5 := by have := HGX.out _ HXX.out.2.2.1; omega
                have GX2 := GX.out.lv HLW.out hn5x
                have cx : ∀ o, (wr.alloc o).cell? ⟨gx, 0, none⟩ = some (.string xk) := fun o => (GX2.alloc o).cells4.1
                obtain ⟨zz, hzz⟩ : ∃ z, (z5 && kidsOk xk (KL.take i)) = z := ⟨_, rfl⟩
                have hb5 := HB5.out
                rw [hzz] at hb5
                have HZZ := Lib.hid hzz; have HBB := Lib.hid hb5; have HX := Lib.hid hx; have HKX := Lib.hid hkx; have HLN := Lib.hid hln
                have h5l : g5 < wr.heap.size := hb5.lt
                have f5 : ∀ o, (wr.alloc o).frozen? ⟨g5, 0, none⟩ = false := fun o => (HBB.out.alloc o).free 0
                have hNx : ∀ o, Blk (wr.alloc o) gx (nodeObj xk xv Al nl cl Ar nr cr) := fun o => GX2.alloc o
                clear hnb ho3 hcell hzz hb5 hx hkx hln hNx GX2 hn5x
                have hfin : ∀ v o, v = (zz && ahB xk x.k) → ∃ i' : Nat, Value.int .i64 ((i : Int) + 1) = .int .i64 i' ∧ i' ≤ N ∧ Lv (fun g => g = g5) w3 ((wr.setCell ⟨g5, 0, none⟩ (.bool (!v))).alloc o) ∧ Blk ((wr.setCell ⟨g5, 0, none⟩ (.bool (!v))).alloc o) g5 (bObj (!(z5 && kidsOk xk (KL.take i')))) := fun v o hv => by
                  refine ⟨i + 1, by go_num, by omega, (HLW.out.setCell (p := ⟨g5, 0, none⟩) (fun _ => rfl) _).alloc o, ?_⟩
                  rw [kids_take HX.out, ← Bool.and_assoc, HZZ.out, ← hv]
                  exact (HBB.out.put 0 _).alloc o
                have HFIN := Lib.hid hfin; clear hfin
                cases zz with
                | false =>
                  have c5 : ∀ o, (wr.alloc o).cell? ⟨g5, 0, none⟩ = some (.bool true) := fun o => (HBB.out.alloc o).cell 0
                  gi_wp2
                  refine ⟨trivial, ?_⟩
                  gi_wp2
                  go_roundw
                  case rel => exact HFIN.out false _ rfl
                  case measure => simp [intOf]; omega
                | true =>
                  have c5 : ∀ o, (wr.alloc o).cell? ⟨g5, 0, none⟩ = some (.bool false) := fun o => (HBB.out.alloc o).cell 0
                  gi_wp2
                  refine ⟨trivial, rfl, CallsIn.inRound l (callsIn_wide.2 ((ahead_any xk x.k _ hk HKX.out.1).mono ?_))⟩
                  rintro e w' ⟨rfl, rfl⟩
                  gi_wp2
                  go_roundw
                  case rel => exact HFIN.out (ahB xk x.k) _ (by rw [Bool.true_and])
                  case measure => simp [intOf]; omega
      | false =>
        cases z4 with
        | false =>
          obtain ⟨k34, k43, k36, k37, k3x, k4x, -, -, -, -⟩ := HN.out
          have c3 : W.cell? ⟨g3, 0, none⟩ = some (.bool false) := F3.out.cell 0
          have f3 := F3.out.free 0
          obtain ⟨d0, d1, d2, d3⟩ := EX.out.cells4
          have c4 : ∀ v, (W.setCell ⟨g3, 0, none⟩ v).cell? ⟨g4, 0, none⟩ = some (.bool true) := fun v => (F4.out.far (p := ⟨g3, 0, none⟩) k43 v).cell 0
          have c6 : ∀ v, (W.setCell ⟨g3, 0, none⟩ v).cell? ⟨g6, 0, none⟩ = some (.bool z6) := fun v => (F6.out.far (p := ⟨g3, 0, none⟩) k36 v).cell 0
          have c7 : ∀ v, (W.setCell ⟨g3, 0, none⟩ v).cell? ⟨g7, 0, none⟩ = some (.string bf) := fun v => (E7.out.far (p := ⟨g3, 0, none⟩) k37 v).cell 0
          have d0' : ∀ v, (W.setCell ⟨g3, 0, none⟩ v).cell? ⟨gx, 0, none⟩ = some (.string xk) := fun v => (EX.out.far (p := ⟨g3, 0, none⟩) k3x v).cells4.1
          have f4 : ∀ v, (W.setCell ⟨g3, 0, none⟩ v).frozen? ⟨g4, 0, none⟩ = false := fun v => (F4.out.far (p := ⟨g3, 0, none⟩) k43 v).free 0
          clear k34 k43 k36 k37 k3x k4x
          gi_wp2
          refine ⟨trivial, rfl, CallsIn.inRound l (callsIn_wide.2 ((long_any xk xv _).mono ?_))⟩
          rintro e w' ⟨rfl, rfl⟩
          gi_wp2

          clear c3 c4 c6 c7 d0 d0' d1 d2 d3 f3 f4
          generalize hwc : World.alloc (World.setCell (World.setCell W ⟨g3, 0, none⟩ _) ⟨g4, 0, none⟩ _) _ = wc
          have q3 : v3 = (lgB xk xv) := by rw [← V3.out, lgN_snoc, Z3.out]; rfl
          have q4 : v4 = (false) := by
            cases z6 with
            | true => exact absurd Z4.out (by rw [ascN_one0 Z6.out]; simp)
            | false => rw [← V4.out, ascN_snoc _ H8.out Z6.out, Z4.out]; rfl
          obtain ⟨k34, k43, k36, k37, k3x, k4x, k35, k45, k46, k47⟩ := HN.out
          have hb3 : Blk wc g3 (bObj v3) := by rw [← hwc, q3]; exact ((F3.out.put 0 _).far (p := ⟨g4, 0, none⟩) k34 _).alloc _
          have hb4 : Blk wc g4 (bObj !v4) := by rw [← hwc, q4]; exact ((F4.out.far (p := ⟨g3, 0, none⟩) k43 _).put 0 _).alloc _
          have hb5 : Blk wc g5 (bObj !z5) := by rw [← hwc]; exact ((F5.out.far (p := ⟨g3, 0, none⟩) k35 _).far (p := ⟨g4, 0, none⟩) k45 _).alloc _
          have hb6 : Blk wc g6 (bObj z6) := by rw [← hwc]; exact ((F6.out.far (p := ⟨g3, 0, none⟩) k36 _).far (p := ⟨g4, 0, none⟩) k46 _).alloc _
          have hb7 : Blk wc g7 (sObj bf) := by rw [← hwc]; exact ((E7.out.far (p := ⟨g3, 0, none⟩) k37 _).far (p := ⟨g4, 0, none⟩) k47 _).alloc _
          have hbx : Blk wc gx (nodeObj xk xv Al nl cl Ar nr cr) := by rw [← hwc]; exact ((EX.out.far (p := ⟨g3, 0, none⟩) k3x _).far (p := ⟨g4, 0, none⟩) k4x _).alloc _
          have hbo : Blk wc W.heap.size (objT Al Ar nl cl nr cr) := by rw [← hwc]; exact Blk.new _ _ (by simp)
          have hlv : Lv X W wc := by rw [← hwc]; exact (((Lv.refl _ _).setCell (p := ⟨g3, 0, none⟩) (fun _ => HXX.out.1) _).setCell (p := ⟨g4, 0, none⟩) (fun _ => HXX.out.2.1) _).alloc _
          clear hwc k34 k43 k36 k37 k3x k4x k35 k45 k46 k47 q3 q4
          have hlv0 : Lv X w0 wc := HE9.out.trans hlv (fun g _ h => h)
          have hEc : Ext w wc := (HKK.out _ hlv0).2.2
          obtain ⟨Kl, hkl, hn1, hcl, hsl, htl⟩ := BAt.kids (b := xl) (HL.out.ext hEc)
          obtain ⟨Kr, hkr, hm1, hcr, hsr, htr⟩ := BAt.kids (b := xr) (HR.out.ext hEc)
          refine ⟨trivial, rfl, CallsIn.inRound l (callsIn_wide.2 ((concat_two Al Ar nl cl nr cr W.heap.size wc hbo hcl hcr (by rw [flat_len kd_len, hkl]) (by rw [flat_len kd_len, hkr]) (one_kd _) (one_kd _) (by omega) (by omega)).mono ?_))⟩
          rintro e w3 ⟨hE3, v, rfl, ho⟩
          rw [← List.flatMap_append] at ho
          obtain ⟨KL, hKL⟩ : ∃ KL, Kl ++ Kr = KL := ⟨_, rfl⟩
          rw [hKL] at ho
          have hoff : (z5 && kidsOk xk KL) = (pre ++ [(⟨xl, xk, xv, xr⟩ : Nod)]).all okN := by
            have h1 : kidsOk xk (Kl ++ Kr) = (kidsOk xk Kl && kidsOk xk Kr) := by simp [kidsOk]
            rw [← hKL, List.all_append, Z5.out, h1, htl, htr]; simp [okN]
          have hsk : ∀ x ∈ KL, x.k.size ≤ Reach ∧ x.v.size ≤ Reach := by
            intro x hx; rw [← hKL] at hx
            rcases List.mem_append.1 hx with h | h
            · exact hsl x h
            · exact hsr x h
          obtain ⟨Av, cv, rfl, hcv, hKn, -⟩ := own_kids ho
          have hln0 : KL.length = nl + nr := hKn
          have hkn2 : nl + nr ≤ 2 := by omega
          have G3 := Lib.hid (hb3.ext hE3); have G4 := Lib.hid (hb4.ext hE3); have G5 := Lib.hid (hb5.ext hE3); have G6 := Lib.hid (hb6.ext hE3); have G7 := Lib.hid (hb7.ext hE3); have GX := Lib.hid (hbx.ext hE3)
          have HLV := Lib.hid (hlv.ext hE3); have ho2 := ho; have HO := Lib.hid ho; have HOFF := Lib.hid hoff; have HSK := Lib.hid hsk; have HKN := Lib.hid hKn
          have hWs : W.heap.size ≤ wc.heap.size := hlv.size
          have HWS := Lib.hid hWs
          have hg5l := hb5.lt
          have HG5L := Lib.hid hg5l; clear hg5l
          clear hb3 hb4 hb5 hb6 hb7 hbx hE3 hlv ho hoff hsk hkl hkr hcl hcr hsl hsr htl htr hKL hKn hn1 hm1 hbo hlv0 hEc hWs F3 F4 F5 F6 E7 EX
          generalize hN : nl + nr = N
          rw [hN] at hln0
          have HLN0 := Lib.hid hln0; clear hln0
          have hN2 : N ≤ 2 := by omega
          clear hkn2
          rw [hN] at ho2 hcv
          have HO2 := Lib.hid ho2; clear ho2 HO
          gi_wp2
          gi_loopw [47] (fun vi wr => ∃ i : Nat, vi = .int .i64 i ∧ i ≤ N ∧ Lv (fun g => g = g5) w3 wr ∧ Blk wr g5 (bObj (!(z5 && kidsOk xk (KL.take i))))) (fun vi _ => N - (intOf vi).toNat)
          case atStart => exact ⟨0, rfl, Nat.zero_le _, Lv.refl _ _, by simpa [kidsOk] using G5.out⟩
          case round =>
            obtain ⟨i, rfl, hi, hlw, hb5⟩ := hrel
            have HLW := Lib.hid hlw; have HB5 := Lib.hid hb5; clear hlw hb5
            by_cases hiN : i = N
            · have hnl : ¬ ((i : Int) < (N : Int)) := by omega
              have hn5x : ¬ gx = g5 := by have := HGX.out _ HXX.out.2.2.1; omega
              have ho := HORD.out
              have k3 := G3.out.lv HLW.out (by omega)
              have k4 := G4.out.lv HLW.out (by omega)
              have k6 := G6.out.lv HLW.out (by omega)
              have k7 := G7.out.lv HLW.out (by omega)
              have kx := GX.out.lv HLW.out hn5x
              have K3 := Lib.hid k3; have K4 := Lib.hid k4; have K6 := Lib.hid k6; have K7 := Lib.hid k7; have KX := Lib.hid kx
              clear k3 k4 k6 k7 kx hn5x ho
              gi_wp2
              obtain rfl := hiN
              have hKL : KL.take i = KL := List.take_of_length_le (by have := HLN0.out; omega)
              have hb5 := HB5.out
              rw [hKL, HOFF.out] at hb5
              have HB6 := Lib.hid hb5; clear hb5 hKL
              have n67 : g6 ≠ g7 := by have := HORD.out; omega
              have hT2 : ∀ wx, (Lv X wr wx ∧ Blk wx gx (nodeObj xk xv Al nl cl Ar nr cr)) → wx.cell? ⟨gx, 0, none⟩ = some (.string xk) := fun wx h => h.2.cells4.1
              have hLX : ∀ wx, Ext wr wx → Lv X wr wx := fun wx h => Lv.of_ext h
              refine wpIn_region_X (T := fun wx => wx.cell? ⟨gx, 0, none⟩ = some (.string xk)) (fun wx => Ext wr wx) (by kernel_rfl) (by kernel_rfl) (fun ⟨_, _, h⟩ => h) ((Ext.refl wr).drew) (wpX_takes (by kernel_rfl) (fun _ d _ _ _ h => by cases d <;> exact h) (Stab.ext wr) (fun wx h => (KX.out.ext h).cells4.1) (fuel := 2) [0,1] _ _ (by kernel_rfl) ?_)
              refine wpTk_want rfl (Eq.refl true) ⟨.pointer (some ⟨gx, 0, none⟩), fun wx hx => ?_, ?_⟩
              · go_simp
                with_reducible exact gives_ok _ _ _
              simp only [Act.put, List.setIfInBounds_toArray, List.set_cons_zero, List.set_cons_succ]
              refine wpTk_want rfl (Eq.refl true) ⟨.string xk, fun wx hx => ?_, ?_⟩
              · go_simp
                with_reducible exact gives_ok _ _ _
              simp only [Act.put, List.setIfInBounds_toArray, List.set_cons_zero, List.set_cons_succ]
              refine wpTk_nil ?_
              obtain ⟨S2, hS2⟩ : ∃ S2 : Bool → ByteArray → World → Prop, S2 = fun s6 s7 wy => Lv X wr wy ∧ Blk wy g3 (bObj v3) ∧ Blk wy g4 (bObj !v4) ∧ Blk wy g5 (bObj (!(pre ++ [(⟨xl, xk, xv, xr⟩ : Nod)]).all okN)) ∧ Blk wy g6 (bObj s6) ∧ Blk wy g7 (sObj s7) ∧ Blk wy gx (nodeObj xk xv Al nl cl Ar nr cr) := ⟨_, rfl⟩
              have hSs : ∀ s6 s7, Stab (S2 s6 s7) := fun s6 s7 w1 w2 e h => by
                rw [hS2] at h ⊢
                exact ⟨h.1.ext e, h.2.1.ext e, h.2.2.1.ext e, h.2.2.2.1.ext e, h.2.2.2.2.1.ext e, h.2.2.2.2.2.1.ext e, h.2.2.2.2.2.2.ext e⟩
              have hST : ∀ s6 s7 wy, S2 s6 s7 wy → wy.cell? ⟨gx, 0, none⟩ = some (.string xk) := fun s6 s7 wy h => by
                rw [hS2] at h
                exact h.2.2.2.2.2.2.cells4.1
              have HS2 := Lib.hid hS2; clear hS2 hT2 hLX
              refine wpX_one 2 (by kernel_rfl) rfl rfl (fun wx hx KK hKK => ?_)
              have f6 := (K6.out.ext hx).free 0
              have c6 : wx.cell? ⟨g6, 0, none⟩ = some (.bool z6) := (K6.out.ext hx).cell 0
              go_simp
              refine hKK _ _ ⟨S2 false bf, hSs _ _, hST _ _, ?_, ?_⟩
              · rw [HS2.out]
                obtain ⟨-, -, k36, -, -, -, -, -, k46, -⟩ := HN.out
                have n56 : g5 ≠ g6 := by have := HORD.out; omega
                have n76 : g7 ≠ g6 := by have := HORD.out; omega
                have nx6 : gx ≠ g6 := by have := HGX.out _ HXX.out.2.2.2.1; omega
                exact ⟨(Lv.of_ext hx).setCell (p := ⟨g6, 0, none⟩) (fun _ => HXX.out.2.2.2.1) _, (K3.out.ext hx).far (p := ⟨g6, 0, none⟩) (Ne.symm k36) _, (K4.out.ext hx).far (p := ⟨g6, 0, none⟩) (Ne.symm k46) _, (HB6.out.ext hx).far (p := ⟨g6, 0, none⟩) n56 _, (K6.out.ext hx).put 0 _, (K7.out.ext hx).far (p := ⟨g6, 0, none⟩) n76 _, (KX.out.ext hx).far (p := ⟨g6, 0, none⟩) nx6 _⟩
              clear hKK KK f6 c6 hx wx
              refine wpX_one 3 (by kernel_rfl) rfl rfl (fun wx hx KK hKK => ?_)
              rw [HS2.out] at hx
              obtain ⟨y1, y2, y3, y4, y5, y6, y7⟩ := hx
              have f7 := y6.free 0
              have c7 : wx.cell? ⟨g7, 0, none⟩ = some (.string bf) := y6.cell 0
              go_simp
              refine hKK _ _ ⟨S2 false xk, hSs _ _, hST _ _, ?_, ?_⟩
              · rw [HS2.out]
                obtain ⟨-, -, -, k37, -, -, -, -, -, k47⟩ := HN.out
                have n57 : g5 ≠ g7 := by have := HORD.out; omega
                have n67 : g6 ≠ g7 := by have := HORD.out; omega
                have nx7 : gx ≠ g7 := by have := HGX.out _ HXX.out.2.2.2.2; omega
                exact ⟨y1.setCell (p := ⟨g7, 0, none⟩) (fun _ => HXX.out.2.2.2.2) _, y2.far (p := ⟨g7, 0, none⟩) (Ne.symm k37) _, y3.far (p := ⟨g7, 0, none⟩) (Ne.symm k47) _, y4.far (p := ⟨g7, 0, none⟩) n57 _, y5.far (p := ⟨g7, 0, none⟩) n67 _, y6.put 0 _, y7.far (p := ⟨g7, 0, none⟩) nx7 _⟩
              clear hKK KK f7 c7 y1 y2 y3 y4 y5 y6 y7 wx
              refine wpX_done (by kernel_rfl) (fun wx hx => ?_) _
              rw [HS2.out] at hx
              obtain ⟨y1, y2, y3, y4, y5, y6, y7⟩ := hx
              have hlvf : Lv X W wx := (HLV.out.trans HLW.out (fun g _ h => by subst h; exact HXX.out.2.2.1)).trans y1 (fun g _ h => h)
              refine ⟨X, hlvf, fun g h => .inl h, fun g h => by have := (HXI.out g).1 h; have := y6.lt; omega, xk, rfl, by rw [V3.out]; exact y2, by rw [V4.out]; exact y3, y4, ?_, y6, fun y h => by simp at h; rw [← h], HE9.out.trans hlvf (fun g _ h => h)⟩
              have : (pre ++ [(⟨xl, xk, xv, xr⟩ : Nod)]).isEmpty = false := by cases pre <;> rfl
              rw [this]; exact y5
            · have hlt : ((i : Int) < (N : Int)) := by omega
              have hnb : ∀ g, (Value.slice Av N cv).ownBlock = some g → ¬ g = g5 := fun g hg h => by have := (own_blk HO2.out hg).1; have := HG5L.out; omega
              have ho3 := own_lv HO2.out HLW.out hnb
              obtain ⟨A', c', hve, -, hln, hcell⟩ := own_kids ho3
              cases hve
              obtain ⟨x, hx⟩ : ∃ x, KL[i]? = some x := ⟨KL[i]'(by omega), List.getElem?_eq_getElem (by omega)⟩
              obtain ⟨gk, rfl, -, hgk, q0, q1, q2, q3⟩ := hcell i x hx
              have hkx := HSK.out x (List.mem_of_getElem? hx)
              have hgw : gx < wr.heap.size := Nat.lt_of_lt_of_le GX.out.lt HLW.out.size
              have hn5x : ¬ gx = g5 := by have := HGX.out _ HXX.out.2.2.1; omega
              have GX2 := GX.out.lv HLW.out hn5x
              have cx : ∀ o, (wr.alloc o).cell? ⟨gx, 0, none⟩ = some (.string xk) := fun o => (GX2.alloc o).cells4.1
              obtain ⟨zz, hzz⟩ : ∃ z, (z5 && kidsOk xk (KL.take i)) = z := ⟨_, rfl⟩
              have hb5 := HB5.out
              rw [hzz] at hb5
              have HZZ := Lib.hid hzz; have HBB := Lib.hid hb5; have HX := Lib.hid hx; have HKX := Lib.hid hkx; have HLN := Lib.hid hln
              have h5l : g5 < wr.heap.size := hb5.lt
              have f5 : ∀ o, (wr.alloc o).frozen? ⟨g5, 0, none⟩ = false := fun o => (HBB.out.alloc o).free 0
              have hNx : ∀ o, Blk (wr.alloc o) gx (nodeObj xk xv Al nl cl Ar nr cr) := fun o => GX2.alloc o
              clear hnb ho3 hcell hzz hb5 hx hkx hln hNx GX2 hn5x
              have hfin : ∀ v o, v = (zz && ahB xk x.k) → ∃ i' : Nat, Value.int .i64 ((i : Int) + 1) = .int .i64 i' ∧ i' ≤ N ∧ Lv (fun g => g = g5) w3 ((wr.setCell ⟨g5, 0, none⟩ (.bool (!v))).alloc o) ∧ Blk ((wr.setCell ⟨g5, 0, none⟩ (.bool (!v))).alloc o) g5 (bObj (!(z5 && kidsOk xk (KL.take i')))) := fun v o hv => by
                refine ⟨i + 1, by go_num, by omega, (HLW.out.setCell (p := ⟨g5, 0, none⟩) (fun _ => rfl) _).alloc o, ?_⟩
                rw [kids_take HX.out, ← Bool.and_assoc, HZZ.out, ← hv]
                exact (HBB.out.put 0 _).alloc o
              have HFIN := Lib.hid hfin; clear hfin
              cases zz with
              | false =>
                have c5 : ∀ o, (wr.alloc o).cell? ⟨g5, 0, none⟩ = some (.bool true) := fun o => (HBB.out.alloc o).cell 0
                gi_wp2
                refine ⟨trivial, ?_⟩
                gi_wp2
                go_roundw
                case rel => exact HFIN.out false _ rfl
                case measure => simp [intOf]; omega
              | true =>
                have c5 : ∀ o, (wr.alloc o).cell? ⟨g5, 0, none⟩ = some (.bool false) := fun o => (HBB.out.alloc o).cell 0
                gi_wp2
                refine ⟨trivial, rfl, CallsIn.inRound l (callsIn_wide.2 ((ahead_any xk x.k _ hk HKX.out.1).mono ?_))⟩
                rintro e w' ⟨rfl, rfl⟩
                gi_wp2
                go_roundw
                case rel => exact HFIN.out (ahB xk x.k) _ (by rw [Bool.true_and])
                case measure => simp [intOf]; omega
        | true =>
          cases z6 with
          | true =>
            obtain ⟨k34, k43, k36, k37, k3x, k4x, -, -, -, -⟩ := HN.out
            have c3 : W.cell? ⟨g3, 0, none⟩ = some (.bool false) := F3.out.cell 0
            have f3 := F3.out.free 0
            obtain ⟨d0, d1, d2, d3⟩ := EX.out.cells4
            have c4 : ∀ v, (W.setCell ⟨g3, 0, none⟩ v).cell? ⟨g4, 0, none⟩ = some (.bool false) := fun v => (F4.out.far (p := ⟨g3, 0, none⟩) k43 v).cell 0
            have c6 : ∀ v, (W.setCell ⟨g3, 0, none⟩ v).cell? ⟨g6, 0, none⟩ = some (.bool true) := fun v => (F6.out.far (p := ⟨g3, 0, none⟩) k36 v).cell 0
            have c7 : ∀ v, (W.setCell ⟨g3, 0, none⟩ v).cell? ⟨g7, 0, none⟩ = some (.string bf) := fun v => (E7.out.far (p := ⟨g3, 0, none⟩) k37 v).cell 0
            have d0' : ∀ v, (W.setCell ⟨g3, 0, none⟩ v).cell? ⟨gx, 0, none⟩ = some (.string xk) := fun v => (EX.out.far (p := ⟨g3, 0, none⟩) k3x v).cells4.1
            have f4 : ∀ v, (W.setCell ⟨g3, 0, none⟩ v).frozen? ⟨g4, 0, none⟩ = false := fun v => (F4.out.far (p := ⟨g3, 0, none⟩) k43 v).free 0
            clear k34 k43 k36 k37 k3x k4x
            gi_wp2
            refine ⟨trivial, rfl, CallsIn.inRound l (callsIn_wide.2 ((long_any xk xv _).mono ?_))⟩
            rintro e w' ⟨rfl, rfl⟩
            gi_wp2

            clear c3 c4 c6 c7 d0 d0' d1 d2 d3 f3 f4
            generalize hwc : World.alloc (World.setCell (World.setCell W ⟨g3, 0, none⟩ _) ⟨g4, 0, none⟩ _) _ = wc
            have q3 : v3 = (lgB xk xv) := by rw [← V3.out, lgN_snoc, Z3.out]; rfl
            have q4 : v4 = (true) := by
              rw [← V4.out, ascN_one _ Z6.out]
            obtain ⟨k34, k43, k36, k37, k3x, k4x, k35, k45, k46, k47⟩ := HN.out
            have hb3 : Blk wc g3 (bObj v3) := by rw [← hwc, q3]; exact ((F3.out.put 0 _).far (p := ⟨g4, 0, none⟩) k34 _).alloc _
            have hb4 : Blk wc g4 (bObj !v4) := by rw [← hwc, q4]; exact ((F4.out.far (p := ⟨g3, 0, none⟩) k43 _).put 0 _).alloc _
            have hb5 : Blk wc g5 (bObj !z5) := by rw [← hwc]; exact ((F5.out.far (p := ⟨g3, 0, none⟩) k35 _).far (p := ⟨g4, 0, none⟩) k45 _).alloc _
            have hb6 : Blk wc g6 (bObj true) := by rw [← hwc]; exact ((F6.out.far (p := ⟨g3, 0, none⟩) k36 _).far (p := ⟨g4, 0, none⟩) k46 _).alloc _
            have hb7 : Blk wc g7 (sObj bf) := by rw [← hwc]; exact ((E7.out.far (p := ⟨g3, 0, none⟩) k37 _).far (p := ⟨g4, 0, none⟩) k47 _).alloc _
            have hbx : Blk wc gx (nodeObj xk xv Al nl cl Ar nr cr) := by rw [← hwc]; exact ((EX.out.far (p := ⟨g3, 0, none⟩) k3x _).far (p := ⟨g4, 0, none⟩) k4x _).alloc _
            have hbo : Blk wc W.heap.size (objT Al Ar nl cl nr cr) := by rw [← hwc]; exact Blk.new _ _ (by simp)
            have hlv : Lv X W wc := by rw [← hwc]; exact (((Lv.refl _ _).setCell (p := ⟨g3, 0, none⟩) (fun _ => HXX.out.1) _).setCell (p := ⟨g4, 0, none⟩) (fun _ => HXX.out.2.1) _).alloc _
            clear hwc k34 k43 k36 k37 k3x k4x k35 k45 k46 k47 q3 q4
            have hlv0 : Lv X w0 wc := HE9.out.trans hlv (fun g _ h => h)
            have hEc : Ext w wc := (HKK.out _ hlv0).2.2
            obtain ⟨Kl, hkl, hn1, hcl, hsl, htl⟩ := BAt.kids (b := xl) (HL.out.ext hEc)
            obtain ⟨Kr, hkr, hm1, hcr, hsr, htr⟩ := BAt.kids (b := xr) (HR.out.ext hEc)
            refine ⟨trivial, rfl, CallsIn.inRound l (callsIn_wide.2 ((concat_two Al Ar nl cl nr cr W.heap.size wc hbo hcl hcr (by rw [flat_len kd_len, hkl]) (by rw [flat_len kd_len, hkr]) (one_kd _) (one_kd _) (by omega) (by omega)).mono ?_))⟩
            rintro e w3 ⟨hE3, v, rfl, ho⟩
            rw [← List.flatMap_append] at ho
            obtain ⟨KL, hKL⟩ : ∃ KL, Kl ++ Kr = KL := ⟨_, rfl⟩
            rw [hKL] at ho
            have hoff : (z5 && kidsOk xk KL) = (pre ++ [(⟨xl, xk, xv, xr⟩ : Nod)]).all okN := by
              have h1 : kidsOk xk (Kl ++ Kr) = (kidsOk xk Kl && kidsOk xk Kr) := by simp [kidsOk]
              rw [← hKL, List.all_append, Z5.out, h1, htl, htr]; simp [okN]
            have hsk : ∀ x ∈ KL, x.k.size ≤ Reach ∧ x.v.size ≤ Reach := by
              intro x hx; rw [← hKL] at hx
              rcases List.mem_append.1 hx with h | h
              · exact hsl x h
              · exact hsr x h
            obtain ⟨Av, cv, rfl, hcv, hKn, -⟩ := own_kids ho
            have hln0 : KL.length = nl + nr := hKn
            have hkn2 : nl + nr ≤ 2 := by omega
            have G3 := Lib.hid (hb3.ext hE3); have G4 := Lib.hid (hb4.ext hE3); have G5 := Lib.hid (hb5.ext hE3); have G6 := Lib.hid (hb6.ext hE3); have G7 := Lib.hid (hb7.ext hE3); have GX := Lib.hid (hbx.ext hE3)
            have HLV := Lib.hid (hlv.ext hE3); have ho2 := ho; have HO := Lib.hid ho; have HOFF := Lib.hid hoff; have HSK := Lib.hid hsk; have HKN := Lib.hid hKn
            have hWs : W.heap.size ≤ wc.heap.size := hlv.size
            have HWS := Lib.hid hWs
            have hg5l := hb5.lt
            have HG5L := Lib.hid hg5l; clear hg5l
            clear hb3 hb4 hb5 hb6 hb7 hbx hE3 hlv ho hoff hsk hkl hkr hcl hcr hsl hsr htl htr hKL hKn hn1 hm1 hbo hlv0 hEc hWs F3 F4 F5 F6 E7 EX
            generalize hN : nl + nr = N
            rw [hN] at hln0
            have HLN0 := Lib.hid hln0; clear hln0
            have hN2 : N ≤ 2 := by omega
            clear hkn2
            rw [hN] at ho2 hcv
            have HO2 := Lib.hid ho2; clear ho2 HO
            gi_wp2
            gi_loopw [47] (fun vi wr => ∃ i : Nat, vi = .int .i64 i ∧ i ≤ N ∧ Lv (fun g => g = g5) w3 wr ∧ Blk wr g5 (bObj (!(z5 && kidsOk xk (KL.take i))))) (fun vi _ => N - (intOf vi).toNat)
            case atStart => exact ⟨0, rfl, Nat.zero_le _, Lv.refl _ _, by simpa [kidsOk] using G5.out⟩
            case round =>
              obtain ⟨i, rfl, hi, hlw, hb5⟩ := hrel
              have HLW := Lib.hid hlw; have HB5 := Lib.hid hb5; clear hlw hb5
              by_cases hiN : i = N
              · have hnl : ¬ ((i : Int) < (N : Int)) := by omega
                have hn5x : ¬ gx = g5 := by have := HGX.out _ HXX.out.2.2.1; omega
                have ho := HORD.out
                have k3 := G3.out.lv HLW.out (by omega)
                have k4 := G4.out.lv HLW.out (by omega)
                have k6 := G6.out.lv HLW.out (by omega)
                have k7 := G7.out.lv HLW.out (by omega)
                have kx := GX.out.lv HLW.out hn5x
                have K3 := Lib.hid k3; have K4 := Lib.hid k4; have K6 := Lib.hid k6; have K7 := Lib.hid k7; have KX := Lib.hid kx
                clear k3 k4 k6 k7 kx hn5x ho
                gi_wp2
                obtain rfl := hiN
                have hKL : KL.take i = KL := List.take_of_length_le (by have := HLN0.out; omega)
                have hb5 := HB5.out
                rw [hKL, HOFF.out] at hb5
                have HB6 := Lib.hid hb5; clear hb5 hKL
                have n67 : g6 ≠ g7 := by have := HORD.out; omega
                have hT2 : ∀ wx, (Lv X wr wx ∧ Blk wx gx (nodeObj xk xv Al nl cl Ar nr cr)) → wx.cell? ⟨gx, 0, none⟩ = some (.string xk) := fun wx h => h.2.cells4.1
                have hLX : ∀ wx, Ext wr wx → Lv X wr wx := fun wx h => Lv.of_ext h
                refine wpIn_region_X (T := fun wx => wx.cell? ⟨gx, 0, none⟩ = some (.string xk)) (fun wx => Ext wr wx) (by kernel_rfl) (by kernel_rfl) (fun ⟨_, _, h⟩ => h) ((Ext.refl wr).drew) (wpX_takes (by kernel_rfl) (fun _ d _ _ _ h => by cases d <;> exact h) (Stab.ext wr) (fun wx h => (KX.out.ext h).cells4.1) (fuel := 2) [0,1] _ _ (by kernel_rfl) ?_)
                refine wpTk_want rfl (Eq.refl true) ⟨.pointer (some ⟨gx, 0, none⟩), fun wx hx => ?_, ?_⟩
                · go_simp
                  with_reducible exact gives_ok _ _ _
                simp only [Act.put, List.setIfInBounds_toArray, List.set_cons_zero, List.set_cons_succ]
                refine wpTk_want rfl (Eq.refl true) ⟨.string xk, fun wx hx => ?_, ?_⟩
                · go_simp
                  with_reducible exact gives_ok _ _ _
                simp only [Act.put, List.setIfInBounds_toArray, List.set_cons_zero, List.set_cons_succ]
                refine wpTk_nil ?_
                obtain ⟨S2, hS2⟩ : ∃ S2 : Bool → ByteArray → World → Prop, S2 = fun s6 s7 wy => Lv X wr wy ∧ Blk wy g3 (bObj v3) ∧ Blk wy g4 (bObj !v4) ∧ Blk wy g5 (bObj (!(pre ++ [(⟨xl, xk, xv, xr⟩ : Nod)]).all okN)) ∧ Blk wy g6 (bObj s6) ∧ Blk wy g7 (sObj s7) ∧ Blk wy gx (nodeObj xk xv Al nl cl Ar nr cr) := ⟨_, rfl⟩
                have hSs : ∀ s6 s7, Stab (S2 s6 s7) := fun s6 s7 w1 w2 e h => by
                  rw [hS2] at h ⊢
                  exact ⟨h.1.ext e, h.2.1.ext e, h.2.2.1.ext e, h.2.2.2.1.ext e, h.2.2.2.2.1.ext e, h.2.2.2.2.2.1.ext e, h.2.2.2.2.2.2.ext e⟩
                have hST : ∀ s6 s7 wy, S2 s6 s7 wy → wy.cell? ⟨gx, 0, none⟩ = some (.string xk) := fun s6 s7 wy h => by
                  rw [hS2] at h
                  exact h.2.2.2.2.2.2.cells4.1
                have HS2 := Lib.hid hS2; clear hS2 hT2 hLX
                refine wpX_one 2 (by kernel_rfl) rfl rfl (fun wx hx KK hKK => ?_)
                have f6 := (K6.out.ext hx).free 0
                have c6 : wx.cell? ⟨g6, 0, none⟩ = some (.bool true) := (K6.out.ext hx).cell 0
                go_simp
                refine hKK _ _ ⟨S2 false bf, hSs _ _, hST _ _, ?_, ?_⟩
                · rw [HS2.out]
                  obtain ⟨-, -, k36, -, -, -, -, -, k46, -⟩ := HN.out
                  have n56 : g5 ≠ g6 := by have := HORD.out; omega
                  have n76 : g7 ≠ g6 := by have := HORD.out; omega
                  have nx6 : gx ≠ g6 := by have := HGX.out _ HXX.out.2.2.2.1; omega
                  exact ⟨(Lv.of_ext hx).setCell (p := ⟨g6, 0, none⟩) (fun _ => HXX.out.2.2.2.1) _, (K3.out.ext hx).far (p := ⟨g6, 0, none⟩) (Ne.symm k36) _, (K4.out.ext hx).far (p := ⟨g6, 0, none⟩) (Ne.symm k46) _, (HB6.out.ext hx).far (p := ⟨g6, 0, none⟩) n56 _, (K6.out.ext hx).put 0 _, (K7.out.ext hx).far (p := ⟨g6, 0, none⟩) n76 _, (KX.out.ext hx).far (p := ⟨g6, 0, none⟩) nx6 _⟩
                clear hKK KK f6 c6 hx wx
                refine wpX_one 3 (by kernel_rfl) rfl rfl (fun wx hx KK hKK => ?_)
                rw [HS2.out] at hx
                obtain ⟨y1, y2, y3, y4, y5, y6, y7⟩ := hx
                have f7 := y6.free 0
                have c7 : wx.cell? ⟨g7, 0, none⟩ = some (.string bf) := y6.cell 0
                go_simp
                refine hKK _ _ ⟨S2 false xk, hSs _ _, hST _ _, ?_, ?_⟩
                · rw [HS2.out]
                  obtain ⟨-, -, -, k37, -, -, -, -, -, k47⟩ := HN.out
                  have n57 : g5 ≠ g7 := by have := HORD.out; omega
                  have n67 : g6 ≠ g7 := by have := HORD.out; omega
                  have nx7 : gx ≠ g7 := by have := HGX.out _ HXX.out.2.2.2.2; omega
                  exact ⟨y1.setCell (p := ⟨g7, 0, none⟩) (fun _ => HXX.out.2.2.2.2) _, y2.far (p := ⟨g7, 0, none⟩) (Ne.symm k37) _, y3.far (p := ⟨g7, 0, none⟩) (Ne.symm k47) _, y4.far (p := ⟨g7, 0, none⟩) n57 _, y5.far (p := ⟨g7, 0, none⟩) n67 _, y6.put 0 _, y7.far (p := ⟨g7, 0, none⟩) nx7 _⟩
                clear hKK KK f7 c7 y1 y2 y3 y4 y5 y6 y7 wx
                refine wpX_done (by kernel_rfl) (fun wx hx => ?_) _
                rw [HS2.out] at hx
                obtain ⟨y1, y2, y3, y4, y5, y6, y7⟩ := hx
                have hlvf : Lv X W wx := (HLV.out.trans HLW.out (fun g _ h => by subst h; exact HXX.out.2.2.1)).trans y1 (fun g _ h => h)
                refine ⟨X, hlvf, fun g h => .inl h, fun g h => by have := (HXI.out g).1 h; have := y6.lt; omega, xk, rfl, by rw [V3.out]; exact y2, by rw [V4.out]; exact y3, y4, ?_, y6, fun y h => by simp at h; rw [← h], HE9.out.trans hlvf (fun g _ h => h)⟩
                have : (pre ++ [(⟨xl, xk, xv, xr⟩ : Nod)]).isEmpty = false := by cases pre <;> rfl
                rw [this]; exact y5
              · have hlt : ((i : Int) < (N : Int)) := by omega
                have hnb : ∀ g, (Value.slice Av N cv).ownBlock = some g → ¬ g = g5 := fun g hg h => by have := (own_blk HO2.out hg).1; have := HG5L.out; omega
                have ho3 := own_lv HO2.out HLW.out hnb
                obtain ⟨A', c', hve, -, hln, hcell⟩ := own_kids ho3
                cases hve
                obtain ⟨x, hx⟩ : ∃ x, KL[i]? = some x := ⟨KL[i]'(by omega), List.getElem?_eq_getElem (by omega)⟩
                obtain ⟨gk, rfl, -, hgk, q0, q1, q2, q3⟩ := hcell i x hx
                have hkx := HSK.out x (List.mem_of_getElem? hx)
                have hgw : gx < wr.heap.size := Nat.lt_of_lt_of_le GX.out.lt HLW.out.size
                have hn5x : ¬ gx = g5 := by have := HGX.out _ HXX.out.2.2.1; omega
                have GX2 := GX.out.lv HLW.out hn5x
                have cx : ∀ o, (wr.alloc o).cell? ⟨gx, 0, none⟩ = some (.string xk) := fun o => (GX2.alloc o).cells4.1
                obtain ⟨zz, hzz⟩ : ∃ z, (z5 && kidsOk xk (KL.take i)) = z := ⟨_, rfl⟩
                have hb5 := HB5.out
                rw [hzz] at hb5
                have HZZ := Lib.hid hzz; have HBB := Lib.hid hb5; have HX := Lib.hid hx; have HKX := Lib.hid hkx; have HLN := Lib.hid hln
                have h5l : g5 < wr.heap.size := hb5.lt
                have f5 : ∀ o, (wr.alloc o).frozen? ⟨g5, 0, none⟩ = false := fun o => (HBB.out.alloc o).free 0
                have hNx : ∀ o, Blk (wr.alloc o) gx (nodeObj xk xv Al nl cl Ar nr cr) := fun o => GX2.alloc o
                clear hnb ho3 hcell hzz hb5 hx hkx hln hNx GX2 hn5x
                have hfin : ∀ v o, v = (zz && ahB xk x.k) → ∃ i' : Nat, Value.int .i64 ((i : Int) + 1) = .int .i64 i' ∧ i' ≤ N ∧ Lv (fun g => g = g5) w3 ((wr.setCell ⟨g5, 0, none⟩ (.bool (!v))).alloc o) ∧ Blk ((wr.setCell ⟨g5, 0, none⟩ (.bool (!v))).alloc o) g5 (bObj (!(z5 && kidsOk xk (KL.take i')))) := fun v o hv => by
                  refine ⟨i + 1, by go_num, by omega, (HLW.out.setCell (p := ⟨g5, 0, none⟩) (fun _ => rfl) _).alloc o, ?_⟩
                  rw [kids_take HX.out, ← Bool.and_assoc, HZZ.out, ← hv]
                  exact (HBB.out.put 0 _).alloc o
                have HFIN := Lib.hid hfin; clear hfin
                cases zz with
                | false =>
                  have c5 : ∀ o, (wr.alloc o).cell? ⟨g5, 0, none⟩ = some (.bool true) := fun o => (HBB.out.alloc o).cell 0
                  gi_wp2
                  refine ⟨trivial, ?_⟩
                  gi_wp2
                  go_roundw
                  case rel => exact HFIN.out false _ rfl
                  case measure => simp [intOf]; omega
                | true =>
                  have c5 : ∀ o, (wr.alloc o).cell? ⟨g5, 0, none⟩ = some (.bool false) := fun o => (HBB.out.alloc o).cell 0
                  gi_wp2
                  refine ⟨trivial, rfl, CallsIn.inRound l (callsIn_wide.2 ((ahead_any xk x.k _ hk HKX.out.1).mono ?_))⟩
                  rintro e w' ⟨rfl, rfl⟩
                  gi_wp2
                  go_roundw
                  case rel => exact HFIN.out (ahB xk x.k) _ (by rw [Bool.true_and])
                  case measure => simp [intOf]; omega
          | false =>
            obtain ⟨k34, k43, k36, k37, k3x, k4x, -, -, -, -⟩ := HN.out
            have c3 : W.cell? ⟨g3, 0, none⟩ = some (.bool false) := F3.out.cell 0
            have f3 := F3.out.free 0
            obtain ⟨d0, d1, d2, d3⟩ := EX.out.cells4
            have c4 : ∀ v, (W.setCell ⟨g3, 0, none⟩ v).cell? ⟨g4, 0, none⟩ = some (.bool false) := fun v => (F4.out.far (p := ⟨g3, 0, none⟩) k43 v).cell 0
            have c6 : ∀ v, (W.setCell ⟨g3, 0, none⟩ v).cell? ⟨g6, 0, none⟩ = some (.bool false) := fun v => (F6.out.far (p := ⟨g3, 0, none⟩) k36 v).cell 0
            have c7 : ∀ v, (W.setCell ⟨g3, 0, none⟩ v).cell? ⟨g7, 0, none⟩ = some (.string bf) := fun v => (E7.out.far (p := ⟨g3, 0, none⟩) k37 v).cell 0
            have d0' : ∀ v, (W.setCell ⟨g3, 0, none⟩ v).cell? ⟨gx, 0, none⟩ = some (.string xk) := fun v => (EX.out.far (p := ⟨g3, 0, none⟩) k3x v).cells4.1
            have f4 : ∀ v, (W.setCell ⟨g3, 0, none⟩ v).frozen? ⟨g4, 0, none⟩ = false := fun v => (F4.out.far (p := ⟨g3, 0, none⟩) k43 v).free 0
            clear k34 k43 k36 k37 k3x k4x
            gi_wp2
            refine ⟨trivial, rfl, CallsIn.inRound l (callsIn_wide.2 ((long_any xk xv _).mono ?_))⟩
            rintro e w' ⟨rfl, rfl⟩
            gi_wp2

            clear c3 c4 c6 c7 d0 d0' d1 d2 d3 f3 f4
            generalize hwc : World.alloc (World.setCell (World.setCell W ⟨g3, 0, none⟩ _) ⟨g4, 0, none⟩ _) _ = wc
            have q3 : v3 = (lgB xk xv) := by rw [← V3.out, lgN_snoc, Z3.out]; rfl
            have q4 : v4 = (klt bf xk) := by
              rw [← V4.out, ascN_snoc _ H8.out Z6.out, Z4.out]; rfl
            obtain ⟨k34, k43, k36, k37, k3x, k4x, k35, k45, k46, k47⟩ := HN.out
            have hb3 : Blk wc g3 (bObj v3) := by rw [← hwc, q3]; exact ((F3.out.put 0 _).far (p := ⟨g4, 0, none⟩) k34 _).alloc _
            have hb4 : Blk wc g4 (bObj !v4) := by rw [← hwc, q4]; exact ((F4.out.far (p := ⟨g3, 0, none⟩) k43 _).put 0 _).alloc _
            have hb5 : Blk wc g5 (bObj !z5) := by rw [← hwc]; exact ((F5.out.far (p := ⟨g3, 0, none⟩) k35 _).far (p := ⟨g4, 0, none⟩) k45 _).alloc _
            have hb6 : Blk wc g6 (bObj false) := by rw [← hwc]; exact ((F6.out.far (p := ⟨g3, 0, none⟩) k36 _).far (p := ⟨g4, 0, none⟩) k46 _).alloc _
            have hb7 : Blk wc g7 (sObj bf) := by rw [← hwc]; exact ((E7.out.far (p := ⟨g3, 0, none⟩) k37 _).far (p := ⟨g4, 0, none⟩) k47 _).alloc _
            have hbx : Blk wc gx (nodeObj xk xv Al nl cl Ar nr cr) := by rw [← hwc]; exact ((EX.out.far (p := ⟨g3, 0, none⟩) k3x _).far (p := ⟨g4, 0, none⟩) k4x _).alloc _
            have hbo : Blk wc W.heap.size (objT Al Ar nl cl nr cr) := by rw [← hwc]; exact Blk.new _ _ (by simp)
            have hlv : Lv X W wc := by rw [← hwc]; exact (((Lv.refl _ _).setCell (p := ⟨g3, 0, none⟩) (fun _ => HXX.out.1) _).setCell (p := ⟨g4, 0, none⟩) (fun _ => HXX.out.2.1) _).alloc _
            clear hwc k34 k43 k36 k37 k3x k4x k35 k45 k46 k47 q3 q4
            have hlv0 : Lv X w0 wc := HE9.out.trans hlv (fun g _ h => h)
            have hEc : Ext w wc := (HKK.out _ hlv0).2.2
            obtain ⟨Kl, hkl, hn1, hcl, hsl, htl⟩ := BAt.kids (b := xl) (HL.out.ext hEc)
            obtain ⟨Kr, hkr, hm1, hcr, hsr, htr⟩ := BAt.kids (b := xr) (HR.out.ext hEc)
            refine ⟨trivial, rfl, CallsIn.inRound l (callsIn_wide.2 ((concat_two Al Ar nl cl nr cr W.heap.size wc hbo hcl hcr (by rw [flat_len kd_len, hkl]) (by rw [flat_len kd_len, hkr]) (one_kd _) (one_kd _) (by omega) (by omega)).mono ?_))⟩
            rintro e w3 ⟨hE3, v, rfl, ho⟩
            rw [← List.flatMap_append] at ho
            obtain ⟨KL, hKL⟩ : ∃ KL, Kl ++ Kr = KL := ⟨_, rfl⟩
            rw [hKL] at ho
            have hoff : (z5 && kidsOk xk KL) = (pre ++ [(⟨xl, xk, xv, xr⟩ : Nod)]).all okN := by
              have h1 : kidsOk xk (Kl ++ Kr) = (kidsOk xk Kl && kidsOk xk Kr) := by simp [kidsOk]
              rw [← hKL, List.all_append, Z5.out, h1, htl, htr]; simp [okN]
            have hsk : ∀ x ∈ KL, x.k.size ≤ Reach ∧ x.v.size ≤ Reach := by
              intro x hx; rw [← hKL] at hx
              rcases List.mem_append.1 hx with h | h
              · exact hsl x h
              · exact hsr x h
            obtain ⟨Av, cv, rfl, hcv, hKn, -⟩ := own_kids ho
            have hln0 : KL.length = nl + nr := hKn
            have hkn2 : nl + nr ≤ 2 := by omega
            have G3 := Lib.hid (hb3.ext hE3); have G4 := Lib.hid (hb4.ext hE3); have G5 := Lib.hid (hb5.ext hE3); have G6 := Lib.hid (hb6.ext hE3); have G7 := Lib.hid (hb7.ext hE3); have GX := Lib.hid (hbx.ext hE3)
            have HLV := Lib.hid (hlv.ext hE3); have ho2 := ho; have HO := Lib.hid ho; have HOFF := Lib.hid hoff; have HSK := Lib.hid hsk; have HKN := Lib.hid hKn
            have hWs : W.heap.size ≤ wc.heap.size := hlv.size
            have HWS := Lib.hid hWs
            have hg5l := hb5.lt
            have HG5L := Lib.hid hg5l; clear hg5l
            clear hb3 hb4 hb5 hb6 hb7 hbx hE3 hlv ho hoff hsk hkl hkr hcl hcr hsl hsr htl htr hKL hKn hn1 hm1 hbo hlv0 hEc hWs F3 F4 F5 F6 E7 EX
            generalize hN : nl + nr = N
            rw [hN] at hln0
            have HLN0 := Lib.hid hln0; clear hln0
            have hN2 : N ≤ 2 := by omega
            clear hkn2
            rw [hN] at ho2 hcv
            have HO2 := Lib.hid ho2; clear ho2 HO
            gi_wp2
            gi_loopw [47] (fun vi wr => ∃ i : Nat, vi = .int .i64 i ∧ i ≤ N ∧ Lv (fun g => g = g5) w3 wr ∧ Blk wr g5 (bObj (!(z5 && kidsOk xk (KL.take i))))) (fun vi _ => N - (intOf vi).toNat)
            case atStart => exact ⟨0, rfl, Nat.zero_le _, Lv.refl _ _, by simpa [kidsOk] using G5.out⟩
            case round =>
              obtain ⟨i, rfl, hi, hlw, hb5⟩ := hrel
              have HLW := Lib.hid hlw; have HB5 := Lib.hid hb5; clear hlw hb5
              by_cases hiN : i = N
              · have hnl : ¬ ((i : Int) < (N : Int)) := by omega
                have hn5x : ¬ gx = g5 := by have := HGX.out _ HXX.out.2.2.1; omega
                have ho := HORD.out
                have k3 := G3.out.lv HLW.out (by omega)
                have k4 := G4.out.lv HLW.out (by omega)
                have k6 := G6.out.lv HLW.out (by omega)
                have k7 := G7.out.lv HLW.out (by omega)
                have kx := GX.out.lv HLW.out hn5x
                have K3 := Lib.hid k3; have K4 := Lib.hid k4; have K6 := Lib.hid k6; have K7 := Lib.hid k7; have KX := Lib.hid kx
                clear k3 k4 k6 k7 kx hn5x ho
                gi_wp2
                obtain rfl := hiN
                have hKL : KL.take i = KL := List.take_of_length_le (by have := HLN0.out; omega)
                have hb5 := HB5.out
                rw [hKL, HOFF.out] at hb5
                have HB6 := Lib.hid hb5; clear hb5 hKL
                have n67 : g6 ≠ g7 := by have := HORD.out; omega
                have hT2 : ∀ wx, (Lv X wr wx ∧ Blk wx gx (nodeObj xk xv Al nl cl Ar nr cr)) → wx.cell? ⟨gx, 0, none⟩ = some (.string xk) := fun wx h => h.2.cells4.1
                have hLX : ∀ wx, Ext wr wx → Lv X wr wx := fun wx h => Lv.of_ext h
                refine wpIn_region_X (T := fun wx => wx.cell? ⟨gx, 0, none⟩ = some (.string xk)) (fun wx => Ext wr wx) (by kernel_rfl) (by kernel_rfl) (fun ⟨_, _, h⟩ => h) ((Ext.refl wr).drew) (wpX_takes (by kernel_rfl) (fun _ d _ _ _ h => by cases d <;> exact h) (Stab.ext wr) (fun wx h => (KX.out.ext h).cells4.1) (fuel := 2) [0,1] _ _ (by kernel_rfl) ?_)
                refine wpTk_want rfl (Eq.refl true) ⟨.pointer (some ⟨gx, 0, none⟩), fun wx hx => ?_, ?_⟩
                · go_simp
                  with_reducible exact gives_ok _ _ _
                simp only [Act.put, List.setIfInBounds_toArray, List.set_cons_zero, List.set_cons_succ]
                refine wpTk_want rfl (Eq.refl true) ⟨.string xk, fun wx hx => ?_, ?_⟩
                · go_simp
                  with_reducible exact gives_ok _ _ _
                simp only [Act.put, List.setIfInBounds_toArray, List.set_cons_zero, List.set_cons_succ]
                refine wpTk_nil ?_
                obtain ⟨S2, hS2⟩ : ∃ S2 : Bool → ByteArray → World → Prop, S2 = fun s6 s7 wy => Lv X wr wy ∧ Blk wy g3 (bObj v3) ∧ Blk wy g4 (bObj !v4) ∧ Blk wy g5 (bObj (!(pre ++ [(⟨xl, xk, xv, xr⟩ : Nod)]).all okN)) ∧ Blk wy g6 (bObj s6) ∧ Blk wy g7 (sObj s7) ∧ Blk wy gx (nodeObj xk xv Al nl cl Ar nr cr) := ⟨_, rfl⟩
                have hSs : ∀ s6 s7, Stab (S2 s6 s7) := fun s6 s7 w1 w2 e h => by
                  rw [hS2] at h ⊢
                  exact ⟨h.1.ext e, h.2.1.ext e, h.2.2.1.ext e, h.2.2.2.1.ext e, h.2.2.2.2.1.ext e, h.2.2.2.2.2.1.ext e, h.2.2.2.2.2.2.ext e⟩
                have hST : ∀ s6 s7 wy, S2 s6 s7 wy → wy.cell? ⟨gx, 0, none⟩ = some (.string xk) := fun s6 s7 wy h => by
                  rw [hS2] at h
                  exact h.2.2.2.2.2.2.cells4.1
                have HS2 := Lib.hid hS2; clear hS2 hT2 hLX
                refine wpX_one 2 (by kernel_rfl) rfl rfl (fun wx hx KK hKK => ?_)
                have f6 := (K6.out.ext hx).free 0
                have c6 : wx.cell? ⟨g6, 0, none⟩ = some (.bool false) := (K6.out.ext hx).cell 0
                go_simp
                refine hKK _ _ ⟨S2 false bf, hSs _ _, hST _ _, ?_, ?_⟩
                · rw [HS2.out]
                  obtain ⟨-, -, k36, -, -, -, -, -, k46, -⟩ := HN.out
                  have n56 : g5 ≠ g6 := by have := HORD.out; omega
                  have n76 : g7 ≠ g6 := by have := HORD.out; omega
                  have nx6 : gx ≠ g6 := by have := HGX.out _ HXX.out.2.2.2.1; omega
                  exact ⟨(Lv.of_ext hx).setCell (p := ⟨g6, 0, none⟩) (fun _ => HXX.out.2.2.2.1) _, (K3.out.ext hx).far (p := ⟨g6, 0, none⟩) (Ne.symm k36) _, (K4.out.ext hx).far (p := ⟨g6, 0, none⟩) (Ne.symm k46) _, (HB6.out.ext hx).far (p := ⟨g6, 0, none⟩) n56 _, (K6.out.ext hx).put 0 _, (K7.out.ext hx).far (p := ⟨g6, 0, none⟩) n76 _, (KX.out.ext hx).far (p := ⟨g6, 0, none⟩) nx6 _⟩
                clear hKK KK f6 c6 hx wx
                refine wpX_one 3 (by kernel_rfl) rfl rfl (fun wx hx KK hKK => ?_)
                rw [HS2.out] at hx
                obtain ⟨y1, y2, y3, y4, y5, y6, y7⟩ := hx
                have f7 := y6.free 0
                have c7 : wx.cell? ⟨g7, 0, none⟩ = some (.string bf) := y6.cell 0
                go_simp
                refine hKK _ _ ⟨S2 false xk, hSs _ _, hST _ _, ?_, ?_⟩
                · rw [HS2.out]
                  obtain ⟨-, -, -, k37, -, -, -, -, -, k47⟩ := HN.out
                  have n57 : g5 ≠ g7 := by have := HORD.out; omega
                  have n67 : g6 ≠ g7 := by have := HORD.out; omega
                  have nx7 : gx ≠ g7 := by have := HGX.out _ HXX.out.2.2.2.2; omega
                  exact ⟨y1.setCell (p := ⟨g7, 0, none⟩) (fun _ => HXX.out.2.2.2.2) _, y2.far (p := ⟨g7, 0, none⟩) (Ne.symm k37) _, y3.far (p := ⟨g7, 0, none⟩) (Ne.symm k47) _, y4.far (p := ⟨g7, 0, none⟩) n57 _, y5.far (p := ⟨g7, 0, none⟩) n67 _, y6.put 0 _, y7.far (p := ⟨g7, 0, none⟩) nx7 _⟩
                clear hKK KK f7 c7 y1 y2 y3 y4 y5 y6 y7 wx
                refine wpX_done (by kernel_rfl) (fun wx hx => ?_) _
                rw [HS2.out] at hx
                obtain ⟨y1, y2, y3, y4, y5, y6, y7⟩ := hx
                have hlvf : Lv X W wx := (HLV.out.trans HLW.out (fun g _ h => by subst h; exact HXX.out.2.2.1)).trans y1 (fun g _ h => h)
                refine ⟨X, hlvf, fun g h => .inl h, fun g h => by have := (HXI.out g).1 h; have := y6.lt; omega, xk, rfl, by rw [V3.out]; exact y2, by rw [V4.out]; exact y3, y4, ?_, y6, fun y h => by simp at h; rw [← h], HE9.out.trans hlvf (fun g _ h => h)⟩
                have : (pre ++ [(⟨xl, xk, xv, xr⟩ : Nod)]).isEmpty = false := by cases pre <;> rfl
                rw [this]; exact y5
              · have hlt : ((i : Int) < (N : Int)) := by omega
                have hnb : ∀ g, (Value.slice Av N cv).ownBlock = some g → ¬ g = g5 := fun g hg h => by have := (own_blk HO2.out hg).1; have := HG5L.out; omega
                have ho3 := own_lv HO2.out HLW.out hnb
                obtain ⟨A', c', hve, -, hln, hcell⟩ := own_kids ho3
                cases hve
                obtain ⟨x, hx⟩ : ∃ x, KL[i]? = some x := ⟨KL[i]'(by omega), List.getElem?_eq_getElem (by omega)⟩
                obtain ⟨gk, rfl, -, hgk, q0, q1, q2, q3⟩ := hcell i x hx
                have hkx := HSK.out x (List.mem_of_getElem? hx)
                have hgw : gx < wr.heap.size := Nat.lt_of_lt_of_le GX.out.lt HLW.out.size
                have hn5x : ¬ gx = g5 := by have := HGX.out _ HXX.out.2.2.1; omega
                have GX2 := GX.out.lv HLW.out hn5x
                have cx : ∀ o, (wr.alloc o).cell? ⟨gx, 0, none⟩ = some (.string xk) := fun o => (GX2.alloc o).cells4.1
                obtain ⟨zz, hzz⟩ : ∃ z, (z5 && kidsOk xk (KL.take i)) = z := ⟨_, rfl⟩
                have hb5 := HB5.out
                rw [hzz] at hb5
                have HZZ := Lib.hid hzz; have HBB := Lib.hid hb5; have HX := Lib.hid hx; have HKX := Lib.hid hkx; have HLN := Lib.hid hln
                have h5l : g5 < wr.heap.size := hb5.lt
                have f5 : ∀ o, (wr.alloc o).frozen? ⟨g5, 0, none⟩ = false := fun o => (HBB.out.alloc o).free 0
                have hNx : ∀ o, Blk (wr.alloc o) gx (nodeObj xk xv Al nl cl Ar nr cr) := fun o => GX2.alloc o
                clear hnb ho3 hcell hzz hb5 hx hkx hln hNx GX2 hn5x
                have hfin : ∀ v o, v = (zz && ahB xk x.k) → ∃ i' : Nat, Value.int .i64 ((i : Int) + 1) = .int .i64 i' ∧ i' ≤ N ∧ Lv (fun g => g = g5) w3 ((wr.setCell ⟨g5, 0, none⟩ (.bool (!v))).alloc o) ∧ Blk ((wr.setCell ⟨g5, 0, none⟩ (.bool (!v))).alloc o) g5 (bObj (!(z5 && kidsOk xk (KL.take i')))) := fun v o hv => by
                  refine ⟨i + 1, by go_num, by omega, (HLW.out.setCell (p := ⟨g5, 0, none⟩) (fun _ => rfl) _).alloc o, ?_⟩
                  rw [kids_take HX.out, ← Bool.and_assoc, HZZ.out, ← hv]
                  exact (HBB.out.put 0 _).alloc o
                have HFIN := Lib.hid hfin; clear hfin
                cases zz with
                | false =>
                  have c5 : ∀ o, (wr.alloc o).cell? ⟨g5, 0, none⟩ = some (.bool true) := fun o => (HBB.out.alloc o).cell 0
                  gi_wp2
                  refine ⟨trivial, ?_⟩
                  gi_wp2
                  go_roundw
                  case rel => exact HFIN.out false _ rfl
                  case measure => simp [intOf]; omega
                | true =>
                  have c5 : ∀ o, (wr.alloc o).cell? ⟨g5, 0, none⟩ = some (.bool false) := fun o => (HBB.out.alloc o).cell 0
                  gi_wp2
                  refine ⟨trivial, rfl, CallsIn.inRound l (callsIn_wide.2 ((ahead_any xk x.k _ hk HKX.out.1).mono ?_))⟩
                  rintro e w' ⟨rfl, rfl⟩
                  gi_wp2
                  go_roundw
                  case rel => exact HFIN.out (ahB xk x.k) _ (by rw [Bool.true_and])
                  case measure => simp [intOf]; omega
    case done =>
      rintro D0 S W hD0 hnS ⟨bf, rfl, e3, e4, e5, e6, e7, e8, e9⟩ hdef
      subst hA
      have ho := HORD.out
      obtain ⟨-, -, hEW⟩ := HKK.out W e9
      have hDw : w.heap.size ≤ D0 := by omega
      have hlv : Lv (fun g => g = D0) W (W.putObj D0 (.deferred none)) := Lv.putObj (S := fun g => g = D0) (Lv.refl _ _) (fun _ => rfl) _
      have hfin : Ext w (W.putObj D0 (.deferred none)) := hlv.extBelow hEW (fun g hg h => by omega)
      have HE3 := Lib.hid e3; have HE4 := Lib.hid e4; have HE5 := Lib.hid e5; have HFIN := Lib.hid hfin; have HDF := Lib.hid hdef
      have hl3 := e3.lt; have hl4 := e4.lt; have hl5 := e5.lt
      clear e3 e4 e5 e6 e7 e8 e9 hEW hdef hlv hfin ho hDw
      have c3 := HE3.out.cell 0; have c4 := HE4.out.cell 0; have c5 := HE5.out.cell 0
      replace c3 : W.cell? ⟨g3, 0, none⟩ = some (.bool (lgN xs)) := c3
      replace c4 : W.cell? ⟨g4, 0, none⟩ = some (.bool (!ascN xs)) := c4
      replace c5 : W.cell? ⟨g5, 0, none⟩ = some (.bool (!xs.all okN)) := c5
      clear HE3 HE4 HE5
      obtain ⟨z3, h3⟩ : ∃ z, lgN xs = z := ⟨_, rfl⟩
      obtain ⟨z4, h4⟩ : ∃ z, ascN xs = z := ⟨_, rfl⟩
      obtain ⟨z5, h5⟩ : ∃ z, xs.all okN = z := ⟨_, rfl⟩
      rw [h3] at c3; rw [h4] at c4; rw [h5] at c5
      have H3 := Lib.hid h3; have H4 := Lib.hid h4; have H5 := Lib.hid h5; clear h3 h4 h5
      cases z3 with
      | true =>
        go_wp2_with fail
        refine ⟨by simp, .inl ⟨_, _, rfl, run_takeDeferred HDF.out, ?_⟩⟩
        exact ⟨.int .i64 4, by simp [results, Try.results15, go_sem], by rw [HV.out, HV2.out, if_pos H3.out], HFIN.out⟩
      | false =>
        cases z4 with
        | false =>
          simp only [Bool.not_false] at c4
          go_wp2_with fail
          refine ⟨by simp, .inl ⟨_, _, rfl, run_takeDeferred HDF.out, ?_⟩⟩
          exact ⟨.int .i64 9, by simp [results, Try.results15, go_sem], by rw [HV.out, HV2.out, if_neg (by rw [H3.out]; simp), if_pos H4.out], HFIN.out⟩
        | true =>
          simp only [Bool.not_true] at c4
          cases z5 with
          | false =>
            simp only [Bool.not_false] at c5
            go_wp2_with fail
            refine ⟨by simp, .inl ⟨_, _, rfl, run_takeDeferred HDF.out, ?_⟩⟩
            exact ⟨.int .i64 10, by simp [results, Try.results15, go_sem], by rw [HV.out, HV2.out, if_neg (by rw [H3.out]; simp), if_neg (by rw [H4.out]; simp), if_pos H5.out], HFIN.out⟩
          | true =>
            simp only [Bool.not_true] at c5
            go_wp2_with fail
            refine ⟨by simp, .inl ⟨_, _, rfl, run_takeDeferred HDF.out, ?_⟩⟩
            exact ⟨.int .i64 0, by simp [results, Try.results15, go_sem], by rw [HV.out, HV2.out, if_neg (by rw [H3.out]; simp), if_neg (by rw [H4.out]; simp), if_neg (by rw [H5.out]; simp)], HFIN.out⟩
end Go.Proofs.Ytbjniaihkllmdaa

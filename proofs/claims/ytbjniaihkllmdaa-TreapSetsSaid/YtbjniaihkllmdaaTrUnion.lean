/- Contract: treap.Union. -/
import Derived.Test.YtbjniaihkllmdaaTrProg
import Derived.Test.YtbjniaihkllmdaaTrPlain
namespace Go.Proofs.Ytbjniaihkllmdaa
open Go.RowKit
attribute [local go_sem] Oper.semAt_some

def putN (m : BT) (x : Nod) : BT := putV x.k x.v m
def unionV (a b : BT) : BT := (nodesV b).foldl putN a
theorem fold_size : ∀ (l : List Nod) (a : BT), (l.foldl putN a).size ≤ a.size + l.length
  | [], a => by simp
  | x :: l, a => by
    have h1 := fold_size l (putN a x)
    have h2 := put_size x.k x.v a
    rw [List.foldl_cons, List.length_cons]
    unfold putN at h1 ⊢
    omega
theorem Row.far {w : World} {g : Nat} {A : Option Addr} {n c : Nat} (hg : Blk w g (boxM A n c)) (u : Value) : ∀ {t : MT} {b off : Nat}, Row w t b off → Row (w.setCell ⟨g, 0, none⟩ u) t b off
  | .nil, _, _, _ => trivial
  | .cons k v l r rest, b, off, ⟨h0, h1, h2, ⟨A1, n1, c1, a1, a2, a3, a4⟩, ⟨B, m, d, b1, b2, b3, b4⟩, h5⟩ => by
    have hne : b ≠ g := fun e => by
      subst e
      have := hg.cell off
      rw [h1] at this
      rcases off with _ | off
      · simp at this
      · simp at this
    have tr : ∀ {o : Nat} {v : Value}, w.cell? ⟨b, o, none⟩ = some v → (w.setCell ⟨g, 0, none⟩ u).cell? ⟨b, o, none⟩ = some v := fun {o v} h => by
      have e := Below.heap_setCell w ⟨g, 0, none⟩ u b hne
      unfold World.cell? at h ⊢
      rw [e]; exact h
    refine ⟨h0, tr h1, tr h2, ⟨A1, n1, c1, tr a1, a2, a3, ?_⟩, ⟨B, m, d, tr b1, b2, b3, ?_⟩, Row.far hg u h5⟩
    · rcases a4 with h | ⟨b', off', g1, g2, g3⟩
      · exact .inl h
      · exact .inr ⟨b', off', g1, by simpa using g2, Row.far hg u g3⟩
    · rcases b4 with h | ⟨b', off', g1, g2, g3⟩
      · exact .inl h
      · exact .inr ⟨b', off', g1, by simpa using g2, Row.far hg u g3⟩
theorem MapAt.far {w : World} {g : Nat} {A : Option Addr} {n c : Nat} (hg : Blk w g (boxM A n c)) (u : Value) {t : MT} {B : Option Addr} {m : Nat} (h : MapAt w t B m) : MapAt (w.setCell ⟨g, 0, none⟩ u) t B m := by
  refine ⟨h.1, h.2.1, ?_⟩
  rcases h.2.2 with h | ⟨b, off, h1, h2, h3⟩
  · exact .inl h
  · exact .inr ⟨b, off, h1, by simpa using h2, h3.far hg u⟩

set_option maxRecDepth 100000 in
set_option maxHeartbeats 8000000 in
theorem Union_any {a b : BT} {A : Option Addr} {n c : Nat} {B : Option Addr} {m d : Nat} {w : World} (ha : BAt w a A n) (hb : BAt w b B m) (hsa : a.size ≤ 400) (hsb : b.size ≤ 400) (h0 : chkV a = 0) (h1 : chkV b = 0) :
    Calls Try.prog 33 #[.slice A n c, .slice B m d] w (Res (unionV a b) 0 w) := by
  have HA := Lib.hid ha; have HB := Lib.hid hb; have H0 := Lib.hid h0; have H1 := Lib.hid h1; clear ha hb h0 h1
  have hgo : Ext w (w.alloc (boxM A n c)) := (Ext.refl w).alloc _
  have HGO := Lib.hid hgo
  have hgs : (w.alloc (boxM A n c)).heap.size = w.heap.size + 1 := by simp
  have c3 : ∀ w', Ext (w.alloc (boxM A n c)) w' → w'.cell? ⟨w.heap.size, 0, none⟩ = some (.slice A n c) := fun w' h => ((Blk.new w (boxM A n c) rfl).ext h).cell 0
  have c3' := c3 _ (Ext.refl _)
  have hsz : (unionV a b).size ≤ 800 := by
    have h1 := fold_size (nodesV b) a
    have h2 := prs_len b
    rw [prs_nodes, List.length_map] at h2
    unfold unionV; omega
  have C3 := Lib.hid c3; clear c3 hgs
  obtain ⟨xs, hxs⟩ : ∃ xs, nodesV b = xs := ⟨_, rfl⟩
  obtain ⟨U, hU⟩ : ∃ U, unionV a b = U := ⟨_, rfl⟩
  have hUx : U = xs.foldl putN a := by rw [← hU, ← hxs]; rfl
  rw [hU] at hsz ⊢
  have HXS := Lib.hid hxs; have HUX := Lib.hid hUx; have HSZ := Lib.hid hsz; clear hxs hUx hsz hU
  refine calls_marks Try.func33 rfl ?_
  simp only [Try.ntmps33, List.size_toArray, List.length_cons, List.length_nil, Nat.reduceAdd, Nat.reduceSub, Array.replicate_succ, Array.replicate_zero, List.push_toArray, List.append_toArray, List.nil_append, List.cons_append]
  go_wp2_with fail
  refine (checkB (HA.out.ext HGO.out) (by omega) H0.out).mono ?_
  rintro e w1 ⟨rfl, hE⟩
  have HE1 := Lib.hid hE; clear hE c3'
  go_wp2_with fail
  refine (checkB ((HB.out.ext HGO.out).ext HE1.out) (by omega) H1.out).mono ?_
  rintro e w2 ⟨rfl, hE⟩
  have HE2 := Lib.hid (HE1.out.trans hE); clear hE HE1
  go_wp2_with fail
  refine (nodes_any B m d _).mono ?_
  rintro e w0 ⟨rfl, hE0, hs0, hbm, hbw⟩
  have b3 : Blk w0 w.heap.size (boxM A n c) := ((Blk.new w _ rfl).ext HE2.out).ext hE0
  have hE1 : Ext w w0 := (HGO.out.trans HE2.out).trans hE0
  have hw1 : w.heap.size + 1 ≤ w2.heap.size := by have := HE2.out.size; simpa using this
  obtain ⟨g3, h3⟩ : ∃ g, g = w.heap.size := ⟨_, rfl⟩
  obtain ⟨gm, h8⟩ : ∃ g, g = w2.heap.size := ⟨_, rfl⟩
  obtain ⟨gw, h9⟩ : ∃ g, g = w2.heap.size + 1 := ⟨_, rfl⟩
  rw [← h3] at b3
  rw [← h8] at hbm; rw [← h9] at hbw
  rw [← h9, ← h8, ← h3]
  have hord : w.heap.size ≤ g3 ∧ g3 < gm ∧ gw = gm + 1 ∧ w0.heap.size = gm + 2 := by omega
  obtain ⟨X, hX⟩ : ∃ X : Nat → Prop, X = fun g => g = g3 := ⟨_, rfl⟩
  have hXi : ∀ g, X g ↔ g = g3 := fun g => by rw [hX]
  have hK : ∀ W, Lv X w0 W → Blk W gw (walkObj gw) ∧ Blk W gm (boxM B m d) ∧ Ext w W := fun W hv =>
    ⟨hbw.lv hv (fun h => by have := (hXi _).1 h; omega), hbm.lv hv (fun h => by have := (hXi _).1 h; omega), hv.extBelow hE1 (fun g hg h => by have := (hXi _).1 h; omega)⟩
  have hit := nodes_iterA b B m d gw gm X w w0 hK HB.out
  rw [HXS.out] at hit
  have ha0 := HA.out.ext hE1
  have HIT := Lib.hid hit; have B3 := Lib.hid b3; have HORD := Lib.hid hord; have HXI := Lib.hid hXi; have HKK := Lib.hid hK; have HE1 := Lib.hid hE1; have HA0 := Lib.hid ha0
  clear hit b3 hord hXi hK hE1 hX hE0 hs0 hbm hbw h3 h8 h9 hw1 hgo ha0 C3 HE2 HGO
  go_wp2_with fail
  generalize hA : Act.mk _ _ = a0
  refine wp_of_In (wpIn_range2 (gf := 64) (by rw [← hA]; rfl) (enters_of Try.func64 (by kernel_rfl) rfl) HIT.out (fun x vs S W h => by obtain ⟨_, _, _, _, _, _, _, _, _, rfl, _⟩ := h; rfl) (fun x vs S W W' h _ => h) (fun x vs S S' W h _ => h) (fun g h => h.elim)
    (fun pre S W => ∃ (A' : Option Addr) (n' c' : Nat), (∀ g, S g ↔ g = g3) ∧ Blk W g3 (boxM A' n' c') ∧ BAt W (pre.foldl putN a) A' n' ∧ Lv X w0 W)
    (fun _ _ _ _ => False) ?hI (fun _ _ _ _ _ h _ => h.elim) X ?h0 (fun g h => by have := HORD.out; have := (HXI.out g).1 h; omega)
    (fun S W e h => ⟨Lv.of_ext e, h⟩)
    (fun x vs W a₁ W' => ∃ A1 n1 c1 Al nl cl Ar nr cr, vs = #[.slice A1 n1 c1, .agg #[.string x.k, .string x.v, .slice Al nl cl, .slice Ar nr cr]] ∧ x.k.size ≤ Reach ∧ x.v.size ≤ Reach ∧
      a₁ = { tmps := (((a0.tmps.setIfInBounds 18 (.slice A1 n1 c1)).setIfInBounds 19 (.agg #[.string x.k, .string x.v, .slice Al nl cl, .slice Ar nr cr])).setIfInBounds 7 (.pointer (some ⟨W.heap.size, 0, none⟩))), defers := [] } ∧ Ext W W' ∧ Blk W' W.heap.size (nodeObj x.k x.v Al nl cl Ar nr cr))
    (fun x vs W a₁ W' h => by obtain ⟨_, _, _, _, _, _, _, _, _, _, _, _, _, h, _⟩ := h; exact h) ?assign ?body ?done (fun _ _ _ _ _ _ _ _ h _ => h.elim))
  case hI =>
    rintro pre S W W' ⟨A', n', c', hS, e3, e4, e5⟩ hv
    refine ⟨A', n', c', hS, e3.lv hv (fun h => h.elim id (fun h => e3.nc h.2)), MapAt.nc e4 (hv.mono (fun g _ h => h.elim False.elim id)), e5.trans hv (fun g hg h => h.elim False.elim (fun h => by omega))⟩
  case h0 => exact ⟨A, n, c, fun g => HXI.out g, B3.out, HA0.out, Lv.refl _ _⟩
  case assign =>
    rintro l ⟨xl, xk, xv, xr⟩ vs S W K ⟨A1, n1, c1, Al, nl, cl, Ar, nr, cr, rfl, hl, hr, hk, hv⟩ hK
    subst hA
    dsimp only at hl hr hk hv
    have HKA := Lib.hid hK; clear hK hl hr
    gi_wp2
    exact HKA.out _ _ ⟨A1, n1, c1, Al, nl, cl, Ar, nr, cr, rfl, hk, hv, rfl, (Ext.refl W).alloc _, Blk.new W _ rfl⟩
  case body =>
    rintro l pre ⟨xl, xk, xv, xr⟩ vs S W0 W' W a₁ ⟨A1, n1, c1, Al, nl, cl, Ar, nr, cr, -, hk, hv, rfl, hEa, hba⟩ hle0 hvb ⟨A', n', c', hS, e3, e4, e5⟩ hleW hpx henc
    dsimp only at hk hv hba
    obtain ⟨gx, hgx⟩ : ∃ gx, gx = W0.heap.size := ⟨_, rfl⟩
    rw [← hgx] at hba ⊢
    have bx : Blk W gx (nodeObj xk xv Al nl cl Ar nr cr) := hba.lv hvb (fun h => hba.nc h.2)
    have H3 := Lib.hid e3; have H4 := Lib.hid e4; have H5 := Lib.hid e5; have HS := Lib.hid hS
    have c0 := e3.cell 0
    replace c0 : W.cell? ⟨g3, 0, none⟩ = some (.slice A' n' c') := c0
    obtain ⟨d0, d1, -, -⟩ := bx.cells4
    clear hEa hba hvb hle0 henc hpx hgx e3 e4 e5 bx hS
    subst hA
    simp only [List.setIfInBounds_toArray, List.set_cons_zero, List.set_cons_succ]
    gi_wp2
    refine ⟨trivial, rfl, CallsIn.inRound l (callsIn_wide.2 ((put_any xk xv hk hv _ A' n' c' W H4.out).mono ?_))⟩
    rintro e W2 ⟨A2, n2, c2, rfl, hG, hE⟩
    have hb2 := H3.out.ext hE
    have c1 := hb2.cell 0; have f1 := hb2.free 0
    replace c1 : W2.cell? ⟨g3, 0, none⟩ = some (.slice A' n' c') := c1
    have HB2 := Lib.hid hb2; have HG := Lib.hid hG; have HEE := Lib.hid hE
    clear hb2 hG hE c0 d0 d1
    gi_wp2
    have hlv : Lv S W (W2.setCell ⟨g3, 0, none⟩ (.slice A2 n2 c2)) := (Lv.of_ext HEE.out).setCell (p := ⟨g3, 0, none⟩) (fun _ => (HS.out g3).2 rfl) _
    refine ⟨S, hlv, fun g h => .inl h, fun g h => by rw [(HS.out g).1 h]; exact (HB2.out.put 0 _).lt, A2, n2, c2, HS.out, HB2.out.put 0 _, ?_, H5.out.trans hlv (fun g hg h => (HXI.out g).2 ((HS.out g).1 h))⟩
    rw [List.foldl_append]
    exact MapAt.far HB2.out _ HG.out
  case done =>
    rintro D0 S W hD0 hnS ⟨A', n', c', hS, e3, e4, e5⟩ hdef
    subst hA
    rw [← HUX.out] at e4
    obtain ⟨x, hx⟩ : ∃ x, 0 + U.mt.size = x := ⟨_, rfl⟩
    have hx2 : x ≤ 800 := by rw [← hx, BT.mt_size, Nat.zero_add]; exact HSZ.out
    obtain ⟨-, -, hEW⟩ := HKK.out W e5
    have HEW := Lib.hid hEW; have HDF := Lib.hid hdef; have HU4 := Lib.hid e4; have HX := Lib.hid hx; have HB3 := Lib.hid e3
    have c3 := e3.cell 0
    replace c3 : W.cell? ⟨g3, 0, none⟩ = some (.slice A' n' c') := c3
    have hgt : ¬ ((20000 : Int) < (x : Int)) := by omega
    clear e3 e4 e5 hEW hdef hS hx
    go_wp2_with fail
    refine (count_is HX.out HU4.out (by omega)).mono ?_
    rintro e W2 ⟨rfl, hE⟩
    have hd2 : W2.heap[D0]? = some (.deferred (some [])) := Ext.block hE HDF.out
    have c4 : W2.cell? ⟨g3, 0, none⟩ = some (.slice A' n' c') := (HB3.out.ext hE).cell 0
    have hDw : w.heap.size ≤ D0 := by have := HORD.out; omega
    have hlv : Lv (fun g => g = D0) W2 (W2.putObj D0 (.deferred none)) := Lv.putObj (S := fun g => g = D0) (Lv.refl _ _) (fun _ => rfl) _
    have hfin : Ext w (W2.putObj D0 (.deferred none)) := hlv.extBelow (HEW.out.trans hE) (fun g hg h => by omega)
    have hU5 : BAt (W2.putObj D0 (.deferred none)) U A' n' := by
      refine MapAt.nc (P := fun g => g = D0) (MapAt.ext HU4.out hE) (hlv.mono (fun g _ h => ⟨h, ?_⟩))
      subst h; exact ⟨_, hd2, rfl⟩
    have HD2 := Lib.hid hd2; have HFIN := Lib.hid hfin; have HU5 := Lib.hid hU5
    clear hd2 hfin hlv hDw hE c3 hU5
    go_wp2_with fail
    refine ⟨by simp, .inl ⟨_, _, rfl, run_takeDeferred HD2.out, ?_⟩⟩
    exact ⟨.tuple #[.slice A' n' c', .int .i64 0], by simp [results, Try.results33, go_sem], A', n', c', rfl, HU5.out, HFIN.out⟩
end Go.Proofs.Ytbjniaihkllmdaa

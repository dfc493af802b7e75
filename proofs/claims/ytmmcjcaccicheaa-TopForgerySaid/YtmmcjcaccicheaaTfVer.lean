/- Lamport's Verify, for a signature of the right form. No condition. -/
import Derived.Test.YtmmcjcaccicheaaTfClm
import Derived.Test.YtmmcjcaccicheaaTfEq
namespace Go.Proofs.Ytmmcjcaccicheaa
open Go.RowKit
theorem claimed_any (m : Bs) (c : Array Value) (w : World) : Calls Try.prog 27 #[.string (bst m), .agg c] w fun e w' => e = .returned (.func (.func 42) #[] #[.pointer (some ⟨w.heap.size, 0, none⟩), .pointer (some ⟨w.heap.size + 1, 0, none⟩)]) ∧ w' = (w.alloc (.cells #[.string (bst m)] 9)).alloc (.cells c 25) := by
  have hmf : ∀ (fn : Fn) (first cap : Array Value) (w : World), (Instr.makeFunc fn first cap).run Try.prog w = .ok (.func fn first cap) w := fun _ _ _ _ => rfl
  go_enter Try.func27, Try.ntmps27
  go_wp2
  go_ret
  exact ⟨rfl, rfl⟩
theorem Lv.cell {S : Nat → Prop} {A B : World} (k : Lv S A B) {g i : Nat} (hg : g < A.heap.size) (hS : ¬ S g) : B.cell? ⟨g, i, none⟩ = A.cell? ⟨g, i, none⟩ := by
  have := k.2 g hg hS
  simp only [World.cell?, this]
/-- One step up. -/
def upS (c : Bool) (d e : Bs) : Bs := if c then nodV e d else nodV d e
theorem step_up (c : Bool) (s e : Bs) : sumV (upV sumV c s e) = upS c (sumV s) e := by
  unfold upV upS nodV; cases c <;> rfl
def verV (m : Bs) (g : Sg) : Bs := sumV (n2V sumV (tagV sumV m) g)
theorem ver_is (m : Bs) (g : Sg) : verV m g = upS (decide (1 < g.i)) (upS (decide (g.i % 2 = 1)) (sumV (0 :: (clmV m g.rev g.oth).flatten)) (g.path.getD 0 [])) (g.path.getD 1 []) := by
  unfold verV n2V n1V lfV
  rw [step_up, step_up, clm_flat]
  rfl
/-- What lay in memory before an iterator's own blocks stays. -/
theorem far_cell {w w3 w0 W : World} {X : Nat → Prop} {g i : Nat} {v : Value} (e : Ext w w3) (he : Ext w3 w0) (hX : ∀ g, g < w3.heap.size → ¬ X g) (hv : Lv X w0 W) (h : w.cell? ⟨g, i, none⟩ = some v) : W.cell? ⟨g, i, none⟩ = some v := by
  have h3 := e.cell h
  have hlt : g < w3.heap.size := cell_lt h3
  rw [hv.cell (Nat.lt_of_lt_of_le hlt he.size) (hX g hlt)]
  exact he.cell h3
set_option maxRecDepth 100000 in
set_option maxHeartbeats 8000000 in
theorem verify_is (root m : Bs) (hr : root.length = 32) (hm : m.length < 268435456) (g : Sg) (hg : g.wf) (h0 : 0 ≤ g.i) (h4 : g.i < 4) (vR vO vP : Value) (w : World) (hR : DgS w vR g.rev) (hO : DgS w vO g.oth) (hP : DgS w vP g.path) :
    Calls Try.prog 9 #[dv root, .string (bst m), .agg (sgc g.i vR vO vP)] w fun e w' => e = .returned (.bool (verV m g == root)) ∧ Ext w w' := by
  obtain ⟨hw1, hw2, hw3, hw4, hw5, hw6⟩ := hg
  obtain ⟨gR, oR, cR, rfl, hcR⟩ := hR.at (fun e => by rw [e] at hw1; cases hw1)
  obtain ⟨gO, oO, cO, rfl, hcO⟩ := hO.at (fun e => by rw [e] at hw2; cases hw2)
  obtain ⟨gP, oP, cP, rfl, hcP⟩ := hP.at (fun e => by rw [e] at hw3; cases hw3)
  rw [hw1, hw2, hw3]
  obtain ⟨p0, p1, hpp⟩ : ∃ p0 p1, g.path = [p0, p1] := by
    match hg : g.path, hw3 with
    | [x, y], _ => exact ⟨x, y, rfl⟩
  rw [ver_is, hpp]
  obtain ⟨i, hi⟩ : ∃ i, g.i = i := ⟨_, rfl⟩
  rw [hi] at h0 h4 ⊢
  rw [hpp] at hcP hw6
  obtain ⟨rev, hrev⟩ : ∃ r, g.rev = r := ⟨_, rfl⟩
  obtain ⟨oth, hoth⟩ : ∃ r, g.oth = r := ⟨_, rfl⟩
  rw [hrev] at hw1 hw4 hcR; rw [hoth] at hw2 hw5 hcO; rw [hrev, hoth]
  clear hR hO hP hpp hi hrev hoth hw3
  show Calls _ _ _ _ fun e w' => e = .returned (.bool (upS (decide (1 < i)) (upS (decide (i % 2 = 1)) (sumV (0 :: (clmV m rev oth).flatten)) p0) p1 == root)) ∧ Ext w w'
  have q0 : p0.length = 32 := hw6 _ (by simp)
  have q1 : p1.length = 32 := hw6 _ (by simp)
  obtain ⟨W1, hW1⟩ : ∃ W, (w.alloc (.cells (dgl root).toArray 34)).alloc (.cells (sgc i (.slice (some ⟨gR, oR, none⟩) 128 cR) (.slice (some ⟨gO, oO, none⟩) 128 cO) (.slice (some ⟨gP, oP, none⟩) 2 cP)) 25) = W := ⟨_, rfl⟩
  have a3 : Arr W1 w.heap.size 34 (dgl root) := by rw [← hW1]; exact (Arr.new w (dgl root).toArray 34).ext ((Ext.refl _).alloc _)
  have b5 : Blk W1 (w.heap.size + 1) (.cells (sgc i (.slice (some ⟨gR, oR, none⟩) 128 cR) (.slice (some ⟨gO, oO, none⟩) 128 cO) (.slice (some ⟨gP, oP, none⟩) 2 cP)) 25 (0, 0)) := by rw [← hW1]; exact Blk.new _ _ (by rw [World.size_alloc])
  have e1 : Ext w W1 := by rw [← hW1]; exact ((Ext.refl w).alloc _).alloc _
  have c0 := b5.cell 0; have c1 := b5.cell 1; have c2 := b5.cell 2; have c3 := b5.cell 3
  have A3 := Lib.hid a3; have B5 := Lib.hid b5; have E1 := Lib.hid e1; have CR := Lib.hid hcR; have CO := Lib.hid hcO; have CP := Lib.hid hcP; have W4 := Lib.hid hw4; have W5 := Lib.hid hw5; have W6 := Lib.hid hw6; have L1 := Lib.hid hw1; have L2 := Lib.hid hw2
  have HCK := Lib.hid (checkV_of h0 h4 rfl rfl rfl : checkV i 128 128 2 = 0)
  clear a3 b5 e1 hcR hcO hcP hw1 hw2 hw4 hw5 hw6
  go_enter Try.func9, Try.ntmps9
  go_wp2_with fail
  refine (check_is i _ _ _ _ _ _ _ _ _ _).mono ?_
  rintro e w2 ⟨rfl, hE2⟩
  rw [HCK.out]
  have b52 := B5.out.ext hE2
  have A32 := Lib.hid (A3.out.ext hE2); have B52 := Lib.hid b52; have E2 := Lib.hid (E1.out.trans hE2)
  clear A3 B5 E1 hE2 c0 c1 c2 c3 hW1
  have c0 := b52.cell 0; have c1 := b52.cell 1; have c2 := b52.cell 2; have c3 := b52.cell 3
  clear b52
  go_wp2_with fail
  refine (claimed_any m _ _).mono ?_
  rintro e w3 ⟨rfl, hw3⟩
  have b1 : Blk w3 w2.heap.size (.cells #[.string (bst m)] 9 (0, 0)) := by rw [hw3]; exact (Blk.new w2 _ rfl).alloc _
  have b2 : Blk w3 (w2.heap.size + 1) (.cells (sgc i (.slice (some ⟨gR, oR, none⟩) 128 cR) (.slice (some ⟨gO, oO, none⟩) 128 cO) (.slice (some ⟨gP, oP, none⟩) 2 cP)) 25 (0, 0)) := by rw [hw3]; exact Blk.new _ _ (by rw [World.size_alloc])
  have e3 : Ext w2 w3 := by rw [hw3]; exact ((Ext.refl w2).alloc _).alloc _
  have E3 := Lib.hid (E2.out.trans e3); have A33 := Lib.hid (A32.out.ext e3); have B53 := Lib.hid (B52.out.ext e3)
  obtain ⟨gm, hgm⟩ : ∃ g, w2.heap.size = g := ⟨_, rfl⟩
  rw [hgm] at b1 b2 ⊢
  have B1 := Lib.hid b1; have B2 := Lib.hid b2
  clear b1 b2 e3 hw3 hgm c0 c1 c2 c3 A32 B52 E2
  go_wp2_with fail
  refine (leafOf_is 42 #[.pointer (some ⟨gm, 0, none⟩), .pointer (some ⟨gm + 1, 0, none⟩)] (clmV m rev oth) (clm_wf m rev oth L2.out W5.out) (Nat.le_of_eq (clm_len m rev oth)) w3 (enters_of Try.func42 (by kernel_rfl) rfl)
    (fun X w0 he hX => claimed_iter m hm rev oth L1.out L2.out W4.out W5.out gm (gm + 1) i _ gR oR cR gO oO cO X w0 (fun W hv => ⟨(B1.out.ext he).lv hv (hX _ B1.out.lt), (B2.out.ext he).lv hv (hX _ B2.out.lt),
      fun j x hj => (far_cell E3.out he hX hv (CR.out j x hj)), fun j x hj => (far_cell E3.out he hX hv (CO.out j x hj))⟩))).mono ?_
  rintro e w4 ⟨rfl, hE4⟩
  obtain ⟨D0, hD0⟩ : ∃ d, sumV (0 :: (clmV m rev oth).flatten) = d := ⟨_, rfl⟩
  have d0 : D0.length = 32 := by rw [← hD0]; rfl
  rw [hD0]
  obtain ⟨D1, hD1⟩ : ∃ d, upS (decide (i % 2 = 1)) D0 p0 = d := ⟨_, rfl⟩
  have d1 : D1.length = 32 := by rw [← hD1]; unfold upS; split <;> rfl
  obtain ⟨D2, hD2⟩ : ∃ d, upS (decide (1 < i)) D1 p1 = d := ⟨_, rfl⟩
  have d2 : D2.length = 32 := by rw [← hD2]; unfold upS; split <;> rfl
  obtain ⟨g7, hg7⟩ : ∃ g, w4.heap.size = g := ⟨_, rfl⟩
  obtain ⟨W7, hst, a7, e7, s7⟩ := new_dg w4 D0 d0
  rw [hg7] at hst a7 s7
  have eF := E3.out.trans (hE4.trans e7)
  have a37 := A33.out.ext (hE4.trans e7); have b57 := B53.out.ext (hE4.trans e7)
  have hres : upS (decide (1 < i)) (upS (decide (i % 2 = 1)) (sumV (0 :: (clmV m rev oth).flatten)) p0) p1 = D2 := by rw [hD0, hD1, hD2]
  obtain ⟨g3, hg3⟩ : ∃ g, w.heap.size = g := ⟨_, rfl⟩
  have hlt : g3 + 1 < g7 := by
    have h1 := ((B53.out.ext hE4)).lt
    rw [hg3, hg7] at h1; exact h1
  rw [hg3] at a37 b57 ⊢
  have HRES := Lib.hid hres; have HD1 := Lib.hid hD1; have HD2 := Lib.hid hD2; have Z0 := Lib.hid d0; have Z1 := Lib.hid d1; have Z2 := Lib.hid d2; have HG3 := Lib.hid hg3; have HLT := Lib.hid hlt
  have A7 := Lib.hid a7; have EF := Lib.hid eF; have A37 := Lib.hid a37; have B57 := Lib.hid b57
  have c0 := b57.cell 0; have c3 := b57.cell 3
  clear hD0 hD1 hD2 d0 d1 d2 hres a7 eF a37 b57 hE4 e7 hlt E3 A33 B53 B1 B2
  go_wp2_with fail
  clear hst hg7 s7 c0 c3 HCK
  go_loopw [8, 23] (fun v8 v23 wq => Arr wq g3 34 (dgl root) ∧ Ext w wq ∧ ((v23 = .int .i64 0 ∧ v8 = .int .i64 i ∧ Arr wq g7 34 (dgl D0)) ∨ (v23 = .int .i64 1 ∧ v8 = .int .i64 (i / 2) ∧ Arr wq g7 34 (dgl D1)) ∨ (v23 = .int .i64 2 ∧ v8 = .int .i64 (i / 2 / 2) ∧ Arr wq g7 34 (dgl D2)))) (fun _ v23 _ => 2 - (intOf v23).toNat)
  case atStart => exact ⟨A37.out, EF.out, .inl ⟨rfl, rfl, A7.out⟩⟩
  case round =>
    clear A37 EF A7 B57
    obtain ⟨a3, eq, hcase⟩ := hrel
    have A3 := Lib.hid a3; have EQ := Lib.hid eq; clear a3 eq
    have hgw : w.heap.size ≤ g7 := by have := HG3.out; have := HLT.out; omega
    have HGW := Lib.hid hgw; clear hgw
    rcases hcase with ⟨rfl, rfl, a7⟩ | ⟨rfl, rfl, a7⟩ | ⟨rfl, rfl, a7⟩
    · have A7 := Lib.hid a7; clear a7
      have hld := dgs_load (fun j x hj => EQ.out.cell (CP.out j x hj)) W6.out (i := 0) (d := p0) rfl
      rw [Nat.zero_mul, Nat.add_zero] at hld
      obtain ⟨gt, hgt⟩ : ∃ g, wr.heap.size = g := ⟨_, rfl⟩
      obtain ⟨W8, hst, a8, e8, s8⟩ := new_dg wr p0 q0
      rw [hgt] at hst a8 s8
      have hl7 := dg_load (A7.out.ext e8) Z0.out
      have hl8 := dg_load a8 q0
      have E8 := Lib.hid e8
      clear a8 e8
      have i0 : (0 : Int) ≤ i / 2 := by omega
      by_cases hc : i % 2 = 0
      · have hDn : nodV D0 p0 = D1 := by rw [← HD1.out]; unfold upS; rw [show decide (i % 2 = 1) = false by simp; omega]; rfl
        have HDN := Lib.hid hDn; clear hDn
        go_wp2_with fail
        refine (node_is D0 p0 Z0.out q0 _).mono ?_
        rintro e w9 ⟨rfl, hE9⟩
        rw [HDN.out]
        obtain ⟨W10, hst10, a10, x10, k10, -⟩ := put_dg ((A7.out.ext E8.out).ext hE9) (by rw [dgl_len]; exact Z0.out) D1 Z1.out
        have a3n : Arr W10 g3 34 (dgl root) := (k10 g3 (by have := HLT.out; omega)).trans ((A3.out.ext E8.out).ext hE9)
        have exn := x10 w ((EQ.out.trans E8.out).trans hE9) HGW.out
        have T0 := Lib.hid a10; have T1 := Lib.hid a3n; have T2 := Lib.hid exn
        clear a10 x10 k10 a3n exn hE9 hst hld hl7 hl8 s8 hgt
        go_wp2_with fail
        go_roundw
        case rel => exact ⟨T1.out, T2.out, .inr (.inl ⟨rfl, rfl, T0.out⟩)⟩
        case measure => simp [intOf]
      · have hDn : nodV p0 D0 = D1 := by rw [← HD1.out]; unfold upS; rw [show decide (i % 2 = 1) = true by simp; omega]; rfl
        have HDN := Lib.hid hDn; clear hDn
        go_wp2_with fail
        refine (node_is p0 D0 q0 Z0.out _).mono ?_
        rintro e w9 ⟨rfl, hE9⟩
        rw [HDN.out]
        obtain ⟨W10, hst10, a10, x10, k10, -⟩ := put_dg ((A7.out.ext E8.out).ext hE9) (by rw [dgl_len]; exact Z0.out) D1 Z1.out
        have a3n : Arr W10 g3 34 (dgl root) := (k10 g3 (by have := HLT.out; omega)).trans ((A3.out.ext E8.out).ext hE9)
        have exn := x10 w ((EQ.out.trans E8.out).trans hE9) HGW.out
        have T0 := Lib.hid a10; have T1 := Lib.hid a3n; have T2 := Lib.hid exn
        clear a10 x10 k10 a3n exn hE9 hst hld hl7 hl8 s8 hgt
        go_wp2_with fail
        go_roundw
        case rel => exact ⟨T1.out, T2.out, .inr (.inl ⟨rfl, rfl, T0.out⟩)⟩
        case measure => simp [intOf]
    · have A7 := Lib.hid a7; clear a7
      have hld := dgs_load (fun j x hj => EQ.out.cell (CP.out j x hj)) W6.out (i := 1) (d := p1) rfl
      obtain ⟨gt, hgt⟩ : ∃ g, wr.heap.size = g := ⟨_, rfl⟩
      obtain ⟨W8, hst, a8, e8, s8⟩ := new_dg wr p1 q1
      rw [hgt] at hst a8 s8
      have hl7 := dg_load (A7.out.ext e8) Z1.out
      have hl8 := dg_load a8 q1
      have E8 := Lib.hid e8
      clear a8 e8
      have i0 : (0 : Int) ≤ i / 2 := by omega
      by_cases hc : i / 2 % 2 = 0
      · have hDn : nodV D1 p1 = D2 := by rw [← HD2.out]; unfold upS; rw [show decide (1 < i) = false by simp; omega]; rfl
        have HDN := Lib.hid hDn; clear hDn
        go_wp2_with fail
        refine (node_is D1 p1 Z1.out q1 _).mono ?_
        rintro e w9 ⟨rfl, hE9⟩
        rw [HDN.out]
        obtain ⟨W10, hst10, a10, x10, k10, -⟩ := put_dg ((A7.out.ext E8.out).ext hE9) (by rw [dgl_len]; exact Z1.out) D2 Z2.out
        have a3n : Arr W10 g3 34 (dgl root) := (k10 g3 (by have := HLT.out; omega)).trans ((A3.out.ext E8.out).ext hE9)
        have exn := x10 w ((EQ.out.trans E8.out).trans hE9) HGW.out
        have T0 := Lib.hid a10; have T1 := Lib.hid a3n; have T2 := Lib.hid exn
        clear a10 x10 k10 a3n exn hE9 hst hld hl7 hl8 s8 hgt
        go_wp2_with fail
        go_roundw
        case rel => exact ⟨T1.out, T2.out, .inr (.inr ⟨rfl, rfl, T0.out⟩)⟩
        case measure => simp [intOf]
      · have hDn : nodV p1 D1 = D2 := by rw [← HD2.out]; unfold upS; rw [show decide (1 < i) = true by simp; omega]; rfl
        have HDN := Lib.hid hDn; clear hDn
        go_wp2_with fail
        refine (node_is p1 D1 q1 Z1.out _).mono ?_
        rintro e w9 ⟨rfl, hE9⟩
        rw [HDN.out]
        obtain ⟨W10, hst10, a10, x10, k10, -⟩ := put_dg ((A7.out.ext E8.out).ext hE9) (by rw [dgl_len]; exact Z1.out) D2 Z2.out
        have a3n : Arr W10 g3 34 (dgl root) := (k10 g3 (by have := HLT.out; omega)).trans ((A3.out.ext E8.out).ext hE9)
        have exn := x10 w ((EQ.out.trans E8.out).trans hE9) HGW.out
        have T0 := Lib.hid a10; have T1 := Lib.hid a3n; have T2 := Lib.hid exn
        clear a10 x10 k10 a3n exn hE9 hst hld hl7 hl8 s8 hgt
        go_wp2_with fail
        go_roundw
        case rel => exact ⟨T1.out, T2.out, .inr (.inr ⟨rfl, rfl, T0.out⟩)⟩
        case measure => simp [intOf]
    · have A7 := Lib.hid a7
      have hl7 := dg_load a7 Z2.out
      have hl3 := dg_load A3.out hr
      have heq := eql_dg Z2.out hr wr
      clear a7
      go_wp2_with fail
      go_ret
      exact ⟨congrArg (fun d => Ending.returned (.bool (d == root))) HRES.out.symm, EQ.out⟩
end Go.Proofs.Ytmmcjcaccicheaa

/- Grids of ints that a call makes and writes; contract: table. -/
import Derived.Test.YtmmppfopokbcfaaHiApp
import Derived.Test.YtmmppfopokbcfaaIter
import Derived.Laws.MakeOwn
namespace Go.Proofs.Ytmmppfopokbcfaa
open Go.RowKit

/-- A slice of R slices of C ints, each in a block of its own, all of them new from base on. -/
structure Gr (g : Nat) (b : Nat → Nat) (R C : Nat) (F : Nat → Nat → Int) (base : Nat) (w : World) : Prop where
  row : ∀ i, i < R → w.cell? ⟨g, i, none⟩ = some (.slice (some ⟨b i, 0, none⟩) C C)
  cell : ∀ i k, i < R → k < C → w.cell? ⟨b i, k, none⟩ = some (.int .i64 (F i k))
  free : ∀ i k, i < R → k < C → w.frozen? ⟨b i, k, none⟩ = false
  inj : ∀ i j, i < R → j < R → b i = b j → i = j
  out : ∀ i, i < R → b i ≠ g
  lt : ∀ i, i < R → b i < w.heap.size
  gt : ∀ i, i < R → base ≤ b i
  glt : g < w.heap.size
  ggt : base ≤ g
section
variable {g R C base : Nat} {b : Nat → Nat} {F G : Nat → Nat → Int} {w w' : World}
theorem Gr.ext (h : Gr g b R C F base w) (e : Ext w w') : Gr g b R C F base w' :=
  ⟨fun i hi => e.cell (h.row i hi), fun i k hi hk => e.cell (h.cell i k hi hk), fun i k hi hk => (e.frozen (h.lt i hi)).trans (h.free i k hi hk), h.inj, h.out, fun i hi => Nat.lt_of_lt_of_le (h.lt i hi) e.size, h.gt, Nat.lt_of_lt_of_le h.glt e.size, h.ggt⟩
theorem Gr.congr (h : Gr g b R C F base w) (he : ∀ i k, i < R → k < C → F i k = G i k) : Gr g b R C G base w :=
  ⟨h.row, fun i k hi hk => by rw [h.cell i k hi hk, he i k hi hk], h.free, h.inj, h.out, h.lt, h.gt, h.glt, h.ggt⟩
theorem size_setCell (w : World) (p : Addr) (u : Value) : w.heap.size ≤ (w.setCell p u).heap.size := Below.size (Below.setCell (Below.refl 0 w) (p := p) (Nat.zero_le _) u)
theorem Gr.set (h : Gr g b R C F base w) {i0 k0 : Nat} (hi0 : i0 < R) (hk0 : k0 < C) (x : Int) : Gr g b R C (fun i k => if i = i0 ∧ k = k0 then x else F i k) base (w.setCell ⟨b i0, k0, none⟩ (.int .i64 x)) := by
  have hs := size_setCell w ⟨b i0, k0, none⟩ (.int .i64 x)
  refine ⟨fun i hi => ?_, fun i k hi hk => ?_, fun i k hi hk => by rw [World.frozen?_setCell]; exact h.free i k hi hk, h.inj, h.out, fun i hi => Nat.lt_of_lt_of_le (h.lt i hi) hs, h.gt, Nat.lt_of_lt_of_le h.glt hs, h.ggt⟩
  · rw [World.cell?_setCell_other _ _ _ _ (fun e => h.out i0 hi0 (by injection e))]
    exact h.row i hi
  · by_cases he : i = i0 ∧ k = k0
    · obtain ⟨rfl, rfl⟩ := he
      rw [World.cell?_setCell_same _ _ _ (h.cell i k hi hk), if_pos ⟨rfl, rfl⟩]
    · rw [if_neg he, World.cell?_setCell_other _ _ _ _ (fun e => he ?_)]
      · exact h.cell i k hi hk
      · injection e with e1 e2
        exact ⟨h.inj i i0 hi hi0 e1.symm, e2.symm⟩
theorem Gr.far (h : Gr g b R C F base w) {c j : Nat} (hc : c ≠ g) (hb : ∀ i, i < R → c ≠ b i) (u : Value) : Gr g b R C F base (w.setCell ⟨c, j, none⟩ u) := by
  have hs := size_setCell w ⟨c, j, none⟩ u
  refine ⟨fun i hi => ?_, fun i k hi hk => ?_, fun i k hi hk => by rw [World.frozen?_setCell]; exact h.free i k hi hk, h.inj, h.out, fun i hi => Nat.lt_of_lt_of_le (h.lt i hi) hs, h.gt, Nat.lt_of_lt_of_le h.glt hs, h.ggt⟩
  · rw [World.cell?_setCell_other _ _ _ _ (fun e => hc (by injection e))]
    exact h.row i hi
  · rw [World.cell?_setCell_other _ _ _ _ (fun e => hb i hi (by injection e))]
    exact h.cell i k hi hk
end
theorem made_at (z : Value) {n k : Nat} (h : k < n) : (madeCells #[z] n)[k]? = some z := by
  unfold madeCells
  rw [Array.getElem?_map, Array.getElem?_range, if_pos h]
  simp [Nat.mod_one]
theorem infoIn : (Try.prog.info? 3).map (fun i => (i.zero, i.size, i.bytes)) = some (some (.int .i64 0), 1, 8) := by kernel_rfl
theorem infoSl : (Try.prog.info? 67).map (fun i => (i.zero, i.size, i.bytes)) = some (some (.slice none 0 0), 1, 24) := by kernel_rfl
theorem make_ints (w : World) (n : Nat) (hn : n ≤ 1000) : (Instr.makeSlice 67 (.int .i64 n) (.int .i64 n)).run Try.prog w = .ok (.slice (some ⟨w.heap.size, 0, none⟩) n n) (w.alloc (.cells (madeCells #[.int .i64 0] n) 3)) := by
  obtain ⟨inf, i1, i2, i3, i4⟩ := info_of infoIn
  have := run_make (P := Try.prog) w 67 3 inf (.int .i64 0) Try.underlying67 i1 i2 .i64 .i64 (n : Int) (n : Int) (by omega) (Int.le_refl _) (by rw [i4]; omega) (by omega)
  rw [i3, Nat.mul_one] at this
  simpa [Value.cells] using this
theorem make_slices (w : World) (n : Nat) (hn : n ≤ 1000) : (Instr.makeSlice 65 (.int .i64 n) (.int .i64 n)).run Try.prog w = .ok (.slice (some ⟨w.heap.size, 0, none⟩) n n) (w.alloc (.cells (madeCells #[.slice none 0 0] n) 67)) := by
  obtain ⟨inf, i1, i2, i3, i4⟩ := info_of infoSl
  have := run_make (P := Try.prog) w 65 67 inf (.slice none 0 0) Try.underlying65 i1 i2 .i64 .i64 (n : Int) (n : Int) (by omega) (Int.le_refl _) (by rw [i4]; omega) (by omega)
  rw [i3, Nat.mul_one] at this
  simpa [Value.cells] using this
/-- The first i rows of a grid that is being made: all of them zero. -/
def Half (g R C i : Nat) (w : World) : Prop :=
  (∀ j, j < i → w.cell? ⟨g, j, none⟩ = some (.slice (some ⟨g + 1 + j, 0, none⟩) C C)) ∧ (∀ j, i ≤ j → j < R → w.cell? ⟨g, j, none⟩ = some (.slice none 0 0)) ∧ (∀ j, j < R → w.frozen? ⟨g, j, none⟩ = false) ∧
  (∀ j k, j < i → k < C → w.cell? ⟨g + 1 + j, k, none⟩ = some (.int .i64 0) ∧ w.frozen? ⟨g + 1 + j, k, none⟩ = false) ∧ w.heap.size = g + 1 + i
theorem alloc_cell {w : World} {cs : Array Value} {t : TypeId} {j : Nat} {v : Value} (h : cs[j]? = some v) : (w.alloc (.cells cs t)).cell? ⟨w.heap.size, j, none⟩ = some v ∧ (w.alloc (.cells cs t)).frozen? ⟨w.heap.size, j, none⟩ = false := by
  have hb := Blk.new w (.cells cs t) rfl
  have hb2 : (w.alloc (.cells cs t)).heap[w.heap.size]? = some (.cells cs t (0, 0)) := hb
  exact ⟨by rw [World.cell?, hb2]; simpa using h, by rw [World.frozen?, hb2]; simp⟩

set_option maxRecDepth 100000 in
set_option maxHeartbeats 8000000 in
theorem table_any (R C : Nat) (w : World) (hR : R ≤ 1000) (hC : C ≤ 1000) :
    Calls Try.prog 46 #[.int .i64 R, .int .i64 C] w fun e w' => ∃ b, e = .returned (.slice (some ⟨w.heap.size, 0, none⟩) R R) ∧ Gr w.heap.size b R C (fun _ _ => 0) w.heap.size w' ∧ Ext w w' := by
  have hm := make_slices w R hR
  obtain ⟨g, hg⟩ : ∃ g, w.heap.size = g := ⟨_, rfl⟩
  have hE1 : Ext w (w.alloc (.cells (madeCells #[.slice none 0 0] R) 67)) := (Ext.refl w).alloc _
  have hH : Half g R C 0 (w.alloc (.cells (madeCells #[.slice none 0 0] R) 67)) := by
    rw [← hg]
    refine ⟨fun j hj => absurd hj (by omega), fun j _ hj => (alloc_cell (made_at _ hj)).1, fun j hj => (alloc_cell (made_at _ hj)).2, fun j k hj => absurd hj (by omega), by simp⟩
  obtain ⟨W1, hW1⟩ : ∃ W1, w.alloc (.cells (madeCells #[.slice none 0 0] R) 67) = W1 := ⟨_, rfl⟩
  rw [hW1] at hm hE1 hH
  rw [hg] at hm ⊢
  have HE1 := Lib.hid hE1; have HH := Lib.hid hH; have HG := Lib.hid hg; clear hW1 hE1 hH
  go_enter Try.func46, Try.ntmps46
  go_wp2_with fail
  go_loopw [11] (fun v11 wr => ∃ i : Nat, i ≤ R ∧ v11 = .int .i64 i ∧ Half g R C i wr ∧ Ext w wr) (fun v11 _ => R - (intOf v11).toNat)
  case atStart => exact ⟨0, Nat.zero_le _, rfl, HH.out, HE1.out⟩
  case round =>
    obtain ⟨i, hi, rfl, ⟨h1, h2, h3, h4, h5⟩, hE⟩ := hrel
    have HE := Lib.hid hE; clear hE
    by_cases hlt : i < R
    · have hmi := make_ints wr C hC
      have hE2 : Ext wr (wr.alloc (.cells (madeCells #[.int .i64 0] C) 3)) := (Ext.refl wr).alloc _
      have hnew : ∀ k, k < C → (wr.alloc (.cells (madeCells #[.int .i64 0] C) 3)).cell? ⟨g + 1 + i, k, none⟩ = some (.int .i64 0) ∧ (wr.alloc (.cells (madeCells #[.int .i64 0] C) 3)).frozen? ⟨g + 1 + i, k, none⟩ = false := by
        intro k hk
        rw [← h5]
        exact alloc_cell (made_at _ hk)
      have hsz2 : (wr.alloc (.cells (madeCells #[.int .i64 0] C) 3)).heap.size = g + 1 + i + 1 := by simp [h5]
      rw [h5] at hmi
      obtain ⟨W2, hW2⟩ : ∃ W2, wr.alloc (.cells (madeCells #[.int .i64 0] C) 3) = W2 := ⟨_, rfl⟩
      rw [hW2] at hmi hE2 hnew hsz2
      have c0 := hE2.cell (h2 i (Nat.le_refl _) hlt)
      have f0 : W2.frozen? ⟨g, i, none⟩ = false := (hE2.frozen (by show g < wr.heap.size; omega)).trans (h3 i hlt)
      have HE2 := Lib.hid hE2; have HNEW := Lib.hid hnew; have H1 := Lib.hid h1; have H2 := Lib.hid h2; have H3 := Lib.hid h3; have H4 := Lib.hid h4; clear hE2 hnew h1 h2 h3 h4 hW2
      have hgs : g < wr.heap.size := by omega
      go_wp2_with fail
      go_roundw
      case rel =>
        have hss : (W2.setCell ⟨g, i, none⟩ (.slice (some ⟨g + 1 + i, 0, none⟩) C C)).heap.size = g + 1 + (i + 1) := by simp [World.setCell, hsz2]; omega
        refine ⟨i + 1, by omega, by go_num, ⟨fun j hj => ?_, fun j hj hjR => ?_, fun j hj => ?_, fun j k hj hk => ?_, hss⟩, (HE.out.trans HE2.out).setCell (by rw [HG.out]; exact Nat.le_refl _) _⟩
        · by_cases hji : j = i
          · subst hji; exact World.cell?_setCell_same _ _ _ c0
          · rw [World.cell?_setCell_other _ _ _ _ (fun e => hji (by injection e with _ e2; exact e2.symm))]
            exact HE2.out.cell (H1.out j (by omega))
        · rw [World.cell?_setCell_other _ _ _ _ (fun e => by injection e with _ e2; omega)]
          exact HE2.out.cell (H2.out j (by omega) hjR)
        · rw [World.frozen?_setCell]
          exact (HE2.out.frozen hgs).trans (H3.out j hj)
        · rw [World.frozen?_setCell, World.cell?_setCell_other _ _ _ _ (fun e => by injection e with e1 _; omega)]
          by_cases hji : j = i
          · subst hji; exact HNEW.out k hk
          · obtain ⟨p1, p2⟩ := H4.out j k (by omega) hk
            exact ⟨HE2.out.cell p1, (HE2.out.frozen (by show g + 1 + j < wr.heap.size; omega)).trans p2⟩
      case measure => simp [intOf]; omega
    · have hiR : i = R := by omega
      have HH2 := Lib.hid (show Half g R C R wr by rw [← hiR]; exact ⟨h1, h2 |> fun h => by simpa [hiR] using h, by simpa [hiR] using h3, h4, h5⟩)
      clear h1 h2 h3 h4 h5
      go_wp2_with fail
      go_ret
      obtain ⟨h1, h2, h3, h4, h5⟩ := HH2.out
      exact ⟨fun i => g + 1 + i, rfl, ⟨h1, fun i k hi hk => (h4 i k hi hk).1, fun i k hi hk => (h4 i k hi hk).2, fun i j _ _ e => by omega, fun i _ => by omega, fun i hi => by omega, fun i _ => by omega, by omega, Nat.le_refl _⟩, HE.out⟩
end Go.Proofs.Ytmmppfopokbcfaa

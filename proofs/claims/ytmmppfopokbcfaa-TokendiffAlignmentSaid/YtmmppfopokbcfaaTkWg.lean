/- Two grids whose rows are made one after the other, from the last one on. -/
import Derived.Test.YtmmppfopokbcfaaTkGrid
namespace Go.Proofs.Ytmmppfopokbcfaa
open Go.RowKit

structure Wg (g : Bool → Nat) (b : Bool → Nat → Nat) (p R C : Nat) (F : Bool → Nat → Nat → Int) (base : Nat) (w : World) : Prop where
  row : ∀ d i, p ≤ i → i < R → w.cell? ⟨g d, i, none⟩ = some (.slice (some ⟨b d i, 0, none⟩) C C)
  gap : ∀ d i, i < p → i < R → w.cell? ⟨g d, i, none⟩ = some (.slice none 0 0)
  gfree : ∀ d i, i < R → w.frozen? ⟨g d, i, none⟩ = false
  cell : ∀ d i k, p ≤ i → i < R → k < C → w.cell? ⟨b d i, k, none⟩ = some (.int .i64 (F d i k))
  free : ∀ d i k, p ≤ i → i < R → k < C → w.frozen? ⟨b d i, k, none⟩ = false
  inj : ∀ d d' i i', p ≤ i → i < R → p ≤ i' → i' < R → b d i = b d' i' → d = d' ∧ i = i'
  out : ∀ d d' i, p ≤ i → i < R → b d i ≠ g d'
  gne : g true ≠ g false
  lt : ∀ d i, p ≤ i → i < R → b d i < w.heap.size
  gt : ∀ d i, p ≤ i → i < R → base ≤ b d i
  glt : ∀ d, g d < w.heap.size
  ggt : ∀ d, base ≤ g d
section
variable {g : Bool → Nat} {b : Bool → Nat → Nat} {p R C base : Nat} {F G : Bool → Nat → Nat → Int} {w w' : World}
theorem Wg.ext (h : Wg g b p R C F base w) (e : Ext w w') : Wg g b p R C F base w' :=
  ⟨fun d i h1 h2 => e.cell (h.row d i h1 h2), fun d i h1 h2 => e.cell (h.gap d i h1 h2), fun d i h1 => (e.frozen (h.glt d)).trans (h.gfree d i h1), fun d i k h1 h2 h3 => e.cell (h.cell d i k h1 h2 h3),
    fun d i k h1 h2 h3 => (e.frozen (h.lt d i h1 h2)).trans (h.free d i k h1 h2 h3), h.inj, h.out, h.gne, fun d i h1 h2 => Nat.lt_of_lt_of_le (h.lt d i h1 h2) e.size, h.gt, fun d => Nat.lt_of_lt_of_le (h.glt d) e.size, h.ggt⟩
theorem Wg.gin (h : Wg g b p R C F base w) {d d' : Bool} (e : g d = g d') : d = d' := by
  have := h.gne
  cases d <;> cases d' <;> simp_all
theorem Wg.set (h : Wg g b p R C F base w) (d0 : Bool) {i0 k0 : Nat} (h0 : p ≤ i0) (hi0 : i0 < R) (x : Int) :
    Wg g b p R C (fun d i k => if d = d0 ∧ i = i0 ∧ k = k0 then x else F d i k) base (w.setCell ⟨b d0 i0, k0, none⟩ (.int .i64 x)) := by
  have hs := size_setCell w ⟨b d0 i0, k0, none⟩ (.int .i64 x)
  refine ⟨fun d i h1 h2 => ?_, fun d i h1 h2 => ?_, fun d i h1 => by rw [World.frozen?_setCell]; exact h.gfree d i h1, fun d i k h1 h2 h3 => ?_, fun d i k h1 h2 h3 => by rw [World.frozen?_setCell]; exact h.free d i k h1 h2 h3, h.inj, h.out, h.gne,
    fun d i h1 h2 => Nat.lt_of_lt_of_le (h.lt d i h1 h2) hs, h.gt, fun d => Nat.lt_of_lt_of_le (h.glt d) hs, h.ggt⟩
  · rw [World.cell?_setCell_other _ _ _ _ (fun e => h.out d0 d i0 h0 hi0 (by injection e))]
    exact h.row d i h1 h2
  · rw [World.cell?_setCell_other _ _ _ _ (fun e => h.out d0 d i0 h0 hi0 (by injection e))]
    exact h.gap d i h1 h2
  · by_cases he : d = d0 ∧ i = i0 ∧ k = k0
    · obtain ⟨rfl, rfl, rfl⟩ := he
      rw [World.cell?_setCell_same _ _ _ (h.cell d i k h1 h2 h3), if_pos ⟨rfl, rfl, rfl⟩]
    · rw [if_neg he, World.cell?_setCell_other _ _ _ _ (fun e => he ?_)]
      · exact h.cell d i k h1 h2 h3
      · injection e with e1 e2
        obtain ⟨e3, e4⟩ := h.inj d0 d i0 i h0 hi0 h1 h2 e1
        exact ⟨e3.symm, e4.symm, e2.symm⟩
theorem Wg.congr (h : Wg g b p R C F base w) (he : ∀ d i k, F d i k = G d i k) : Wg g b p R C G base w := by
  have : F = G := by funext d i k; exact he d i k
  rw [← this]; exact h
/-- Two rows more. -/
theorem Wg.push (h : Wg g b (p + 1) R C F base w) (hp : p < R) (n : Bool → Nat) (hne : n true ≠ n false) (hge : ∀ d, w.heap.size ≤ n d) (hlt : ∀ d, n d < w'.heap.size) (hb : base ≤ w.heap.size)
    (hrow : ∀ d, w'.cell? ⟨g d, p, none⟩ = some (.slice (some ⟨n d, 0, none⟩) C C))
    (keep : ∀ a v, w.cell? a = some v → (∀ d, a ≠ ⟨g d, p, none⟩) → w'.cell? a = some v)
    (kfree : ∀ a : Addr, a.block < w.heap.size → w'.frozen? a = w.frozen? a) (hs : w.heap.size ≤ w'.heap.size)
    (hz : ∀ d k, k < C → w'.cell? ⟨n d, k, none⟩ = some (.int .i64 0) ∧ w'.frozen? ⟨n d, k, none⟩ = false) :
    Wg g (fun d i => if i = p then n d else b d i) p R C (fun d i k => if i = p then 0 else F d i k) base w' := by
  have lt0 : ∀ d i, p ≤ i → i < R → i ≠ p → b d i < w.heap.size := fun d i h1 h2 h3 => h.lt d i (by omega) h2
  refine ⟨fun d i h1 h2 => ?_, fun d i h1 h2 => ?_, fun d i h1 => ?_, fun d i k h1 h2 h3 => ?_, fun d i k h1 h2 h3 => ?_, fun d d' i i' h1 h2 h3 h4 e => ?_, fun d d' i h1 h2 => ?_, h.gne, fun d i h1 h2 => ?_, fun d i h1 h2 => ?_, fun d => ?_, h.ggt⟩
  · by_cases hi : i = p
    · subst hi; rw [if_pos rfl]; exact hrow d
    · rw [if_neg hi]
      exact keep _ _ (h.row d i (by omega) h2) (fun d' e => hi (by injection e))
  · exact keep _ _ (h.gap d i (by omega) h2) (fun d' e => by injection e; omega)
  · rw [kfree _ (h.glt d)]; exact h.gfree d i h1
  · by_cases hi : i = p
    · rw [if_pos hi, if_pos hi]; exact (hz d k h3).1
    · rw [if_neg hi, if_neg hi]
      exact keep _ _ (h.cell d i k (by omega) h2 h3) (fun d' e => h.out d d' i (by omega) h2 (by injection e))
  · by_cases hi : i = p
    · rw [if_pos hi]; exact (hz d k h3).2
    · rw [if_neg hi, kfree _ (lt0 d i h1 h2 hi)]
      exact h.free d i k (by omega) h2 h3
  · by_cases hi : i = p <;> by_cases hi' : i' = p
    · rw [if_pos hi, if_pos hi'] at e
      refine ⟨?_, by omega⟩
      cases d <;> cases d' <;> first | rfl | exact absurd e hne | exact absurd e.symm hne
    · rw [if_pos hi, if_neg hi'] at e
      have := lt0 d' i' h3 h4 hi'; have := hge d; omega
    · rw [if_neg hi, if_pos hi'] at e
      have := lt0 d i h1 h2 hi; have := hge d'; omega
    · rw [if_neg hi, if_neg hi'] at e
      exact h.inj d d' i i' (by omega) h2 (by omega) h4 e
  · by_cases hi : i = p
    · rw [if_pos hi]
      have := hge d; have := h.glt d'; omega
    · rw [if_neg hi]; exact h.out d d' i (by omega) h2
  · by_cases hi : i = p
    · rw [if_pos hi]; exact hlt d
    · rw [if_neg hi]; exact Nat.lt_of_lt_of_le (lt0 d i h1 h2 hi) hs
  · by_cases hi : i = p
    · rw [if_pos hi]; exact Nat.le_trans hb (hge d)
    · rw [if_neg hi]; exact h.gt d i (by omega) h2
  · exact Nat.lt_of_lt_of_le (h.glt d) hs
end
/-- Both rows laid in either order, and the stores behind. -/
theorem Wg.made {g : Bool → Nat} {b : Bool → Nat → Nat} {p R C base : Nat} {F : Bool → Nat → Nat → Int} {w : World} {t : TypeId} (h : Wg g b (p + 1) R C F base w) (hp : p < R) (hb : base ≤ w.heap.size) (n : Bool → Nat) (hn : (n true = w.heap.size ∧ n false = w.heap.size + 1) ∨ (n true = w.heap.size + 1 ∧ n false = w.heap.size)) :
    Wg g (fun d i => if i = p then n d else b d i) p R C (fun d i k => if i = p then 0 else F d i k) base
      ((((w.setCell ⟨g true, p, none⟩ (.slice (some ⟨n true, 0, none⟩) C C)).setCell ⟨g false, p, none⟩ (.slice (some ⟨n false, 0, none⟩) C C)).alloc (.cells (madeCells #[.int .i64 0] C) t)).alloc (.cells (madeCells #[.int .i64 0] C) t)) := by
  obtain ⟨w1, hw1⟩ : ∃ w1, w.setCell ⟨g true, p, none⟩ (.slice (some ⟨n true, 0, none⟩) C C) = w1 := ⟨_, rfl⟩
  obtain ⟨w2, hw2⟩ : ∃ w2, w1.setCell ⟨g false, p, none⟩ (.slice (some ⟨n false, 0, none⟩) C C) = w2 := ⟨_, rfl⟩
  have s1 : w1.heap.size = w.heap.size := by rw [← hw1]; simp [World.setCell]
  have s2 : w2.heap.size = w.heap.size := by rw [← hw2]; simp [World.setCell, s1]
  rw [hw1, hw2]
  have hne : g true ≠ g false := h.gne
  have e2 : Ext w2 (w2.alloc (.cells (madeCells #[.int .i64 0] C) t)) := (Ext.refl w2).alloc _
  obtain ⟨w3, hw3⟩ : ∃ w3, w2.alloc (.cells (madeCells #[.int .i64 0] C) t) = w3 := ⟨_, rfl⟩
  rw [hw3] at e2 ⊢
  have s3 : w3.heap.size = w.heap.size + 1 := by rw [← hw3]; simp [s2]
  have e3 : Ext w3 (w3.alloc (.cells (madeCells #[.int .i64 0] C) t)) := (Ext.refl w3).alloc _
  have s4 : (w3.alloc (.cells (madeCells #[.int .i64 0] C) t)).heap.size = w.heap.size + 2 := by simp [s3]
  have z1 : ∀ k, k < C → (w3.alloc (.cells (madeCells #[.int .i64 0] C) t)).cell? ⟨w.heap.size + 1, k, none⟩ = some (.int .i64 0) ∧ (w3.alloc (.cells (madeCells #[.int .i64 0] C) t)).frozen? ⟨w.heap.size + 1, k, none⟩ = false := by
    intro k hk
    rw [← s3]
    exact alloc_cell (made_at _ hk)
  have z0 : ∀ k, k < C → w3.cell? ⟨w.heap.size, k, none⟩ = some (.int .i64 0) ∧ w3.frozen? ⟨w.heap.size, k, none⟩ = false := by
    intro k hk
    rw [← s2, ← hw3]
    exact alloc_cell (made_at _ hk)
  obtain ⟨w4, hw4⟩ : ∃ w4, w3.alloc (.cells (madeCells #[.int .i64 0] C) t) = w4 := ⟨_, rfl⟩
  rw [hw4] at e3 s4 z1 ⊢
  have e24 : Ext w2 w4 := e2.trans e3
  have r1 : w2.cell? ⟨g true, p, none⟩ = some (.slice (some ⟨n true, 0, none⟩) C C) := by
    rw [← hw2, World.cell?_setCell_other _ _ _ _ (fun e => hne (by injection e with e1 _; exact e1.symm)), ← hw1]
    exact World.cell?_setCell_same _ _ _ (h.gap true p (by omega) hp)
  have r2 : w2.cell? ⟨g false, p, none⟩ = some (.slice (some ⟨n false, 0, none⟩) C C) := by
    rw [← hw2]
    refine World.cell?_setCell_same _ _ _ (u := .slice none 0 0) ?_
    rw [← hw1, World.cell?_setCell_other _ _ _ _ (fun e => hne (by injection e))]
    exact h.gap false p (by omega) hp
  refine h.push hp n ?_ ?_ ?_ hb ?_ ?_ ?_ ?_ ?_
  · omega
  · intro d; cases d <;> omega
  · intro d; cases d <;> omega
  · intro d
    cases d
    · exact e24.cell r2
    · exact e24.cell r1
  · intro a v hv hd
    refine e24.cell ?_
    rw [← hw2, World.cell?_setCell_other _ _ _ _ (fun e => hd false e.symm), ← hw1, World.cell?_setCell_other _ _ _ _ (fun e => hd true e.symm)]
    exact hv
  · intro a ha
    rw [e24.frozen (by omega), ← hw2, World.frozen?_setCell, ← hw1, World.frozen?_setCell]
  · omega
  · intro d k hk
    have q0 := z0 k hk
    have q0' : w4.cell? ⟨w.heap.size, k, none⟩ = some (.int .i64 0) ∧ w4.frozen? ⟨w.heap.size, k, none⟩ = false := ⟨e3.cell q0.1, (e3.frozen (by show w.heap.size < w3.heap.size; omega)).trans q0.2⟩
    rcases hn with ⟨n1, n2⟩ | ⟨n1, n2⟩ <;> cases d
    · rw [n2]; exact z1 k hk
    · rw [n1]; exact q0'
    · rw [n2]; exact q0'
    · rw [n1]; exact z1 k hk
end Go.Proofs.Ytmmppfopokbcfaa

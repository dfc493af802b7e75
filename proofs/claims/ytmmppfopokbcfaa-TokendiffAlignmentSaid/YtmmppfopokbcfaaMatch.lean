/- Matches: their values in memory. -/
import Derived.Test.YtmmppfopokbcfaaMem
namespace Go.Proofs.Ytmmppfopokbcfaa
open Go.RowKit

/-- A match. -/
structure Mt where
  a : Int
  b : Int
  n : Int
deriving DecidableEq
def Mt.cells (m : Mt) : List Value := [.int .i64 m.a, .int .i64 m.b, .int .i64 m.n]
def Mt.val (m : Mt) : Value := .agg #[.int .i64 m.a, .int .i64 m.b, .int .i64 m.n]
abbrev Mt.obj (m : Mt) : Obj := .cells #[.int .i64 m.a, .int .i64 m.b, .int .i64 m.n] 55
def I64 (x : Int) : Prop := -9223372036854775808 ≤ x ∧ x ≤ 9223372036854775807
def Mt.wf (m : Mt) : Prop := I64 m.a ∧ I64 m.b ∧ I64 m.n
theorem mt_cells_len (m : Mt) : m.cells.length = 3 := rfl

theorem flat_len {α : Type} {f : α → List Value} {k : Nat} (hf : ∀ x, (f x).length = k) : ∀ l : List α, (l.flatMap f).length = l.length * k
  | [] => by simp
  | x :: l => by rw [List.flatMap_cons, List.length_append, hf, flat_len hf l, List.length_cons, Nat.add_mul]; omega
theorem flat_get {α : Type} {f : α → List Value} {k : Nat} (hf : ∀ x, (f x).length = k) : ∀ (l : List α) (i j : Nat) (x : α), l[i]? = some x → j < k → (l.flatMap f)[i * k + j]? = (f x)[j]?
  | [], i, j, x, h, _ => by simp at h
  | y :: l, 0, j, x, h, hj => by
    obtain rfl : y = x := by simpa using h
    rw [List.flatMap_cons, Nat.zero_mul, Nat.zero_add, List.getElem?_append_left (by rw [hf]; exact hj)]
  | y :: l, i + 1, j, x, h, hj => by
    rw [List.flatMap_cons, List.getElem?_append_right (by rw [hf, Nat.add_mul]; omega), hf]
    rw [show (i + 1) * k + j - k = i * k + j by rw [Nat.add_mul]; omega]
    exact flat_get hf l i j x (by simpa using h) hj

/-- From address A on lie the n matches ms. -/
def Mts (w : World) (A : Option Addr) (n : Nat) (ms : List Mt) : Prop := ms.length = n ∧ (∀ m ∈ ms, m.wf) ∧ Cells w A (ms.flatMap Mt.cells)
section
variable {w w' : World} {A : Option Addr} {n : Nat} {ms : List Mt}
theorem Mts.ext (h : Mts w A n ms) (e : Ext w w') : Mts w' A n ms := ⟨h.1, h.2.1, h.2.2.ext e⟩
theorem Mts.get (h : Mts w A n ms) {k : Nat} (hk : k < n) : ∃ b off m, A = some ⟨b, off, none⟩ ∧ b < w.heap.size ∧ ms[k]? = some m ∧ m.wf ∧ w.cell? ⟨b, off + k * 3, none⟩ = some (.int .i64 m.a) ∧ w.cell? ⟨b, off + k * 3 + 1, none⟩ = some (.int .i64 m.b) ∧ w.cell? ⟨b, off + k * 3 + 2, none⟩ = some (.int .i64 m.n) := by
  have hl : k < ms.length := by rw [h.1]; exact hk
  have hlf := flat_len mt_cells_len ms
  obtain ⟨b, off, h1, h2, h3⟩ := h.2.2.get (k := k * 3) (by rw [hlf]; omega)
  have hx : ms[k]? = some ms[k] := List.getElem?_eq_getElem hl
  have g := fun j hj => flat_get mt_cells_len ms k j _ hx hj
  refine ⟨b, off, ms[k], h1, h2, hx, h.2.1 _ (List.getElem_mem hl), ?_, ?_, ?_⟩
  · have := h3 (k * 3 + 0) (.int .i64 ms[k].a) (by rw [g 0 (by omega)]; rfl); simpa using this
  · have := h3 (k * 3 + 1) (.int .i64 ms[k].b) (by rw [g 1 (by omega)]; rfl); simpa [Nat.add_assoc] using this
  · have := h3 (k * 3 + 2) (.int .i64 ms[k].n) (by rw [g 2 (by omega)]; rfl); simpa [Nat.add_assoc] using this
theorem Mts.nil (w : World) (A : Option Addr) : Mts w A 0 [] := ⟨rfl, by simp, Cells.nil w _⟩
end

theorem nd {p : Prop} [Decidable p] (h : ¬ p) : decide p = false := by simpa using h
theorem yd {p : Prop} [Decidable p] (h : p) : decide p = true := by simpa using h
end Go.Proofs.Ytmmppfopokbcfaa

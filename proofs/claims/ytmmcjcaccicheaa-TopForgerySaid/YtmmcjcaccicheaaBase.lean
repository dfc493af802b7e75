/- Plain laws on memory, for all proofs of this seat: new memory alone ('Ext'), the cells behind a slice ('Cells'), a slice of strings ('Strs'). No condition. -/
import Derived.Test.YtmmcjcaccicheaaRows
import Derived.WalkKit
import Derived.WalkLawsBesides
import Derived.WalkSpells
import Derived.Deep.QuietTactic
import Derived.BigQuiet
import Derived.Deep.DeepMust
import Derived.Deep.DeepFit
import Derived.Deep.Draws
import Derived.Deep.Slices
import Derived.Deep.Strs
import Derived.Deep.Fields
import Derived.Lib.Hide
import Derived.Lib.SmallJoins
import Derived.SliceStrings
import Derived.OrdersHeld
namespace Go.Proofs.Ytmmcjcaccicheaa
open Go.RowKit

/-! ### New memory alone -/

/-- w' is w with new memory at most. -/
def Ext (w w' : World) : Prop := Below w.heap.size w w'

section
variable {w w' w'' : World}
theorem Ext.refl (w : World) : Ext w w := Below.refl _ _
theorem Ext.size (h : Ext w w') : w.heap.size ≤ w'.heap.size := Below.size h
theorem Ext.trans (h : Ext w w') (k : Ext w' w'') : Ext w w'' := Below.trans h (Below.mono k h.size)
theorem Ext.drew (h : Ext w w') : Ext w w'.drew := Below.drew h
theorem Ext.drewN (h : Ext w w') (n : Nat) : Ext w (w'.drewN n) := h.trans (Go.Joins.below_draws _ w' n)
theorem Ext.alloc (h : Ext w w') (o : Obj) : Ext w (w'.alloc o) := Below.alloc h h.size o
theorem Ext.setCell (h : Ext w w') {p : Addr} (hp : w.heap.size ≤ p.block) (u : Value) : Ext w (w'.setCell p u) := Below.setCell h hp u
theorem Ext.grown (h : Ext w w') {row : Option Nat} (hg : w'.grownBy w'' row) (hr : ∀ k, row = some k → w.heap.size ≤ k) : Ext w w'' := Below.grown h hg h.size hr
theorem Ext.below (h : Ext w w') {B : Nat} (hB : B ≤ w.heap.size) : Below B w w' := Below.mono h hB
theorem Ext.of (h : Below w.heap.size w w') : Ext w w' := h
theorem Ext.to (h : Ext w w') : Below w.heap.size w w' := h

theorem cell_lt {p : Addr} {v : Value} (hc : w.cell? p = some v) : p.block < w.heap.size := by
  rcases Nat.lt_or_ge p.block w.heap.size with h | h
  · exact h
  · simp [World.cell?, Array.getElem?_eq_none h] at hc

theorem Ext.cell (h : Ext w w') {p : Addr} {v : Value} (hc : w.cell? p = some v) : w'.cell? p = some v := (Below.cell h (cell_lt hc)).trans hc
theorem Ext.frozen (h : Ext w w') {p : Addr} (hp : p.block < w.heap.size) : w'.frozen? p = w.frozen? p := Below.frozen h hp
theorem Ext.block (h : Ext w w') {g : Nat} {o : Obj} (hb : w.heap[g]? = some o) : w'.heap[g]? = some o := by
  have : g < w.heap.size := by
    rcases Nat.lt_or_ge g w.heap.size with h | h
    · exact h
    · simp [Array.getElem?_eq_none h] at hb
  exact (Below.block h g this).trans hb
end

/-! ### A block that is known -/

/-- Block g is o. -/
def Blk (w : World) (g : Nat) (o : Obj) : Prop := w.heap[g]? = some o

section
variable {w w' : World} {g : Nat} {o : Obj}
theorem Blk.new (w : World) (o : Obj) {g : Nat} (hg : g = w.heap.size) : Blk (w.alloc o) g o := by subst hg; exact heap_alloc_new w o
theorem Blk.lt (h : Blk w g o) : g < w.heap.size := by
  rcases Nat.lt_or_ge g w.heap.size with hlt | hge
  · exact hlt
  · unfold Blk at h; rw [Array.getElem?_eq_none hge] at h; cases h
theorem Blk.alloc (h : Blk w g o) (o' : Obj) : Blk (w.alloc o') g o := (Below.heap_alloc w o' g h.lt).trans h
theorem Blk.drew (h : Blk w g o) : Blk w.drew g o := h
theorem Blk.ext (h : Blk w g o) (e : Ext w w') : Blk w' g o := Ext.block e h
theorem Blk.far (h : Blk w g o) {p : Addr} (hp : g ≠ p.block) (u : Value) : Blk (w.setCell p u) g o := (Below.heap_setCell w p u g hp).trans h
theorem Blk.cell {cs : Array Value} {t : TypeId} (h : Blk w g (.cells cs t (0, 0))) (i : Nat) : w.cell? ⟨g, i, none⟩ = cs[i]? := Go.Joins.cell_of_block h i
theorem Blk.free {cs : Array Value} {t : TypeId} (h : Blk w g (.cells cs t (0, 0))) (i : Nat) : w.frozen? ⟨g, i, none⟩ = false := Go.Joins.unfrozen_of_block h i
theorem Blk.put {cs : Array Value} {t : TypeId} {f : Nat × Nat} (h : Blk w g (.cells cs t f)) (i : Nat) (v : Value) : Blk (w.setCell ⟨g, i, none⟩ v) g (.cells (cs.setIfInBounds i v) t f) := Go.Joins.block_setCell h v
theorem Blk.set3 {t : TypeId} {x y z a b c : Value} (h : Blk w g (.cells #[x, y, z] t (0, 0))) : Blk (((w.setCell ⟨g, 0, none⟩ a).setCell ⟨g, 1, none⟩ b).setCell ⟨g, 2, none⟩ c) g (.cells #[a, b, c] t (0, 0)) := ((h.put 0 a).put 1 b).put 2 c
theorem Blk.far3 (h : Blk w g o) {k : Nat} (hk : g ≠ k) (a b c : Value) : Blk (((w.setCell ⟨k, 0, none⟩ a).setCell ⟨k, 1, none⟩ b).setCell ⟨k, 2, none⟩ c) g o := ((h.far (p := ⟨k, 0, none⟩) hk a).far (p := ⟨k, 1, none⟩) hk b).far (p := ⟨k, 2, none⟩) hk c
theorem Ext.set3 (h : Ext w w') {k : Nat} (hk : w.heap.size ≤ k) (a b c : Value) : Ext w (((w'.setCell ⟨k, 0, none⟩ a).setCell ⟨k, 1, none⟩ b).setCell ⟨k, 2, none⟩ c) := ((h.setCell (p := ⟨k, 0, none⟩) hk a).setCell (p := ⟨k, 1, none⟩) hk b).setCell (p := ⟨k, 2, none⟩) hk c
theorem Blk.cells3 {t : TypeId} {x y z : Value} (h : Blk w g (.cells #[x, y, z] t (0, 0))) : w.cell? ⟨g, 0, none⟩ = some x ∧ w.cell? ⟨g, 1, none⟩ = some y ∧ w.cell? ⟨g, 2, none⟩ = some z := ⟨h.cell 0, h.cell 1, h.cell 2⟩
theorem Blk.two3 {t : TypeId} {x y z : Value} (h : Blk w g (.cells #[x, y, z] t (0, 0))) : (∀ o1 o2, ((w.alloc o1).alloc o2).cell? ⟨g, 0, none⟩ = some x) ∧ (∀ o1 o2, ((w.alloc o1).alloc o2).cell? ⟨g, 1, none⟩ = some y) ∧ (∀ o1 o2, ((w.alloc o1).alloc o2).cell? ⟨g, 2, none⟩ = some z) :=
  ⟨fun o1 o2 => ((h.alloc o1).alloc o2).cell 0, fun o1 o2 => ((h.alloc o1).alloc o2).cell 1, fun o1 o2 => ((h.alloc o1).alloc o2).cell 2⟩
theorem Blk.free3 {t : TypeId} {cs : Array Value} (h : Blk w g (.cells cs t (0, 0))) : w.frozen? ⟨g, 0, none⟩ = false ∧ w.frozen? ⟨g, 1, none⟩ = false ∧ w.frozen? ⟨g, 2, none⟩ = false := ⟨h.free 0, h.free 1, h.free 2⟩
end

/-! ### Cells behind an address -/

/-- The cells xs lie from address A on; where there is none, nothing is asked. -/
def Cells (w : World) (A : Option Addr) (xs : List Value) : Prop :=
  xs = [] ∨ ∃ b off, A = some ⟨b, off, none⟩ ∧ ∀ j u, xs[j]? = some u → w.cell? ⟨b, off + j, none⟩ = some u

section
variable {w w' : World} {A : Option Addr} {xs : List Value}
theorem Cells.ext (h : Cells w A xs) (e : Ext w w') : Cells w' A xs := by
  rcases h with h | ⟨b, off, h1, h2⟩
  · exact .inl h
  · exact .inr ⟨b, off, h1, fun j u hu => e.cell (h2 j u hu)⟩
theorem Cells.nil (w : World) (A : Option Addr) : Cells w A [] := .inl rfl
theorem Cells.get (h : Cells w A xs) {k : Nat} (hk : k < xs.length) : ∃ b off, A = some ⟨b, off, none⟩ ∧ b < w.heap.size ∧ ∀ j u, xs[j]? = some u → w.cell? ⟨b, off + j, none⟩ = some u := by
  rcases h with h | ⟨b, off, h1, h2⟩
  · subst h; simp at hk
  · exact ⟨b, off, h1, cell_lt (h2 k xs[k] (List.getElem?_eq_getElem hk)), h2⟩
theorem Cells.of_add (a : Addr) (h : ∀ j u, xs[j]? = some u → w.cell? (a.add j) = some u) : Cells w (some a) xs := by
  cases xs with
  | nil => exact .inl rfl
  | cons x l =>
    obtain ⟨b, off, spot⟩ := a
    have h0 := h 0 x rfl
    have hs : spot = none := by simpa [Addr.add] using World.cell?_spot h0
    subst hs
    refine .inr ⟨b, off, rfl, fun j u hu => ?_⟩
    have := h j u hu
    unfold Addr.add at this
    by_cases hj : j = 0
    · subst hj; simpa using this
    · simpa [hj] using this
/-- The model's own address of 's[k:]'. -/
theorem Cells.cut (h : Cells w A xs) {k size cap : Nat} (hl : xs.length ≤ cap * size) :
    Cells w (if cap = k then A else A.map (·.add (k * size))) (xs.drop (k * size)) := by
  rcases h with h | ⟨b, off, h1, h2⟩
  · exact .inl (by simp [h])
  · subst h1
    by_cases hc : cap = k
    · exact .inl (List.drop_eq_nil_of_le (by subst hc; exact hl))
    · rw [if_neg hc]
      refine Cells.of_add _ fun j u hu => ?_
      rw [List.getElem?_drop] at hu
      have := h2 _ _ hu
      simp only [Addr.add]
      split
      · rename_i e; subst e
        split
        · rename_i e; simpa [e] using this
        · simpa using this
      · split
        · rename_i e; simpa [e, Nat.add_assoc] using this
        · simpa [Nat.add_assoc] using this
theorem Cells.take (h : Cells w A xs) (n : Nat) : Cells w A (xs.take n) := by
  rcases h with h | ⟨b, off, h1, h2⟩
  · exact .inl (by simp [h])
  · refine .inr ⟨b, off, h1, fun j u hu => h2 j u ?_⟩
    rw [List.getElem?_take] at hu
    split at hu
    · exact hu
    · cases hu
end

theorem Cells.new (W : World) (t : TypeId) (cs : List Value) {b : Nat} (hb : b = W.heap.size) : Cells (W.alloc (.cells cs.toArray t)) (some ⟨b, 0, none⟩) cs := by
  refine .inr ⟨b, 0, rfl, fun j u hu => ?_⟩
  rw [Go.Joins.cell_alloc_mark_at W _ t (0, 0) b (0 + j) hb]
  simpa using hu
/-- The greatest number of bytes that one value takes: the form's reach. -/
def Reach : Nat := 140737488351232

/-! ### A slice of strings -/

/-- From address A on lie the n strings ss, each within the reach. -/
def Strs (w : World) (A : Option Addr) (n : Nat) (ss : List ByteArray) : Prop :=
  ss.length = n ∧ (∀ s ∈ ss, s.size ≤ Reach) ∧ Cells w A (ss.map .string)

section
variable {w w' : World} {A : Option Addr} {n : Nat} {ss : List ByteArray}
theorem Strs.ext (h : Strs w A n ss) (e : Ext w w') : Strs w' A n ss := ⟨h.1, h.2.1, h.2.2.ext e⟩
theorem Strs.get (h : Strs w A n ss) {k : Nat} (hk : k < n) : ∃ b off s, A = some ⟨b, off, none⟩ ∧ b < w.heap.size ∧ ss[k]? = some s ∧ s.size ≤ Reach ∧ w.cell? ⟨b, off + k, none⟩ = some (.string s) := by
  have hl : k < ss.length := by rw [h.1]; exact hk
  obtain ⟨b, off, h1, h2, h3⟩ := h.2.2.get (k := k) (by simpa using hl)
  exact ⟨b, off, ss[k], h1, h2, List.getElem?_eq_getElem hl, h.2.1 _ (List.getElem_mem hl), h3 k _ (by simp [hl])⟩
theorem Strs.nil (w : World) (A : Option Addr) : Strs w A 0 [] := ⟨rfl, by simp, Cells.nil w _⟩
theorem Strs.of_blk {g : Nat} {t : TypeId} (h : Blk w g (.cells (ss.map Value.string).toArray t (0, 0))) (hn : ss.length = n) (hs : ∀ s ∈ ss, s.size ≤ Reach) : Strs w (some ⟨g, 0, none⟩) n ss := by
  refine ⟨hn, hs, .inr ⟨g, 0, rfl, fun j u hu => ?_⟩⟩
  rw [h.cell]
  simpa using hu
theorem Strs.len (h : Strs w A n ss) : ss.length = n := h.1
end

theorem getD_of {α : Type} {l : List α} {k : Nat} {x d : α} (h : l[k]? = some x) : l.getD k d = x := by simp [List.getD, h]
theorem take_succ_of {α : Type} {l : List α} {k : Nat} {x : α} (h : l[k]? = some x) : l.take (k + 1) = l.take k ++ [x] := by
  rw [List.take_add_one, h]; rfl

theorem drop_of {α : Type} {l : List α} {k : Nat} {x : α} (h : l[k]? = some x) : l.drop k = x :: l.drop (k + 1) := by
  obtain ⟨hk, rfl⟩ := List.getElem?_eq_some_iff.1 h
  exact List.drop_eq_getElem_cons hk
theorem ret_bool {a b : Bool} (h : a = b) : Ending.returned (.bool a) = .returned (.bool b) := by rw [h]
theorem ret_int {k : IntKind} {a b : Int} (h : a = b) : Ending.returned (.int k a) = .returned (.int k b) := by rw [h]
theorem toList_inj {s t : ByteArray} (h : s.toList = t.toList) : s = t := by
  cases s; cases t
  simp only [ByteArray.toList_eq] at h
  rw [Array.toList_inj.1 h]
theorem toList_eq {s t : ByteArray} (h : (!s.toList == t.toList) = false) : s = t := toList_inj (by simpa using h)

end Go.Proofs.Ytmmcjcaccicheaa

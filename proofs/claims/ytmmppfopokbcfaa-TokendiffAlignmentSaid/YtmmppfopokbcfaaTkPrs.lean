/- Pairs of ints in memory. -/
import Derived.Test.YtmmppfopokbcfaaTkMem
namespace Go.Proofs.Ytmmppfopokbcfaa
open Go.RowKit

def prc (p : Int × Int) : List Value := [.int .i64 p.1, .int .i64 p.2]
def prwf (p : Int × Int) : Prop := I64 p.1 ∧ I64 p.2
theorem prc_len (p : Int × Int) : (prc p).length = 2 := rfl
/-- From address A on lie the n pairs l. -/
def Prs (w : World) (A : Option Addr) (n : Nat) (l : List (Int × Int)) : Prop := l.length = n ∧ (∀ p ∈ l, prwf p) ∧ Cells w A (l.flatMap prc)
section
variable {w w' : World} {A : Option Addr} {n : Nat} {l : List (Int × Int)}
theorem Prs.ext (h : Prs w A n l) (e : Ext w w') : Prs w' A n l := ⟨h.1, h.2.1, h.2.2.ext e⟩
theorem Prs.nil (w : World) (A : Option Addr) : Prs w A 0 [] := ⟨rfl, by simp, Cells.nil _ _⟩
theorem Prs.get (h : Prs w A n l) {j : Nat} (hj : j < n) : ∃ b off p, A = some ⟨b, off, none⟩ ∧ b < w.heap.size ∧ l[j]? = some p ∧ prwf p ∧ w.cell? ⟨b, off + j * 2, none⟩ = some (.int .i64 p.1) ∧ w.cell? ⟨b, off + j * 2 + 1, none⟩ = some (.int .i64 p.2) := by
  have hl : j < l.length := by rw [h.1]; exact hj
  have hlf := flat_len prc_len l
  obtain ⟨b, off, h1, h2, h3⟩ := h.2.2.get (k := j * 2) (by rw [hlf]; omega)
  have hx : l[j]? = some l[j] := List.getElem?_eq_getElem hl
  have g := fun i hi => flat_get prc_len l j i _ hx hi
  refine ⟨b, off, l[j], h1, h2, hx, h.2.1 _ (List.getElem_mem hl), ?_, ?_⟩
  · have := h3 (j * 2 + 0) (.int .i64 l[j].1) (by rw [g 0 (by omega)]; rfl); simpa using this
  · have := h3 (j * 2 + 1) (.int .i64 l[j].2) (by rw [g 1 (by omega)]; rfl); simpa [Nat.add_assoc] using this
end
theorem own_prs {w : World} {base n : Nat} {v : Value} {l : List (Int × Int)} (h : w.ownsRow base 39 2 v n (l.flatMap prc)) (hs : ∀ p ∈ l, prwf p) : ∃ A c, v = .slice A n c ∧ n ≤ c ∧ Prs w A n l := by
  have hl : l.length = n := by have := h.1; rw [flat_len prc_len] at this; omega
  have hc := fun g hg => h.cells (g := g) hg
  rcases h.2 with ⟨rfl, rfl⟩ | ⟨g, cap, cur, rfl, hb, hgg, hnc, _⟩
  · obtain rfl : l = [] := List.eq_nil_of_length_eq_zero hl
    exact ⟨none, 0, rfl, Nat.le_refl _, Prs.nil _ _⟩
  · exact ⟨_, _, rfl, hnc, hl, hs, Cells.of_add _ (hc g rfl)⟩
theorem infoPr : (Try.prog.info? 39).map (fun i => (i.zero, i.size, i.bytes)) = some (some (.agg #[.int .i64 0, .int .i64 0]), 2, 16) := by kernel_rfl
theorem underPr : Try.prog.underlying 34 = some (.slice 39) := by kernel_rfl
abbrev probj (p : Int × Int) : Obj := .cells #[.int .i64 p.1, .int .i64 p.2] 39
theorem own_newPr (w : World) : (w.alloc (.cells #[] 39)).ownsRow w.heap.size 39 2 (.slice (some ⟨w.heap.size, 0, none⟩) 0 0) 0 (([] : List (Int × Int)).flatMap prc) :=
  ⟨rfl, .inr ⟨_, 0, #[], rfl, Nat.le_refl _, Blk.new w _ rfl, Nat.le_refl _, by simp [maxLen], rfl, rfl⟩⟩
end Go.Proofs.Ytmmppfopokbcfaa

/- A slice of strings that came in as an argument. -/
import Derived.Test.YtilogolnoifigaaOpen
namespace Go.Proofs.Ytilogolnoifigaa
open Go.ChangeShapes Go.WideShapes Go.ChangeAt Go.RowKit Go.Joins Go.Deep

section
variable {H : Type} {enc : TypeId × Value → H} {w : World} {base : Nat} {spare : Nat → Bool} {held : Bool}
theorem open_strs_arg {b0 : Nat} {r : Go.Reach} {v : Value} {d : DataW H} {p : List MemPlace} (hv : Value.okWide Try.prog w r b0 22 v) (h : DataW.Trod enc Try.prog w base spare held 22 v d p) (hl : Light Try.prog 22 d) :
    ∃ (A : Option Addr) (n c : Nat) (ss : List ByteArray), v = .slice A n c ∧ n ≤ c ∧ n ≤ Reach ∧ Strs w A n ss := by
  obtain ⟨A, n, c, rfl⟩ := okWide_slice Try.underlying22 hv
  obtain ⟨m, hm⟩ := h
  have hm' : DataW.trod enc Try.prog w base spare held m 22 [.slice A n c] = some (d, p) := hm
  obtain ⟨A', n', c', ss, he, hn, hs⟩ := open_strs_any Try.underlying22 Try.underlying9 cellsS bytesS hm' hl
  obtain ⟨rfl, rfl, rfl⟩ : A = A' ∧ n = n' ∧ c = c' := by simpa using he
  refine ⟨A, n, c, ss, rfl, ?_, hn, hs⟩
  rcases open_strings Try.underlying22 Try.underlying9 cellsS hm' with ⟨hcs, _⟩ | ⟨a, len, cap, ss, hcs, _, hle, _⟩
  · obtain ⟨-, rfl, rfl⟩ : A = none ∧ n = 0 ∧ c = 0 := by simpa using hcs
    exact Nat.le_refl _
  · obtain ⟨-, rfl, rfl⟩ : A = some a ∧ n = len ∧ c = cap := by simpa using hcs
    exact hle
end
end Go.Proofs.Ytilogolnoifigaa

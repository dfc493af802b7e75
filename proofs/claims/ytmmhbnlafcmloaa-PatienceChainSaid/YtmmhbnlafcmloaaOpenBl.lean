/- A slice of bools that came in as an argument. -/
import Derived.Test.YtmmhbnlafcmloaaOpenB
import Derived.Test.YtmmhbnlafcmloaaPaSel
import Derived.Deep.Grids
namespace Go.Proofs.Ytmmhbnlafcmloaa
open Go.ChangeShapes Go.WideShapes Go.ChangeAt Go.RowKit Go.Joins Go.Deep

theorem cellsBl : Try.prog.cellsOf 4 = 1 := by kernel_rfl
theorem bytesBl : Try.prog.bytesOf 4 = 1 := by kernel_rfl

section
variable {H : Type} {enc : TypeId × Value → H} {w : World} {base : Nat} {held : Bool}
theorem open_bools_arg {b0 : Nat} {r : Go.Reach} {v : Value} {d : DataW H} {p : List MemPlace} (hv : Value.okWide Try.prog w r b0 33 v) (h : DataW.Trod enc Try.prog w base (fun _ => true) held 33 v d p) (hl : Light Try.prog 33 d) :
    ∃ (A : Option Addr) (n c : Nat) (ps : List Bool), v = .slice A n c ∧ n ≤ Reach ∧ Bls w A n ps := by
  obtain ⟨A, n, c, rfl⟩ := okWide_slice Try.underlying33 hv
  obtain ⟨m, hm⟩ := h
  have hm' : DataW.trod enc Try.prog w base (fun _ => true) held m 33 [.slice A n c] = some (d, p) := hm
  rcases open_bools Try.underlying33 Try.underlying4 cellsBl hm' with ⟨hcs, _⟩ | ⟨a, len, cap, B, hcs, _, hle, _, hx, hcell⟩
  · obtain ⟨rfl, rfl, rfl⟩ : A = none ∧ n = 0 ∧ c = 0 := by simpa using hcs
    exact ⟨none, 0, 0, [], rfl, by decide, rfl, Cells.nil _ _⟩
  · obtain ⟨rfl, rfl, rfl⟩ : A = some a ∧ n = len ∧ c = cap := by simpa using hcs
    simp only [Prod.mk.injEq] at hx
    obtain ⟨rfl, _⟩ := hx
    obtain ⟨h1, _⟩ := light_slice Try.underlying33 hl
    rw [bytesBl, reach_eq] at h1
    simp only [List.length_map, List.length_range] at h1
    refine ⟨some a, n, c, (List.range n).map B, rfl, by omega, by simp, Cells.of_add a fun j u hu => ?_⟩
    have hj : j < n := by
      have := (List.getElem?_eq_some_iff.1 hu).1
      simpa using this
    rw [hcell j (by omega), ← hu]
    simp [hj]
end
end Go.Proofs.Ytmmhbnlafcmloaa

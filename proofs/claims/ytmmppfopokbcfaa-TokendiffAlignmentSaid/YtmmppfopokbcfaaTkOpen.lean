/- How a string argument is opened. No condition. -/
import Derived.Test.YtmmppfopokbcfaaOpenB
import Derived.Deep.Strs
namespace Go.Proofs.Ytmmppfopokbcfaa
open Go.ChangeShapes Go.WideShapes Go.ChangeAt Go.RowKit Go.Joins Go.Deep

section
variable {H : Type} {enc : TypeId × Value → H} {w : World} {base : Nat} {spare : Nat → Bool} {held : Bool}
theorem light_str {t : TypeId} {s : ByteArray} (h : Light (H := H) Try.prog t (.lit (.string s.data.toList))) : s.size ≤ Reach := by
  have := h s.data.toList.length (by simp [DataW.weights])
  rw [reach_eq] at this
  have e : s.size = s.data.toList.length := by cases s; rfl
  omega
set_option maxRecDepth 100000 in
theorem open_string_arg {b0 : Nat} {r : Go.Reach} {v : Value} {d : DataW H} {p : List MemPlace} (hv : Value.okWide Try.prog w r b0 9 v) (h : DataW.Trod enc Try.prog w base spare held 9 v d p) (hl : Light Try.prog 9 d) :
    ∃ s : ByteArray, v = .string s ∧ s.size ≤ Reach := by
  obtain ⟨s', rfl⟩ := okWide_string Try.underlying9 hv
  obtain ⟨m, hm⟩ := h
  have hm' : DataW.trod enc Try.prog w base spare held m 9 [.string s'] = some (d, p) := hm
  obtain ⟨s, hcs, hx, -⟩ := DataW.trod_string Try.underlying9 hm'
  obtain rfl : s' = s := by simpa using hcs
  simp only [Prod.mk.injEq] at hx
  obtain ⟨rfl, _⟩ := hx
  exact ⟨s', rfl, light_str hl⟩

end
end Go.Proofs.Ytmmppfopokbcfaa

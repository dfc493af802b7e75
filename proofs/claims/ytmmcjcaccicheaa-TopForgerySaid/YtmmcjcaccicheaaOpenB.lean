/- From the reading of an argument to what the walks ask: slices of strings. -/
import Derived.Test.YtmmcjcaccicheaaBase
import Derived.ProofKit
import Derived.OpenShut
import Derived.ShutString
import Derived.ChangeOld
import Derived.SizedLaws
import Derived.Deep.Slices
namespace Go.Proofs.Ytmmcjcaccicheaa
open Go.ChangeShapes Go.WideShapes Go.ChangeAt Go.RowKit Go.Joins Go.Deep

section
variable {H : Type} {enc : TypeId × Value → H} {P : Program} {w : World} {base : Nat} {spare : Nat → Bool} {held : Bool}

/-- All that a datum weighs lies within the reach. -/
def Light (P : Program) (t : TypeId) (d : DataW H) : Prop := ∀ n ∈ d.weights P t, n ≤ reachBytes

theorem light_arg {ts : List TypeId} {ds : List (DataW H)} (h : (DataW.weightsEach P ts ds).all (· ≤ reachBytes) = true) {j : Nat} {t : TypeId} {d : DataW H} (ht : ts[j]? = some t) (hd : ds[j]? = some d) : Light P t d := fun n hn => by
  have := List.all_eq_true.1 h _ (DataW.weights_mem_each ht hd n hn)
  simpa using this

theorem light_all {e : TypeId} : ∀ {l : List (DataW H)}, (∀ n ∈ DataW.weightsAll P e l, n ≤ reachBytes) → ∀ d ∈ l, Light P e d
  | d :: r, h, x, hx => by
    simp only [DataW.weightsAll, List.mem_append] at h
    rcases List.mem_cons.1 hx with rfl | hx
    · exact fun n hn => h n (.inl hn)
    · exact light_all (fun n hn => h n (.inr hn)) x hx

theorem light_slice {t e : TypeId} {elems sp : List (DataW H)} (ht : P.underlying t = some (.slice e)) (h : Light P t (.slice elems sp)) : (elems.length + sp.length) * P.bytesOf e ≤ reachBytes ∧ ∀ d ∈ elems, Light P e d := by
  unfold Light at h
  simp only [DataW.weights, ht] at h
  refine ⟨h _ (by simp), light_all fun n hn => h n ?_⟩
  simp [hn]

theorem light_parts {t : TypeId} {fs : Array Field} {parts : List (DataW H)} (ht : P.underlying t = some (.struct fs)) (h : Light P t (.agg parts)) {j : Nat} {f : Field} {d : DataW H} (hf : fs[j]? = some f) (hd : parts[j]? = some d) : Light P f.type d := fun n hn => by
  unfold Light at h
  simp only [DataW.weights, ht] at h
  exact h n (DataW.weights_mem_each (by simp [hf]) hd n hn)

theorem reach_eq : reachBytes = Reach := rfl

theorem open_strs_any {t e : TypeId} {fuel : Nat} {v : Value} {y : DataW H × List MemPlace} (ht : P.underlying t = some (.slice e)) (he : P.underlying e = some .string) (hc : P.cellsOf e = 1) (hb : P.bytesOf e = 16)
    (h : DataW.trod enc P w base spare held fuel t [v] = some y) (hl : Light P t y.1) : ∃ A n c ss, v = .slice A n c ∧ n ≤ Reach ∧ Strs w A n ss := by
  rcases open_strings ht he hc h with ⟨hcs, _⟩ | ⟨a, len, cap, ss, hcs, _, hle, hm, hz, hx, hcell, _⟩
  · obtain rfl : v = .slice none 0 0 := by simpa using hcs
    exact ⟨none, 0, 0, [], rfl, by decide, Strs.nil _ _⟩
  · obtain rfl : v = .slice (some a) len cap := by simpa using hcs
    subst hx
    obtain ⟨h1, h2⟩ := light_slice ht hl
    rw [hb, reach_eq] at h1
    have hss : len ≤ ss.length := by rw [hz]; split <;> omega
    refine ⟨some a, len, cap, ss.take len, rfl, ?_, by simp; omega, fun s hs => ?_, Cells.of_add a fun j u hu => ?_⟩
    · simp only [strs, List.length_map, List.length_take] at h1
      omega
    · have := h2 (.lit (.string s.data.toList)) (by simp only [strs, List.mem_map]; exact ⟨s, hs, rfl⟩)
      have := this s.data.toList.length (by simp [DataW.weights])
      rw [reach_eq] at this
      have e : s.size = s.data.toList.length := by cases s; rfl
      omega
    · have hj : j < len := by
        have := (List.getElem?_eq_some_iff.1 hu).1
        simp at this
        omega
      have hc := hcell j (by omega)
      rw [hc, ← hu]
      simp [hj, List.getD, List.getElem?_eq_getElem (show j < ss.length by omega)]
end

theorem cellsS : Try.prog.cellsOf 9 = 1 := by kernel_rfl
theorem bytesS : Try.prog.bytesOf 9 = 16 := by kernel_rfl

section
variable {H : Type} {enc : TypeId × Value → H} {w : World} {base : Nat} {spare : Nat → Bool} {held : Bool}
set_option maxRecDepth 100000 in
theorem open_strs_arg {b0 : Nat} {r : Go.Reach} {v : Value} {d : DataW H} {p : List MemPlace} (hv : Value.okWide Try.prog w r b0 40 v) (h : DataW.Trod enc Try.prog w base spare held 40 v d p) (hl : Light Try.prog 40 d) :
    ∃ (A : Option Addr) (n c : Nat) (ss : List ByteArray), v = .slice A n c ∧ n ≤ c ∧ n ≤ Reach ∧ Strs w A n ss := by
  obtain ⟨A, n, c, rfl⟩ := okWide_slice Try.underlying40 hv
  obtain ⟨m, hm⟩ := h
  have hm' : DataW.trod enc Try.prog w base spare held m 40 [.slice A n c] = some (d, p) := hm
  obtain ⟨A', n', c', ss, he, hn, hs⟩ := open_strs_any Try.underlying40 Try.underlying9 cellsS bytesS hm' hl
  obtain ⟨rfl, rfl, rfl⟩ : A = A' ∧ n = n' ∧ c = c' := by simpa using he
  refine ⟨A, n, c, ss, rfl, ?_, hn, hs⟩
  rcases open_strings Try.underlying40 Try.underlying9 cellsS hm' with ⟨hcs, _⟩ | ⟨a, len, cap, ss, hcs, _, hle, _⟩
  · obtain ⟨-, rfl, rfl⟩ : A = none ∧ n = 0 ∧ c = 0 := by simpa using hcs
    exact Nat.le_refl _
  · obtain ⟨-, rfl, rfl⟩ : A = some a ∧ n = len ∧ c = cap := by simpa using hcs
    exact hle
end
end Go.Proofs.Ytmmcjcaccicheaa

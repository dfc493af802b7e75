/- Plain laws: pairs put one after the other. No condition. -/
import Derived.Test.YtbjniaihkllmdaaTrLawO
namespace Go.Proofs.Ytbjniaihkllmdaa
open Go.RowKit
def newL (x : Pr) (L : List Pr) : List Pr := x :: L.filter (fun y => decide (y.k ≠ x.k))
/-- A tree and the pairs that were put, the last of each key. -/
def OKL (M : BT) (L : List Pr) : Prop := OK M ∧ L.Pairwise (fun x y => x.k ≠ y.k) ∧ (∀ p, p ∈ prsV M ↔ p ∈ L) ∧ ∀ p ∈ L, lgB p.k p.v = false
theorem okl_nil : OKL .leaf [] := ⟨ok_leaf, List.Pairwise.nil, fun p => by simp [prsV], by simp⟩
theorem okl_step {M : BT} {L : List Pr} (h : OKL M L) (x : Pr) (hl : lgB x.k x.v = false) : OKL (putV x.k x.v M) (newL x L) := by
  obtain ⟨h1, h2, h3, h4⟩ := h
  obtain ⟨g1, g2, g3⟩ := put_spec x.k x.v M h1.1 h1.2.1
  refine ⟨ok_put h1 hl, List.pairwise_cons.2 ⟨fun y hy => ?_, h2.sublist List.filter_sublist⟩, fun p => ?_, fun p hp => ?_⟩
  · have := (List.mem_filter.1 hy).2
    simp only [decide_eq_true_eq] at this
    exact this.symm
  · rw [g3, h3, newL, List.mem_cons, List.mem_filter]
    simp
  · rcases List.mem_cons.1 hp with rfl | hp
    · exact hl
    · exact h4 p (List.mem_filter.1 hp).1
theorem newL_len (x : Pr) (L : List Pr) : (newL x L).length ≤ L.length + 1 := by
  unfold newL
  rw [List.length_cons]
  have := List.length_filter_le (fun y : Pr => decide (y.k ≠ x.k)) L
  omega
theorem okl_end {M : BT} {L : List Pr} (h : OKL M L) : ofR L = (M, 0) ∧ (prsV M).length = L.length := by
  obtain ⟨h1, h2, h3, h4⟩ := h
  obtain ⟨n, e1, e2, e3, e4⟩ := of_ok h2 h4
  have : n = M := ok_uniq e2 h1 (fun p => by rw [e4, h3])
  subst this
  exact ⟨e1, by rw [prs_len, e3]⟩
/-- The rest, as far as it has come. -/
def restL (x : Pr) (L : List Pr) (i : Nat) : List Pr := x :: (L.take i).filter (fun y => decide (y.k ≠ x.k))
theorem rest_step {x y : Pr} {L : List Pr} {i : Nat} (h : L[i]? = some y) : restL x L (i + 1) = if y.k = x.k then restL x L i else restL x L i ++ [y] := by
  unfold restL
  rw [List.take_add_one, h, List.filter_append]
  by_cases e : y.k = x.k
  · simp [e]
  · simp [e]
theorem rest_end {x : Pr} {L : List Pr} {i : Nat} (h : L.length ≤ i) : restL x L i = newL x L := by
  unfold restL newL
  rw [List.take_of_length_le h]
theorem rest_len (x : Pr) (L : List Pr) (i : Nat) : (restL x L i).length ≤ i + 1 := by
  unfold restL
  rw [List.length_cons]
  have h1 := List.length_filter_le (fun y : Pr => decide (y.k ≠ x.k)) (L.take i)
  rw [List.length_take] at h1
  omega
theorem rest_mem {x p : Pr} {L : List Pr} {i : Nat} (h : p ∈ restL x L i) : p = x ∨ p ∈ L := by
  rcases List.mem_cons.1 h with h | h
  · exact .inl h
  · exact .inr (List.mem_of_mem_take (List.mem_filter.1 h).1)
end Go.Proofs.Ytbjniaihkllmdaa

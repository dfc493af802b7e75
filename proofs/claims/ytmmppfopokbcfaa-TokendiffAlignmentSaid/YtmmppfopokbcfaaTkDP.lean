/- Plain: the greatest weight of an alignment of two lists, the alignment that is read off, and that it is the best one. -/
import Derived.Test.YtmmppfopokbcfaaTkPieces
namespace Go.Proofs.Ytmmppfopokbcfaa
section
variable {α : Type} (s : α → α → Int)
/-- The greatest weight of an alignment. -/
def bestV : List α → List α → Int
  | [], _ => 0
  | _ :: _, [] => 0
  | x :: a, y :: b => if 50 ≤ s x y then max (max (bestV a (y :: b)) (bestV (x :: a) b)) (s x y + bestV a b) else max (bestV a (y :: b)) (bestV (x :: a) b)
termination_by a b => a.length + b.length
/-- The alignment that Pairs reads off. -/
def pairsG : List α → List α → Nat → Nat → List (Int × Int)
  | [], _, _, _ => []
  | _ :: _, [], _, _ => []
  | x :: a, y :: b, i, k =>
    if 50 ≤ s x y ∧ s x y + bestV s a b = bestV s (x :: a) (y :: b) then ((i : Int), (k : Int)) :: pairsG a b (i + 1) (k + 1)
    else if bestV s a (y :: b) = bestV s (x :: a) (y :: b) then pairsG a (y :: b) (i + 1) k else pairsG (x :: a) b i (k + 1)
termination_by a b => a.length + b.length
theorem best_nil (b : List α) : bestV s [] b = 0 := by rw [bestV]
theorem best_nil2 (a : List α) : bestV s a [] = 0 := by cases a <;> rw [bestV]
theorem best_ge (a b : List α) : 0 ≤ bestV s a b := by
  fun_induction bestV s a b with
  | case1 => simp
  | case2 => simp
  | case3 x a y b h _ _ _ => omega
  | case4 x a y b h _ _ => omega
theorem best_one (x : α) (a b : List α) : bestV s a b ≤ bestV s (x :: a) b := by
  cases b with
  | nil => rw [best_nil2, best_nil2]; simp
  | cons y b => rw [bestV.eq_3]; split <;> omega
theorem best_two (a : List α) (y : α) (b : List α) : bestV s a b ≤ bestV s a (y :: b) := by
  cases a with
  | nil => rw [best_nil, best_nil]; simp
  | cons x a => rw [bestV.eq_3]; split <;> omega
theorem best_pick (x y : α) (a b : List α) (h : 50 ≤ s x y) : s x y + bestV s a b ≤ bestV s (x :: a) (y :: b) := by
  rw [bestV.eq_3, if_pos h]; omega
theorem best_top (h : ∀ x y, s x y ≤ 100) (a b : List α) : bestV s a b ≤ 100 * a.length ∧ bestV s a b ≤ 100 * b.length := by
  fun_induction bestV s a b with
  | case1 => simp; omega
  | case2 => simp; omega
  | case3 x a y b _ h1 h2 h3 =>
    have := h x y
    simp only [List.length_cons] at *; omega
  | case4 x a y b _ h1 h2 => simp only [List.length_cons] at *; omega
/-! ### By places -/
variable (a b : List α)
def bestAt (i k : Nat) : Int := bestV s (a.drop i) (b.drop k)
def pairsAt (i k : Nat) : List (Int × Int) := pairsG s (a.drop i) (b.drop k) i k
theorem drop_at {l : List α} {i : Nat} {x : α} (h : l[i]? = some x) : l.drop i = x :: l.drop (i + 1) := by
  obtain ⟨h1, rfl⟩ := List.getElem?_eq_some_iff.1 h
  exact List.drop_eq_getElem_cons h1
theorem bestAt_end {i k : Nat} (h : a.length ≤ i ∨ b.length ≤ k) : bestAt s a b i k = 0 := by
  unfold bestAt
  rcases h with h | h
  · rw [List.drop_eq_nil_of_le h, best_nil]
  · rw [List.drop_eq_nil_of_le h, best_nil2]
theorem bestAt_step {i k : Nat} {x y : α} (hx : a[i]? = some x) (hy : b[k]? = some y) :
    bestAt s a b i k = if 50 ≤ s x y then max (max (bestAt s a b (i + 1) k) (bestAt s a b i (k + 1))) (s x y + bestAt s a b (i + 1) (k + 1)) else max (bestAt s a b (i + 1) k) (bestAt s a b i (k + 1)) := by
  unfold bestAt
  rw [drop_at hx, drop_at hy, bestV.eq_3]
theorem bestAt_ge (i k : Nat) : 0 ≤ bestAt s a b i k := best_ge s _ _
theorem pairsAt_end {i k : Nat} (h : a.length ≤ i ∨ b.length ≤ k) : pairsAt s a b i k = [] := by
  unfold pairsAt
  rcases h with h | h
  · rw [List.drop_eq_nil_of_le h, pairsG]
  · rw [List.drop_eq_nil_of_le h]
    cases a.drop i <;> rw [pairsG]
theorem pairsAt_step {i k : Nat} {x y : α} (hx : a[i]? = some x) (hy : b[k]? = some y) :
    pairsAt s a b i k = if 50 ≤ s x y ∧ s x y + bestAt s a b (i + 1) (k + 1) = bestAt s a b i k then ((i : Int), (k : Int)) :: pairsAt s a b (i + 1) (k + 1)
      else if bestAt s a b (i + 1) k = bestAt s a b i k then pairsAt s a b (i + 1) k else pairsAt s a b i (k + 1) := by
  unfold pairsAt bestAt
  rw [drop_at hx, drop_at hy, pairsG.eq_3]
theorem bestAt_right (i k : Nat) : bestAt s a b (i + 1) k ≤ bestAt s a b i k := by
  by_cases h : i < a.length
  · unfold bestAt
    rw [drop_at (List.getElem?_eq_getElem h)]
    exact best_one s _ _ _
  · rw [bestAt_end s a b (Or.inl (by omega))]
    exact bestAt_ge s a b i k
theorem bestAt_down (i k : Nat) : bestAt s a b i (k + 1) ≤ bestAt s a b i k := by
  by_cases h : k < b.length
  · unfold bestAt
    rw [drop_at (List.getElem?_eq_getElem h)]
    exact best_two s _ _ _
  · rw [bestAt_end s a b (Or.inr (by omega))]
    exact bestAt_ge s a b i k
theorem bestAt_far (i k d e : Nat) : bestAt s a b (i + d) (k + e) ≤ bestAt s a b i k := by
  induction d with
  | zero =>
    induction e with
    | zero => exact Int.le_refl _
    | succ e ih => exact Int.le_trans (bestAt_down s a b (i + 0) (k + e)) ih
  | succ d ih => exact Int.le_trans (bestAt_right s a b (i + d) (k + e)) ih
/-! ### Alignments -/
/-- The similarity of a pair of places. -/
def simAt (p : Int × Int) : Int := match a[p.1.toNat]?, b[p.2.toNat]? with
  | some x, some y => s x y
  | _, _ => 0
/-- What weight returns, from a place on. -/
def weightG : List (Int × Int) → Int → Int → Int → Int × Bool
  | [], _, _, n => (n, true)
  | p :: r, i, k, n => if i ≤ p.1 ∧ p.1 < a.length ∧ k ≤ p.2 ∧ p.2 < b.length ∧ 50 ≤ simAt s a b p then weightG r (p.1 + 1) (p.2 + 1) (n + simAt s a b p) else (0, false)
theorem weight_le : ∀ (l : List (Int × Int)) (i k : Nat) (n m : Int), weightG s a b l i k n = (m, true) → m ≤ n + bestAt s a b i k
  | [], i, k, n, m, h => by
    have := bestAt_ge s a b i k
    simp only [weightG, Prod.mk.injEq] at h; omega
  | (p, q) :: r, i, k, n, m, h => by
    rw [weightG] at h
    split at h
    · rename_i hc
      obtain ⟨h1, h2, h3, h4, h5⟩ := hc
      dsimp only at h1 h2 h3 h4 h h5
      obtain ⟨p', rfl⟩ := Int.eq_ofNat_of_zero_le (show 0 ≤ p by omega)
      obtain ⟨q', rfl⟩ := Int.eq_ofNat_of_zero_le (show 0 ≤ q by omega)
      have hp : p' < a.length := by omega
      have hq : q' < b.length := by omega
      have hs : simAt s a b ((p' : Int), (q' : Int)) = s a[p'] b[q'] := by
        unfold simAt
        simp [hp, hq]
      have ih := weight_le r (p' + 1) (q' + 1) _ m h
      rw [hs] at ih h5
      have h6 : s a[p'] b[q'] + bestAt s a b (p' + 1) (q' + 1) ≤ bestAt s a b p' q' := by
        rw [bestAt_step s a b (List.getElem?_eq_getElem hp) (List.getElem?_eq_getElem hq), if_pos h5]
        omega
      have h7 := bestAt_far s a b i k (p' - i) (q' - k)
      rw [show i + (p' - i) = p' by omega, show k + (q' - k) = q' by omega] at h7
      omega
    · simp at h
theorem weight_low (l : List (Int × Int)) (i i' k k' n : Int) (hi : i' ≤ i) (hk : k' ≤ k) (m : Int) (h : weightG s a b l i k n = (m, true)) : weightG s a b l i' k' n = (m, true) := by
  cases l with
  | nil => exact h
  | cons p r =>
    rw [weightG] at h ⊢
    split at h
    · rename_i hc
      rw [if_pos ⟨by omega, hc.2.1, by omega, hc.2.2.2⟩]
      exact h
    · simp at h
theorem pairs_weight : ∀ (f i k : Nat) (n : Int), a.length + b.length ≤ i + k + f → weightG s a b (pairsAt s a b i k) i k n = (n + bestAt s a b i k, true)
  | 0, i, k, n, hf => by
    have he : a.length ≤ i ∨ b.length ≤ k := by omega
    rw [pairsAt_end s a b he, bestAt_end s a b he]; simp [weightG]
  | f + 1, i, k, n, hf => by
    by_cases he : a.length ≤ i ∨ b.length ≤ k
    · rw [pairsAt_end s a b he, bestAt_end s a b he]; simp [weightG]
    · have hi : i < a.length := by omega
      have hk : k < b.length := by omega
      have hx := List.getElem?_eq_getElem hi
      have hy := List.getElem?_eq_getElem hk
      rw [pairsAt_step s a b hx hy]
      split
      · rename_i hc
        have hs : simAt s a b ((i : Int), (k : Int)) = s a[i] b[k] := by
          unfold simAt
          simp [hi, hk]
        have ih := pairs_weight f (i + 1) (k + 1) (n + s a[i] b[k]) (by omega)
        rw [weightG, hs, if_pos ⟨by simp, by simpa using hi, by simp, by simpa using hk, hc.1⟩]
        dsimp only
        rw [show ((i : Int) + 1) = ((i + 1 : Nat) : Int) by simp, show ((k : Int) + 1) = ((k + 1 : Nat) : Int) by simp, ih]
        congr 1; omega
      · rename_i hc
        split
        · rename_i hc2
          have ih := pairs_weight f (i + 1) k n (by omega)
          rw [hc2] at ih
          exact weight_low s a b _ _ _ _ _ n (by omega) (Int.le_refl _) _ ih
        · rename_i hc2
          have hb : bestAt s a b i (k + 1) = bestAt s a b i k := by
            have e := bestAt_step s a b hx hy
            split at e
            · rename_i h5
              by_cases h6 : s a[i] b[k] + bestAt s a b (i + 1) (k + 1) = bestAt s a b i k
              · exact absurd ⟨h5, h6⟩ hc
              · omega
            · omega
          have ih := pairs_weight f i (k + 1) n (by omega)
          rw [hb] at ih
          exact weight_low s a b _ _ _ _ _ n (Int.le_refl _) (by omega) _ ih
theorem pairs_best : weightG s a b (pairsAt s a b 0 0) 0 0 0 = (bestAt s a b 0 0, true) := by
  have := pairs_weight s a b (a.length + b.length) 0 0 0 (by omega)
  simpa using this
/-- Equal lists are aligned line by line. -/
theorem best_self (h1 : ∀ x, s x x = 100) (h2 : ∀ x y, s x y ≤ 100) (l : List α) : bestV s l l = 100 * l.length := by
  induction l with
  | nil => rw [best_nil]; simp
  | cons x l ih =>
    have t := (best_top s h2 (x :: l) (x :: l)).1
    have p := best_pick s x x l l (by rw [h1]; decide)
    rw [h1, ih] at p
    simp only [List.length_cons] at *
    omega
theorem pairs_self (h1 : ∀ x, s x x = 100) (h2 : ∀ x y, s x y ≤ 100) (l : List α) (i : Nat) : (pairsG s l l i i).length = l.length ∧ ∀ j, j < l.length → (pairsG s l l i i)[j]? = some (((i + j : Nat) : Int), ((i + j : Nat) : Int)) := by
  induction l generalizing i with
  | nil => rw [pairsG]; simp
  | cons x l ih =>
    have e1 := best_self s h1 h2 (x :: l)
    have e2 := best_self s h1 h2 l
    rw [pairsG.eq_3, if_pos ⟨by rw [h1]; decide, by rw [h1, e1, e2]; simp only [List.length_cons]; omega⟩]
    obtain ⟨i1, i2⟩ := ih (i + 1)
    refine ⟨by simp [i1], fun j hj => ?_⟩
    cases j with
    | zero => simp
    | succ j =>
      rw [List.getElem?_cons_succ, i2 j (by simpa using hj)]
      rw [show i + 1 + j = i + (j + 1) by omega]
theorem pairs_in : ∀ (f i k : Nat), a.length + b.length ≤ i + k + f → ∀ p ∈ pairsAt s a b i k, 0 ≤ p.1 ∧ p.1 < a.length ∧ 0 ≤ p.2 ∧ p.2 < b.length
  | 0, i, k, hf => by rw [pairsAt_end s a b (by omega)]; simp
  | f + 1, i, k, hf => by
    by_cases he : a.length ≤ i ∨ b.length ≤ k
    · rw [pairsAt_end s a b he]; simp
    · have hi : i < a.length := by omega
      have hk : k < b.length := by omega
      rw [pairsAt_step s a b (List.getElem?_eq_getElem hi) (List.getElem?_eq_getElem hk)]
      split
      · intro p hp
        rcases List.mem_cons.1 hp with rfl | hp
        · exact ⟨by simp, by simpa using hi, by simp, by simpa using hk⟩
        · exact pairs_in f (i + 1) (k + 1) (by omega) p hp
      · split
        · exact pairs_in f (i + 1) k (by omega)
        · exact pairs_in f i (k + 1) (by omega)
theorem pairs_few : ∀ (f i k : Nat), a.length + b.length ≤ i + k + f → (pairsAt s a b i k).length ≤ a.length - i
  | 0, i, k, hf => by rw [pairsAt_end s a b (by omega)]; simp
  | f + 1, i, k, hf => by
    by_cases he : a.length ≤ i ∨ b.length ≤ k
    · rw [pairsAt_end s a b he]; simp
    · have hi : i < a.length := by omega
      have hk : k < b.length := by omega
      rw [pairsAt_step s a b (List.getElem?_eq_getElem hi) (List.getElem?_eq_getElem hk)]
      split
      · have := pairs_few f (i + 1) (k + 1) (by omega)
        simp only [List.length_cons]; omega
      · split
        · have := pairs_few f (i + 1) k (by omega); omega
        · exact pairs_few f i (k + 1) (by omega)
end
end Go.Proofs.Ytmmppfopokbcfaa

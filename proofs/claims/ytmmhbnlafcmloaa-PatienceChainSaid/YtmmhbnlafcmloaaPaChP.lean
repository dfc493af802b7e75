/- PatienceChain's plain laws: the longest chain, and the least one. No condition. -/
import Derived.Test.YtmmhbnlafcmloaaPaAsc
namespace Go.Proofs.Ytmmhbnlafcmloaa

/-- Indices of a chain of l. -/
def ChI (l : List Mt) (s : List Nat) : Prop := s.Pairwise (fun i j : Nat => i < j ∧ bOf l i < bOf l j) ∧ ∀ i ∈ s, i < l.length
theorem ChI.tail {l : List Mt} {i : Nat} {s : List Nat} (h : ChI l (i :: s)) : ChI l s := ⟨(List.pairwise_cons.1 h.1).2, fun j hj => h.2 j (by simp [hj])⟩
theorem ChI.at {l : List Mt} {s : List Nat} (h : ChI l s) {p q : Nat} (hpq : p < q) (hq : q < s.length) : s.getD p 0 < s.getD q 0 ∧ bOf l (s.getD p 0 : Nat) < bOf l (s.getD q 0 : Nat) := by
  have := List.pairwise_iff_getElem.1 h.1 p q (by omega) hq hpq
  rw [List.getD_eq_getElem?_getD, List.getD_eq_getElem?_getD, List.getElem?_eq_getElem (by omega), List.getElem?_eq_getElem hq]
  exact this
theorem ChI.lt {l : List Mt} {s : List Nat} (h : ChI l s) {p : Nat} (hp : p < s.length) : s.getD p 0 < l.length := by
  rw [List.getD_eq_getElem?_getD, List.getElem?_eq_getElem hp]
  exact h.2 _ (List.getElem_mem hp)
theorem t_step (l : List Mt) {i k : Nat} (hik : i < k) (hk : k < l.length) (hb : bOf l i < bOf l k) : (tailsV l).getD k 0 + 1 ≤ (tailsV l).getD i 0 := by
  obtain ⟨x, n, e1, e2, e3, e4⟩ := tails_at l (show i < l.length by omega)
  obtain ⟨y, m, g1, g2, g3, g4⟩ := tails_at l hk
  rw [e3, g3]
  rw [e4, g4] at hb
  exact (tails_spec l i x n e1 e2).2.1 k y m hik g1 g2 hb
theorem t_pos (l : List Mt) {i : Nat} (hi : i < l.length) : 1 ≤ (tailsV l).getD i 0 := by
  obtain ⟨x, n, e1, e2, e3, e4⟩ := tails_at l hi
  rw [e3]; exact (tails_spec l i x n e1 e2).1
theorem t_most (l : List Mt) {i : Nat} (hi : i < l.length) : (tailsV l).getD i 0 ≤ mostV (tailsV l) := by
  obtain ⟨x, n, e1, e2, e3, e4⟩ := tails_at l hi
  rw [e3]; exact (most_spec (tailsV l) 0).2.1 n (List.mem_of_getElem? e2)
theorem chain_t (l : List Mt) : ∀ (s : List Nat) (i : Nat), ChI l (i :: s) → (i :: s).length ≤ (tailsV l).getD i 0
  | [], i, h => t_pos l (h.2 i (by simp))
  | k :: s, i, h => by
    have ih := chain_t l s k h.tail
    have hp := (List.pairwise_cons.1 h.1).1 k (by simp)
    have := t_step l hp.1 (h.2 k (by simp)) hp.2
    simp only [List.length_cons] at ih ⊢; omega
/-- No chain is longer. -/
theorem chain_le {l : List Mt} {s : List Nat} (h : ChI l s) : s.length ≤ mostV (tailsV l) := by
  cases s with
  | nil => exact Nat.zero_le _
  | cons i s => exact Nat.le_trans (chain_t l s i h) (t_most l (h.2 i (by simp)))
theorem ChI.drop {l : List Mt} {s : List Nat} (h : ChI l s) (k : Nat) : ChI l (s.drop k) := ⟨h.1.sublist (List.drop_sublist k s), fun i hi => h.2 i (List.mem_of_mem_drop hi)⟩
theorem chain_lo {l : List Mt} {s : List Nat} (h : ChI l s) {k : Nat} (hk : k < s.length) : s.length - k ≤ (tailsV l).getD (s.getD k 0) 0 := by
  have hd := h.drop k
  rw [List.drop_eq_getElem_cons hk] at hd
  have := chain_t l _ _ hd
  rw [List.getD_eq_getElem?_getD (l := s), List.getElem?_eq_getElem hk]
  simp only [List.length_cons, List.length_drop] at this
  show s.length - k ≤ (tailsV l).getD s[k] 0
  omega
theorem chain_hi {l : List Mt} {s : List Nat} (h : ChI l s) : ∀ k, k < s.length → (tailsV l).getD (s.getD k 0) 0 + k ≤ mostV (tailsV l)
  | 0, hk => t_most l (h.lt hk)
  | k + 1, hk => by
    have ih := chain_hi h k (by omega)
    obtain ⟨h1, h2⟩ := h.at (p := k) (q := k + 1) (by omega) hk
    have := t_step l h1 (h.lt hk) h2
    omega
abbrev lst (l : List Mt) (j : Nat) : Int := lastI l (tailsV l) (mostV (tailsV l)) j
/-- As long as the numbers B are the same, the best chain's next one is no greater. -/
theorem lex_step {l : List Mt} {s : List Nat} (h : ChI l s) (hlen : s.length = mostV (tailsV l)) : ∀ k, k < mostV (tailsV l) → (∀ q, q < k → bOf l (lst l (q + 1)) = bOf l (s.getD q 0 : Nat)) →
    bOf l (lst l (k + 1)) ≤ bOf l (s.getD k 0 : Nat) ∧ (bOf l (s.getD k 0 : Nat) = bOf l (lst l (k + 1)) → lst l (k + 1) ≤ (s.getD k 0 : Nat))
  | k, hk, hq => by
    have ht : (tailsV l).getD (s.getD k 0) 0 = mostV (tailsV l) - k := by
      have h1 := chain_lo h (k := k) (by omega)
      have h2 := chain_hi h k (by omega)
      omega
    obtain ⟨c, hc, e1, e2, e3⟩ := last_ok l k hk
    have hfit : fits l (tailsV l) (mostV (tailsV l) - k) (lst l k) (s.getD k 0) := by
      cases k with
      | zero => exact ⟨by show (-1 : Int) < _; omega, ht, .inl (by show (-1 : Int) < 0; omega)⟩
      | succ k =>
        obtain ⟨ih1, ih2⟩ := lex_step h hlen k (by omega) (fun q hqk => hq q (by omega))
        have hbe := hq k (by omega)
        have hle := ih2 hbe.symm
        obtain ⟨g1, g2⟩ := h.at (p := k) (q := k + 1) (by omega) (by omega)
        exact ⟨by omega, ht, .inr (by rw [hbe]; exact g2)⟩
    have := e3 (s.getD k 0) (h.lt (by omega)) hfit
    show bOf l (lastI l (tailsV l) (mostV (tailsV l)) (k + 1)) ≤ _ ∧ (_ → lastI l (tailsV l) (mostV (tailsV l)) (k + 1) ≤ _)
    rw [show lst l (k + 1) = (c : Int) from e1] at *
    rw [e1]
    exact ⟨this.1, fun hb => by have := this.2 hb; omega⟩
theorem chainP_get (l : List Mt) (t : List Nat) (most : Nat) : ∀ j k, k < j → (chainP l t most j)[k]? = some (l.getD (lastI l t most (k + 1)).toNat ⟨0, 0, 0⟩)
  | 0, k, h => by omega
  | j + 1, k, h => by
    rw [chainP_succ]
    rcases Nat.lt_or_ge k j with hk | hk
    · rw [List.getElem?_append_left (by rw [chainP_len]; exact hk), chainP_get l t most j k hk]
    · obtain rfl : k = j := by omega
      rw [List.getElem?_append_right (by rw [chainP_len]; exact Nat.le_refl _), chainP_len, Nat.sub_self]; rfl
theorem long_get {l : List Mt} {k : Nat} (h : k < (longV l).length) : ∃ (c : Nat) (x : Mt), c < l.length ∧ lst l (k + 1) = c ∧ l[c]? = some x ∧ (longV l)[k]? = some x ∧ bOf l (lst l (k + 1)) = x.b ∧ lst l k < c ∧ (k ≠ 0 → bOf l (lst l k) < x.b) := by
  rw [longV_len] at h
  obtain ⟨c, hc, e1, e2, _⟩ := last_ok l k h
  have hx := getD_at hc
  refine ⟨c, _, hc, e1, hx, ?_, ?_, e2.1, fun h0 => ?_⟩
  · unfold longV; rw [chainP_get _ _ _ _ _ h, e1, Int.toNat_natCast]
  · show bOf l (lastI l (tailsV l) (mostV (tailsV l)) (k + 1)) = _
    rw [e1]; unfold bOf; rw [Int.toNat_natCast]
  · rcases e2.2.2 with h1 | h1
    · obtain ⟨k', rfl⟩ : ∃ i, k = i + 1 := ⟨k - 1, by omega⟩
      obtain ⟨c', _, e1', _⟩ := last_ok l k' (by omega)
      rw [e1'] at h1; omega
    · simpa [bOf] using h1
theorem long_asc {l : List Mt} {k : Nat} {x y : Mt} (hx : (longV l)[k]? = some x) (hy : (longV l)[k + 1]? = some y) : x.b < y.b := by
  have h1 := (List.getElem?_eq_some_iff.1 hx).1
  have h2 := (List.getElem?_eq_some_iff.1 hy).1
  obtain ⟨c, x', _, _, _, g1, g2, _, _⟩ := long_get h1
  obtain ⟨d, y', _, _, _, k1, k2, _, k3⟩ := long_get h2
  rw [hx] at g1; cases g1
  rw [hy] at k1; cases k1
  have := k3 (by omega)
  rw [g2] at this; exact this

/-! ### The greedy search -/
def greedy (l best : List Mt) : Nat → Nat
  | 0 => 0
  | k + 1 => if best[greedy l best k]? ≠ none ∧ best[greedy l best k]? = l[k]? then greedy l best k + 1 else greedy l best k
theorem greedy_succ (l best : List Mt) (k : Nat) : greedy l best (k + 1) = if best[greedy l best k]? ≠ none ∧ best[greedy l best k]? = l[k]? then greedy l best k + 1 else greedy l best k := rfl
theorem greedy_le (l best : List Mt) : ∀ k, greedy l best k ≤ best.length
  | 0 => Nat.zero_le _
  | k + 1 => by
    have ih := greedy_le l best k
    rw [greedy_succ]
    split
    · rename_i h
      obtain ⟨y, hy⟩ := Option.ne_none_iff_exists'.1 h.1
      have := (List.getElem?_eq_some_iff.1 hy).1
      omega
    · exact ih
theorem greedy_ok (l : List Mt) : ∀ (k j : Nat), j ≤ (longV l).length → lst l j < k → j ≤ greedy l (longV l) k
  | 0, j, hj, h => by
    cases j with
    | zero => exact Nat.zero_le _
    | succ j => obtain ⟨c, x, _, e, _⟩ := long_get (l := l) (k := j) (by omega); omega
  | k + 1, j, hj, h => by
    cases j with
    | zero => exact Nat.zero_le _
    | succ j =>
      obtain ⟨c, x, hc, e1, e2, e3, _, e5, _⟩ := long_get (l := l) (k := j) (by omega)
      rw [greedy_succ]
      rcases Nat.lt_or_ge c k with hck | hck
      · have := greedy_ok l k (j + 1) hj (by omega)
        split <;> omega
      · obtain rfl : c = k := by omega
        have ih := greedy_ok l c j (by omega) e5
        rcases Nat.lt_or_ge j (greedy l (longV l) c) with h1 | h1
        · split <;> omega
        · have h2 : greedy l (longV l) c = j := by omega
          rw [h2, e3, e2, if_pos ⟨by simp, rfl⟩]
          exact Nat.le_refl _
theorem greedy_all (l : List Mt) : greedy l (longV l) l.length = (longV l).length := by
  have h1 := greedy_le l (longV l) l.length
  have h2 := greedy_ok l l.length (longV l).length (Nat.le_refl _) (by
    rcases Nat.eq_zero_or_pos (longV l).length with h0 | h0
    · rw [h0]; show (-1 : Int) < _; omega
    · obtain ⟨c, x, hc, e1, _⟩ := long_get (l := l) (k := (longV l).length - 1) (by omega)
      rw [show (longV l).length - 1 + 1 = (longV l).length by omega] at e1
      omega)
  omega
theorem long_pos {l : List Mt} (h : l ≠ []) : 0 < (longV l).length := by
  rw [longV_len]
  have h0 := List.length_pos_iff.2 h
  have := t_pos l h0
  have := t_most l h0
  omega

/-! ### The picked ones -/
def selI (l : List Mt) (p : List Bool) : Nat → Option (List Nat)
  | 0 => some []
  | k + 1 => match selI l p k with
    | none => none
    | some s => if p[k]? = some true then (if s ≠ [] ∧ bOf l k ≤ bOf l (s.getD (s.length - 1) 0 : Nat) then none else some (s ++ [k])) else some s
theorem selI_skip {l : List Mt} {p : List Bool} {k : Nat} {s : List Nat} (h : selI l p k = some s) (h1 : p[k]? ≠ some true) : selI l p (k + 1) = some s := by
  rw [selI, h]; simp only; rw [if_neg h1]
theorem selI_bad {l : List Mt} {p : List Bool} {k : Nat} {s : List Nat} (h : selI l p k = some s) (h1 : p[k]? = some true) (h2 : s ≠ [] ∧ bOf l k ≤ bOf l (s.getD (s.length - 1) 0 : Nat)) : selI l p (k + 1) = none := by
  rw [selI, h]; simp only; rw [if_pos h1, if_pos h2]
theorem selI_take {l : List Mt} {p : List Bool} {k : Nat} {s : List Nat} (h : selI l p k = some s) (h1 : p[k]? = some true) (h2 : ¬ (s ≠ [] ∧ bOf l k ≤ bOf l (s.getD (s.length - 1) 0 : Nat))) : selI l p (k + 1) = some (s ++ [k]) := by
  rw [selI, h]; simp only; rw [if_pos h1, if_neg h2]
theorem selI_none {l : List Mt} {p : List Bool} {k : Nat} (h : selI l p k = none) : ∀ d, selI l p (k + d) = none
  | 0 => h
  | d + 1 => by rw [show k + (d + 1) = k + d + 1 by omega, selI, selI_none h d]
theorem selI_ok {l : List Mt} {p : List Bool} : ∀ (k : Nat) (s : List Nat), k ≤ l.length → selI l p k = some s → ChI l s ∧ s.length ≤ k ∧ ∀ i ∈ s, i < k
  | 0, s, _, h => by
    obtain rfl : s = [] := by simpa [selI] using h.symm
    exact ⟨⟨by simp, by simp⟩, by simp, by simp⟩
  | k + 1, s, hk, h => by
    cases hs : selI l p k with
    | none => rw [selI, hs] at h; simp at h
    | some r =>
      obtain ⟨⟨i1, i2⟩, i3, i4⟩ := selI_ok k r (by omega) hs
      by_cases h1 : p[k]? = some true
      · by_cases h2 : r ≠ [] ∧ bOf l k ≤ bOf l (r.getD (r.length - 1) 0 : Nat)
        · rw [selI_bad hs h1 h2] at h; cases h
        · rw [selI_take hs h1 h2] at h
          cases h
          refine ⟨⟨List.pairwise_append.2 ⟨i1, by simp, fun x hx y hy => ?_⟩, fun i hi => ?_⟩, by simp; omega, fun i hi => ?_⟩
          · simp only [List.mem_singleton] at hy
            subst hy
            have hne : r ≠ [] := fun e => by rw [e] at hx; simp at hx
            have hl0 := List.length_pos_iff.2 hne
            have h3 : bOf l (r.getD (r.length - 1) 0 : Nat) < bOf l y := by
              have : ¬ bOf l y ≤ bOf l (r.getD (r.length - 1) 0 : Nat) := fun hh => h2 ⟨hne, hh⟩
              omega
            obtain ⟨q, hq, rfl⟩ := List.getElem_of_mem hx
            have hqd : r.getD q 0 = r[q] := by rw [List.getD_eq_getElem?_getD, List.getElem?_eq_getElem hq]; rfl
            refine ⟨i4 _ hx, ?_⟩
            rcases Nat.lt_or_ge q (r.length - 1) with h4 | h4
            · have := (ChI.at ⟨i1, i2⟩ h4 (by omega)).2
              rw [hqd] at this; omega
            · have : q = r.length - 1 := by omega
              rw [← this, hqd] at h3; exact h3
          · rcases List.mem_append.1 hi with hi | hi
            · exact i2 i hi
            · simp only [List.mem_singleton] at hi; omega
          · rcases List.mem_append.1 hi with hi | hi
            · have := i4 i hi; omega
            · simp only [List.mem_singleton] at hi; omega
      · rw [selI_skip hs h1] at h
        cases h
        exact ⟨⟨i1, i2⟩, by omega, fun i hi => by have := i4 i hi; omega⟩
/-- The picked elements. -/
def selM (l : List Mt) (s : List Nat) : List Mt := s.map fun i => l.getD i ⟨0, 0, 0⟩
theorem selM_b {l : List Mt} {s : List Nat} {k : Nat} {x : Mt} (h : (selM l s)[k]? = some x) : x.b = bOf l (s.getD k 0 : Nat) := by
  unfold selM at h
  rw [List.getElem?_map] at h
  obtain ⟨i, hi, rfl⟩ := Option.map_eq_some_iff.1 h
  rw [getD_is hi]; unfold bOf; rw [Int.toNat_natCast]
/-- The law: the first numbers B that are not the same ascend. -/
theorem sel_lex {l : List Mt} {s : List Nat} (h : ChI l s) (hlen : s.length = (longV l).length) {k : Nat} {x y : Mt} (hx : (longV l)[k]? = some x) (hy : (selM l s)[k]? = some y)
    (hq : ∀ q, q < k → ∀ u v, (longV l)[q]? = some u → (selM l s)[q]? = some v → u.b = v.b) : x.b ≤ y.b := by
  have hk := (List.getElem?_eq_some_iff.1 hx).1
  have h1 := lex_step h (by rw [hlen, longV_len]) k (by rw [← longV_len]; exact hk) (fun q hqk => by
    obtain ⟨c, u, _, _, _, e3, e4, _⟩ := long_get (l := l) (k := q) (by omega)
    obtain ⟨v, hv⟩ : ∃ v, (selM l s)[q]? = some v := ⟨_, List.getElem?_eq_getElem (by unfold selM; rw [List.length_map]; omega)⟩
    rw [e4, hq q hqk u v e3 hv, selM_b hv])
  obtain ⟨c, x', _, _, _, e3, e4, _⟩ := long_get hk
  rw [hx] at e3; cases e3
  rw [← e4, selM_b hy]
  exact h1.1
end Go.Proofs.Ytmmhbnlafcmloaa

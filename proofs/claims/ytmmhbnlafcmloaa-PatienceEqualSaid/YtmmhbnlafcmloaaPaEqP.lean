/- PatienceEqual's plain laws. No condition. -/
import Derived.Test.YtmmhbnlafcmloaaPaValP
namespace Go.Proofs.Ytmmhbnlafcmloaa

theorem pre_ge {a b : Lns} {n : Nat} (ha : n ≤ a.length) (hb : n ≤ b.length) (h : a.take n = b.take n) : n ≤ preN a b := by
  obtain ⟨_, _, _, h4⟩ := preN_spec a b
  rcases Nat.lt_or_ge (preN a b) n with hl | hl
  · have := slices_run (a := a) (b := b) (p := 0) (q := 0) (l := n) (by omega) (by omega) (by simpa using h) (preN a b) hl
    rw [Nat.zero_add, h4] at this; cases this
  · exact hl
theorem sufF_full {a b : Lns} : ∀ (f m : Nat), (∀ j : Nat, j < m + f → mtB a b ((a.length : Int) - 1 - j) ((b.length : Int) - 1 - j) = true) → sufF a b f m = m + f
  | 0, m, _ => rfl
  | f + 1, m, h => by
    rw [sufF, if_pos (h m (by omega)), sufF_full f (m + 1) (fun j hj => h j (by omega))]; omega
theorem cutV_nil (a : Lns) {x y : Nat} (h : y ≤ x) : cutV a x y = [] := by
  unfold cutV; rw [show y - x = 0 by omega, List.take_zero]
theorem pd_ends (f : Nat) (a b : Lns) (h : cutV a (preN a b) (a.length - sufN a b) = [] ∨ cutV b (preN a b) (b.length - sufN a b) = []) :
    pdV (f + 1) a b = runsV ([⟨0, 0, (preN a b : Int)⟩] ++ [] ++ [⟨(a.length : Int) - sufN a b, (b.length : Int) - sufN a b, (sufN a b : Int)⟩]) := by
  unfold pdV; rw [pcV, if_pos h]
theorem pd_same (f : Nat) (x : Lns) : pdV (f + 1) x x = if x.length = 0 then [] else [⟨0, 0, (x.length : Int)⟩] := by
  have h1 : preN x x = x.length := by
    have := pre_ge (a := x) (b := x) (Nat.le_refl _) (Nat.le_refl _) rfl
    have := (preN_spec x x).1; omega
  have h2 : sufN x x = 0 := by unfold sufN; rw [h1, Nat.min_self, Nat.sub_self]; rfl
  rw [pd_ends f x x (.inl (by rw [h1]; exact cutV_nil _ (by omega))), h1, h2]
  show keepV (keepV [] ⟨0, 0, x.length⟩) ⟨(x.length : Int) - (0 : Nat), (x.length : Int) - (0 : Nat), (0 : Nat)⟩ = _
  rw [keepV_zero (m := ⟨(x.length : Int) - (0 : Nat), (x.length : Int) - (0 : Nat), ((0 : Nat) : Int)⟩) (by dsimp only; omega)]
  by_cases h : x.length = 0
  · rw [if_pos h, h, keepV_zero (by dsimp only; omega)]
  · rw [if_neg h, keepV_nil (by dsimp only; omega)]
theorem pd_none (f : Nat) (x : Lns) : pdV (f + 1) x [] = [] := by
  have h1 : preN x [] = 0 := by have := (preN_spec x []).2.1; simpa using this
  have h2 : sufN x [] = 0 := by have := (suf_le x []).2; simp only [List.length_nil] at this; omega
  rw [pd_ends f x [] (.inr (by simp [cutV])), h1, h2]
  show keepV (keepV [] ⟨0, 0, (0 : Nat)⟩) ⟨(x.length : Int) - (0 : Nat), (([] : Lns).length : Int) - (0 : Nat), (0 : Nat)⟩ = _
  rw [keepV_zero (by dsimp only; omega), keepV_zero (by dsimp only; omega)]
theorem pd_part (f : Nat) (u a v : Lns) : keptV (pdV (f + 1) (u ++ a ++ v) (u ++ v)) = ((u ++ v).length : Nat) := by
  obtain ⟨x, hx⟩ : ∃ x, u ++ a ++ v = x := ⟨_, rfl⟩
  obtain ⟨y, hy⟩ : ∃ y, u ++ v = y := ⟨_, rfl⟩
  have lx : x.length = u.length + a.length + v.length := by rw [← hx]; simp; omega
  have ly : y.length = u.length + v.length := by rw [← hy]; simp
  have h1 : u.length ≤ preN x y := pre_ge (by omega) (by omega) (by rw [← hx, ← hy]; simp [List.append_assoc])
  obtain ⟨q1, q2, _, _⟩ := preN_spec x y
  have h2 : sufN x y = y.length - preN x y := by
    unfold sufN
    rw [show min x.length y.length = y.length by omega, sufF_full _ 0 (fun j hj => ?_), Nat.zero_add]
    have := slices_run (a := x) (b := y) (p := u.length + a.length) (q := u.length) (l := v.length) (by omega) (by omega) (by
      rw [← hx, ← hy, show u.length + a.length = (u ++ a).length by simp, List.drop_left, List.drop_left]) (v.length - 1 - j) (by omega)
    rw [show (x.length : Int) - 1 - j = ((u.length + a.length + (v.length - 1 - j) : Nat) : Int) by omega, show (y.length : Int) - 1 - j = ((u.length + (v.length - 1 - j) : Nat) : Int) by omega]
    exact this
  rw [hx, hy, pd_kept, if_pos (.inr (cutV_nil _ (by omega)))]
  omega
end Go.Proofs.Ytmmhbnlafcmloaa

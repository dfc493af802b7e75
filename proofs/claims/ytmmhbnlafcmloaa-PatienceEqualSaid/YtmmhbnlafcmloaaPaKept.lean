/- How many lines the patience matching keeps. No condition. -/
import Derived.Test.YtmmhbnlafcmloaaPaAsc
namespace Go.Proofs.Ytmmhbnlafcmloaa

theorem kept_snoc (l : List Mt) (m : Mt) : keptV (l ++ [m]) = keptV l + m.n := by simp [keptV]
theorem kept_keep {out : List Mt} {m : Mt} (h : 0 ≤ m.n) : keptV (keepV out m) = keptV out + m.n := by
  by_cases h0 : m.n < 1
  · rw [keepV_zero h0]; omega
  rcases snoc_or out with rfl | ⟨r, x, rfl⟩
  · rw [keepV_nil h0]; simp [keptV]
  · by_cases h1 : x.a + x.n = m.a ∧ x.b + x.n = m.b
    · rw [keepV_join h0 h1.1 h1.2, kept_snoc, kept_snoc]; dsimp only; omega
    · rw [keepV_new h0 h1, kept_snoc, kept_snoc]
theorem kept_fold : ∀ (l out : List Mt), (∀ m ∈ l, 0 ≤ m.n) → keptV (l.foldl keepV out) = keptV out + keptV l
  | [], out, _ => by simp [keptV]
  | m :: l, out, h => by
    rw [List.foldl_cons, kept_fold l _ (fun x hx => h x (by simp [hx])), kept_keep (h m (by simp)), keptV_cons]; omega
theorem kept_runs {l : List Mt} (h : ∀ m ∈ l, 0 ≤ m.n) : keptV (runsV l) = keptV l := by
  unfold runsV; rw [kept_fold l [] h]; simp [keptV]
theorem kept_append (l r : List Mt) : keptV (l ++ r) = keptV l + keptV r := by
  induction l with
  | nil => simp [keptV]
  | cons m l ih => rw [List.cons_append, keptV_cons, keptV_cons, ih]; omega
theorem kept_sh (l : List Mt) (x y : Int) : keptV (shV l x y) = keptV l := by
  induction l with
  | nil => rfl
  | cons m l ih => show keptV (mvM m x y :: shV l x y) = _; rw [keptV_cons, keptV_cons, ih]; rfl
theorem diff_nn (a b : Lns) : ∀ m ∈ diffV a b (dist a b), 0 ≤ m.n := fun m hm => (check_small _ _ _ (diff_ok a b).1 m hm).1
theorem part_nn {D : Lns → Lns → List Mt} (hD : ∀ x y, ∀ m ∈ D x y, 0 ≤ m.n) (a b : Lns) : ∀ (cs : List Mt) (p q : Nat), (∀ c ∈ cs, 0 ≤ c.n) → ∀ m ∈ partG D a b p q cs, 0 ≤ m.n
  | [], p, q, _, m, hm => by
    simp only [partG, shV] at hm
    obtain ⟨x, hx, rfl⟩ := List.mem_map.1 hm
    exact hD _ _ x hx
  | c :: cs, p, q, hc, m, hm => by
    simp only [partG, shV] at hm
    rcases List.mem_append.1 hm with hm | hm
    · rcases List.mem_append.1 hm with hm | hm
      · obtain ⟨x, hx, rfl⟩ := List.mem_map.1 hm
        exact hD _ _ x hx
      · simp only [List.mem_singleton] at hm; subst hm; exact hc _ (by simp)
    · exact part_nn hD a b cs _ _ (fun d hd => hc d (by simp [hd])) m hm
theorem long_one (a b : Lns) : ∀ c ∈ longV (uniqV a b), c.n = 1 := fun c hc => by
  have h := (chain_asc (uniq_pair a b a.length (Nat.le_refl _)) _ (Nat.le_refl _)).2.1 c hc
  exact (uniq_mem a b a.length (Nat.le_refl _) c h).2.2.2.2
theorem pc_nn : ∀ (f : Nat) (a b : Lns), ∀ m ∈ pcV f a b, 0 ≤ m.n
  | 0, a, b, m, hm => by simp [pcV] at hm
  | f + 1, a, b, m, hm => by
    rw [pcV] at hm
    rcases List.mem_append.1 hm with hm | hm
    · rcases List.mem_append.1 hm with hm | hm
      · simp only [List.mem_singleton] at hm; subst hm; exact Int.natCast_nonneg _
      · split at hm
        · simp at hm
        · obtain ⟨x, hx, rfl⟩ := List.mem_map.1 hm
          show 0 ≤ x.n
          unfold midG at hx
          split at hx
          · exact diff_nn _ _ x hx
          · exact part_nn (fun x y => pc_nn f x y) _ _ _ _ _ (fun c hc => by rw [long_one _ _ c hc]; omega) x hx
    · simp only [List.mem_singleton] at hm; subst hm; exact Int.natCast_nonneg _
/-- What is kept: the common ends, and what the middle keeps. -/
theorem pd_kept (f : Nat) (a b : Lns) : keptV (pdV (f + 1) a b) = (preN a b : Int) + (if cutV a (preN a b) (a.length - sufN a b) = [] ∨ cutV b (preN a b) (b.length - sufN a b) = [] then 0 else keptV (midG (pcV f) (cutV a (preN a b) (a.length - sufN a b)) (cutV b (preN a b) (b.length - sufN a b)))) + (sufN a b : Int) := by
  unfold pdV
  rw [kept_runs (pc_nn (f + 1) a b), pcV, kept_append, kept_append]
  congr 1
  · congr 1
    · simp [keptV]
    · split
      · rfl
      · rw [kept_sh]
  · simp [keptV]

/-! ### The common ends -/
theorem sufF_spec (a b : Lns) : ∀ (f m : Nat), (∀ j : Nat, j < m → mtB a b ((a.length : Int) - 1 - j) ((b.length : Int) - 1 - j) = true) → ∀ j : Nat, j < sufF a b f m → mtB a b ((a.length : Int) - 1 - j) ((b.length : Int) - 1 - j) = true
  | 0, m, h, j, hj => h j hj
  | f + 1, m, h, j, hj => by
    rw [sufF] at hj
    split at hj
    · rename_i h1
      refine sufF_spec a b f (m + 1) (fun i hi => ?_) j hj
      rcases Nat.lt_or_ge i m with h2 | h2
      · exact h i h2
      · obtain rfl : i = m := by omega
        exact h1
    · exact h j hj
theorem parts_eq (a : Lns) {n m : Nat} (h : n + m ≤ a.length) : a = a.take n ++ cutV a n (a.length - m) ++ a.drop (a.length - m) := by
  unfold cutV
  rw [List.append_assoc]
  have h1 : List.take (a.length - m - n) (List.drop n a) ++ List.drop (a.length - m) a = List.drop n a := by
    have := List.take_append_drop (a.length - m - n) (List.drop n a)
    rw [List.drop_drop, show n + (a.length - m - n) = a.length - m by omega] at this
    exact this
  rw [h1, List.take_append_drop]
theorem common_dist (a b : Lns) : dist a b = dist (cutV a (preN a b) (a.length - sufN a b)) (cutV b (preN a b) (b.length - sufN a b)) := by
  obtain ⟨h1, h2⟩ := suf_le a b
  obtain ⟨q1, q2, q3, _⟩ := preN_spec a b
  have hp : a.take (preN a b) = b.take (preN a b) := by
    have := run_slices (a := a) (b := b) (p := 0) (q := 0) (l := preN a b) (fun j hj => by simpa using q3 j hj)
    simpa using this
  have hs : a.drop (a.length - sufN a b) = b.drop (b.length - sufN a b) := by
    have hm : ∀ j, j < sufN a b → mtB a b ((a.length - sufN a b + j : Nat)) ((b.length - sufN a b + j : Nat)) = true := fun j hj => by
      have hlt : sufN a b - 1 - j < sufN a b := by omega
      have := sufF_spec a b (min a.length b.length - preN a b) 0 (fun j hj => by omega) (sufN a b - 1 - j) hlt
      rw [show (a.length : Int) - 1 - (sufN a b - 1 - j : Nat) = (a.length - sufN a b + j : Nat) by omega, show (b.length : Int) - 1 - (sufN a b - 1 - j : Nat) = (b.length - sufN a b + j : Nat) by omega] at this
      exact this
    have := run_slices hm
    rwa [List.take_of_length_le (by rw [List.length_drop]; omega), List.take_of_length_le (by rw [List.length_drop]; omega)] at this
  have e1 := parts_eq a h1
  have e2 := parts_eq b h2
  rw [hp, hs] at e1
  generalize cutV a (preN a b) (a.length - sufN a b) = x at *
  generalize cutV b (preN a b) (b.length - sufN a b) = y at *
  generalize List.take (preN a b) b = u at *
  generalize List.drop (b.length - sufN a b) b = v at *
  rw [e1, e2, dist_behind, dist_before]
theorem dist_nil (y : Lns) : dist [] y = y.length := by
  have h1 := dist_le [] y
  have h2 := dist_ed [] y
  have h3 := (ed_abs (a := []) (b := y) ([] : Lns).length y.length).2.1
  simp only [List.length_nil] at *
  omega
/-- Without unique lines between the common ends, nothing better is to be had. -/
theorem none_dist (f : Nat) (a b : Lns) (h : longV (uniqV (cutV a (preN a b) (a.length - sufN a b)) (cutV b (preN a b) (b.length - sufN a b))) = []) :
    (a.length : Int) + b.length - 2 * keptV (pdV (f + 1) a b) = dist a b := by
  obtain ⟨h1, h2⟩ := suf_le a b
  have hx := cutV_len (a := a) (x := preN a b) (y := a.length - sufN a b) (by omega)
  have hy := cutV_len (a := b) (x := preN a b) (y := b.length - sufN a b) (by omega)
  rw [pd_kept, common_dist]
  split
  · rename_i h0
    rcases h0 with h0 | h0
    · rw [h0] at hx ⊢
      rw [dist_nil]
      simp only [List.length_nil] at hx
      omega
    · rw [h0] at hy ⊢
      rw [dist_comm, dist_nil]
      simp only [List.length_nil] at hy
      omega
  · have := (diff_ok (cutV a (preN a b) (a.length - sufN a b)) (cutV b (preN a b) (b.length - sufN a b))).2
    unfold midG
    rw [if_pos h]
    omega
theorem kept_ge (f : Nat) (a b : Lns) : (preN a b : Int) + sufN a b ≤ keptV (pdV (f + 1) a b) := by
  rw [pd_kept]
  have : ∀ l : List Mt, (∀ m ∈ l, 0 ≤ m.n) → 0 ≤ keptV l := by
    intro l
    induction l with
    | nil => intro _; simp [keptV]
    | cons m l ih => intro h; have := ih (fun x hx => h x (by simp [hx])); have := h m (by simp); rw [keptV_cons]; omega
  split
  · omega
  · have h2 := this (midG (pcV f) (cutV a (preN a b) (a.length - sufN a b)) (cutV b (preN a b) (b.length - sufN a b))) (fun m hm => by
      unfold midG at hm
      split at hm
      · exact diff_nn _ _ m hm
      · exact part_nn (fun x y => pc_nn f x y) _ _ _ _ _ (fun c hc => by rw [long_one _ _ c hc]; omega) m hm)
    omega
end Go.Proofs.Ytmmhbnlafcmloaa

/- The plain laws of the histogram matching. No condition. -/
import Derived.Test.YtkkjhkmfoeblaaaHiDefs
namespace Go.Proofs.Ytkkjhkmfoeblaaa

/-! ### The best run -/

/-- A run that Best may return, with its rarity. -/
def Run (a b : Lns) (s : Mt × Nat) (i k l : Nat) : Prop := s.1 = ⟨i, k, l⟩ ∧ l ≠ 0 ∧ runN a b i k = l ∧ i < a.length ∧ k < b.length ∧ rarV a i l = s.2
/-- It is the best of those that are looked at. -/
def Top (a b : Lns) (D : Nat → Nat → Prop) (s : Mt × Nat) : Prop :=
  (s = (⟨0, 0, 0⟩, 65) ∧ ∀ i k, i < a.length → k < b.length → D i k → runN a b i k = 0) ∨
  (∃ i k l, Run a b s i k l ∧ ∀ i' k', i' < a.length → k' < b.length → D i' k' → runN a b i' k' ≠ 0 → s.2 ≤ rarV a i' (runN a b i' k') ∧ (rarV a i' (runN a b i' k') = s.2 → runN a b i' k' ≤ l))

theorem top_step {a b : Lns} {D D' : Nat → Nat → Prop} {s : Mt × Nat} {i k : Nat} (ha : a.length ≤ 64) (hi : i < a.length) (hk : k < b.length) (h : Top a b D s) (hD : ∀ i' k', D' i' k' → D i' k' ∨ (i' = i ∧ k' = k)) : Top a b D' (bstep a b s i k) := by
  have hr := rarV_le a i (runN a b i k)
  unfold bstep
  by_cases h0 : runN a b i k = 0
  · rw [if_pos h0]
    rcases h with ⟨h1, h2⟩ | ⟨i0, k0, l0, h1, h2⟩
    · exact .inl ⟨h1, fun i' k' hi' hk' hd => by
        rcases hD _ _ hd with h | ⟨rfl, rfl⟩
        · exact h2 i' k' hi' hk' h
        · exact h0⟩
    · exact .inr ⟨i0, k0, l0, h1, fun i' k' hi' hk' hd hn => by
        rcases hD _ _ hd with h | ⟨rfl, rfl⟩
        · exact h2 i' k' hi' hk' h hn
        · exact absurd h0 hn⟩
  · rw [if_neg h0]
    rcases h with ⟨rfl, h2⟩ | ⟨i0, k0, l0, h1, h2⟩
    · rw [if_pos (.inl (by show _ < 65; omega))]
      refine .inr ⟨i, k, _, ⟨rfl, h0, rfl, hi, hk, rfl⟩, fun i' k' hi' hk' hd hn => ?_⟩
      rcases hD _ _ hd with h | ⟨rfl, rfl⟩
      · exact absurd (h2 i' k' hi' hk' h) hn
      · exact ⟨Nat.le_refl _, fun _ => Nat.le_refl _⟩
    · have hs1 : s.1.n = l0 := by rw [h1.1]
      by_cases hc : rarV a i (runN a b i k) < s.2 ∨ (rarV a i (runN a b i k) = s.2 ∧ s.1.n < runN a b i k ∧ rarV a i (runN a b i k) ≤ 64)
      · rw [if_pos hc]
        refine .inr ⟨i, k, _, ⟨rfl, h0, rfl, hi, hk, rfl⟩, fun i' k' hi' hk' hd hn => ?_⟩
        dsimp only
        rcases hD _ _ hd with h | ⟨rfl, rfl⟩
        · have := h2 i' k' hi' hk' h hn
          refine ⟨by omega, fun he => ?_⟩
          have h3 := this.2
          rcases hc with hc | ⟨hc1, hc2, _⟩
          · omega
          · have := h3 (by omega); omega
        · exact ⟨Nat.le_refl _, fun _ => Nat.le_refl _⟩
      · rw [if_neg hc]
        refine .inr ⟨i0, k0, l0, h1, fun i' k' hi' hk' hd hn => ?_⟩
        rcases hD _ _ hd with h | ⟨rfl, rfl⟩
        · exact h2 i' k' hi' hk' h hn
        · omega
theorem top_row {a b : Lns} {s : Mt × Nat} {i : Nat} (ha : a.length ≤ 64) (hi : i < a.length) (h : Top a b (fun i' _ => i' < i) s) : ∀ k, k ≤ b.length → Top a b (fun i' k' => i' < i ∨ (i' = i ∧ k' < k)) (browP a b s i k)
  | 0, _ => by
    rw [browP_zero]
    rcases h with ⟨h1, h2⟩ | ⟨i0, k0, l0, h1, h2⟩
    · exact .inl ⟨h1, fun i' k' hi' hk' hd => h2 i' k' hi' hk' (by omega)⟩
    · exact .inr ⟨i0, k0, l0, h1, fun i' k' hi' hk' hd => h2 i' k' hi' hk' (by omega)⟩
  | k + 1, hk => by
    rw [browP_succ]
    exact top_step ha hi (by omega) (top_row ha hi h k (by omega)) (fun i' k' hd => by omega)
theorem top_any {a b : Lns} (ha : a.length ≤ 64) : ∀ i, i ≤ a.length → Top a b (fun i' _ => i' < i) (bestP a b i)
  | 0, _ => .inl ⟨bestP_zero a b, fun i' k' _ _ hd => absurd hd (by omega)⟩
  | i + 1, hi => by
    rw [bestP_succ]
    have := top_row ha (by omega) (top_any ha i (by omega)) b.length (Nat.le_refl _)
    rcases this with ⟨h1, h2⟩ | ⟨i0, k0, l0, h1, h2⟩
    · exact .inl ⟨h1, fun i' k' hi' hk' hd => h2 i' k' hi' hk' (by omega)⟩
    · exact .inr ⟨i0, k0, l0, h1, fun i' k' hi' hk' hd => h2 i' k' hi' hk' (by omega)⟩
/-- What Best returns is the best run, where there is any. -/
theorem best_top {a b : Lns} (ha : a.length ≤ 64) : Top a b (fun _ _ => True) (bestV a b) := by
  rcases top_any (b := b) ha a.length (Nat.le_refl _) with ⟨h1, h2⟩ | ⟨i0, k0, l0, h1, h2⟩
  · exact .inl ⟨h1, fun i' k' hi' hk' _ => h2 i' k' hi' hk' hi'⟩
  · exact .inr ⟨i0, k0, l0, h1, fun i' k' hi' hk' _ => h2 i' k' hi' hk' hi'⟩
theorem best_none {a b : Lns} (ha : a.length ≤ 64) (h : ¬ (bestV a b).2 ≤ 64) : bestV a b = (⟨0, 0, 0⟩, 65) ∧ ∀ i k, i < a.length → k < b.length → runN a b i k = 0 := by
  rcases best_top (b := b) ha with ⟨h1, h2⟩ | ⟨i0, k0, l0, h1, h2⟩
  · exact ⟨h1, fun i k hi hk => h2 i k hi hk trivial⟩
  · have := h1.2.2.2.2.2; have := rarV_le a i0 l0; omega
theorem best_some {a b : Lns} (ha : a.length ≤ 64) (h : (bestV a b).2 ≤ 64) : ∃ i k l, Run a b (bestV a b) i k l ∧ ∀ i' k', i' < a.length → k' < b.length → runN a b i' k' ≠ 0 → (bestV a b).2 ≤ rarV a i' (runN a b i' k') ∧ (rarV a i' (runN a b i' k') = (bestV a b).2 → runN a b i' k' ≤ l) := by
  rcases best_top (b := b) ha with ⟨h1, h2⟩ | ⟨i0, k0, l0, h1, h2⟩
  · rw [h1] at h; exact absurd h (by decide)
  · exact ⟨i0, k0, l0, h1, fun i' k' hi' hk' => h2 i' k' hi' hk' trivial⟩

/-! ### Valid matchings -/
theorem check_cons {a b : Lns} {x y : Int} {m : Mt} {r : List Mt} : checkV a b x y (m :: r) = 0 ↔ codeV a b x y m = 0 ∧ checkV a b (m.a + m.n) (m.b + m.n) r = 0 := by
  rw [checkV]
  by_cases h : codeV a b x y m = 0
  · rw [if_pos h]; exact ⟨fun h2 => ⟨h, h2⟩, fun h2 => h2.2⟩
  · rw [if_neg h]; exact ⟨fun h2 => absurd h2 h, fun h2 => h2.1⟩
theorem check_append {a b : Lns} : ∀ (l r : List Mt) (x y : Int), checkV a b x y (l ++ r) = 0 ↔ checkV a b x y l = 0 ∧ checkV a b (endV x y l).1 (endV x y l).2 r = 0
  | [], r, x, y => by simp [checkV, endV]
  | m :: l, r, x, y => by
    rw [List.cons_append, check_cons, check_cons, check_append l r, endV]
    exact ⟨fun ⟨h1, h2, h3⟩ => ⟨⟨h1, h2⟩, h3⟩, fun ⟨⟨h1, h2⟩, h3⟩ => ⟨h1, h2, h3⟩⟩
theorem take_run (a : Lns) {i p n : Nat} (h : p + n ≤ i) : ((a.take i).drop p).take n = (a.drop p).take n := by
  rw [List.drop_take, List.take_take, Nat.min_eq_left (by omega)]
theorem code_take {a b : Lns} {i k : Nat} {x y : Int} {m : Mt} (hi : i ≤ a.length) (hk : k ≤ b.length) (h : codeV (a.take i) (b.take k) x y m = 0) : codeV a b x y m = 0 ∧ m.a + m.n ≤ i ∧ m.b + m.n ≤ k := by
  obtain ⟨h1, h2, h3, h4, h5, h6, h7, h8, h9⟩ := codeV_zero h
  rw [List.length_take, Nat.min_eq_left hi] at h4
  rw [List.length_take, Nat.min_eq_left hk] at h5
  rw [take_run a (by omega), take_run b (by omega)] at h9
  exact ⟨codeV_ok h1 h2 h3 (by omega) (by omega) h6 h7 h8 h9, h4, h5⟩
theorem check_take {a b : Lns} {i k : Nat} (hi : i ≤ a.length) (hk : k ≤ b.length) : ∀ (l : List Mt) (x y : Int), checkV (a.take i) (b.take k) x y l = 0 → checkV a b x y l = 0
  | [], x, y, _ => rfl
  | m :: l, x, y, h => by
    obtain ⟨h1, h2⟩ := check_cons.1 h
    exact check_cons.2 ⟨(code_take hi hk h1).1, check_take hi hk l _ _ h2⟩
/-- Where a valid matching ends: at its beginning, or behind equal lines. -/
theorem check_end {a b : Lns} : ∀ (l : List Mt) (x y : Int), checkV a b x y l = 0 → l = [] ∨ ((endV x y l).1 ≤ a.length ∧ (endV x y l).2 ≤ b.length ∧ mtB a b ((endV x y l).1 - 1) ((endV x y l).2 - 1) = true)
  | [], x, y, _ => .inl rfl
  | m :: l, x, y, h => by
    right
    obtain ⟨h1, h2⟩ := check_cons.1 h
    rcases check_end l _ _ h2 with rfl | h3
    · obtain ⟨q1, q2, q3, q4, q5, _, _, _, q9⟩ := codeV_zero h1
      refine ⟨q4, q5, ?_⟩
      have := slices_run (by omega) (by omega) q9 (m.n.toNat - 1) (by omega)
      rw [show ((m.a.toNat + (m.n.toNat - 1) : Nat) : Int) = m.a + m.n - 1 by omega, show ((m.b.toNat + (m.n.toNat - 1) : Nat) : Int) = m.b + m.n - 1 by omega] at this
      exact this
    · exact h3
theorem code_drop {a b : Lns} {i k : Nat} {x y : Int} {m : Mt} (hi : i ≤ a.length) (hk : k ≤ b.length) (h : codeV (a.drop i) (b.drop k) x y m = 0) : codeV a b (x + i) (y + k) (m.by i k) = 0 := by
  obtain ⟨h1, h2, h3, h4, h5, h6, h7, h8, h9⟩ := codeV_zero h
  rw [List.length_drop] at h4 h5
  rw [List.drop_drop, List.drop_drop] at h9
  have e1 : (m.a + i).toNat = i + m.a.toNat := by omega
  have e2 : (m.b + k).toNat = k + m.b.toNat := by omega
  refine codeV_ok h1 ?_ ?_ ?_ ?_ ?_ ?_ ?_ ?_
  · show 0 ≤ m.a + i; omega
  · show 0 ≤ m.b + k; omega
  · show m.a + i + m.n ≤ _; omega
  · show m.b + k + m.n ≤ _; omega
  · show _ ≤ m.a + i; omega
  · show _ ≤ m.b + k; omega
  · show ¬ (m.a + i = _ ∧ m.b + k = _); omega
  · show (a.drop (m.a + i).toNat).take m.n.toNat = (b.drop (m.b + k).toNat).take m.n.toNat
    rw [e1, e2]; exact h9
theorem check_drop {a b : Lns} {i k : Nat} (hi : i ≤ a.length) (hk : k ≤ b.length) : ∀ (l : List Mt) (x y : Int), checkV (a.drop i) (b.drop k) x y l = 0 → checkV a b (x + i) (y + k) (l.map (fun m => m.by i k)) = 0
  | [], x, y, _ => rfl
  | m :: l, x, y, h => by
    obtain ⟨h1, h2⟩ := check_cons.1 h
    rw [List.map_cons]
    refine check_cons.2 ⟨code_drop hi hk h1, ?_⟩
    have := check_drop hi hk l _ _ h2
    rw [show m.a + m.n + (i : Int) = (m.by i k).a + (m.by i k).n by show _ = m.a + i + m.n; omega, show m.b + m.n + (k : Int) = (m.by i k).b + (m.by i k).n by show _ = m.b + k + m.n; omega] at this
    exact this
/-- A matching may begin elsewhere too. -/
theorem check_from {a b : Lns} {x y x' y' : Int} {l : List Mt} (h : checkV a b x y l = 0) (h2 : ∀ m r, l = m :: r → x' ≤ m.a ∧ y' ≤ m.b ∧ ¬ (m.a = x' ∧ m.b = y')) : checkV a b x' y' l = 0 := by
  cases l with
  | nil => rfl
  | cons m r =>
    obtain ⟨h1, h3⟩ := check_cons.1 h
    obtain ⟨q1, q2, q3, q4, q5, _, _, _, q9⟩ := codeV_zero h1
    obtain ⟨p1, p2, p3⟩ := h2 m r rfl
    exact check_cons.2 ⟨codeV_ok q1 q2 q3 q4 q5 p1 p2 p3 q9, h3⟩

/-- The parts around a maximal run, and the run, are a valid matching. -/
theorem check_parts {a b : Lns} {i k l : Nat} {r1 r2 : List Mt} (hi : i + l ≤ a.length) (hk : k + l ≤ b.length) (h0 : l ≠ 0) (hrun : ∀ j, j < l → mtB a b ((i + j : Nat)) ((k + j : Nat)) = true)
    (hl : mtB a b ((i : Int) - 1) ((k : Int) - 1) = false) (hr : mtB a b ((i + l : Nat)) ((k + l : Nat)) = false)
    (h1 : checkV (a.take i) (b.take k) (-1) (-1) r1 = 0) (h2 : checkV (a.drop (i + l)) (b.drop (k + l)) (-1) (-1) r2 = 0) :
    checkV a b (-1) (-1) (r1 ++ [⟨i, k, l⟩] ++ r2.map (fun m => m.by ((i + l : Nat) : Int) ((k + l : Nat) : Int))) = 0 := by
  have g1 := check_take (by omega) (by omega) _ _ _ h1
  have g2 := check_drop (a := a) (b := b) hi hk _ _ _ h2
  rw [check_append, check_append]
  refine ⟨⟨g1, ?_⟩, ?_⟩
  · refine check_cons.2 ⟨?_, rfl⟩
    have hsl := run_slices hrun
    have hend : (endV (-1) (-1) r1).1 ≤ i ∧ (endV (-1) (-1) r1).2 ≤ k ∧ ¬ ((endV (-1) (-1) r1).1 = i ∧ (endV (-1) (-1) r1).2 = k) := by
      rcases check_end _ _ _ h1 with rfl | ⟨q1, q2, _⟩
      · simp only [endV]; omega
      · rw [List.length_take, Nat.min_eq_left (by omega)] at q1 q2
        refine ⟨q1, q2, fun he => ?_⟩
        rcases check_end _ _ _ g1 with rfl | ⟨_, _, q⟩
        · simp only [endV] at he; omega
        · rw [he.1, he.2, hl] at q; cases q
    refine codeV_ok ?_ ?_ ?_ ?_ ?_ hend.1 hend.2.1 (fun he => hend.2.2 ⟨he.1.symm, he.2.symm⟩) ?_
    · show (1 : Int) ≤ l; omega
    · show (0 : Int) ≤ i; omega
    · show (0 : Int) ≤ k; omega
    · show (i : Int) + l ≤ _; omega
    · show (k : Int) + l ≤ _; omega
    · simpa using hsl
  · rw [endV_snoc]
    refine check_from g2 fun m r he => ?_
    cases r2 with
    | nil => cases he
    | cons m' r' =>
      rw [List.map_cons] at he
      injection he with he1 he2
      subst he1
      obtain ⟨q, _⟩ := check_cons.1 h2
      obtain ⟨q1, q2, q3, q4, q5, _, _, _, q9⟩ := codeV_zero q
      show ((i : Int) + l ≤ m'.a + ((i + l : Nat) : Int)) ∧ ((k : Int) + l ≤ m'.b + ((k + l : Nat) : Int)) ∧ ¬ (m'.a + ((i + l : Nat) : Int) = (i : Int) + l ∧ m'.b + ((k + l : Nat) : Int) = (k : Int) + l)
      refine ⟨by omega, by omega, fun he => ?_⟩
      have ha : m'.a = 0 := by omega
      have hb : m'.b = 0 := by omega
      rw [ha, hb] at q9
      have := slices_run (a := a.drop (i + l)) (b := b.drop (k + l)) (p := 0) (q := 0) (l := m'.n.toNat) (by omega) (by omega) q9 0 (by omega)
      have h3 : mtB a b ((i + l : Nat)) ((k + l : Nat)) = true := by
        rw [mtB_get]
        rw [mtB_get (a := a.drop (i + l)) (b := b.drop (k + l)) (i := 0 + 0) (j := 0 + 0)] at this
        simpa [List.getElem?_drop] using this
      rw [h3] at hr; cases hr

theorem hdiff_ok : ∀ (f : Nat) (a b : Lns), a.length < f → a.length ≤ 64 → checkV a b (-1) (-1) (hdiffV f a b) = 0
  | 0, a, b, h, _ => absurd h (by omega)
  | f + 1, a, b, hf, ha => by
    rw [hdiffV]
    by_cases h : (bestV a b).2 ≤ 64
    · rw [if_pos h]
      obtain ⟨i, k, l, ⟨h1, h2, h3, h4, h5, h6⟩, _⟩ := best_some ha h
      obtain ⟨p1, p2, p3, p4⟩ := runN_spec (a := a) (b := b) (i := i) (k := k) (by omega) (by omega)
      rw [h3] at p1 p2 p3 p4
      obtain ⟨p5, p6⟩ := p4 h2
      rw [h1]
      have e1 : ((i : Int) + l).toNat = i + l := by omega
      have e2 : ((k : Int) + l).toNat = k + l := by omega
      dsimp only
      rw [e1, e2, Int.toNat_natCast, Int.toNat_natCast]
      exact check_parts p1 p2 h2 p3 p5 p6 (hdiff_ok f _ _ (by rw [List.length_take]; omega) (by rw [List.length_take]; omega)) (hdiff_ok f _ _ (by rw [List.length_drop]; omega) (by rw [List.length_drop]; omega))
    · rw [if_neg h]; exact (diff_ok a b).1

theorem check_sizes {a b : Lns} : ∀ (l : List Mt) (x y : Int), checkV a b x y l = 0 → x.toNat ≤ a.length → l.length + x.toNat ≤ a.length ∧ ∀ m ∈ l, 0 ≤ m.a ∧ m.a ≤ a.length ∧ 0 ≤ m.b ∧ m.b ≤ b.length ∧ 0 ≤ m.n ∧ m.n ≤ a.length
  | [], x, y, _, hx => ⟨by simpa using hx, by simp⟩
  | m :: l, x, y, h, hx => by
    obtain ⟨h1, h2⟩ := check_cons.1 h
    obtain ⟨q1, q2, q3, q4, q5, q6, _, _, q9⟩ := codeV_zero h1
    have ih := check_sizes l _ _ h2 (by omega)
    refine ⟨by rw [List.length_cons]; omega, fun m' hm => ?_⟩
    rcases List.mem_cons.1 hm with rfl | hm
    · omega
    · exact ih.2 m' hm
theorem hdiff_len {f : Nat} {a b : Lns} (hf : a.length < f) (ha : a.length ≤ 64) : (hdiffV f a b).length ≤ a.length := by
  have := (check_sizes _ _ _ (hdiff_ok f a b hf ha) (by simp)).1; simpa using this
end Go.Proofs.Ytkkjhkmfoeblaaa

/- The plain laws of the histogram statements: a list with itself, the rarest common line, the maximal run. No condition. -/
import Derived.Test.YtkkjhkmfoeblaaaHiLaws
import Derived.Test.YtkkjhkmfoeblaaaHiBest
namespace Go.Proofs.Ytkkjhkmfoeblaaa

theorem foldl_min_le : ∀ (l : List Nat) (y : Nat), l.foldl min y ≤ y ∧ ∀ x ∈ l, l.foldl min y ≤ x
  | [], y => ⟨Nat.le_refl _, by simp⟩
  | z :: l, y => by
    obtain ⟨h1, h2⟩ := foldl_min_le l (min y z)
    rw [List.foldl_cons]
    refine ⟨by omega, fun x hx => ?_⟩
    rcases List.mem_cons.1 hx with rfl | hx
    · omega
    · exact h2 x hx
theorem least_le_mem {l : List Nat} {x : Nat} (h : x ∈ l) : least l ≤ x := by
  cases l with
  | nil => simp at h
  | cons y l =>
    rcases List.mem_cons.1 h with rfl | h
    · exact (foldl_min_le l _).1
    · exact (foldl_min_le l _).2 _ h
theorem least_mem : ∀ {l : List Nat}, l ≠ [] → least l ∈ l
  | [], h => absurd rfl h
  | y :: l, _ => by
    have : ∀ (l : List Nat) (y : Nat), l.foldl min y = y ∨ l.foldl min y ∈ l := by
      intro l
      induction l with
      | nil => intro y; exact .inl rfl
      | cons z l ih =>
        intro y
        rcases ih (min y z) with h | h
        · rw [List.foldl_cons, h]
          rcases Nat.le_total y z with hh | hh
          · rw [Nat.min_eq_left hh]; exact .inl rfl
          · rw [Nat.min_eq_right hh]; exact .inr (by simp)
        · exact .inr (List.mem_cons_of_mem _ h)
    rcases this l y with h | h
    · simp only [least, h]; simp
    · exact List.mem_cons_of_mem _ h
theorem rar_le {a : Lns} {i l j : Nat} {s : ByteArray} (hj : j < l) (h : a[i + j]? = some s) : rarV a i l ≤ cnt a s := by
  refine least_le_mem (List.mem_map.2 ⟨s, ?_, rfl⟩)
  refine List.mem_of_getElem? (i := j) ?_
  rw [List.getElem?_take_of_lt hj, List.getElem?_drop]; exact h
theorem rar_at {a : Lns} {i l : Nat} (h0 : l ≠ 0) (hl : i + l ≤ a.length) : ∃ j s, j < l ∧ a[i + j]? = some s ∧ rarV a i l = cnt a s := by
  have hne : ((a.drop i).take l).map (cnt a) ≠ [] := by
    intro e
    have := congrArg List.length e
    simp only [List.length_map, List.length_take, List.length_drop, List.length_nil] at this
    omega
  obtain ⟨s, hs, he⟩ := List.mem_map.1 (least_mem hne)
  obtain ⟨j, hj⟩ := List.mem_iff_getElem?.1 hs
  have hj' := (List.getElem?_eq_some_iff.1 hj).1
  simp only [List.length_take, List.length_drop] at hj'
  rw [List.getElem?_take_of_lt (by omega), List.getElem?_drop] at hj
  exact ⟨j, s, by omega, hj, he.symm⟩

/-! ### Runs -/
theorem runN_pos {a b : Lns} {i k : Nat} (h : mtB a b i k = true) (h0 : mtB a b ((i : Int) - 1) ((k : Int) - 1) = false) : 0 < runN a b i k := by
  unfold runN
  rw [if_neg (by rw [h0]; simp)]
  have h1 := folV_step (a := a) (b := b) (x := (i : Int)) (k := (i : Int) - k) (by rw [show (i : Int) - ((i : Int) - k) = k by omega]; exact h)
  have h2 := folV_ge a b ((i : Int) + 1) ((i : Int) - k)
  omega
/-- Through each common line goes a maximal run. -/
theorem run_through {a b : Lns} : ∀ (i k : Nat), mtB a b i k = true → ∃ j, j ≤ i ∧ j ≤ k ∧ j < runN a b (i - j) (k - j)
  | 0, k, h => ⟨0, Nat.le_refl _, Nat.zero_le _, runN_pos h (mtB_out (by omega))⟩
  | i + 1, k, h => by
    cases h0 : mtB a b (((i + 1 : Nat) : Int) - 1) ((k : Int) - 1) with
    | false => exact ⟨0, Nat.zero_le _, Nat.zero_le _, runN_pos h h0⟩
    | true =>
      have hlt := mtB_lt h0
      obtain ⟨k, rfl⟩ : ∃ j, k = j + 1 := ⟨k - 1, by omega⟩
      rw [show ((i + 1 : Nat) : Int) - 1 = (i : Nat) by omega, show ((k + 1 : Nat) : Int) - 1 = (k : Nat) by omega] at h0
      obtain ⟨j, h1, h2, h3⟩ := run_through i k h0
      have hl2 := mtB_lt h
      obtain ⟨p1, p2, p3, p4⟩ := runN_spec (a := a) (b := b) (i := i - j) (k := k - j) (by omega) (by omega)
      obtain ⟨_, p5⟩ := p4 (by omega)
      refine ⟨j + 1, by omega, by omega, ?_⟩
      rw [show i + 1 - (j + 1) = i - j by omega, show k + 1 - (j + 1) = k - j by omega]
      rcases Nat.lt_or_ge (j + 1) (runN a b (i - j) (k - j)) with h4 | h4
      · exact h4
      · rw [show i - j + runN a b (i - j) (k - j) = i + 1 by omega, show k - j + runN a b (i - j) (k - j) = k + 1 by omega, h] at p5
        cases p5
theorem get_lt {a : Lns} {i : Nat} (h : i < a.length) : ∃ s, a[i]? = some s := ⟨a[i], List.getElem?_eq_getElem h⟩
theorem mtB_eq {a b : Lns} {i k : Nat} (h : mtB a b i k = true) : ∃ s, a[i]? = some s ∧ b[k]? = some s := by
  have hl := mtB_lt h
  obtain ⟨s, hs⟩ := get_lt (a := a) (i := i) (by omega)
  obtain ⟨t, ht⟩ := get_lt (a := b) (i := k) (by omega)
  rw [mtB_at hs ht] at h
  obtain rfl : s = t := by simpa using h
  exact ⟨s, hs, ht⟩
theorem mtB_self {a : Lns} {i : Nat} (h : i < a.length) : mtB a a i i = true := by
  obtain ⟨s, hs⟩ := get_lt h
  rw [mtB_at hs hs]; simp

/-- The one match of a list with itself. -/
theorem best_self {a : Lns} (h0 : a ≠ []) (ha : a.length ≤ 64) : ∃ r, r ≤ 64 ∧ bestV a a = (⟨0, 0, a.length⟩, r) := by
  have hpos : 0 < a.length := List.length_pos_iff.2 h0
  have hr0 : runN a a 0 0 = a.length := by
    obtain ⟨p1, p2, p3, p4⟩ := runN_spec (a := a) (b := a) (i := 0) (k := 0) (by omega) (by omega)
    have := runN_pos (a := a) (b := a) (i := 0) (k := 0) (mtB_self hpos) (mtB_out (by omega))
    obtain ⟨_, p5⟩ := p4 (by omega)
    rcases Nat.lt_or_ge (runN a a 0 0) a.length with h | h
    · rw [Nat.zero_add, mtB_self h] at p5; cases p5
    · omega
  have hle : (bestV a a).2 ≤ 64 := by
    rcases Nat.lt_or_ge 64 (bestV a a).2 with h | h
    · have := (best_none (a := a) (b := a) ha (by omega)).2 0 0 hpos hpos; omega
    · exact h
  obtain ⟨i, k, l, ⟨h1, h2, h3, h4, h5, h6⟩, hb⟩ := best_some ha hle
  obtain ⟨p1, p2, p3, p4⟩ := runN_spec (a := a) (b := a) (i := i) (k := k) (by omega) (by omega)
  rw [h3] at p1 p2
  obtain ⟨q1, q2⟩ := hb 0 0 hpos hpos (by omega)
  rw [hr0] at q1 q2
  obtain ⟨j, s, hj, hs, he⟩ := rar_at h2 p1
  have := rar_le (a := a) (i := 0) (l := a.length) (j := i + j) (s := s) (by omega) (by rw [Nat.zero_add]; exact hs)
  have q3 := q2 (by omega)
  obtain rfl : i = 0 := by omega
  obtain rfl : k = 0 := by omega
  obtain rfl : l = a.length := by omega
  exact ⟨_, hle, Prod.ext h1 rfl⟩
theorem hdiff_nil (f : Nat) : hdiffV f [] [] = [] := by
  cases f with
  | zero => rfl
  | succ f => exact List.eq_nil_of_length_eq_zero (by have := hdiff_len (f := f + 1) (a := []) (b := []) (by simp) (by simp); simpa using this)
theorem hdiff_self {a : Lns} (h0 : a ≠ []) (ha : a.length ≤ 64) (f : Nat) : hdiffV (f + 1) a a = [⟨0, 0, a.length⟩] := by
  obtain ⟨r, hr, hb⟩ := best_self h0 ha
  rw [hdiffV, hb, if_pos hr]
  dsimp only
  rw [show ((0 : Int) + (a.length : Int)).toNat = a.length by omega]
  simp only [Int.toNat_zero, List.take_zero, hdiff_nil, List.nil_append, List.drop_length, List.map_nil, List.append_nil]

/-- The fuel does not matter. -/
theorem hdiff_fuel : ∀ (f g : Nat) (a b : Lns), a.length < f → a.length < g → a.length ≤ 64 → hdiffV f a b = hdiffV g a b
  | 0, _, a, _, h, _, _ => absurd h (by omega)
  | _ + 1, 0, a, _, _, h, _ => absurd h (by omega)
  | f + 1, g + 1, a, b, hf, hg, ha => by
    rw [hdiffV, hdiffV]
    by_cases h : (bestV a b).2 ≤ 64
    · rw [if_pos h, if_pos h]
      obtain ⟨i, k, l, ⟨h1, h2, h3, h4, h5, h6⟩, _⟩ := best_some ha h
      have p1 := (runN_spec (a := a) (b := b) (i := i) (k := k) (by omega) (by omega)).1
      rw [h3] at p1
      rw [h1]
      dsimp only
      rw [show ((i : Int) + l).toNat = i + l by omega, Int.toNat_natCast]
      rw [hdiff_fuel f g _ _ (by rw [List.length_take]; omega) (by rw [List.length_take]; omega) (by rw [List.length_take]; omega), hdiff_fuel f g _ _ (by rw [List.length_drop]; omega) (by rw [List.length_drop]; omega) (by rw [List.length_drop]; omega)]
    · rw [if_neg h, if_neg h]

/-- The best run alone is a valid matching. -/
theorem check_best {a b : Lns} {i k l : Nat} (h2 : l ≠ 0) (h3 : runN a b i k = l) (h4 : i < a.length) (h5 : k < b.length) : checkV a b (-1) (-1) [⟨i, k, l⟩] = 0 := by
  obtain ⟨p1, p2, p3, p4⟩ := runN_spec (a := a) (b := b) (i := i) (k := k) (by omega) (by omega)
  rw [h3] at p1 p2 p3 p4
  obtain ⟨p5, p6⟩ := p4 h2
  have := check_parts (r1 := []) (r2 := []) p1 p2 h2 p3 p5 p6 rfl rfl
  simpa using this

/-! ### The rarest common line -/
def rarP (a b : Lns) (k : Nat) : Nat := (a.take k).foldl (fun x s => if 0 < cnt b s ∧ (x = 0 ∨ cnt a s < x) then cnt a s else x) 0
theorem rarP_zero (a b : Lns) : rarP a b 0 = 0 := rfl
theorem rarP_succ {a : Lns} (b : Lns) {k : Nat} {s : ByteArray} (h : a[k]? = some s) : rarP a b (k + 1) = if 0 < cnt b s ∧ (rarP a b k = 0 ∨ cnt a s < rarP a b k) then cnt a s else rarP a b k := by
  unfold rarP
  rw [take_succ_of h, List.foldl_append]; rfl
theorem rarP_spec (a b : Lns) : ∀ k, k ≤ a.length → (rarP a b k = 0 ∧ ∀ j s, j < k → a[j]? = some s → s ∉ b) ∨ (∃ s, s ∈ a ∧ s ∈ b ∧ rarP a b k = cnt a s ∧ ∀ j t, j < k → a[j]? = some t → t ∈ b → rarP a b k ≤ cnt a t)
  | 0, _ => .inl ⟨rfl, fun j s h => absurd h (by omega)⟩
  | k + 1, hk => by
    obtain ⟨s, hs⟩ := get_lt (a := a) (i := k) (by omega)
    have hm : s ∈ a := List.mem_of_getElem? hs
    have hc := cnt_pos.2 hm
    have ih := rarP_spec a b k (by omega)
    rw [rarP_succ b hs]
    have last : ∀ {j t}, j < k + 1 → a[j]? = some t → j < k ∨ t = s := fun {j t} hj ht => by
      rcases Nat.lt_or_ge j k with h | h
      · exact .inl h
      · obtain rfl : j = k := by omega
        rw [hs] at ht; exact .inr (Option.some.inj ht).symm
    rcases ih with ⟨h1, h2⟩ | ⟨u, hu1, hu2, h1, h2⟩
    · by_cases hsb : s ∈ b
      · rw [if_pos ⟨cnt_pos.2 hsb, .inl h1⟩]
        refine .inr ⟨s, hm, hsb, rfl, fun j t hj ht htb => ?_⟩
        rcases last hj ht with h | rfl
        · exact absurd htb (h2 j t h ht)
        · exact Nat.le_refl _
      · rw [if_neg (fun h => hsb (cnt_pos.1 h.1))]
        refine .inl ⟨h1, fun j t hj ht => ?_⟩
        rcases last hj ht with h | rfl
        · exact h2 j t h ht
        · exact hsb
    · have hcu := cnt_pos.2 hu1
      by_cases hc2 : 0 < cnt b s ∧ (rarP a b k = 0 ∨ cnt a s < rarP a b k)
      · rw [if_pos hc2]
        refine .inr ⟨s, hm, cnt_pos.1 hc2.1, rfl, fun j t hj ht htb => ?_⟩
        rcases last hj ht with h | rfl
        · have := h2 j t h ht htb; rcases hc2.2 with h3 | h3 <;> omega
        · exact Nat.le_refl _
      · rw [if_neg hc2]
        refine .inr ⟨u, hu1, hu2, h1, fun j t hj ht htb => ?_⟩
        rcases last hj ht with h | rfl
        · exact h2 j t h ht htb
        · rcases Nat.lt_or_ge (cnt a t) (rarP a b k) with h3 | h3
          · exact absurd ⟨cnt_pos.2 htb, .inr h3⟩ hc2
          · exact h3
theorem rar_best {a b : Lns} (ha : a.length ≤ 64) (h : (bestV a b).2 ≤ 64) : rarP a b a.length = (bestV a b).2 := by
  obtain ⟨i, k, l, ⟨h1, h2, h3, h4, h5, h6⟩, hb⟩ := best_some ha h
  obtain ⟨p1, p2, p3, _⟩ := runN_spec (a := a) (b := b) (i := i) (k := k) (by omega) (by omega)
  rw [h3] at p1 p2 p3
  obtain ⟨j, s, hj, hs, he⟩ := rar_at h2 p1
  have hcom : s ∈ b := by
    obtain ⟨t, ht1, ht2⟩ := mtB_eq (p3 j hj)
    rw [hs] at ht1; cases ht1
    exact List.mem_of_getElem? ht2
  rcases rarP_spec a b a.length (Nat.le_refl _) with ⟨_, q2⟩ | ⟨u, hu1, hu2, q1, q2⟩
  · exact absurd hcom (q2 (i + j) s (by omega) hs)
  · have g1 := q2 (i + j) s (by omega) hs hcom
    obtain ⟨x, hx⟩ := List.mem_iff_getElem?.1 hu1
    obtain ⟨y, hy⟩ := List.mem_iff_getElem?.1 hu2
    obtain ⟨j', e1, e2, e3⟩ := run_through (a := a) (b := b) x y (by rw [mtB_at hx hy]; simp)
    have hxl := (List.getElem?_eq_some_iff.1 hx).1
    have hyl := (List.getElem?_eq_some_iff.1 hy).1
    have g2 := (hb (x - j') (y - j') (by omega) (by omega) (by omega)).1
    have g3 := rar_le (a := a) (i := x - j') (j := j') (s := u) e3 (by rw [show x - j' + j' = x by omega]; exact hx)
    omega
theorem rar_none {a b : Lns} (ha : a.length ≤ 64) (h : ¬ (bestV a b).2 ≤ 64) : rarP a b a.length = 0 := by
  have h1 := (best_none ha h).2
  rcases rarP_spec a b a.length (Nat.le_refl _) with ⟨q1, _⟩ | ⟨u, hu1, hu2, _, _⟩
  · exact q1
  · obtain ⟨x, hx⟩ := List.mem_iff_getElem?.1 hu1
    obtain ⟨y, hy⟩ := List.mem_iff_getElem?.1 hu2
    obtain ⟨j', e1, e2, e3⟩ := run_through (a := a) (b := b) x y (by rw [mtB_at hx hy]; simp)
    have hxl := (List.getElem?_eq_some_iff.1 hx).1
    have hyl := (List.getElem?_eq_some_iff.1 hy).1
    have := h1 (x - j') (y - j') (by omega) (by omega)
    omega
end Go.Proofs.Ytkkjhkmfoeblaaa

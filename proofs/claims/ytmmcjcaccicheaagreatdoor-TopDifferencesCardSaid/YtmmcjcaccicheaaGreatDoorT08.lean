/- MyLaws ConcatS HiApp HiIn: parts of the proof of TopDifferences, one text behind the other. No condition. -/
import Derived.Test.YtmmcjcaccicheaaGreatDoorT05
import Derived.Test.YtmmcjcaccicheaaGreatDoorT06
import Derived.Test.YtmmcjcaccicheaaGreatDoorT07
import Derived.Test.YtmmcjcaccicheaaGreatDoorT03
import Derived.Lib.AppendZeros
import Derived.Test.YtmmcjcaccicheaaGreatDoorT02
import Derived.Test.YtmmcjcaccicheaaGreatDoorT01
import Derived.OrdersIn
/- The plain laws of the distance and of matchings. No condition. -/
namespace Go.Proofs.YtmmcjcaccicheaaGreatDoor

theorem last_dist (a b : Lns) : LastT a b (dist a b) :=
  ⟨tab_last a b, fun d hd h => by have := (tab_end h).1 (Int.le_refl _); omega⟩

/-! ### Equal runs -/
theorem run_slices {a b : Lns} {p q l : Nat} (h : ∀ i, i < l → mtB a b ((p + i : Nat)) ((q + i : Nat)) = true) : (a.drop p).take l = (b.drop q).take l := by
  apply List.ext_getElem?
  intro i
  rcases Nat.lt_or_ge i l with hi | hi
  · rw [List.getElem?_take_of_lt hi, List.getElem?_take_of_lt hi, List.getElem?_drop, List.getElem?_drop]
    have hm := h i hi
    have hb := mtB_lt hm
    obtain ⟨s, hs⟩ : ∃ s, a[p + i]? = some s := ⟨_, List.getElem?_eq_getElem (by omega)⟩
    obtain ⟨t, ht⟩ : ∃ t, b[q + i]? = some t := ⟨_, List.getElem?_eq_getElem (by omega)⟩
    rw [mtB_at hs ht] at hm
    rw [hs, ht]
    simpa using hm
  · rw [List.getElem?_take_eq_none hi, List.getElem?_take_eq_none hi]
theorem slices_run {a b : Lns} {p q l : Nat} (ha : p + l ≤ a.length) (hb : q + l ≤ b.length) (h : (a.drop p).take l = (b.drop q).take l) : ∀ i, i < l → mtB a b ((p + i : Nat)) ((q + i : Nat)) = true := by
  intro i hi
  obtain ⟨s, hs⟩ : ∃ s, a[p + i]? = some s := ⟨_, List.getElem?_eq_getElem (by omega)⟩
  obtain ⟨t, ht⟩ : ∃ t, b[q + i]? = some t := ⟨_, List.getElem?_eq_getElem (by omega)⟩
  rw [mtB_at hs ht]
  have h1 : ((a.drop p).take l)[i]? = ((b.drop q).take l)[i]? := by rw [h]
  rw [List.getElem?_take_of_lt hi, List.getElem?_take_of_lt hi, List.getElem?_drop, List.getElem?_drop, hs, ht] at h1
  simpa using h1

/-! ### Valid matchings -/
theorem codeV_zero {a b : Lns} {x y : Int} {m : Mt} (h : codeV a b x y m = 0) :
    1 ≤ m.n ∧ 0 ≤ m.a ∧ 0 ≤ m.b ∧ m.a + m.n ≤ a.length ∧ m.b + m.n ≤ b.length ∧ x ≤ m.a ∧ y ≤ m.b ∧ ¬ (m.a = x ∧ m.b = y) ∧ (a.drop m.a.toNat).take m.n.toNat = (b.drop m.b.toNat).take m.n.toNat := by
  unfold codeV at h
  split at h
  · omega
  · split at h
    · omega
    · split at h
      · omega
      · split at h
        · rename_i h1 h2 h3 h4
          exact ⟨by omega, by omega, by omega, by omega, by omega, by omega, by omega, fun h => h3 (.inr (.inr h)), h4⟩
        · omega
theorem codeV_ok {a b : Lns} {x y : Int} {m : Mt} (h1 : 1 ≤ m.n) (h2 : 0 ≤ m.a) (h3 : 0 ≤ m.b) (h4 : m.a + m.n ≤ a.length) (h5 : m.b + m.n ≤ b.length) (h6 : x ≤ m.a) (h7 : y ≤ m.b) (h8 : ¬ (m.a = x ∧ m.b = y))
    (h9 : (a.drop m.a.toNat).take m.n.toNat = (b.drop m.b.toNat).take m.n.toNat) : codeV a b x y m = 0 := by
  rw [codeV, if_neg (by omega), if_neg (by omega), if_neg (by omega), if_pos h9]

theorem keptV_cons (m : Mt) (r : List Mt) : keptV (m :: r) = m.n + keptV r := by
  have : ∀ (l : List Mt) (s : Int), l.foldl (fun t m => t + m.n) s = s + l.foldl (fun t m => t + m.n) 0 := by
    intro l
    induction l with
    | nil => intro s; simp
    | cons x l ih => intro s; simp only [List.foldl_cons]; rw [ih, ih (0 + x.n)]; omega
  unfold keptV
  simp only [List.foldl_cons]
  rw [this]; omega
theorem check_kept {a b : Lns} : ∀ (ms : List Mt) (x y : Int), checkV a b x y ms = 0 → x.toNat ≤ a.length → y.toNat ≤ b.length → (Lc a b x.toNat y.toNat : Int) + keptV ms ≤ Lc a b a.length b.length
  | [], x, y, _, hx, hy => by
    have := Lc_mono (a := a) (b := b) hx hy
    simp only [keptV, List.foldl_nil]; omega
  | m :: r, x, y, h, hx, hy => by
    rw [checkV] at h
    by_cases hc : codeV a b x y m = 0
    · rw [if_pos hc] at h
      obtain ⟨h1, h2, h3, h4, h5, h6, h7, h8, h9⟩ := codeV_zero hc
      have ih := check_kept r (m.a + m.n) (m.b + m.n) h (by omega) (by omega)
      have hrun := Lc_run (a := a) (b := b) m.n.toNat (slices_run (by omega) (by omega) h9)
      have hm := Lc_mono (a := a) (b := b) (x := x.toNat) (y := y.toNat) (x' := m.a.toNat) (y' := m.b.toNat) (by omega) (by omega)
      rw [show (m.a + m.n).toNat = m.a.toNat + m.n.toNat by omega, show (m.b + m.n).toNat = m.b.toNat + m.n.toNat by omega] at ih
      rw [keptV_cons]; omega
    · rw [if_neg hc] at h; exact absurd h hc
/-- No valid matching has fewer steps than the distance. -/
theorem check_steps {a b : Lns} {ms : List Mt} (h : checkV a b (-1) (-1) ms = 0) : (dist a b : Int) ≤ (a.length : Int) + b.length - 2 * keptV ms := by
  have := check_kept ms (-1) (-1) h (by simp) (by simp)
  rw [dist_ed, ed]
  simp only [Int.reduceNeg, Int.reduceToNat, Lc_zero] at this
  omega
/-- Each match of a valid matching is small. -/
theorem check_small {a b : Lns} : ∀ (ms : List Mt) (x y : Int), checkV a b x y ms = 0 → ∀ m ∈ ms, 0 ≤ m.n ∧ m.n ≤ a.length
  | [], _, _, _, m, hm => by simp at hm
  | m' :: r, x, y, h, m, hm => by
    rw [checkV] at h
    by_cases hc : codeV a b x y m' = 0
    · rw [if_pos hc] at h
      have hz := codeV_zero hc
      rcases List.mem_cons.1 hm with rfl | hm
      · omega
      · exact check_small r _ _ h m hm
    · rw [if_neg hc] at h; exact absurd h hc

def endV (x y : Int) : List Mt → Int × Int
  | [] => (x, y)
  | m :: r => endV (m.a + m.n) (m.b + m.n) r
theorem endV_snoc (l : List Mt) (m : Mt) : ∀ x y, endV x y (l ++ [m]) = (m.a + m.n, m.b + m.n) := by
  induction l with
  | nil => intro x y; rfl
  | cons m' l ih => intro x y; exact ih _ _
theorem checkV_snoc {a b : Lns} (m : Mt) : ∀ (l : List Mt) (x y : Int), checkV a b x y l = 0 → codeV a b (endV x y l).1 (endV x y l).2 m = 0 → checkV a b x y (l ++ [m]) = 0
  | [], x, y, _, h => by
    change codeV a b x y m = 0 at h
    show checkV a b x y [m] = 0
    rw [checkV, if_pos h]; rfl
  | m' :: l, x, y, h, h2 => by
    rw [checkV] at h
    by_cases hc : codeV a b x y m' = 0
    · rw [if_pos hc] at h
      rw [List.cons_append, checkV, if_pos hc]
      exact checkV_snoc m l _ _ h h2
    · rw [if_neg hc] at h; exact absurd h hc

/-- The matches that lead to a point of a table, from the first one on, are a valid matching with as many steps as the table's number. -/
theorem back_ok {a b : Lns} : ∀ (d : Nat) (k : Int) (X Y : Nat), atV (tabV a b d) k = some (X : Int) → (X : Int) - k = Y →
    checkV a b (-1) (-1) (backV a b (d + 1) k X).reverse = 0 ∧ (endV (-1) (-1) (backV a b (d + 1) k X).reverse).1 ≤ X ∧ (endV (-1) (-1) (backV a b (d + 1) k X).reverse).2 ≤ Y ∧ 2 * keptV (backV a b (d + 1) k X).reverse = (X : Int) + Y - d
  | 0, k, X, Y, hat, hk => by
    have hk0 : k = 0 := by
      rcases Classical.em (k = 0) with h | h
      · exact h
      · rw [atV_out (d := 0) rfl (by omega)] at hat; cases hat
    subst hk0
    rw [atV_in (d := 0) rfl (by omega) (by omega) (by omega)] at hat
    have hX : folV a b 0 0 = X := by
      have : [folV a b 0 0][((0 + ((0 : Nat) : Int)) / 2).toNat]? = some (X : Int) := hat
      simpa using this
    obtain ⟨j, e1, e2, e3⟩ := folV_spec (a := a) (b := b) (k := 0) (x := 0) (y := 0) rfl
    have hj : j = X := by
      have : (folV a b 0 0 : Int) = ((0 + j : Nat) : Int) := e1
      omega
    subst hj
    obtain rfl : Y = j := by omega
    by_cases h0 : (0 : Int) < Y
    · rw [backV, if_pos h0]
      have hY := mtB_lt (e2 (Y - 1) (by omega))
      have hc : codeV a b (-1) (-1) ⟨0, -0, Y⟩ = 0 := codeV_ok (by simp only; omega) (by simp) (by simp) (by simp only; omega) (by simp only; omega) (by simp) (by simp) (by simp) (by
        have := run_slices (a := a) (b := b) (p := 0) (q := 0) (l := Y) e2
        simpa using this)
      refine ⟨?_, ?_, ?_, ?_⟩
      · rw [List.reverse_singleton, checkV, if_pos hc]; rfl
      · simp [endV]
      · simp [endV]
      · simp [keptV]; omega
    · rw [backV, if_neg h0]
      refine ⟨rfl, ?_, ?_, ?_⟩
      · simp [endV]
      · simp [endV]
      · simp [keptV]; omega
  | d + 1, k, X, Y, hat, hk => by
    have hin : -((d : Int) + 1) ≤ k ∧ k ≤ (d : Int) + 1 ∧ (k + (d + 1)) % 2 = 0 := by
      rcases Classical.em (-((d : Int) + 1) ≤ k ∧ k ≤ (d : Int) + 1 ∧ (k + (d + 1)) % 2 = 0) with h | h
      · exact h
      · rw [atV_out (tabV_len a b (d + 1)) (by omega)] at hat; cases hat
    rw [atV_next hin.1 hin.2.1 hin.2.2] at hat
    have hX : folV a b (stepV (tabV a b d) k).1 k = X := by simpa using hat
    have hst : ∃ (X' Y' s y : Nat) (k' : Int), stepV (tabV a b d) k = ((s : Int), k') ∧ atV (tabV a b d) k' = some (X' : Int) ∧ (X' : Int) - k' = Y' ∧ (s : Int) - k = y ∧ X' ≤ s ∧ Y' ≤ y ∧ s + y = X' + Y' + 1 := by
      have left : (∃ p yp : Nat, atV (tabV a b d) (k - 1) = some (p : Int) ∧ (p : Int) - (k - 1) = yp) ∨ (k - 1 < -(d : Int) ∧ atV (tabV a b d) (k - 1) = none) := by
        by_cases h : -(d : Int) ≤ k - 1
        · obtain ⟨p, h1, yp, h2, _⟩ := tab_far (a := a) (b := b) d (k - 1) h (by omega) (by omega)
          exact .inl ⟨p, yp, h1, h2⟩
        · exact .inr ⟨by omega, atV_out (tabV_len a b d) (by omega)⟩
      have right : (∃ q yq : Nat, atV (tabV a b d) (k + 1) = some (q : Int) ∧ (q : Int) - (k + 1) = yq) ∨ ((d : Int) < k + 1 ∧ atV (tabV a b d) (k + 1) = none) := by
        by_cases h : k + 1 ≤ (d : Int)
        · obtain ⟨p, h1, yp, h2, _⟩ := tab_far (a := a) (b := b) d (k + 1) (by omega) h (by omega)
          exact .inl ⟨p, yp, h1, h2⟩
        · exact .inr ⟨by omega, atV_out (tabV_len a b d) (by omega)⟩
      rcases left with ⟨p, yp, p1, p2⟩ | ⟨l1, l2⟩
      · rcases right with ⟨q, yq, q1, q2⟩ | ⟨r1, r2⟩
        · by_cases hpq : (p : Int) < q
          · exact ⟨q, yq, q, yq + 1, k + 1, by simp only [stepV, p1, q1, if_pos hpq], q1, q2, by omega, by omega, by omega, by omega⟩
          · exact ⟨p, yp, p + 1, yp, k - 1, by simp only [stepV, p1, q1, if_neg hpq]; rfl, p1, p2, by omega, by omega, by omega, by omega⟩
        · exact ⟨p, yp, p + 1, yp, k - 1, by simp only [stepV, p1, r2]; rfl, p1, p2, by omega, by omega, by omega, by omega⟩
      · rcases right with ⟨q, yq, q1, q2⟩ | ⟨r1, r2⟩
        · exact ⟨q, yq, q, yq + 1, k + 1, by simp only [stepV, l2, q1], q1, q2, by omega, by omega, by omega, by omega⟩
        · omega
    obtain ⟨X', Y', s, y, k', hs, hat', hk', hsy, hXs, hYy, hsum⟩ := hst
    rw [hs] at hX
    obtain ⟨j, e1, e2, e3⟩ := folV_spec (a := a) (b := b) hsy
    have hXj : X = s + j := by
      have : folV a b (s : Int) k = ((s + j : Nat) : Int) := e1
      have h2 : folV a b (s : Int) k = X := hX
      omega
    subst hXj
    obtain rfl : Y = y + j := by omega
    obtain ⟨i1, i2, i3, i4⟩ := back_ok d k' X' Y' hat' hk'
    have hback : backV a b (d + 2) k ((s + j : Nat) : Int) = (if (s : Int) < ((s + j : Nat) : Int) then [⟨(s : Int), (s : Int) - k, ((s + j : Nat) : Int) - s⟩] else []) ++ backV a b (d + 1) k' X' := by
      rw [backV, hs, hat']; rfl
    rw [hback, List.reverse_append]
    by_cases hj : (s : Int) < ((s + j : Nat) : Int)
    · rw [if_pos hj, List.reverse_singleton]
      have hlast := mtB_lt (e2 (j - 1) (by omega))
      have hc : codeV a b (endV (-1) (-1) (backV a b (d + 1) k' X').reverse).1 (endV (-1) (-1) (backV a b (d + 1) k' X').reverse).2 ⟨(s : Int), (s : Int) - k, ((s + j : Nat) : Int) - s⟩ = 0 :=
        codeV_ok (by simp only; omega) (by simp only; omega) (by simp only; omega) (by simp only; omega) (by simp only; omega) (by simp only; omega) (by simp only; omega) (by simp only; omega) (by
          simp only
          rw [show (s : Int).toNat = s by omega, show ((s : Int) - k).toNat = y by omega, show (((s + j : Nat) : Int) - s).toNat = j by omega]
          exact run_slices e2)
      refine ⟨checkV_snoc _ _ _ _ i1 hc, ?_, ?_, ?_⟩
      · rw [endV_snoc]; simp only; omega
      · rw [endV_snoc]; simp only; omega
      · rw [keptV_snoc]; simp only; omega
    · rw [if_neg hj, List.reverse_nil, List.append_nil]
      obtain rfl : j = 0 := by omega
      exact ⟨i1, by omega, by omega, by omega⟩

/-- Diff's matching is valid, and has as many steps as the distance. -/
theorem diff_ok (a b : Lns) : checkV a b (-1) (-1) (diffV a b (dist a b)) = 0 ∧ (a.length : Int) + b.length - 2 * keptV (diffV a b (dist a b)) = dist a b := by
  obtain ⟨h1, _, _, h4⟩ := back_ok (dist a b) ((a.length : Int) - b.length) a.length b.length (tab_last a b) (by omega)
  exact ⟨h1, by unfold diffV; omega⟩

/-! ### The distance is a metric -/
theorem mtB_comm (a b : Lns) (x y : Int) : mtB a b x y = mtB b a y x := by
  unfold mtB
  cases a[x.toNat]? <;> cases b[y.toNat]? <;> rw [Bool.eq_iff_iff] <;> simp only [Bool.and_eq_true, decide_eq_true_eq, Bool.false_eq_true, and_false]
  constructor
  · rintro ⟨⟨h1, h2⟩, h3⟩; exact ⟨⟨h2, h1⟩, h3.symm⟩
  · rintro ⟨⟨h1, h2⟩, h3⟩; exact ⟨⟨h2, h1⟩, h3.symm⟩
theorem Lc_comm (a b : Lns) : ∀ (s x y : Nat), x + y = s → Lc a b x y = Lc b a y x := by
  intro s
  induction s using Nat.strongRecOn with
  | ind s ih =>
    intro x y hs
    cases x with
    | zero => rw [Lc_zero, Lc_zero']
    | succ x =>
      cases y with
      | zero => rw [Lc_zero, Lc_zero']
      | succ y =>
        cases hm : mtB a b x y with
        | true => rw [Lc_yes hm, Lc_yes (by rw [← mtB_comm]; exact hm), ih (x + y) (by omega) x y rfl]
        | false =>
          rw [Lc_no hm, Lc_no (by rw [← mtB_comm]; exact hm), ih (x + (y + 1)) (by omega) x (y + 1) rfl, ih (x + 1 + y) (by omega) (x + 1) y rfl, Nat.max_comm]
theorem dist_comm (a b : Lns) : dist a b = dist b a := by
  unfold dist
  rw [Lc_comm a b _ _ _ rfl, Nat.add_comm a.length]
theorem mtB_trans {a b c : Lns} {x y z : Int} (h1 : mtB a b x y = true) (h2 : mtB b c y z = true) : mtB a c x z = true := by
  have b1 := mtB_lt h1; have b2 := mtB_lt h2
  obtain ⟨i, rfl⟩ : ∃ i : Nat, x = i := ⟨x.toNat, by omega⟩
  obtain ⟨j, rfl⟩ : ∃ j : Nat, y = j := ⟨y.toNat, by omega⟩
  obtain ⟨k, rfl⟩ : ∃ k : Nat, z = k := ⟨z.toNat, by omega⟩
  obtain ⟨s, hs⟩ : ∃ s, a[i]? = some s := ⟨_, List.getElem?_eq_getElem (by omega)⟩
  obtain ⟨t, ht⟩ : ∃ t, b[j]? = some t := ⟨_, List.getElem?_eq_getElem (by omega)⟩
  obtain ⟨u, hu⟩ : ∃ u, c[k]? = some u := ⟨_, List.getElem?_eq_getElem (by omega)⟩
  rw [mtB_at hs ht] at h1; rw [mtB_at ht hu] at h2; rw [mtB_at hs hu]
  simp at *; rw [h1, h2]
theorem Lc_tri (a b c : Lns) : ∀ (s i j k : Nat), i + j + k = s → Lc a b i j + Lc b c j k ≤ Lc a c i k + j := by
  intro s
  induction s using Nat.strongRecOn with
  | ind s ih =>
    intro i j k hs
    cases j with
    | zero => rw [Lc_zero', Lc_zero]; omega
    | succ j =>
      cases i with
      | zero => have := Lc_le_x (a := b) (b := c) (j + 1) k; rw [Lc_zero, Lc_zero]; omega
      | succ i =>
        cases k with
        | zero => have := Lc_le_y (a := a) (b := b) (j + 1) (i + 1); rw [Lc_zero', Lc_zero']; omega
        | succ k =>
          have m1 := Lc_down (a := a) (b := c) (i + 1) k
          have m2 := Lc_right (a := a) (b := c) i (k + 1)
          have d2 := Lc_right (a := b) (b := c) j (k + 1)
          cases h1 : mtB a b i j with
          | true =>
            cases h2 : mtB b c j k with
            | true =>
              have := ih (i + j + k) (by omega) i j k rfl
              rw [Lc_yes h1, Lc_yes h2, Lc_yes (mtB_trans h1 h2)]; omega
            | false =>
              have g1 := ih (i + 1 + (j + 1) + k) (by omega) (i + 1) (j + 1) k rfl
              have g2 := ih (i + j + (k + 1)) (by omega) i j (k + 1) rfl
              rw [Lc_no h2]
              rw [Lc_yes h1] at g1 ⊢
              omega
          | false =>
            have g1 := ih (i + (j + 1) + (k + 1)) (by omega) i (j + 1) (k + 1) rfl
            have g2 := ih (i + 1 + j + (k + 1)) (by omega) (i + 1) j (k + 1) rfl
            rw [Lc_no h1]
            omega
theorem dist_tri (a b c : Lns) : dist a c ≤ dist a b + dist b c := by
  have h := Lc_tri a b c _ a.length b.length c.length rfl
  have h1 := dist_ed a b; have h2 := dist_ed b c; have h3 := dist_ed a c
  unfold ed at h1 h2 h3
  omega
theorem Lc_full {a b : Lns} : ∀ x, Lc a b x x = x → ∀ i, i < x → mtB a b i i = true
  | 0, _, i, hi => by omega
  | x + 1, h, i, hi => by
    have h1 := Lc_le_x (a := a) (b := b) x (x + 1)
    have h2 := Lc_le_y (a := a) (b := b) x (x + 1)
    cases hm : mtB a b x x with
    | false => rw [Lc_no hm] at h; omega
    | true =>
      rw [Lc_yes hm] at h
      rcases Nat.lt_or_ge i x with hlt | hge
      · exact Lc_full x (by omega) i hlt
      · obtain rfl : i = x := by omega
        exact hm
theorem dist_zero (a b : Lns) : dist a b = 0 ↔ a = b := by
  constructor
  · intro h
    have h1 := Lc_le_x (a := a) (b := b) a.length b.length
    have h2 := Lc_le_y (a := a) (b := b) b.length a.length
    unfold dist at h
    have hl : a.length = b.length := by omega
    have hL : Lc a b a.length b.length = a.length := by omega
    rw [← hl] at hL
    have hf := Lc_full (a := a) (b := b) a.length hL
    have := run_slices (a := a) (b := b) (p := 0) (q := 0) (l := a.length) (fun i hi => by simpa using hf i hi)
    simp only [List.drop_zero, List.take_length] at this
    rw [hl, List.take_length] at this
    exact this
  · rintro rfl
    have : ∀ n, n ≤ a.length → Lc a a n n = n := by
      intro n
      induction n with
      | zero => intro _; exact Lc_zero _
      | succ n ih =>
        intro hn
        obtain ⟨s, hs⟩ : ∃ s, a[n]? = some s := ⟨_, List.getElem?_eq_getElem (by omega)⟩
        rw [Lc_yes (by rw [mtB_at hs hs]; simp), ih (by omega)]
    unfold dist
    rw [this _ (Nat.le_refl _)]; omega

/-! ### Equal lines before and behind -/
theorem Lc_congr {a b a' b' : Lns} : ∀ (s x y : Nat), x + y = s → (∀ i j : Nat, i < x → j < y → mtB a b i j = mtB a' b' i j) → Lc a b x y = Lc a' b' x y := by
  intro s
  induction s using Nat.strongRecOn with
  | ind s ih =>
    intro x y hs h
    cases x with
    | zero => rw [Lc_zero, Lc_zero]
    | succ x =>
      cases y with
      | zero => rw [Lc_zero', Lc_zero']
      | succ y =>
        have h0 := h x y (by omega) (by omega)
        cases hm : mtB a b x y with
        | true => rw [Lc_yes hm, Lc_yes (by rw [← h0]; exact hm), ih (x + y) (by omega) x y rfl (fun i j hi hj => h i j (by omega) (by omega))]
        | false => rw [Lc_no hm, Lc_no (by rw [← h0]; exact hm), ih (x + (y + 1)) (by omega) x (y + 1) rfl (fun i j hi hj => h i j (by omega) hj), ih (x + 1 + y) (by omega) (x + 1) y rfl (fun i j hi hj => h i j hi (by omega))]
theorem mtB_get {a b : Lns} {i j : Nat} : mtB a b i j = (match a[i]?, b[j]? with | some s, some t => decide (s = t) | _, _ => false) := by
  unfold mtB
  simp only [Int.toNat_natCast]
  cases a[i]? <;> cases b[j]? <;> simp
theorem dist_snoc (a b : Lns) (s : ByteArray) : dist (a ++ [s]) (b ++ [s]) = dist a b := by
  have h1 : Lc (a ++ [s]) (b ++ [s]) a.length b.length = Lc a b a.length b.length := Lc_congr _ _ _ rfl (fun i j hi hj => by
    rw [mtB_get, mtB_get, List.getElem?_append_left hi, List.getElem?_append_left hj])
  have h2 : mtB (a ++ [s]) (b ++ [s]) a.length b.length = true := by
    rw [mtB_at (s := s) (t := s) (by simp) (by simp)]; simp
  unfold dist
  rw [List.length_append, List.length_append, List.length_singleton, Lc_yes h2, h1]; omega
theorem Lc_cons (a b : Lns) (s : ByteArray) : ∀ (t i j : Nat), i + j = t → Lc (s :: a) (s :: b) (i + 1) (j + 1) = Lc a b i j + 1 := by
  intro t
  induction t using Nat.strongRecOn with
  | ind t ih =>
    intro i j ht
    have hmm : ∀ i j : Nat, mtB (s :: a) (s :: b) ((i + 1 : Nat)) ((j + 1 : Nat)) = mtB a b i j := fun i j => by rw [mtB_get, mtB_get]; rfl
    cases i with
    | zero =>
      cases j with
      | zero => rw [Lc_yes (by rw [mtB_at (s := s) (t := s) rfl rfl]; simp), Lc_zero, Lc_zero]
      | succ j =>
        have := ih j (by omega) 0 j (by omega)
        rw [Lc_zero] at this ⊢
        cases hm : mtB (s :: a) (s :: b) ((0 : Nat)) ((j + 1 : Nat)) with
        | true => rw [Lc_yes hm, Lc_zero]
        | false => rw [Lc_no hm, Lc_zero, this]; omega
    | succ i =>
      cases j with
      | zero =>
        have := ih i (by omega) i 0 (by omega)
        rw [Lc_zero'] at this ⊢
        cases hm : mtB (s :: a) (s :: b) ((i + 1 : Nat)) ((0 : Nat)) with
        | true => rw [Lc_yes hm, Lc_zero']
        | false => rw [Lc_no hm, Lc_zero', this]; omega
      | succ j =>
        have g0 := ih (i + j) (by omega) i j rfl
        have g1 := ih (i + (j + 1)) (by omega) i (j + 1) rfl
        have g2 := ih (i + 1 + j) (by omega) (i + 1) j rfl
        cases hm : mtB a b i j with
        | true => rw [Lc_yes (by rw [hmm]; exact hm), Lc_yes hm, g0]
        | false => rw [Lc_no (by rw [hmm]; exact hm), Lc_no hm, g1, g2]; omega
theorem dist_cons (a b : Lns) (s : ByteArray) : dist (s :: a) (s :: b) = dist a b := by
  unfold dist
  rw [List.length_cons, List.length_cons, Lc_cons a b s _ _ _ rfl]; omega
theorem dist_before (a b : Lns) : ∀ c : Lns, dist (c ++ a) (c ++ b) = dist a b
  | [] => rfl
  | s :: c => by rw [List.cons_append, List.cons_append, dist_cons, dist_before a b c]
theorem dist_behind (c : Lns) : ∀ a b : Lns, dist (a ++ c) (b ++ c) = dist a b := by
  induction c with
  | nil => intro a b; rw [List.append_nil, List.append_nil]
  | cons s c ih =>
    intro a b
    have h := ih (a ++ [s]) (b ++ [s])
    rw [List.append_assoc, List.append_assoc] at h
    rw [show s :: c = [s] ++ c from rfl, h, dist_snoc]
theorem dist_par (a b : Lns) : ((dist a b : Int) + a.length + b.length) % 2 = 0 := by
  have := dist_ed a b
  unfold ed at this
  omega
theorem back_len (a b : Lns) : ∀ (d : Nat) (k x : Int), (backV a b d k x).length ≤ d
  | 0, _, _ => Nat.le_refl _
  | 1, k, x => by unfold backV; split <;> simp
  | d + 2, k, x => by
    have := back_len a b (d + 1) (stepV (tabV a b d) k).2 ((atV (tabV a b d) (stepV (tabV a b d) k).2).getD 0)
    unfold backV
    rw [List.length_append]
    split <;> simp <;> omega
theorem diff_len (a b : Lns) : (diffV a b (dist a b)).length ≤ dist a b + 1 := by
  unfold diffV
  rw [List.length_reverse]
  exact back_len a b _ _ _
end Go.Proofs.YtmmcjcaccicheaaGreatDoor
/- The contracts of slices.Grow (nil) and slices.Concat of two lists of strings. -/
namespace Go.Proofs.YtmmcjcaccicheaaGreatDoor
open Go.RowKit

set_option maxRecDepth 100000 in
theorem infoS : (Tryz.prog.info? 9).map (fun i => (i.zero, i.size, i.bytes)) = some (some (.string ⟨#[]⟩), 1, 16) := by kernel_rfl
set_option maxRecDepth 100000 in
theorem underSs : Tryz.prog.underlying 22 = some (.slice 9) := by kernel_rfl
set_option maxRecDepth 100000 in
theorem one_str (hs : List ByteArray) : ∀ u ∈ hs.map Value.string, u.oneCell' = true := by
  intro u hu
  obtain ⟨h, _, rfl⟩ := List.mem_map.1 hu
  rfl
set_option maxRecDepth 100000 in
theorem underI : Tryz.prog.underlying 3 = some (.int .i64) := by kernel_rfl

set_option maxRecDepth 100000 in
set_option maxHeartbeats 1000000 in
theorem grow_any (n : Nat) (w : World) (hn : n ≤ 2000) :
    Calls Tryz.prog 64 #[.slice none 0 0, .int .i64 n] w fun e w' => Ext w w' ∧ ∃ v, e = .returned v ∧ w'.ownsRow w.heap.size 9 1 v 0 [] := by
  obtain ⟨inf, i1, i2, i3, i4⟩ := info_of infoS
  have I1 := Lib.hid i1; have I2 := Lib.hid i2; have I3 := Lib.hid i3; have I4 := Lib.hid i4; clear i1 i2 i3 i4
  by_cases h0 : n = 0
  · subst h0
    go_enter Tryz.func64, Tryz.ntmps64
    go_wp2_with fail
    go_ret
    exact ⟨Ext.refl _, _, rfl, World.ownsRow_nil _ _ _ _⟩
  · have hpos : 0 < n := by omega
    have hrun : ∀ ty w, (Builtin.append_ #[22, 3] ty #[.slice none 0 0, .int .i64 n]).run Tryz.prog w = .ok (.slice (some ⟨w.heap.size, 0, none⟩) n (grownCap w n 0 9)) (w.drew.alloc (.cells (Builtin.zeroCells (Value.string ⟨#[]⟩).cells n ++ Builtin.zeroCells (Value.string ⟨#[]⟩).cells (grownCap w n 0 9 - n)) 9)) := fun ty w =>
      Lib.run_append_nil_zeros w _ _ ty _ inf _ .i64 .i64 underSs underI I1.out I2.out n hpos (by rw [I3.out]; decide) (by omega) (by rw [I4.out]; omega)
    have hge : n ≤ grownCap w n 0 9 := grownCap_ge w n 0 _
    have hmx : grownCap w n 0 9 ≤ maxLen := grownCap_le_maxLen w n 0 _ (by simp only [maxLen]; omega)
    obtain ⟨cap, hcap⟩ : ∃ cap, grownCap w n 0 9 = cap := ⟨_, rfl⟩
    have HG := Lib.hid hge; have HM := Lib.hid hmx; clear hge hmx
    go_enter Tryz.func64, Tryz.ntmps64
    go_wp2_with (at_builtin; refine Lib.wpList_append_run _ rfl _ _ _ _ rfl _ _ rfl rfl _ _ (hrun _ _) ?_)
    go_ret
    refine ⟨((Ext.refl w).drew).alloc _, _, rfl, ?_⟩
    exact ⟨rfl, .inr ⟨w.heap.size, _, _, rfl, Nat.le_refl _, heap_alloc_new w.drew _, Nat.zero_le _, hcap ▸ HM.out, by
      rw [Array.size_append, size_zeroCells, size_zeroCells, ← Nat.add_mul]
      have h := HG.out
      rw [hcap] at h
      show (n + (cap - n)) * 1 = cap * 1
      omega, by simp⟩⟩

abbrev objT (A B : Option Addr) (n c m d : Nat) : Obj := .cells #[.slice A n c, .slice B m d] 22

def ConcatAt (w : World) (hs gs : List ByteArray) (k : Nat) (v : Value) (wr : World) : Prop :=
  Ext w wr ∧ ((k = 0 ∧ wr.ownsRow w.heap.size 9 1 v 0 []) ∨ (k = 1 ∧ wr.ownsRow w.heap.size 9 1 v hs.length (hs.map Value.string)) ∨ (k = 2 ∧ wr.ownsRow w.heap.size 9 1 v (hs.length + gs.length) ((hs ++ gs).map Value.string)))

set_option maxRecDepth 100000 in
set_option maxHeartbeats 2000000 in
theorem concat_two {hs gs : List ByteArray} (A B : Option Addr) (n c m d g : Nat) (w : World) (hb : Blk w g (objT A B n c m d)) (hh : Strs w A n hs) (hg : Strs w B m gs) (hn : n ≤ 1000) (hm : m ≤ 1000) :
    Calls Tryz.prog 38 #[.slice (some ⟨g, 0, none⟩) 2 2] w fun e w' => Ext w w' ∧ ∃ v, e = .returned v ∧ w'.ownsRow w.heap.size 9 1 v (n + m) ((hs ++ gs).map Value.string) := by
  obtain ⟨inf, i1, i2, i3, i4⟩ := info_of infoS
  have I1 := Lib.hid i1; have I2 := Lib.hid i2; have I3 := Lib.hid i3; have I4 := Lib.hid i4; clear i1 i2 i3 i4
  obtain rfl : hs.length = n := hh.1
  obtain rfl : gs.length = m := hg.1
  have HB := Lib.hid hb; have HH := Lib.hid hh; have HG := Lib.hid hg; clear hb hh hg
  go_enter Tryz.func38, Tryz.ntmps38
  go_wp2_with fail
  go_loopw [3, 11] (fun s i wr => Ext w wr ∧ ((i = .int .i64 0 ∧ s = .int .i64 0) ∨ (i = .int .i64 1 ∧ s = .int .i64 hs.length) ∨ (i = .int .i64 2 ∧ s = .int .i64 ((hs.length + gs.length : Nat) : Int)))) (fun _ i _ => 2 - (intOf i).toNat)
  case atStart => exact ⟨Ext.refl _, .inl ⟨rfl, rfl⟩⟩
  case round =>
    obtain ⟨hE, ⟨rfl, rfl⟩ | ⟨rfl, rfl⟩ | ⟨rfl, rfl⟩⟩ := hrel
    · have HE := Lib.hid hE; clear hE
      have c0 := (HB.out.ext HE.out).cell 0
      have c1 := (HB.out.ext HE.out).cell 1
      simp only [List.getElem?_toArray, List.getElem?_cons_zero, List.getElem?_cons_succ] at c0 c1
      go_wp2_with fail
      go_roundw
      case rel => exact ⟨HE.out, .inr (.inl ⟨by go_num, by go_num⟩)⟩
      case measure => simp [intOf]
    · have HE := Lib.hid hE; clear hE
      have c0 := (HB.out.ext HE.out).cell 0
      have c1 := (HB.out.ext HE.out).cell 1
      simp only [List.getElem?_toArray, List.getElem?_cons_zero, List.getElem?_cons_succ] at c0 c1
      have hwr : wrap64 ((hs.length : Int) + gs.length) = ((hs.length + gs.length : Nat) : Int) := by unfold wrap64; omega
      have hneg : ¬ (((hs.length + gs.length : Nat) : Int) < 0) := by omega
      go_wp2_with fail
      go_roundw
      case rel => exact ⟨HE.out, .inr (.inr ⟨by go_num, by go_num⟩)⟩
      case measure => simp [intOf]
    · have HE := Lib.hid hE; clear hE
      go_wp2_with fail
      refine (grow_any (hs.length + gs.length) _ (by omega)).mono ?_
      rintro e w1 ⟨hE, v, rfl, ho⟩
      have HO := Lib.hid (own_base (base' := w.heap.size) ho HE.out.size); have HE1 := Lib.hid (HE.out.trans hE); clear hE ho
      go_wp2_with fail
      go_loopw [6, 27] (fun v i wr => ∃ k : Nat, i = .int .i64 k ∧ ConcatAt w hs gs k v wr) (fun _ i _ => 2 - (intOf i).toNat)
      case atStart => exact ⟨0, rfl, HE1.out, .inl ⟨rfl, HO.out⟩⟩
      case round =>
        obtain ⟨k, rfl, hE, ⟨rfl, ho⟩ | ⟨rfl, ho⟩ | ⟨rfl, ho⟩⟩ := hrel
        · have HO2 := Lib.hid ho; have HE2 := Lib.hid hE; clear hE ho
          have c0 := (HB.out.ext HE2.out).cell 0
          simp only [List.getElem?_toArray, List.getElem?_cons_zero] at c0
          go_wp2_with (at_builtin; refine wpList_append_size rfl (.tmp 31) (.tmp 32) 22 rfl w.heap.size 9 inf _ 1 16 underSs I1.out I2.out I3.out I4.out rfl (by decide) _ 0 [] A hs.length c (hs.map Value.string) rfl rfl (by simp) (one_str _) (by simp only [maxLen]; omega) (by omega) HO2.out (HH.out.2.2.ext HE2.out) HE2.out.size ?_; intro v2 w2 hown2 hg2)
          have HO3 := Lib.hid hown2; have HE3 := Lib.hid (HE2.out.own3 HO2.out hg2); clear hown2 hg2
          go_wp2_with fail
          go_roundw
          case rel => exact ⟨1, by go_num, HE3.out, .inr (.inl ⟨rfl, by simpa using HO3.out⟩)⟩
          case measure => simp [intOf]
        · have HO2 := Lib.hid ho; have HE2 := Lib.hid hE; clear hE ho
          have c0 := (HB.out.ext HE2.out).cell 1
          simp only [List.getElem?_toArray, List.getElem?_cons_zero, List.getElem?_cons_succ] at c0
          go_wp2_with (at_builtin; refine wpList_append_size rfl (.tmp 31) (.tmp 32) 22 rfl w.heap.size 9 inf _ 1 16 underSs I1.out I2.out I3.out I4.out rfl (by decide) _ hs.length (hs.map Value.string) B gs.length d (gs.map Value.string) rfl rfl (by simp) (one_str _) (by simp only [maxLen]; omega) (by omega) HO2.out (HG.out.2.2.ext HE2.out) HE2.out.size ?_; intro v2 w2 hown2 hg2)
          have HO3 := Lib.hid hown2; have HE3 := Lib.hid (HE2.out.own3 HO2.out hg2); clear hown2 hg2
          go_wp2_with fail
          go_roundw
          case rel => exact ⟨2, by go_num, HE3.out, .inr (.inr ⟨rfl, by simpa using HO3.out⟩)⟩
          case measure => simp [intOf]
        · have HO2 := Lib.hid ho; have HE2 := Lib.hid hE; clear hE ho
          go_wp2_with fail
          go_ret
          exact ⟨HE2.out, _, rfl, HO2.out⟩
end Go.Proofs.YtmmcjcaccicheaaGreatDoor
/- Laws: an append of one new element in a region that draws. No condition. -/
namespace Go.Proofs.YtmmcjcaccicheaaGreatDoor
open Go.RowKit
section
variable {P : Program}
theorem wpX_append_size {Q : Exit → Act → World → Prop} {T : World → Prop} {md : Region.Mode} {l : List Oper} (i : Nat) {o : Oper} {fuel : Nat} {listed : Array Bool} {S : World → Prop} {a : Act} (hr : Region.ready md l.toArray listed = [i]) (ho : nth l i = some o) (hg : o.guard = none)
    (s x : Operand) (t : TypeId) (hop : o.op = .call { callee := .builtin .append, args := #[s, x], argTypes := #[t, t] })
    (base : Nat) (e : TypeId) (inf : TypeInfo) (z : Value) (size bytes : Nat) (ht : P.underlying t = some (.slice e)) (hi : P.info? e = some inf) (hz : inf.zero = some z)
    (hsize : inf.size = size) (hby : inf.bytes = bytes) (hzs : z.cells.size = size) (hsz : 0 < size) (v : Value) (n : Nat) (xs : List Value) (A : Option Addr) (m c : Nat) (news : List Value)
    (hs : a.eval s = v) (hx : a.eval x = .slice A m c) (hl : news.length = m * size) (h1 : ∀ u ∈ news, u.oneCell' = true) (h63 : n + m ≤ maxLen) (hbytes : (n + m) * bytes ≤ 140737488355328)
    (hS : ∀ w, S w → w.ownsRow base e size v n xs ∧ Cells w A news ∧ base ≤ w.heap.size)
    (h : ∀ w, S w → ∀ v' w', w'.ownsRow base e size v' (n + m) (xs ++ news) → w.grownBy w' v.ownBlock →
      ∃ S' : World → Prop, Stab S' ∧ (∀ w, S' w → T w) ∧ S' w' ∧ wpX P md l.toArray Q T fuel (listed.setIfInBounds i true) S' (a.put o.dst v')) : wpX P md l.toArray Q T (fuel + 1) listed S a := by
  refine wpX_one i hr ho hg fun w hw K hK => ?_
  obtain ⟨h2, h3, h4⟩ := hS w hw
  obtain ⟨v', w', hrun, hown, hgrow⟩ := run_append_size (P := P) (w := w) base t o.type e inf z size bytes ht hi hz hsize hby hzs hsz v n xs h2 A m c news hl h3 h1 h63 hbytes h4
  unfold Oper.wp
  simp [execOp, hop, resolve, invoke, builtin, hs, hx, hrun, Result.andThen]
  exact hK _ _ (h w hw v' w' hown hgrow)

/-- A slice of one new element, and its append: the two come up one after the other. -/
theorem wpX_push {Q : Exit → Act → World → Prop} {T : World → Prop} {md : Region.Mode} {l : List Oper} (i j : Nat) {oi o : Oper} {fuel : Nat} {listed : Array Bool} {S : World → Prop} {a : Act}
    (hri : Region.ready md l.toArray listed = [i]) (hoi : nth l i = some oi) (hgi : oi.guard = none)
    (hr : Region.ready md l.toArray (listed.setIfInBounds i true) = [j]) (ho : nth l j = some o) (hg : o.guard = none)
    (s x : Operand) (t : TypeId) (hop : o.op = .call { callee := .builtin .append, args := #[s, x], argTypes := #[t, t] })
    (base : Nat) (e : TypeId) (inf : TypeInfo) (z : Value) (size bytes : Nat) (ht : P.underlying t = some (.slice e)) (hi : P.info? e = some inf) (hz : inf.zero = some z)
    (hsize : inf.size = size) (hby : inf.bytes = bytes) (hzs : z.cells.size = size) (hsz : 0 < size) (v : Value) (n : Nat) (xs news : List Value)
    (hbuild : ∀ w, (execOp a.eval oi).run P w = .ok (.value (.slice (some ⟨w.heap.size, 0, none⟩) 1 1)) (w.alloc (.cells news.toArray e)))
    (hs : ∀ g, (a.put oi.dst (.slice (some ⟨g, 0, none⟩) 1 1)).eval s = v) (hx : ∀ g, (a.put oi.dst (.slice (some ⟨g, 0, none⟩) 1 1)).eval x = .slice (some ⟨g, 0, none⟩) 1 1)
    (hl : news.length = 1 * size) (h1 : ∀ u ∈ news, u.oneCell' = true) (h63 : n + 1 ≤ maxLen) (hbytes : (n + 1) * bytes ≤ 140737488355328)
    (hst : Stab S) (hST : ∀ w, S w → T w) (hS : ∀ w, S w → w.ownsRow base e size v n xs ∧ base ≤ w.heap.size)
    (h : ∀ g w, S w → ∀ v' w', w'.ownsRow base e size v' (n + 1) (xs ++ news) → w.grownBy w' v.ownBlock →
      ∃ S' : World → Prop, Stab S' ∧ (∀ w, S' w → T w) ∧ S' w' ∧ wpX P md l.toArray Q T fuel ((listed.setIfInBounds i true).setIfInBounds j true) S' ((a.put oi.dst (.slice (some ⟨g, 0, none⟩) 1 1)).put o.dst v')) : wpX P md l.toArray Q T (fuel + 1 + 1) listed S a := by
  refine wpX_one i hri hoi hgi fun w hw K hK => ?_
  unfold Oper.wp
  rw [hbuild, Oper.upon_value]
  refine hK _ _ ⟨fun wy => S wy ∧ Blk wy w.heap.size (.cells news.toArray e), hst.and (Stab.blk _ _), fun _ h => hST _ h.1, ⟨hst _ _ ((Ext.refl w).alloc _) hw, Blk.new w _ rfl⟩, ?_⟩
  refine wpX_append_size j hr ho hg s x t hop base e inf z size bytes ht hi hz hsize hby hzs hsz v n xs (some ⟨w.heap.size, 0, none⟩) 1 1 news (hs _) (hx _) hl h1 h63 hbytes
    (fun wy hy => ⟨(hS wy hy.1).1, .inr ⟨_, 0, rfl, fun k u hu => by rw [hy.2.cell]; simpa using hu⟩, (hS wy hy.1).2⟩) (fun wy hy v' w' ho hg => h _ wy hy.1 v' w' ho hg)

/-- Two may come up. -/
theorem wpX_two {Q : Exit → Act → World → Prop} {T : World → Prop} {md : Region.Mode} {l : List Oper} (i j : Nat) {oi oj : Oper} {fuel : Nat} {listed : Array Bool} {S : World → Prop} {a : Act}
    (hr : Region.ready md l.toArray listed = [i, j]) (hoi : nth l i = some oi) (hgi : oi.guard = none) (hoj : nth l j = some oj) (hgj : oj.guard = none)
    (hi : ∀ w, S w → ∀ K : Act → World → Prop, (∀ a' w', (∃ S' : World → Prop, Stab S' ∧ (∀ w, S' w → T w) ∧ S' w' ∧ wpX P md l.toArray Q T fuel (listed.setIfInBounds i true) S' a') → K a' w') → Oper.wp P oi a w K Q)
    (hj : ∀ w, S w → ∀ K : Act → World → Prop, (∀ a' w', (∃ S' : World → Prop, Stab S' ∧ (∀ w, S' w → T w) ∧ S' w' ∧ wpX P md l.toArray Q T fuel (listed.setIfInBounds j true) S' a') → K a' w') → Oper.wp P oj a w K Q) : wpX P md l.toArray Q T (fuel + 1) listed S a := by
  have hoi' : l.toArray[i]? = some oi := by rw [nth_eq] at hoi; simpa using hoi
  have hoj' : l.toArray[j]? = some oj := by rw [nth_eq] at hoj; simpa using hoj
  refine wpX_all hr (by simp) fun k hk w hS => ?_
  rcases (by simpa using hk : k = i ∨ k = j) with rfl | rfl
  · unfold wpOp
    simp only [hoi', Region.wanted, hgi, if_true]
    exact .inl (hi w hS _ fun _ _ h => h)
  · unfold wpOp
    simp only [hoj', Region.wanted, hgj, if_true]
    exact .inl (hj w hS _ fun _ _ h => h)
end
end Go.Proofs.YtmmcjcaccicheaaGreatDoor
/- A region that draws its order, inside a round of a range over a function. No condition. -/
namespace Go.Proofs.YtmmcjcaccicheaaGreatDoor
open Go.RowKit
def plainOps (ops : Array Oper) : Bool := ops.toList.all fun o => match o.op with | .defer _ => false | _ => true
theorem plainOps_spec {ops : Array Oper} (h : plainOps ops = true) {i : Nat} {o : Oper} (ho : ops[i]? = some o) : ∀ c, o.op ≠ .defer c := by
  intro c hc
  have := List.all_eq_true.1 h o (by rw [Array.mem_toList_iff]; exact Array.mem_of_getElem? ho)
  rw [hc] at this
  cases this
section
variable {P : Program} {Q : Exit → Act → World → Prop} {K : Act → World → Prop} {a : Act} {w : World}
theorem wpIn_of_wp {o : Oper} (l : Nat) (hd : ∀ c, o.op ≠ .defer c) (h : o.wp P a w K Q) : o.wpIn (Fence.wide.inRound l) 0 P a w K Q := by
  refine ⟨fun _ _ => trivial, ?_⟩
  rw [Oper.semAt_plain _ _ o hd]
  unfold Oper.wp at h
  revert h
  generalize (execOp a.eval o).run P w = r
  intro h
  cases r with
  | ok x w' =>
    cases x <;> simp only [Oper.upon, Oper.uponIn] at h ⊢ <;>
      first
        | exact h
        | exact ⟨fun hd => by simp [Fence.wide] at hd, CallsIn.inRound l (callsIn_wide.2 h)⟩
        | exact ⟨fun hd => by simp [Fence.wide] at hd, fun c cs _ => let ⟨v, w', r, s⟩ := h c cs; ⟨v, w', r, stepsIn_wide.2 s⟩⟩
  | halt x w' => cases x <;> simp only [Oper.upon, Oper.uponIn] at h ⊢ <;> exact h
theorem wpAnyIn_of {md : Region.Mode} {ops : Array Oper} (l : Nat) (hd : plainOps ops = true) (hQ : ¬ LetsOut Q) : ∀ (fuel : Nat) (listed : Array Bool) (a : Act) (w : World), wpAny P md ops Q fuel listed a w → wpAnyIn (Fence.wide.inRound l) 0 P md ops Q fuel listed a w
  | 0, _, _, _, h => h
  | fuel + 1, _, _, _, h => ⟨h.1, fun i hi => by
    have hh := wpOp_mono (fun a w => wpAnyIn_of l hd hQ fuel _ a w) (h.2 i hi)
    unfold wpOp at hh
    unfold wpOpIn
    split
    · rename_i ho; simpa [ho] using hh
    · rename_i o ho
      simp only [ho] at hh
      split
      · rename_i hw
        simp only [hw, if_true] at hh
        rcases hh with hh | hh
        · exact wpIn_of_wp l (plainOps_spec hd ho) hh
        · exact absurd hh.2 hQ
      · rename_i hw
        simp only [hw] at hh
        exact ⟨fun _ _ => trivial, hh⟩⟩
/-- A region that draws its order, inside a round. -/
theorem wpIn_region_X {T : World → Prop} {ops : Array Oper} {l id : Nat} (S : World → Prop) (hm : P.follows .mixedOrders = true) (hd : plainOps ops = true) (hQ : ¬ LetsOut Q) (hS : S w.drew) (h : wpX P .any ops Q T ops.size (Array.replicate ops.size false) S a) :
    (Code.region id ops true).wpIn (Fence.wide.inRound l) 0 P Q a w :=
  wpIn_region_any hm (wpAnyIn_of l hd hQ _ _ _ _ (wpAny_of_X _ _ _ _ h _ hS))
end
end Go.Proofs.YtmmcjcaccicheaaGreatDoor

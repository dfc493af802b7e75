/- The plain law of shortest edit scripts: how many lines two lists have in common, and the furthest points of the tables. No condition. -/
import Derived.Test.YtmmppfopokbcfaaMyTabs
namespace Go.Proofs.Ytmmppfopokbcfaa

/-- The greatest number of lines that the first x lines of a and the first y lines of b have in common, in order. -/
def Lc (a b : Lns) : Nat → Nat → Nat
  | 0, _ => 0
  | _ + 1, 0 => 0
  | x + 1, y + 1 => if mtB a b x y then Lc a b x y + 1 else max (Lc a b x (y + 1)) (Lc a b (x + 1) y)
termination_by x y => x + y

section
variable {a b : Lns}
theorem Lc_zero (y : Nat) : Lc a b 0 y = 0 := by rw [Lc]
theorem Lc_zero' (x : Nat) : Lc a b x 0 = 0 := by cases x <;> rw [Lc]
theorem Lc_yes {x y : Nat} (h : mtB a b x y = true) : Lc a b (x + 1) (y + 1) = Lc a b x y + 1 := by rw [Lc, if_pos h]
theorem Lc_no {x y : Nat} (h : mtB a b x y = false) : Lc a b (x + 1) (y + 1) = max (Lc a b x (y + 1)) (Lc a b (x + 1) y) := by rw [Lc, if_neg (by simp [h])]

theorem Lc_steps : ∀ (s x y : Nat), x + y = s → (Lc a b x y ≤ Lc a b (x + 1) y ∧ Lc a b (x + 1) y ≤ Lc a b x y + 1) ∧ (Lc a b x y ≤ Lc a b x (y + 1) ∧ Lc a b x (y + 1) ≤ Lc a b x y + 1) := by
  intro s
  induction s using Nat.strongRecOn with
  | ind s ih =>
    intro x y hs
    constructor
    · cases y with
      | zero => rw [Lc_zero', Lc_zero']; omega
      | succ y =>
        have h := ih (x + y) (by omega) x y rfl
        cases hm : mtB a b x y with
        | true => rw [Lc_yes hm]; omega
        | false => rw [Lc_no hm]; omega
    · cases x with
      | zero => rw [Lc_zero, Lc_zero]; omega
      | succ x =>
        have h := ih (x + y) (by omega) x y rfl
        cases hm : mtB a b x y with
        | true => rw [Lc_yes hm]; omega
        | false => rw [Lc_no hm]; omega
theorem Lc_right (x y : Nat) : Lc a b x y ≤ Lc a b (x + 1) y ∧ Lc a b (x + 1) y ≤ Lc a b x y + 1 := (Lc_steps _ x y rfl).1
theorem Lc_down (x y : Nat) : Lc a b x y ≤ Lc a b x (y + 1) ∧ Lc a b x (y + 1) ≤ Lc a b x y + 1 := (Lc_steps _ x y rfl).2
theorem Lc_diag (x y : Nat) : Lc a b x y ≤ Lc a b (x + 1) (y + 1) ∧ Lc a b (x + 1) (y + 1) ≤ Lc a b x y + 1 := by
  have h1 := Lc_right (a := a) (b := b) x y
  have h2 := Lc_down (a := a) (b := b) x y
  have h3 := Lc_down (a := a) (b := b) (x + 1) y
  cases hm : mtB a b x y with
  | true => rw [Lc_yes hm]; omega
  | false => rw [Lc_no hm]; omega
theorem Lc_mono_x (x y : Nat) : ∀ j, Lc a b x y ≤ Lc a b (x + j) y
  | 0 => Nat.le_refl _
  | j + 1 => Nat.le_trans (Lc_mono_x x y j) (Lc_right (x + j) y).1
theorem Lc_mono_y (x y : Nat) : ∀ j, Lc a b x y ≤ Lc a b x (y + j)
  | 0 => Nat.le_refl _
  | j + 1 => Nat.le_trans (Lc_mono_y x y j) (Lc_down x (y + j)).1
theorem Lc_mono {x y x' y' : Nat} (hx : x ≤ x') (hy : y ≤ y') : Lc a b x y ≤ Lc a b x' y' := by
  have h1 := Lc_mono_x (a := a) (b := b) x y (x' - x)
  have h2 := Lc_mono_y (a := a) (b := b) x' y (y' - y)
  rw [show x + (x' - x) = x' by omega] at h1
  rw [show y + (y' - y) = y' by omega] at h2
  omega
theorem Lc_le_x : ∀ x y : Nat, Lc a b x y ≤ x
  | 0, y => by rw [Lc_zero]; omega
  | x + 1, y => by have := Lc_le_x x y; have := (Lc_right (a := a) (b := b) x y).2; omega
theorem Lc_le_y : ∀ y x : Nat, Lc a b x y ≤ y
  | 0, x => by rw [Lc_zero']; omega
  | y + 1, x => by have := Lc_le_y y x; have := (Lc_down (a := a) (b := b) x y).2; omega
/-- Behind the end nothing is in common. -/
theorem Lc_out_x {x : Nat} (hx : a.length ≤ x) : ∀ y, Lc a b (x + 1) y = Lc a b x y
  | 0 => by rw [Lc_zero', Lc_zero']
  | y + 1 => by
    have h := Lc_out_x hx y
    have hm : mtB a b x y = false := mtB_out (by omega)
    have h2 := (Lc_down (a := a) (b := b) x y).1
    rw [Lc_no hm]; omega
theorem Lc_out_y {y : Nat} (hy : b.length ≤ y) : ∀ x, Lc a b x (y + 1) = Lc a b x y
  | 0 => by rw [Lc_zero, Lc_zero]
  | x + 1 => by
    have h := Lc_out_y hy x
    have hm : mtB a b x y = false := mtB_out (by omega)
    have h2 := (Lc_right (a := a) (b := b) x y).1
    rw [Lc_no hm]; omega
theorem Lc_far : ∀ j : Nat, Lc a b (a.length + j) (b.length + j) = Lc a b a.length b.length
  | 0 => rfl
  | j + 1 => by
    rw [← Nat.add_assoc, ← Nat.add_assoc, Lc_out_x (by omega), Lc_out_y (by omega)]
    exact Lc_far j
/-- Equal lines, one after the other. -/
theorem Lc_run {x y : Nat} : ∀ j : Nat, (∀ i, i < j → mtB a b ((x + i : Nat)) ((y + i : Nat)) = true) → Lc a b (x + j) (y + j) = Lc a b x y + j
  | 0, _ => rfl
  | j + 1, h => by
    rw [← Nat.add_assoc, ← Nat.add_assoc, Lc_yes (h j (by omega)), Lc_run j (fun i hi => h i (by omega))]; omega

/-- The number of steps of a shortest edit script of the first x and y lines. -/
def ed (a b : Lns) (x y : Nat) : Int := (x : Int) + y - 2 * (Lc a b x y : Nat)
theorem ed_diag (x y : Nat) : ∀ j, ed a b x y ≤ ed a b (x + j) (y + j)
  | 0 => Int.le_refl _
  | j + 1 => by
    have h := ed_diag x y j
    have h2 := (Lc_diag (a := a) (b := b) (x + j) (y + j)).2
    unfold ed at *
    rw [← Nat.add_assoc, ← Nat.add_assoc]
    omega
theorem ed_abs (x y : Nat) : (x : Int) - y ≤ ed a b x y ∧ (y : Int) - x ≤ ed a b x y ∧ 0 ≤ ed a b x y := by
  have h1 := Lc_le_x (a := a) (b := b) x y
  have h2 := Lc_le_y (a := a) (b := b) y x
  unfold ed; omega
theorem ed_right (x y : Nat) : ed a b (x + 1) y ≤ ed a b x y + 1 := by
  have := (Lc_right (a := a) (b := b) x y).1
  unfold ed; omega
theorem ed_down (x y : Nat) : ed a b x (y + 1) ≤ ed a b x y + 1 := by
  have := (Lc_down (a := a) (b := b) x y).1
  unfold ed; omega

/-- Where following a diagonal ends. -/
theorem fol_spec {k : Int} : ∀ (f : Nat) (x y : Nat), (x : Int) - k = y → f = ((a.length : Int) - x).toNat →
    ∃ j : Nat, fol a b k f x = ((x + j : Nat) : Int) ∧ (∀ i, i < j → mtB a b ((x + i : Nat)) ((y + i : Nat)) = true) ∧ mtB a b ((x + j : Nat)) ((y + j : Nat)) = false
  | 0, x, y, hk, hf => ⟨0, rfl, fun i hi => absurd hi (by omega), mtB_out (by omega)⟩
  | f + 1, x, y, hk, hf => by
    cases hm : mtB a b x y with
    | false => exact ⟨0, by rw [fol, hk, if_neg (by simp [hm])]; rfl, fun i hi => absurd hi (by omega), hm⟩
    | true =>
      obtain ⟨j, h1, h2, h3⟩ := fol_spec (k := k) f (x + 1) (y + 1) (by omega) (by omega)
      refine ⟨j + 1, ?_, ?_, ?_⟩
      · rw [fol, hk, if_pos hm]
        have : ((x : Int) + 1) = ((x + 1 : Nat) : Int) := by omega
        rw [this, h1]; omega
      · intro i hi
        cases i with
        | zero => exact hm
        | succ i =>
          have := h2 i (by omega)
          rw [show x + (i + 1) = x + 1 + i by omega, show y + (i + 1) = y + 1 + i by omega]; exact this
      · rw [show x + (j + 1) = x + 1 + j by omega, show y + (j + 1) = y + 1 + j by omega]; exact h3
theorem folV_spec {k : Int} {x y : Nat} (hk : (x : Int) - k = y) :
    ∃ j : Nat, folV a b x k = ((x + j : Nat) : Int) ∧ (∀ i, i < j → mtB a b ((x + i : Nat)) ((y + i : Nat)) = true) ∧ mtB a b ((x + j : Nat)) ((y + j : Nat)) = false :=
  fol_spec _ x y hk rfl

/-- X is the furthest point on the diagonal k that d steps reach. -/
def Far (a b : Lns) (d : Nat) (k : Int) (X : Nat) : Prop := ∃ Y : Nat, (X : Int) - k = Y ∧ ed a b X Y ≤ d ∧ (d : Int) < ed a b (X + 1) (Y + 1)
theorem Far.le {d : Nat} {k : Int} {X x y : Nat} (h : Far a b d k X) (hk : (x : Int) - k = y) (he : ed a b x y ≤ d) : x ≤ X := by
  obtain ⟨Y, h1, h2, h3⟩ := h
  rcases Nat.lt_or_ge X x with hlt | hge
  · have := ed_diag (a := a) (b := b) (X + 1) (Y + 1) (x - X - 1)
    rw [show X + 1 + (x - X - 1) = x by omega, show Y + 1 + (x - X - 1) = y by omega] at this
    omega
  · exact hge
/-- Following from a point that d steps reach, from which on nothing further is reached. -/
theorem Far.of_fol {d : Nat} {k : Int} {s y : Nat} (hk : (s : Int) - k = y) (he : ed a b s y ≤ d)
    (h1 : ∀ x z : Nat, (x : Int) - (k - 1) = z → ed a b x z ≤ (d : Int) - 1 → x + 1 ≤ s) (h2 : ∀ x z : Nat, (x : Int) - (k + 1) = z → ed a b x z ≤ (d : Int) - 1 → x ≤ s) :
    ∃ X : Nat, folV a b s k = X ∧ Far a b d k X := by
  obtain ⟨j, e1, e2, e3⟩ := folV_spec (a := a) (b := b) hk
  refine ⟨s + j, e1, y + j, by omega, ?_, ?_⟩
  · have := Lc_run (a := a) (b := b) (x := s) (y := y) j e2
    unfold ed at *
    omega
  · have hL := Lc_no e3
    have hc := Lc_down (a := a) (b := b) (s + j) (y + j)
    have hd := Lc_right (a := a) (b := b) (s + j) (y + j)
    rcases Int.lt_or_le d (ed a b (s + j + 1) (y + j + 1)) with h | h
    · exact h
    · exfalso
      rcases Nat.le_total (Lc a b (s + j) (y + j + 1)) (Lc a b (s + j + 1) (y + j)) with hm | hm
      · rw [Nat.max_eq_right hm] at hL
        have := h2 (s + j + 1) (y + j) (by omega) (by unfold ed at *; omega)
        omega
      · rw [Nat.max_eq_left hm] at hL
        have := h1 (s + j) (y + j + 1) (by omega) (by unfold ed at *; omega)
        omega

theorem atV_in {t : List Int} {d : Nat} (ht : t.length = d + 1) {k : Int} (h1 : -(d : Int) ≤ k) (h2 : k ≤ d) (h3 : (k + d) % 2 = 0) : atV t k = t[((k + d) / 2).toNat]? := by
  unfold atV
  rw [ht, show (((d + 1 : Nat) : Int) - 1) = d by omega, if_neg (by omega)]
theorem atV_out {t : List Int} {d : Nat} (ht : t.length = d + 1) {k : Int} (h : k < -(d : Int) ∨ (d : Int) < k ∨ (k + d) % 2 ≠ 0) : atV t k = none := by
  unfold atV
  rw [ht, show (((d + 1 : Nat) : Int) - 1) = d by omega, if_pos h]

theorem atV_next {d : Nat} {k : Int} (h1 : -((d : Int) + 1) ≤ k) (h2 : k ≤ (d : Int) + 1) (h3 : (k + (d + 1)) % 2 = 0) : atV (tabV a b (d + 1)) k = some (folV a b (stepV (tabV a b d) k).1 k) := by
  rw [atV_in (tabV_len a b (d + 1)) (by omega) (by omega) (by omega)]
  have hi : ((k + ((d + 1 : Nat) : Int)) / 2).toNat < d + 2 := by omega
  rw [tabV, nextV, List.getElem?_map, List.getElem?_range (by rw [tabV_len]; exact hi)]
  simp only [Option.map_some, tabV_len]
  rw [show 2 * (((k + ((d + 1 : Nat) : Int)) / 2).toNat : Int) - ((d + 1 : Nat) : Int) = k by omega]

/-- The numbers of the tables are the furthest points. -/
theorem tab_far : ∀ (d : Nat) (k : Int), -(d : Int) ≤ k → k ≤ d → (k + d) % 2 = 0 → ∃ X : Nat, atV (tabV a b d) k = some (X : Int) ∧ Far a b d k X
  | 0, k, h1, h2, h3 => by
    obtain rfl : k = 0 := by omega
    obtain ⟨X, e1, e2⟩ := Far.of_fol (a := a) (b := b) (d := 0) (k := 0) (s := 0) (y := 0) (by omega) (by unfold ed; rw [Lc_zero]; omega)
      (fun x z _ h => by have := (ed_abs (a := a) (b := b) x z).2.2; omega) (fun x z _ h => by have := (ed_abs (a := a) (b := b) x z).2.2; omega)
    refine ⟨X, ?_, e2⟩
    rw [atV_in (d := 0) rfl (by omega) (by omega) (by omega)]
    show [folV a b 0 0][_]? = _
    have : folV a b 0 0 = X := e1
    rw [this]; rfl
  | d + 1, k, h1, h2, h3 => by
    have hL : ∀ p : Nat, atV (tabV a b d) (k - 1) = some (p : Int) → Far a b d (k - 1) p → True := fun _ _ _ => trivial
    -- what is to the left, and to the right
    have left : (-(d : Int) ≤ k - 1 ∧ k - 1 ≤ d ∧ ∃ p : Nat, atV (tabV a b d) (k - 1) = some (p : Int) ∧ Far a b d (k - 1) p) ∨ (k - 1 < -(d : Int) ∧ atV (tabV a b d) (k - 1) = none) := by
      by_cases h : -(d : Int) ≤ k - 1
      · exact .inl ⟨h, by omega, tab_far d (k - 1) h (by omega) (by omega)⟩
      · exact .inr ⟨by omega, atV_out (tabV_len a b d) (by omega)⟩
    have right : (k + 1 ≤ (d : Int) ∧ -(d : Int) ≤ k + 1 ∧ ∃ q : Nat, atV (tabV a b d) (k + 1) = some (q : Int) ∧ Far a b d (k + 1) q) ∨ ((d : Int) < k + 1 ∧ atV (tabV a b d) (k + 1) = none) := by
      by_cases h : k + 1 ≤ (d : Int)
      · exact .inl ⟨h, by omega, tab_far d (k + 1) (by omega) h (by omega)⟩
      · exact .inr ⟨by omega, atV_out (tabV_len a b d) (by omega)⟩
    have fin : ∀ s y : Nat, (stepV (tabV a b d) k).1 = (s : Int) → (s : Int) - k = y → ed a b s y ≤ (d : Int) + 1 →
        (∀ p : Nat, atV (tabV a b d) (k - 1) = some (p : Int) → p + 1 ≤ s) → (∀ q : Nat, atV (tabV a b d) (k + 1) = some (q : Int) → q ≤ s) →
        ∃ X : Nat, atV (tabV a b (d + 1)) k = some (X : Int) ∧ Far a b (d + 1) k X := by
      intro s y hs hk he hp hq
      obtain ⟨X, e1, e2⟩ := Far.of_fol (a := a) (b := b) (d := d + 1) hk (by omega)
        (fun x z hz hed => by
          rcases left with ⟨_, _, p, hp1, hp2⟩ | ⟨hl, _⟩
          · have := hp2.le hz (by omega); have := hp p hp1; omega
          · have := (ed_abs (a := a) (b := b) x z).2.1; omega)
        (fun x z hz hed => by
          rcases right with ⟨_, _, q, hq1, hq2⟩ | ⟨hl, _⟩
          · have := hq2.le hz (by omega); have := hq q hq1; omega
          · have := (ed_abs (a := a) (b := b) x z).1; omega)
      exact ⟨X, by rw [atV_next (by omega) (by omega) (by omega), hs, e1], e2⟩
    rcases left with ⟨l1, l2, p, hp1, hp2⟩ | ⟨l1, l2⟩
    · obtain ⟨yp, p1, p2, p3⟩ := hp2
      have hpe := ed_right (a := a) (b := b) p yp
      rcases right with ⟨r1, r2, q, hq1, hq2⟩ | ⟨r1, r2⟩
      · obtain ⟨yq, q1, q2, q3⟩ := hq2
        have hqe := ed_down (a := a) (b := b) q yq
        by_cases hpq : (p : Int) < q
        · refine fin q (yq + 1) (by simp only [stepV, hp1, hq1, if_pos hpq]) (by omega) (by omega) (fun p' h => ?_) (fun q' h => ?_)
          · rw [hp1] at h; simp at h; omega
          · rw [hq1] at h; simp at h; omega
        · refine fin (p + 1) yp (by simp only [stepV, hp1, hq1, if_neg hpq]; omega) (by omega) (by omega) (fun p' h => ?_) (fun q' h => ?_)
          · rw [hp1] at h; simp at h; omega
          · rw [hq1] at h; simp at h; omega
      · refine fin (p + 1) yp (by simp only [stepV, hp1, r2]; omega) (by omega) (by omega) (fun p' h => ?_) (fun q' h => ?_)
        · rw [hp1] at h; simp at h; omega
        · rw [r2] at h; cases h
    · rcases right with ⟨r1, r2, q, hq1, hq2⟩ | ⟨r1, r2⟩
      · obtain ⟨yq, q1, q2, q3⟩ := hq2
        have hqe := ed_down (a := a) (b := b) q yq
        refine fin q (yq + 1) (by simp only [stepV, l2, hq1]) (by omega) (by omega) (fun p' h => ?_) (fun q' h => ?_)
        · rw [l2] at h; cases h
        · rw [hq1] at h; simp at h; omega
      · omega
end

/-- The distance. -/
def dist (a b : Lns) : Nat := a.length + b.length - 2 * Lc a b a.length b.length
theorem dist_ed (a b : Lns) : (dist a b : Int) = ed a b a.length b.length := by
  have h1 := Lc_le_x (a := a) (b := b) a.length b.length
  have h2 := Lc_le_y (a := a) (b := b) b.length a.length
  unfold dist ed; omega
theorem dist_le (a b : Lns) : dist a b ≤ a.length + b.length := by unfold dist; omega

/-- The table of d has the end just if d is at least the distance. -/
theorem tab_end {a b : Lns} {d : Nat} {x : Int} (h : atV (tabV a b d) ((a.length : Int) - b.length) = some x) : (a.length : Int) ≤ x ↔ dist a b ≤ d := by
  have hin : -(d : Int) ≤ (a.length : Int) - b.length ∧ (a.length : Int) - b.length ≤ d ∧ ((a.length : Int) - b.length + d) % 2 = 0 := by
    rcases Classical.em (-(d : Int) ≤ (a.length : Int) - b.length ∧ (a.length : Int) - b.length ≤ d ∧ ((a.length : Int) - b.length + d) % 2 = 0) with h' | h'
    · exact h'
    · rw [atV_out (tabV_len a b d) (by omega)] at h; cases h
  obtain ⟨X, e1, e2⟩ := tab_far (a := a) (b := b) d _ hin.1 hin.2.1 hin.2.2
  rw [e1] at h
  obtain rfl : (X : Int) = x := by simpa using h
  have hd := dist_ed a b
  constructor
  · intro hx
    obtain ⟨Y, h1, h2, _⟩ := e2
    have := ed_diag (a := a) (b := b) a.length b.length (X - a.length)
    rw [show a.length + (X - a.length) = X by omega, show b.length + (X - a.length) = Y by omega] at this
    omega
  · intro hx
    have := e2.le (x := a.length) (y := b.length) (by omega) (by omega)
    omega
theorem tab_last (a b : Lns) : atV (tabV a b (dist a b)) ((a.length : Int) - b.length) = some (a.length : Int) := by
  have hd := dist_ed a b
  have hab := ed_abs (a := a) (b := b) a.length b.length
  obtain ⟨X, e1, e2⟩ := tab_far (a := a) (b := b) (dist a b) ((a.length : Int) - b.length) (by omega) (by omega) (by unfold ed at hd; omega)
  have hle := (tab_end e1).2 (Nat.le_refl _)
  obtain ⟨Y, h1, h2, _⟩ := e2
  have hf := Lc_far (a := a) (b := b) (X - a.length)
  rw [show a.length + (X - a.length) = X by omega, show b.length + (X - a.length) = Y by omega] at hf
  have : X = a.length := by unfold ed at h2 hd; omega
  rw [e1, this]
end Go.Proofs.Ytmmppfopokbcfaa

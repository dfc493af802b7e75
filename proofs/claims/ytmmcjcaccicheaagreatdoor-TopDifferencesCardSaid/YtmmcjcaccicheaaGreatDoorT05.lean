/- MyLcs MyDist: parts of the proof of TopDifferences, one text behind the other. No condition. -/
import Derived.Test.YtmmcjcaccicheaaGreatDoorT04
/- The plain law of shortest edit scripts: how many lines two lists have in common, and the furthest points of the tables. No condition. -/
namespace Go.Proofs.YtmmcjcaccicheaaGreatDoor

/-- The greatest number of lines that the first x lines of a and the first y lines of b have in common, in order. -/
def Lc (a b : Lns) : Nat → Nat → Nat
  | 0, _ => 0
  | _ + 1, 0 => 0
  | x + 1, y + 1 => if mtB a b x y then Lc a b x y + 1 else max (Lc a b x (y + 1)) (Lc a b (x + 1) y)
termination_by x y => x + y

section
variable {a b : Lns}
theorem Lc_zero (y : Nat) : Lc a b 0 y = 0 := by rw [Lc]
theorem Lc_zero' (x : Nat) : Lc a b x 0 = 0 := by cases x <;> rw [Lc]
theorem Lc_yes {x y : Nat} (h : mtB a b x y = true) : Lc a b (x + 1) (y + 1) = Lc a b x y + 1 := by rw [Lc, if_pos h]
theorem Lc_no {x y : Nat} (h : mtB a b x y = false) : Lc a b (x + 1) (y + 1) = max (Lc a b x (y + 1)) (Lc a b (x + 1) y) := by rw [Lc, if_neg (by simp [h])]

theorem Lc_steps : ∀ (s x y : Nat), x + y = s → (Lc a b x y ≤ Lc a b (x + 1) y ∧ Lc a b (x + 1) y ≤ Lc a b x y + 1) ∧ (Lc a b x y ≤ Lc a b x (y + 1) ∧ Lc a b x (y + 1) ≤ Lc a b x y + 1) := by
  intro s
  induction s using Nat.strongRecOn with
  | ind s ih =>
    intro x y hs
    constructor
    · cases y with
      | zero => rw [Lc_zero', Lc_zero']; omega
      | succ y =>
        have h := ih (x + y) (by omega) x y rfl
        cases hm : mtB a b x y with
        | true => rw [Lc_yes hm]; omega
        | false => rw [Lc_no hm]; omega
    · cases x with
      | zero => rw [Lc_zero, Lc_zero]; omega
      | succ x =>
        have h := ih (x + y) (by omega) x y rfl
        cases hm : mtB a b x y with
        | true => rw [Lc_yes hm]; omega
        | false => rw [Lc_no hm]; omega
theorem Lc_right (x y : Nat) : Lc a b x y ≤ Lc a b (x + 1) y ∧ Lc a b (x + 1) y ≤ Lc a b x y + 1 := (Lc_steps _ x y rfl).1
theorem Lc_down (x y : Nat) : Lc a b x y ≤ Lc a b x (y + 1) ∧ Lc a b x (y + 1) ≤ Lc a b x y + 1 := (Lc_steps _ x y rfl).2
theorem Lc_diag (x y : Nat) : Lc a b x y ≤ Lc a b (x + 1) (y + 1) ∧ Lc a b (x + 1) (y + 1) ≤ Lc a b x y + 1 := by
  have h1 := Lc_right (a := a) (b := b) x y
  have h2 := Lc_down (a := a) (b := b) x y
  have h3 := Lc_down (a := a) (b := b) (x + 1) y
  cases hm : mtB a b x y with
  | true => rw [Lc_yes hm]; omega
  | false => rw [Lc_no hm]; omega
theorem Lc_mono_x (x y : Nat) : ∀ j, Lc a b x y ≤ Lc a b (x + j) y
  | 0 => Nat.le_refl _
  | j + 1 => Nat.le_trans (Lc_mono_x x y j) (Lc_right (x + j) y).1
theorem Lc_mono_y (x y : Nat) : ∀ j, Lc a b x y ≤ Lc a b x (y + j)
  | 0 => Nat.le_refl _
  | j + 1 => Nat.le_trans (Lc_mono_y x y j) (Lc_down x (y + j)).1
theorem Lc_mono {x y x' y' : Nat} (hx : x ≤ x') (hy : y ≤ y') : Lc a b x y ≤ Lc a b x' y' := by
  have h1 := Lc_mono_x (a := a) (b := b) x y (x' - x)
  have h2 := Lc_mono_y (a := a) (b := b) x' y (y' - y)
  rw [show x + (x' - x) = x' by omega] at h1
  rw [show y + (y' - y) = y' by omega] at h2
  omega
theorem Lc_le_x : ∀ x y : Nat, Lc a b x y ≤ x
  | 0, y => by rw [Lc_zero]; omega
  | x + 1, y => by have := Lc_le_x x y; have := (Lc_right (a := a) (b := b) x y).2; omega
theorem Lc_le_y : ∀ y x : Nat, Lc a b x y ≤ y
  | 0, x => by rw [Lc_zero']; omega
  | y + 1, x => by have := Lc_le_y y x; have := (Lc_down (a := a) (b := b) x y).2; omega
/-- Behind the end nothing is in common. -/
theorem Lc_out_x {x : Nat} (hx : a.length ≤ x) : ∀ y, Lc a b (x + 1) y = Lc a b x y
  | 0 => by rw [Lc_zero', Lc_zero']
  | y + 1 => by
    have h := Lc_out_x hx y
    have hm : mtB a b x y = false := mtB_out (by omega)
    have h2 := (Lc_down (a := a) (b := b) x y).1
    rw [Lc_no hm]; omega
theorem Lc_out_y {y : Nat} (hy : b.length ≤ y) : ∀ x, Lc a b x (y + 1) = Lc a b x y
  | 0 => by rw [Lc_zero, Lc_zero]
  | x + 1 => by
    have h := Lc_out_y hy x
    have hm : mtB a b x y = false := mtB_out (by omega)
    have h2 := (Lc_right (a := a) (b := b) x y).1
    rw [Lc_no hm]; omega
theorem Lc_far : ∀ j : Nat, Lc a b (a.length + j) (b.length + j) = Lc a b a.length b.length
  | 0 => rfl
  | j + 1 => by
    rw [← Nat.add_assoc, ← Nat.add_assoc, Lc_out_x (by omega), Lc_out_y (by omega)]
    exact Lc_far j
/-- Equal lines, one after the other. -/
theorem Lc_run {x y : Nat} : ∀ j : Nat, (∀ i, i < j → mtB a b ((x + i : Nat)) ((y + i : Nat)) = true) → Lc a b (x + j) (y + j) = Lc a b x y + j
  | 0, _ => rfl
  | j + 1, h => by
    rw [← Nat.add_assoc, ← Nat.add_assoc, Lc_yes (h j (by omega)), Lc_run j (fun i hi => h i (by omega))]; omega

/-- The number of steps of a shortest edit script of the first x and y lines. -/
def ed (a b : Lns) (x y : Nat) : Int := (x : Int) + y - 2 * (Lc a b x y : Nat)
theorem ed_diag (x y : Nat) : ∀ j, ed a b x y ≤ ed a b (x + j) (y + j)
  | 0 => Int.le_refl _
  | j + 1 => by
    have h := ed_diag x y j
    have h2 := (Lc_diag (a := a) (b := b) (x + j) (y + j)).2
    unfold ed at *
    rw [← Nat.add_assoc, ← Nat.add_assoc]
    omega
theorem ed_abs (x y : Nat) : (x : Int) - y ≤ ed a b x y ∧ (y : Int) - x ≤ ed a b x y ∧ 0 ≤ ed a b x y := by
  have h1 := Lc_le_x (a := a) (b := b) x y
  have h2 := Lc_le_y (a := a) (b := b) y x
  unfold ed; omega
theorem ed_right (x y : Nat) : ed a b (x + 1) y ≤ ed a b x y + 1 := by
  have := (Lc_right (a := a) (b := b) x y).1
  unfold ed; omega
theorem ed_down (x y : Nat) : ed a b x (y + 1) ≤ ed a b x y + 1 := by
  have := (Lc_down (a := a) (b := b) x y).1
  unfold ed; omega

/-- Where following a diagonal ends. -/
theorem fol_spec {k : Int} : ∀ (f : Nat) (x y : Nat), (x : Int) - k = y → f = ((a.length : Int) - x).toNat →
    ∃ j : Nat, fol a b k f x = ((x + j : Nat) : Int) ∧ (∀ i, i < j → mtB a b ((x + i : Nat)) ((y + i : Nat)) = true) ∧ mtB a b ((x + j : Nat)) ((y + j : Nat)) = false
  | 0, x, y, hk, hf => ⟨0, rfl, fun i hi => absurd hi (by omega), mtB_out (by omega)⟩
  | f + 1, x, y, hk, hf => by
    cases hm : mtB a b x y with
    | false => exact ⟨0, by rw [fol, hk, if_neg (by simp [hm])]; rfl, fun i hi => absurd hi (by omega), hm⟩
    | true =>
      obtain ⟨j, h1, h2, h3⟩ := fol_spec (k := k) f (x + 1) (y + 1) (by omega) (by omega)
      refine ⟨j + 1, ?_, ?_, ?_⟩
      · rw [fol, hk, if_pos hm]
        have : ((x : Int) + 1) = ((x + 1 : Nat) : Int) := by omega
        rw [this, h1]; omega
      · intro i hi
        cases i with
        | zero => exact hm
        | succ i =>
          have := h2 i (by omega)
          rw [show x + (i + 1) = x + 1 + i by omega, show y + (i + 1) = y + 1 + i by omega]; exact this
      · rw [show x + (j + 1) = x + 1 + j by omega, show y + (j + 1) = y + 1 + j by omega]; exact h3
theorem folV_spec {k : Int} {x y : Nat} (hk : (x : Int) - k = y) :
    ∃ j : Nat, folV a b x k = ((x + j : Nat) : Int) ∧ (∀ i, i < j → mtB a b ((x + i : Nat)) ((y + i : Nat)) = true) ∧ mtB a b ((x + j : Nat)) ((y + j : Nat)) = false :=
  fol_spec _ x y hk rfl

/-- X is the furthest point on the diagonal k that d steps reach. -/
def Far (a b : Lns) (d : Nat) (k : Int) (X : Nat) : Prop := ∃ Y : Nat, (X : Int) - k = Y ∧ ed a b X Y ≤ d ∧ (d : Int) < ed a b (X + 1) (Y + 1)
theorem Far.le {d : Nat} {k : Int} {X x y : Nat} (h : Far a b d k X) (hk : (x : Int) - k = y) (he : ed a b x y ≤ d) : x ≤ X := by
  obtain ⟨Y, h1, h2, h3⟩ := h
  rcases Nat.lt_or_ge X x with hlt | hge
  · have := ed_diag (a := a) (b := b) (X + 1) (Y + 1) (x - X - 1)
    rw [show X + 1 + (x - X - 1) = x by omega, show Y + 1 + (x - X - 1) = y by omega] at this
    omega
  · exact hge
/-- Following from a point that d steps reach, from which on nothing further is reached. -/
theorem Far.of_fol {d : Nat} {k : Int} {s y : Nat} (hk : (s : Int) - k = y) (he : ed a b s y ≤ d)
    (h1 : ∀ x z : Nat, (x : Int) - (k - 1) = z → ed a b x z ≤ (d : Int) - 1 → x + 1 ≤ s) (h2 : ∀ x z : Nat, (x : Int) - (k + 1) = z → ed a b x z ≤ (d : Int) - 1 → x ≤ s) :
    ∃ X : Nat, folV a b s k = X ∧ Far a b d k X := by
  obtain ⟨j, e1, e2, e3⟩ := folV_spec (a := a) (b := b) hk
  refine ⟨s + j, e1, y + j, by omega, ?_, ?_⟩
  · have := Lc_run (a := a) (b := b) (x := s) (y := y) j e2
    unfold ed at *
    omega
  · have hL := Lc_no e3
    have hc := Lc_down (a := a) (b := b) (s + j) (y + j)
    have hd := Lc_right (a := a) (b := b) (s + j) (y + j)
    rcases Int.lt_or_le d (ed a b (s + j + 1) (y + j + 1)) with h | h
    · exact h
    · exfalso
      rcases Nat.le_total (Lc a b (s + j) (y + j + 1)) (Lc a b (s + j + 1) (y + j)) with hm | hm
      · rw [Nat.max_eq_right hm] at hL
        have := h2 (s + j + 1) (y + j) (by omega) (by unfold ed at *; omega)
        omega
      · rw [Nat.max_eq_left hm] at hL
        have := h1 (s + j) (y + j + 1) (by omega) (by unfold ed at *; omega)
        omega

theorem atV_in {t : List Int} {d : Nat} (ht : t.length = d + 1) {k : Int} (h1 : -(d : Int) ≤ k) (h2 : k ≤ d) (h3 : (k + d) % 2 = 0) : atV t k = t[((k + d) / 2).toNat]? := by
  unfold atV
  rw [ht, show (((d + 1 : Nat) : Int) - 1) = d by omega, if_neg (by omega)]
theorem atV_out {t : List Int} {d : Nat} (ht : t.length = d + 1) {k : Int} (h : k < -(d : Int) ∨ (d : Int) < k ∨ (k + d) % 2 ≠ 0) : atV t k = none := by
  unfold atV
  rw [ht, show (((d + 1 : Nat) : Int) - 1) = d by omega, if_pos h]

theorem atV_next {d : Nat} {k : Int} (h1 : -((d : Int) + 1) ≤ k) (h2 : k ≤ (d : Int) + 1) (h3 : (k + (d + 1)) % 2 = 0) : atV (tabV a b (d + 1)) k = some (folV a b (stepV (tabV a b d) k).1 k) := by
  rw [atV_in (tabV_len a b (d + 1)) (by omega) (by omega) (by omega)]
  have hi : ((k + ((d + 1 : Nat) : Int)) / 2).toNat < d + 2 := by omega
  rw [tabV, nextV, List.getElem?_map, List.getElem?_range (by rw [tabV_len]; exact hi)]
  simp only [Option.map_some, tabV_len]
  rw [show 2 * (((k + ((d + 1 : Nat) : Int)) / 2).toNat : Int) - ((d + 1 : Nat) : Int) = k by omega]

/-- The numbers of the tables are the furthest points. -/
theorem tab_far : ∀ (d : Nat) (k : Int), -(d : Int) ≤ k → k ≤ d → (k + d) % 2 = 0 → ∃ X : Nat, atV (tabV a b d) k = some (X : Int) ∧ Far a b d k X
  | 0, k, h1, h2, h3 => by
    obtain rfl : k = 0 := by omega
    obtain ⟨X, e1, e2⟩ := Far.of_fol (a := a) (b := b) (d := 0) (k := 0) (s := 0) (y := 0) (by omega) (by unfold ed; rw [Lc_zero]; omega)
      (fun x z _ h => by have := (ed_abs (a := a) (b := b) x z).2.2; omega) (fun x z _ h => by have := (ed_abs (a := a) (b := b) x z).2.2; omega)
    refine ⟨X, ?_, e2⟩
    rw [atV_in (d := 0) rfl (by omega) (by omega) (by omega)]
    show [folV a b 0 0][_]? = _
    have : folV a b 0 0 = X := e1
    rw [this]; rfl
  | d + 1, k, h1, h2, h3 => by
    have hL : ∀ p : Nat, atV (tabV a b d) (k - 1) = some (p : Int) → Far a b d (k - 1) p → True := fun _ _ _ => trivial
    -- what is to the left, and to the right
    have left : (-(d : Int) ≤ k - 1 ∧ k - 1 ≤ d ∧ ∃ p : Nat, atV (tabV a b d) (k - 1) = some (p : Int) ∧ Far a b d (k - 1) p) ∨ (k - 1 < -(d : Int) ∧ atV (tabV a b d) (k - 1) = none) := by
      by_cases h : -(d : Int) ≤ k - 1
      · exact .inl ⟨h, by omega, tab_far d (k - 1) h (by omega) (by omega)⟩
      · exact .inr ⟨by omega, atV_out (tabV_len a b d) (by omega)⟩
    have right : (k + 1 ≤ (d : Int) ∧ -(d : Int) ≤ k + 1 ∧ ∃ q : Nat, atV (tabV a b d) (k + 1) = some (q : Int) ∧ Far a b d (k + 1) q) ∨ ((d : Int) < k + 1 ∧ atV (tabV a b d) (k + 1) = none) := by
      by_cases h : k + 1 ≤ (d : Int)
      · exact .inl ⟨h, by omega, tab_far d (k + 1) (by omega) h (by omega)⟩
      · exact .inr ⟨by omega, atV_out (tabV_len a b d) (by omega)⟩
    have fin : ∀ s y : Nat, (stepV (tabV a b d) k).1 = (s : Int) → (s : Int) - k = y → ed a b s y ≤ (d : Int) + 1 →
        (∀ p : Nat, atV (tabV a b d) (k - 1) = some (p : Int) → p + 1 ≤ s) → (∀ q : Nat, atV (tabV a b d) (k + 1) = some (q : Int) → q ≤ s) →
        ∃ X : Nat, atV (tabV a b (d + 1)) k = some (X : Int) ∧ Far a b (d + 1) k X := by
      intro s y hs hk he hp hq
      obtain ⟨X, e1, e2⟩ := Far.of_fol (a := a) (b := b) (d := d + 1) hk (by omega)
        (fun x z hz hed => by
          rcases left with ⟨_, _, p, hp1, hp2⟩ | ⟨hl, _⟩
          · have := hp2.le hz (by omega); have := hp p hp1; omega
          · have := (ed_abs (a := a) (b := b) x z).2.1; omega)
        (fun x z hz hed => by
          rcases right with ⟨_, _, q, hq1, hq2⟩ | ⟨hl, _⟩
          · have := hq2.le hz (by omega); have := hq q hq1; omega
          · have := (ed_abs (a := a) (b := b) x z).1; omega)
      exact ⟨X, by rw [atV_next (by omega) (by omega) (by omega), hs, e1], e2⟩
    rcases left with ⟨l1, l2, p, hp1, hp2⟩ | ⟨l1, l2⟩
    · obtain ⟨yp, p1, p2, p3⟩ := hp2
      have hpe := ed_right (a := a) (b := b) p yp
      rcases right with ⟨r1, r2, q, hq1, hq2⟩ | ⟨r1, r2⟩
      · obtain ⟨yq, q1, q2, q3⟩ := hq2
        have hqe := ed_down (a := a) (b := b) q yq
        by_cases hpq : (p : Int) < q
        · refine fin q (yq + 1) (by simp only [stepV, hp1, hq1, if_pos hpq]) (by omega) (by omega) (fun p' h => ?_) (fun q' h => ?_)
          · rw [hp1] at h; simp at h; omega
          · rw [hq1] at h; simp at h; omega
        · refine fin (p + 1) yp (by simp only [stepV, hp1, hq1, if_neg hpq]; omega) (by omega) (by omega) (fun p' h => ?_) (fun q' h => ?_)
          · rw [hp1] at h; simp at h; omega
          · rw [hq1] at h; simp at h; omega
      · refine fin (p + 1) yp (by simp only [stepV, hp1, r2]; omega) (by omega) (by omega) (fun p' h => ?_) (fun q' h => ?_)
        · rw [hp1] at h; simp at h; omega
        · rw [r2] at h; cases h
    · rcases right with ⟨r1, r2, q, hq1, hq2⟩ | ⟨r1, r2⟩
      · obtain ⟨yq, q1, q2, q3⟩ := hq2
        have hqe := ed_down (a := a) (b := b) q yq
        refine fin q (yq + 1) (by simp only [stepV, l2, hq1]) (by omega) (by omega) (fun p' h => ?_) (fun q' h => ?_)
        · rw [l2] at h; cases h
        · rw [hq1] at h; simp at h; omega
      · omega
end

/-- The distance. -/
def dist (a b : Lns) : Nat := a.length + b.length - 2 * Lc a b a.length b.length
theorem dist_ed (a b : Lns) : (dist a b : Int) = ed a b a.length b.length := by
  have h1 := Lc_le_x (a := a) (b := b) a.length b.length
  have h2 := Lc_le_y (a := a) (b := b) b.length a.length
  unfold dist ed; omega
theorem dist_le (a b : Lns) : dist a b ≤ a.length + b.length := by unfold dist; omega

/-- The table of d has the end just if d is at least the distance. -/
theorem tab_end {a b : Lns} {d : Nat} {x : Int} (h : atV (tabV a b d) ((a.length : Int) - b.length) = some x) : (a.length : Int) ≤ x ↔ dist a b ≤ d := by
  have hin : -(d : Int) ≤ (a.length : Int) - b.length ∧ (a.length : Int) - b.length ≤ d ∧ ((a.length : Int) - b.length + d) % 2 = 0 := by
    rcases Classical.em (-(d : Int) ≤ (a.length : Int) - b.length ∧ (a.length : Int) - b.length ≤ d ∧ ((a.length : Int) - b.length + d) % 2 = 0) with h' | h'
    · exact h'
    · rw [atV_out (tabV_len a b d) (by omega)] at h; cases h
  obtain ⟨X, e1, e2⟩ := tab_far (a := a) (b := b) d _ hin.1 hin.2.1 hin.2.2
  rw [e1] at h
  obtain rfl : (X : Int) = x := by simpa using h
  have hd := dist_ed a b
  constructor
  · intro hx
    obtain ⟨Y, h1, h2, _⟩ := e2
    have := ed_diag (a := a) (b := b) a.length b.length (X - a.length)
    rw [show a.length + (X - a.length) = X by omega, show b.length + (X - a.length) = Y by omega] at this
    omega
  · intro hx
    have := e2.le (x := a.length) (y := b.length) (by omega) (by omega)
    omega
theorem tab_last (a b : Lns) : atV (tabV a b (dist a b)) ((a.length : Int) - b.length) = some (a.length : Int) := by
  have hd := dist_ed a b
  have hab := ed_abs (a := a) (b := b) a.length b.length
  obtain ⟨X, e1, e2⟩ := tab_far (a := a) (b := b) (dist a b) ((a.length : Int) - b.length) (by omega) (by omega) (by unfold ed at hd; omega)
  have hle := (tab_end e1).2 (Nat.le_refl _)
  obtain ⟨Y, h1, h2, _⟩ := e2
  have hf := Lc_far (a := a) (b := b) (X - a.length)
  rw [show a.length + (X - a.length) = X by omega, show b.length + (X - a.length) = Y by omega] at hf
  have : X = a.length := by unfold ed at h2 hd; omega
  rw [e1, this]
end Go.Proofs.YtmmcjcaccicheaaGreatDoor
/- Contracts: follower, tables; Distance. -/
namespace Go.Proofs.YtmmcjcaccicheaaGreatDoor
open Go.RowKit
attribute [local go_sem] Oper.semAt_some

abbrev boxS (A : Option Addr) (n c : Nat) : Obj := .cells #[.slice A n c] 22
abbrev folF (g h : Nat) : Value := .func (.func 50) #[] #[.pointer (some ⟨g, 0, none⟩), .pointer (some ⟨h, 0, none⟩)]
abbrev boxF (g h : Nat) : Obj := .cells #[folF g h] 56
abbrev tabF (gf ga gb : Nat) : Value := .func (.func 48) #[] #[.pointer (some ⟨gf, 0, none⟩), .pointer (some ⟨ga, 0, none⟩), .pointer (some ⟨gb, 0, none⟩)]

theorem follower_any (A B : Option Addr) (n c m d : Nat) (w : World) :
    Calls Tryz.prog 22 #[.slice A n c, .slice B m d] w fun e w' => e = .returned (folF w.heap.size (w.heap.size + 1)) ∧ (w.alloc (boxS A n c)).alloc (boxS B m d) = w' := by
  go_enter Tryz.func22, Tryz.ntmps22
  go_wp2_with fail
  go_ret
  exact ⟨rfl, rfl⟩
theorem tables_any (A B : Option Addr) (n c m d : Nat) (g h : Nat) (w : World) :
    Calls Tryz.prog 21 #[.slice A n c, .slice B m d, folF g h] w fun e w' => e = .returned (tabF (w.heap.size + 2) w.heap.size (w.heap.size + 1)) ∧ ((w.alloc (boxS A n c)).alloc (boxS B m d)).alloc (boxF g h) = w' := by
  go_enter Tryz.func21, Tryz.ntmps21
  go_wp2_with fail
  go_ret
  exact ⟨rfl, rfl⟩

theorem encT_size (x : List Int) (vs : Array Value) (S : Nat → Prop) (W : World) (h : EncT x vs S W) : vs.size = 1 := by
  obtain ⟨g, v, rfl, _⟩ := h; rfl
theorem encT_lv (x : List Int) (vs : Array Value) (S : Nat → Prop) (W W' : World) (h : EncT x vs S W) (k : Lv S W W') : EncT x vs S W' := by
  obtain ⟨g, v, h1, h2, h3⟩ := h; exact ⟨g, v, h1, h2.lv k h3, h3⟩
theorem encT_less (x : List Int) (vs : Array Value) (S S' : Nat → Prop) (W : World) (h : EncT x vs S W) (k : ∀ g, S' g → S g) : EncT x vs S' W := by
  obtain ⟨g, v, h1, h2, h3⟩ := h; exact ⟨g, v, h1, h2, fun hs => h3 (k g hs)⟩

/-- The world in which the iterator begins: it knows what it wants, whatever the blocks of X (above w) become. -/
theorem kn_start {A B : Option Addr} {c d : Nat} {a b : Lns} {w w1 : World} (ha : Strs w A a.length a) (hb : Strs w B b.length b) (he : Ext w w1) {X : Nat → Prop} (hX : ∀ g, X g → w.heap.size ≤ g ∧ g < w1.heap.size) {w0 : World}
    (h0 : w0 = ((((w1.alloc (boxS A a.length c)).alloc (boxS B b.length d)).alloc (boxS A a.length c)).alloc (boxS B b.length d)).alloc (boxF w1.heap.size (w1.heap.size + 1))) :
    ∀ W, Lv X w0 W → Kn A B c d a b (w1.heap.size + 2) (w1.heap.size + 3) (w1.heap.size + 4) w1.heap.size (w1.heap.size + 1) W := by
  subst h0
  intro W hv
  have hE : Ext w (((((w1.alloc (boxS A a.length c)).alloc (boxS B b.length d)).alloc (boxS A a.length c)).alloc (boxS B b.length d)).alloc (boxF w1.heap.size (w1.heap.size + 1))) := ((((he.alloc _).alloc _).alloc _).alloc _).alloc _
  have hEW : Ext w W := hv.extBelow hE (fun g hg hx => absurd (hX g hx).1 (by omega))
  have b0 := ((((Blk.new w1 (boxS A a.length c) rfl).alloc (boxS B b.length d)).alloc (boxS A a.length c)).alloc (boxS B b.length d)).alloc (boxF w1.heap.size (w1.heap.size + 1))
  have b1 := (((Blk.new (w1.alloc (boxS A a.length c)) (boxS B b.length d) (g := w1.heap.size + 1) (by simp)).alloc (boxS A a.length c)).alloc (boxS B b.length d)).alloc (boxF w1.heap.size (w1.heap.size + 1))
  have b2 := ((Blk.new ((w1.alloc (boxS A a.length c)).alloc (boxS B b.length d)) (boxS A a.length c) (g := w1.heap.size + 2) (by simp)).alloc (boxS B b.length d)).alloc (boxF w1.heap.size (w1.heap.size + 1))
  have b3 := (Blk.new (((w1.alloc (boxS A a.length c)).alloc (boxS B b.length d)).alloc (boxS A a.length c)) (boxS B b.length d) (g := w1.heap.size + 3) (by simp)).alloc (boxF w1.heap.size (w1.heap.size + 1))
  have b4 := Blk.new ((((w1.alloc (boxS A a.length c)).alloc (boxS B b.length d)).alloc (boxS A a.length c)).alloc (boxS B b.length d)) (boxF w1.heap.size (w1.heap.size + 1)) (g := w1.heap.size + 4) (by simp)
  have nX : ∀ k, ¬ X (w1.heap.size + k) := fun k h => by have := (hX _ h).2; omega
  exact ⟨ha.ext hEW, hb.ext hEW, b2.lv hv (nX 2), b3.lv hv (nX 3), b4.lv hv (nX 4), b0.lv hv (nX 0), b1.lv hv (nX 1)⟩

theorem lv_firm {X : Nat → Prop} {w0 W W' : World} {n1 : Nat} (hn : w0.heap.size ≤ n1) (h : Lv X w0 W) (k : Lv (fun g => False ∨ (n1 ≤ g ∧ NC W g)) W W') : Lv X w0 W' :=
  h.trans k (fun g hg hs => by rcases hs with hs | hs; exact hs.elim; omega)

/-- D is the index of the last table. -/
def LastT (a b : Lns) (D : Nat) : Prop :=
  atV (tabV a b D) ((a.length : Int) - b.length) = some (a.length : Int) ∧ ∀ d, d < D → atV (tabV a b d) ((a.length : Int) - b.length) ≠ some (a.length : Int)

set_option maxRecDepth 100000 in
set_option maxHeartbeats 4000000 in
theorem distance_any (A B : Option Addr) (n c m cd : Nat) (a b : Lns) (w : World) (ha : Strs w A n a) (hb : Strs w B m b) (hn : n ≤ 130) (hm : m ≤ 130) (D : Nat) (hD : D ≤ 260) (hL : LastT a b D) :
    Calls Tryz.prog 7 #[.slice A n c, .slice B m cd] w fun e w' => e = .returned (.int .i64 D) ∧ Ext w w' := by
  obtain rfl : a.length = n := ha.1
  obtain rfl : b.length = m := hb.1
  have HA := Lib.hid ha; have HB := Lib.hid hb; have HL := Lib.hid hL; clear ha hb hL
  refine calls_marks Tryz.func7 rfl ?_
  simp only [Tryz.ntmps7, List.size_toArray, List.length_cons, List.length_nil, Nat.reduceAdd, Nat.reduceSub, Array.replicate_succ, Array.replicate_zero, List.push_toArray, List.append_toArray, List.nil_append, List.cons_append]
  go_wp2_with fail
  refine (follower_any _ _ _ _ _ _ _).mono ?_
  rintro e w1 ⟨rfl, rfl⟩
  go_wp2_with fail
  refine (tables_any _ _ _ _ _ _ _ _ _).mono ?_
  rintro e w1 ⟨rfl, rfl⟩
  go_wp2_with fail
  obtain ⟨w1, hw1⟩ : ∃ w1, w1 = w.alloc (.cells #[.int .i64 (-1)] 3) := ⟨_, rfl⟩
  have hs1 : w1.heap.size = w.heap.size + 1 := by rw [hw1]; simp
  obtain ⟨w0, hw0⟩ : ∃ w0, w0 = ((((w1.alloc (boxS A a.length c)).alloc (boxS B b.length cd)).alloc (boxS A a.length c)).alloc (boxS B b.length cd)).alloc (boxF w1.heap.size (w1.heap.size + 1)) := ⟨_, rfl⟩
  have hs0 : w0.heap.size = w.heap.size + 6 := by rw [hw0]; simp [hs1]
  have he1 : Ext w w1 := by rw [hw1]; exact (Ext.refl w).alloc _
  have he0 : Ext w1 w0 := by rw [hw0]; exact (((((Ext.refl w1).alloc _).alloc _).alloc _).alloc _).alloc _
  have hbx : Blk w0 w.heap.size (.cells #[.int .i64 (-1)] 3) := by
    refine Blk.ext ?_ he0
    rw [hw1]; exact Blk.new w _ rfl
  have hK := kn_start (X := fun g => g = w.heap.size) (d := cd) HA.out HB.out he1 (fun g hg => by subst hg; omega) hw0
  have hit := tables_iter A B c cd a b _ _ _ _ _ (fun g => g = w.heap.size) w0 hK hn hm D hD HL.out.1 HL.out.2
  have e0 : (((((w.alloc (Obj.cells #[Value.int IntKind.i64 (-1)] 3)).alloc (boxS A (List.length a) c)).alloc (boxS B (List.length b) cd)).alloc (boxS A (List.length a) c)).alloc (boxS B (List.length b) cd)).alloc (boxF (w.heap.size + 1) (w.heap.size + 1 + 1)) = w0 := by rw [hw0, hs1, hw1]
  rw [e0]
  rw [hs1] at hit
  have HBX := Lib.hid hbx; have HE1 := Lib.hid (he1.trans he0); have HS0 := Lib.hid hs0
  clear e0 hw0 hw1 hs1 he1 he0 hbx hK hs0
  refine wp_of_In (wpIn_range (gf := 48) rfl (enters_of Tryz.func48 (by kernel_rfl) rfl) hit encT_size encT_lv encT_less (fun g h => h.elim)
    (fun pre S W => (S = fun g => g = w.heap.size) ∧ Blk W w.heap.size (.cells #[.int .i64 ((pre.length : Int) - 1)] 3) ∧ Lv (fun g => g = w.heap.size) w0 W)
    (fun _ _ _ _ => False) ?hI (fun _ _ _ _ _ h _ => h.elim) (fun g => g = w.heap.size) ⟨rfl, by simpa using HBX.out, Lv.refl _ _⟩ (fun g h => by subst h; rw [HS0.out]; omega)
    (fun S W e h => ⟨Lv.of_ext e, h⟩)
    (fun vs => { tmps := (#[12].zip vs).foldl (fun t (p, v) => t.setIfInBounds p v) #[Value.slice A (List.length a) c, Value.slice B (List.length b) cd, undef, undef, Value.int IntKind.i64 0,
          Value.pointer (some { block := w.heap.size, off := 0 }), Value.slice A (List.length a) c,
          Value.slice B (List.length b) cd, Value.slice A (List.length a) c, Value.slice B (List.length b) cd,
          folF (w.heap.size + 1) (w.heap.size + 1 + 1),
          tabF (w.heap.size + 1 + 1 + 1 + 2) (w.heap.size + 1 + 1 + 1) (w.heap.size + 1 + 1 + 1 + 1), undef, undef,
          undef, undef], defers := [] }) ?assign ?body ?done (fun _ _ _ _ _ _ _ _ h _ => h.elim))
  case hI =>
    rintro pre S W W' ⟨h1, h2, h3⟩ hv
    have n1 : ¬ (False ∨ (w0.heap.size ≤ w.heap.size ∧ NC W w.heap.size)) := fun h => by rcases h with h | h; exact h; have := HS0.out; omega
    exact ⟨h1, h2.lv hv n1, lv_firm (Nat.le_refl _) h3 hv⟩
  case assign =>
    intro l x vs S W K henc hK
    exact wpIn_skip hK
  case body =>
    rintro l pre x vs S W ⟨rfl, hbk, hlv⟩ hle hpx ⟨g, v, rfl, ht, hng⟩
    have hlen : pre.length ≤ D := by have := hpx.length_le; simp [tabsV] at this; omega
    have c0 := hbk.cell 0; have f0 := hbk.free 0
    replace c0 : W.cell? ⟨w.heap.size, 0, none⟩ = some (.int .i64 ((pre.length : Int) - 1)) := c0
    gi_wp2
    refine ⟨_, Lv.setCell (S := fun g => g = w.heap.size) (Lv.refl _ W) (p := ⟨w.heap.size, 0, none⟩) (fun _ => rfl) _, fun g h => .inl h, fun g h => ?_, rfl, ?_, hlv.setCell (p := ⟨w.heap.size, 0, none⟩) (fun _ => rfl) _⟩
    · subst h; have := hbk.lt; simpa using this
    · have := hbk.put 0 (.int .i64 (pre.length : Int))
      simpa using this
  case done =>
    rintro D0 S W hD0 hnS ⟨rfl, hbk, hlv⟩ hdef
    have hlen : (tabsV a b (D + 1)).length = D + 1 := by simp [tabsV]
    rw [hlen] at hbk
    have c0 := hbk.cell 0
    replace c0 : W.cell? ⟨w.heap.size, 0, none⟩ = some (.int .i64 (D : Int)) := by rw [c0]; simp
    clear hbk hlen
    go_wp2_with fail
    refine ⟨by simp, .inl ⟨_, _, rfl, run_takeDeferred hdef, ?_⟩⟩
    refine ⟨_, results_tmp rfl _ _ _, rfl, ?_⟩
    have := hlv.putObj (l := D0) (fun h => absurd h (by omega)) (.deferred none)
    exact this.extBelow HE1.out (fun g hg h => by omega)
end Go.Proofs.YtmmcjcaccicheaaGreatDoor

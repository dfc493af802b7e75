/- Plain laws on commuting hunks, with no program in sight. -/
import Derived.Test.YtilogolnoifigaaCommute
namespace Go.Proofs.Ytilogolnoifigaa

theorem Hk.ext_at {a b : Hk} (h : a.at_ = b.at_) (h1 : a.oa = b.oa) (h2 : a.ol = b.ol) (h3 : a.oc = b.oc) (h4 : a.na = b.na) (h5 : a.nl = b.nl) (h6 : a.nc = b.nc) : a = b := by
  cases a; cases b; simp_all

theorem ok_iff (h : Hk) : h.ok = true ↔ 0 ≤ h.at_ ∧ h.at_ ≤ 1099511627776 ∧ ¬ h.ol + h.nl = 0 := by
  unfold Hk.ok
  simp only [Bool.and_eq_true, decide_eq_true_eq, Bool.not_eq_true', beq_eq_false_iff_ne, ne_eq]
  constructor
  · rintro ⟨⟨h1, h2⟩, h3⟩; exact ⟨h1, h2, h3⟩
  · rintro ⟨h1, h2, h3⟩; exact ⟨⟨h1, h2⟩, h3⟩

/-- What 'commuteV a b = some (y, x)' says. -/
theorem commuteV_some {a b y x : Hk} (h : commuteV a b = some (y, x)) :
    a.ok = true ∧ b.ok = true ∧
    ((a.at_ + a.nl < b.at_ ∧ b.at_ + ((a.ol : Int) - a.nl) ≤ 1099511627776 ∧ y = { b with at_ := b.at_ + ((a.ol : Int) - a.nl) } ∧ x = a) ∨
     (¬ a.at_ + a.nl < b.at_ ∧ b.at_ + b.ol < a.at_ ∧ a.at_ + ((b.nl : Int) - b.ol) ≤ 1099511627776 ∧ y = b ∧ x = { a with at_ := a.at_ + ((b.nl : Int) - b.ol) })) := by
  unfold commuteV at h
  split at h
  · cases h
  · rename_i hok
    simp only [not_or, Bool.not_eq_false] at hok
    refine ⟨hok.1, hok.2, ?_⟩
    split at h
    · rename_i h1
      split at h
      · rename_i h2; cases h; exact .inl ⟨h1, h2, rfl, rfl⟩
      · cases h
    · rename_i h1
      split at h
      · rename_i h2
        split at h
        · rename_i h3; cases h; exact .inr ⟨h1, h2, h3, rfl, rfl⟩
        · cases h
      · cases h

theorem commuteV_left {a b : Hk} (h1 : a.ok = true) (h2 : b.ok = true) (h3 : a.at_ + a.nl < b.at_) (h4 : b.at_ + ((a.ol : Int) - a.nl) ≤ 1099511627776) : commuteV a b = some ({ b with at_ := b.at_ + ((a.ol : Int) - a.nl) }, a) := by
  unfold commuteV; rw [if_neg (by simp [h1, h2]), if_pos h3, if_pos h4]
theorem commuteV_right {a b : Hk} (h1 : a.ok = true) (h2 : b.ok = true) (h0 : ¬ a.at_ + a.nl < b.at_) (h3 : b.at_ + b.ol < a.at_) (h4 : a.at_ + ((b.nl : Int) - b.ol) ≤ 1099511627776) : commuteV a b = some (b, { a with at_ := a.at_ + ((b.nl : Int) - b.ol) }) := by
  unfold commuteV; rw [if_neg (by simp [h1, h2]), if_neg h0, if_pos h3, if_pos h4]

/-- P11.3. -/
theorem commuteV_twice {a b y x : Hk} (h : commuteV a b = some (y, x)) : commuteV y x = some (a, b) := by
  obtain ⟨h1, h2, ⟨h3, h4, rfl, rfl⟩ | ⟨h0, h3, h4, rfl, rfl⟩⟩ := commuteV_some h
  · rw [ok_iff] at h1 h2
    rw [commuteV_right (by rw [ok_iff]; refine ⟨?_, h4, h2.2.2⟩; simp only; omega) (by rw [ok_iff]; exact h1) (by simp only; omega) (by simp only; omega) (by simp only; omega)]
    congr 2
    exact Hk.ext_at (by simp only; omega) rfl rfl rfl rfl rfl rfl
  · rw [ok_iff] at h1 h2
    rw [commuteV_left (by rw [ok_iff]; exact h2) (by rw [ok_iff]; refine ⟨?_, h4, h1.2.2⟩; simp only; omega) (by simp only; omega) (by simp only; omega)]
    congr 2
    exact Hk.ext_at (by simp only; omega) rfl rfl rfl rfl rfl rfl

theorem commuteV_small {a b y x : Hk} (h : commuteV a b = some (y, x)) (ha : a.small) (hb : b.small) : y.small ∧ x.small := by
  obtain ⟨h1, h2, ⟨h3, h4, rfl, rfl⟩ | ⟨h0, h3, h4, rfl, rfl⟩⟩ := commuteV_some h
  · exact ⟨hb, ha⟩
  · exact ⟨hb, ha⟩
end Go.Proofs.Ytilogolnoifigaa

/- Plain laws on commuting hunks, with no program in sight. -/
import Derived.Test.YtilogolnoifigaaCommute
namespace Go.Proofs.Ytilogolnoifigaa

theorem Hk.ext_at {a b : Hk} (h : a.at_ = b.at_) (h1 : a.oa = b.oa) (h2 : a.ol = b.ol) (h3 : a.oc = b.oc) (h4 : a.na = b.na) (h5 : a.nl = b.nl) (h6 : a.nc = b.nc) : a = b := by
  cases a; cases b; simp_all

theorem ok_iff (h : Hk) : h.ok = true ↔ 0 ≤ h.at_ ∧ h.at_ ≤ 1099511627776 ∧ ¬ h.ol + h.nl = 0 := by
  unfold Hk.ok
  simp only [Bool.and_eq_true, decide_eq_true_eq, Bool.not_eq_true', beq_eq_false_iff_ne, ne_eq]
  constructor
  · rintro ⟨⟨h1, h2⟩, h3⟩; exact ⟨h1, h2, h3⟩
  · rintro ⟨h1, h2, h3⟩; exact ⟨⟨h1, h2⟩, h3⟩

/-- What 'commuteV a b = some (y, x)' says. -/
theorem commuteV_some {a b y x : Hk} (h : commuteV a b = some (y, x)) :
    a.ok = true ∧ b.ok = true ∧
    ((a.at_ + a.nl < b.at_ ∧ b.at_ + ((a.ol : Int) - a.nl) ≤ 1099511627776 ∧ y = { b with at_ := b.at_ + ((a.ol : Int) - a.nl) } ∧ x = a) ∨
     (¬ a.at_ + a.nl < b.at_ ∧ b.at_ + b.ol < a.at_ ∧ a.at_ + ((b.nl : Int) - b.ol) ≤ 1099511627776 ∧ y = b ∧ x = { a with at_ := a.at_ + ((b.nl : Int) - b.ol) })) := by
  unfold commuteV at h
  split at h
  · cases h
  · rename_i hok
    simp only [not_or, Bool.not_eq_false] at hok
    refine ⟨hok.1, hok.2, ?_⟩
    split at h
    · rename_i h1
      split at h
      · rename_i h2; cases h; exact .inl ⟨h1, h2, rfl, rfl⟩
      · cases h
    · rename_i h1
      split at h
      · rename_i h2
        split at h
        · rename_i h3; cases h; exact .inr ⟨h1, h2, h3, rfl, rfl⟩
        · cases h
      · cases h

theorem commuteV_left {a b : Hk} (h1 : a.ok = true) (h2 : b.ok = true) (h3 : a.at_ + a.nl < b.at_) (h4 : b.at_ + ((a.ol : Int) - a.nl) ≤ 1099511627776) : commuteV a b = some ({ b with at_ := b.at_ + ((a.ol : Int) - a.nl) }, a) := by
  unfold commuteV; rw [if_neg (by simp [h1, h2]), if_pos h3, if_pos h4]
theorem commuteV_right {a b : Hk} (h1 : a.ok = true) (h2 : b.ok = true) (h0 : ¬ a.at_ + a.nl < b.at_) (h3 : b.at_ + b.ol < a.at_) (h4 : a.at_ + ((b.nl : Int) - b.ol) ≤ 1099511627776) : commuteV a b = some (b, { a with at_ := a.at_ + ((b.nl : Int) - b.ol) }) := by
  unfold commuteV; rw [if_neg (by simp [h1, h2]), if_neg h0, if_pos h3, if_pos h4]

/-- P11.3. -/
theorem commuteV_twice {a b y x : Hk} (h : commuteV a b = some (y, x)) : commuteV y x = some (a, b) := by
  obtain ⟨h1, h2, ⟨h3, h4, rfl, rfl⟩ | ⟨h0, h3, h4, rfl, rfl⟩⟩ := commuteV_some h
  · rw [ok_iff] at h1 h2
    rw [commuteV_right (by rw [ok_iff]; refine ⟨?_, h4, h2.2.2⟩; simp only; omega) (by rw [ok_iff]; exact h1) (by simp only; omega) (by simp only; omega) (by simp only; omega)]
    congr 2
    exact Hk.ext_at (by simp only; omega) rfl rfl rfl rfl rfl rfl
  · rw [ok_iff] at h1 h2
    rw [commuteV_left (by rw [ok_iff]; exact h2) (by rw [ok_iff]; refine ⟨?_, h4, h1.2.2⟩; simp only; omega) (by simp only; omega) (by simp only; omega)]
    congr 2
    exact Hk.ext_at (by simp only; omega) rfl rfl rfl rfl rfl rfl

theorem commuteV_small {a b y x : Hk} (h : commuteV a b = some (y, x)) (ha : a.small) (hb : b.small) : y.small ∧ x.small := by
  obtain ⟨h1, h2, ⟨h3, h4, rfl, rfl⟩ | ⟨h0, h3, h4, rfl, rfl⟩⟩ := commuteV_some h
  · exact ⟨hb, ha⟩
  · exact ⟨hb, ha⟩

/-- Commute's three results. -/
def commuteT (a b : Hk) : Hk × Hk × Bool := match commuteV a b with
  | none => (Hk.zero, Hk.zero, false)
  | some (x, y) => (x, y, true)
theorem commuteT_true {a b x y : Hk} (h : commuteT a b = (x, y, true)) : commuteV a b = some (x, y) := by
  unfold commuteT at h
  split at h
  · cases h
  · rename_i h'; cases h; exact h'
theorem zero_small : Hk.zero.small := ⟨by decide, by decide⟩
theorem commuteT_small {a b x y : Hk} {ok : Bool} (h : commuteT a b = (x, y, ok)) (ha : a.small) (hb : b.small) : x.small ∧ y.small := by
  unfold commuteT at h
  split at h
  · cases h; exact ⟨zero_small, zero_small⟩
  · rename_i h'; cases h; exact commuteV_small h' ha hb

/-- a moved: its lines are a's. -/
def Hk.like (a h : Hk) : Prop := h = { a with at_ := h.at_ }
theorem like_refl (a : Hk) : a.like a := rfl
theorem like_trans {a b c : Hk} (h : a.like b) (k : b.like c) : a.like c := by
  unfold Hk.like at *; rw [k, h]
theorem commuteV_like {a b x y : Hk} (h : commuteV a b = some (y, x)) : b.like y ∧ a.like x := by
  obtain ⟨h1, h2, ⟨h3, h4, rfl, rfl⟩ | ⟨h0, h3, h4, rfl, rfl⟩⟩ := commuteV_some h <;> exact ⟨rfl, rfl⟩
theorem like_eq {a x y : Hk} (h : a.like x) (k : a.like y) (e : x.at_ = y.at_) : x = y := by
  unfold Hk.like at *; rw [h, k, e]

/-- What the places do. -/
theorem commuteV_at {a b x y : Hk} (h : commuteV a b = some (y, x)) :
    (a.at_ + a.nl < b.at_ ∧ y.at_ = b.at_ + ((a.ol : Int) - a.nl) ∧ x.at_ = a.at_) ∨ (b.at_ + b.ol < a.at_ ∧ ¬ a.at_ + a.nl < b.at_ ∧ y.at_ = b.at_ ∧ x.at_ = a.at_ + ((b.nl : Int) - b.ol)) := by
  obtain ⟨h1, h2, ⟨h3, h4, rfl, rfl⟩ | ⟨h0, h3, h4, rfl, rfl⟩⟩ := commuteV_some h
  · exact .inl ⟨h3, rfl, rfl⟩
  · exact .inr ⟨h3, h0, rfl, rfl⟩
theorem like_len {a h : Hk} (k : a.like h) : h.ol = a.ol ∧ h.nl = a.nl := by unfold Hk.like at k; rw [k]; exact ⟨rfl, rfl⟩

/-- P11.5: the places. -/
theorem three_at {a b c a1 b1 a2 c1 b2 c2 c3 b3 a3 c4 a4 b4 : Hk} (h1 : commuteV a b = some (b1, a1)) (h2 : commuteV a1 c = some (c1, a2)) (h3 : commuteV b1 c1 = some (c2, b2))
    (h4 : commuteV b c = some (c3, b3)) (h5 : commuteV a c3 = some (c4, a3)) (h6 : commuteV a3 b3 = some (b4, a4)) : a2 = a4 ∧ b2 = b4 ∧ c2 = c4 := by
  obtain ⟨l1, m1⟩ := commuteV_like h1
  obtain ⟨l2, m2⟩ := commuteV_like h2
  obtain ⟨l3, m3⟩ := commuteV_like h3
  obtain ⟨l4, m4⟩ := commuteV_like h4
  obtain ⟨l5, m5⟩ := commuteV_like h5
  obtain ⟨l6, m6⟩ := commuteV_like h6
  obtain ⟨lb1, nb1⟩ := like_len l1
  obtain ⟨la1, na1⟩ := like_len m1
  obtain ⟨lc1, nc1⟩ := like_len l2
  obtain ⟨lc3, nc3⟩ := like_len l4
  obtain ⟨lb3, nb3⟩ := like_len m4
  obtain ⟨la3, na3⟩ := like_len m5
  have o1 := (ok_iff a).1 (commuteV_some h1).1
  have o2 := (ok_iff b).1 (commuteV_some h1).2.1
  have o3 := (ok_iff c).1 (commuteV_some h4).2.1
  have e1 := commuteV_at h1
  have e2 := commuteV_at h2
  have e3 := commuteV_at h3
  have e4 := commuteV_at h4
  have e5 := commuteV_at h5
  have e6 := commuteV_at h6
  clear h1 h2 h3 h4 h5 h6
  refine ⟨like_eq (like_trans m1 m2) (like_trans m5 m6) ?_, like_eq (like_trans l1 m3) (like_trans m4 l6) ?_, like_eq (like_trans l2 l3) (like_trans l4 l5) ?_⟩ <;>
    (clear l1 m1 l2 m2 l3 m3 l4 m4 l5 m5 l6 m6; rw [lb1, nb1, lc1, nc1] at e3; rw [la1, na1] at e2; rw [lc3, nc3] at e5; rw [la3, na3, lb3, nb3] at e6; omega)

/-- A hunk in the opposite direction. -/
def Hk.inv (h : Hk) : Hk := { at_ := h.at_, oa := h.na, ol := h.nl, oc := h.nc, na := h.oa, nl := h.ol, nc := h.oc }
theorem inv_small {h : Hk} (k : h.small) : h.inv.small := ⟨k.2, k.1⟩

/-- P11.4. -/
theorem commuteV_inv {a b x y : Hk} (h : commuteV a b = some (y, x)) : commuteV a.inv y = some (b, x.inv) := by
  obtain ⟨h1, h2, ⟨h3, h4, rfl, rfl⟩ | ⟨h0, h3, h4, rfl, rfl⟩⟩ := commuteV_some h
  · rw [ok_iff] at h1 h2
    rw [commuteV_left (by rw [ok_iff]; simp only [Hk.inv]; omega) (by rw [ok_iff]; refine ⟨?_, h4, h2.2.2⟩; simp only; omega) (by simp only [Hk.inv]; omega) (by simp only [Hk.inv]; omega)]
    congr 2
    exact Hk.ext_at (by simp only [Hk.inv]; omega) rfl rfl rfl rfl rfl rfl
  · rw [ok_iff] at h1 h2
    rw [commuteV_right (by rw [ok_iff]; simp only [Hk.inv]; omega) (by rw [ok_iff]; exact h2) (by simp only [Hk.inv]; omega) (by simp only [Hk.inv]; omega) (by simp only [Hk.inv]; omega)]
    rfl
end Go.Proofs.Ytilogolnoifigaa

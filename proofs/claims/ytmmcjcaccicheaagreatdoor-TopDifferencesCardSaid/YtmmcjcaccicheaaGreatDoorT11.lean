/- MyCertLaws: parts of the proof of TopDifferences, one text behind the other. No condition. -/
import Derived.Test.YtmmcjcaccicheaaGreatDoorT10
import Derived.Test.YtmmcjcaccicheaaGreatDoorT08
/- The plain laws of certificates. No condition. -/
namespace Go.Proofs.YtmmcjcaccicheaaGreatDoor

theorem rowsV_iff {a b : Lns} {before : List Int} {d : Nat} : ∀ (t : List Int) (i : Nat), rowsV a b before d i t = true ↔ ∀ (j : Nat) (x : Int), t[j]? = some x → rowOk a b before d (i + j) x = true
  | [], i => by simp [rowsV]
  | n :: r, i => by
    simp only [rowsV, Bool.and_eq_true, rowsV_iff r (i + 1)]
    constructor
    · rintro ⟨h1, h2⟩ j x hx
      cases j with
      | zero => obtain rfl : n = x := by simpa using hx
                exact h1
      | succ j => rw [show i + (j + 1) = i + 1 + j by omega]; exact h2 j x (by simpa using hx)
    · intro h
      exact ⟨h 0 n rfl, fun j x hx => by rw [show i + 1 + j = i + (j + 1) by omega]; exact h (j + 1) x (by simpa using hx)⟩

theorem folV_mono {a b : Lns} {k : Int} {s y s' y' : Nat} (h : (s : Int) - k = y) (h' : (s' : Int) - k = y') (hs : s ≤ s') : folV a b s k ≤ folV a b s' k := by
  obtain ⟨j, e1, e2, e3⟩ := folV_spec (a := a) (b := b) h
  obtain ⟨j', f1, f2, f3⟩ := folV_spec (a := a) (b := b) h'
  rw [e1, f1]
  rcases Nat.lt_or_ge (s' + j') (s + j) with hlt | hge
  · have hm := e2 (s' + j' - s) (by omega)
    rw [show s + (s' + j' - s) = s' + j' by omega, show y + (s' + j' - s) = y' + j' by omega] at hm
    rw [hm] at f3; cases f3
  · omega

/-- Each number of t is at least that of the table of d. -/
def Dom (a b : Lns) (d : Nat) (t : List Int) : Prop := t.length = d + 1 ∧ ∀ (i : Nat) (x X : Int), t[i]? = some x → (tabV a b d)[i]? = some X → X ≤ x
theorem atV_both {a b : Lns} {d : Nat} {t : List Int} (h : Dom a b d t) (k : Int) : (atV t k = none ∧ atV (tabV a b d) k = none) ∨ ∃ x X : Int, atV t k = some x ∧ atV (tabV a b d) k = some X ∧ X ≤ x := by
  rcases Classical.em (-(d : Int) ≤ k ∧ k ≤ d ∧ (k + d) % 2 = 0) with hin | hout
  · obtain ⟨h1, h2, h3⟩ := hin
    have hi : ((k + d) / 2).toNat < d + 1 := by omega
    refine .inr ⟨t[((k + d) / 2).toNat]'(by rw [h.1]; exact hi), (tabV a b d)[((k + d) / 2).toNat]'(by rw [tabV_len]; exact hi), ?_, ?_, ?_⟩
    · rw [atV_in h.1 h1 h2 h3, List.getElem?_eq_getElem]
    · rw [atV_in (tabV_len a b d) h1 h2 h3, List.getElem?_eq_getElem]
    · exact h.2 _ _ _ (List.getElem?_eq_getElem _) (List.getElem?_eq_getElem _)
  · exact .inl ⟨atV_out h.1 (by omega), atV_out (tabV_len a b d) (by omega)⟩
theorem step_le_beg {a b : Lns} {d : Nat} {t : List Int} (h : Dom a b d t) (k : Int) : (stepV (tabV a b d) k).1 ≤ begV t k := by
  unfold stepV begV
  rcases atV_both h (k - 1) with ⟨h1, h2⟩ | ⟨p, P, h1, h2, h3⟩ <;> rcases atV_both h (k + 1) with ⟨g1, g2⟩ | ⟨q, Q, g1, g2, g3⟩ <;> simp only [h1, h2, g1, g2]
  · omega
  · exact g3
  · omega
  · split <;> split <;> simp only <;> omega
theorem beg_step (a b : Lns) (d : Nat) (k : Int) : begV (tabV a b d) k = (stepV (tabV a b d) k).1 := by
  unfold stepV begV
  cases h1 : atV (tabV a b d) (k - 1) <;> cases h2 : atV (tabV a b d) (k + 1) <;> simp only
  split <;> split <;> simp only <;> omega

theorem step_nat {a b : Lns} {d : Nat} {k : Int} (h1 : -((d : Int) + 1) ≤ k) (h2 : k ≤ (d : Int) + 1) (h3 : (k + (d + 1)) % 2 = 0) : ∃ s y : Nat, (stepV (tabV a b d) k).1 = (s : Int) ∧ (s : Int) - k = y := by
  have left : (∃ p yp : Nat, atV (tabV a b d) (k - 1) = some (p : Int) ∧ (p : Int) - (k - 1) = yp) ∨ (k - 1 < -(d : Int) ∧ atV (tabV a b d) (k - 1) = none) := by
    by_cases h : -(d : Int) ≤ k - 1
    · obtain ⟨p, h1, yp, h2, _⟩ := tab_far (a := a) (b := b) d (k - 1) h (by omega) (by omega)
      exact .inl ⟨p, yp, h1, h2⟩
    · exact .inr ⟨by omega, atV_out (tabV_len a b d) (by omega)⟩
  have right : (∃ q yq : Nat, atV (tabV a b d) (k + 1) = some (q : Int) ∧ (q : Int) - (k + 1) = yq) ∨ ((d : Int) < k + 1 ∧ atV (tabV a b d) (k + 1) = none) := by
    by_cases h : k + 1 ≤ (d : Int)
    · obtain ⟨p, h1, yp, h2, _⟩ := tab_far (a := a) (b := b) d (k + 1) (by omega) h (by omega)
      exact .inl ⟨p, yp, h1, h2⟩
    · exact .inr ⟨by omega, atV_out (tabV_len a b d) (by omega)⟩
  rcases left with ⟨p, yp, p1, p2⟩ | ⟨l1, l2⟩
  · rcases right with ⟨q, yq, q1, q2⟩ | ⟨r1, r2⟩
    · by_cases hpq : (p : Int) < q
      · exact ⟨q, yq + 1, by simp only [stepV, p1, q1, if_pos hpq], by omega⟩
      · exact ⟨p + 1, yp, by simp only [stepV, p1, q1, if_neg hpq]; rfl, by omega⟩
    · exact ⟨p + 1, yp, by simp only [stepV, p1, r2]; rfl, by omega⟩
  · rcases right with ⟨q, yq, q1, q2⟩ | ⟨r1, r2⟩
    · exact ⟨q, yq + 1, by simp only [stepV, l2, q1], by omega⟩
    · omega

theorem tab_get (a b : Lns) (d i : Nat) (hi : i < d + 2) : (tabV a b (d + 1))[i]? = some (folV a b (stepV (tabV a b d) (2 * (i : Int) - ((d + 1 : Nat) : Int))).1 (2 * (i : Int) - ((d + 1 : Nat) : Int))) := by
  rw [tabV, nextV, List.getElem?_map, List.getElem?_range (by rw [tabV_len]; exact hi)]
  simp only [Option.map_some, tabV_len]

/-- The conditions make each table at least as great. -/
theorem dom_next {a b : Lns} {before t : List Int} {d : Nat} (hb : d = 0 ∨ Dom a b (d - 1) before) (ht : t.length = d + 1) (hr : rowsV a b before d 0 t = true) : Dom a b d t := by
  refine ⟨ht, fun i x X hx hX => ?_⟩
  have hrow := (rowsV_iff t 0).1 hr i x hx
  have hi : i < d + 1 := by rw [← ht]; exact (List.getElem?_eq_some_iff.1 hx).1
  rw [Nat.zero_add] at hrow
  simp only [rowOk, Bool.and_eq_true, decide_eq_true_eq] at hrow
  obtain ⟨_, _, hfol⟩ := hrow
  cases d with
  | zero =>
    obtain rfl : i = 0 := by omega
    have h0 : (tabV a b 0)[0]? = some (folV a b 0 0) := rfl
    rw [h0] at hX
    obtain rfl : folV a b 0 0 = X := by simpa using hX
    simpa using hfol
  | succ e =>
    rcases hb with hb | hb
    · omega
    · simp only [Nat.add_sub_cancel] at hb
      rw [if_neg (by omega)] at hfol
      rw [tab_get a b e i hi] at hX
      obtain rfl := Option.some.inj hX
      obtain ⟨s, y, hs, hsy⟩ := step_nat (a := a) (b := b) (d := e) (k := 2 * (i : Int) - ((e + 1 : Nat) : Int)) (by omega) (by omega) (by omega)
      have hle := step_le_beg hb (2 * (i : Int) - ((e + 1 : Nat) : Int))
      rw [hs] at hle ⊢
      obtain ⟨s', hs'⟩ : ∃ s' : Nat, begV before (2 * (i : Int) - ((e + 1 : Nat) : Int)) = s' := ⟨(begV before (2 * (i : Int) - ((e + 1 : Nat) : Int))).toNat, by omega⟩
      rw [hs'] at hle hfol
      obtain ⟨y', hy'⟩ : ∃ y' : Nat, (s' : Int) - (2 * (i : Int) - ((e + 1 : Nat) : Int)) = y' := ⟨((s' : Int) - (2 * (i : Int) - ((e + 1 : Nat) : Int))).toNat, by omega⟩
      exact Int.le_trans (folV_mono hsy hy' (by omega)) hfol

theorem cert_len {a b : Lns} : ∀ (ts : List (List Int)) (before : List Int) (d : Nat), certV a b before d ts = true → (d = 0 ∨ Dom a b (d - 1) before) → d ≤ dist a b → d + ts.length ≤ dist a b
  | [], _, d, _, _, h => by simpa using h
  | t :: r, before, d, h, hb, hd => by
    simp only [certV, Bool.and_eq_true, decide_eq_true_eq] at h
    obtain ⟨h1, h2, h3, h4⟩ := h
    have hdom := dom_next hb h1 h2
    have hne : d ≠ dist a b := by
      intro he
      have hl := tab_last a b
      rw [← he] at hl
      rcases atV_both hdom ((a.length : Int) - b.length) with ⟨_, h6⟩ | ⟨x, X, h6, h7, h8⟩
      · rw [h6] at hl; cases hl
      · rw [h7] at hl
        obtain rfl : X = a.length := by simpa using hl
        rw [endOk, h6] at h3
        simp at h3; omega
    have := cert_len r t (d + 1) h4 (.inr (by simpa using hdom)) (by omega)
    rw [List.length_cons]; omega
/-- Tables that satisfy the conditions are a bound. -/
theorem cert_bound {a b : Lns} {ts : List (List Int)} (h : certV a b [] 0 ts = true) : ts.length ≤ dist a b := by
  have := cert_len ts [] 0 h (.inl rfl) (Nat.zero_le _)
  omega

theorem tab_rows (a b : Lns) (d : Nat) : rowsV a b (if d = 0 then [] else tabV a b (d - 1)) d 0 (tabV a b d) = true := by
  rw [rowsV_iff]
  intro j x hx
  have hb := tabV_bound a b d x (List.mem_of_getElem? hx)
  have hj : j < d + 1 := by rw [← tabV_len a b d]; exact (List.getElem?_eq_some_iff.1 hx).1
  rw [Nat.zero_add, rowOk]
  simp only [Bool.and_eq_true, decide_eq_true_eq]
  refine ⟨hb.1, hb.2, ?_⟩
  cases d with
  | zero =>
    obtain rfl : j = 0 := by omega
    have h0 : (tabV a b 0)[0]? = some (folV a b 0 0) := rfl
    rw [h0] at hx
    obtain rfl := Option.some.inj hx
    simp
  | succ e =>
    rw [if_neg (by omega), if_neg (by omega), Nat.add_sub_cancel, beg_step]
    rw [tab_get a b e j hj] at hx
    obtain rfl := Option.some.inj hx
    exact Int.le_refl _
theorem tab_endOk {a b : Lns} {d : Nat} (h : d < dist a b) : endOk a b (tabV a b d) = true := by
  unfold endOk
  split
  · rfl
  · rename_i n hn
    have := tab_end hn
    simp; omega
theorem cert_from (a b : Lns) : ∀ (k d : Nat), d + k ≤ dist a b → certV a b (if d = 0 then [] else tabV a b (d - 1)) d ((List.range' d k).map (tabV a b)) = true
  | 0, d, _ => rfl
  | k + 1, d, h => by
    rw [List.range'_succ, List.map_cons, certV, tab_rows, tab_endOk (by omega), decide_eq_true (tabV_len a b d)]
    have := cert_from a b k (d + 1) (by omega)
    simpa using this
/-- The tables before the last one are a bound. -/
theorem cert_tabs (a b : Lns) : certV a b [] 0 (tabsV a b (dist a b)) = true := by
  have := cert_from a b (dist a b) 0 (by omega)
  rw [tabsV, List.range_eq_range']
  exact this
end Go.Proofs.YtmmcjcaccicheaaGreatDoor

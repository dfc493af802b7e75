/- The words of a line, in plain Lean. No condition. -/
import Derived.Test.YtmmppfopokbcfaaMyDefs
namespace Go.Proofs.Ytmmppfopokbcfaa

abbrev Bs := List UInt8
/-- A string with these bytes. -/
def mkS (l : Bs) : ByteArray := ⟨l.toArray⟩
theorem mkS_data (l : Bs) : (mkS l).data.toList = l := rfl
theorem mkS_of (s : ByteArray) : mkS s.data.toList = s := by obtain ⟨⟨l⟩⟩ := s; rfl
theorem mkS_size (l : Bs) : (mkS l).size = l.length := rfl
theorem mkS_inj {k l : Bs} (h : mkS k = mkS l) : k = l := by
  have := congrArg (fun s : ByteArray => s.data.toList) h
  exact this
theorem size_len (s : ByteArray) : s.size = s.data.toList.length := by obtain ⟨⟨l⟩⟩ := s; rfl

/-- The kind of a byte: 1 for a byte of a word, 2 for a space, 0 for others. -/
def wordB (c : UInt8) : Bool := (decide (97 ≤ c.toNat) && decide (c.toNat ≤ 122)) || (decide (65 ≤ c.toNat) && decide (c.toNat ≤ 90)) || (decide (48 ≤ c.toNat) && decide (c.toNat ≤ 57)) || decide (c.toNat = 95) || decide (128 ≤ c.toNat)
def spaceB (c : UInt8) : Bool := decide (c.toNat = 32)
def kd (c : UInt8) : Nat := if wordB c then 1 else if spaceB c then 2 else 0
theorem word_space {c : UInt8} (h : wordB c = true) : spaceB c = false := by
  unfold wordB at h; unfold spaceB
  simp only [Bool.or_eq_true, Bool.and_eq_true, decide_eq_true_eq, decide_eq_false_iff_not] at *
  omega

/-- How many bytes at the beginning are of a kind. -/
def tw (p : UInt8 → Bool) (l : Bs) : Nat := (l.takeWhile p).length
/-- How long the first word is. -/
def wlen (l : Bs) : Nat := max (max 1 (tw wordB l)) (tw spaceB l)
def wordsF : Nat → Bs → List Bs
  | 0, _ => []
  | _ + 1, [] => []
  | f + 1, c :: t => (c :: t).take (wlen (c :: t)) :: wordsF f ((c :: t).drop (wlen (c :: t)))
def wordsL (l : Bs) : List Bs := wordsF l.length l
/-- The words of a line. -/
def wordsV (s : ByteArray) : Lns := (wordsL s.data.toList).map mkS

theorem tw_le (p : UInt8 → Bool) (l : Bs) : tw p l ≤ l.length := (List.takeWhile_prefix p).length_le
theorem wlen_pos (l : Bs) : 1 ≤ wlen l := by unfold wlen; omega
theorem wlen_le {l : Bs} (h : l ≠ []) : wlen l ≤ l.length := by
  have := List.length_pos_iff.2 h
  have := tw_le wordB l
  have := tw_le spaceB l
  unfold wlen; omega
theorem wordsF_enough : ∀ (f : Nat) (l : Bs), l.length ≤ f → wordsF f l = wordsL l := by
  suffices h : ∀ (n f g : Nat) (l : Bs), l.length ≤ n → l.length ≤ f → l.length ≤ g → wordsF f l = wordsF g l from
    fun f l hf => h l.length f l.length l (Nat.le_refl _) hf (Nat.le_refl _)
  intro n
  induction n with
  | zero =>
    intro f g l hn hf hg
    obtain rfl : l = [] := List.length_eq_zero_iff.1 (by omega)
    cases f <;> cases g <;> rfl
  | succ n ih =>
    intro f g l hn hf hg
    cases l with
    | nil => cases f <;> cases g <;> rfl
    | cons c t =>
      have h1 := wlen_pos (c :: t)
      simp only [List.length_cons] at hn hf hg
      obtain ⟨f, rfl⟩ : ∃ k, f = k + 1 := ⟨f - 1, by omega⟩
      obtain ⟨g, rfl⟩ : ∃ k, g = k + 1 := ⟨g - 1, by omega⟩
      show _ :: _ = _ :: _
      rw [ih f g ((c :: t).drop (wlen (c :: t))) (by simp only [List.length_drop, List.length_cons]; omega) (by simp only [List.length_drop, List.length_cons]; omega) (by simp only [List.length_drop, List.length_cons]; omega)]
theorem wordsL_nil : wordsL [] = [] := rfl
theorem wordsL_step {l : Bs} (h : l ≠ []) : wordsL l = l.take (wlen l) :: wordsL (l.drop (wlen l)) := by
  cases l with
  | nil => exact absurd rfl h
  | cons c t =>
    have h1 := wlen_pos (c :: t)
    have : wordsL (c :: t) = (c :: t).take (wlen (c :: t)) :: wordsF t.length ((c :: t).drop (wlen (c :: t))) := rfl
    rw [this, wordsF_enough _ _ (by simp only [List.length_drop, List.length_cons]; omega)]

/-! ### A word is a longest run -/
def hk : Bs → Nat
  | [] => 3
  | c :: _ => kd c
/-- How long the run of the first byte's kind is. -/
def rlen : Bs → Nat
  | [] => 0
  | c :: t => if kd c = 0 then 1 else 1 + tw (fun x => decide (kd x = kd c)) t
theorem wordB_kd (c : UInt8) : wordB c = decide (kd c = 1) := by
  unfold kd
  cases wordB c <;> cases spaceB c <;> simp
theorem spaceB_kd (c : UInt8) : spaceB c = decide (kd c = 2) := by
  unfold kd
  cases h : wordB c
  · cases spaceB c <;> simp
  · rw [word_space h]; simp
theorem kd_lt (c : UInt8) : kd c < 3 := by
  unfold kd
  split
  · omega
  · split <;> omega
theorem wlen_rlen {l : Bs} (h : l ≠ []) : wlen l = rlen l := by
  cases l with
  | nil => exact absurd rfl h
  | cons c t =>
    have e1 : wordB = fun x => decide (kd x = 1) := funext wordB_kd
    have e2 : spaceB = fun x => decide (kd x = 2) := funext spaceB_kd
    have hc := kd_lt c
    unfold wlen rlen tw
    rw [e1, e2]
    by_cases h0 : kd c = 0
    · simp [h0]
    by_cases h1 : kd c = 1
    · simp [h1]; omega
    · have h2 : kd c = 2 := by omega
      simp [h2]; omega
theorem tw_app {p : UInt8 → Bool} {k l : Bs} (hk : ∀ x ∈ k, p x = true) (hl : l = [] ∨ ∃ c t, l = c :: t ∧ p c = false) : tw p (k ++ l) = k.length := by
  unfold tw
  rw [List.takeWhile_append_of_pos hk]
  rcases hl with rfl | ⟨c, t, rfl, h⟩
  · simp
  · simp [h]
theorem tw_take (p : UInt8 → Bool) (l : Bs) : l.take (tw p l) = l.takeWhile p := by
  induction l with
  | nil => rfl
  | cons c t ih =>
    unfold tw at *
    cases h : p c
    · simp [h]
    · simp [h, ih]
theorem tw_drop (p : UInt8 → Bool) (l : Bs) : l.drop (tw p l) = [] ∨ ∃ c t, l.drop (tw p l) = c :: t ∧ p c = false := by
  induction l with
  | nil => exact .inl rfl
  | cons c t ih =>
    unfold tw at *
    cases h : p c
    · exact .inr ⟨c, t, by simp [h], h⟩
    · simpa [h] using ih

/-- Bytes of one run. -/
def Run1 (w : Bs) : Prop := ∃ c t, w = c :: t ∧ (kd c = 0 → t = []) ∧ ∀ x ∈ t, kd x = kd c
/-- Words as they stand in a line. -/
def Good : List Bs → Prop
  | [] => True
  | [w] => Run1 w
  | w :: v :: r => Run1 w ∧ (hk w = 0 ∨ hk v ≠ hk w) ∧ Good (v :: r)
theorem Good.head {w : Bs} {r : List Bs} (h : Good (w :: r)) : Run1 w := by
  cases r with
  | nil => exact h
  | cons v r => exact h.1
theorem Good.tail {w : Bs} {r : List Bs} (h : Good (w :: r)) : Good r := by
  cases r with
  | nil => trivial
  | cons v r => exact h.2.2
theorem Good.drop {l : List Bs} (h : Good l) : ∀ n, Good (l.drop n) := by
  intro n
  induction n generalizing l with
  | zero => simpa using h
  | succ n ih =>
    cases l with
    | nil => simpa using h
    | cons w r => exact ih h.tail
theorem Good.take : ∀ {l : List Bs} (_ : Good l) (n : Nat), Good (l.take n)
  | [], _, n => by simp [Good]
  | _, _, 0 => by simp [Good]
  | [w], h, n + 1 => by simpa using h
  | w :: v :: r, h, 1 => by simpa [Good] using h.1
  | w :: v :: r, h, n + 2 => by
    have := h.2.2.take (n + 1)
    simp only [List.take_succ_cons] at this ⊢
    exact ⟨h.1, h.2.1, this⟩
theorem Run1.ne {w : Bs} (h : Run1 w) : w ≠ [] := by obtain ⟨c, t, rfl, _⟩ := h; simp
theorem hk_app {w r : Bs} (h : w ≠ []) : hk (w ++ r) = hk w := by
  cases w with
  | nil => exact absurd rfl h
  | cons c t => rfl
theorem rlen_run {w r : Bs} (h : Run1 w) (hr : r = [] ∨ hk w = 0 ∨ hk r ≠ hk w) : rlen (w ++ r) = w.length := by
  obtain ⟨c, t, rfl, h1, h2⟩ := h
  show (if kd c = 0 then 1 else 1 + tw (fun x => decide (kd x = kd c)) (t ++ r)) = t.length + 1
  by_cases h0 : kd c = 0
  · rw [if_pos h0, h1 h0]; rfl
  · rw [if_neg h0, tw_app (fun x hx => by simp [h2 x hx])]
    · omega
    · rcases hr with rfl | hr | hr
      · exact .inl rfl
      · exact absurd hr h0
      · cases r with
        | nil => exact .inl rfl
        | cons d s => exact .inr ⟨d, s, rfl, by simpa [hk] using hr⟩
theorem Good.join_hk {v : Bs} {r : List Bs} (h : Good (v :: r)) : hk ((v :: r).flatten) = hk v := by
  rw [List.flatten_cons, hk_app h.head.ne]
/-- The words of words that stand so are these. -/
theorem words_join : ∀ {l : List Bs} (_ : Good l), wordsL l.flatten = l
  | [], _ => rfl
  | w :: r, h => by
    have hw := h.head
    have h1 : (w :: r).flatten ≠ [] := by
      rw [List.flatten_cons]; intro e; exact hw.ne (List.append_eq_nil_iff.1 e).1
    have h2 : wlen ((w :: r).flatten) = w.length := by
      rw [wlen_rlen h1, List.flatten_cons]
      apply rlen_run hw
      cases r with
      | nil => exact .inl rfl
      | cons v r =>
        rw [h.tail.join_hk]
        exact .inr h.2.1
    rw [wordsL_step h1, h2, List.flatten_cons, List.take_left', List.drop_left', words_join h.tail] <;> rfl
theorem wordsL_run {l : Bs} (h : l ≠ []) : Run1 (l.take (wlen l)) ∧ (l.drop (wlen l) = [] ∨ hk (l.take (wlen l)) = 0 ∨ hk (l.drop (wlen l)) ≠ hk (l.take (wlen l))) := by
  rw [wlen_rlen h]
  cases l with
  | nil => exact absurd rfl h
  | cons c t =>
    by_cases h0 : kd c = 0
    · have : rlen (c :: t) = 1 := by simp [rlen, h0]
      rw [this]
      exact ⟨⟨c, [], rfl, fun _ => rfl, by simp⟩, .inr (.inl h0)⟩
    · have : rlen (c :: t) = tw (fun x => decide (kd x = kd c)) t + 1 := by simp [rlen, h0]; omega
      rw [this, List.take_succ_cons, List.drop_succ_cons, tw_take]
      refine ⟨⟨c, _, rfl, fun e => absurd e h0, fun x hx => ?_⟩, ?_⟩
      · have := List.all_takeWhile (p := fun x => decide (kd x = kd c)) (l := t)
        rw [List.all_eq_true] at this
        simpa using this x hx
      · rcases tw_drop (fun x => decide (kd x = kd c)) t with e | ⟨d, s, e, hd⟩
        · exact .inl e
        · rw [e]; exact .inr (.inr (by simpa [hk] using hd))
theorem good_words : ∀ (n : Nat) (l : Bs), l.length ≤ n → Good (wordsL l)
  | 0, l, h => by
    obtain rfl : l = [] := List.length_eq_zero_iff.1 (by omega)
    exact trivial
  | n + 1, l, h => by
    by_cases hl : l = []
    · subst hl; exact trivial
    have h1 := wlen_pos l
    obtain ⟨h2, h3⟩ := wordsL_run hl
    rw [wordsL_step hl]
    have ih := good_words n (l.drop (wlen l)) (by simp only [List.length_drop]; have := List.length_pos_iff.2 hl; omega)
    by_cases hd : l.drop (wlen l) = []
    · rw [hd, wordsL_nil]; exact h2
    · rw [wordsL_step hd] at ih ⊢
      refine ⟨h2, ?_, ih⟩
      rcases h3 with h3 | h3
      · exact absurd h3 hd
      · have h4 := wlen_pos (l.drop (wlen l))
        have : hk ((l.drop (wlen l)).take (wlen (l.drop (wlen l)))) = hk (l.drop (wlen l)) := by
          generalize l.drop (wlen l) = r at *
          cases r with
          | nil => exact absurd rfl hd
          | cons d s =>
            obtain ⟨k, hk'⟩ : ∃ k, wlen (d :: s) = k + 1 := ⟨wlen (d :: s) - 1, by omega⟩
            rw [hk']; rfl
        rw [this]; exact h3
theorem words_good (l : Bs) : Good (wordsL l) := good_words l.length l (Nat.le_refl _)
theorem words_flat : ∀ (n : Nat) (l : Bs), l.length ≤ n → (wordsL l).flatten = l
  | 0, l, h => by
    obtain rfl : l = [] := List.length_eq_zero_iff.1 (by omega)
    rfl
  | n + 1, l, h => by
    by_cases hl : l = []
    · subst hl; rfl
    have h1 := wlen_pos l
    rw [wordsL_step hl, List.flatten_cons, words_flat n _ (by simp only [List.length_drop]; have := List.length_pos_iff.2 hl; omega), List.take_append_drop]
theorem words_back (l : Bs) : (wordsL l).flatten = l := words_flat l.length l (Nat.le_refl _)
theorem words_len : ∀ (n : Nat) (l : Bs), l.length ≤ n → (wordsL l).length ≤ l.length
  | 0, l, h => by
    obtain rfl : l = [] := List.length_eq_zero_iff.1 (by omega)
    exact Nat.le_refl _
  | n + 1, l, h => by
    by_cases hl : l = []
    · subst hl; exact Nat.le_refl _
    have h1 := wlen_pos l
    have h0 := List.length_pos_iff.2 hl
    have := words_len n (l.drop (wlen l)) (by simp only [List.length_drop]; omega)
    rw [wordsL_step hl, List.length_cons]
    simp only [List.length_drop] at this
    omega
theorem words_few (s : ByteArray) : (wordsV s).length ≤ s.size := by
  rw [wordsV, List.length_map, size_len]; exact words_len _ _ (Nat.le_refl _)

/-! ### Strings one after the other -/
def joinV (l : Lns) : ByteArray := mkS (l.map fun s => s.data.toList).flatten
theorem join_words (s : ByteArray) : joinV (wordsV s) = s := by
  unfold joinV wordsV
  rw [List.map_map, show ((fun s : ByteArray => s.data.toList) ∘ mkS) = id from rfl, List.map_id, words_back, mkS_of]
/-- The words of neighbouring words, joined, are these. -/
theorem words_part (s : ByteArray) (i n : Nat) : wordsV (joinV (((wordsV s).drop i).take n)) = ((wordsV s).drop i).take n := by
  unfold joinV wordsV
  rw [mkS_data, ← List.map_drop, ← List.map_take, List.map_map, show ((fun s : ByteArray => s.data.toList) ∘ mkS) = id from rfl, List.map_id, words_join (((words_good _).drop i).take n)]
theorem words_ne (s : ByteArray) : ∀ x ∈ wordsV s, x.size ≠ 0 := by
  intro x hx
  obtain ⟨w, hw, rfl⟩ := List.mem_map.1 hx
  rw [mkS_size]
  have h := words_good s.data.toList
  generalize wordsL s.data.toList = l at h hw
  induction l with
  | nil => cases hw
  | cons v r ih =>
    rcases List.mem_cons.1 hw with rfl | hw
    · exact fun e => h.head.ne (List.length_eq_zero_iff.1 e)
    · exact ih h.tail hw
end Go.Proofs.Ytmmppfopokbcfaa

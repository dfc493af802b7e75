/- The text of pieces and its two readers, in plain Lean. No condition. -/
import Derived.Test.YtmmppfopokbcfaaTkPieces
namespace Go.Proofs.Ytmmppfopokbcfaa

/-- A byte that is quoted. -/
def spc (c : UInt8) : Bool := decide (c.toNat = 92) || decide (c.toNat = 91) || decide (c.toNat = 93) || decide (c.toNat = 123) || decide (c.toNat = 125)
def quoteL (l : Bs) : Bs := l.flatMap fun c => if spc c then [92, c] else [c]
theorem quote_app (k l : Bs) : quoteL (k ++ l) = quoteL k ++ quoteL l := by simp [quoteL]
theorem quote_cons (c : UInt8) (l : Bs) : quoteL (c :: l) = (if spc c then [92, c] else [c]) ++ quoteL l := by simp [quoteL]
theorem quote_len (l : Bs) : l.length ≤ (quoteL l).length ∧ (quoteL l).length ≤ 2 * l.length := by
  induction l with
  | nil => exact ⟨Nat.le_refl _, Nat.le_refl _⟩
  | cons c l ih =>
    rw [quote_cons, List.length_append, List.length_cons]
    split <;> simp only [List.length_cons, List.length_nil] <;> omega
def lead (k : Int) : Bs := if k = 1 then [91, 45] else if k = 2 then [123, 43] else []
def trail (k : Int) : Bs := if k = 1 then [45, 93] else if k = 2 then [43, 125] else []
def rendL (l : List Pc) : Bs := l.flatMap fun x => lead x.k ++ quoteL x.t.data.toList ++ trail x.k
theorem rend_cons (x : Pc) (l : List Pc) : rendL (x :: l) = lead x.k ++ quoteL x.t.data.toList ++ trail x.k ++ rendL l := by simp [rendL]
theorem rend_app (k l : List Pc) : rendL (k ++ l) = rendL k ++ rendL l := by simp [rendL]

/-! ### The program's reader -/
/-- A text up to a special byte, and what is behind it. -/
def textL : Bs → Bs × Bs
  | [] => ([], [])
  | [c] => if spc c then ([], [c]) else ([c], [])
  | c :: d :: r => if c = 92 then (d :: (textL r).1, (textL r).2) else if spc c then ([], c :: d :: r) else (c :: (textL (d :: r)).1, (textL (d :: r)).2)
/-- Which bracket opens. -/
def opn (q : Bs) : Int := if [91, 45] <+: q then 1 else if [123, 43] <+: q then 2 else 0
def endc (k : Int) : UInt8 := if k = 1 then 45 else 43
def closec (k : Int) : UInt8 := if k = 1 then 93 else 125
/-- What outside adds. -/
def preV (t : Bs) : List Pc := if t = [] then [] else [⟨0, mkS t⟩]
def pF : Nat → Bs → Option (List Pc)
  | 0, _ => none
  | f + 1, s =>
    if (textL s).2 = [] then some (preV (textL s).1)
    else if opn (textL s).2 = 0 then none
    else if (textL ((textL s).2.drop 2)).1.getLast? = some (endc (opn (textL s).2)) ∧ (textL ((textL s).2.drop 2)).2.head? = some (closec (opn (textL s).2)) then
      (pF f ((textL ((textL s).2.drop 2)).2.drop 1)).map fun l => preV (textL s).1 ++ ⟨opn (textL s).2, mkS (textL ((textL s).2.drop 2)).1.dropLast⟩ :: l
    else none

theorem textL_le : ∀ l : Bs, (textL l).2.length ≤ l.length ∧ (textL l).1.length + (textL l).2.length ≤ l.length
  | [] => ⟨Nat.le_refl _, Nat.le_refl _⟩
  | [c] => by unfold textL; split <;> simp
  | c :: d :: r => by
    have h1 := textL_le r
    have h2 := textL_le (d :: r)
    rw [textL]
    split
    · simp only [List.length_cons]; omega
    · split
      · simp
      · simp only [List.length_cons] at h2 ⊢; omega
theorem opn_len {q : Bs} (h : opn q ≠ 0) : 2 ≤ q.length := by
  unfold opn at h
  by_cases h1 : [91, 45] <+: q
  · simpa using h1.length_le
  by_cases h2 : [123, 43] <+: q
  · simpa using h2.length_le
  rw [if_neg h1, if_neg h2] at h
  exact absurd rfl h
theorem opn_or (q : Bs) : opn q = 0 ∨ opn q = 1 ∨ opn q = 2 := by
  unfold opn
  split
  · simp
  · split <;> simp
theorem pF_enough : ∀ (n f g : Nat) (s : Bs), s.length ≤ n → s.length < f → s.length < g → pF f s = pF g s := by
  intro n
  induction n with
  | zero =>
    intro f g s hn hf hg
    obtain rfl : s = [] := List.length_eq_zero_iff.1 (by omega)
    obtain ⟨f, rfl⟩ : ∃ k, f = k + 1 := ⟨f - 1, by simp at hf; omega⟩
    obtain ⟨g, rfl⟩ : ∃ k, g = k + 1 := ⟨g - 1, by simp at hg; omega⟩
    rfl
  | succ n ih =>
    intro f g s hn hf hg
    obtain ⟨f, rfl⟩ : ∃ k, f = k + 1 := ⟨f - 1, by omega⟩
    obtain ⟨g, rfl⟩ : ∃ k, g = k + 1 := ⟨g - 1, by omega⟩
    rw [pF, pF]
    by_cases h1 : (textL s).2 = []
    · rw [if_pos h1, if_pos h1]
    by_cases h2 : opn (textL s).2 = 0
    · rw [if_neg h1, if_neg h1, if_pos h2, if_pos h2]
    have l1 := (textL_le s).1
    have l2 := opn_len h2
    have l3 := (textL_le ((textL s).2.drop 2)).1
    simp only [List.length_drop] at l3
    rw [ih f g ((textL ((textL s).2.drop 2)).2.drop 1) (by simp only [List.length_drop]; omega) (by simp only [List.length_drop]; omega) (by simp only [List.length_drop]; omega)]
def pG (s : Bs) : Option (List Pc) := pF (s.length + 1) s
theorem pG_step (s : Bs) : pG s =
    if (textL s).2 = [] then some (preV (textL s).1)
    else if opn (textL s).2 = 0 then none
    else if (textL ((textL s).2.drop 2)).1.getLast? = some (endc (opn (textL s).2)) ∧ (textL ((textL s).2.drop 2)).2.head? = some (closec (opn (textL s).2)) then
      (pG ((textL ((textL s).2.drop 2)).2.drop 1)).map fun l => preV (textL s).1 ++ ⟨opn (textL s).2, mkS (textL ((textL s).2.drop 2)).1.dropLast⟩ :: l
    else none := by
  unfold pG
  rw [pF]
  by_cases h1 : (textL s).2 = []
  · rw [if_pos h1, if_pos h1]
  by_cases h2 : opn (textL s).2 = 0
  · rw [if_neg h1, if_neg h1, if_pos h2, if_pos h2]
  have l1 := (textL_le s).1
  have l2 := opn_len h2
  have l3 := (textL_le ((textL s).2.drop 2)).1
  simp only [List.length_drop] at l3
  rw [pF_enough s.length s.length ((List.drop 1 (textL ((textL s).2.drop 2)).2).length + 1) _ (by simp only [List.length_drop]; omega) (by simp only [List.length_drop]; omega) (by omega)]

/-! ### The reference's reader -/
def partL : Bs → Bs × Nat
  | [] => ([], 0)
  | [c] => if spc c then ([], 0) else ([c], 1)
  | c :: d :: r => if c = 92 then (if spc d then (d :: (partL r).1, (partL r).2 + 2) else ([], 0)) else if spc c then ([], 0) else (c :: (partL (d :: r)).1, (partL (d :: r)).2 + 1)
def rF : Nat → Bs → Option (List Pc)
  | 0, _ => none
  | f + 1, s =>
    if s = [] then some []
    else if opn s = 0 then
      (if (partL s).2 = 0 then none else (rF f (s.drop (partL s).2)).map fun l => ⟨0, mkS (partL s).1⟩ :: l)
    else if (partL (s.drop 2)).1 = [] ∨ (s.drop 2).drop (partL (s.drop 2)).2 = [] ∨ ((s.drop 2).drop (partL (s.drop 2)).2).head? ≠ some (closec (opn s)) ∨ (s.drop 2)[(partL (s.drop 2)).2 - 1]? ≠ some (endc (opn s)) then none
    else (rF f (((s.drop 2).drop (partL (s.drop 2)).2).drop 1)).map fun l => ⟨opn s, mkS (partL (s.drop 2)).1.dropLast⟩ :: l
theorem partL_le : ∀ l : Bs, (partL l).2 ≤ l.length ∧ (partL l).1.length ≤ (partL l).2
  | [] => ⟨Nat.le_refl _, Nat.le_refl _⟩
  | [c] => by unfold partL; split <;> simp
  | c :: d :: r => by
    have h1 := partL_le r
    have h2 := partL_le (d :: r)
    rw [partL]
    split
    · split
      · simp only [List.length_cons]; omega
      · simp
    · split
      · simp
      · simp only [List.length_cons] at h2 ⊢; omega
theorem rF_enough : ∀ (n f g : Nat) (s : Bs), s.length ≤ n → s.length < f → s.length < g → rF f s = rF g s := by
  intro n
  induction n with
  | zero =>
    intro f g s hn hf hg
    obtain rfl : s = [] := List.length_eq_zero_iff.1 (by omega)
    obtain ⟨f, rfl⟩ : ∃ k, f = k + 1 := ⟨f - 1, by simp at hf; omega⟩
    obtain ⟨g, rfl⟩ : ∃ k, g = k + 1 := ⟨g - 1, by simp at hg; omega⟩
    rfl
  | succ n ih =>
    intro f g s hn hf hg
    obtain ⟨f, rfl⟩ : ∃ k, f = k + 1 := ⟨f - 1, by omega⟩
    obtain ⟨g, rfl⟩ : ∃ k, g = k + 1 := ⟨g - 1, by omega⟩
    rw [rF, rF]
    by_cases h1 : s = []
    · rw [if_pos h1, if_pos h1]
    have h0 := List.length_pos_iff.2 h1
    by_cases h2 : opn s = 0
    · rw [if_neg h1, if_neg h1, if_pos h2, if_pos h2]
      by_cases h3 : (partL s).2 = 0
      · rw [if_pos h3, if_pos h3]
      rw [ih f g (s.drop (partL s).2) (by simp only [List.length_drop]; omega) (by simp only [List.length_drop]; omega) (by simp only [List.length_drop]; omega)]
    · have l2 := opn_len h2
      rw [if_neg h1, if_neg h1, if_neg h2, if_neg h2, ih f g (((s.drop 2).drop (partL (s.drop 2)).2).drop 1) (by simp only [List.length_drop]; omega) (by simp only [List.length_drop]; omega) (by simp only [List.length_drop]; omega)]
def rG (s : Bs) : Option (List Pc) := rF (s.length + 1) s
theorem rG_step (s : Bs) : rG s =
    if s = [] then some []
    else if opn s = 0 then
      (if (partL s).2 = 0 then none else (rG (s.drop (partL s).2)).map fun l => ⟨0, mkS (partL s).1⟩ :: l)
    else if (partL (s.drop 2)).1 = [] ∨ (s.drop 2).drop (partL (s.drop 2)).2 = [] ∨ ((s.drop 2).drop (partL (s.drop 2)).2).head? ≠ some (closec (opn s)) ∨ (s.drop 2)[(partL (s.drop 2)).2 - 1]? ≠ some (endc (opn s)) then none
    else (rG (((s.drop 2).drop (partL (s.drop 2)).2).drop 1)).map fun l => ⟨opn s, mkS (partL (s.drop 2)).1.dropLast⟩ :: l := by
  unfold rG
  rw [rF]
  by_cases h1 : s = []
  · rw [if_pos h1, if_pos h1]
  have h0 := List.length_pos_iff.2 h1
  by_cases h2 : opn s = 0
  · rw [if_neg h1, if_neg h1, if_pos h2, if_pos h2]
    by_cases h3 : (partL s).2 = 0
    · rw [if_pos h3, if_pos h3]
    rw [rF_enough s.length s.length ((s.drop (partL s).2).length + 1) _ (by simp only [List.length_drop]; omega) (by simp only [List.length_drop]; omega) (by omega)]
  · have l2 := opn_len h2
    rw [if_neg h1, if_neg h1, if_neg h2, if_neg h2, rF_enough s.length s.length ((((s.drop 2).drop (partL (s.drop 2)).2).drop 1).length + 1) _ (by simp only [List.length_drop]; omega) (by simp only [List.length_drop]; omega) (by omega)]

/-! ### Reading what was written -/
/-- The end, or a special byte that does not quote. -/
def Stop (r : Bs) : Prop := ∀ c t, r = c :: t → spc c = true ∧ c ≠ 92
theorem text_stop {r : Bs} (h : Stop r) : textL r = ([], r) := by
  match r, h with
  | [], _ => rfl
  | [c], h => rw [textL, if_pos (h c [] rfl).1]
  | c :: d :: t, h => rw [textL, if_neg (h c _ rfl).2, if_pos (h c _ rfl).1]
theorem part_stop {r : Bs} (h : Stop r) : partL r = ([], 0) := by
  match r, h with
  | [], _ => rfl
  | [c], h => rw [partL, if_pos (h c [] rfl).1]
  | c :: d :: t, h => rw [partL, if_neg (h c _ rfl).2, if_pos (h c _ rfl).1]
theorem spc_back : spc 92 = true := rfl
theorem text_plain {c : UInt8} (h : spc c = false) (l : Bs) : textL (c :: l) = (c :: (textL l).1, (textL l).2) := by
  have h92 : c ≠ 92 := by rintro rfl; cases h
  cases l with
  | nil =>
    show (if spc c then (([] : Bs), [c]) else ([c], [])) = _
    rw [if_neg (by simp [h])]; rfl
  | cons d r => rw [textL, if_neg h92, if_neg (by simp [h])]
theorem part_plain {c : UInt8} (h : spc c = false) (l : Bs) : partL (c :: l) = (c :: (partL l).1, (partL l).2 + 1) := by
  have h92 : c ≠ 92 := by rintro rfl; cases h
  cases l with
  | nil =>
    show (if spc c then (([] : Bs), 0) else ([c], 1)) = _
    rw [if_neg (by simp [h])]; rfl
  | cons d r => rw [partL, if_neg h92, if_neg (by simp [h])]
theorem text_quote (r : Bs) (h : Stop r) : ∀ t : Bs, textL (quoteL t ++ r) = (t, r)
  | [] => text_stop h
  | c :: t => by
    rw [quote_cons]
    cases hc : spc c
    · rw [if_neg (by simp), List.append_assoc, List.singleton_append, text_plain hc, text_quote r h t]
    · rw [if_pos rfl]
      show textL (92 :: c :: (quoteL t ++ r)) = _
      rw [textL, if_pos rfl, text_quote r h t]
theorem part_quote (r : Bs) (h : Stop r) : ∀ t : Bs, partL (quoteL t ++ r) = (t, (quoteL t).length)
  | [] => part_stop h
  | c :: t => by
    rw [quote_cons]
    cases hc : spc c
    · rw [if_neg (by simp), List.append_assoc, List.singleton_append, part_plain hc, part_quote r h t]; rfl
    · rw [if_pos rfl]
      show partL (92 :: c :: (quoteL t ++ r)) = _
      rw [partL, if_pos rfl, if_pos hc, part_quote r h t]; rfl
theorem stop_nil : Stop [] := fun _ _ h => by cases h
theorem stop_cons {c : UInt8} (h : spc c = true) (h2 : c ≠ 92) (t : Bs) : Stop (c :: t) := by
  rintro d r e; cases e; exact ⟨h, h2⟩
theorem stop_rend {l : List Pc} (h : ∀ x r, l = x :: r → x.k = 1 ∨ x.k = 2) : Stop (rendL l) := by
  cases l with
  | nil => exact stop_nil
  | cons x r =>
    rw [rend_cons]
    rcases h x r rfl with e | e <;> rw [e]
    · exact stop_cons rfl (by decide) _
    · exact stop_cons rfl (by decide) _
theorem opn_rend {x : Pc} {r : List Pc} (h : x.k = 1 ∨ x.k = 2) : opn (rendL (x :: r)) = x.k ∧ (rendL (x :: r)).drop 2 = quoteL (x.t.data.toList ++ [endc x.k]) ++ (closec x.k :: rendL r) := by
  rw [rend_cons]
  obtain ⟨k, t⟩ := x
  rcases h with h | h
  · obtain rfl : k = 1 := h
    constructor
    · rfl
    · rw [quote_app]
      simp [lead, trail, quoteL, spc, endc, closec]
  · obtain rfl : k = 2 := h
    constructor
    · rfl
    · rw [quote_app]
      simp [lead, trail, quoteL, spc, endc, closec]
theorem stop_close {k : Int} (r : Bs) : Stop (closec k :: r) := by
  unfold closec
  split <;> exact stop_cons rfl (by decide) _
theorem opn_quote (t r : Bs) (_h : Stop r) (ht : t ≠ []) : opn (quoteL t ++ r) = 0 := by
  cases t with
  | nil => exact absurd rfl ht
  | cons c t =>
    rw [quote_cons]
    cases hc : spc c
    · have h1 : c ≠ 91 := by rintro rfl; cases hc
      have h2 : c ≠ 123 := by rintro rfl; cases hc
      simp [opn, List.cons_prefix_cons, Ne.symm h1, Ne.symm h2]
    · simp [opn, List.cons_prefix_cons]
theorem mkS_t (t : ByteArray) : mkS t.data.toList = t := mkS_of t
theorem toList_ne {t : ByteArray} (h : t.size ≠ 0) : t.data.toList ≠ [] := by
  intro e; rw [size_len, e] at h; exact h rfl
/-- One piece in brackets, read by the program. -/
theorem pG_open {x : Pc} {r : List Pc} (hx : x.k = 1 ∨ x.k = 2) {s : Bs} {pre : Bs} (hs : textL s = (pre, rendL (x :: r))) : pG s = (pG (rendL r)).map fun l => preV pre ++ x :: l := by
  obtain ⟨o1, o2⟩ := opn_rend (r := r) hx
  rw [pG_step, hs]
  dsimp only
  have hne : rendL (x :: r) ≠ [] := by
    intro e; rw [e] at o1
    rcases hx with h | h <;> rw [h] at o1 <;> cases o1
  rw [if_neg hne, o1, if_neg (by rcases hx with h | h <;> rw [h] <;> decide), o2, text_quote _ (stop_close _)]
  dsimp only
  rw [if_pos ⟨by simp, rfl⟩, List.dropLast_concat, mkS_of]
  rfl
theorem pG_rend : ∀ (n : Nat) (l : List Pc) (p : Int), l.length ≤ n → vldF p l = true → pG (rendL l) = some l
  | _, [], _, _, _ => rfl
  | 0, x :: l, _, h, _ => by simp at h
  | n + 1, x :: l, p, hn, h => by
    rw [vldF] at h
    simp only [Bool.and_eq_true, decide_eq_true_eq] at h
    obtain ⟨⟨⟨⟨⟨h1, h2⟩, h3⟩, h4⟩, h5⟩, h6⟩ := h
    simp only [List.length_cons] at hn
    by_cases hk : x.k = 0
    · have hs : ∀ y r, l = y :: r → y.k = 1 ∨ y.k = 2 := by
        rintro y r rfl
        rw [vldF] at h6
        simp only [Bool.and_eq_true, decide_eq_true_eq, Bool.not_eq_true', decide_eq_false_iff_not] at h6
        omega
      have e : rendL (x :: l) = quoteL x.t.data.toList ++ rendL l := by
        rw [rend_cons, hk]; simp [lead, trail]
      have ht := text_quote _ (stop_rend hs) x.t.data.toList
      rw [← e] at ht
      have hpre : preV x.t.data.toList = [x] := by
        rw [preV, if_neg (toList_ne h3), mkS_of, ← hk]
      cases l with
      | nil =>
        rw [pG_step, ht]
        dsimp only
        rw [if_pos (show rendL [] = [] from rfl), hpre]
      | cons y r =>
        have h7 := h6
        rw [vldF, Bool.and_eq_true] at h7
        rw [pG_open (hs y r rfl) ht, pG_rend n r y.k (by simp only [List.length_cons] at hn; omega) h7.2, hpre]
        rfl
    · have hx : x.k = 1 ∨ x.k = 2 := by omega
      have ht : textL (rendL (x :: l)) = ([], rendL (x :: l)) := text_stop (stop_rend (by rintro y r e; cases e; exact hx))
      rw [pG_open hx ht, pG_rend n l x.k (by omega) h6]
      rfl
theorem rG_rend : ∀ (l : List Pc) (p : Int), vldF p l = true → rG (rendL l) = some l
  | [], _, _ => rfl
  | x :: l, p, h => by
    rw [vldF] at h
    simp only [Bool.and_eq_true, decide_eq_true_eq] at h
    obtain ⟨⟨⟨⟨⟨h1, h2⟩, h3⟩, h4⟩, h5⟩, h6⟩ := h
    have ih := rG_rend l x.k h6
    by_cases hk : x.k = 0
    · have hs : ∀ y r, l = y :: r → y.k = 1 ∨ y.k = 2 := by
        rintro y r rfl
        rw [vldF] at h6
        simp only [Bool.and_eq_true, decide_eq_true_eq, Bool.not_eq_true', decide_eq_false_iff_not] at h6
        omega
      have e : rendL (x :: l) = quoteL x.t.data.toList ++ rendL l := by
        rw [rend_cons, hk]; simp [lead, trail]
      have hl := (quote_len x.t.data.toList).1
      have h0 := List.length_pos_iff.2 (toList_ne h3)
      have hne : quoteL x.t.data.toList ++ rendL l ≠ [] := by
        intro e2; have := congrArg List.length e2; simp only [List.length_append, List.length_nil] at this; omega
      rw [e, rG_step, if_neg hne, if_pos (opn_quote _ _ (stop_rend hs) (toList_ne h3)), part_quote _ (stop_rend hs)]
      dsimp only
      rw [if_neg (by omega), List.drop_left' rfl, ih, mkS_of, ← hk]
      rfl
    · have hx : x.k = 1 ∨ x.k = 2 := by omega
      obtain ⟨o1, o2⟩ := opn_rend (r := l) hx
      have hne : rendL (x :: l) ≠ [] := by
        intro e; rw [e] at o1
        rcases hx with h | h <;> rw [h] at o1 <;> cases o1
      rw [rG_step, if_neg hne, o1, if_neg hk, o2, part_quote _ (stop_close _)]
      dsimp only
      have hq : quoteL (x.t.data.toList ++ [endc x.k]) = quoteL x.t.data.toList ++ [endc x.k] := by
        rw [quote_app]
        rcases hx with h | h <;> rw [h] <;> rfl
      rw [List.drop_left' rfl, if_neg ?_]
      · rw [List.drop_succ_cons, List.drop_zero, ih, List.dropLast_concat, mkS_of]; rfl
      · rw [hq]
        simp

/-- What Render and Parse say. -/
def rendV (l : List Pc) : ByteArray := if vldV l then mkS (rendL l) else mkS []
def parseV (s : ByteArray) : Option (List Pc) := (pG s.data.toList).bind fun l => if vldV l ∧ rendL l = s.data.toList then some l else none
def rparseV (s : ByteArray) : Option (List Pc) := (rG s.data.toList).bind fun l => if vldV l ∧ rendL l = s.data.toList then some l else none
theorem parse_rend {l : List Pc} (h : vldV l = true) : parseV (mkS (rendL l)) = some l := by
  unfold parseV
  rw [mkS_data, pG_rend _ l _ (Nat.le_refl _) h, Option.bind_some, if_pos ⟨h, rfl⟩]
theorem parse_ok {s : ByteArray} {l : List Pc} (h : parseV s = some l) : vldV l = true ∧ mkS (rendL l) = s := by
  unfold parseV at h
  cases hp : pG s.data.toList with
  | none => rw [hp] at h; cases h
  | some r =>
    rw [hp, Option.bind_some] at h
    split at h
    · next h2 =>
      cases h
      exact ⟨h2.1, by rw [h2.2, mkS_of]⟩
    · cases h
theorem parse_same (s : ByteArray) : parseV s = rparseV s := by
  have hb : ∀ {l}, vldV l = true → rendL l = s.data.toList → parseV s = some l ∧ rparseV s = some l := by
    intro l h1 h2
    unfold parseV rparseV
    rw [← h2, pG_rend _ l _ (Nat.le_refl _) h1, rG_rend l _ h1, Option.bind_some, if_pos ⟨h1, rfl⟩]
    exact ⟨rfl, rfl⟩
  cases hp : parseV s with
  | some l =>
    obtain ⟨h1, h2⟩ := parse_ok hp
    have := hb h1 (by rw [← h2]; rfl)
    rw [this.2]
  | none =>
    cases hr : rparseV s with
    | none => rfl
    | some l =>
      unfold rparseV at hr
      cases hg : rG s.data.toList with
      | none => rw [hg] at hr; cases hr
      | some r =>
        rw [hg, Option.bind_some] at hr
        split at hr
        · next h2 =>
          have := hb h2.1 h2.2
          rw [hp] at this
          cases this.1
        · cases hr
end Go.Proofs.Ytmmppfopokbcfaa

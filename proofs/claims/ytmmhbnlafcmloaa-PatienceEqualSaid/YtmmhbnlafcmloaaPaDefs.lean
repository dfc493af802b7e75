/- What the functions of patience compute, in plain Lean. No condition. -/
import Derived.Test.YtmmhbnlafcmloaaMyLaws
namespace Go.Proofs.Ytmmhbnlafcmloaa

/-- How often a line occurs. -/
def cnt (a : Lns) (s : ByteArray) : Nat := (a.filter (fun t => decide (t = s))).length
theorem cnt_le (a : Lns) (s : ByteArray) : cnt a s ≤ a.length := List.length_filter_le _ _
theorem cnt_snoc (a : Lns) (s t : ByteArray) : cnt (a ++ [t]) s = cnt a s + (if t = s then 1 else 0) := by
  unfold cnt; rw [List.filter_append, List.length_append]; congr 1
  by_cases h : t = s <;> simp [h]
theorem cnt_pos {a : Lns} {s : ByteArray} : 0 < cnt a s ↔ s ∈ a := by
  unfold cnt; rw [List.length_pos_iff_exists_mem]; simp
theorem cnt_take {a : Lns} {s t : ByteArray} {k : Nat} (h : a[k]? = some t) : cnt (a.take (k + 1)) s = cnt (a.take k) s + (if t = s then 1 else 0) := by
  rw [take_succ_of h, cnt_snoc]
/-- The last place of a line among the first k; 0 if it doesn't occur. -/
def whP (a : Lns) (s : ByteArray) : Nat → Nat
  | 0 => 0
  | k + 1 => if a[k]? = some s then k else whP a s k
theorem whP_succ (a : Lns) (s : ByteArray) (k : Nat) : whP a s (k + 1) = if a[k]? = some s then k else whP a s k := rfl
theorem whP_le (a : Lns) (s : ByteArray) : ∀ k, whP a s k ≤ k
  | 0 => Nat.le_refl _
  | k + 1 => by rw [whP_succ]; have := whP_le a s k; split <;> omega
def whV (a : Lns) (s : ByteArray) : Nat := whP a s a.length

/-- The unique matches among the first k lines. -/
def uniqP (a b : Lns) : Nat → List Mt
  | 0 => []
  | k + 1 => match a[k]? with
    | none => uniqP a b k
    | some s => if cnt a s = 1 ∧ cnt b s = 1 then uniqP a b k ++ [⟨(k : Int), (whV b s : Int), 1⟩] else uniqP a b k
def uniqV (a b : Lns) : List Mt := uniqP a b a.length
theorem uniqP_succ {a : Lns} (b : Lns) {k : Nat} {s : ByteArray} (h : a[k]? = some s) : uniqP a b (k + 1) = if cnt a s = 1 ∧ cnt b s = 1 then uniqP a b k ++ [⟨(k : Int), (whV b s : Int), 1⟩] else uniqP a b k := by
  rw [uniqP, h]
theorem uniqP_len (a b : Lns) : ∀ k, (uniqP a b k).length ≤ k
  | 0 => Nat.le_refl _
  | k + 1 => by
    have := uniqP_len a b k
    rw [uniqP]
    split
    · omega
    · split <;> simp <;> omega

/-! ### The best chain -/

/-- The length of the longest chain that begins with x and goes on in r, whose lengths are t. -/
def tail1 (x : Mt) (r : List Mt) (t : List Nat) : Nat := (r.zip t).foldl (fun m p => if x.b < p.1.b then max m (p.2 + 1) else m) 1
def tailsV : List Mt → List Nat
  | [] => []
  | x :: r => tail1 x r (tailsV r) :: tailsV r
theorem tailsV_len : ∀ l, (tailsV l).length = l.length
  | [] => rfl
  | x :: r => by simp [tailsV, tailsV_len r]
def mostV (t : List Nat) : Nat := t.foldl max 0

theorem tail1_spec (x : Mt) : ∀ (r : List Mt) (t : List Nat) (m : Nat), let v := (r.zip t).foldl (fun m p => if x.b < p.1.b then max m (p.2 + 1) else m) m
    m ≤ v ∧ (∀ (j : Nat) y n, r[j]? = some y → t[j]? = some n → x.b < y.b → n + 1 ≤ v) ∧ (v = m ∨ ∃ (j : Nat) (y : Mt) (n : Nat), r[j]? = some y ∧ t[j]? = some n ∧ x.b < y.b ∧ v = n + 1)
  | [], t, m => by simp
  | y :: r, [], m => by simp
  | y :: r, n :: t, m => by
    simp only [List.zip_cons_cons, List.foldl_cons]
    obtain ⟨h1, h2, h3⟩ := tail1_spec x r t (if x.b < y.b then max m (n + 1) else m)
    refine ⟨?_, fun j z k hz hk hb => ?_, ?_⟩
    · refine Nat.le_trans ?_ h1; split <;> omega
    · cases j with
      | zero =>
        simp only [List.getElem?_cons_zero, Option.some.injEq] at hz hk
        subst hz; subst hk
        refine Nat.le_trans ?_ h1
        rw [if_pos hb]; omega
      | succ j => exact h2 j z k (by simpa using hz) (by simpa using hk) hb
    · rcases h3 with h3 | ⟨j, z, k, e1, e2, e3, e4⟩
      · rw [h3]
        by_cases hb : x.b < y.b
        · rw [if_pos hb]
          rcases Nat.le_total m (n + 1) with h | h
          · exact .inr ⟨0, y, n, rfl, rfl, hb, by omega⟩
          · exact .inl (by omega)
        · rw [if_neg hb]; exact .inl rfl
      · exact .inr ⟨j + 1, z, k, by simpa using e1, by simpa using e2, e3, e4⟩
/-- What the lengths tell. -/
theorem tails_spec : ∀ (l : List Mt) (i : Nat) (x : Mt) (n : Nat), l[i]? = some x → (tailsV l)[i]? = some n →
    1 ≤ n ∧ (∀ (k : Nat) y m, i < k → l[k]? = some y → (tailsV l)[k]? = some m → x.b < y.b → m + 1 ≤ n) ∧ (n = 1 ∨ ∃ (k : Nat) (y : Mt) (m : Nat), i < k ∧ l[k]? = some y ∧ (tailsV l)[k]? = some m ∧ x.b < y.b ∧ n = m + 1)
  | [], i, x, n, h, _ => by simp at h
  | z :: r, 0, x, n, h, hn => by
    simp only [List.getElem?_cons_zero, Option.some.injEq, tailsV] at h hn
    subst h; subst hn
    obtain ⟨h1, h2, h3⟩ := tail1_spec z r (tailsV r) 1
    refine ⟨h1, fun k y m hk hy hm hb => ?_, ?_⟩
    · obtain ⟨k, rfl⟩ : ∃ j, k = j + 1 := ⟨k - 1, by omega⟩
      exact h2 k y m (by simpa using hy) (by simpa [tailsV] using hm) hb
    · rcases h3 with h3 | ⟨j, y, m, e1, e2, e3, e4⟩
      · exact .inl h3
      · exact .inr ⟨j + 1, y, m, by omega, by simpa using e1, by simpa [tailsV] using e2, e3, e4⟩
  | z :: r, i + 1, x, n, h, hn => by
    obtain ⟨h1, h2, h3⟩ := tails_spec r i x n (by simpa using h) (by simpa [tailsV] using hn)
    refine ⟨h1, fun k y m hk hy hm hb => ?_, ?_⟩
    · obtain ⟨k, rfl⟩ : ∃ j, k = j + 1 := ⟨k - 1, by omega⟩
      exact h2 k y m (by omega) (by simpa using hy) (by simpa [tailsV] using hm) hb
    · rcases h3 with h3 | ⟨k, y, m, e0, e1, e2, e3, e4⟩
      · exact .inl h3
      · exact .inr ⟨k + 1, y, m, by omega, by simpa using e1, by simpa [tailsV] using e2, e3, e4⟩
theorem most_spec : ∀ (t : List Nat) (m : Nat), m ≤ t.foldl max m ∧ (∀ x ∈ t, x ≤ t.foldl max m) ∧ (t.foldl max m = m ∨ t.foldl max m ∈ t)
  | [], m => by simp
  | y :: t, m => by
    obtain ⟨h1, h2, h3⟩ := most_spec t (max m y)
    rw [List.foldl_cons]
    refine ⟨by omega, fun x hx => ?_, ?_⟩
    · rcases List.mem_cons.1 hx with rfl | hx
      · omega
      · exact h2 x hx
    · rcases h3 with h3 | h3
      · rw [h3]
        rcases Nat.le_total m y with h | h
        · rw [Nat.max_eq_right h]; exact .inr (by simp)
        · rw [Nat.max_eq_left h]; exact .inl rfl
      · exact .inr (List.mem_cons_of_mem _ h3)
theorem mostV_snoc (t : List Nat) (x : Nat) : mostV (t ++ [x]) = max (mostV t) x := by simp [mostV]

/-- The number B of an element. -/
def bOf (l : List Mt) (i : Int) : Int := (l.getD i.toNat ⟨0, 0, 0⟩).b
/-- May the element i follow 'last' with a chain of length n? -/
def fits (l : List Mt) (t : List Nat) (n : Nat) (last : Int) (i : Nat) : Prop := last < i ∧ t.getD i 0 = n ∧ (last < 0 ∨ bOf l last < bOf l i)
instance (l : List Mt) (t : List Nat) (n : Nat) (last : Int) (i : Nat) : Decidable (fits l t n last i) := by unfold fits; infer_instance
/-- The best next element among the first ones; -1 if there is none. -/
def bestI (l : List Mt) (t : List Nat) (n : Nat) (last : Int) : Nat → Int
  | 0 => -1
  | i + 1 => if fits l t n last i ∧ (bestI l t n last i < 0 ∨ bOf l i < bOf l (bestI l t n last i)) then i else bestI l t n last i
theorem bestI_succ (l : List Mt) (t : List Nat) (n : Nat) (last : Int) (i : Nat) : bestI l t n last (i + 1) = if fits l t n last i ∧ (bestI l t n last i < 0 ∨ bOf l i < bOf l (bestI l t n last i)) then (i : Int) else bestI l t n last i := rfl
theorem bestI_spec (l : List Mt) (t : List Nat) (n : Nat) (last : Int) : ∀ i, (bestI l t n last i = -1 ∧ ∀ j, j < i → ¬ fits l t n last j) ∨
    (∃ k : Nat, k < i ∧ bestI l t n last i = k ∧ fits l t n last k ∧ ∀ j, j < i → fits l t n last j → bOf l k ≤ bOf l j ∧ (bOf l j = bOf l k → k ≤ j))
  | 0 => .inl ⟨rfl, fun j h => by omega⟩
  | i + 1 => by
    have last' : ∀ {j}, j < i + 1 → j < i ∨ j = i := fun h => by omega
    rw [bestI_succ]
    rcases bestI_spec l t n last i with ⟨h1, h2⟩ | ⟨k, h0, h1, h2, h3⟩
    · rw [h1]
      by_cases h : fits l t n last i
      · rw [if_pos ⟨h, .inl (by omega)⟩]
        refine .inr ⟨i, by omega, rfl, h, fun j hj hf => ?_⟩
        rcases last' hj with hj | rfl
        · exact absurd hf (h2 j hj)
        · exact ⟨Int.le_refl _, fun _ => Nat.le_refl _⟩
      · rw [if_neg (fun hh => h hh.1)]
        refine .inl ⟨rfl, fun j hj => ?_⟩
        rcases last' hj with hj | rfl
        · exact h2 j hj
        · exact h
    · rw [h1]
      by_cases h : fits l t n last i ∧ ((k : Int) < 0 ∨ bOf l i < bOf l k)
      · rw [if_pos h]
        have hlt : bOf l i < bOf l k := by rcases h.2 with h | h; omega; exact h
        refine .inr ⟨i, by omega, rfl, h.1, fun j hj hf => ?_⟩
        rcases last' hj with hj | rfl
        · have := h3 j hj hf; omega
        · exact ⟨Int.le_refl _, fun _ => Nat.le_refl _⟩
      · rw [if_neg h]
        refine .inr ⟨k, by omega, rfl, h2, fun j hj hf => ?_⟩
        rcases last' hj with hj | rfl
        · exact h3 j hj hf
        · have : ¬ bOf l j < bOf l k := fun hh => h ⟨hf, .inr hh⟩
          exact ⟨by omega, fun _ => by omega⟩
/-- Nothing fits at or ahead of the last one. -/
theorem bestI_early (l : List Mt) (t : List Nat) (n : Nat) (last : Int) {i : Nat} (h : (i : Int) ≤ last + 1) : bestI l t n last i = -1 := by
  rcases bestI_spec l t n last i with ⟨h1, _⟩ | ⟨k, h0, _, h2, _⟩
  · exact h1
  · have := h2.1; omega

/-- The index of the j-th element of the chain (-1 ahead of it). -/
def lastI (l : List Mt) (t : List Nat) (most : Nat) : Nat → Int
  | 0 => -1
  | j + 1 => bestI l t (most - j) (lastI l t most j) l.length
def chainP (l : List Mt) (t : List Nat) (most : Nat) : Nat → List Mt
  | 0 => []
  | j + 1 => chainP l t most j ++ [l.getD (lastI l t most (j + 1)).toNat ⟨0, 0, 0⟩]
theorem lastI_succ (l : List Mt) (t : List Nat) (most j : Nat) : lastI l t most (j + 1) = bestI l t (most - j) (lastI l t most j) l.length := rfl
theorem chainP_succ (l : List Mt) (t : List Nat) (most j : Nat) : chainP l t most (j + 1) = chainP l t most j ++ [l.getD (lastI l t most (j + 1)).toNat ⟨0, 0, 0⟩] := rfl
theorem chainP_len (l : List Mt) (t : List Nat) (most : Nat) : ∀ j, (chainP l t most j).length = j
  | 0 => rfl
  | j + 1 => by rw [chainP_succ, List.length_append, chainP_len l t most j]; rfl
def longV (l : List Mt) : List Mt := chainP l (tailsV l) (mostV (tailsV l)) (mostV (tailsV l))
theorem longV_len (l : List Mt) : (longV l).length = mostV (tailsV l) := chainP_len _ _ _ _
theorem getD_is {α : Type} {l : List α} {i : Nat} {x d : α} (h : l[i]? = some x) : l.getD i d = x := by rw [List.getD_eq_getElem?_getD, h]; rfl
theorem tails_at (l : List Mt) {i : Nat} (h : i < l.length) : ∃ x n, l[i]? = some x ∧ (tailsV l)[i]? = some n ∧ (tailsV l).getD i 0 = n ∧ bOf l i = x.b := by
  have h2 : i < (tailsV l).length := by rw [tailsV_len]; exact h
  refine ⟨l[i], (tailsV l)[i], List.getElem?_eq_getElem h, List.getElem?_eq_getElem h2, getD_is (List.getElem?_eq_getElem h2), ?_⟩
  unfold bOf
  rw [Int.toNat_natCast, getD_is (List.getElem?_eq_getElem h)]
/-- The chain goes on up to its length. -/
theorem last_ok (l : List Mt) : ∀ j, j < mostV (tailsV l) → ∃ k : Nat, k < l.length ∧ lastI l (tailsV l) (mostV (tailsV l)) (j + 1) = k ∧ fits l (tailsV l) (mostV (tailsV l) - j) (lastI l (tailsV l) (mostV (tailsV l)) j) k ∧
    ∀ i, i < l.length → fits l (tailsV l) (mostV (tailsV l) - j) (lastI l (tailsV l) (mostV (tailsV l)) j) i → bOf l k ≤ bOf l i ∧ (bOf l i = bOf l k → k ≤ i)
  | j, hj => by
    have some_fits : ∃ i, i < l.length ∧ fits l (tailsV l) (mostV (tailsV l) - j) (lastI l (tailsV l) (mostV (tailsV l)) j) i := by
      cases j with
      | zero =>
        obtain ⟨_, _, h3⟩ := most_spec (tailsV l) 0
        rcases h3 with h3 | h3
        · have : mostV (tailsV l) = 0 := h3
          omega
        · obtain ⟨i, hi⟩ := List.mem_iff_getElem?.1 h3
          have hil : i < l.length := by rw [← tailsV_len]; exact (List.getElem?_eq_some_iff.1 hi).1
          exact ⟨i, hil, by show (-1 : Int) < i; omega, getD_is hi, .inl (by show (-1 : Int) < 0; omega)⟩
      | succ j =>
        obtain ⟨k, hk, e1, e2, _⟩ := last_ok l j (by omega)
        rw [e1]
        obtain ⟨x, n, hx, hn, hd, hb⟩ := tails_at l hk
        have e3 : n = mostV (tailsV l) - j := by rw [← hd]; exact e2.2.1
        obtain ⟨_, _, h3⟩ := tails_spec l k x n hx hn
        rcases h3 with h3 | ⟨i, y, m, g0, g1, g2, g3, g4⟩
        · omega
        · have hil : i < l.length := (List.getElem?_eq_some_iff.1 g1).1
          refine ⟨i, hil, by omega, by rw [getD_is g2]; omega, .inr ?_⟩
          rw [hb]
          unfold bOf
          rw [Int.toNat_natCast, getD_is g1]; exact g3
    obtain ⟨i, hi, hf⟩ := some_fits
    rcases bestI_spec l (tailsV l) (mostV (tailsV l) - j) (lastI l (tailsV l) (mostV (tailsV l)) j) l.length with ⟨_, h2⟩ | ⟨k, h0, h1, h2, h3⟩
    · exact absurd hf (h2 i hi)
    · exact ⟨k, h0, h1, h2, h3⟩
end Go.Proofs.Ytmmhbnlafcmloaa

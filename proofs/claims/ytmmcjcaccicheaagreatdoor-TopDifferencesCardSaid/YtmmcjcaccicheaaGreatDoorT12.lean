/- PaDefs PaPcs PaKeep: parts of the proof of TopDifferences, one text behind the other. No condition. -/
import Derived.Test.YtmmcjcaccicheaaGreatDoorT08
import Derived.Test.YtmmcjcaccicheaaGreatDoorT06
import Derived.Laws.OwnMore
/- What the functions of patience compute, in plain Lean. No condition. -/
namespace Go.Proofs.YtmmcjcaccicheaaGreatDoor

/-- How often a line occurs. -/
def cnt (a : Lns) (s : ByteArray) : Nat := (a.filter (fun t => decide (t = s))).length
theorem cnt_le (a : Lns) (s : ByteArray) : cnt a s ≤ a.length := List.length_filter_le _ _
theorem cnt_snoc (a : Lns) (s t : ByteArray) : cnt (a ++ [t]) s = cnt a s + (if t = s then 1 else 0) := by
  unfold cnt; rw [List.filter_append, List.length_append]; congr 1
  by_cases h : t = s <;> simp [h]
theorem cnt_pos {a : Lns} {s : ByteArray} : 0 < cnt a s ↔ s ∈ a := by
  unfold cnt; rw [List.length_pos_iff_exists_mem]; simp
theorem cnt_take {a : Lns} {s t : ByteArray} {k : Nat} (h : a[k]? = some t) : cnt (a.take (k + 1)) s = cnt (a.take k) s + (if t = s then 1 else 0) := by
  rw [take_succ_of h, cnt_snoc]
/-- The last place of a line among the first k; 0 if it doesn't occur. -/
def whP (a : Lns) (s : ByteArray) : Nat → Nat
  | 0 => 0
  | k + 1 => if a[k]? = some s then k else whP a s k
theorem whP_succ (a : Lns) (s : ByteArray) (k : Nat) : whP a s (k + 1) = if a[k]? = some s then k else whP a s k := rfl
theorem whP_le (a : Lns) (s : ByteArray) : ∀ k, whP a s k ≤ k
  | 0 => Nat.le_refl _
  | k + 1 => by rw [whP_succ]; have := whP_le a s k; split <;> omega
def whV (a : Lns) (s : ByteArray) : Nat := whP a s a.length

/-- The unique matches among the first k lines. -/
def uniqP (a b : Lns) : Nat → List Mt
  | 0 => []
  | k + 1 => match a[k]? with
    | none => uniqP a b k
    | some s => if cnt a s = 1 ∧ cnt b s = 1 then uniqP a b k ++ [⟨(k : Int), (whV b s : Int), 1⟩] else uniqP a b k
def uniqV (a b : Lns) : List Mt := uniqP a b a.length
theorem uniqP_succ {a : Lns} (b : Lns) {k : Nat} {s : ByteArray} (h : a[k]? = some s) : uniqP a b (k + 1) = if cnt a s = 1 ∧ cnt b s = 1 then uniqP a b k ++ [⟨(k : Int), (whV b s : Int), 1⟩] else uniqP a b k := by
  rw [uniqP, h]
theorem uniqP_len (a b : Lns) : ∀ k, (uniqP a b k).length ≤ k
  | 0 => Nat.le_refl _
  | k + 1 => by
    have := uniqP_len a b k
    rw [uniqP]
    split
    · omega
    · split <;> simp <;> omega

/-! ### The best chain -/

/-- The length of the longest chain that begins with x and goes on in r, whose lengths are t. -/
def tail1 (x : Mt) (r : List Mt) (t : List Nat) : Nat := (r.zip t).foldl (fun m p => if x.b < p.1.b then max m (p.2 + 1) else m) 1
def tailsV : List Mt → List Nat
  | [] => []
  | x :: r => tail1 x r (tailsV r) :: tailsV r
theorem tailsV_len : ∀ l, (tailsV l).length = l.length
  | [] => rfl
  | x :: r => by simp [tailsV, tailsV_len r]
def mostV (t : List Nat) : Nat := t.foldl max 0

theorem tail1_spec (x : Mt) : ∀ (r : List Mt) (t : List Nat) (m : Nat), let v := (r.zip t).foldl (fun m p => if x.b < p.1.b then max m (p.2 + 1) else m) m
    m ≤ v ∧ (∀ (j : Nat) y n, r[j]? = some y → t[j]? = some n → x.b < y.b → n + 1 ≤ v) ∧ (v = m ∨ ∃ (j : Nat) (y : Mt) (n : Nat), r[j]? = some y ∧ t[j]? = some n ∧ x.b < y.b ∧ v = n + 1)
  | [], t, m => by simp
  | y :: r, [], m => by simp
  | y :: r, n :: t, m => by
    simp only [List.zip_cons_cons, List.foldl_cons]
    obtain ⟨h1, h2, h3⟩ := tail1_spec x r t (if x.b < y.b then max m (n + 1) else m)
    refine ⟨?_, fun j z k hz hk hb => ?_, ?_⟩
    · refine Nat.le_trans ?_ h1; split <;> omega
    · cases j with
      | zero =>
        simp only [List.getElem?_cons_zero, Option.some.injEq] at hz hk
        subst hz; subst hk
        refine Nat.le_trans ?_ h1
        rw [if_pos hb]; omega
      | succ j => exact h2 j z k (by simpa using hz) (by simpa using hk) hb
    · rcases h3 with h3 | ⟨j, z, k, e1, e2, e3, e4⟩
      · rw [h3]
        by_cases hb : x.b < y.b
        · rw [if_pos hb]
          rcases Nat.le_total m (n + 1) with h | h
          · exact .inr ⟨0, y, n, rfl, rfl, hb, by omega⟩
          · exact .inl (by omega)
        · rw [if_neg hb]; exact .inl rfl
      · exact .inr ⟨j + 1, z, k, by simpa using e1, by simpa using e2, e3, e4⟩
/-- What the lengths tell. -/
theorem tails_spec : ∀ (l : List Mt) (i : Nat) (x : Mt) (n : Nat), l[i]? = some x → (tailsV l)[i]? = some n →
    1 ≤ n ∧ (∀ (k : Nat) y m, i < k → l[k]? = some y → (tailsV l)[k]? = some m → x.b < y.b → m + 1 ≤ n) ∧ (n = 1 ∨ ∃ (k : Nat) (y : Mt) (m : Nat), i < k ∧ l[k]? = some y ∧ (tailsV l)[k]? = some m ∧ x.b < y.b ∧ n = m + 1)
  | [], i, x, n, h, _ => by simp at h
  | z :: r, 0, x, n, h, hn => by
    simp only [List.getElem?_cons_zero, Option.some.injEq, tailsV] at h hn
    subst h; subst hn
    obtain ⟨h1, h2, h3⟩ := tail1_spec z r (tailsV r) 1
    refine ⟨h1, fun k y m hk hy hm hb => ?_, ?_⟩
    · obtain ⟨k, rfl⟩ : ∃ j, k = j + 1 := ⟨k - 1, by omega⟩
      exact h2 k y m (by simpa using hy) (by simpa [tailsV] using hm) hb
    · rcases h3 with h3 | ⟨j, y, m, e1, e2, e3, e4⟩
      · exact .inl h3
      · exact .inr ⟨j + 1, y, m, by omega, by simpa using e1, by simpa [tailsV] using e2, e3, e4⟩
  | z :: r, i + 1, x, n, h, hn => by
    obtain ⟨h1, h2, h3⟩ := tails_spec r i x n (by simpa using h) (by simpa [tailsV] using hn)
    refine ⟨h1, fun k y m hk hy hm hb => ?_, ?_⟩
    · obtain ⟨k, rfl⟩ : ∃ j, k = j + 1 := ⟨k - 1, by omega⟩
      exact h2 k y m (by omega) (by simpa using hy) (by simpa [tailsV] using hm) hb
    · rcases h3 with h3 | ⟨k, y, m, e0, e1, e2, e3, e4⟩
      · exact .inl h3
      · exact .inr ⟨k + 1, y, m, by omega, by simpa using e1, by simpa [tailsV] using e2, e3, e4⟩
theorem most_spec : ∀ (t : List Nat) (m : Nat), m ≤ t.foldl max m ∧ (∀ x ∈ t, x ≤ t.foldl max m) ∧ (t.foldl max m = m ∨ t.foldl max m ∈ t)
  | [], m => by simp
  | y :: t, m => by
    obtain ⟨h1, h2, h3⟩ := most_spec t (max m y)
    rw [List.foldl_cons]
    refine ⟨by omega, fun x hx => ?_, ?_⟩
    · rcases List.mem_cons.1 hx with rfl | hx
      · omega
      · exact h2 x hx
    · rcases h3 with h3 | h3
      · rw [h3]
        rcases Nat.le_total m y with h | h
        · rw [Nat.max_eq_right h]; exact .inr (by simp)
        · rw [Nat.max_eq_left h]; exact .inl rfl
      · exact .inr (List.mem_cons_of_mem _ h3)
theorem mostV_snoc (t : List Nat) (x : Nat) : mostV (t ++ [x]) = max (mostV t) x := by simp [mostV]

/-- The number B of an element. -/
def bOf (l : List Mt) (i : Int) : Int := (l.getD i.toNat ⟨0, 0, 0⟩).b
/-- May the element i follow 'last' with a chain of length n? -/
def fits (l : List Mt) (t : List Nat) (n : Nat) (last : Int) (i : Nat) : Prop := last < i ∧ t.getD i 0 = n ∧ (last < 0 ∨ bOf l last < bOf l i)
instance (l : List Mt) (t : List Nat) (n : Nat) (last : Int) (i : Nat) : Decidable (fits l t n last i) := by unfold fits; infer_instance
/-- The best next element among the first ones; -1 if there is none. -/
def bestI (l : List Mt) (t : List Nat) (n : Nat) (last : Int) : Nat → Int
  | 0 => -1
  | i + 1 => if fits l t n last i ∧ (bestI l t n last i < 0 ∨ bOf l i < bOf l (bestI l t n last i)) then i else bestI l t n last i
theorem bestI_succ (l : List Mt) (t : List Nat) (n : Nat) (last : Int) (i : Nat) : bestI l t n last (i + 1) = if fits l t n last i ∧ (bestI l t n last i < 0 ∨ bOf l i < bOf l (bestI l t n last i)) then (i : Int) else bestI l t n last i := rfl
theorem bestI_spec (l : List Mt) (t : List Nat) (n : Nat) (last : Int) : ∀ i, (bestI l t n last i = -1 ∧ ∀ j, j < i → ¬ fits l t n last j) ∨
    (∃ k : Nat, k < i ∧ bestI l t n last i = k ∧ fits l t n last k ∧ ∀ j, j < i → fits l t n last j → bOf l k ≤ bOf l j ∧ (bOf l j = bOf l k → k ≤ j))
  | 0 => .inl ⟨rfl, fun j h => by omega⟩
  | i + 1 => by
    have last' : ∀ {j}, j < i + 1 → j < i ∨ j = i := fun h => by omega
    rw [bestI_succ]
    rcases bestI_spec l t n last i with ⟨h1, h2⟩ | ⟨k, h0, h1, h2, h3⟩
    · rw [h1]
      by_cases h : fits l t n last i
      · rw [if_pos ⟨h, .inl (by omega)⟩]
        refine .inr ⟨i, by omega, rfl, h, fun j hj hf => ?_⟩
        rcases last' hj with hj | rfl
        · exact absurd hf (h2 j hj)
        · exact ⟨Int.le_refl _, fun _ => Nat.le_refl _⟩
      · rw [if_neg (fun hh => h hh.1)]
        refine .inl ⟨rfl, fun j hj => ?_⟩
        rcases last' hj with hj | rfl
        · exact h2 j hj
        · exact h
    · rw [h1]
      by_cases h : fits l t n last i ∧ ((k : Int) < 0 ∨ bOf l i < bOf l k)
      · rw [if_pos h]
        have hlt : bOf l i < bOf l k := by rcases h.2 with h | h; omega; exact h
        refine .inr ⟨i, by omega, rfl, h.1, fun j hj hf => ?_⟩
        rcases last' hj with hj | rfl
        · have := h3 j hj hf; omega
        · exact ⟨Int.le_refl _, fun _ => Nat.le_refl _⟩
      · rw [if_neg h]
        refine .inr ⟨k, by omega, rfl, h2, fun j hj hf => ?_⟩
        rcases last' hj with hj | rfl
        · exact h3 j hj hf
        · have : ¬ bOf l j < bOf l k := fun hh => h ⟨hf, .inr hh⟩
          exact ⟨by omega, fun _ => by omega⟩
/-- Nothing fits at or ahead of the last one. -/
theorem bestI_early (l : List Mt) (t : List Nat) (n : Nat) (last : Int) {i : Nat} (h : (i : Int) ≤ last + 1) : bestI l t n last i = -1 := by
  rcases bestI_spec l t n last i with ⟨h1, _⟩ | ⟨k, h0, _, h2, _⟩
  · exact h1
  · have := h2.1; omega

/-- The index of the j-th element of the chain (-1 ahead of it). -/
def lastI (l : List Mt) (t : List Nat) (most : Nat) : Nat → Int
  | 0 => -1
  | j + 1 => bestI l t (most - j) (lastI l t most j) l.length
def chainP (l : List Mt) (t : List Nat) (most : Nat) : Nat → List Mt
  | 0 => []
  | j + 1 => chainP l t most j ++ [l.getD (lastI l t most (j + 1)).toNat ⟨0, 0, 0⟩]
theorem lastI_succ (l : List Mt) (t : List Nat) (most j : Nat) : lastI l t most (j + 1) = bestI l t (most - j) (lastI l t most j) l.length := rfl
theorem chainP_succ (l : List Mt) (t : List Nat) (most j : Nat) : chainP l t most (j + 1) = chainP l t most j ++ [l.getD (lastI l t most (j + 1)).toNat ⟨0, 0, 0⟩] := rfl
theorem chainP_len (l : List Mt) (t : List Nat) (most : Nat) : ∀ j, (chainP l t most j).length = j
  | 0 => rfl
  | j + 1 => by rw [chainP_succ, List.length_append, chainP_len l t most j]; rfl
def longV (l : List Mt) : List Mt := chainP l (tailsV l) (mostV (tailsV l)) (mostV (tailsV l))
theorem longV_len (l : List Mt) : (longV l).length = mostV (tailsV l) := chainP_len _ _ _ _
theorem getD_is {α : Type} {l : List α} {i : Nat} {x d : α} (h : l[i]? = some x) : l.getD i d = x := by rw [List.getD_eq_getElem?_getD, h]; rfl
theorem tails_at (l : List Mt) {i : Nat} (h : i < l.length) : ∃ x n, l[i]? = some x ∧ (tailsV l)[i]? = some n ∧ (tailsV l).getD i 0 = n ∧ bOf l i = x.b := by
  have h2 : i < (tailsV l).length := by rw [tailsV_len]; exact h
  refine ⟨l[i], (tailsV l)[i], List.getElem?_eq_getElem h, List.getElem?_eq_getElem h2, getD_is (List.getElem?_eq_getElem h2), ?_⟩
  unfold bOf
  rw [Int.toNat_natCast, getD_is (List.getElem?_eq_getElem h)]
/-- The chain goes on up to its length. -/
theorem last_ok (l : List Mt) : ∀ j, j < mostV (tailsV l) → ∃ k : Nat, k < l.length ∧ lastI l (tailsV l) (mostV (tailsV l)) (j + 1) = k ∧ fits l (tailsV l) (mostV (tailsV l) - j) (lastI l (tailsV l) (mostV (tailsV l)) j) k ∧
    ∀ i, i < l.length → fits l (tailsV l) (mostV (tailsV l) - j) (lastI l (tailsV l) (mostV (tailsV l)) j) i → bOf l k ≤ bOf l i ∧ (bOf l i = bOf l k → k ≤ i)
  | j, hj => by
    have some_fits : ∃ i, i < l.length ∧ fits l (tailsV l) (mostV (tailsV l) - j) (lastI l (tailsV l) (mostV (tailsV l)) j) i := by
      cases j with
      | zero =>
        obtain ⟨_, _, h3⟩ := most_spec (tailsV l) 0
        rcases h3 with h3 | h3
        · have : mostV (tailsV l) = 0 := h3
          omega
        · obtain ⟨i, hi⟩ := List.mem_iff_getElem?.1 h3
          have hil : i < l.length := by rw [← tailsV_len]; exact (List.getElem?_eq_some_iff.1 hi).1
          exact ⟨i, hil, by show (-1 : Int) < i; omega, getD_is hi, .inl (by show (-1 : Int) < 0; omega)⟩
      | succ j =>
        obtain ⟨k, hk, e1, e2, _⟩ := last_ok l j (by omega)
        rw [e1]
        obtain ⟨x, n, hx, hn, hd, hb⟩ := tails_at l hk
        have e3 : n = mostV (tailsV l) - j := by rw [← hd]; exact e2.2.1
        obtain ⟨_, _, h3⟩ := tails_spec l k x n hx hn
        rcases h3 with h3 | ⟨i, y, m, g0, g1, g2, g3, g4⟩
        · omega
        · have hil : i < l.length := (List.getElem?_eq_some_iff.1 g1).1
          refine ⟨i, hil, by omega, by rw [getD_is g2]; omega, .inr ?_⟩
          rw [hb]
          unfold bOf
          rw [Int.toNat_natCast, getD_is g1]; exact g3
    obtain ⟨i, hi, hf⟩ := some_fits
    rcases bestI_spec l (tailsV l) (mostV (tailsV l) - j) (lastI l (tailsV l) (mostV (tailsV l)) j) l.length with ⟨_, h2⟩ | ⟨k, h0, h1, h2, h3⟩
    · exact absurd hf (h2 i hi)
    · exact ⟨k, h0, h1, h2, h3⟩
end Go.Proofs.YtmmcjcaccicheaaGreatDoor
/- The pieces of the patience matching, and how they are joined. No condition. -/
namespace Go.Proofs.YtmmcjcaccicheaaGreatDoor

/-- A match, moved. -/
def mvM (m : Mt) (x y : Int) : Mt := ⟨m.a + x, m.b + y, m.n⟩
def shV (l : List Mt) (x y : Int) : List Mt := l.map fun m => mvM m x y
theorem shV_append (l r : List Mt) (x y : Int) : shV (l ++ r) x y = shV l x y ++ shV r x y := by simp [shV]
theorem by_by (m : Mt) (x y p q : Int) : mvM (mvM m x y) p q = mvM m (x + p) (y + q) := by simp [mvM, Int.add_assoc]
theorem shV_shV (l : List Mt) (x y p q : Int) : shV (shV l x y) p q = shV l (x + p) (y + q) := by simp [shV, by_by]
theorem shV_zero (l : List Mt) : shV l 0 0 = l := by simp [shV, mvM]
/-- 'keep': one more match, joined to the last one where it follows that one. -/
def keepV (out : List Mt) (m : Mt) : List Mt :=
  if m.n < 1 then out else
  match out.getLast? with
  | some x => if x.a + x.n = m.a ∧ x.b + x.n = m.b then out.dropLast ++ [⟨x.a, x.b, x.n + m.n⟩] else out ++ [m]
  | none => out ++ [m]
theorem keepV_zero {out : List Mt} {m : Mt} (h : m.n < 1) : keepV out m = out := by unfold keepV; rw [if_pos h]
theorem keepV_nil {m : Mt} (h : ¬ m.n < 1) : keepV [] m = [m] := by unfold keepV; rw [if_neg h]; rfl
theorem keepV_join {r : List Mt} {x m : Mt} (h : ¬ m.n < 1) (h1 : x.a + x.n = m.a) (h2 : x.b + x.n = m.b) : keepV (r ++ [x]) m = r ++ [⟨x.a, x.b, x.n + m.n⟩] := by
  unfold keepV; rw [if_neg h]; simp [h1, h2]
theorem keepV_new {r : List Mt} {x m : Mt} (h : ¬ m.n < 1) (h1 : ¬ (x.a + x.n = m.a ∧ x.b + x.n = m.b)) : keepV (r ++ [x]) m = r ++ [x] ++ [m] := by
  unfold keepV; rw [if_neg h]; simp only [List.getLast?_append, List.getLast?_singleton, Option.some_or]; rw [if_neg h1]
def runsV (l : List Mt) : List Mt := l.foldl keepV []
theorem snoc_or (l : List Mt) : l = [] ∨ ∃ r x, l = r ++ [x] := by
  rcases List.eq_nil_or_concat l with h | ⟨r, x, h⟩
  · exact .inl h
  · exact .inr ⟨r, x, by rw [h]; simp⟩
theorem keepV_len (out : List Mt) (m : Mt) : (keepV out m).length ≤ out.length + 1 := by
  by_cases h : m.n < 1
  · rw [keepV_zero h]; omega
  rcases snoc_or out with rfl | ⟨r, x, rfl⟩
  · rw [keepV_nil h]; simp
  · by_cases h1 : x.a + x.n = m.a ∧ x.b + x.n = m.b
    · rw [keepV_join h h1.1 h1.2]; simp
    · rw [keepV_new h h1]; simp
theorem keepV_pos {out : List Mt} {m : Mt} (h : ∀ x ∈ out, 1 ≤ x.n) : ∀ x ∈ keepV out m, 1 ≤ x.n := by
  by_cases h0 : m.n < 1
  · rw [keepV_zero h0]; exact h
  rcases snoc_or out with rfl | ⟨r, x, rfl⟩
  · rw [keepV_nil h0]; intro y hy; simp only [List.mem_singleton] at hy; subst hy; omega
  · have hx := h x (by simp)
    by_cases h1 : x.a + x.n = m.a ∧ x.b + x.n = m.b
    · rw [keepV_join h0 h1.1 h1.2]
      intro y hy
      rcases List.mem_append.1 hy with hy | hy
      · exact h y (by simp [hy])
      · simp only [List.mem_singleton] at hy; subst hy; show 1 ≤ x.n + m.n; omega
    · rw [keepV_new h0 h1]
      intro y hy
      rcases List.mem_append.1 hy with hy | hy
      · exact h y hy
      · simp only [List.mem_singleton] at hy; subst hy; omega
theorem fold_pos : ∀ (l acc : List Mt), (∀ x ∈ acc, 1 ≤ x.n) → ∀ x ∈ l.foldl keepV acc, 1 ≤ x.n
  | [], _, h => h
  | _ :: l, _, h => fold_pos l _ (keepV_pos h)
theorem keepV_by (out : List Mt) (m : Mt) (x y : Int) : keepV (shV out x y) (mvM m x y) = shV (keepV out m) x y := by
  by_cases h0 : m.n < 1
  · rw [keepV_zero h0, keepV_zero (by exact h0)]
  rcases snoc_or out with rfl | ⟨r, z, rfl⟩
  · rw [keepV_nil h0]; show keepV [] _ = _; rw [keepV_nil (by exact h0)]; rfl
  · have e : shV (r ++ [z]) x y = shV r x y ++ [mvM z x y] := by rw [shV_append]; rfl
    rw [e]
    by_cases h1 : z.a + z.n = m.a ∧ z.b + z.n = m.b
    · rw [keepV_join h0 h1.1 h1.2, keepV_join (by exact h0) (by simp only [mvM]; omega) (by simp only [mvM]; omega), shV_append]; rfl
    · rw [keepV_new h0 h1, keepV_new (by exact h0) (by simp only [mvM]; omega), shV_append, shV_append]; rfl
theorem fold_by (x y : Int) : ∀ (l acc : List Mt), (shV l x y).foldl keepV (shV acc x y) = shV (l.foldl keepV acc) x y
  | [], _ => rfl
  | m :: l, acc => by
    show (shV l x y).foldl keepV (keepV (shV acc x y) (mvM m x y)) = _
    rw [keepV_by, fold_by x y l]; rfl
theorem runs_by (l : List Mt) (x y : Int) : runsV (shV l x y) = shV (runsV l) x y := fold_by x y l []
/-- Joining ahead of time changes nothing. -/
theorem fold_keep (acc R : List Mt) (m : Mt) (hR : ∀ x ∈ R, 1 ≤ x.n) : (keepV R m).foldl keepV acc = keepV (R.foldl keepV acc) m := by
  by_cases h0 : m.n < 1
  · rw [keepV_zero h0, keepV_zero h0]
  rcases snoc_or R with rfl | ⟨r, x, rfl⟩
  · rw [keepV_nil h0]; rfl
  · have hx := hR x (by simp)
    by_cases h1 : x.a + x.n = m.a ∧ x.b + x.n = m.b
    · rw [keepV_join h0 h1.1 h1.2, List.foldl_append, List.foldl_append]
      simp only [List.foldl_cons, List.foldl_nil]
      have hx0 : ¬ x.n < 1 := by omega
      have hxm : ¬ (⟨x.a, x.b, x.n + m.n⟩ : Mt).n < 1 := by show ¬ x.n + m.n < 1; omega
      rcases snoc_or (r.foldl keepV acc) with h | ⟨s, z, h⟩
      · rw [h, keepV_nil hxm, keepV_nil hx0]
        have := keepV_join (r := []) (x := x) (m := m) h0 h1.1 h1.2
        simpa using this.symm
      · rw [h]
        by_cases h2 : z.a + z.n = x.a ∧ z.b + z.n = x.b
        · rw [keepV_join hx0 h2.1 h2.2, keepV_join hxm h2.1 h2.2, keepV_join h0 (by show z.a + (z.n + x.n) = m.a; omega) (by show z.b + (z.n + x.n) = m.b; omega)]
          simp [Int.add_assoc]
        · rw [keepV_new hx0 h2, keepV_new hxm h2, keepV_join h0 h1.1 h1.2]
    · rw [keepV_new h0 h1, List.foldl_append]; rfl
theorem fold_runs (acc : List Mt) : ∀ (l R : List Mt), (∀ x ∈ R, 1 ≤ x.n) → (l.foldl keepV R).foldl keepV acc = l.foldl keepV (R.foldl keepV acc)
  | [], _, _ => rfl
  | m :: l, R, h => by
    rw [List.foldl_cons, fold_runs acc l _ (keepV_pos h), fold_keep acc R m h]; rfl
theorem fold_runsV (acc l : List Mt) : (runsV l).foldl keepV acc = l.foldl keepV acc := fold_runs acc l [] (by simp)

/-! ### Common ends, pieces -/
def preN (a b : Lns) : Nat := (folV a b 0 0).toNat
/-- How many lines more there are in common at the ends, when m are known and f may be asked. -/
def sufF (a b : Lns) : Nat → Nat → Nat
  | 0, m => m
  | f + 1, m => if mtB a b ((a.length : Int) - 1 - m) ((b.length : Int) - 1 - m) then sufF a b f (m + 1) else m
def sufN (a b : Lns) : Nat := sufF a b (min a.length b.length - preN a b) 0
theorem sufF_le (a b : Lns) : ∀ f m, m ≤ sufF a b f m ∧ sufF a b f m ≤ m + f
  | 0, m => by simp [sufF]
  | f + 1, m => by
    rw [sufF]
    split
    · have := sufF_le a b f (m + 1); omega
    · omega
theorem preN_spec (a b : Lns) : preN a b ≤ a.length ∧ preN a b ≤ b.length ∧ (∀ j, j < preN a b → mtB a b (j : Nat) (j : Nat) = true) ∧ mtB a b (preN a b : Nat) (preN a b : Nat) = false := by
  unfold preN
  obtain ⟨j, e1, e2, e3⟩ := folV_spec (a := a) (b := b) (x := 0) (y := 0) (k := 0) (by omega)
  have e4 : (((0 + j : Nat) : Int)).toNat = j := by omega
  rw [show ((0 : Nat) : Int) = 0 from rfl] at e1
  rw [e1, e4]
  refine ⟨?_, ?_, fun i hi => by have := e2 i hi; rwa [Nat.zero_add] at this, by rwa [Nat.zero_add] at e3⟩
  · rcases Nat.eq_zero_or_pos j with h0 | h0
    · omega
    · have := mtB_lt (e2 (j - 1) (by omega)); omega
  · rcases Nat.eq_zero_or_pos j with h0 | h0
    · omega
    · have := mtB_lt (e2 (j - 1) (by omega)); omega
theorem suf_le (a b : Lns) : preN a b + sufN a b ≤ a.length ∧ preN a b + sufN a b ≤ b.length := by
  obtain ⟨h1, h2, _⟩ := preN_spec a b
  have := sufF_le a b (min a.length b.length - preN a b) 0
  unfold sufN; omega
def cutV (a : Lns) (x y : Nat) : Lns := (a.drop x).take (y - x)
theorem cutV_len {a : Lns} {x y : Nat} (h : y ≤ a.length) : (cutV a x y).length = y - x := by
  unfold cutV; rw [List.length_take, List.length_drop]; omega
/-- The parts around the matches of a chain. -/
def partG (D : Lns → Lns → List Mt) (a b : Lns) : Nat → Nat → List Mt → List Mt
  | p, q, [] => shV (D (a.drop p) (b.drop q)) p q
  | p, q, c :: cs => shV (D (cutV a p c.a.toNat) (cutV b q c.b.toNat)) p q ++ [c] ++ partG D a b (c.a.toNat + 1) (c.b.toNat + 1) cs
def midG (D : Lns → Lns → List Mt) (a b : Lns) : List Mt :=
  if longV (uniqV a b) = [] then diffV a b (dist a b) else partG D a b 0 0 (longV (uniqV a b))
/-- The pieces of the patience matching, with fuel. -/
def pcV : Nat → Lns → Lns → List Mt
  | 0, _, _ => []
  | f + 1, a, b => [⟨0, 0, (preN a b : Int)⟩] ++
      (if cutV a (preN a b) (a.length - sufN a b) = [] ∨ cutV b (preN a b) (b.length - sufN a b) = [] then []
        else shV (midG (pcV f) (cutV a (preN a b) (a.length - sufN a b)) (cutV b (preN a b) (b.length - sufN a b))) (preN a b) (preN a b)) ++
      [⟨(a.length : Int) - sufN a b, (b.length : Int) - sufN a b, (sufN a b : Int)⟩]
/-- The patience matching, with fuel. -/
def pdV (f : Nat) (a b : Lns) : List Mt := runsV (pcV f a b)
/-- .. as the reference builds it. -/
def rdV : Nat → Lns → Lns → List Mt
  | 0, _, _ => []
  | f + 1, a, b => runsV ([⟨0, 0, (preN a b : Int)⟩] ++
      (if cutV a (preN a b) (a.length - sufN a b) = [] ∨ cutV b (preN a b) (b.length - sufN a b) = [] then []
        else shV (midG (rdV f) (cutV a (preN a b) (a.length - sufN a b)) (cutV b (preN a b) (b.length - sufN a b))) (preN a b) (preN a b)) ++
      [⟨(a.length : Int) - sufN a b, (b.length : Int) - sufN a b, (sufN a b : Int)⟩])
theorem fold_part {D E : Lns → Lns → List Mt} (h : ∀ a b acc p q, (shV (D a b) p q).foldl keepV acc = (shV (E a b) p q).foldl keepV acc) (a b : Lns) (x y : Int) : ∀ (cs : List Mt) (p q : Nat) (acc : List Mt), (shV (partG D a b p q cs) x y).foldl keepV acc = (shV (partG E a b p q cs) x y).foldl keepV acc
  | [], p, q, acc => by simp only [partG]; rw [shV_shV, shV_shV]; exact h _ _ _ _ _
  | c :: cs, p, q, acc => by
    simp only [partG, shV_append, List.foldl_append, shV_shV]
    rw [h, fold_part h a b x y cs]
theorem rd_pd : ∀ (f : Nat) (a b acc : List _) (p q : Int), (shV (rdV f a b) p q).foldl keepV acc = (shV (pcV f a b) p q).foldl keepV acc
  | 0, _, _, _, _, _ => rfl
  | f + 1, a, b, acc, p, q => by
    rw [rdV, ← runs_by, fold_runsV, pcV]
    simp only [shV_append, List.foldl_append]
    congr 1
    split
    · rfl
    · rw [shV_shV, shV_shV]
      unfold midG
      split
      · rfl
      · exact fold_part (fun a b acc p q => rd_pd f a b acc p q) _ _ _ _ _ _ _ _
theorem rd_eq (f : Nat) (a b : Lns) : rdV (f + 1) a b = pdV (f + 1) a b := by
  have h1 := rd_pd (f + 1) a b [] 0 0
  rw [shV_zero, shV_zero] at h1
  have h2 : rdV (f + 1) a b = runsV (rdV (f + 1) a b) := by rw [rdV]; exact (fold_runsV [] _).symm
  rw [h2]; exact h1
end Go.Proofs.YtmmcjcaccicheaaGreatDoor
/- Contract: keep of the matcher. -/
namespace Go.Proofs.YtmmcjcaccicheaaGreatDoor
open Go.RowKit

theorem Blk.own_lt {w w' : World} {g : Nat} {o : Obj} {base : Nat} {e : TypeId} {size n : Nat} {v : Value} {xs : List Value} (hb : Blk w g o) (h : w.ownsRow base e size v n xs) (hlt : g < base) (hg : w.grownBy w' v.ownBlock) : Blk w' g o :=
  (hg.block g hb.lt (fun e => by have := (h.lt g e.symm).1; omega)).trans hb

/-- The matches lie within lists of at most L lines. -/
def Bnd (L : Nat) (ms : List Mt) : Prop := ∀ m ∈ ms, (0 ≤ m.a ∧ m.a + m.n ≤ L) ∧ (0 ≤ m.b ∧ m.b + m.n ≤ L) ∧ 0 ≤ m.n
theorem Bnd.wf {L : Nat} {ms : List Mt} (h : Bnd L ms) (hL : L ≤ 10000) : ∀ m ∈ ms, m.wf := fun m hm => by
  have := h m hm; exact mt_wf_small (by omega) (by omega) (by omega)
theorem Bnd.keep {L : Nat} {ms : List Mt} {m : Mt} (h : Bnd L ms) (hm : Bnd L [m]) : Bnd L (keepV ms m) := by
  have hm0 := hm m (by simp)
  by_cases h0 : m.n < 1
  · rw [keepV_zero h0]; exact h
  rcases snoc_or ms with rfl | ⟨r, x, rfl⟩
  · rw [keepV_nil h0]; exact hm
  · have hx := h x (by simp)
    by_cases h1 : x.a + x.n = m.a ∧ x.b + x.n = m.b
    · rw [keepV_join h0 h1.1 h1.2]
      intro y hy
      rcases List.mem_append.1 hy with hy | hy
      · exact h y (by simp [hy])
      · simp only [List.mem_singleton] at hy; subst hy; dsimp only; omega
    · rw [keepV_new h0 h1]
      intro y hy
      rcases List.mem_append.1 hy with hy | hy
      · exact h y hy
      · exact hm y hy

abbrev matO (A : Option Addr) (n c : Nat) (B : Option Addr) (m d : Nat) (v : Value) : Obj := .cells #[.slice A n c, .slice B m d, v] 108
/-- The matcher in its block, with the matches so far. -/
structure MatS (w : World) (gm base : Nat) (A : Option Addr) (n c : Nat) (B : Option Addr) (m d : Nat) (ms : List Mt) (v : Value) : Prop where
  blk : Blk w gm (matO A n c B m d v)
  own : w.ownsRow base 104 3 v ms.length (ms.flatMap Mt.cells)
  lt : gm < base
  le : base ≤ w.heap.size
/-- The matches have become ms'. -/
def Upd (w : World) (gm base : Nat) (A : Option Addr) (n c : Nat) (B : Option Addr) (m d : Nat) (ms : List Mt) (v : Value) (w' : World) : Prop :=
  ∃ v', MatS w' gm base A n c B m d ms v' ∧ Lv (fun g => g = gm ∨ v.ownBlock = some g) w w' ∧ (∀ g, v'.ownBlock = some g → v.ownBlock = some g ∨ w.heap.size ≤ g)
theorem Upd.trans {w w1 w2 : World} {gm base : Nat} {A : Option Addr} {n c : Nat} {B : Option Addr} {m d : Nat} {ms1 : List Mt} {v v1 : Value} {ms2 : List Mt} (h1 : Lv (fun g => g = gm ∨ v.ownBlock = some g) w w1) (h2 : ∀ g, v1.ownBlock = some g → v.ownBlock = some g ∨ w.heap.size ≤ g)
    (k : Upd w1 gm base A n c B m d ms2 v1 w2) (_ : MatS w1 gm base A n c B m d ms1 v1) : Upd w gm base A n c B m d ms2 v w2 := by
  obtain ⟨v2, k1, k2, k3⟩ := k
  refine ⟨v2, k1, h1.trans k2 (fun g hg h => ?_), fun g hg => ?_⟩
  · rcases h with h | h
    · exact .inl h
    · rcases h2 g h with h' | h'
      · exact .inr h'
      · omega
  · rcases k3 g hg with h | h
    · exact h2 g h
    · have := h1.size; exact .inr (by omega)
theorem flat_set (r : List Mt) (z : Mt) (u : Int) : ((r ++ [z]).flatMap Mt.cells).set (r.length * 3 + 2) (.int .i64 u) = (r ++ [(⟨z.a, z.b, u⟩ : Mt)]).flatMap Mt.cells := by
  rw [List.flatMap_append, List.flatMap_append, List.set_append_right _ _ (by rw [flat_len mt_cells_len]; omega)]
  congr 1
  rw [flat_len mt_cells_len, show r.length * 3 + 2 - r.length * 3 = 2 by omega]
  rfl
theorem infoM' : (Tryz.prog.info? 104).map (fun i => (i.zero, i.size, i.bytes)) = some (some (.agg #[.int .i64 0, .int .i64 0, .int .i64 0]), 3, 24) := by kernel_rfl
theorem underM' : Tryz.prog.underlying 66 = some (.slice 104) := by kernel_rfl

set_option maxRecDepth 100000 in
set_option maxHeartbeats 8000000 in
theorem keep_any (gm base : Nat) (A : Option Addr) (n c : Nat) (B : Option Addr) (m d : Nat) (ms : List Mt) (v : Value) (x y l : Int) (L : Nat) (w : World) (hS : MatS w gm base A n c B m d ms v) (hB : Bnd L ms) (hm : Bnd L [⟨x, y, l⟩]) (hL : L ≤ 1000) (hlen : ms.length ≤ 2000) :
    Calls Tryz.prog 72 #[.pointer (some ⟨gm, 0, none⟩), .int .i64 x, .int .i64 y, .int .i64 l] w fun e w' => (∃ u, e = .returned u) ∧ Upd w gm base A n c B m d (keepV ms ⟨x, y, l⟩) v w' := by
  have hb := hm ⟨x, y, l⟩ (by simp)
  dsimp only at hb
  obtain ⟨⟨b1, b2⟩, ⟨b3, b4⟩, b5⟩ := hb
  have HB := Lib.hid hB; have HS := Lib.hid hS; clear hm hB hS
  by_cases h0 : l = 0
  · subst h0
    go_enter Tryz.func72, Tryz.ntmps72
    go_wp2_with fail
    refine bodyPost_ret (results_none rfl _ _ _) rfl ?_
    exact ⟨⟨_, rfl⟩, v, by rw [keepV_zero (by show (0 : Int) < 1; omega)]; exact HS.out, Lv.refl _ _, fun g h => .inl h⟩
  have hl1 : ¬ (⟨x, y, l⟩ : Mt).n < 1 := by show ¬ l < 1; omega
  have HL1 := Lib.hid hl1; clear hl1
  have hz : (l == 0) = false := by simp; omega
  obtain ⟨inf, i1, i2, i3, i4⟩ := info_of infoM'
  have I1 := Lib.hid i1; have I2 := Lib.hid i2; have I3 := Lib.hid i3; have I4 := Lib.hid i4; clear i1 i2 i3 i4
  obtain ⟨c0, c1, c2⟩ := HS.out.blk.cells3
  obtain ⟨f0, f1, f2⟩ := HS.out.blk.free3
  have hgl := HS.out.blk.lt
  rcases snoc_or ms with rfl | ⟨r, ⟨p, q, z⟩, rfl⟩
  · obtain ⟨A1, k1, rfl, -, -⟩ := ownM_mts HS.out.own (by simp)
    go_enter Tryz.func72, Tryz.ntmps72
    go_wp2_with fail
    go_quiet (fail)
    have how0 : w.ownsRow base 104 3 (.slice A1 0 k1) 0 [] := HS.out.own
    have HOW0 := Lib.hid how0; clear how0
    go_wp2_with (at_builtin; refine wpList_append_size2 rfl (.tmp 77) (.tmp 82) 66 rfl base 104 inf _ 3 24 underM' I1.out I2.out I3.out I4.out rfl (by decide) _ _ _ (some ⟨(w.drewN nq).heap.size, 0, none⟩) 1 1 (Mt.cells ⟨x, y, l⟩) rfl (by simp [Act.eval]) rfl (by simp [Mt.cells, Value.oneCell']) (by simp only [maxLen]; omega) (by omega) (own_stab3 (((Ext.refl w).drewN nq).alloc _) HOW0.out) (Cells.new (w.drewN nq) _ _ rfl) (by have := HS.out.le; simp; omega) ?_; intro v' w2 hown hg hbk; have hbm := (HS.out.blk.ext (((Ext.refl w).drewN nq).alloc _)).own_lt (own_stab3 (((Ext.refl w).drewN nq).alloc _) HOW0.out) HS.out.lt hg; clear c0 c1 c2 f0 f1 f2; obtain ⟨e0, e1, e2⟩ := hbm.cells3; obtain ⟨y0, y1, y2⟩ := hbm.free3; obtain ⟨gv, cap', rfl⟩ := ownsRow_succ hown; have HBM := Lib.hid hbm; have HOW := Lib.hid hown; have HG := Lib.hid hg; have HBK := Lib.hid hbk; clear hbm hown hg hbk)
    refine bodyPost_end (results_none rfl _ _ _) rfl ?_
    have hlt := HS.out.lt
    have hle := HS.out.le
    have hx : Ext w ((w.drewN nq).alloc (.cells (Mt.cells ⟨x, y, l⟩).toArray 104)) := ((Ext.refl w).drewN nq).alloc _
    have hl2 := ((Lv.of_ext (S := fun g => g = gm ∨ (Value.slice A1 0 k1).ownBlock = some g) hx).grown HG.out (fun k hk _ => .inr hk)).setCell (p := ⟨gm, 2, none⟩) (fun _ => .inl rfl) (.slice (some ⟨gv, 0, none⟩) (0 + 1) cap')
    refine ⟨⟨_, rfl⟩, .slice (some ⟨gv, 0, none⟩) (0 + 1) cap', ⟨?_, ?_, hlt, Nat.le_trans hle hl2.size⟩, hl2, fun g hg => ?_⟩
    · have := HBM.out.put 2 (.slice (some ⟨gv, 0, none⟩) (0 + 1) cap')
      simpa using this
    · rw [keepV_nil (by show ¬ l < 1; omega)]
      have h1 := own_lv (S := fun g => g = gm) HOW.out (Lv.setCell (S := fun g => g = gm) (Lv.refl _ _) (p := ⟨gm, 2, none⟩) (fun _ => rfl) (.slice (some ⟨gv, 0, none⟩) (0 + 1) cap')) (fun g hg he => by have := (own_blk HOW.out hg).1; omega)
      simpa using h1
    · rcases HBK.out with h | ⟨g', h, h'⟩
      · rw [h] at hg; exact .inl hg
      · rw [h] at hg; cases hg
        exact .inr (Nat.le_trans hx.size h')
  · have hown := HS.out.own
    have hbz := HB.out ⟨p, q, z⟩ (by simp)
    dsimp only at hbz
    obtain ⟨⟨z1, z2⟩, ⟨z3, z4⟩, z5⟩ := hbz
    rw [List.length_append] at hlen hown
    simp only [List.length_singleton] at hlen hown
    obtain ⟨g1, k1, rfl⟩ := ownsRow_succ hown
    obtain ⟨A1, k2, hv, -, hM⟩ := ownM_mts hown (HB.out.wf (by omega))
    cases hv
    obtain ⟨ba, oa, mt, hA1, hba, hmt, -, d0, d1, d2⟩ := hM.get (k := r.length) (by omega)
    cases hA1
    rw [List.getElem?_append_right (Nat.le_refl _), Nat.sub_self] at hmt
    simp only [List.getElem?_cons_zero, Option.some.injEq] at hmt
    subst hmt
    simp only [Nat.zero_add] at d0 d1 d2
    have hfz := hown.frozenAt (r.length * 3 + 2)
    have HOW0 := Lib.hid hown; have D0 := Lib.hid d0
    clear hown hM
    have e1 : IntKind.i64.wrap (p + z) = p + z := wrap_in (by omega) (by omega)
    have e2 : IntKind.i64.wrap (q + z) = q + z := wrap_in (by omega) (by omega)
    have e3 : IntKind.i64.wrap (z + l) = z + l := wrap_in (by omega) (by omega)
    have r1 : r.length < r.length + 1 := by omega
    by_cases ha : p + z = x ∧ q + z = y
    case pos =>
      obtain ⟨ha1, ha2⟩ := ha
      have q1 : (p + z == x) = true := by simp [ha1]
      have q2 : (q + z == y) = true := by simp [ha2]
      have hk := keepV_join (r := r) (x := ⟨p, q, z⟩) (m := ⟨x, y, l⟩) HL1.out ha1 ha2
      have HK := Lib.hid hk; have HA1 := Lib.hid ha1; have HA2 := Lib.hid ha2; clear hk ha1 ha2
      go_enter Tryz.func72, Tryz.ntmps72
      go_wp2_with fail
      go_quiet (fail)
      go_wp2_with fail
      refine bodyPost_ret (results_none rfl _ _ _) rfl ?_
      have hst := (own_stab3 ((Ext.refl w).drewN nq) HOW0.out).stored (r.length * 3 + 2) (.int .i64 (z + l))
      rw [flat_set r ⟨p, q, z⟩ (z + l)] at hst
      have hE := (Ext.refl w).drewN nq
      refine ⟨⟨_, rfl⟩, .slice (some ⟨g1, 0, none⟩) (r.length + 1) k1, ⟨?_, ?_, HS.out.lt, ?_⟩, (Lv.of_ext hE).setCell (p := ⟨g1, r.length * 3 + 2, none⟩) (fun _ => .inr rfl) _, fun g h => .inl h⟩
      · exact (HS.out.blk.ext hE).far (by have := (HOW0.out.lt g1 rfl).1; have := HS.out.lt; show gm ≠ g1; omega) _
      · rw [HK.out]
        have := hst.1
        simpa using this
      · have := HS.out.le; simpa using this
    case neg =>
      have HNA := Lib.hid ha
      have hq : (p + z == x) = false ∨ ((p + z == x) = true ∧ (q + z == y) = false) := by
        by_cases h1 : p + z = x
        · exact .inr ⟨by simp [h1], by simp; exact fun h => ha ⟨h1, h⟩⟩
        · exact .inl (by simp [h1])
      clear ha
      rcases hq with q1 | ⟨q1, q2⟩
      · go_enter Tryz.func72, Tryz.ntmps72
        go_wp2_with fail
        go_quiet (fail)
        go_wp2_with (at_builtin; refine wpList_append_size2 rfl (.tmp 77) (.tmp 82) 66 rfl base 104 inf _ 3 24 underM' I1.out I2.out I3.out I4.out rfl (by decide) _ _ _ (some ⟨(w.drewN nq).heap.size, 0, none⟩) 1 1 (Mt.cells ⟨x, y, l⟩) rfl (by simp [Act.eval]) rfl (by simp [Mt.cells, Value.oneCell']) (by simp only [maxLen]; omega) (by omega) (own_stab3 (((Ext.refl w).drewN nq).alloc _) HOW0.out) (Cells.new (w.drewN nq) _ _ rfl) (by have := HS.out.le; simp; omega) ?_; intro v' w2 hown hg hbk; have hbm := (HS.out.blk.ext (((Ext.refl w).drewN nq).alloc _)).own_lt (own_stab3 (((Ext.refl w).drewN nq).alloc _) HOW0.out) HS.out.lt hg; clear c0 c1 c2 f0 f1 f2; obtain ⟨e0, e1, e2⟩ := hbm.cells3; obtain ⟨y0, y1, y2⟩ := hbm.free3; obtain ⟨gv, cap', rfl⟩ := ownsRow_succ hown; have HBM := Lib.hid hbm; have HOW := Lib.hid hown; have HG := Lib.hid hg; have HBK := Lib.hid hbk; clear hbm hown hg hbk)
        refine bodyPost_end (results_none rfl _ _ _) rfl ?_
        have hlt := HS.out.lt
        have hle := HS.out.le
        have hx : Ext w ((w.drewN nq).alloc (.cells (Mt.cells ⟨x, y, l⟩).toArray 104)) := ((Ext.refl w).drewN nq).alloc _
        have hl2 := ((Lv.of_ext (S := fun g => g = gm ∨ (Value.slice (some ⟨g1, 0, none⟩) (r.length + 1) k1).ownBlock = some g) hx).grown HG.out (fun k hk _ => .inr hk)).setCell (p := ⟨gm, 2, none⟩) (fun _ => .inl rfl) (.slice (some ⟨gv, 0, none⟩) (r.length + 1 + 1) cap')
        refine ⟨⟨_, rfl⟩, .slice (some ⟨gv, 0, none⟩) (r.length + 1 + 1) cap', ⟨?_, ?_, hlt, Nat.le_trans hle hl2.size⟩, hl2, fun g hg => ?_⟩
        · have := HBM.out.put 2 (.slice (some ⟨gv, 0, none⟩) (r.length + 1 + 1) cap')
          simpa using this
        · rw [keepV_new (by show ¬ l < 1; omega) HNA.out]
          have h1 := own_lv (S := fun g => g = gm) HOW.out (Lv.setCell (S := fun g => g = gm) (Lv.refl _ _) (p := ⟨gm, 2, none⟩) (fun _ => rfl) (.slice (some ⟨gv, 0, none⟩) (r.length + 1 + 1) cap')) (fun g hg he => by have := (own_blk HOW.out hg).1; omega)
          simpa using h1
        · rcases HBK.out with h | ⟨g', h, h'⟩
          · rw [h] at hg; exact .inl hg
          · rw [h] at hg; cases hg
            exact .inr (Nat.le_trans hx.size h')
      · go_enter Tryz.func72, Tryz.ntmps72
        go_wp2_with fail
        go_quiet (fail)
        go_wp2_with (at_builtin; refine wpList_append_size2 rfl (.tmp 77) (.tmp 82) 66 rfl base 104 inf _ 3 24 underM' I1.out I2.out I3.out I4.out rfl (by decide) _ _ _ (some ⟨(w.drewN nq).heap.size, 0, none⟩) 1 1 (Mt.cells ⟨x, y, l⟩) rfl (by simp [Act.eval]) rfl (by simp [Mt.cells, Value.oneCell']) (by simp only [maxLen]; omega) (by omega) (own_stab3 (((Ext.refl w).drewN nq).alloc _) HOW0.out) (Cells.new (w.drewN nq) _ _ rfl) (by have := HS.out.le; simp; omega) ?_; intro v' w2 hown hg hbk; have hbm := (HS.out.blk.ext (((Ext.refl w).drewN nq).alloc _)).own_lt (own_stab3 (((Ext.refl w).drewN nq).alloc _) HOW0.out) HS.out.lt hg; clear c0 c1 c2 f0 f1 f2; obtain ⟨e0, e1, e2⟩ := hbm.cells3; obtain ⟨y0, y1, y2⟩ := hbm.free3; obtain ⟨gv, cap', rfl⟩ := ownsRow_succ hown; have HBM := Lib.hid hbm; have HOW := Lib.hid hown; have HG := Lib.hid hg; have HBK := Lib.hid hbk; clear hbm hown hg hbk)
        refine bodyPost_end (results_none rfl _ _ _) rfl ?_
        have hlt := HS.out.lt
        have hle := HS.out.le
        have hx : Ext w ((w.drewN nq).alloc (.cells (Mt.cells ⟨x, y, l⟩).toArray 104)) := ((Ext.refl w).drewN nq).alloc _
        have hl2 := ((Lv.of_ext (S := fun g => g = gm ∨ (Value.slice (some ⟨g1, 0, none⟩) (r.length + 1) k1).ownBlock = some g) hx).grown HG.out (fun k hk _ => .inr hk)).setCell (p := ⟨gm, 2, none⟩) (fun _ => .inl rfl) (.slice (some ⟨gv, 0, none⟩) (r.length + 1 + 1) cap')
        refine ⟨⟨_, rfl⟩, .slice (some ⟨gv, 0, none⟩) (r.length + 1 + 1) cap', ⟨?_, ?_, hlt, Nat.le_trans hle hl2.size⟩, hl2, fun g hg => ?_⟩
        · have := HBM.out.put 2 (.slice (some ⟨gv, 0, none⟩) (r.length + 1 + 1) cap')
          simpa using this
        · rw [keepV_new (by show ¬ l < 1; omega) HNA.out]
          have h1 := own_lv (S := fun g => g = gm) HOW.out (Lv.setCell (S := fun g => g = gm) (Lv.refl _ _) (p := ⟨gm, 2, none⟩) (fun _ => rfl) (.slice (some ⟨gv, 0, none⟩) (r.length + 1 + 1) cap')) (fun g hg he => by have := (own_blk HOW.out hg).1; omega)
          simpa using h1
        · rcases HBK.out with h | ⟨g', h, h'⟩
          · rw [h] at hg; exact .inl hg
          · rw [h] at hg; cases hg
            exact .inr (Nat.le_trans hx.size h')
end Go.Proofs.YtmmcjcaccicheaaGreatDoor

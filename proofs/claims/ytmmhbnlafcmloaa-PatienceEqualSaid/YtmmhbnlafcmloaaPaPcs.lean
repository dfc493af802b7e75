/- The pieces of the patience matching, and how they are joined. No condition. -/
import Derived.Test.YtmmhbnlafcmloaaPaDefs
namespace Go.Proofs.Ytmmhbnlafcmloaa

/-- A match, moved. -/
def mvM (m : Mt) (x y : Int) : Mt := ⟨m.a + x, m.b + y, m.n⟩
def shV (l : List Mt) (x y : Int) : List Mt := l.map fun m => mvM m x y
theorem shV_append (l r : List Mt) (x y : Int) : shV (l ++ r) x y = shV l x y ++ shV r x y := by simp [shV]
theorem by_by (m : Mt) (x y p q : Int) : mvM (mvM m x y) p q = mvM m (x + p) (y + q) := by simp [mvM, Int.add_assoc]
theorem shV_shV (l : List Mt) (x y p q : Int) : shV (shV l x y) p q = shV l (x + p) (y + q) := by simp [shV, by_by]
theorem shV_zero (l : List Mt) : shV l 0 0 = l := by simp [shV, mvM]
/-- 'keep': one more match, joined to the last one where it follows that one. -/
def keepV (out : List Mt) (m : Mt) : List Mt :=
  if m.n < 1 then out else
  match out.getLast? with
  | some x => if x.a + x.n = m.a ∧ x.b + x.n = m.b then out.dropLast ++ [⟨x.a, x.b, x.n + m.n⟩] else out ++ [m]
  | none => out ++ [m]
theorem keepV_zero {out : List Mt} {m : Mt} (h : m.n < 1) : keepV out m = out := by unfold keepV; rw [if_pos h]
theorem keepV_nil {m : Mt} (h : ¬ m.n < 1) : keepV [] m = [m] := by unfold keepV; rw [if_neg h]; rfl
theorem keepV_join {r : List Mt} {x m : Mt} (h : ¬ m.n < 1) (h1 : x.a + x.n = m.a) (h2 : x.b + x.n = m.b) : keepV (r ++ [x]) m = r ++ [⟨x.a, x.b, x.n + m.n⟩] := by
  unfold keepV; rw [if_neg h]; simp [h1, h2]
theorem keepV_new {r : List Mt} {x m : Mt} (h : ¬ m.n < 1) (h1 : ¬ (x.a + x.n = m.a ∧ x.b + x.n = m.b)) : keepV (r ++ [x]) m = r ++ [x] ++ [m] := by
  unfold keepV; rw [if_neg h]; simp only [List.getLast?_append, List.getLast?_singleton, Option.some_or]; rw [if_neg h1]
def runsV (l : List Mt) : List Mt := l.foldl keepV []
theorem snoc_or (l : List Mt) : l = [] ∨ ∃ r x, l = r ++ [x] := by
  rcases List.eq_nil_or_concat l with h | ⟨r, x, h⟩
  · exact .inl h
  · exact .inr ⟨r, x, by rw [h]; simp⟩
theorem keepV_len (out : List Mt) (m : Mt) : (keepV out m).length ≤ out.length + 1 := by
  by_cases h : m.n < 1
  · rw [keepV_zero h]; omega
  rcases snoc_or out with rfl | ⟨r, x, rfl⟩
  · rw [keepV_nil h]; simp
  · by_cases h1 : x.a + x.n = m.a ∧ x.b + x.n = m.b
    · rw [keepV_join h h1.1 h1.2]; simp
    · rw [keepV_new h h1]; simp
theorem keepV_pos {out : List Mt} {m : Mt} (h : ∀ x ∈ out, 1 ≤ x.n) : ∀ x ∈ keepV out m, 1 ≤ x.n := by
  by_cases h0 : m.n < 1
  · rw [keepV_zero h0]; exact h
  rcases snoc_or out with rfl | ⟨r, x, rfl⟩
  · rw [keepV_nil h0]; intro y hy; simp only [List.mem_singleton] at hy; subst hy; omega
  · have hx := h x (by simp)
    by_cases h1 : x.a + x.n = m.a ∧ x.b + x.n = m.b
    · rw [keepV_join h0 h1.1 h1.2]
      intro y hy
      rcases List.mem_append.1 hy with hy | hy
      · exact h y (by simp [hy])
      · simp only [List.mem_singleton] at hy; subst hy; show 1 ≤ x.n + m.n; omega
    · rw [keepV_new h0 h1]
      intro y hy
      rcases List.mem_append.1 hy with hy | hy
      · exact h y hy
      · simp only [List.mem_singleton] at hy; subst hy; omega
theorem fold_pos : ∀ (l acc : List Mt), (∀ x ∈ acc, 1 ≤ x.n) → ∀ x ∈ l.foldl keepV acc, 1 ≤ x.n
  | [], _, h => h
  | _ :: l, _, h => fold_pos l _ (keepV_pos h)
theorem keepV_by (out : List Mt) (m : Mt) (x y : Int) : keepV (shV out x y) (mvM m x y) = shV (keepV out m) x y := by
  by_cases h0 : m.n < 1
  · rw [keepV_zero h0, keepV_zero (by exact h0)]
  rcases snoc_or out with rfl | ⟨r, z, rfl⟩
  · rw [keepV_nil h0]; show keepV [] _ = _; rw [keepV_nil (by exact h0)]; rfl
  · have e : shV (r ++ [z]) x y = shV r x y ++ [mvM z x y] := by rw [shV_append]; rfl
    rw [e]
    by_cases h1 : z.a + z.n = m.a ∧ z.b + z.n = m.b
    · rw [keepV_join h0 h1.1 h1.2, keepV_join (by exact h0) (by simp only [mvM]; omega) (by simp only [mvM]; omega), shV_append]; rfl
    · rw [keepV_new h0 h1, keepV_new (by exact h0) (by simp only [mvM]; omega), shV_append, shV_append]; rfl
theorem fold_by (x y : Int) : ∀ (l acc : List Mt), (shV l x y).foldl keepV (shV acc x y) = shV (l.foldl keepV acc) x y
  | [], _ => rfl
  | m :: l, acc => by
    show (shV l x y).foldl keepV (keepV (shV acc x y) (mvM m x y)) = _
    rw [keepV_by, fold_by x y l]; rfl
theorem runs_by (l : List Mt) (x y : Int) : runsV (shV l x y) = shV (runsV l) x y := fold_by x y l []
/-- Joining ahead of time changes nothing. -/
theorem fold_keep (acc R : List Mt) (m : Mt) (hR : ∀ x ∈ R, 1 ≤ x.n) : (keepV R m).foldl keepV acc = keepV (R.foldl keepV acc) m := by
  by_cases h0 : m.n < 1
  · rw [keepV_zero h0, keepV_zero h0]
  rcases snoc_or R with rfl | ⟨r, x, rfl⟩
  · rw [keepV_nil h0]; rfl
  · have hx := hR x (by simp)
    by_cases h1 : x.a + x.n = m.a ∧ x.b + x.n = m.b
    · rw [keepV_join h0 h1.1 h1.2, List.foldl_append, List.foldl_append]
      simp only [List.foldl_cons, List.foldl_nil]
      have hx0 : ¬ x.n < 1 := by omega
      have hxm : ¬ (⟨x.a, x.b, x.n + m.n⟩ : Mt).n < 1 := by show ¬ x.n + m.n < 1; omega
      rcases snoc_or (r.foldl keepV acc) with h | ⟨s, z, h⟩
      · rw [h, keepV_nil hxm, keepV_nil hx0]
        have := keepV_join (r := []) (x := x) (m := m) h0 h1.1 h1.2
        simpa using this.symm
      · rw [h]
        by_cases h2 : z.a + z.n = x.a ∧ z.b + z.n = x.b
        · rw [keepV_join hx0 h2.1 h2.2, keepV_join hxm h2.1 h2.2, keepV_join h0 (by show z.a + (z.n + x.n) = m.a; omega) (by show z.b + (z.n + x.n) = m.b; omega)]
          simp [Int.add_assoc]
        · rw [keepV_new hx0 h2, keepV_new hxm h2, keepV_join h0 h1.1 h1.2]
    · rw [keepV_new h0 h1, List.foldl_append]; rfl
theorem fold_runs (acc : List Mt) : ∀ (l R : List Mt), (∀ x ∈ R, 1 ≤ x.n) → (l.foldl keepV R).foldl keepV acc = l.foldl keepV (R.foldl keepV acc)
  | [], _, _ => rfl
  | m :: l, R, h => by
    rw [List.foldl_cons, fold_runs acc l _ (keepV_pos h), fold_keep acc R m h]; rfl
theorem fold_runsV (acc l : List Mt) : (runsV l).foldl keepV acc = l.foldl keepV acc := fold_runs acc l [] (by simp)

/-! ### Common ends, pieces -/
def preN (a b : Lns) : Nat := (folV a b 0 0).toNat
/-- How many lines more there are in common at the ends, when m are known and f may be asked. -/
def sufF (a b : Lns) : Nat → Nat → Nat
  | 0, m => m
  | f + 1, m => if mtB a b ((a.length : Int) - 1 - m) ((b.length : Int) - 1 - m) then sufF a b f (m + 1) else m
def sufN (a b : Lns) : Nat := sufF a b (min a.length b.length - preN a b) 0
theorem sufF_le (a b : Lns) : ∀ f m, m ≤ sufF a b f m ∧ sufF a b f m ≤ m + f
  | 0, m => by simp [sufF]
  | f + 1, m => by
    rw [sufF]
    split
    · have := sufF_le a b f (m + 1); omega
    · omega
theorem preN_spec (a b : Lns) : preN a b ≤ a.length ∧ preN a b ≤ b.length ∧ (∀ j, j < preN a b → mtB a b (j : Nat) (j : Nat) = true) ∧ mtB a b (preN a b : Nat) (preN a b : Nat) = false := by
  unfold preN
  obtain ⟨j, e1, e2, e3⟩ := folV_spec (a := a) (b := b) (x := 0) (y := 0) (k := 0) (by omega)
  have e4 : (((0 + j : Nat) : Int)).toNat = j := by omega
  rw [show ((0 : Nat) : Int) = 0 from rfl] at e1
  rw [e1, e4]
  refine ⟨?_, ?_, fun i hi => by have := e2 i hi; rwa [Nat.zero_add] at this, by rwa [Nat.zero_add] at e3⟩
  · rcases Nat.eq_zero_or_pos j with h0 | h0
    · omega
    · have := mtB_lt (e2 (j - 1) (by omega)); omega
  · rcases Nat.eq_zero_or_pos j with h0 | h0
    · omega
    · have := mtB_lt (e2 (j - 1) (by omega)); omega
theorem suf_le (a b : Lns) : preN a b + sufN a b ≤ a.length ∧ preN a b + sufN a b ≤ b.length := by
  obtain ⟨h1, h2, _⟩ := preN_spec a b
  have := sufF_le a b (min a.length b.length - preN a b) 0
  unfold sufN; omega
def cutV (a : Lns) (x y : Nat) : Lns := (a.drop x).take (y - x)
theorem cutV_len {a : Lns} {x y : Nat} (h : y ≤ a.length) : (cutV a x y).length = y - x := by
  unfold cutV; rw [List.length_take, List.length_drop]; omega
/-- The parts around the matches of a chain. -/
def partG (D : Lns → Lns → List Mt) (a b : Lns) : Nat → Nat → List Mt → List Mt
  | p, q, [] => shV (D (a.drop p) (b.drop q)) p q
  | p, q, c :: cs => shV (D (cutV a p c.a.toNat) (cutV b q c.b.toNat)) p q ++ [c] ++ partG D a b (c.a.toNat + 1) (c.b.toNat + 1) cs
def midG (D : Lns → Lns → List Mt) (a b : Lns) : List Mt :=
  if longV (uniqV a b) = [] then diffV a b (dist a b) else partG D a b 0 0 (longV (uniqV a b))
/-- The pieces of the patience matching, with fuel. -/
def pcV : Nat → Lns → Lns → List Mt
  | 0, _, _ => []
  | f + 1, a, b => [⟨0, 0, (preN a b : Int)⟩] ++
      (if cutV a (preN a b) (a.length - sufN a b) = [] ∨ cutV b (preN a b) (b.length - sufN a b) = [] then []
        else shV (midG (pcV f) (cutV a (preN a b) (a.length - sufN a b)) (cutV b (preN a b) (b.length - sufN a b))) (preN a b) (preN a b)) ++
      [⟨(a.length : Int) - sufN a b, (b.length : Int) - sufN a b, (sufN a b : Int)⟩]
/-- The patience matching, with fuel. -/
def pdV (f : Nat) (a b : Lns) : List Mt := runsV (pcV f a b)
/-- .. as the reference builds it. -/
def rdV : Nat → Lns → Lns → List Mt
  | 0, _, _ => []
  | f + 1, a, b => runsV ([⟨0, 0, (preN a b : Int)⟩] ++
      (if cutV a (preN a b) (a.length - sufN a b) = [] ∨ cutV b (preN a b) (b.length - sufN a b) = [] then []
        else shV (midG (rdV f) (cutV a (preN a b) (a.length - sufN a b)) (cutV b (preN a b) (b.length - sufN a b))) (preN a b) (preN a b)) ++
      [⟨(a.length : Int) - sufN a b, (b.length : Int) - sufN a b, (sufN a b : Int)⟩])
theorem fold_part {D E : Lns → Lns → List Mt} (h : ∀ a b acc p q, (shV (D a b) p q).foldl keepV acc = (shV (E a b) p q).foldl keepV acc) (a b : Lns) (x y : Int) : ∀ (cs : List Mt) (p q : Nat) (acc : List Mt), (shV (partG D a b p q cs) x y).foldl keepV acc = (shV (partG E a b p q cs) x y).foldl keepV acc
  | [], p, q, acc => by simp only [partG]; rw [shV_shV, shV_shV]; exact h _ _ _ _ _
  | c :: cs, p, q, acc => by
    simp only [partG, shV_append, List.foldl_append, shV_shV]
    rw [h, fold_part h a b x y cs]
theorem rd_pd : ∀ (f : Nat) (a b acc : List _) (p q : Int), (shV (rdV f a b) p q).foldl keepV acc = (shV (pcV f a b) p q).foldl keepV acc
  | 0, _, _, _, _, _ => rfl
  | f + 1, a, b, acc, p, q => by
    rw [rdV, ← runs_by, fold_runsV, pcV]
    simp only [shV_append, List.foldl_append]
    congr 1
    split
    · rfl
    · rw [shV_shV, shV_shV]
      unfold midG
      split
      · rfl
      · exact fold_part (fun a b acc p q => rd_pd f a b acc p q) _ _ _ _ _ _ _ _
theorem rd_eq (f : Nat) (a b : Lns) : rdV (f + 1) a b = pdV (f + 1) a b := by
  have h1 := rd_pd (f + 1) a b [] 0 0
  rw [shV_zero, shV_zero] at h1
  have h2 : rdV (f + 1) a b = runsV (rdV (f + 1) a b) := by rw [rdV]; exact (fold_runsV [] _).symm
  rw [h2]; exact h1
end Go.Proofs.Ytmmhbnlafcmloaa

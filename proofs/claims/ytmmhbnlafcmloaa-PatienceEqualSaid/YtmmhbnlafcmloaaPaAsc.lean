/- The chain ascends; how many pieces there are, and where they lie. No condition. -/
import Derived.Test.YtmmhbnlafcmloaaPaPcs
namespace Go.Proofs.Ytmmhbnlafcmloaa

theorem whP_lt' (b : Lns) (s : ByteArray) : ∀ n, 0 < n → whP b s n < n
  | 0, h => by omega
  | n + 1, _ => by
    rw [whP_succ]
    split
    · omega
    · rcases Nat.eq_zero_or_pos n with rfl | h0
      · simp [whP]
      · have := whP_lt' b s n h0; omega
theorem uniq_mem (a b : Lns) : ∀ k, k ≤ a.length → ∀ m ∈ uniqP a b k, 0 ≤ m.a ∧ m.a < k ∧ 0 ≤ m.b ∧ m.b < b.length ∧ m.n = 1
  | 0, _, m, hm => by simp [uniqP] at hm
  | k + 1, hk, m, hm => by
    obtain ⟨s, hs⟩ : ∃ s, a[k]? = some s := ⟨a[k], List.getElem?_eq_getElem (by omega)⟩
    rw [uniqP_succ b hs] at hm
    by_cases h : cnt a s = 1 ∧ cnt b s = 1
    · rw [if_pos h] at hm
      rcases List.mem_append.1 hm with hm | hm
      · have := uniq_mem a b k (by omega) m hm; omega
      · simp only [List.mem_singleton] at hm
        subst hm
        have hw : whV b s < b.length := whP_lt' b s _ (by have := cnt_le b s; omega)
        dsimp only; omega
    · rw [if_neg h] at hm
      have := uniq_mem a b k (by omega) m hm; omega
theorem uniq_pair (a b : Lns) : ∀ k, k ≤ a.length → (uniqP a b k).Pairwise (fun x y => x.a < y.a)
  | 0, _ => by simp [uniqP]
  | k + 1, hk => by
    obtain ⟨s, hs⟩ : ∃ s, a[k]? = some s := ⟨a[k], List.getElem?_eq_getElem (by omega)⟩
    rw [uniqP_succ b hs]
    by_cases h : cnt a s = 1 ∧ cnt b s = 1
    · rw [if_pos h]
      refine List.pairwise_append.2 ⟨uniq_pair a b k (by omega), by simp, fun x hx y hy => ?_⟩
      simp only [List.mem_singleton] at hy
      subst hy
      have := uniq_mem a b k (by omega) x hx
      dsimp only; omega
    · rw [if_neg h]; exact uniq_pair a b k (by omega)
theorem pair_get {l : List Mt} (h : l.Pairwise (fun x y => x.a < y.a)) {i j : Nat} {x y : Mt} (hij : i < j) (hx : l[i]? = some x) (hy : l[j]? = some y) : x.a < y.a := by
  have hj := (List.getElem?_eq_some_iff.1 hy).1
  have hi := (List.getElem?_eq_some_iff.1 hx).1
  have := List.pairwise_iff_getElem.1 h i j hi hj hij
  rw [(List.getElem?_eq_some_iff.1 hx).2, (List.getElem?_eq_some_iff.1 hy).2] at this
  exact this
theorem getD_at {l : List Mt} {k : Nat} (h : k < l.length) : l[k]? = some (l.getD k ⟨0, 0, 0⟩) := by
  rw [List.getElem?_eq_getElem h, List.getD_eq_getElem?_getD, List.getElem?_eq_getElem h]; rfl
/-- The chain ascends in both lists. -/
theorem chain_asc {l : List Mt} (hl : l.Pairwise (fun x y => x.a < y.a)) : ∀ j, j ≤ mostV (tailsV l) → (chainP l (tailsV l) (mostV (tailsV l)) j).Pairwise (fun x y => x.a < y.a ∧ x.b < y.b) ∧ (∀ x ∈ chainP l (tailsV l) (mostV (tailsV l)) j, x ∈ l) ∧
      (∀ k : Nat, lastI l (tailsV l) (mostV (tailsV l)) j = k → k < l.length ∧ ∀ x ∈ chainP l (tailsV l) (mostV (tailsV l)) j, x = l.getD k ⟨0, 0, 0⟩ ∨ (x.a < (l.getD k ⟨0, 0, 0⟩).a ∧ x.b < (l.getD k ⟨0, 0, 0⟩).b))
  | 0, _ => ⟨by simp [chainP], by simp [chainP], fun k h => by have : (-1 : Int) = k := h; omega⟩
  | j + 1, hj => by
    obtain ⟨h1, h2, h3⟩ := chain_asc hl j (by omega)
    obtain ⟨k, hk, e1, e2, _⟩ := last_ok l j (by omega)
    have hkx := getD_at hk
    have key : ∀ x ∈ chainP l (tailsV l) (mostV (tailsV l)) j, x.a < (l.getD k ⟨0, 0, 0⟩).a ∧ x.b < (l.getD k ⟨0, 0, 0⟩).b := by
      intro x hx
      rcases Nat.eq_zero_or_pos j with rfl | h0
      · simp [chainP] at hx
      · obtain ⟨j', rfl⟩ : ∃ i, j = i + 1 := ⟨j - 1, by omega⟩
        obtain ⟨q, hq, g1, _, _⟩ := last_ok l j' (by omega)
        have hqk : q < k := by have := e2.1; rw [g1] at this; omega
        have hqx := getD_at hq
        have ha := pair_get hl hqk hqx hkx
        have hb : (l.getD q ⟨0, 0, 0⟩).b < (l.getD k ⟨0, 0, 0⟩).b := by
          rcases e2.2.2 with h | h
          · rw [g1] at h; omega
          · rw [g1] at h; simpa [bOf] using h
        rcases (h3 q g1).2 x hx with rfl | ⟨u1, u2⟩
        · exact ⟨ha, hb⟩
        · omega
    rw [chainP_succ, e1, Int.toNat_natCast]
    refine ⟨List.pairwise_append.2 ⟨h1, by simp, fun x hx y hy => ?_⟩, fun x hx => ?_, fun k' hk' => ?_⟩
    · simp only [List.mem_singleton] at hy
      subst hy; exact key x hx
    · rcases List.mem_append.1 hx with hx | hx
      · exact h2 x hx
      · simp only [List.mem_singleton] at hx
        subst hx; exact List.mem_of_getElem? hkx
    · obtain rfl : k' = k := by omega
      refine ⟨hk, fun x hx => ?_⟩
      rcases List.mem_append.1 hx with hx | hx
      · exact .inr (key x hx)
      · simp only [List.mem_singleton] at hx
        exact .inl hx
/-- A chain that ascends from (x, y) on, within (A, B). -/
def Asc (A B : Nat) : Nat → Nat → List Mt → Prop
  | x, y, [] => x ≤ A ∧ y ≤ B
  | x, y, c :: cs => (x : Int) ≤ c.a ∧ (y : Int) ≤ c.b ∧ c.a < A ∧ c.b < B ∧ c.n = 1 ∧ Asc A B (c.a.toNat + 1) (c.b.toNat + 1) cs
theorem asc_of {A B : Nat} : ∀ (cs : List Mt) (x y : Nat), x ≤ A → y ≤ B → cs.Pairwise (fun x y => x.a < y.a ∧ x.b < y.b) → (∀ c ∈ cs, (x : Int) ≤ c.a ∧ (y : Int) ≤ c.b ∧ c.a < A ∧ c.b < B ∧ c.n = 1) → Asc A B x y cs
  | [], _, _, hx, hy, _, _ => ⟨hx, hy⟩
  | c :: cs, x, y, hx, hy, hp, h => by
    obtain ⟨h1, h2, h3, h4, h5⟩ := h c (by simp)
    obtain ⟨p1, p2⟩ := List.pairwise_cons.1 hp
    refine ⟨h1, h2, h3, h4, h5, asc_of cs _ _ (by omega) (by omega) p2 (fun d hd => ?_)⟩
    have := h d (by simp [hd])
    have := p1 d hd
    omega
theorem uniq_asc (a b : Lns) : Asc a.length b.length 0 0 (longV (uniqV a b)) := by
  obtain ⟨h1, h2, _⟩ := chain_asc (uniq_pair a b a.length (Nat.le_refl _)) (mostV (tailsV (uniqV a b))) (Nat.le_refl _)
  refine asc_of _ _ _ (Nat.zero_le _) (Nat.zero_le _) h1 (fun c hc => ?_)
  have := uniq_mem a b a.length (Nat.le_refl _) c (h2 c hc)
  omega

/-! ### How many pieces -/
theorem cut_len (a : Lns) (x y : Nat) : (cutV a x y).length ≤ y - x := by unfold cutV; rw [List.length_take]; omega
theorem part_len {D : Lns → Lns → List Mt} {a b : Lns} (hD : ∀ x y : Lns, x.length < a.length + 1 → (D x y).length ≤ 5 * (x.length + y.length) + 2) : ∀ (cs : List Mt) (p q : Nat), Asc a.length b.length p q cs → (partG D a b p q cs).length + 5 * (p + q) + 7 * cs.length ≤ 5 * (a.length + b.length) + 2
  | [], p, q, h => by
    obtain ⟨h1, h2⟩ := h
    simp only [partG, shV, List.length_map, List.length_nil]
    have := hD (a.drop p) (b.drop q) (by rw [List.length_drop]; omega)
    rw [List.length_drop, List.length_drop] at this
    omega
  | c :: cs, p, q, h => by
    obtain ⟨h1, h2, h3, h4, h5, h6⟩ := h
    have ih := part_len hD cs _ _ h6
    have h7 := cut_len a p c.a.toNat
    have h8 := cut_len b q c.b.toNat
    have := hD (cutV a p c.a.toNat) (cutV b q c.b.toNat) (by omega)
    simp only [partG, shV, List.length_append, List.length_map, List.length_cons, List.length_nil]
    omega
theorem pc_len : ∀ (f : Nat) (a b : Lns), (pcV f a b).length ≤ 5 * (a.length + b.length) + 2
  | 0, a, b => by simp [pcV]
  | f + 1, a, b => by
    have hs := suf_le a b
    have hx := cut_len a (preN a b) (a.length - sufN a b)
    have hy := cut_len b (preN a b) (b.length - sufN a b)
    rw [pcV]
    simp only [List.length_append, List.length_singleton]
    split
    · simp
    · rename_i hne
      have hx0 : (cutV a (preN a b) (a.length - sufN a b)) ≠ [] := fun h => hne (.inl h)
      have hy0 : (cutV b (preN a b) (b.length - sufN a b)) ≠ [] := fun h => hne (.inr h)
      have hx1 := List.length_pos_iff.2 hx0
      have hy1 := List.length_pos_iff.2 hy0
      simp only [shV, List.length_map]
      unfold midG
      split
      · have h1 := diff_len (cutV a (preN a b) (a.length - sufN a b)) (cutV b (preN a b) (b.length - sufN a b))
        have h2 := dist_le (cutV a (preN a b) (a.length - sufN a b)) (cutV b (preN a b) (b.length - sufN a b))
        omega
      · rename_i hc
        have h1 := part_len (D := pcV f) (a := cutV a (preN a b) (a.length - sufN a b)) (b := cutV b (preN a b) (b.length - sufN a b)) (fun x y _ => pc_len f x y) _ 0 0 (uniq_asc _ _)
        have h2 := List.length_pos_iff.2 hc
        omega
end Go.Proofs.Ytmmhbnlafcmloaa

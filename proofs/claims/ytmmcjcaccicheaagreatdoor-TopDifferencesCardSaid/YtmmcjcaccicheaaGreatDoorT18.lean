/- PaValP: parts of the proof of TopDifferences, one text behind the other. No condition. -/
import Derived.Test.YtmmcjcaccicheaaGreatDoorT17
/- The pieces of the patience matching are a valid matching. No condition. -/
namespace Go.Proofs.YtmmcjcaccicheaaGreatDoor

/-- Runs that ascend from (x, y) to (X, Y). -/
def PcS (a b : Lns) : Int → Int → List Mt → Int → Int → Prop
  | x, y, [], X, Y => x ≤ X ∧ y ≤ Y
  | x, y, m :: r, X, Y => 0 ≤ m.n ∧ x ≤ m.a ∧ y ≤ m.b ∧ (∀ i : Nat, (i : Int) < m.n → mtB a b (m.a + i) (m.b + i) = true) ∧ PcS a b (m.a + m.n) (m.b + m.n) r X Y
theorem PcS.mono {a b : Lns} : ∀ {l : List Mt} {x y x' y' X Y X' Y' : Int}, PcS a b x y l X Y → x' ≤ x → y' ≤ y → X ≤ X' → Y ≤ Y' → PcS a b x' y' l X' Y'
  | [], _, _, _, _, _, _, _, _, h, h1, h2, h3, h4 => ⟨Int.le_trans (Int.le_trans h1 h.1) h3, Int.le_trans (Int.le_trans h2 h.2) h4⟩
  | m :: r, x, y, x', y', X, Y, X', Y', h, h1, h2, h3, h4 => by
    obtain ⟨g1, g2, g3, g4, g5⟩ := h
    exact ⟨g1, by omega, by omega, g4, PcS.mono g5 (Int.le_refl _) (Int.le_refl _) h3 h4⟩
theorem PcS.append {a b : Lns} : ∀ {l r : List Mt} {x y X Y X' Y' : Int}, PcS a b x y l X Y → PcS a b X Y r X' Y' → PcS a b x y (l ++ r) X' Y'
  | [], _, _, _, _, _, _, _, h, h2 => h2.mono h.1 h.2 (Int.le_refl _) (Int.le_refl _)
  | _ :: _, _, _, _, _, _, _, _, h, h2 => ⟨h.1, h.2.1, h.2.2.1, h.2.2.2.1, PcS.append h.2.2.2.2 h2⟩
theorem cut_get {a : Lns} {p q i : Nat} {s : ByteArray} (h : (cutV a p q)[i]? = some s) : a[p + i]? = some s := by
  unfold cutV at h
  have hi : i < q - p := by have := (List.getElem?_eq_some_iff.1 h).1; rw [List.length_take] at this; omega
  rwa [List.getElem?_take_of_lt hi, List.getElem?_drop] at h
theorem mtB_cut {a b : Lns} {p p' q q' : Nat} {i j : Int} (h : mtB (cutV a p p') (cutV b q q') i j = true) : mtB a b (i + p) (j + q) = true := by
  obtain ⟨h1, h2, h3, h4⟩ := mtB_lt h
  obtain ⟨i, rfl⟩ : ∃ k : Nat, i = k := ⟨i.toNat, by omega⟩
  obtain ⟨j, rfl⟩ : ∃ k : Nat, j = k := ⟨j.toNat, by omega⟩
  obtain ⟨s, hs⟩ : ∃ s, (cutV a p p')[i]? = some s := ⟨_, List.getElem?_eq_getElem (by omega)⟩
  obtain ⟨t, ht⟩ : ∃ t, (cutV b q q')[j]? = some t := ⟨_, List.getElem?_eq_getElem (by omega)⟩
  rw [mtB_at hs ht] at h
  have h7 := cut_get hs; have h8 := cut_get ht
  rw [show (i : Int) + p = ((p + i : Nat) : Int) by omega, show (j : Int) + q = ((q + j : Nat) : Int) by omega, mtB_at h7 h8]
  exact h
theorem PcS.sh {a b : Lns} {p p' q q' : Nat} : ∀ {l : List Mt} {x y X Y : Int}, PcS (cutV a p p') (cutV b q q') x y l X Y → PcS a b (x + p) (y + q) (shV l p q) (X + p) (Y + q)
  | [], _, _, _, _, h => ⟨by have := h.1; omega, by have := h.2; omega⟩
  | m :: r, x, y, X, Y, h => by
    obtain ⟨g1, g2, g3, g4, g5⟩ := h
    have ih := PcS.sh g5
    refine ⟨g1, by simp only [mvM]; omega, by simp only [mvM]; omega, fun i hi => ?_, ?_⟩
    · have := mtB_cut (g4 i hi)
      simp only [mvM]
      rw [show m.a + (p : Int) + (i : Int) = m.a + i + p by omega, show m.b + (q : Int) + (i : Int) = m.b + i + q by omega]
      exact this
    · simp only [mvM]
      rw [show m.a + (p : Int) + m.n = m.a + m.n + p by omega, show m.b + (q : Int) + m.n = m.b + m.n + q by omega]
      exact ih
theorem drop_cut (a : Lns) (p : Nat) : a.drop p = cutV a p a.length := by
  unfold cutV; rw [List.take_of_length_le (by rw [List.length_drop]; omega)]
theorem PcS.shd {a b : Lns} {p q : Nat} {l : List Mt} {x y X Y : Int} (h : PcS (a.drop p) (b.drop q) x y l X Y) : PcS a b (x + p) (y + q) (shV l p q) (X + p) (Y + q) := by
  rw [drop_cut, drop_cut] at h; exact h.sh
theorem check_pcs {a b : Lns} : ∀ (l : List Mt) (x y : Int), checkV a b x y l = 0 → x ≤ a.length → y ≤ b.length → PcS a b x y l a.length b.length
  | [], _, _, _, hx, hy => ⟨hx, hy⟩
  | m :: r, x, y, h, hx, hy => by
    rw [checkV] at h
    by_cases hc : codeV a b x y m = 0
    · rw [if_pos hc] at h
      obtain ⟨h1, h2, h3, h4, h5, h6, h7, h8, h9⟩ := codeV_zero hc
      refine ⟨by omega, h6, h7, fun i hi => ?_, check_pcs r _ _ h h4 h5⟩
      have := slices_run (by omega) (by omega) h9 i (by omega)
      rw [show m.a + (i : Int) = ((m.a.toNat + i : Nat) : Int) by omega, show m.b + (i : Int) = ((m.b.toNat + i : Nat) : Int) by omega]
      exact this
    · rw [if_neg hc] at h; exact absurd h hc
theorem check_pcs0 {a b : Lns} {l : List Mt} (h : checkV a b (-1) (-1) l = 0) : PcS a b 0 0 l a.length b.length := by
  cases l with
  | nil => exact ⟨Int.natCast_nonneg _, Int.natCast_nonneg _⟩
  | cons m r =>
    have hp := check_pcs _ _ _ h (by omega) (by omega)
    rw [checkV] at h
    by_cases hc : codeV a b (-1) (-1) m = 0
    · obtain ⟨h1, h2, h3, _⟩ := codeV_zero hc
      exact ⟨hp.1, h2, h3, hp.2.2.2⟩
    · rw [if_neg hc] at h; exact absurd h hc

/-! ### The unique matches are common lines -/
theorem wh_get (b : Lns) (s : ByteArray) : ∀ k, k ≤ b.length → 0 < cnt (b.take k) s → b[whP b s k]? = some s
  | 0, _, h => by simp [cnt] at h
  | k + 1, hk, h => by
    obtain ⟨t, ht⟩ : ∃ t, b[k]? = some t := ⟨b[k], List.getElem?_eq_getElem (by omega)⟩
    rw [whP_succ, ht]
    by_cases hst : t = s
    · subst hst; rw [if_pos rfl, ht]
    · rw [if_neg (fun e => hst (Option.some.inj e))]
      rw [cnt_take ht, if_neg hst] at h
      exact wh_get b s k (by omega) (by omega)
theorem uniq_mt (a b : Lns) : ∀ k, k ≤ a.length → ∀ m ∈ uniqP a b k, mtB a b m.a m.b = true
  | 0, _, m, hm => by simp [uniqP] at hm
  | k + 1, hk, m, hm => by
    obtain ⟨s, hs⟩ : ∃ s, a[k]? = some s := ⟨a[k], List.getElem?_eq_getElem (by omega)⟩
    rw [uniqP_succ b hs] at hm
    by_cases h : cnt a s = 1 ∧ cnt b s = 1
    · rw [if_pos h] at hm
      rcases List.mem_append.1 hm with hm | hm
      · exact uniq_mt a b k (by omega) m hm
      · simp only [List.mem_singleton] at hm
        subst hm
        have hw := wh_get b s b.length (Nat.le_refl _) (by rw [List.take_length]; omega)
        have e : mtB a b (k : Int) (whV b s : Int) = decide (s = s) := mtB_at hs hw
        rw [e]; simp
    · rw [if_neg h] at hm; exact uniq_mt a b k (by omega) m hm
theorem long_mt (a b : Lns) : ∀ c ∈ longV (uniqV a b), mtB a b c.a c.b = true := fun c hc =>
  uniq_mt a b a.length (Nat.le_refl _) c ((chain_asc (uniq_pair a b a.length (Nat.le_refl _)) _ (Nat.le_refl _)).2.1 c hc)

/-! ### All the pieces -/
theorem part_pcs {D : Lns → Lns → List Mt} (hD : ∀ x y : Lns, PcS x y 0 0 (D x y) x.length y.length) (a b : Lns) : ∀ (cs : List Mt) (p q : Nat), Asc a.length b.length p q cs → (∀ c ∈ cs, mtB a b c.a c.b = true) → PcS a b p q (partG D a b p q cs) a.length b.length
  | [], p, q, h, _ => by
    obtain ⟨h1, h2⟩ := h
    have := (hD (a.drop p) (b.drop q)).shd
    rw [List.length_drop, List.length_drop] at this
    exact this.mono (by omega) (by omega) (by omega) (by omega)
  | c :: cs, p, q, h, hm => by
    obtain ⟨h1, h2, h3, h4, h5, h6⟩ := h
    have ih := part_pcs hD a b cs _ _ h6 (fun d hd => hm d (by simp [hd]))
    have hs := (hD (cutV a p c.a.toNat) (cutV b q c.b.toNat)).sh
    rw [cutV_len (by omega), cutV_len (by omega)] at hs
    have hc : PcS a b c.a c.b [c] (c.a.toNat + 1 : Nat) (c.b.toNat + 1 : Nat) := by
      refine ⟨by omega, Int.le_refl _, Int.le_refl _, fun i hi => ?_, by omega, by omega⟩
      have e0 : (i : Int) = 0 := by omega
      rw [e0, Int.add_zero, Int.add_zero]
      exact hm c (by simp)
    simp only [partG]
    exact ((hs.mono (by omega) (by omega) (by omega) (by omega)).append hc).append ih
theorem suf_mt (a b : Lns) : ∀ i : Nat, (i : Int) < sufN a b → mtB a b ((a.length : Int) - sufN a b + i) ((b.length : Int) - sufN a b + i) = true := fun i hi => by
  have := sufF_spec a b (min a.length b.length - preN a b) 0 (fun j hj => by omega) (sufN a b - 1 - i) (by unfold sufN at *; omega)
  rw [show (a.length : Int) - 1 - (sufN a b - 1 - i : Nat) = (a.length : Int) - sufN a b + i by omega, show (b.length : Int) - 1 - (sufN a b - 1 - i : Nat) = (b.length : Int) - sufN a b + i by omega] at this
  exact this
theorem pc_pcs : ∀ (f : Nat) (a b : Lns), PcS a b 0 0 (pcV f a b) a.length b.length
  | 0, a, b => ⟨Int.natCast_nonneg _, Int.natCast_nonneg _⟩
  | f + 1, a, b => by
    obtain ⟨s1, s2⟩ := suf_le a b
    have hsm := suf_mt a b
    obtain ⟨q1, q2, q3, _⟩ := preN_spec a b
    rw [pcV]
    have h1 : PcS a b 0 0 [⟨0, 0, (preN a b : Int)⟩] (preN a b) (preN a b) := by
      refine ⟨Int.natCast_nonneg _, Int.le_refl _, Int.le_refl _, fun i hi => ?_, by dsimp only; omega, by dsimp only; omega⟩
      have := q3 i (by dsimp only at hi; omega)
      rwa [Int.zero_add]
    have h3 : PcS a b ((a.length : Int) - sufN a b) ((b.length : Int) - sufN a b) [⟨(a.length : Int) - sufN a b, (b.length : Int) - sufN a b, (sufN a b : Int)⟩] a.length b.length := by
      refine ⟨Int.natCast_nonneg _, Int.le_refl _, Int.le_refl _, fun i hi => ?_, by dsimp only; omega, by dsimp only; omega⟩
      exact hsm i hi
    refine (h1.append (X' := (a.length : Int) - sufN a b) (Y' := (b.length : Int) - sufN a b) ?_).append h3
    split
    · exact ⟨by omega, by omega⟩
    · have hx := cutV_len (a := a) (x := preN a b) (y := a.length - sufN a b) (by omega)
      have hy := cutV_len (a := b) (x := preN a b) (y := b.length - sufN a b) (by omega)
      have hm : PcS (cutV a (preN a b) (a.length - sufN a b)) (cutV b (preN a b) (b.length - sufN a b)) 0 0 (midG (pcV f) (cutV a (preN a b) (a.length - sufN a b)) (cutV b (preN a b) (b.length - sufN a b))) (cutV a (preN a b) (a.length - sufN a b)).length (cutV b (preN a b) (b.length - sufN a b)).length := by
        unfold midG
        split
        · exact check_pcs0 (diff_ok _ _).1
        · exact part_pcs (pc_pcs f) _ _ _ 0 0 (uniq_asc _ _) (long_mt _ _)
      have := hm.sh
      rw [hx, hy] at this
      exact this.mono (by omega) (by omega) (by omega) (by omega)

/-! ### Joined, they are valid -/
theorem check_split {a b : Lns} (m : Mt) : ∀ (l : List Mt) (x y : Int), checkV a b x y (l ++ [m]) = 0 → checkV a b x y l = 0 ∧ codeV a b (endV x y l).1 (endV x y l).2 m = 0
  | [], x, y, h => by
    change checkV a b x y [m] = 0 at h
    refine ⟨rfl, ?_⟩
    rw [checkV] at h
    show codeV a b x y m = 0
    by_cases hc : codeV a b x y m = 0
    · exact hc
    · rw [if_neg hc] at h; exact h
  | m' :: l, x, y, h => by
    rw [List.cons_append, checkV] at h
    by_cases hc : codeV a b x y m' = 0
    · rw [if_pos hc] at h
      rw [checkV, if_pos hc]
      exact check_split m l _ _ h
    · rw [if_neg hc] at h; exact absurd h hc
theorem run_ok {a b : Lns} {m : Mt} (h2 : 0 ≤ m.a) (h3 : 0 ≤ m.b) (h : ∀ i : Nat, (i : Int) < m.n → mtB a b (m.a + i) (m.b + i) = true) : (a.drop m.a.toNat).take m.n.toNat = (b.drop m.b.toNat).take m.n.toNat := by
  refine run_slices (fun i hi => ?_)
  have := h i (by omega)
  rwa [show ((m.a.toNat + i : Nat) : Int) = m.a + i by omega, show ((m.b.toNat + i : Nat) : Int) = m.b + i by omega]
theorem keep_ok {a b : Lns} {out : List Mt} {m : Mt} (h : checkV a b (-1) (-1) out = 0) (hx : (endV (-1) (-1) out).1 ≤ m.a) (hy : (endV (-1) (-1) out).2 ≤ m.b) (h0 : 0 ≤ m.a) (h1 : 0 ≤ m.b) (hn : 0 ≤ m.n) (hm : ∀ i : Nat, (i : Int) < m.n → mtB a b (m.a + i) (m.b + i) = true) :
    checkV a b (-1) (-1) (keepV out m) = 0 ∧ (endV (-1) (-1) (keepV out m)).1 ≤ m.a + m.n ∧ (endV (-1) (-1) (keepV out m)).2 ≤ m.b + m.n := by
  by_cases hz : m.n < 1
  · rw [keepV_zero hz]; exact ⟨h, by omega, by omega⟩
  have hlast := mtB_lt (hm (m.n - 1).toNat (by omega))
  have hla : m.a + m.n ≤ a.length := by omega
  have hlb : m.b + m.n ≤ b.length := by omega
  rcases snoc_or out with rfl | ⟨r, x, rfl⟩
  · rw [keepV_nil hz]
    refine ⟨?_, by simp [endV], by simp [endV]⟩
    rw [checkV_good (codeV_ok (by omega) h0 h1 hla hlb (by omega) (by omega) (by omega) (run_ok h0 h1 hm))]; rfl
  · rw [endV_snoc] at hx hy
    dsimp only at hx hy
    obtain ⟨c1, c2⟩ := check_split x r _ _ h
    by_cases hj : x.a + x.n = m.a ∧ x.b + x.n = m.b
    · rw [keepV_join hz hj.1 hj.2, endV_snoc]
      refine ⟨checkV_snoc _ r _ _ c1 ?_, by dsimp only; omega, by dsimp only; omega⟩
      obtain ⟨g1, g2, g3, g4, g5, g6, g7, g8, g9⟩ := codeV_zero c2
      refine codeV_ok (by dsimp only; omega) g2 g3 (by dsimp only; omega) (by dsimp only; omega) g6 g7 g8 (run_ok (m := ⟨x.a, x.b, x.n + m.n⟩) g2 g3 (fun i hi => ?_))
      dsimp only at hi ⊢
      by_cases hi2 : (i : Int) < x.n
      · have := slices_run (by omega) (by omega) g9 i (by omega)
        rwa [show ((x.a.toNat + i : Nat) : Int) = x.a + i by omega, show ((x.b.toNat + i : Nat) : Int) = x.b + i by omega] at this
      · have := hm (i - x.n.toNat) (by omega)
        rwa [show m.a + ((i - x.n.toNat : Nat) : Int) = x.a + i by omega, show m.b + ((i - x.n.toNat : Nat) : Int) = x.b + i by omega] at this
    · rw [keepV_new hz hj, endV_snoc]
      refine ⟨checkV_snoc _ _ _ _ h ?_, by dsimp only; omega, by dsimp only; omega⟩
      rw [endV_snoc]
      exact codeV_ok (by omega) h0 h1 hla hlb hx hy (fun hh => hj ⟨hh.1.symm, hh.2.symm⟩) (run_ok h0 h1 hm)
theorem fold_ok {a b : Lns} : ∀ (l out : List Mt) (x y X Y : Int), PcS a b x y l X Y → 0 ≤ x → 0 ≤ y → checkV a b (-1) (-1) out = 0 → (endV (-1) (-1) out).1 ≤ x → (endV (-1) (-1) out).2 ≤ y → checkV a b (-1) (-1) (l.foldl keepV out) = 0
  | [], _, _, _, _, _, _, _, _, h, _, _ => h
  | m :: l, out, x, y, X, Y, hp, hx, hy, h, h1, h2 => by
    obtain ⟨g1, g2, g3, g4, g5⟩ := hp
    obtain ⟨k1, k2, k3⟩ := keep_ok h (by omega) (by omega) (by omega) (by omega) g1 g4
    exact fold_ok l _ _ _ X Y g5 (by omega) (by omega) k1 k2 k3
theorem pd_ok (f : Nat) (a b : Lns) : checkV a b (-1) (-1) (pdV f a b) = 0 :=
  fold_ok _ [] 0 0 _ _ (pc_pcs f a b) (by omega) (by omega) rfl (by simp [endV]) (by simp [endV])

/-! ### The ends -/
theorem keep_head {out : List Mt} {m : Mt} {n z : Int} {r : List Mt} (_hm : 0 ≤ m.n) (h : out = ⟨0, 0, z⟩ :: r) (hz : n ≤ z) : ∃ z' r', keepV out m = ⟨0, 0, z'⟩ :: r' ∧ n ≤ z' := by
  by_cases h0 : m.n < 1
  · rw [keepV_zero h0]; exact ⟨z, r, h, hz⟩
  rcases snoc_or out with e | ⟨s, x, e⟩
  · rw [e] at h; cases h
  · rw [e]
    by_cases hj : x.a + x.n = m.a ∧ x.b + x.n = m.b
    · rw [keepV_join h0 hj.1 hj.2]
      cases s with
      | nil =>
        rw [e] at h; injection h with h1 h2; subst h1
        exact ⟨z + m.n, [], rfl, by omega⟩
      | cons y s =>
        rw [e] at h; injection h with h1 h2; subst h1
        exact ⟨z, _, rfl, hz⟩
    · rw [keepV_new h0 hj]
      rw [← e, h]
      exact ⟨z, r ++ [m], rfl, hz⟩
theorem fold_head {n : Int} : ∀ (l out : List Mt) (z : Int) (r : List Mt), (∀ m ∈ l, 0 ≤ m.n) → out = ⟨0, 0, z⟩ :: r → n ≤ z → ∃ z' r', l.foldl keepV out = ⟨0, 0, z'⟩ :: r' ∧ n ≤ z'
  | [], out, z, r, _, h, hz => ⟨z, r, h, hz⟩
  | m :: l, out, z, r, hl, h, hz => by
    obtain ⟨z', r', h1, h2⟩ := keep_head (hl m (by simp)) h hz
    exact fold_head l _ z' r' (fun x hx => hl x (by simp [hx])) h1 h2
theorem pd_head (f : Nat) (a b : Lns) (h : 0 < preN a b) : ∃ z r, pdV (f + 1) a b = ⟨0, 0, z⟩ :: r ∧ (preN a b : Int) ≤ z := by
  have hnn := pc_nn (f + 1) a b
  unfold pdV runsV
  rw [pcV, List.append_assoc] at hnn ⊢
  rw [List.foldl_append]
  have e : List.foldl keepV [] [⟨0, 0, (preN a b : Int)⟩] = [⟨0, 0, (preN a b : Int)⟩] := by
    show keepV [] _ = _
    rw [keepV_nil (by dsimp only; omega)]
  rw [e]
  exact fold_head _ _ _ [] (fun m hm => hnn m (List.mem_append_right _ hm)) rfl (Int.le_refl _)
theorem keep_last {out : List Mt} {m : Mt} (hm : 1 ≤ m.n) (ho : ∀ x ∈ out, 1 ≤ x.n) : ∃ r x, keepV out m = r ++ [x] ∧ x.a + x.n = m.a + m.n ∧ x.b + x.n = m.b + m.n ∧ m.n ≤ x.n := by
  have h0 : ¬ m.n < 1 := by omega
  rcases snoc_or out with rfl | ⟨r, x, rfl⟩
  · rw [keepV_nil h0]; exact ⟨[], m, rfl, rfl, rfl, Int.le_refl _⟩
  · by_cases hj : x.a + x.n = m.a ∧ x.b + x.n = m.b
    · rw [keepV_join h0 hj.1 hj.2]
      have := ho x (by simp)
      exact ⟨r, _, rfl, by dsimp only; omega, by dsimp only; omega, by dsimp only; omega⟩
    · rw [keepV_new h0 hj]; exact ⟨r ++ [x], m, rfl, rfl, rfl, Int.le_refl _⟩
theorem runs_pos : ∀ (l out : List Mt), (∀ x ∈ out, 1 ≤ x.n) → ∀ x ∈ l.foldl keepV out, 1 ≤ x.n
  | [], _, h => h
  | _ :: l, _, h => runs_pos l _ (keepV_pos h)
theorem pd_last (f : Nat) (a b : Lns) (h : 0 < sufN a b) : ∃ (r : List Mt) (x : Mt), pdV (f + 1) a b = r ++ [x] ∧ x.a + x.n = (a.length : Int) ∧ x.b + x.n = (b.length : Int) ∧ (sufN a b : Int) ≤ x.n := by
  unfold pdV runsV
  rw [pcV, List.foldl_append]
  obtain ⟨r, x, h1, h2, h3, h4⟩ := keep_last (m := ⟨(a.length : Int) - sufN a b, (b.length : Int) - sufN a b, (sufN a b : Int)⟩) (by dsimp only; omega) (runs_pos _ [] (by simp))
  dsimp only at h2 h3
  exact ⟨r, x, h1, by omega, by omega, h4⟩
theorem pd_steps (f : Nat) (a b : Lns) : (dist a b : Int) ≤ (a.length : Int) + b.length - 2 * keptV (pdV f a b) := check_steps (pd_ok f a b)
end Go.Proofs.YtmmcjcaccicheaaGreatDoor

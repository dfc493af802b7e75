/- The pieces of a change, in plain Lean. No condition. -/
import Derived.Test.YtmmppfopokbcfaaTkWords
import Derived.Test.YtmmppfopokbcfaaMyLaws
namespace Go.Proofs.Ytmmppfopokbcfaa

/-- A piece. -/
structure Pc where
  k : Int
  t : ByteArray
deriving DecidableEq
/-- The piece of some words, if there are any. -/
def pcV (k : Int) (ws : Lns) : List Pc := if ws = [] then [] else [⟨k, joinV ws⟩]
/-- The words from one place to another one. -/
def cutW (l : Lns) (x y : Int) : Lns := (l.drop x.toNat).take (y.toNat - x.toNat)
/-- The pieces from two places on. -/
def refL (a b : Lns) : Int → Int → List Mt → List Pc
  | x, y, [] => pcV 1 (a.drop x.toNat) ++ pcV 2 (b.drop y.toNat)
  | x, y, m :: r => pcV 1 (cutW a x m.a) ++ (pcV 2 (cutW b y m.b) ++ (pcV 0 (cutW a m.a (m.a + m.n)) ++ refL a b (m.a + m.n) (m.b + m.n) r))
def refineV (s t : ByteArray) : List Pc := refL (wordsV s) (wordsV t) 0 0 (diffV (wordsV s) (wordsV t) (dist (wordsV s) (wordsV t)))

/-- The bytes of the pieces of a kind, of all but a kind. -/
def bytesB (p : Pc → Bool) (l : List Pc) : Bs := (l.filter p).flatMap fun x => x.t.data.toList
def sideV (k : Int) (l : List Pc) : ByteArray := mkS (bytesB (fun x => decide (x.k ≠ k)) l)
theorem bytes_app (p : Pc → Bool) (l r : List Pc) : bytesB p (l ++ r) = bytesB p l ++ bytesB p r := by
  simp [bytesB]
def jb (l : Lns) : Bs := (l.map fun s => s.data.toList).flatten
theorem jb_app (l r : Lns) : jb (l ++ r) = jb l ++ jb r := by simp [jb]
theorem bytes_pc (p : Pc → Bool) (k : Int) (l : Lns) (q : Bool) (h : ∀ t, p ⟨k, t⟩ = q) : bytesB p (pcV k l) = if q then jb l else [] := by
  unfold pcV
  by_cases hl : l = []
  · subst hl; rw [if_pos rfl]; cases q <;> rfl
  · rw [if_neg hl]
    unfold bytesB
    cases q
    · simp [h]
    · simp only [List.filter_cons, h, if_true, List.filter_nil, List.flatMap_cons, List.flatMap_nil, List.append_nil]
      rfl

theorem split3 (l : Lns) {x y : Int} {n : Nat} (hx : x.toNat ≤ y.toNat) (_hn : y.toNat + n ≤ l.length) : l.drop x.toNat = cutW l x y ++ ((l.drop y.toNat).take n ++ l.drop (y.toNat + n)) := by
  unfold cutW
  rw [← List.drop_drop, List.take_append_drop]
  conv => lhs; rw [← List.take_append_drop (y.toNat - x.toNat) (l.drop x.toNat), List.drop_drop, show x.toNat + (y.toNat - x.toNat) = y.toNat by omega]
theorem cut_run (l : Lns) {x n : Int} (hx : 0 ≤ x) (hn : 0 ≤ n) : cutW l x (x + n) = (l.drop x.toNat).take n.toNat := by
  unfold cutW
  rw [show (x + n).toNat - x.toNat = n.toNat by omega]
theorem old_ref {a b : Lns} : ∀ (ms : List Mt) (x y : Int), checkV a b x y ms = 0 → bytesB (fun x => decide (x.k ≠ 2)) (refL a b x y ms) = jb (a.drop x.toNat)
  | [], x, y, _ => by
    rw [refL, bytes_app, bytes_pc _ 1 _ true (fun _ => rfl), bytes_pc _ 2 _ false (fun _ => rfl)]
    simp
  | m :: r, x, y, h => by
    rw [checkV] at h
    by_cases hc : codeV a b x y m = 0
    · rw [if_pos hc] at h
      obtain ⟨h1, h2, h3, h4, h5, h6, h7, h8, h9⟩ := codeV_zero hc
      rw [refL, bytes_app, bytes_app, bytes_app, bytes_pc _ 1 _ true (fun _ => rfl), bytes_pc _ 2 _ false (fun _ => rfl), bytes_pc _ 0 _ true (fun _ => rfl), old_ref r _ _ h]
      rw [split3 a (x := x) (y := m.a) (n := m.n.toNat) (by omega) (by omega), cut_run a h2 (by omega), show m.a.toNat + m.n.toNat = (m.a + m.n).toNat by omega]
      simp [jb_app]
    · rw [if_neg hc] at h; exact absurd h hc
theorem new_ref {a b : Lns} : ∀ (ms : List Mt) (x y : Int), checkV a b x y ms = 0 → bytesB (fun x => decide (x.k ≠ 1)) (refL a b x y ms) = jb (b.drop y.toNat)
  | [], x, y, _ => by
    rw [refL, bytes_app, bytes_pc _ 1 _ false (fun _ => rfl), bytes_pc _ 2 _ true (fun _ => rfl)]
    simp
  | m :: r, x, y, h => by
    rw [checkV] at h
    by_cases hc : codeV a b x y m = 0
    · rw [if_pos hc] at h
      obtain ⟨h1, h2, h3, h4, h5, h6, h7, h8, h9⟩ := codeV_zero hc
      rw [refL, bytes_app, bytes_app, bytes_app, bytes_pc _ 1 _ false (fun _ => rfl), bytes_pc _ 2 _ true (fun _ => rfl), bytes_pc _ 0 _ true (fun _ => rfl), new_ref r _ _ h]
      rw [split3 b (x := y) (y := m.b) (n := m.n.toNat) (by omega) (by omega), cut_run a h2 (by omega), h9, show m.b.toNat + m.n.toNat = (m.b + m.n).toNat by omega]
      simp [jb_app]
    · rw [if_neg hc] at h; exact absurd h hc
theorem refL_start (a b : Lns) (ms : List Mt) : refL a b (-1) (-1) ms = refL a b 0 0 ms := by
  cases ms <;> rfl
theorem ref_ok (s t : ByteArray) : checkV (wordsV s) (wordsV t) (-1) (-1) (diffV (wordsV s) (wordsV t) (dist (wordsV s) (wordsV t))) = 0 := (diff_ok _ _).1
theorem jb_words (s : ByteArray) : mkS (jb (wordsV s)) = s := join_words s
theorem refine_old (s t : ByteArray) : sideV 2 (refineV s t) = s := by
  unfold sideV refineV
  rw [← refL_start, old_ref _ _ _ (ref_ok s t)]
  exact jb_words s
theorem refine_new (s t : ByteArray) : sideV 1 (refineV s t) = t := by
  unfold sideV refineV
  rw [← refL_start, new_ref _ _ _ (ref_ok s t)]
  exact jb_words t

/-! ### Valid pieces -/
def vldF : Int → List Pc → Bool
  | _, [] => true
  | p, x :: r => (decide (0 ≤ x.k) && decide (x.k ≤ 2) && decide (x.t.size ≠ 0) && !(decide (p = x.k)) && !(decide (p = 2) && decide (x.k = 1))) && vldF x.k r
/-- The pieces are valid. -/
def vldV (l : List Pc) : Bool := vldF (-1) l
theorem jb_ne {l : Lns} (hl : l ≠ []) (h : ∀ x ∈ l, x.size ≠ 0) : (joinV l).size ≠ 0 := by
  unfold joinV
  rw [mkS_size]
  cases l with
  | nil => exact absurd rfl hl
  | cons s r =>
    have := h s (by simp)
    rw [size_len] at this
    simp only [List.map_cons, List.flatten_cons, List.length_append]
    omega
theorem vld_ref {a b : Lns} (ha : ∀ x ∈ a, x.size ≠ 0) (hb : ∀ x ∈ b, x.size ≠ 0) : ∀ (ms : List Mt) (x y p : Int), checkV a b x y ms = 0 → (p = -1 ∨ p = 0 ∧ 0 ≤ x ∧ 0 ≤ y) → vldF p (refL a b x y ms) = true
  | [], x, y, p, _, hp => by
    have h1 : ∀ (k : Nat), ∀ x ∈ a.drop k, x.size ≠ 0 := fun k x hx => ha x (List.drop_subset _ _ hx)
    have h2 : ∀ (k : Nat), ∀ x ∈ b.drop k, x.size ≠ 0 := fun k x hx => hb x (List.drop_subset _ _ hx)
    have hp1 : p ≠ 1 := by omega
    have hp2 : p ≠ 2 := by omega
    rw [refL]
    unfold pcV
    by_cases e1 : a.drop x.toNat = [] <;> by_cases e2 : b.drop y.toNat = []
    · simp [e1, e2, vldF]
    · simp [e1, e2, vldF, jb_ne e2 (h2 _), hp2]
    · simp [e1, e2, vldF, jb_ne e1 (h1 _), hp1, hp2]
    · simp [e1, e2, vldF, jb_ne e1 (h1 _), jb_ne e2 (h2 _), hp1, hp2]
  | m :: r, x, y, p, h, hp => by
    rw [checkV] at h
    by_cases hc : codeV a b x y m = 0
    · rw [if_pos hc] at h
      obtain ⟨g1, g2, g3, g4, g5, g6, g7, g8, g9⟩ := codeV_zero hc
      have ih := vld_ref ha hb r _ _ 0 h (.inr ⟨rfl, by omega, by omega⟩)
      have h1 : ∀ (i j : Int), ∀ x ∈ cutW a i j, x.size ≠ 0 := fun i j x hx => ha x (List.drop_subset _ _ (List.take_subset _ _ hx))
      have h2 : ∀ (i j : Int), ∀ x ∈ cutW b i j, x.size ≠ 0 := fun i j x hx => hb x (List.drop_subset _ _ (List.take_subset _ _ hx))
      have hp1 : p ≠ 1 := by omega
      have hp2 : p ≠ 2 := by omega
      have e0 : cutW a m.a (m.a + m.n) ≠ [] := by
        rw [cut_run a g2 (by omega)]
        intro e
        have := congrArg List.length e
        simp only [List.length_take, List.length_drop, List.length_nil] at this
        omega
      rw [refL]
      generalize refL a b (m.a + m.n) (m.b + m.n) r = R at ih
      unfold pcV
      rw [if_neg e0]
      by_cases e1 : cutW a x m.a = [] <;> by_cases e2 : cutW b y m.b = []
      · have hp0 : p ≠ 0 := by
          intro e
          rcases hp with hp | ⟨-, hx, hy⟩
          · omega
          · have l1 := congrArg List.length e1
            have l2 := congrArg List.length e2
            simp only [cutW, List.length_take, List.length_drop, List.length_nil] at l1 l2
            exact g8 ⟨by omega, by omega⟩
        simp [e1, e2, vldF, jb_ne e0 (h1 _ _), hp0, hp2, ih]
      · simp [e1, e2, vldF, jb_ne e0 (h1 _ _), jb_ne e2 (h2 _ _), hp2, ih]
      · simp [e1, e2, vldF, jb_ne e0 (h1 _ _), jb_ne e1 (h1 _ _), hp1, hp2, ih]
      · simp [e1, e2, vldF, jb_ne e0 (h1 _ _), jb_ne e1 (h1 _ _), jb_ne e2 (h2 _ _), hp1, hp2, ih]
    · rw [if_neg hc] at h; exact absurd h hc
theorem refine_vld (s t : ByteArray) : vldV (refineV s t) = true := by
  unfold vldV refineV
  rw [← refL_start]
  exact vld_ref (words_ne s) (words_ne t) _ _ _ _ (ref_ok s t) (.inl rfl)

/-! ### Sums -/
def sumG (f : Pc → Nat) (l : List Pc) : Nat := (l.map f).foldr (· + ·) 0
theorem sumG_app (f : Pc → Nat) (l r : List Pc) : sumG f (l ++ r) = sumG f l + sumG f r := by
  unfold sumG
  induction l with
  | nil => simp
  | cons x l ih => simp only [List.cons_append, List.map_cons, List.foldr_cons, ih]; omega
theorem sumG_pc (f : Pc → Nat) (k : Int) (l : Lns) (v : Nat) (h : f ⟨k, joinV l⟩ = v) (h0 : l = [] → v = 0) : sumG f (pcV k l) = v := by
  unfold pcV
  by_cases hl : l = []
  · rw [if_pos hl, h0 hl]; rfl
  · rw [if_neg hl, sumG]; simp [h]
/-- How many words are removed or added. -/
def changed (x : Pc) : Nat := if x.k = 0 then 0 else (wordsV x.t).length
theorem changed_ref {s t : ByteArray} : ∀ (ms : List Mt) (x y : Int), checkV (wordsV s) (wordsV t) x y ms = 0 → x.toNat ≤ (wordsV s).length → y.toNat ≤ (wordsV t).length →
    (sumG changed (refL (wordsV s) (wordsV t) x y ms) : Int) = ((wordsV s).length - x.toNat : Int) + ((wordsV t).length - y.toNat : Int) - 2 * keptV ms
  | [], x, y, _, hx, hy => by
    have e1 : wordsV (joinV ((wordsV s).drop x.toNat)) = (wordsV s).drop x.toNat := by
      have := words_part s x.toNat (wordsV s).length
      rwa [List.take_of_length_le (by simp)] at this
    have e2 : wordsV (joinV ((wordsV t).drop y.toNat)) = (wordsV t).drop y.toNat := by
      have := words_part t y.toNat (wordsV t).length
      rwa [List.take_of_length_le (by simp)] at this
    rw [refL, sumG_app, sumG_pc changed 1 _ ((wordsV s).length - x.toNat) (by simp [changed, e1]) (fun e => by simpa using congrArg List.length e),
      sumG_pc changed 2 _ ((wordsV t).length - y.toNat) (by simp [changed, e2]) (fun e => by simpa using congrArg List.length e)]
    simp only [keptV, List.foldl_nil]
    omega
  | m :: r, x, y, h, hx, hy => by
    rw [checkV] at h
    by_cases hc : codeV (wordsV s) (wordsV t) x y m = 0
    · rw [if_pos hc] at h
      obtain ⟨g1, g2, g3, g4, g5, g6, g7, g8, g9⟩ := codeV_zero hc
      have ih := changed_ref r _ _ h (by omega) (by omega)
      have l1 : (cutW (wordsV s) x m.a).length = m.a.toNat - x.toNat := by simp only [cutW, List.length_take, List.length_drop]; omega
      have l2 : (cutW (wordsV t) y m.b).length = m.b.toNat - y.toNat := by simp only [cutW, List.length_take, List.length_drop]; omega
      rw [refL, sumG_app, sumG_app, sumG_app, sumG_pc changed 1 _ (m.a.toNat - x.toNat) (by simp [changed, cutW, words_part] at l1 ⊢; omega) (fun e => by rw [e] at l1; exact l1.symm),
        sumG_pc changed 2 _ (m.b.toNat - y.toNat) (by simp [changed, cutW, words_part] at l2 ⊢; omega) (fun e => by rw [e] at l2; exact l2.symm), sumG_pc changed 0 _ 0 (by simp [changed]) (fun _ => rfl), keptV_cons]
      omega
    · rw [if_neg hc] at h; exact absurd h hc
theorem refine_changed (s t : ByteArray) : sumG changed (refineV s t) = dist (wordsV s) (wordsV t) := by
  have h := changed_ref _ _ _ (ref_ok s t) (by simp) (by simp)
  have h2 := (diff_ok (wordsV s) (wordsV t)).2
  rw [refL_start] at h
  unfold refineV
  simp only [Int.reduceNeg, Int.reduceToNat] at h
  omega

/-- How many bytes are kept. -/
def sameB (x : Pc) : Nat := if x.k = 0 then x.t.size else 0
theorem jb_len (l : Lns) : (jb l).length = (joinV l).size := rfl
theorem sum_le (k : Int) (hk : k ≠ 0) : ∀ l : List Pc, sumG sameB l ≤ (sideV k l).size
  | [] => Nat.zero_le _
  | x :: l => by
    have ih := sum_le k hk l
    rw [sideV, mkS_size] at ih ⊢
    rw [show x :: l = [x] ++ l from rfl, sumG_app, bytes_app, List.length_append]
    have : sumG sameB [x] ≤ (bytesB (fun x => decide (x.k ≠ k)) [x]).length := by
      unfold sumG bytesB sameB
      by_cases h0 : x.k = 0
      · have : x.k ≠ k := by omega
        simp [h0, show (0 : Int) ≠ k by omega]
      · simp [h0]
    omega
/-- If every byte is kept, there is no other piece. -/
theorem sum_all (k : Int) : ∀ l : List Pc, (∀ x ∈ l, x.t.size ≠ 0) → sumG sameB l = (sideV k l).size → k ≠ 0 → ∀ x ∈ l, x.k = 0 ∨ x.k = k
  | [], _, _, _, x, hx => by cases hx
  | y :: l, hn, h, hk, x, hx => by
    have h1 := sum_le k hk l
    have h2 := sum_le k hk [y]
    rw [sideV, mkS_size] at h1 h2 h
    rw [show y :: l = [y] ++ l from rfl, sumG_app, bytes_app, List.length_append] at h
    rcases List.mem_cons.1 hx with rfl | hx
    · by_cases h0 : x.k = 0
      · exact .inl h0
      by_cases h3 : x.k = k
      · exact .inr h3
      have := hn x (by simp)
      have e1 : sumG sameB [x] = 0 := by simp [sumG, sameB, h0]
      have e2 : (bytesB (fun x => decide (x.k ≠ k)) [x]).length = x.t.size := by simp [bytesB, h3]
      omega
    · refine sum_all k l (fun x hx => hn x (by simp [hx])) ?_ hk x hx
      rw [sideV, mkS_size]; omega
theorem vld_ne : ∀ (l : List Pc) (p : Int), vldF p l = true → ∀ x ∈ l, x.t.size ≠ 0 ∧ 0 ≤ x.k ∧ x.k ≤ 2
  | [], _, _, x, hx => by cases hx
  | y :: l, p, h, x, hx => by
    rw [vldF] at h
    simp only [Bool.and_eq_true, decide_eq_true_eq] at h
    rcases List.mem_cons.1 hx with rfl | hx
    · exact ⟨h.1.1.1.2, h.1.1.1.1.1, h.1.1.1.1.2⟩
    · exact vld_ne l _ h.2 x hx
/-- The similarity of two lines. -/
def simV (s t : ByteArray) : Int := if s.size + t.size = 0 then 100 else 200 * (sumG sameB (refineV s t) : Int) / ((s.size + t.size : Nat) : Int)
theorem refine_self (s : ByteArray) : refineV s s = if s.size = 0 then [] else [⟨0, s⟩] := by
  have h0 : dist (wordsV s) (wordsV s) = 0 := (dist_zero _ _).2 rfl
  have hc := refine_changed s s
  rw [h0] at hc
  have hv := refine_vld s s
  have ho := refine_old s s
  by_cases hs : s.size = 0
  · rw [if_pos hs]
    cases hl : refineV s s with
    | nil => rfl
    | cons x r =>
      rw [hl] at hc hv ho
      exfalso
      have h1 := vld_ne _ _ hv x (by simp)
      have hx : changed x = 0 := by
        simp only [sumG, List.map_cons, List.foldr_cons] at hc; omega
      unfold changed at hx
      by_cases hk : x.k = 0
      · rw [sideV, show x :: r = [x] ++ r from rfl, bytes_app] at ho
        have := congrArg ByteArray.size ho
        rw [mkS_size, List.length_append, hs] at this
        simp [bytesB, hk] at this
        exact h1.1 (by simpa using this.1)
      · rw [if_neg hk] at hx
        have e := join_words x.t
        rw [List.eq_nil_of_length_eq_zero hx] at e
        exact h1.1 (by rw [← e]; rfl)
  · rw [if_neg hs]
    have hall : ∀ x ∈ refineV s s, x.k = 0 := by
      intro x hx
      have h1 := vld_ne _ _ hv x hx
      have h2 : changed x = 0 := by
        have : ∀ (l : List Pc), sumG changed l = 0 → x ∈ l → changed x = 0 := by
          intro l
          induction l with
          | nil => intro _ h; cases h
          | cons y l ih =>
            intro h h'
            simp only [sumG, List.map_cons, List.foldr_cons] at h
            rcases List.mem_cons.1 h' with rfl | h'
            · omega
            · exact ih (by unfold sumG; omega) h'
        exact this _ hc hx
      unfold changed at h2
      by_cases hk : x.k = 0
      · exact hk
      · rw [if_neg hk] at h2
        have e := join_words x.t
        rw [List.eq_nil_of_length_eq_zero h2] at e
        exact absurd (by rw [← e]; rfl) h1.1
    cases hl : refineV s s with
    | nil =>
      rw [hl] at ho
      exact absurd (by rw [← ho]; rfl) hs
    | cons x r =>
      rw [hl] at hall hv ho
      have hx := hall x (by simp)
      cases r with
      | nil =>
        obtain ⟨k, t⟩ := x
        obtain rfl : k = 0 := hx
        have : t = s := by
          rw [← ho, sideV]
          simp [bytesB, mkS_of]
        rw [this]
      | cons y r =>
        have hy := hall y (by simp)
        unfold vldV at hv
        rw [vldF, vldF] at hv
        simp [hx, hy] at hv
theorem sim_self (s : ByteArray) : simV s s = 100 := by
  unfold simV
  by_cases hs : s.size + s.size = 0
  · rw [if_pos hs]
  · rw [if_neg hs, refine_self, if_neg (by omega)]
    have : sumG sameB [⟨0, s⟩] = s.size := by simp [sumG, sameB]
    rw [this]
    have e : 200 * (s.size : Int) = 100 * ((s.size + s.size : Nat) : Int) := by omega
    rw [e]
    exact Int.mul_ediv_cancel _ (by omega)
theorem sim_range (s t : ByteArray) : 0 ≤ simV s t ∧ simV s t ≤ 100 ∧ (simV s t = 100 → s = t) := by
  have h1 := sum_le 2 (by decide) (refineV s t)
  have h2 := sum_le 1 (by decide) (refineV s t)
  have g1 := sum_all 2 (refineV s t) (fun x hx => (vld_ne _ _ (refine_vld s t) x hx).1)
  have g2 := sum_all 1 (refineV s t) (fun x hx => (vld_ne _ _ (refine_vld s t) x hx).1)
  rw [refine_old] at h1 g1
  rw [refine_new] at h2 g2
  unfold simV
  by_cases hs : s.size + t.size = 0
  · rw [if_pos hs]
    refine ⟨by omega, by omega, fun _ => ?_⟩
    obtain ⟨⟨a⟩⟩ := s
    obtain ⟨⟨b⟩⟩ := t
    have e1 : a = [] := List.eq_nil_of_length_eq_zero (show (⟨⟨a⟩⟩ : ByteArray).size = 0 by omega)
    have e2 : b = [] := List.eq_nil_of_length_eq_zero (show (⟨⟨b⟩⟩ : ByteArray).size = 0 by omega)
    rw [e1, e2]
  · rw [if_neg hs]
    generalize hS : sumG sameB (refineV s t) = S at *
    have hp : (0 : Int) < ((s.size + t.size : Nat) : Int) := by omega
    refine ⟨Int.ediv_nonneg (by omega) (by omega), Int.lt_add_one_iff.1 (Int.ediv_lt_of_lt_mul hp (by omega)), fun e => ?_⟩
    have e1 : 100 * ((s.size + t.size : Nat) : Int) ≤ 200 * (S : Int) := (Int.le_ediv_iff_mul_le hp).1 (by omega)
    have k1 := g1 (by omega) (by decide)
    have k2 := g2 (by omega) (by decide)
    have k0 : ∀ x ∈ refineV s t, x.k = 0 := by
      intro x hx
      have := k1 x hx
      have := k2 x hx
      omega
    have q : ∀ (l : List Pc), (∀ x ∈ l, x.k = 0) → sideV 2 l = sideV 1 l := by
      intro l hl
      unfold sideV bytesB
      rw [List.filter_eq_self.2 (fun x hx => by simp [hl x hx]), List.filter_eq_self.2 (fun x hx => by simp [hl x hx])]
    have := q _ k0
    rw [refine_old, refine_new] at this
    exact this
end Go.Proofs.Ytmmppfopokbcfaa

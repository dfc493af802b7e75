/- HiDefs HiLaws HiRun HiBest HiMoved HiRDiff HiMap HiGrp HiRuns: parts of the proof of TopDifferences, one text behind the other. No condition. -/
import Derived.Test.YtmmcjcaccicheaaGreatDoorT08
import Derived.Test.YtmmcjcaccicheaaGreatDoorT06
import Derived.Maps.Own
import Derived.Maps.OwnSet
import Derived.Maps.OwnOps
import Derived.Maps.Views
import Derived.Maps.Keyed
import Derived.StringKeys
import Derived.Test.YtmmcjcaccicheaaGreatDoorT03
import Derived.Maps.OwnRows
import Derived.Maps.GroupsBeside
import Derived.Test.YtmmcjcaccicheaaGreatDoorT05
/- What the functions of histogram compute, in plain Lean. No condition. -/
namespace Go.Proofs.YtmmcjcaccicheaaGreatDoor
open Go.RowKit

/-- How often a line occurs. -/
def cntH (a : Lns) (s : ByteArray) : Nat := (a.filter (fun t => decide (t = s))).length
theorem cnt_leH (a : Lns) (s : ByteArray) : cntH a s ≤ a.length := List.length_filter_le _ _
theorem cnt_snocH (a : Lns) (s t : ByteArray) : cntH (a ++ [t]) s = cntH a s + (if t = s then 1 else 0) := by
  unfold cntH; rw [List.filter_append, List.length_append]; congr 1
  by_cases h : t = s <;> simp [h]
theorem cnt_posH {a : Lns} {s : ByteArray} : 0 < cntH a s ↔ s ∈ a := by
  unfold cntH; rw [List.length_pos_iff_exists_mem]; simp

/-- The least of some numbers; 0 of none. -/
def least : List Nat → Nat
  | [] => 0
  | x :: l => l.foldl min x
theorem least_snoc {l : List Nat} (x : Nat) (h : l ≠ []) : least (l ++ [x]) = min (least l) x := by
  cases l with
  | nil => exact absurd rfl h
  | cons y l => simp [least]
theorem least_le {l : List Nat} {B : Nat} (h : ∀ x ∈ l, x ≤ B) : least l ≤ B := by
  cases l with
  | nil => simp [least]
  | cons y l =>
    have : ∀ (l : List Nat) (y : Nat), y ≤ B → l.foldl min y ≤ B := by
      intro l
      induction l with
      | nil => intro y h; exact h
      | cons z l ih => intro y h; exact ih _ (by omega)
    exact this l y (h y (by simp))

/-- The rarity of n lines from i on. -/
def rarV (a : Lns) (i n : Nat) : Nat := least (((a.drop i).take n).map (cntH a))
theorem rarV_le (a : Lns) (i n : Nat) : rarV a i n ≤ a.length := by
  refine least_le fun x hx => ?_
  obtain ⟨s, _, rfl⟩ := List.mem_map.1 hx
  exact cnt_leH a s

/-- The length of the maximal common run that begins there. -/
def runN (a b : Lns) (i k : Nat) : Nat := if mtB a b ((i : Int) - 1) ((k : Int) - 1) then 0 else (folV a b i ((i : Int) - k) - i).toNat
theorem runN_ge (a b : Lns) (i k : Nat) : runN a b i k = 0 ∨ i + runN a b i k ≤ a.length := by
  unfold runN
  have := folV_ge a b i ((i : Int) - k)
  split <;> omega
theorem runN_spec {a b : Lns} {i k : Nat} (hi : i ≤ a.length) (hk : k ≤ b.length) : i + runN a b i k ≤ a.length ∧ k + runN a b i k ≤ b.length ∧ (∀ j, j < runN a b i k → mtB a b ((i + j : Nat)) ((k + j : Nat)) = true) ∧ (runN a b i k ≠ 0 → mtB a b ((i : Int) - 1) ((k : Int) - 1) = false ∧ mtB a b ((i + runN a b i k : Nat)) ((k + runN a b i k : Nat)) = false) := by
  unfold runN
  cases h : mtB a b ((i : Int) - 1) ((k : Int) - 1) with
  | true => simp; omega
  | false =>
    simp only [Bool.false_eq_true, if_false]
    obtain ⟨j, e1, e2, e3⟩ := folV_spec (a := a) (b := b) (x := i) (y := k) (k := (i : Int) - k) (by omega)
    have e4 : ((i + j : Nat) - (i : Int)).toNat = j := by omega
    rw [e1, e4]
    refine ⟨?_, ?_, e2, fun _ => ⟨trivial, e3⟩⟩
    · rcases Nat.eq_zero_or_pos j with h0 | h0
      · omega
      · have := mtB_lt (e2 (j - 1) (by omega)); omega
    · rcases Nat.eq_zero_or_pos j with h0 | h0
      · omega
      · have := mtB_lt (e2 (j - 1) (by omega)); omega

/-- A best run so far, with its rarity. -/
def bstep (a b : Lns) (s : Mt × Nat) (i k : Nat) : Mt × Nat :=
  if runN a b i k = 0 then s
  else if rarV a i (runN a b i k) < s.2 ∨ (rarV a i (runN a b i k) = s.2 ∧ s.1.n < runN a b i k ∧ rarV a i (runN a b i k) ≤ 64) then (⟨i, k, runN a b i k⟩, rarV a i (runN a b i k)) else s
def browP (a b : Lns) (s : Mt × Nat) (i k : Nat) : Mt × Nat := (List.range k).foldl (fun s k => bstep a b s i k) s
def bestP (a b : Lns) (i : Nat) : Mt × Nat := (List.range i).foldl (fun s i => browP a b s i b.length) (⟨0, 0, 0⟩, 65)
def bestV (a b : Lns) : Mt × Nat := bestP a b a.length
theorem browP_zero (a b : Lns) (s : Mt × Nat) (i : Nat) : browP a b s i 0 = s := rfl
theorem browP_succ (a b : Lns) (s : Mt × Nat) (i k : Nat) : browP a b s i (k + 1) = bstep a b (browP a b s i k) i k := by simp [browP, List.range_succ]
theorem bestP_zero (a b : Lns) : bestP a b 0 = (⟨0, 0, 0⟩, 65) := rfl
theorem bestP_succ (a b : Lns) (i : Nat) : bestP a b (i + 1) = browP a b (bestP a b i) i b.length := by simp [bestP, List.range_succ]

/-- A match, moved. -/
def Mt.by (m : Mt) (x y : Int) : Mt := ⟨m.a + x, m.b + y, m.n⟩
/-- The histogram matching, with fuel. -/
def hdiffV : Nat → Lns → Lns → List Mt
  | 0, _, _ => []
  | f + 1, a, b =>
    if (bestV a b).2 ≤ 64 then
      hdiffV f (a.take (bestV a b).1.a.toNat) (b.take (bestV a b).1.b.toNat) ++ [(bestV a b).1] ++
        (hdiffV f (a.drop ((bestV a b).1.a + (bestV a b).1.n).toNat) (b.drop ((bestV a b).1.b + (bestV a b).1.n).toNat)).map (fun m => m.by ((bestV a b).1.a + (bestV a b).1.n) ((bestV a b).1.b + (bestV a b).1.n))
    else diffV a b (dist a b)
end Go.Proofs.YtmmcjcaccicheaaGreatDoor
/- The plain laws of the histogram matching. No condition. -/
namespace Go.Proofs.YtmmcjcaccicheaaGreatDoor

/-! ### The best run -/

/-- A run that Best may return, with its rarity. -/
def RunH (a b : Lns) (s : Mt × Nat) (i k l : Nat) : Prop := s.1 = ⟨i, k, l⟩ ∧ l ≠ 0 ∧ runN a b i k = l ∧ i < a.length ∧ k < b.length ∧ rarV a i l = s.2
/-- It is the best of those that are looked at. -/
def Top (a b : Lns) (D : Nat → Nat → Prop) (s : Mt × Nat) : Prop :=
  (s = (⟨0, 0, 0⟩, 65) ∧ ∀ i k, i < a.length → k < b.length → D i k → runN a b i k = 0) ∨
  (∃ i k l, RunH a b s i k l ∧ ∀ i' k', i' < a.length → k' < b.length → D i' k' → runN a b i' k' ≠ 0 → s.2 ≤ rarV a i' (runN a b i' k') ∧ (rarV a i' (runN a b i' k') = s.2 → runN a b i' k' ≤ l))

theorem top_step {a b : Lns} {D D' : Nat → Nat → Prop} {s : Mt × Nat} {i k : Nat} (ha : a.length ≤ 64) (hi : i < a.length) (hk : k < b.length) (h : Top a b D s) (hD : ∀ i' k', D' i' k' → D i' k' ∨ (i' = i ∧ k' = k)) : Top a b D' (bstep a b s i k) := by
  have hr := rarV_le a i (runN a b i k)
  unfold bstep
  by_cases h0 : runN a b i k = 0
  · rw [if_pos h0]
    rcases h with ⟨h1, h2⟩ | ⟨i0, k0, l0, h1, h2⟩
    · exact .inl ⟨h1, fun i' k' hi' hk' hd => by
        rcases hD _ _ hd with h | ⟨rfl, rfl⟩
        · exact h2 i' k' hi' hk' h
        · exact h0⟩
    · exact .inr ⟨i0, k0, l0, h1, fun i' k' hi' hk' hd hn => by
        rcases hD _ _ hd with h | ⟨rfl, rfl⟩
        · exact h2 i' k' hi' hk' h hn
        · exact absurd h0 hn⟩
  · rw [if_neg h0]
    rcases h with ⟨rfl, h2⟩ | ⟨i0, k0, l0, h1, h2⟩
    · rw [if_pos (.inl (by show _ < 65; omega))]
      refine .inr ⟨i, k, _, ⟨rfl, h0, rfl, hi, hk, rfl⟩, fun i' k' hi' hk' hd hn => ?_⟩
      rcases hD _ _ hd with h | ⟨rfl, rfl⟩
      · exact absurd (h2 i' k' hi' hk' h) hn
      · exact ⟨Nat.le_refl _, fun _ => Nat.le_refl _⟩
    · have hs1 : s.1.n = l0 := by rw [h1.1]
      by_cases hc : rarV a i (runN a b i k) < s.2 ∨ (rarV a i (runN a b i k) = s.2 ∧ s.1.n < runN a b i k ∧ rarV a i (runN a b i k) ≤ 64)
      · rw [if_pos hc]
        refine .inr ⟨i, k, _, ⟨rfl, h0, rfl, hi, hk, rfl⟩, fun i' k' hi' hk' hd hn => ?_⟩
        dsimp only
        rcases hD _ _ hd with h | ⟨rfl, rfl⟩
        · have := h2 i' k' hi' hk' h hn
          refine ⟨by omega, fun he => ?_⟩
          have h3 := this.2
          rcases hc with hc | ⟨hc1, hc2, _⟩
          · omega
          · have := h3 (by omega); omega
        · exact ⟨Nat.le_refl _, fun _ => Nat.le_refl _⟩
      · rw [if_neg hc]
        refine .inr ⟨i0, k0, l0, h1, fun i' k' hi' hk' hd hn => ?_⟩
        rcases hD _ _ hd with h | ⟨rfl, rfl⟩
        · exact h2 i' k' hi' hk' h hn
        · omega
theorem top_row {a b : Lns} {s : Mt × Nat} {i : Nat} (ha : a.length ≤ 64) (hi : i < a.length) (h : Top a b (fun i' _ => i' < i) s) : ∀ k, k ≤ b.length → Top a b (fun i' k' => i' < i ∨ (i' = i ∧ k' < k)) (browP a b s i k)
  | 0, _ => by
    rw [browP_zero]
    rcases h with ⟨h1, h2⟩ | ⟨i0, k0, l0, h1, h2⟩
    · exact .inl ⟨h1, fun i' k' hi' hk' hd => h2 i' k' hi' hk' (by omega)⟩
    · exact .inr ⟨i0, k0, l0, h1, fun i' k' hi' hk' hd => h2 i' k' hi' hk' (by omega)⟩
  | k + 1, hk => by
    rw [browP_succ]
    exact top_step ha hi (by omega) (top_row ha hi h k (by omega)) (fun i' k' hd => by omega)
theorem top_any {a b : Lns} (ha : a.length ≤ 64) : ∀ i, i ≤ a.length → Top a b (fun i' _ => i' < i) (bestP a b i)
  | 0, _ => .inl ⟨bestP_zero a b, fun i' k' _ _ hd => absurd hd (by omega)⟩
  | i + 1, hi => by
    rw [bestP_succ]
    have := top_row ha (by omega) (top_any ha i (by omega)) b.length (Nat.le_refl _)
    rcases this with ⟨h1, h2⟩ | ⟨i0, k0, l0, h1, h2⟩
    · exact .inl ⟨h1, fun i' k' hi' hk' hd => h2 i' k' hi' hk' (by omega)⟩
    · exact .inr ⟨i0, k0, l0, h1, fun i' k' hi' hk' hd => h2 i' k' hi' hk' (by omega)⟩
/-- What Best returns is the best run, where there is any. -/
theorem best_top {a b : Lns} (ha : a.length ≤ 64) : Top a b (fun _ _ => True) (bestV a b) := by
  rcases top_any (b := b) ha a.length (Nat.le_refl _) with ⟨h1, h2⟩ | ⟨i0, k0, l0, h1, h2⟩
  · exact .inl ⟨h1, fun i' k' hi' hk' _ => h2 i' k' hi' hk' hi'⟩
  · exact .inr ⟨i0, k0, l0, h1, fun i' k' hi' hk' _ => h2 i' k' hi' hk' hi'⟩
theorem best_none {a b : Lns} (ha : a.length ≤ 64) (h : ¬ (bestV a b).2 ≤ 64) : bestV a b = (⟨0, 0, 0⟩, 65) ∧ ∀ i k, i < a.length → k < b.length → runN a b i k = 0 := by
  rcases best_top (b := b) ha with ⟨h1, h2⟩ | ⟨i0, k0, l0, h1, h2⟩
  · exact ⟨h1, fun i k hi hk => h2 i k hi hk trivial⟩
  · have := h1.2.2.2.2.2; have := rarV_le a i0 l0; omega
theorem best_some {a b : Lns} (ha : a.length ≤ 64) (h : (bestV a b).2 ≤ 64) : ∃ i k l, RunH a b (bestV a b) i k l ∧ ∀ i' k', i' < a.length → k' < b.length → runN a b i' k' ≠ 0 → (bestV a b).2 ≤ rarV a i' (runN a b i' k') ∧ (rarV a i' (runN a b i' k') = (bestV a b).2 → runN a b i' k' ≤ l) := by
  rcases best_top (b := b) ha with ⟨h1, h2⟩ | ⟨i0, k0, l0, h1, h2⟩
  · rw [h1] at h; exact absurd h (by decide)
  · exact ⟨i0, k0, l0, h1, fun i' k' hi' hk' => h2 i' k' hi' hk' trivial⟩

/-! ### Valid matchings -/
theorem check_cons {a b : Lns} {x y : Int} {m : Mt} {r : List Mt} : checkV a b x y (m :: r) = 0 ↔ codeV a b x y m = 0 ∧ checkV a b (m.a + m.n) (m.b + m.n) r = 0 := by
  rw [checkV]
  by_cases h : codeV a b x y m = 0
  · rw [if_pos h]; exact ⟨fun h2 => ⟨h, h2⟩, fun h2 => h2.2⟩
  · rw [if_neg h]; exact ⟨fun h2 => absurd h2 h, fun h2 => h2.1⟩
theorem check_append {a b : Lns} : ∀ (l r : List Mt) (x y : Int), checkV a b x y (l ++ r) = 0 ↔ checkV a b x y l = 0 ∧ checkV a b (endV x y l).1 (endV x y l).2 r = 0
  | [], r, x, y => by simp [checkV, endV]
  | m :: l, r, x, y => by
    rw [List.cons_append, check_cons, check_cons, check_append l r, endV]
    exact ⟨fun ⟨h1, h2, h3⟩ => ⟨⟨h1, h2⟩, h3⟩, fun ⟨⟨h1, h2⟩, h3⟩ => ⟨h1, h2, h3⟩⟩
theorem take_run (a : Lns) {i p n : Nat} (h : p + n ≤ i) : ((a.take i).drop p).take n = (a.drop p).take n := by
  rw [List.drop_take, List.take_take, Nat.min_eq_left (by omega)]
theorem code_take {a b : Lns} {i k : Nat} {x y : Int} {m : Mt} (hi : i ≤ a.length) (hk : k ≤ b.length) (h : codeV (a.take i) (b.take k) x y m = 0) : codeV a b x y m = 0 ∧ m.a + m.n ≤ i ∧ m.b + m.n ≤ k := by
  obtain ⟨h1, h2, h3, h4, h5, h6, h7, h8, h9⟩ := codeV_zero h
  rw [List.length_take, Nat.min_eq_left hi] at h4
  rw [List.length_take, Nat.min_eq_left hk] at h5
  rw [take_run a (by omega), take_run b (by omega)] at h9
  exact ⟨codeV_ok h1 h2 h3 (by omega) (by omega) h6 h7 h8 h9, h4, h5⟩
theorem check_take {a b : Lns} {i k : Nat} (hi : i ≤ a.length) (hk : k ≤ b.length) : ∀ (l : List Mt) (x y : Int), checkV (a.take i) (b.take k) x y l = 0 → checkV a b x y l = 0
  | [], x, y, _ => rfl
  | m :: l, x, y, h => by
    obtain ⟨h1, h2⟩ := check_cons.1 h
    exact check_cons.2 ⟨(code_take hi hk h1).1, check_take hi hk l _ _ h2⟩
/-- Where a valid matching ends: at its beginning, or behind equal lines. -/
theorem check_end {a b : Lns} : ∀ (l : List Mt) (x y : Int), checkV a b x y l = 0 → l = [] ∨ ((endV x y l).1 ≤ a.length ∧ (endV x y l).2 ≤ b.length ∧ mtB a b ((endV x y l).1 - 1) ((endV x y l).2 - 1) = true)
  | [], x, y, _ => .inl rfl
  | m :: l, x, y, h => by
    right
    obtain ⟨h1, h2⟩ := check_cons.1 h
    rcases check_end l _ _ h2 with rfl | h3
    · obtain ⟨q1, q2, q3, q4, q5, _, _, _, q9⟩ := codeV_zero h1
      refine ⟨q4, q5, ?_⟩
      have := slices_run (by omega) (by omega) q9 (m.n.toNat - 1) (by omega)
      rw [show ((m.a.toNat + (m.n.toNat - 1) : Nat) : Int) = m.a + m.n - 1 by omega, show ((m.b.toNat + (m.n.toNat - 1) : Nat) : Int) = m.b + m.n - 1 by omega] at this
      exact this
    · exact h3
theorem code_drop {a b : Lns} {i k : Nat} {x y : Int} {m : Mt} (hi : i ≤ a.length) (hk : k ≤ b.length) (h : codeV (a.drop i) (b.drop k) x y m = 0) : codeV a b (x + i) (y + k) (m.by i k) = 0 := by
  obtain ⟨h1, h2, h3, h4, h5, h6, h7, h8, h9⟩ := codeV_zero h
  rw [List.length_drop] at h4 h5
  rw [List.drop_drop, List.drop_drop] at h9
  have e1 : (m.a + i).toNat = i + m.a.toNat := by omega
  have e2 : (m.b + k).toNat = k + m.b.toNat := by omega
  refine codeV_ok h1 ?_ ?_ ?_ ?_ ?_ ?_ ?_ ?_
  · show 0 ≤ m.a + i; omega
  · show 0 ≤ m.b + k; omega
  · show m.a + i + m.n ≤ _; omega
  · show m.b + k + m.n ≤ _; omega
  · show _ ≤ m.a + i; omega
  · show _ ≤ m.b + k; omega
  · show ¬ (m.a + i = _ ∧ m.b + k = _); omega
  · show (a.drop (m.a + i).toNat).take m.n.toNat = (b.drop (m.b + k).toNat).take m.n.toNat
    rw [e1, e2]; exact h9
theorem check_drop {a b : Lns} {i k : Nat} (hi : i ≤ a.length) (hk : k ≤ b.length) : ∀ (l : List Mt) (x y : Int), checkV (a.drop i) (b.drop k) x y l = 0 → checkV a b (x + i) (y + k) (l.map (fun m => m.by i k)) = 0
  | [], x, y, _ => rfl
  | m :: l, x, y, h => by
    obtain ⟨h1, h2⟩ := check_cons.1 h
    rw [List.map_cons]
    refine check_cons.2 ⟨code_drop hi hk h1, ?_⟩
    have := check_drop hi hk l _ _ h2
    rw [show m.a + m.n + (i : Int) = (m.by i k).a + (m.by i k).n by show _ = m.a + i + m.n; omega, show m.b + m.n + (k : Int) = (m.by i k).b + (m.by i k).n by show _ = m.b + k + m.n; omega] at this
    exact this
/-- A matching may begin elsewhere too. -/
theorem check_from {a b : Lns} {x y x' y' : Int} {l : List Mt} (h : checkV a b x y l = 0) (h2 : ∀ m r, l = m :: r → x' ≤ m.a ∧ y' ≤ m.b ∧ ¬ (m.a = x' ∧ m.b = y')) : checkV a b x' y' l = 0 := by
  cases l with
  | nil => rfl
  | cons m r =>
    obtain ⟨h1, h3⟩ := check_cons.1 h
    obtain ⟨q1, q2, q3, q4, q5, _, _, _, q9⟩ := codeV_zero h1
    obtain ⟨p1, p2, p3⟩ := h2 m r rfl
    exact check_cons.2 ⟨codeV_ok q1 q2 q3 q4 q5 p1 p2 p3 q9, h3⟩

/-- The parts around a maximal run, and the run, are a valid matching. -/
theorem check_parts {a b : Lns} {i k l : Nat} {r1 r2 : List Mt} (hi : i + l ≤ a.length) (hk : k + l ≤ b.length) (h0 : l ≠ 0) (hrun : ∀ j, j < l → mtB a b ((i + j : Nat)) ((k + j : Nat)) = true)
    (hl : mtB a b ((i : Int) - 1) ((k : Int) - 1) = false) (hr : mtB a b ((i + l : Nat)) ((k + l : Nat)) = false)
    (h1 : checkV (a.take i) (b.take k) (-1) (-1) r1 = 0) (h2 : checkV (a.drop (i + l)) (b.drop (k + l)) (-1) (-1) r2 = 0) :
    checkV a b (-1) (-1) (r1 ++ [⟨i, k, l⟩] ++ r2.map (fun m => m.by ((i + l : Nat) : Int) ((k + l : Nat) : Int))) = 0 := by
  have g1 := check_take (by omega) (by omega) _ _ _ h1
  have g2 := check_drop (a := a) (b := b) hi hk _ _ _ h2
  rw [check_append, check_append]
  refine ⟨⟨g1, ?_⟩, ?_⟩
  · refine check_cons.2 ⟨?_, rfl⟩
    have hsl := run_slices hrun
    have hend : (endV (-1) (-1) r1).1 ≤ i ∧ (endV (-1) (-1) r1).2 ≤ k ∧ ¬ ((endV (-1) (-1) r1).1 = i ∧ (endV (-1) (-1) r1).2 = k) := by
      rcases check_end _ _ _ h1 with rfl | ⟨q1, q2, _⟩
      · simp only [endV]; omega
      · rw [List.length_take, Nat.min_eq_left (by omega)] at q1 q2
        refine ⟨q1, q2, fun he => ?_⟩
        rcases check_end _ _ _ g1 with rfl | ⟨_, _, q⟩
        · simp only [endV] at he; omega
        · rw [he.1, he.2, hl] at q; cases q
    refine codeV_ok ?_ ?_ ?_ ?_ ?_ hend.1 hend.2.1 (fun he => hend.2.2 ⟨he.1.symm, he.2.symm⟩) ?_
    · show (1 : Int) ≤ l; omega
    · show (0 : Int) ≤ i; omega
    · show (0 : Int) ≤ k; omega
    · show (i : Int) + l ≤ _; omega
    · show (k : Int) + l ≤ _; omega
    · simpa using hsl
  · rw [endV_snoc]
    refine check_from g2 fun m r he => ?_
    cases r2 with
    | nil => cases he
    | cons m' r' =>
      rw [List.map_cons] at he
      injection he with he1 he2
      subst he1
      obtain ⟨q, _⟩ := check_cons.1 h2
      obtain ⟨q1, q2, q3, q4, q5, _, _, _, q9⟩ := codeV_zero q
      show ((i : Int) + l ≤ m'.a + ((i + l : Nat) : Int)) ∧ ((k : Int) + l ≤ m'.b + ((k + l : Nat) : Int)) ∧ ¬ (m'.a + ((i + l : Nat) : Int) = (i : Int) + l ∧ m'.b + ((k + l : Nat) : Int) = (k : Int) + l)
      refine ⟨by omega, by omega, fun he => ?_⟩
      have ha : m'.a = 0 := by omega
      have hb : m'.b = 0 := by omega
      rw [ha, hb] at q9
      have := slices_run (a := a.drop (i + l)) (b := b.drop (k + l)) (p := 0) (q := 0) (l := m'.n.toNat) (by omega) (by omega) q9 0 (by omega)
      have h3 : mtB a b ((i + l : Nat)) ((k + l : Nat)) = true := by
        rw [mtB_get]
        rw [mtB_get (a := a.drop (i + l)) (b := b.drop (k + l)) (i := 0 + 0) (j := 0 + 0)] at this
        simpa [List.getElem?_drop] using this
      rw [h3] at hr; cases hr

theorem hdiff_ok : ∀ (f : Nat) (a b : Lns), a.length < f → a.length ≤ 64 → checkV a b (-1) (-1) (hdiffV f a b) = 0
  | 0, a, b, h, _ => absurd h (by omega)
  | f + 1, a, b, hf, ha => by
    rw [hdiffV]
    by_cases h : (bestV a b).2 ≤ 64
    · rw [if_pos h]
      obtain ⟨i, k, l, ⟨h1, h2, h3, h4, h5, h6⟩, _⟩ := best_some ha h
      obtain ⟨p1, p2, p3, p4⟩ := runN_spec (a := a) (b := b) (i := i) (k := k) (by omega) (by omega)
      rw [h3] at p1 p2 p3 p4
      obtain ⟨p5, p6⟩ := p4 h2
      rw [h1]
      have e1 : ((i : Int) + l).toNat = i + l := by omega
      have e2 : ((k : Int) + l).toNat = k + l := by omega
      dsimp only
      rw [e1, e2, Int.toNat_natCast, Int.toNat_natCast]
      exact check_parts p1 p2 h2 p3 p5 p6 (hdiff_ok f _ _ (by rw [List.length_take]; omega) (by rw [List.length_take]; omega)) (hdiff_ok f _ _ (by rw [List.length_drop]; omega) (by rw [List.length_drop]; omega))
    · rw [if_neg h]; exact (diff_ok a b).1

theorem check_sizes {a b : Lns} : ∀ (l : List Mt) (x y : Int), checkV a b x y l = 0 → x.toNat ≤ a.length → l.length + x.toNat ≤ a.length ∧ ∀ m ∈ l, 0 ≤ m.a ∧ m.a ≤ a.length ∧ 0 ≤ m.b ∧ m.b ≤ b.length ∧ 0 ≤ m.n ∧ m.n ≤ a.length
  | [], x, y, _, hx => ⟨by simpa using hx, by simp⟩
  | m :: l, x, y, h, hx => by
    obtain ⟨h1, h2⟩ := check_cons.1 h
    obtain ⟨q1, q2, q3, q4, q5, q6, _, _, q9⟩ := codeV_zero h1
    have ih := check_sizes l _ _ h2 (by omega)
    refine ⟨by rw [List.length_cons]; omega, fun m' hm => ?_⟩
    rcases List.mem_cons.1 hm with rfl | hm
    · omega
    · exact ih.2 m' hm
theorem hdiff_len {f : Nat} {a b : Lns} (hf : a.length < f) (ha : a.length ≤ 64) : (hdiffV f a b).length ≤ a.length := by
  have := (check_sizes _ _ _ (hdiff_ok f a b hf ha) (by simp)).1; simpa using this
end Go.Proofs.YtmmcjcaccicheaaGreatDoor
/- Contracts of the reference: Count, Rarity, run. -/
namespace Go.Proofs.YtmmcjcaccicheaaGreatDoor
open Go.RowKit

theorem cnt_takeH {a : Lns} {s t : ByteArray} {k : Nat} (h : a[k]? = some t) : cntH (a.take (k + 1)) s = cntH (a.take k) s + (if t = s then 1 else 0) := by
  rw [take_succ_of h, cnt_snocH]
theorem ne_listH {s t : ByteArray} (h : s ≠ t) : (s.toList == t.toList) = false := by
  cases e : (s.toList == t.toList) with
  | false => rfl
  | true => exact absurd (toList_inj (by simpa using e)) h

theorem rar_snoc {a : Lns} {i k : Nat} {t : ByteArray} (h : a[i + k]? = some t) : rarV a i (k + 1) = if k = 0 then cntH a t else min (rarV a i k) (cntH a t) := by
  unfold rarV
  have h2 : (a.drop i)[k]? = some t := by rw [List.getElem?_drop]; exact h
  rw [take_succ_of h2, List.map_append, List.map_cons, List.map_nil]
  rcases Nat.eq_zero_or_pos k with rfl | h0
  · simp [least]
  · rw [if_neg (by omega), least_snoc]
    intro e
    have hl := congrArg List.length e
    have := (List.getElem?_eq_some_iff.1 h2).1
    simp only [List.length_map, List.length_take, List.length_drop, List.length_nil] at hl
    simp only [List.length_drop] at this
    omega

/-- The number in a cell. -/
def cellN : Option Value → Nat
  | some v => (intOf v).toNat
  | none => 0

end Go.Proofs.YtmmcjcaccicheaaGreatDoor
/- Contract of the reference: Best. -/
namespace Go.Proofs.YtmmcjcaccicheaaGreatDoor
open Go.RowKit

theorem bstep_zero {a b : Lns} {s : Mt × Nat} {i k : Nat} (h : runN a b i k = 0) : bstep a b s i k = s := by unfold bstep; rw [if_pos h]
theorem bstep_yes {a b : Lns} {s : Mt × Nat} {i k l n : Nat} (h : runN a b i k = l) (h0 : l ≠ 0) (hn : rarV a i l = n) (hc : n < s.2 ∨ (n = s.2 ∧ s.1.n < l ∧ n ≤ 64)) : bstep a b s i k = (⟨i, k, l⟩, n) := by
  subst h; subst hn; unfold bstep; rw [if_neg h0, if_pos hc]
theorem bstep_no {a b : Lns} {s : Mt × Nat} {i k l n : Nat} (h : runN a b i k = l) (h0 : l ≠ 0) (hn : rarV a i l = n) (hc : ¬ (n < s.2 ∨ (n = s.2 ∧ s.1.n < l ∧ n ≤ 64))) : bstep a b s i k = s := by
  subst h; subst hn; unfold bstep; rw [if_neg h0, if_neg hc]
/-- What Best returns. -/
def bestR (s : Mt × Nat) : Value := .tuple #[s.1.val, .bool (decide (s.2 ≤ 64))]

end Go.Proofs.YtmmcjcaccicheaaGreatDoor
/- Contract of the reference: moved. -/
namespace Go.Proofs.YtmmcjcaccicheaaGreatDoor
open Go.RowKit

theorem mts_take {w : World} {A : Option Addr} {n : Nat} {ms : List Mt} (h : Mts w A n ms) : ms.length = n := h.1
theorem by_take {ms : List Mt} {k : Nat} {m : Mt} (x y : Int) (h : ms[k]? = some m) : (ms.take (k + 1)).map (fun m => m.by x y) = (ms.take k).map (fun m => m.by x y) ++ [m.by x y] := by
  rw [take_succ_of h, List.map_append]; rfl

/-- Matches that are small. -/
def SmallH (ms : List Mt) : Prop := ∀ m ∈ ms, (0 ≤ m.a ∧ m.a ≤ 10000) ∧ (0 ≤ m.b ∧ m.b ≤ 10000) ∧ (0 ≤ m.n ∧ m.n ≤ 10000)

end Go.Proofs.YtmmcjcaccicheaaGreatDoor
/- Contract of the reference: Diff. -/
namespace Go.Proofs.YtmmcjcaccicheaaGreatDoor
open Go.RowKit

theorem strs_front {w : World} {A : Option Addr} {n : Nat} {ss : List ByteArray} (h : Strs w A n ss) {k : Nat} (hk : k ≤ n) : Strs w A k (ss.take k) := by
  refine ⟨by rw [List.length_take, h.1]; omega, fun s hs => h.2.1 s (List.mem_of_mem_take hs), ?_⟩
  have := h.2.2.take k
  rwa [← List.map_take] at this
theorem strs_back {w : World} {A A' : Option Addr} {n c lo : Nat} {ss : List ByteArray} (h : Strs w A n ss) (hn : n ≤ c) (hi : lo ≤ n) (hA : (if c = lo then A else A.map (fun x => x.add lo)) = A') : Strs w A' (n - lo) (ss.drop lo) := by
  have := strs_cut (k := n - lo) h hn (by omega) hA
  rwa [List.take_of_length_le (by rw [List.length_drop, h.1]; omega)] at this

theorem Blk.own_ltH {w w' : World} {g : Nat} {o : Obj} {base : Nat} {e : TypeId} {size n : Nat} {v : Value} {xs : List Value} (hb : Blk w g o) (h : w.ownsRow base e size v n xs) (hlt : g < base) (hg : w.grownBy w' v.ownBlock) : Blk w' g o :=
  (hg.block g hb.lt (fun e => by have := (h.lt g e.symm).1; omega)).trans hb

/-- What Diff promises. -/
def DiffR (f : Nat) (a b : Lns) (w : World) (e : Ending) (w' : World) : Prop :=
  ∃ v, e = .returned v ∧ w'.ownsRow w.heap.size 104 3 v (hdiffV f a b).length ((hdiffV f a b).flatMap Mt.cells) ∧ Ext w w'

end Go.Proofs.YtmmcjcaccicheaaGreatDoor
/- A map from strings to numbers of one's own, read as a function. No condition. -/
namespace Go.Proofs.YtmmcjcaccicheaaGreatDoor
open Go.RowKit Go.WideMaps Go.Maps

theorem underStrH : Tryz.prog.underlying 9 = some .string := by kernel_rfl
theorem underInt : Tryz.prog.underlying 3 = some (.int .i64) := by kernel_rfl
theorem underSI : Tryz.prog.underlying 138 = some (.map 9 3) := by kernel_rfl
theorem keyedSH : Keyed Tryz.prog 9 := string_keyed underStrH
theorem zeroInt (w : World) : (zeroValue 3).run Tryz.prog w = .ok (.int .i64 0) w := by kernel_rfl
def kOfH (s : ByteArray) : Lit := .string s.data.toList
theorem key_ofH {s : ByteArray} (h : s.size ≤ maxLen) : keyOf Tryz.prog 9 (.string s) = some (kOfH s) := keyOf_string_mk underStrH h
theorem kOf_injH {s t : ByteArray} (h : kOfH s = kOfH t) : s = t := by
  cases s; cases t
  simp only [kOfH, Lit.string.injEq] at h
  rw [Array.toList_inj.1 h]

/-- Block g is a map of at most n numbers, and tells f. -/
def MapI (w : World) (g n : Nat) (f : ByteArray → Int) : Prop :=
  ∃ D : DataW Unit, w.ownsMap Tryz.prog 9 (plainElem Tryz.prog 3) g n D ∧ ∀ s, D.atKey (kOfH s) (.lit (.int .i64 0)) = .lit (.int .i64 (f s))
theorem MapI.new (w : World) {g : Nat} (hg : g = w.heap.size) : MapI (w.alloc (.map #[] 0)) g 0 (fun _ => 0) := by
  subst hg; exact ⟨_, World.ownsMap_made _ _ _ _, fun s => by rfl⟩
theorem MapI.ext {w w' : World} {g n : Nat} {f : ByteArray → Int} (h : MapI w g n f) (e : Ext w w') : MapI w' g n f := by
  obtain ⟨D, ⟨es, clock, hb, r⟩, h2⟩ := h
  exact ⟨D, ⟨es, clock, e.block hb, r⟩, h2⟩
set_option maxRecDepth 100000 in
theorem MapI.look {w : World} {g n : Nat} {f : ByteArray → Int} (h : MapI w g n f) {s : ByteArray} (hs : s.size ≤ maxLen) : (Instr.lookup 138 (.map (some g)) (.string s) false).run Tryz.prog w = .ok (.int .i64 (f s)) w := by
  obtain ⟨D, hD, hf⟩ := h
  obtain ⟨c, hrun, hat, _⟩ := hD.lookup_int keyedSH underSI underInt (zeroInt w) (key_ofH hs)
  rw [hf s] at hat
  injection hat with hat
  injection hat with _ hat
  rw [hrun, hat]

/-- 'm[s] = c' at the operation. -/
theorem wpList_mapI_put (w : World) {ops : Array Oper} {rest : List Oper} {o : Oper} {a : Act} {Q : Exit → Act → World → Prop}
    (hg : o.guard = none) (m x v : Operand) (hop : o.op = Op.mapUpdate 138 m x v) (b n : Nat) (f : ByteArray → Int)
    (hm : a.eval m = .map (some b)) (hown : MapI w b n f) (hn : n < maxLen) (s : ByteArray) (c : Int) (hx : a.eval x = .string s) (hv : a.eval v = .int .i64 c) (hs : s.size ≤ maxLen) (hc : (Lit.int .i64 c).wf = true)
    (hK : ∀ w', MapI w' b (n + 1) (fun t => if t = s then c else f t) → w.grownBy w' (some b) → wpList Tryz.prog ops Q rest (a.put o.dst undef) w') :
    wpList Tryz.prog ops Q (o :: rest) a w := by
  obtain ⟨D, hD, hf⟩ := hown
  refine wpList_mapUpdate_own w hg m x v 138 hop 9 3 keyedSH underSI _ b n D hm hD hn _ _ _ hx hv (key_ofH hs) _ [] (plainElem_int underInt hc) (fun w' h1 h2 => hK w' ⟨_, h1, fun t => ?_⟩ h2)
  dsimp only
  by_cases h : t = s
  · subst h; rw [if_pos rfl]; exact atKey_put_same (k := kOfH t) hD.isMap (by simp [kOfH, WideAt.IsKeyLit]) _ _
  · rw [if_neg h, atKey_put_other (fun e => h (kOf_injH e))]; exact hf t
end Go.Proofs.YtmmcjcaccicheaaGreatDoor
/- A map from strings to slices of numbers, through the caller's steps. No condition. -/
namespace Go.Proofs.YtmmcjcaccicheaaGreatDoor
open Go.RowKit Go.WideMaps Go.Maps Go.WideElems Go.MapKept

theorem ints_lv {S : Nat → Prop} {w w' : World} {base : Nat} {e : TypeId} {q : IntKind} {v : Value} {zs : List Int} (h : w.ownsInts base e q v zs) (hv : Lv S w w') (hS : ∀ g, v.ownBlock = some g → ¬ S g) : w'.ownsInts base e q v zs := by
  obtain ⟨⟨h1, h2⟩, h3⟩ := h
  refine ⟨⟨h1, ?_⟩, h3⟩
  rcases h2 with hn | ⟨g, cap, cur, rfl, hb, hgg, rest⟩
  · exact .inl hn
  · exact .inr ⟨g, cap, cur, rfl, hb, (hv.2 g (Array.getElem?_eq_some_iff.1 hgg).1 (hS g rfl)).trans hgg, rest⟩
theorem groups_lv {H : Type} {P : Program} {S : Nat → Prop} {w w' : World} {k : TypeId} {base : Nat} {e : TypeId} {q : IntKind} {b n : Nat} {D : DataW H} (h : w.ownsGroups P k base e q b n D) (hv : Lv S w w') (hb' : ¬ S b) (hsh : w.Shuns b S) :
    w'.ownsGroups P k base e q b n D ∧ w'.heap[b]? = w.heap[b]? := by
  obtain ⟨es, clock, hb, F, hs, rfl, hbb, hlen, hap⟩ := h
  have hblt : b < w.heap.size := (Array.getElem?_eq_some_iff.1 hb).1
  have hbe := hv.2 b hblt hb'
  have hst : ∀ x ∈ es.toList, ∀ z, rowElem (H := H) w base e q x.val = some z → rowElem w' base e q x.val = some z := fun x hx z hz => by
    obtain ⟨zs, ho, rfl⟩ := rowElem_inv hz
    exact rowElem_mk (ints_lv ho hv (hsh es clock hb x hx))
  obtain ⟨F1, hmap, _⟩ := F.stay hst
  refine ⟨⟨es, clock, hbe.trans hb, F1, hs, by rw [hmap], hbb, fun x hx zs ho => ?_, hap⟩, hbe⟩
  obtain ⟨y, hy⟩ := F.reads x hx
  obtain ⟨z, hz, _⟩ := rd_val hy
  obtain ⟨zs0, ho0, _⟩ := rowElem_inv hz
  rw [ho.unique (ints_lv ho0 hv (hsh es clock hb x hx))]
  exact hlen x hx zs0 ho0

open Go.ChangeShapes (lits)
/-- What a list of numbers reads as. -/
def dat (zs : List Int) : DataW Unit := if zs = [] then .nil else .slice (lits .i64 zs) []
theorem lits_inj {q : IntKind} : ∀ {a b : List Int}, (lits q a : List (DataW Unit)) = lits q b → a = b
  | [], [], _ => rfl
  | [], _ :: _, h => by simp [lits] at h
  | _ :: _, [], h => by simp [lits] at h
  | x :: a, y :: b, h => by
    simp only [lits, List.map_cons, List.cons.injEq] at h
    obtain ⟨h1, h2⟩ := h
    rw [lits_inj (q := q) (a := a) (b := b) h2]
    simpa using h1
theorem dat_of {w : World} {base : Nat} {e : TypeId} {v : Value} {zs fs : List Int} (ho : w.ownsInts base e .i64 v zs) (h : dat fs = rowDatum .i64 v zs) : zs = fs := by
  unfold dat at h
  rcases ho.datum (H := Unit) with ⟨h1, rfl⟩ | h1
  · rw [h1] at h
    by_cases hf : fs = []
    · exact hf.symm
    · rw [if_neg hf] at h; cases h
  · rw [h1] at h
    by_cases hf : fs = []
    · rw [if_pos hf] at h; cases h
    · rw [if_neg hf] at h
      injection h with h2
      exact (lits_inj h2).symm

/-- Block g is a map of lists, from base on, that tells F. -/
def GrpI (w : World) (base g n : Nat) (F : ByteArray → List Int) : Prop :=
  ∃ D : DataW Unit, w.ownsGroups Tryz.prog 9 base 3 .i64 g n D ∧ (∃ es, D = .map es) ∧ ∀ s, D.atKey (kOfH s) .nil = dat (F s)
theorem GrpI.new (w : World) : GrpI (w.alloc (.map #[] 0)) (w.heap.size + 1) w.heap.size 0 (fun _ => []) :=
  ⟨_, World.ownsGroups_made _ _ _ _ _, ⟨_, rfl⟩, fun s => by rfl⟩
theorem GrpI.lv {S : Nat → Prop} {w w' : World} {base g n : Nat} {F : ByteArray → List Int} (h : GrpI w base g n F) (hv : Lv S w w') (hb : ¬ S g) (hsh : w.Shuns g S) : GrpI w' base g n F ∧ w'.heap[g]? = w.heap[g]? := by
  obtain ⟨D, h1, h2, h3⟩ := h
  exact ⟨⟨D, (groups_lv h1 hv hb hsh).1, h2, h3⟩, (groups_lv h1 hv hb hsh).2⟩
end Go.Proofs.YtmmcjcaccicheaaGreatDoor
/- What the iterator over the common runs yields. -/
namespace Go.Proofs.YtmmcjcaccicheaaGreatDoor
open Go.RowKit Go.WideMaps Go.Maps Go.WideElems Go.MapKept

/-- The places of a line among the first k. -/
def plc (b : Lns) (k : Nat) (s : ByteArray) : List Nat := (List.range k).filter (fun j => decide (b[j]? = some s))
theorem plc_zero (b : Lns) (s : ByteArray) : plc b 0 s = [] := rfl
theorem plc_succ {b : Lns} {k : Nat} {t : ByteArray} (h : b[k]? = some t) (s : ByteArray) : plc b (k + 1) s = if s = t then plc b k s ++ [k] else plc b k s := by
  unfold plc
  rw [List.range_succ, List.filter_append]
  by_cases hs : s = t
  · subst hs; simp [h]
  · have : ¬ t = s := fun e => hs e.symm
    simp [h, hs, this]
theorem plc_mem {b : Lns} {n k : Nat} {s : ByteArray} (h : k ∈ plc b n s) : k < n ∧ b[k]? = some s := by
  unfold plc at h
  simpa using h
theorem plc_len (b : Lns) (n : Nat) (s : ByteArray) : (plc b n s).length ≤ n := by
  have := List.length_filter_le (fun j => decide (b[j]? = some s)) (List.range n)
  simpa [plc] using this
def toI (l : List Nat) : List Int := l.map fun k : Nat => (k : Int)
theorem toI_snoc (l : List Nat) (k : Nat) : toI (l ++ [k]) = toI l ++ [(k : Int)] := by simp [toI]

/-- The runs that begin at line i and one of some places. -/
def yrow (a b : Lns) (i : Nat) (ks : List Nat) : List Mt := (ks.filter (fun k => decide (runN a b i k ≠ 0))).map (fun k : Nat => ⟨(i : Int), (k : Int), runN a b i k⟩)
theorem yrow_snoc (a b : Lns) (i : Nat) (ks : List Nat) (k : Nat) : yrow a b i (ks ++ [k]) = if runN a b i k = 0 then yrow a b i ks else yrow a b i ks ++ [⟨(i : Int), (k : Int), runN a b i k⟩] := by
  unfold yrow
  rw [List.filter_append, List.map_append]
  by_cases h : runN a b i k = 0 <;> simp [h]
theorem yrow_pre {a b : Lns} {i : Nat} {ks ls : List Nat} (h : ks <+: ls) : yrow a b i ks <+: yrow a b i ls := by
  obtain ⟨t, rfl⟩ := h
  exact ⟨yrow a b i t, by simp [yrow]⟩
def yall (a b : Lns) (n : Nat) : List Mt := (List.range n).flatMap fun i => yrow a b i (plc b b.length (a[i]?.getD ByteArray.empty))
theorem yall_succ {a b : Lns} {i : Nat} {s : ByteArray} (h : a[i]? = some s) : yall a b (i + 1) = yall a b i ++ yrow a b i (plc b b.length s) := by
  simp [yall, List.range_succ, h]
theorem yall_pre (a b : Lns) {m n : Nat} (h : m ≤ n) : yall a b m <+: yall a b n := by
  obtain ⟨d, rfl⟩ : ∃ d, n = m + d := ⟨n - m, by omega⟩
  refine ⟨((List.range d).map (fun x => m + x)).flatMap fun i => yrow a b i (plc b b.length (a[i]?.getD ByteArray.empty)), ?_⟩
  unfold yall
  rw [← List.flatMap_append, ← List.range_add]
theorem yall_at {a b : Lns} {i j : Nat} {s : ByteArray} {k : Nat} (h : a[i]? = some s) (hk : (plc b b.length s)[j]? = some k) (h0 : runN a b i k ≠ 0) :
    (yall a b i ++ yrow a b i ((plc b b.length s).take j)) ++ [⟨(i : Int), (k : Int), runN a b i k⟩] <+: yall a b a.length := by
  have h1 : yrow a b i ((plc b b.length s).take (j + 1)) = yrow a b i ((plc b b.length s).take j) ++ [⟨(i : Int), (k : Int), runN a b i k⟩] := by
    rw [take_succ_of hk, yrow_snoc, if_neg h0]
  rw [List.append_assoc, ← h1]
  have hi : i < a.length := (List.getElem?_eq_some_iff.1 h).1
  refine List.IsPrefix.trans ?_ (yall_pre a b (m := i + 1) (by omega))
  rw [yall_succ h]
  exact (List.prefix_append_right_inj _).2 (yrow_pre (List.take_prefix _ _))

/-- The fold over what is yielded is the best run. -/
def mstep (a : Lns) (s : Mt × Nat) (m : Mt) : Mt × Nat :=
  if rarV a m.a.toNat m.n.toNat < s.2 ∨ (rarV a m.a.toNat m.n.toNat = s.2 ∧ s.1.n < m.n ∧ rarV a m.a.toNat m.n.toNat ≤ 64) then (m, rarV a m.a.toNat m.n.toNat) else s
theorem mstep_run {a b : Lns} {s : Mt × Nat} {i k : Nat} (h : runN a b i k ≠ 0) : mstep a s ⟨(i : Int), (k : Int), runN a b i k⟩ = bstep a b s i k := by
  unfold mstep bstep
  rw [if_neg h]
  simp
theorem fold_yrow (a b : Lns) (i : Nat) : ∀ (ks : List Nat) (s : Mt × Nat), (yrow a b i ks).foldl (mstep a) s = ks.foldl (fun s k => bstep a b s i k) s
  | [], s => rfl
  | k :: ks, s => by
    by_cases h : runN a b i k = 0
    · have e1 : yrow a b i (k :: ks) = yrow a b i ks := by simp [yrow, h]
      rw [e1, fold_yrow a b i ks s, List.foldl_cons, bstep_zero h]
    · have e1 : yrow a b i (k :: ks) = ⟨(i : Int), (k : Int), runN a b i k⟩ :: yrow a b i ks := by simp [yrow, h]
      rw [e1, List.foldl_cons, List.foldl_cons, mstep_run h, fold_yrow a b i ks _]
theorem runN_zero {a b : Lns} {i k : Nat} (h : mtB a b i k = false) : runN a b i k = 0 := by
  unfold runN
  split
  · rfl
  · rw [folV_stop (by rw [show (i : Int) - ((i : Int) - k) = k by omega]; exact h)]; omega
theorem fold_plc {a b : Lns} {i : Nat} {s : ByteArray} (h : a[i]? = some s) : ∀ (n : Nat) (x : Mt × Nat), n ≤ b.length → (plc b n s).foldl (fun x k => bstep a b x i k) x = browP a b x i n
  | 0, x, _ => rfl
  | n + 1, x, hn => by
    obtain ⟨t, ht⟩ : ∃ t, b[n]? = some t := ⟨b[n], List.getElem?_eq_getElem (by omega)⟩
    rw [plc_succ ht, browP_succ, ← fold_plc h n x (by omega)]
    by_cases hs : s = t
    · rw [if_pos hs, List.foldl_append]; rfl
    · rw [if_neg hs, bstep_zero (runN_zero (by rw [mtB_at h ht]; simpa using hs))]
theorem fold_yall (a b : Lns) : ∀ n, n ≤ a.length → (yall a b n).foldl (mstep a) (⟨0, 0, 0⟩, 65) = bestP a b n
  | 0, _ => rfl
  | n + 1, hn => by
    obtain ⟨t, ht⟩ : ∃ t, a[n]? = some t := ⟨a[n], List.getElem?_eq_getElem (by omega)⟩
    rw [yall_succ ht, List.foldl_append, fold_yall a b n (by omega), fold_yrow, fold_plc ht _ _ (Nat.le_refl _), bestP_succ]

/-- What the iterator knows: the two lists and their boxes. -/
structure Kr (A B : Option Addr) (c d : Nat) (a b : Lns) (ga gb : Nat) (W : World) : Prop where
  sa : Strs W A a.length a
  sb : Strs W B b.length b
  ba : Blk W ga (.cells #[.slice A a.length c] 22 (0, 0))
  bb : Blk W gb (.cells #[.slice B b.length d] 22 (0, 0))
def EncM (m : Mt) (vs : Array Value) (_ : Nat → Prop) (_ : World) : Prop := vs = #[m.val]

/-- A slice of numbers in a block that the body leaves alone. -/
def PlAt (S : Nat → Prop) (W : World) (A : Option Addr) (n : Nat) (zs : List Int) : Prop :=
  zs.length = n ∧ ((A = none ∧ n = 0) ∨ ∃ g c, A = some ⟨g, 0, none⟩ ∧ ¬ S g ∧ TabAt W g (.slice (some ⟨g, 0, none⟩) n c) zs)
theorem PlAt.ints {S : Nat → Prop} {W : World} {A : Option Addr} {n : Nat} {zs : List Int} (h : PlAt S W A n zs) : Ints W A n zs := by
  obtain ⟨h1, ⟨rfl, rfl⟩ | ⟨g, c, rfl, _, h2⟩⟩ := h
  · obtain rfl := List.eq_nil_of_length_eq_zero h1
    exact ⟨rfl, Cells.nil W _⟩
  · have := h2.ints; rw [h1] at this; exact this
theorem PlAt.lv {S S2 : Nat → Prop} {W W' : World} {A : Option Addr} {n : Nat} {zs : List Int} (h : PlAt S W A n zs) (k : Lv S W W') (hs : ∀ g, S2 g → S g ∨ W.heap.size ≤ g) : PlAt S2 W' A n zs := by
  refine ⟨h.1, h.2.imp id ?_⟩
  rintro ⟨g, c, h1, h2, h3⟩
  exact ⟨g, c, h1, fun h => (hs g h).elim h2 (fun h' => by have := h3.lt; omega), h3.lv k h2⟩
theorem PlAt.of {S : Nat → Prop} {W : World} {base : Nat} {v : Value} {zs : List Int} (h : W.ownsInts base 3 .i64 v zs) (hn : ∀ g, v.ownBlock = some g → ¬ S g) : ∃ A c, v = .slice A zs.length c ∧ PlAt S W A zs.length zs := by
  by_cases h0 : zs = []
  · subst h0
    rcases h.1.2 with ⟨rfl, _⟩ | ⟨g, cap, cur, rfl, _, hg, _⟩
    · exact ⟨_, _, rfl, rfl, .inl ⟨rfl, rfl⟩⟩
    · exact ⟨_, _, rfl, rfl, .inr ⟨g, cap, rfl, hn g rfl, cap, cur, rfl, hg, by simp⟩⟩
  · obtain ⟨g, hb, ht⟩ := TabAt.of_own h.1 h0
    obtain ⟨c, cs, rfl, h2, h3⟩ := ht
    exact ⟨_, _, rfl, rfl, .inr ⟨g, c, rfl, hn g rfl, c, cs, rfl, h2, h3⟩⟩

/-- The iterator's state: what has been yielded, and the map. -/
structure RunS (J : List Mt → (Nat → Prop) → World → Prop) (X : Nat → Prop) (w0 : World) (base g n : Nat) (F : ByteArray → List Int) (xs : List Mt) (S : Nat → Prop) (W : World) : Prop where
  j : J xs S W
  pre : PreT X w0 S W
  lt : ∀ h, S h → h < W.heap.size
  grp : GrpI W base g n F
  ng : ¬ S g
  sh : W.Shuns g S
section
variable {J : List Mt → (Nat → Prop) → World → Prop} {X : Nat → Prop} {w0 : World} {base g n : Nat} {F : ByteArray → List Int} {xs : List Mt} {S : Nat → Prop} {W : World}
theorem GrpI.lt (h : GrpI W base g n F) : g < W.heap.size := by
  obtain ⟨D, ⟨es, clock, hb, _⟩, _⟩ := h
  exact (Array.getElem?_eq_some_iff.1 hb).1
theorem GrpI.shuns (h : GrpI W base g n F) (hS : ∀ h, S h → h < base) : W.Shuns g S := by
  obtain ⟨D, h1, _⟩ := h
  intro es clock hb x hx j hj hs
  have := h1.rowsAbove (row := some j) (fun k hk => by cases hk; exact hS j hs) es clock hb x hx
  rcases this with h | h
  · rw [h] at hj; cases hj
  · exact h hj
theorem RunS.step {S2 : Nat → Prop} {W2 : World} {ys : List Mt} (h : RunS J X w0 base g n F xs S W) (k : Lv S W W2) (hs : ∀ g, S2 g → S g ∨ W.heap.size ≤ g) (hz : ∀ g, S2 g → g < W2.heap.size) (hj : J ys S2 W2) : RunS J X w0 base g n F ys S2 W2 := by
  obtain ⟨hg, hb⟩ := h.grp.lv k h.ng h.sh
  have hgl := h.grp.lt
  refine ⟨hj, ⟨h.pre.1.trans k (fun j hj hh => h.pre.2 j hj hh), fun j hj hh => ?_⟩, hz, hg, fun hh => ?_, ?_⟩
  · rcases hs j hh with h' | h'
    · exact h.pre.2 j hj h'
    · have := h.pre.1.size; omega
  · rcases hs g hh with h' | h'
    · exact h.ng h'
    · omega
  · obtain ⟨D, h1, _⟩ := h.grp
    have := h.sh.reno h1 hs
    intro es clock hb'
    exact this es clock (hb ▸ hb')
theorem RunS.ext {W2 : World} (h : RunS J X w0 base g n F xs S W) (hJ : Abides (fun _ => False) J) (e : Ext W W2) : RunS J X w0 base g n F xs S W2 :=
  h.step (Lv.of_ext e) (fun _ h => .inl h) (fun j hj => Nat.lt_of_lt_of_le (h.lt j hj) e.size) (hJ _ _ _ _ h.j (Lv.of_ext e))
end

theorem underSII : Tryz.prog.underlying 159 = some (.map 9 49) := by kernel_rfl
theorem underII : Tryz.prog.underlying 49 = some (.slice 3) := by kernel_rfl
theorem zeroII (w : World) : (zeroValue 49).run Tryz.prog w = .ok (.slice none 0 0) w := by kernel_rfl
end Go.Proofs.YtmmcjcaccicheaaGreatDoor

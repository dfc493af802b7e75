/- What the functions of histogram compute, in plain Lean. No condition. -/
import Derived.Test.YtkkjhkmfoeblaaaMyLaws
namespace Go.Proofs.Ytkkjhkmfoeblaaa
open Go.RowKit

/-- How often a line occurs. -/
def cnt (a : Lns) (s : ByteArray) : Nat := (a.filter (fun t => decide (t = s))).length
theorem cnt_le (a : Lns) (s : ByteArray) : cnt a s ≤ a.length := List.length_filter_le _ _
theorem cnt_snoc (a : Lns) (s t : ByteArray) : cnt (a ++ [t]) s = cnt a s + (if t = s then 1 else 0) := by
  unfold cnt; rw [List.filter_append, List.length_append]; congr 1
  by_cases h : t = s <;> simp [h]
theorem cnt_pos {a : Lns} {s : ByteArray} : 0 < cnt a s ↔ s ∈ a := by
  unfold cnt; rw [List.length_pos_iff_exists_mem]; simp

/-- The least of some numbers; 0 of none. -/
def least : List Nat → Nat
  | [] => 0
  | x :: l => l.foldl min x
theorem least_snoc {l : List Nat} (x : Nat) (h : l ≠ []) : least (l ++ [x]) = min (least l) x := by
  cases l with
  | nil => exact absurd rfl h
  | cons y l => simp [least]
theorem least_le {l : List Nat} {B : Nat} (h : ∀ x ∈ l, x ≤ B) : least l ≤ B := by
  cases l with
  | nil => simp [least]
  | cons y l =>
    have : ∀ (l : List Nat) (y : Nat), y ≤ B → l.foldl min y ≤ B := by
      intro l
      induction l with
      | nil => intro y h; exact h
      | cons z l ih => intro y h; exact ih _ (by omega)
    exact this l y (h y (by simp))

/-- The rarity of n lines from i on. -/
def rarV (a : Lns) (i n : Nat) : Nat := least (((a.drop i).take n).map (cnt a))
theorem rarV_le (a : Lns) (i n : Nat) : rarV a i n ≤ a.length := by
  refine least_le fun x hx => ?_
  obtain ⟨s, _, rfl⟩ := List.mem_map.1 hx
  exact cnt_le a s

/-- The length of the maximal common run that begins there. -/
def runN (a b : Lns) (i k : Nat) : Nat := if mtB a b ((i : Int) - 1) ((k : Int) - 1) then 0 else (folV a b i ((i : Int) - k) - i).toNat
theorem runN_ge (a b : Lns) (i k : Nat) : runN a b i k = 0 ∨ i + runN a b i k ≤ a.length := by
  unfold runN
  have := folV_ge a b i ((i : Int) - k)
  split <;> omega
theorem runN_spec {a b : Lns} {i k : Nat} (hi : i ≤ a.length) (hk : k ≤ b.length) : i + runN a b i k ≤ a.length ∧ k + runN a b i k ≤ b.length ∧ (∀ j, j < runN a b i k → mtB a b ((i + j : Nat)) ((k + j : Nat)) = true) ∧ (runN a b i k ≠ 0 → mtB a b ((i : Int) - 1) ((k : Int) - 1) = false ∧ mtB a b ((i + runN a b i k : Nat)) ((k + runN a b i k : Nat)) = false) := by
  unfold runN
  cases h : mtB a b ((i : Int) - 1) ((k : Int) - 1) with
  | true => simp; omega
  | false =>
    simp only [Bool.false_eq_true, if_false]
    obtain ⟨j, e1, e2, e3⟩ := folV_spec (a := a) (b := b) (x := i) (y := k) (k := (i : Int) - k) (by omega)
    have e4 : ((i + j : Nat) - (i : Int)).toNat = j := by omega
    rw [e1, e4]
    refine ⟨?_, ?_, e2, fun _ => ⟨trivial, e3⟩⟩
    · rcases Nat.eq_zero_or_pos j with h0 | h0
      · omega
      · have := mtB_lt (e2 (j - 1) (by omega)); omega
    · rcases Nat.eq_zero_or_pos j with h0 | h0
      · omega
      · have := mtB_lt (e2 (j - 1) (by omega)); omega

/-- A best run so far, with its rarity. -/
def bstep (a b : Lns) (s : Mt × Nat) (i k : Nat) : Mt × Nat :=
  if runN a b i k = 0 then s
  else if rarV a i (runN a b i k) < s.2 ∨ (rarV a i (runN a b i k) = s.2 ∧ s.1.n < runN a b i k ∧ rarV a i (runN a b i k) ≤ 64) then (⟨i, k, runN a b i k⟩, rarV a i (runN a b i k)) else s
def browP (a b : Lns) (s : Mt × Nat) (i k : Nat) : Mt × Nat := (List.range k).foldl (fun s k => bstep a b s i k) s
def bestP (a b : Lns) (i : Nat) : Mt × Nat := (List.range i).foldl (fun s i => browP a b s i b.length) (⟨0, 0, 0⟩, 65)
def bestV (a b : Lns) : Mt × Nat := bestP a b a.length
theorem browP_zero (a b : Lns) (s : Mt × Nat) (i : Nat) : browP a b s i 0 = s := rfl
theorem browP_succ (a b : Lns) (s : Mt × Nat) (i k : Nat) : browP a b s i (k + 1) = bstep a b (browP a b s i k) i k := by simp [browP, List.range_succ]
theorem bestP_zero (a b : Lns) : bestP a b 0 = (⟨0, 0, 0⟩, 65) := rfl
theorem bestP_succ (a b : Lns) (i : Nat) : bestP a b (i + 1) = browP a b (bestP a b i) i b.length := by simp [bestP, List.range_succ]

/-- A match, moved. -/
def Mt.by (m : Mt) (x y : Int) : Mt := ⟨m.a + x, m.b + y, m.n⟩
/-- The histogram matching, with fuel. -/
def hdiffV : Nat → Lns → Lns → List Mt
  | 0, _, _ => []
  | f + 1, a, b =>
    if (bestV a b).2 ≤ 64 then
      hdiffV f (a.take (bestV a b).1.a.toNat) (b.take (bestV a b).1.b.toNat) ++ [(bestV a b).1] ++
        (hdiffV f (a.drop ((bestV a b).1.a + (bestV a b).1.n).toNat) (b.drop ((bestV a b).1.b + (bestV a b).1.n).toNat)).map (fun m => m.by ((bestV a b).1.a + (bestV a b).1.n) ((bestV a b).1.b + (bestV a b).1.n))
    else diffV a b (dist a b)
end Go.Proofs.Ytkkjhkmfoeblaaa

/- What the functions of myers compute, in plain Lean; slices of numbers and of tables. No condition. -/
import Derived.Test.YtmmppfopokbcfaaMyAt
namespace Go.Proofs.Ytmmppfopokbcfaa
open Go.RowKit

abbrev Lns := List ByteArray

/-- Both lists have the same line there. -/
def mtB (a b : Lns) (x y : Int) : Bool :=
  decide (0 ≤ x) && decide (0 ≤ y) && (match a[x.toNat]?, b[y.toNat]? with | some s, some t => decide (s = t) | _, _ => false)

def fol (a b : Lns) (k : Int) : Nat → Int → Int
  | 0, x => x
  | f + 1, x => if mtB a b x (x - k) then fol a b k f (x + 1) else x
/-- Where following the diagonal k from x on ends. -/
def folV (a b : Lns) (x k : Int) : Int := fol a b k ((a.length : Int) - x).toNat x

theorem mtB_lt {a b : Lns} {x y : Int} (h : mtB a b x y = true) : 0 ≤ x ∧ 0 ≤ y ∧ x < a.length ∧ y < b.length := by
  unfold mtB at h
  simp only [Bool.and_eq_true, decide_eq_true_eq] at h
  obtain ⟨⟨h1, h2⟩, h3⟩ := h
  split at h3
  · rename_i s t hs ht
    have := (List.getElem?_eq_some_iff.1 hs).1
    have := (List.getElem?_eq_some_iff.1 ht).1
    exact ⟨h1, h2, by omega, by omega⟩
  · cases h3
theorem mtB_at {a b : Lns} {x y : Nat} {s t : ByteArray} (hs : a[x]? = some s) (ht : b[y]? = some t) : mtB a b x y = decide (s = t) := by
  unfold mtB
  simp [hs, ht]
theorem mtB_out {a b : Lns} {x y : Int} (h : ¬ (0 ≤ x ∧ 0 ≤ y ∧ x < a.length ∧ y < b.length)) : mtB a b x y = false := by
  cases e : mtB a b x y with
  | false => rfl
  | true => exact absurd (mtB_lt e) h
theorem folV_step {a b : Lns} {x k : Int} (h : mtB a b x (x - k) = true) : folV a b x k = folV a b (x + 1) k := by
  have h1 := mtB_lt h
  unfold folV
  obtain ⟨f, hf⟩ : ∃ f, ((a.length : Int) - x).toNat = f + 1 := ⟨((a.length : Int) - x).toNat - 1, by omega⟩
  have h2 : ((a.length : Int) - (x + 1)).toNat = f := by omega
  rw [hf, h2, fol, if_pos h]
theorem folV_stop {a b : Lns} {x k : Int} (h : mtB a b x (x - k) = false) : folV a b x k = x := by
  unfold folV
  cases ((a.length : Int) - x).toNat with
  | zero => rfl
  | succ f => rw [fol, if_neg (by simp [h])]
theorem fol_ge (a b : Lns) (k : Int) : ∀ (f : Nat) (x : Int), x ≤ fol a b k f x ∧ fol a b k f x ≤ x + f
  | 0, x => by simp [fol]
  | f + 1, x => by
    unfold fol
    have := fol_ge a b k f (x + 1)
    split <;> omega
theorem folV_ge (a b : Lns) (x k : Int) : x ≤ folV a b x k ∧ (folV a b x k ≤ x ∨ folV a b x k ≤ a.length) := by
  unfold folV
  have := fol_ge a b k ((a.length : Int) - x).toNat x
  omega

/-- What begins the way on a diagonal of the next table, and the diagonal from which it comes. -/
def stepV (t : List Int) (k : Int) : Int × Int :=
  match atV t (k - 1), atV t (k + 1) with
  | none, none => (0, k + 1)
  | none, some q => (q, k + 1)
  | some p, none => (p + 1, k - 1)
  | some p, some q => if p < q then (q, k + 1) else (p + 1, k - 1)

def nextV (a b : Lns) (t : List Int) : List Int :=
  (List.range (t.length + 1)).map fun i : Nat => folV a b (stepV t (2 * (i : Int) - t.length)).1 (2 * (i : Int) - t.length)
def tabV (a b : Lns) : Nat → List Int
  | 0 => [folV a b 0 0]
  | d + 1 => nextV a b (tabV a b d)
theorem tabV_len (a b : Lns) : ∀ d, (tabV a b d).length = d + 1
  | 0 => rfl
  | d + 1 => by simp [tabV, nextV, tabV_len a b d]

/-- A slice of slices of numbers. -/
structure TB where
  a : Option Addr
  n : Nat
  c : Nat
  t : List Int
def RTB (w : World) (s : TB) : Prop := s.n ≤ Reach ∧ Ints w s.a s.n s.t
theorem RTB.ext {w w' : World} {s : TB} (r : RTB w s) (e : Ext w w') : RTB w' s := ⟨r.1, r.2.ext e⟩
def RTBs (w : World) (A : Option Addr) (n : Nat) (L : List TB) : Prop := L.length = n ∧ (∀ s ∈ L, RTB w s) ∧ Cells w A (L.map fun s => .slice s.a s.n s.c)
theorem RTBs.ext {w w' : World} {A : Option Addr} {n : Nat} {L : List TB} (r : RTBs w A n L) (e : Ext w w') : RTBs w' A n L := ⟨r.1, fun s hs => (r.2.1 s hs).ext e, r.2.2.ext e⟩
theorem RTBs.get {w : World} {A : Option Addr} {n : Nat} {L : List TB} (h : RTBs w A n L) {k : Nat} (hk : k < n) : ∃ b off s, A = some ⟨b, off, none⟩ ∧ b < w.heap.size ∧ L[k]? = some s ∧ RTB w s ∧ w.cell? ⟨b, off + k, none⟩ = some (.slice s.a s.n s.c) := by
  have hl : k < L.length := by rw [h.1]; exact hk
  obtain ⟨b, off, h1, h2, h3⟩ := h.2.2.get (k := k) (by simpa using hl)
  exact ⟨b, off, L[k], h1, h2, List.getElem?_eq_getElem hl, h.2.1 _ (List.getElem_mem hl), h3 k _ (by simp [hl])⟩
end Go.Proofs.Ytmmppfopokbcfaa

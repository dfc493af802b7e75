/- The children of a node, as records of four cells. -/
import Derived.Test.YtbjniaihkllmdaaTrConcat
namespace Go.Proofs.Ytbjniaihkllmdaa
open Go.RowKit

theorem own_lv {S : Nat → Prop} {base : Nat} {e : TypeId} {size : Nat} {v : Value} {n : Nat} {xs : List Value} {W W' : World} (h : W.ownsRow base e size v n xs) (k : Lv S W W') (hS : ∀ g, v.ownBlock = some g → ¬ S g) : W'.ownsRow base e size v n xs := by
  refine ⟨h.1, ?_⟩
  rcases h.2 with hn | ⟨g, cap, cur, rfl, hb, hgg, rest⟩
  · exact .inl hn
  · exact .inr ⟨g, cap, cur, rfl, hb, Blk.lv hgg k (hS g rfl), rest⟩
theorem own_blk {base : Nat} {e : TypeId} {size : Nat} {v : Value} {n : Nat} {xs : List Value} {W : World} (h : W.ownsRow base e size v n xs) {g : Nat} (hg : v.ownBlock = some g) : base ≤ g ∧ ∃ cur, Blk W g (.cells cur e (0, 0)) := by
  rcases h.2 with ⟨rfl, _⟩ | ⟨g', cap, cur, rfl, hb, hgg, rest⟩
  · cases hg
  · cases hg; exact ⟨hb, cur, hgg⟩

structure Kd where
  k : ByteArray
  v : ByteArray
  A : Option Addr
  n : Nat
  c : Nat
  B : Option Addr
  m : Nat
  d : Nat
def Kd.cells (x : Kd) : List Value := [.string x.k, .string x.v, .slice x.A x.n x.c, .slice x.B x.m x.d]
theorem kd_len (x : Kd) : x.cells.length = 4 := rfl
theorem one_kd (l : List Kd) : ∀ u ∈ l.flatMap Kd.cells, u.oneCell' = true := by
  intro u hu
  obtain ⟨x, _, hx⟩ := List.mem_flatMap.1 hu
  simp only [Kd.cells, List.mem_cons, List.not_mem_nil, or_false] at hx
  rcases hx with rfl | rfl | rfl | rfl <;> rfl
def kidsOk (k : ByteArray) (l : List Kd) : Bool := l.all fun x => ahB k x.k
theorem BAt.kids {w : World} {b : BT} {A : Option Addr} {n : Nat} (h : BAt w b A n) :
    ∃ l : List Kd, l.length = n ∧ n ≤ 1 ∧ Cells w A (l.flatMap Kd.cells) ∧ (∀ x ∈ l, x.k.size ≤ Reach ∧ x.v.size ≤ Reach) ∧ ∀ k, kidsOk k l = topB k b := by
  cases b with
  | leaf => exact ⟨[], h.leaf.symm, by rw [h.leaf]; omega, .inl rfl, by simp, fun k => rfl⟩
  | node l k v r =>
    obtain ⟨b, off, Al, nl, cl, Ar, nr, cr, rfl, rfl, hb, hk, c0, c1, c2, c3, hl, hr⟩ := h.node
    refine ⟨[⟨k, v, Al, nl, cl, Ar, nr, cr⟩], rfl, Nat.le_refl _, .inr ⟨b, off, rfl, ?_⟩, by simpa using hk, fun k' => by simp [kidsOk, topB]⟩
    intro j u hj
    simp only [List.flatMap_cons, List.flatMap_nil, List.append_nil, Kd.cells] at hj
    rcases j with _ | _ | _ | _ | j
    · simp at hj; subst hj; exact c0
    · simp at hj; subst hj; exact c1
    · simp at hj; subst hj; exact c2
    · simp at hj; subst hj; exact c3
    · simp at hj
theorem own_kids {w : World} {base : Nat} {e : TypeId} {n : Nat} {v : Value} {l : List Kd} (h : w.ownsRow base e 4 v n (l.flatMap Kd.cells)) :
    ∃ A c, v = .slice A n c ∧ n ≤ c ∧ l.length = n ∧ ∀ i x, l[i]? = some x → ∃ g, A = some ⟨g, 0, none⟩ ∧ base ≤ g ∧ g < w.heap.size ∧ w.cell? ⟨g, i * 4, none⟩ = some (.string x.k) ∧ w.cell? ⟨g, i * 4 + 1, none⟩ = some (.string x.v) ∧ w.cell? ⟨g, i * 4 + 2, none⟩ = some (.slice x.A x.n x.c) ∧ w.cell? ⟨g, i * 4 + 3, none⟩ = some (.slice x.B x.m x.d) := by
  have hl : l.length = n := by have := h.1; rw [flat_len kd_len] at this; omega
  rcases h.2 with ⟨rfl, rfl⟩ | ⟨g, cap, cur, rfl, hb, hgg, hnc, hm, hcs, hcu⟩
  · obtain rfl : l = [] := List.eq_nil_of_length_eq_zero hl
    exact ⟨none, 0, rfl, Nat.le_refl _, rfl, fun i x h => by simp at h⟩
  · refine ⟨_, _, rfl, hnc, hl, fun i x hi => ⟨g, rfl, hb, Blk.lt (o := .cells cur e) hgg, ?_⟩⟩
    have hil : i < l.length := by rcases Nat.lt_or_ge i l.length with h | h; exact h; rw [List.getElem?_eq_none h] at hi; cases hi
    have key : ∀ j, j < 4 → w.cell? ⟨g, i * 4 + j, none⟩ = x.cells[j]? := fun j hj => by
      rw [Blk.cell (t := e) hgg, ← flat_get kd_len l i j x hi hj, ← hcu, List.getElem?_take]
      rw [if_pos (by omega), ← Array.getElem?_toList]
    exact ⟨key 0 (by omega), key 1 (by omega), key 2 (by omega), key 3 (by omega)⟩
theorem kids_take {k : ByteArray} {l : List Kd} {i : Nat} {x : Kd} (h : l[i]? = some x) : kidsOk k (l.take (i + 1)) = (kidsOk k (l.take i) && ahB k x.k) := by
  have : l.take (i + 1) = l.take i ++ [x] := by
    rw [List.take_add_one, h]; rfl
  rw [this, kidsOk, List.all_append]; simp [kidsOk]
end Go.Proofs.Ytbjniaihkllmdaa

/- Maps (trees) in memory, their plain form, small helpers. No condition. -/
import Derived.Test.YtbjniaihkllmdaaAppend
import Derived.Lib.Hide
import Derived.Lib.Bytealg
namespace Go.Proofs.Ytbjniaihkllmdaa
open Go.RowKit

theorem nd {p : Prop} [Decidable p] (h : ¬ p) : decide p = false := by simpa using h
theorem yd {p : Prop} [Decidable p] (h : p) : decide p = true := by simpa using h
theorem w64_in {x : Int} (h1 : -9223372036854775808 ≤ x) (h2 : x ≤ 9223372036854775807) : wrap64 x = x := by unfold wrap64; omega
theorem wrap_in {x : Int} (h1 : -9223372036854775808 ≤ x) (h2 : x ≤ 9223372036854775807) : IntKind.i64.wrap x = x := IntWalk.i64_in _ ⟨h1, h2⟩

/-- A slice of nodes, as it may come in: any number of nodes in each slice. -/
inductive MT where
  | nil : MT
  | cons (k v : ByteArray) (l r rest : MT) : MT
def MT.len : MT → Nat
  | .nil => 0
  | .cons _ _ _ _ rest => rest.len + 1
def MT.drop : MT → Nat → MT
  | t, 0 => t
  | .nil, _ + 1 => .nil
  | .cons _ _ _ _ rest, k + 1 => rest.drop k
/-- The nodes from (b, off) on. -/
def Row (w : World) : MT → Nat → Nat → Prop
  | .nil, _, _ => True
  | .cons k v l r rest, b, off => (k.size ≤ Reach ∧ v.size ≤ Reach) ∧ w.cell? ⟨b, off, none⟩ = some (.string k) ∧ w.cell? ⟨b, off + 1, none⟩ = some (.string v) ∧
      (∃ A n c, w.cell? ⟨b, off + 2, none⟩ = some (.slice A n c) ∧ n ≤ Reach ∧ l.len = n ∧ (n = 0 ∨ ∃ b' off', A = some ⟨b', off', none⟩ ∧ b' < w.heap.size ∧ Row w l b' off')) ∧
      (∃ A n c, w.cell? ⟨b, off + 3, none⟩ = some (.slice A n c) ∧ n ≤ Reach ∧ r.len = n ∧ (n = 0 ∨ ∃ b' off', A = some ⟨b', off', none⟩ ∧ b' < w.heap.size ∧ Row w r b' off')) ∧
      Row w rest b (off + 4)
/-- A map in memory. -/
def MapAt (w : World) (t : MT) (A : Option Addr) (n : Nat) : Prop :=
  n ≤ Reach ∧ t.len = n ∧ (n = 0 ∨ ∃ b off, A = some ⟨b, off, none⟩ ∧ b < w.heap.size ∧ Row w t b off)
theorem Row.ext {w w' : World} (e : Ext w w') : ∀ {t : MT} {b off : Nat}, Row w t b off → Row w' t b off
  | .nil, _, _, _ => trivial
  | .cons k v l r rest, b, off, ⟨h0, h1, h2, ⟨A, n, c, a1, a2, a3, a4⟩, ⟨B, m, d, b1, b2, b3, b4⟩, h5⟩ => by
    refine ⟨h0, e.cell h1, e.cell h2, ⟨A, n, c, e.cell a1, a2, a3, ?_⟩, ⟨B, m, d, e.cell b1, b2, b3, ?_⟩, Row.ext e h5⟩
    · rcases a4 with h | ⟨b', off', g1, g2, g3⟩
      · exact .inl h
      · exact .inr ⟨b', off', g1, Nat.lt_of_lt_of_le g2 e.size, Row.ext e g3⟩
    · rcases b4 with h | ⟨b', off', g1, g2, g3⟩
      · exact .inl h
      · exact .inr ⟨b', off', g1, Nat.lt_of_lt_of_le g2 e.size, Row.ext e g3⟩
theorem MapAt.ext {w w' : World} {t : MT} {A : Option Addr} {n : Nat} (h : MapAt w t A n) (e : Ext w w') : MapAt w' t A n := by
  refine ⟨h.1, h.2.1, ?_⟩
  rcases h.2.2 with h | ⟨b, off, h1, h2, h3⟩
  · exact .inl h
  · exact .inr ⟨b, off, h1, Nat.lt_of_lt_of_le h2 e.size, h3.ext e⟩
theorem MapAt.nil (w : World) (A : Option Addr) : MapAt w .nil A 0 := ⟨Nat.zero_le _, rfl, .inl rfl⟩
theorem Row.drop {w : World} : ∀ {t : MT} {b off : Nat} (k : Nat), Row w t b off → Row w (t.drop k) b (off + k * 4)
  | _, _, _, 0, h => by simpa [MT.drop] using h
  | .nil, _, _, _ + 1, _ => trivial
  | .cons _ _ _ _ rest, b, off, k + 1, ⟨_, _, _, _, _, h⟩ => by
    have := Row.drop k h
    rw [MT.drop, show off + (k + 1) * 4 = off + 4 + k * 4 by omega]; exact this
theorem MT.drop_len : ∀ (t : MT) (k : Nat), (t.drop k).len = t.len - k
  | t, 0 => by simp [MT.drop]
  | .nil, _ + 1 => by simp [MT.drop, MT.len]
  | .cons _ _ _ _ rest, k + 1 => by rw [MT.drop, MT.drop_len rest k, MT.len]; omega
theorem MT.drop_succ : ∀ {t : MT} {j : Nat} {k v : ByteArray} {l r rest : MT}, t.drop j = .cons k v l r rest → t.drop (j + 1) = rest
  | .nil, j, _, _, _, _, _, h => by cases j <;> simp [MT.drop] at h
  | .cons _ _ _ _ rest, 0, _, _, _, _, _, h => by simp only [MT.drop, MT.cons.injEq] at h; obtain ⟨_, _, _, _, rfl⟩ := h; cases rest <;> rfl
  | .cons _ _ _ _ rest, j + 1, _, _, _, _, _, h => by rw [MT.drop] at h; rw [MT.drop]; exact MT.drop_succ h
/-- The node j of a map. -/
theorem MapAt.at {w : World} {t : MT} {A : Option Addr} {n : Nat} (h : MapAt w t A n) {j : Nat} (hj : j < n) :
    ∃ b off k v l r rest Al nl cl Ar nr cr, t.drop j = .cons k v l r rest ∧ A = some ⟨b, off, none⟩ ∧ b < w.heap.size ∧ (k.size ≤ Reach ∧ v.size ≤ Reach) ∧
      w.cell? ⟨b, off + j * 4, none⟩ = some (.string k) ∧ w.cell? ⟨b, off + j * 4 + 1, none⟩ = some (.string v) ∧
      w.cell? ⟨b, off + j * 4 + 2, none⟩ = some (.slice Al nl cl) ∧ w.cell? ⟨b, off + j * 4 + 3, none⟩ = some (.slice Ar nr cr) ∧ MapAt w l Al nl ∧ MapAt w r Ar nr := by
  obtain ⟨_, h1, h2⟩ := h
  rcases h2 with h2 | ⟨b, off, rfl, hb, hr⟩
  · omega
  have hd := MT.drop_len t j
  have hr2 := hr.drop j
  cases ht : t.drop j with
  | nil => rw [ht] at hd; simp only [MT.len] at hd; omega
  | cons k v l r rest =>
    rw [ht] at hr2
    obtain ⟨g0, g1, g2, ⟨Al, nl, cl, a1, a2, a3, a4⟩, ⟨Ar, nr, cr, b1, b2, b3, b4⟩, _⟩ := hr2
    exact ⟨b, off, k, v, l, r, rest, Al, nl, cl, Ar, nr, cr, rfl, rfl, hb, g0, g1, g2, a1, b1, ⟨a2, a3, a4⟩, ⟨b2, b3, b4⟩⟩

/-- A tree: a map each of whose slices has one node at most. -/
inductive BT where
  | leaf : BT
  | node (l : BT) (k v : ByteArray) (r : BT) : BT
def BT.mt : BT → MT
  | .leaf => .nil
  | .node l k v r => .cons k v l.mt r.mt .nil
abbrev BAt (w : World) (b : BT) (A : Option Addr) (n : Nat) : Prop := MapAt w b.mt A n
theorem BAt.leaf {w : World} {A : Option Addr} {n : Nat} (h : BAt w .leaf A n) : n = 0 := by have := h.2.1; simpa [BT.mt, MT.len] using this.symm
/-- The one node of a tree. -/
theorem BAt.node {w : World} {l r : BT} {k v : ByteArray} {A : Option Addr} {n : Nat} (h : BAt w (.node l k v r) A n) :
    ∃ b off Al nl cl Ar nr cr, n = 1 ∧ A = some ⟨b, off, none⟩ ∧ b < w.heap.size ∧ (k.size ≤ Reach ∧ v.size ≤ Reach) ∧
      w.cell? ⟨b, off, none⟩ = some (.string k) ∧ w.cell? ⟨b, off + 1, none⟩ = some (.string v) ∧
      w.cell? ⟨b, off + 2, none⟩ = some (.slice Al nl cl) ∧ w.cell? ⟨b, off + 3, none⟩ = some (.slice Ar nr cr) ∧ BAt w l Al nl ∧ BAt w r Ar nr := by
  have hn : n = 1 := by have := h.2.1; simpa [BT.mt, MT.len] using this.symm
  obtain ⟨b, off, k', v', l', r', rest, Al, nl, cl, Ar, nr, cr, hd, h1, h2, h3, h4, h5, h6, h7, h8, h9⟩ := h.at (j := 0) (by omega)
  have hd2 : BT.mt (.node l k v r) = .cons k' v' l' r' rest := hd
  rw [BT.mt] at hd2
  cases hd2
  simp only [Nat.zero_mul, Nat.add_zero] at h4 h5 h6 h7
  exact ⟨b, off, Al, nl, cl, Ar, nr, cr, hn, h1, h2, h3, h4, h5, h6, h7, h8, h9⟩
/-- What a node looks like in four cells. -/
abbrev nodeObj (k v : ByteArray) (Al : Option Addr) (nl cl : Nat) (Ar : Option Addr) (nr cr : Nat) : Obj := .cells #[.string k, .string v, .slice Al nl cl, .slice Ar nr cr] 63
theorem Blk.cells4 {w : World} {g : Nat} {t : TypeId} {x y z u : Value} (h : Blk w g (.cells #[x, y, z, u] t (0, 0))) : w.cell? ⟨g, 0, none⟩ = some x ∧ w.cell? ⟨g, 1, none⟩ = some y ∧ w.cell? ⟨g, 2, none⟩ = some z ∧ w.cell? ⟨g, 3, none⟩ = some u :=
  ⟨h.cell 0, h.cell 1, h.cell 2, h.cell 3⟩
theorem BAt.mk {w : World} {l r : BT} {k v : ByteArray} {g : Nat} {Al : Option Addr} {nl cl : Nat} {Ar : Option Addr} {nr cr : Nat} (hb : Blk w g (nodeObj k v Al nl cl Ar nr cr)) (hk : k.size ≤ Reach) (hv : v.size ≤ Reach) (hl : BAt w l Al nl) (hr : BAt w r Ar nr) :
    BAt w (.node l k v r) (some ⟨g, 0, none⟩) 1 := by
  obtain ⟨c0, c1, c2, c3⟩ := hb.cells4
  exact ⟨by decide, rfl, .inr ⟨g, 0, rfl, hb.lt, ⟨hk, hv⟩, c0, c1, ⟨Al, nl, cl, c2, hl⟩, ⟨Ar, nr, cr, c3, hr⟩, trivial⟩⟩
end Go.Proofs.Ytbjniaihkllmdaa

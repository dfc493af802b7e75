/- Plain laws of valid trees. No condition. -/
import Derived.Test.YtbjniaihkllmdaaTrPlain
namespace Go.Proofs.Ytbjniaihkllmdaa
open Go.RowKit

/-- A map that the reference calls valid. -/
theorem val_tree {t : MT} (h : valB t = true) : ∃ b : BT, t = b.mt ∧ OK b ∧ b.size ≤ 30 := by
  unfold valB at h
  rw [Bool.and_eq_true, decide_eq_true_eq, beq_iff_eq] at h
  obtain ⟨h1, h2⟩ := h
  have hw : t.wide = false := by
    rw [chkT] at h2
    split at h2
    · cases h2
    · rename_i h; simpa using h
  refine ⟨t.tree, MT.tree_of hw, ?_, by rw [← BT.mt_size, ← MT.tree_of hw]; exact h1⟩
  rw [← chk_ok]
  rw [chkT, if_neg (by rw [hw]; simp)] at h2
  exact h2
theorem val_mt {b : BT} (h : OK b) (hs : b.size ≤ 30) : valB b.mt = true := by
  unfold valB
  rw [BT.mt_size, chkT, if_neg (by rw [BT.mt_wide]; simp), BT.tree_mt, (chk_ok b).2 h]
  simp [hs]
theorem ok_leaf : OK .leaf := ⟨trivial, trivial, fun p hp => absurd hp (mem_leaf p)⟩
theorem ok_put {b : BT} {k v : ByteArray} (h : OK b) (hl : lgB k v = false) : OK (putV k v b) := by
  obtain ⟨h1, h2, h3⟩ := put_spec k v b h.1 h.2.1
  refine ⟨h1, h2, fun p hp => ?_⟩
  rcases (h3 p).1 hp with rfl | ⟨h', _⟩
  · exact hl
  · exact h.2.2 p h'
theorem ok_wo {b : BT} {k : ByteArray} (h : OK b) : OK (woV k b) := by
  obtain ⟨h1, h2, h3⟩ := wo_spec k b h.1 h.2.1
  exact ⟨h1, h2, fun p hp => h.2.2 p ((h3 p).1 hp).1⟩
theorem ok_split1 {b : BT} {k : ByteArray} (h : OK b) : OK (splitV k b).1 := by
  obtain ⟨h1, h2, h3, h4, h5, h6⟩ := split_spec k b h.1 h.2.1
  exact ⟨h1, h2, fun p hp => h.2.2 p ((h5 p).1 hp).1⟩
theorem ok_split2 {b : BT} {k : ByteArray} (h : OK b) : OK (splitV k b).2 := by
  obtain ⟨h1, h2, h3, h4, h5, h6⟩ := split_spec k b h.1 h.2.1
  exact ⟨h3, h4, fun p hp => h.2.2 p ((h6 p).1 hp).1⟩
theorem ok_uniq {a b : BT} (ha : OK a) (hb : OK b) (h : ∀ p, p ∈ prsV a ↔ p ∈ prsV b) : a = b := uniq a b ha.1 ha.2.1 hb.1 hb.2.1 h
theorem find_put {b : BT} {k v : ByteArray} (h : OK b) : findV k (putV k v b) = some v := by
  obtain ⟨h1, h2, h3⟩ := put_spec k v b h.1 h.2.1
  exact (find_mem h1 k v).2 ((h3 _).2 (.inl rfl))
theorem find_other {b : BT} {k v o : ByteArray} (h : OK b) (ho : o ≠ k) : findV o (putV k v b) = findV o b := by
  obtain ⟨h1, h2, h3⟩ := put_spec k v b h.1 h.2.1
  cases hf : findV o b with
  | some u => exact (find_mem h1 o u).2 ((h3 _).2 (.inr ⟨(find_mem h.1 o u).1 hf, ho⟩))
  | none =>
    rw [find_none h1]
    intro p hp
    rcases (h3 p).1 hp with rfl | ⟨h', _⟩
    · exact fun e => ho e.symm
    · exact (find_none h.1 o).1 hf p h'
theorem find_wo {b : BT} {k : ByteArray} (h : OK b) : findV k (woV k b) = none := by
  obtain ⟨h1, h2, h3⟩ := wo_spec k b h.1 h.2.1
  rw [find_none h1]
  exact fun p hp => ((h3 p).1 hp).2
theorem wo_put {b : BT} {k v : ByteArray} (h : OK b) (hn : findV k b = none) : woV k (putV k v b) = b := by
  obtain ⟨h1, h2, h3⟩ := put_spec k v b h.1 h.2.1
  obtain ⟨g1, g2, g3⟩ := wo_spec k _ h1 h2
  refine uniq _ _ g1 g2 h.1 h.2.1 fun p => ?_
  rw [g3, h3]
  constructor
  · rintro ⟨rfl | ⟨h', _⟩, hne⟩
    · exact absurd rfl hne
    · exact h'
  · exact fun hp => ⟨.inr ⟨hp, (find_none h.1 k).1 hn p hp⟩, (find_none h.1 k).1 hn p hp⟩
theorem split_lt {b : BT} {k : ByteArray} (h : OK b) : ∀ p ∈ prsV (splitV k b).1, ∀ q ∈ prsV (splitV k b).2, klt p.k q.k = true := by
  obtain ⟨h1, h2, h3, h4, h5, h6⟩ := split_spec k b h.1 h.2.1
  intro p hp q hq
  have a := ((h5 p).1 hp).2
  have b := ((h6 q).1 hq).2
  rcases klt_tri p.k q.k with h | h | h
  · exact h
  · rw [h] at a; rw [a] at b; cases b
  · rw [klt_trans h a] at b; cases b
theorem join_split {b : BT} {k : ByteArray} (h : OK b) : joinV (splitV k b).1 (splitV k b).2 = b := by
  obtain ⟨h1, h2, h3, h4, h5, h6⟩ := split_spec k b h.1 h.2.1
  obtain ⟨g1, g2, g3⟩ := join_spec h1 h2 h3 h4 (split_lt h)
  refine uniq _ _ g1 g2 h.1 h.2.1 fun p => ?_
  rw [g3, h5, h6]
  cases klt p.k k <;> simp
theorem head_last {k l : List Pr} (h : ∀ p ∈ k, ∀ q ∈ l, klt p.k q.k = true) (x y : Pr) (hx : k.getLast? = some x) (hy : l.head? = some y) : klt x.k y.k = true :=
  h x (List.mem_of_getLast? hx) y (List.mem_of_head? hy)
theorem lg_false {k v : ByteArray} (hk : k.size ≤ 40) (hv : v.size ≤ 1000) : lgB k v = false := by
  unfold lgB
  rw [decide_eq_false (by omega), decide_eq_false (by omega)]; rfl
theorem lg_sizes {k v : ByteArray} (h : lgB k v = false) : k.size ≤ 40 ∧ v.size ≤ 1000 := by
  unfold lgB at h
  simp only [Bool.or_eq_false_iff, decide_eq_false_iff_not] at h
  omega
end Go.Proofs.Ytbjniaihkllmdaa

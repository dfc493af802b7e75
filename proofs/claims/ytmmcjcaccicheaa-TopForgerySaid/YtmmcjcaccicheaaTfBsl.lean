/- Slice literals of digests. No condition. -/
import Derived.Test.YtmmcjcaccicheaaTfDgs
import Derived.Great.BuildSlice
namespace Go.Proofs.Ytmmcjcaccicheaa
open Go.RowKit
theorem fold_put (o : Nat) : ∀ (l pre mid post : List Value) (k : Nat), mid.length = l.length → pre.length = o + k →
    (l.zipIdx k).foldl (fun cs (x : Value × Nat) => cs.setIfInBounds (o + x.2) x.1) (pre ++ mid ++ post).toArray = (pre ++ l ++ post).toArray
  | [], pre, mid, post, k, hm, hp => by
    obtain rfl := List.eq_nil_of_length_eq_zero hm
    rfl
  | x :: l, pre, [], post, k, hm, hp => by cases hm
  | x :: l, pre, y :: mid, post, k, hm, hp => by
    have := fold_put o l (pre ++ [x]) mid post (k + 1) (by simpa using hm) (by rw [List.length_append, hp]; simp; omega)
    rw [List.zipIdx_cons, List.foldl_cons]
    have e : (pre ++ y :: mid ++ post).toArray.setIfInBounds (o + k) x = (pre ++ [x] ++ mid ++ post).toArray := by
      rw [← hp]
      apply Array.ext'
      simp
    rw [e, this]
    simp
/-- The literal. -/
def BslT (n : Nat) (ps : Array (Nat × Value)) : Sem Value := Instr.buildSlice 23 n ps
theorem hBsl (n : Nat) (ps : Array (Nat × Value)) : Instr.buildSlice 23 n ps = BslT n ps := rfl
theorem dg_info : (Try.prog.info? 34).map (fun i => (i.zero, i.size, i.bytes)) = some (some (.agg ZDg), 32, 32) := by kernel_rfl
theorem bsl_one (d : Bs) (hd : d.length = 32) (w : World) : (BslT 1 #[(0, dv d)]).run Try.prog w = .ok (.slice (some ⟨w.heap.size, 0, none⟩) 1 1) (w.alloc (.cells (dgl d).toArray 34)) := by
  obtain ⟨inf, i1, i2, i3, i4⟩ := info_of dg_info
  unfold BslT
  refine run_buildSlice w 23 34 1 #[(0, dv d)] (dgl d).toArray inf (.agg ZDg) Try.underlying23 i1 i2 (by rw [i3]; omega) (by rw [i3]; omega) ?_
  rw [i3]
  have hz : ((Array.range (1 * 32)).map ((Value.agg ZDg).cells[· % (Value.agg ZDg).cells.size]!)) = ([] ++ ZDg.toList ++ []).toArray := by kernel_rfl
  rw [hz]
  have hs : (dv d).cells.size = 32 := by unfold dv; simp [Value.cells, dgl_len, hd]
  show Instr.fill _ _ [(0, dv d)] = _
  have hsz : ([] ++ ZDg.toList ++ [] : List Value).toArray.size = 32 := by rw [zdg]; rfl
  unfold Instr.fill
  simp only [hs, ne_eq, not_true_eq_false, false_or, Nat.zero_mul, Nat.zero_add, hsz, gt_iff_lt, Nat.lt_irrefl, if_false]
  unfold Instr.fill
  have hc : (dv d).cells = (dgl d).toArray := rfl
  have := fold_put 0 (dgl d) [] ZDg.toList [] 0 (by rw [dgl_len, hd, zdg]; rfl) rfl
  simp only [Nat.zero_add] at this
  rw [hc, ← Array.foldl_toList, Array.toList_zipIdx]
  simp only [List.nil_append, List.append_nil] at this ⊢
  rw [this]
  rfl
theorem bsl_two (d e : Bs) (hd : d.length = 32) (he : e.length = 32) (w : World) : (BslT 2 #[(0, dv d), (1, dv e)]).run Try.prog w = .ok (.slice (some ⟨w.heap.size, 0, none⟩) 2 2) (w.alloc (.cells (dgs [d, e]).toArray 34)) := by
  obtain ⟨inf, i1, i2, i3, i4⟩ := info_of dg_info
  unfold BslT
  refine run_buildSlice w 23 34 2 #[(0, dv d), (1, dv e)] (dgs [d, e]).toArray inf (.agg ZDg) Try.underlying23 i1 i2 (by rw [i3]; omega) (by rw [i3]; omega) ?_
  rw [i3]
  have hz : ((Array.range (2 * 32)).map ((Value.agg ZDg).cells[· % (Value.agg ZDg).cells.size]!)) = ([] ++ ZDg.toList ++ ZDg.toList).toArray := by kernel_rfl
  rw [hz]
  have hs : (dv d).cells.size = 32 := by unfold dv; simp [Value.cells, dgl_len, hd]
  have ht : (dv e).cells.size = 32 := by unfold dv; simp [Value.cells, dgl_len, he]
  show Instr.fill _ _ [(0, dv d), (1, dv e)] = _
  have hsz : ([] ++ ZDg.toList ++ ZDg.toList : List Value).toArray.size = 64 := by rw [zdg]; rfl
  have hc : (dv d).cells = (dgl d).toArray := rfl
  have hc2 : (dv e).cells = (dgl e).toArray := rfl
  have h1 := fold_put 0 (dgl d) [] ZDg.toList ZDg.toList 0 (by rw [dgl_len, hd, zdg]; rfl) rfl
  have h2 := fold_put 32 (dgl e) (dgl d) ZDg.toList [] 0 (by rw [dgl_len, he, zdg]; rfl) (by rw [dgl_len, hd])
  have hsz2 : (dgl d ++ ZDg.toList : List Value).toArray.size = 64 := by rw [zdg]; simp [dgl_len, hd]
  simp only [Nat.zero_add, List.nil_append, List.append_nil] at h1 h2 hsz hsz2 ⊢
  unfold Instr.fill
  simp only [hs, ne_eq, not_true_eq_false, false_or, Nat.zero_mul, Nat.zero_add, hsz, gt_iff_lt, Nat.reduceLT, if_false]
  rw [hc, ← Array.foldl_toList, Array.toList_zipIdx]
  rw [h1]
  unfold Instr.fill
  simp only [ht, ne_eq, not_true_eq_false, false_or, Nat.one_mul, hsz2, gt_iff_lt, Nat.reduceAdd, Nat.lt_irrefl, if_false]
  unfold Instr.fill
  rw [hc2, ← Array.foldl_toList, Array.toList_zipIdx]
  rw [h2]
  unfold dgs
  simp
/-- A slice of digests in memory. -/
def DgS (W : World) (v : Value) (l : List Bs) : Prop := (∀ d ∈ l, d.length = 32) ∧ ∃ A c, v = .slice A l.length c ∧ Cells W A (dgs l)
theorem DgS.ext {W W' : World} {v : Value} {l : List Bs} (h : DgS W v l) (e : Ext W W') : DgS W' v l := by
  obtain ⟨h1, A, c, h2, h3⟩ := h
  exact ⟨h1, A, c, h2, h3.ext e⟩
theorem DgS.at {W : World} {v : Value} {l : List Bs} (h : DgS W v l) (hl : l ≠ []) : ∃ g o c, v = .slice (some ⟨g, o, none⟩) l.length c ∧ ∀ j x, (dgs l)[j]? = some x → W.cell? ⟨g, o + j, none⟩ = some x := by
  obtain ⟨h1, A, c, h2, h3⟩ := h
  rcases h3 with h3 | ⟨b, off, rfl, h3⟩
  · have := dgs_len l h1
    rw [h3] at this
    exact absurd (List.eq_nil_of_length_eq_zero (by simp at this; omega)) hl
  · exact ⟨b, off, c, h2, h3⟩
theorem dgs_load {W : World} {g o : Nat} {l : List Bs} (h : ∀ (j : Nat) (x : Value), (dgs l)[j]? = some x → W.cell? ⟨g, o + j, none⟩ = some x) (hw : ∀ d ∈ l, d.length = 32) {i : Nat} {d : Bs} (hi : l[i]? = some d) :
    (LdT 34 (.pointer (some ⟨g, o + i * 32, none⟩))).run Try.prog W = .ok (dv d) W :=
  ld_dg_at (hw d (List.mem_of_getElem? hi)) (fun j x hj => by rw [Nat.add_assoc, Nat.mul_comm i 32]; exact h _ _ (dgs_get hw hi hj))
theorem own_dgs {w : World} {base n : Nat} {v : Value} {l : List Bs} (h : w.ownsRow base 34 32 v n (dgs l)) (hw : ∀ d ∈ l, d.length = 32) (hn : n = l.length) (h0 : l ≠ []) : DgS w v l := by
  subst hn
  obtain ⟨A, c, h1, h2, h3, h4⟩ := own_cells h (.inl (fun e => h0 (List.eq_nil_of_length_eq_zero (by have := dgs_len l hw; rw [e] at this; simp at this; omega))))
  exact ⟨hw, A, c, h1, h3⟩
theorem Blk.setCell {W : World} {g : Nat} {c : Array Value} {t : TypeId} (h : Blk W g (.cells c t (0, 0))) (i : Nat) (v : Value) : Blk (W.setCell ⟨g, i, none⟩ v) g (.cells (c.setIfInBounds i v) t (0, 0)) := by
  have := setCell_eq_setRow W g i c t (0, 0) v h
  unfold Blk
  rw [this, setRow_heap W g _ _ t _ h]
attribute [irreducible] BslT
attribute [simp ↓] hBsl
end Go.Proofs.Ytmmcjcaccicheaa

/- Digests inside arrays and slices. No condition. -/
import Derived.Test.YtmmcjcaccicheaaTfLeaf
namespace Go.Proofs.Ytmmcjcaccicheaa
open Go.RowKit
/-- The cells of digests, one behind the other. -/
def dgs (ls : List Bs) : List Value := ls.flatMap dgl
theorem dgs_len : ∀ (ls : List Bs), (∀ d ∈ ls, d.length = 32) → (dgs ls).length = 32 * ls.length
  | [], _ => rfl
  | d :: r, h => by
    unfold dgs
    rw [List.flatMap_cons, List.length_append, dgl_len, h d List.mem_cons_self, List.length_cons]
    have := dgs_len r (fun e he => h e (List.mem_cons_of_mem _ he))
    unfold dgs at this
    omega
theorem dgs_get : ∀ {ls : List Bs} {i : Nat} {d : Bs} {j : Nat} {x : UInt8}, (∀ d ∈ ls, d.length = 32) → ls[i]? = some d → d[j]? = some x → (dgs ls)[32 * i + j]? = some (bv x)
  | [], i, d, j, x, _, h, _ => by simp at h
  | c :: r, 0, d, j, x, hw, h, hj => by
    simp at h; subst h
    unfold dgs
    rw [List.flatMap_cons, List.getElem?_append_left (by rw [dgl_len]; have := (List.getElem?_eq_some_iff.1 hj).1; omega)]
    rw [show 32 * 0 + j = j by omega]
    exact dgl_get hj
  | c :: r, i + 1, d, j, x, hw, h, hj => by
    have := dgs_get (ls := r) (fun e he => hw e (List.mem_cons_of_mem _ he)) (by simpa using h) hj
    unfold dgs at this ⊢
    rw [List.flatMap_cons, List.getElem?_append_right (by rw [dgl_len, hw c List.mem_cons_self]; omega), dgl_len, hw c List.mem_cons_self]
    rw [show 32 * (i + 1) + j - 32 = 32 * i + j by omega]; exact this
theorem dgs_set : ∀ {ls : List Bs} {i : Nat} (d : Bs), (∀ d ∈ ls, d.length = 32) → i < ls.length → (dgs ls).take (32 * i) ++ dgl d ++ (dgs ls).drop (32 * i + 32) = dgs (ls.set i d)
  | [], i, d, _, h => by simp at h
  | c :: r, 0, d, hw, h => by
    have hc : (dgl c).length = 32 := by rw [dgl_len, hw c List.mem_cons_self]
    unfold dgs
    rw [List.set_cons_zero, List.flatMap_cons, List.flatMap_cons, Nat.mul_zero, List.take_zero, List.nil_append, Nat.zero_add, List.drop_append_of_le_length (by omega), List.drop_of_length_le (by omega), List.nil_append]
  | c :: r, i + 1, d, hw, h => by
    have hc : (dgl c).length = 32 := by rw [dgl_len, hw c List.mem_cons_self]
    have := dgs_set (ls := r) (i := i) d (fun e he => hw e (List.mem_cons_of_mem _ he)) (by simpa using h)
    unfold dgs at this ⊢
    rw [List.set_cons_succ, List.flatMap_cons, List.flatMap_cons, ← this, List.take_append, List.drop_append, hc]
    rw [List.take_of_length_le (by omega), List.drop_of_length_le (by omega)]
    rw [show 32 * (i + 1) - 32 = 32 * i by omega, show 32 * (i + 1) + 32 - 32 = 32 * i + 32 by omega]
    simp [List.append_assoc]
theorem dgs_one (ls : List Bs) : ∀ v ∈ dgs ls, v.oneCell' = true := by
  intro v hv; unfold dgs at hv
  obtain ⟨d, -, h⟩ := List.mem_flatMap.1 hv
  exact dgl_one d v h
/-- A digest out of the middle of a block. -/
theorem ld_dg_at {W : World} {g o : Nat} {l : Bs} (hl : l.length = 32) (h : ∀ (j : Nat) (x : UInt8), l[j]? = some x → W.cell? ⟨g, o + j, none⟩ = some (bv x)) : (LdT 34 (.pointer (some ⟨g, o, none⟩))).run Try.prog W = .ok (dv l) W := by
  have hc : (loadCells ⟨g, o, none⟩ (dgl l).length).run Try.prog W = .ok (dgl l).toArray W := run_loadCells_list (P := Try.prog) W ⟨g, o, none⟩ (dgl l) (fun j v hj => by
    have hadd : (⟨g, o, none⟩ : Addr).add j = ⟨g, o + j, none⟩ := by unfold Addr.add; split <;> simp_all
    unfold dgl at hj
    rw [List.getElem?_map] at hj
    cases hy : l[j]? with
    | none => rw [hy] at hj; cases hj
    | some x => rw [hy] at hj; cases hj; rw [hadd]; exact h j x hy)
  rw [dgl_len, hl] at hc
  unfold LdT Instr.loadAt
  simp only [Instr.sureAddr, Sem.run_bind, Sem.run_pure, Result.andThen]
  unfold loadVar
  simp only [Sem.run_bind, Try.isAgg34, Try.sizeOf34, Result.andThen, if_true, hc]
  rfl
/-- A digest into the middle of an array. -/
theorem st_dg_at {W : World} {g o : Nat} {t : TypeId} {L : List Value} (hA : Arr W g t L) {d : Bs} (hd : d.length = 32) (ho : o + 32 ≤ L.length) : ∃ W', (StT 34 (.pointer (some ⟨g, o, none⟩)) (dv d)).run Try.prog W = .ok () W' ∧ Arr W' g t (L.take o ++ dgl d ++ L.drop (o + 32)) ∧ W.grownBy W' (some g) := by
  obtain ⟨W', cur', hr, hb, hs, hlo, hhi, hup, hgr⟩ := run_storeCells_mark (P := Try.prog) g o t (0, 0) (dgl d) 0 L.toArray W hA (by simp) (by rw [dgl_len, hd]; simpa using ho) (dgl_one d)
  refine ⟨W', ?_, ?_, hgr⟩
  · unfold StT Instr.storeAt
    simp only [Instr.sureAddr, Sem.run_bind, Sem.run_pure, Result.andThen]
    unfold storeVar dv
    simp only [Value.cells, Sem.run_bind, Try.sizeOf34, Result.andThen, List.size_toArray, dgl_len, hd, if_true]
    simpa using hr
  · have he : cur' = (L.take o ++ dgl d ++ L.drop (o + 32)).toArray := by
      apply Array.ext_getElem?
      intro k
      have e0 : (L.take o ++ dgl d ++ L.drop (o + 32)).toArray[k]? = (L.take o ++ dgl d ++ L.drop (o + 32))[k]? := by simp
      have e1 : L.toArray[k]? = L[k]? := by simp
      rw [e0]
      rw [dgl_len, hd] at hup
      simp only [Nat.add_zero] at hlo hhi hup
      have h1 : (L.take o).length = o := by rw [List.length_take]; omega
      have h2 : (L.take o ++ dgl d).length = o + 32 := by rw [List.length_append, h1, dgl_len, hd]
      rcases Nat.lt_or_ge k o with hk | hk
      · rw [hlo k hk, e1, List.getElem?_append_left (by omega), List.getElem?_append_left (by omega), List.getElem?_take, if_pos hk]
      · rcases Nat.lt_or_ge k (o + 32) with hk2 | hk2
        · have hkd : k - o < (dgl d).length := by rw [dgl_len, hd]; omega
          have := hhi (k - o) _ (List.getElem?_eq_getElem hkd)
          rw [show o + (k - o) = k by omega] at this
          rw [this, List.getElem?_append_left (by omega), List.getElem?_append_right (by omega), h1, List.getElem?_eq_getElem hkd]
        · rw [hup k hk2, e1, List.getElem?_append_right (by omega), h2, List.getElem?_drop]
          congr 1; omega
    rw [he] at hb
    exact hb
theorem Arr.dg {W : World} {g : Nat} {t : TypeId} {ls : List Bs} (h : Arr W g t (dgs ls)) (hw : ∀ d ∈ ls, d.length = 32) {i : Nat} {d : Bs} (hi : ls[i]? = some d) : (LdT 34 (.pointer (some ⟨g, i * 32, none⟩))).run Try.prog W = .ok (dv d) W := by
  rw [Nat.mul_comm]
  exact ld_dg_at (hw d (List.mem_of_getElem? hi)) (fun _ _ hj => h.cell (dgs_get hw hi hj))
theorem Arr.dgput {W : World} {g : Nat} {t : TypeId} {ls : List Bs} (h : Arr W g t (dgs ls)) (hw : ∀ d ∈ ls, d.length = 32) {i : Nat} (hi : i < ls.length) {d : Bs} (hd : d.length = 32) : ∃ W', (StT 34 (.pointer (some ⟨g, i * 32, none⟩)) (dv d)).run Try.prog W = .ok () W' ∧ Arr W' g t (dgs (ls.set i d)) ∧ W.grownBy W' (some g) := by
  rw [Nat.mul_comm]
  obtain ⟨W', hr, ha, hg⟩ := st_dg_at (o := 32 * i) h hd (by rw [dgs_len ls hw]; omega)
  rw [dgs_set d hw hi] at ha
  exact ⟨W', hr, ha, hg⟩
def zdgs (n : Nat) : List Bs := List.replicate n (List.replicate 32 0)
theorem zdgs_wf (n : Nat) : ∀ d ∈ zdgs n, d.length = 32 := by intro d hd; unfold zdgs at hd; rw [List.eq_of_mem_replicate hd]; simp
theorem Arr.grown {W W' : World} {k g : Nat} {t : TypeId} {l : List Value} (h : Arr W k t l) (hg : W.grownBy W' (some g)) (hne : k ≠ g) : Arr W' k t l := (hg.block k h.lt (fun e => hne (by cases e; rfl))).trans h
theorem Ext.grownBy {w W W' : World} (h : Ext w W) {g : Nat} (hg : W.grownBy W' (some g)) (hl : w.heap.size ≤ g) : Ext w W' := Ext.grown h hg (fun k hk => by cases hk; exact hl)
end Go.Proofs.Ytmmcjcaccicheaa

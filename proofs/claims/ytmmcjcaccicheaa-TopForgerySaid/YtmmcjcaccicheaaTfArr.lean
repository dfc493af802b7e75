/- Arrays by value: blocks whose cells are a list. No condition. -/
import Derived.Test.YtmmcjcaccicheaaTfRot
import Derived.Deep.WholeRow
import Derived.Laws.IdiomStrings
import Derived.Laws.AppendOwn
namespace Go.Proofs.Ytmmcjcaccicheaa
open Go.RowKit
/-- Block g holds the array l. -/
def Arr (W : World) (g : Nat) (t : TypeId) (l : List Value) : Prop := W.heap[g]? = some (.cells l.toArray t (0, 0))
section
variable {P : Program} {W W' : World} {g : Nat} {t : TypeId} {l : List Value}
theorem Arr.lt (h : Arr W g t l) : g < W.heap.size := (Array.getElem?_eq_some_iff.1 h).1
theorem Arr.heap (h : Arr W g t l) : W.heap[g]? = some (.cells l.toArray t (0, 0)) := h
theorem Arr.ext (h : Arr W g t l) (e : Ext W W') : Arr W' g t l := e.block h
theorem Arr.new (W : World) (Z : Array Value) (t : TypeId) : Arr (W.alloc (.cells Z t)) W.heap.size t Z.toList := heap_alloc_last W _
theorem Arr.cell (h : Arr W g t l) {i : Nat} {v : Value} (hi : l[i]? = some v) : W.cell? ⟨g, i, none⟩ = some v := by
  rw [cell_of_row _ _ i _ t (0, 0) h]
  simpa using hi
theorem arr_load (h : Arr W g t l) {n : Nat} (hn : l.length = n) : (loadCellsFrom ⟨g, 0, none⟩ 0 n #[]).run P W = .ok l.toArray W := by
  subst hn
  have := run_loadCells_list (P := P) W ⟨g, 0, none⟩ l (fun j v hv => by
    have hadd : (⟨g, 0, none⟩ : Addr).add j = ⟨g, j, none⟩ := by unfold Addr.add; split <;> simp_all
    rw [hadd]
    exact h.cell hv)
  simpa [loadCells] using this
theorem arr_store (h : Arr W g t l) {l' : List Value} (hl : l'.length = l.length) (h1 : ∀ v ∈ l', v.oneCell' = true) : (storeCells ⟨g, 0, none⟩ l' 0).run P W = .ok () (W.setRow g l'.toArray) := by
  have := run_storeCells_from (P := P) g t l' 0 l.toArray W h (by simpa using hl) h1
  simpa using this
theorem Arr.put (h : Arr W g t l) (l' : List Value) : Arr (W.setRow g l'.toArray) g t l' := setRow_heap W g _ _ t _ h
theorem setRow_size (W : World) (g : Nat) (c : Array Value) : (W.setRow g c).heap.size = W.heap.size := by simp [World.setRow]
theorem Ext.setRow {w : World} (h : Ext w W) (hg : w.heap.size ≤ g) (c : Array Value) : Ext w (W.setRow g c) := by
  refine ⟨h.os, h.tape, h.output, by rw [setRow_size]; exact h.size, fun k hk => ?_⟩
  rw [← Below.block h k hk]
  simp only [World.setRow, Array.getElem?_modify]
  rw [if_neg (by omega)]
theorem setRow_ne (W : World) {g k : Nat} (hk : k ≠ g) (c : Array Value) : (W.setRow g c).heap[k]? = W.heap[k]? := by
  simp only [World.setRow, Array.getElem?_modify]
  rw [if_neg (fun e => hk e.symm)]
theorem Arr.far (h : Arr W g t l) {k : Nat} (hk : g ≠ k) (c : Array Value) : Arr (W.setRow k c) g t l := (setRow_ne W hk c).trans h
theorem Arr.setCell (h : Arr W g t l) {i : Nat} (v : Value) : Arr (W.setCell ⟨g, i, none⟩ v) g t (l.set i v) := by
  have := setCell_eq_setRow W g i l.toArray t (0, 0) v h
  unfold Arr
  rw [this, setRow_heap W g _ _ t _ h]
  simp
theorem Arr.setFar (h : Arr W g t l) {k i : Nat} (hk : g ≠ k) (v : Value) : Arr (W.setCell ⟨k, i, none⟩ v) g t l := by
  unfold Arr at *
  rw [← h]
  exact Below.heap_setCell W _ v g hk
end
theorem results_cell1 {P : Program} {fn : Func} {p : Tmp} {t : TypeId} (h : fn.results = #[.cell p t]) (tmps : Array Value) (w : World) :
    (results fn tmps).run P w = ((asAddr (tmps.getD p undef)).run P w).andThen fun a w1 => (loadVar t a).run P w1 := by
  simp only [results, h]
  simp [Sem.run_bind, Result.andThen]
/-- The end of a function whose one result lies in a cell. -/
theorem ret_cell {P : Program} {fn : Func} {R : Ending → World → Prop} {a : Act} {w : World} {v : Value} {p : Tmp} {t : TypeId} {A : Addr} (h : fn.results = #[.cell p t]) (hp : a.tmps.getD p undef = .pointer (some A)) (hl : (loadVar t A).run P w = .ok v w)
    (hd : a.defers = []) (hR : R (.returned v) w) : bodyPost P fn R .ret a w := by
  refine bodyPost_ret (v := v) ?_ hd hR
  rw [results_cell1 h, hp]
  simp [asAddr, Result.andThen, hl]
theorem arr_loadVar {P : Program} {W : World} {g : Nat} {t : TypeId} {l : List Value} {n : Nat} {e : TypeId} (h : Arr W g t l) (hu : P.underlying t = some (.array n e)) (hi : (P.info? t).map (·.size) = some n) (hn : l.length = n) :
    (loadVar t ⟨g, 0, none⟩).run P W = .ok (.agg l.toArray) W :=
  run_loadVar_row W g t t l.toArray (0, 0) _ h.heap hu rfl (by rw [hi]; simp [hn])
/-- A byte of a string. -/
theorem run_sidx (s : ByteArray) (k : Nat) (x : UInt8) (n : Int) (hn : n = k) (hx : s[k]? = some x) (W : World) : (Instr.index 9 (.string s) (.int .i64 n)).run Try.prog W = .ok (.int .u8 x.toNat) W := by
  subst hn
  simp [Instr.index, hx, go_sem]
/-- The words done, the rest 0. -/
def partW (l : List W32) : List Value := (l ++ List.replicate (64 - l.length) 0).map wv
theorem partW_len {l : List W32} (h : l.length ≤ 64) : (partW l).length = 64 := by unfold partW; simp; omega
theorem partW_set {l : List W32} (x : W32) (h : l.length < 64) : (partW l).set l.length (wv x) = partW (l ++ [x]) := by
  unfold partW
  rw [← List.map_set, List.set_append_right _ _ (Nat.le_refl _), Nat.sub_self, show 64 - l.length = (64 - (l ++ [x]).length) + 1 by simp; omega, List.replicate_succ, List.set_cons_zero]
  simp
theorem partW_get {l : List W32} {i : Nat} (h : i < l.length) : (partW l)[i]? = some (wv (l.getD i 0)) := by
  unfold partW
  rw [List.getElem?_map, List.getElem?_append_left h, List.getD_eq_getElem?_getD, List.getElem?_eq_getElem h]
  rfl
theorem partW_full {l : List W32} (h : l.length = 64) : partW l = l.map wv := by unfold partW; simp [h]
theorem by32_of {s : ByteArray} {b : Bs} (hb : s.data.toList = b) {k : Nat} {x : UInt8} (h : s[k]? = some x) : by32 b k = bw x := by
  subst hb
  obtain ⟨hk, rfl⟩ := getElem?_eq_some_iff.1 h
  unfold by32 bw
  rw [List.getD_eq_getElem?_getD]
  have : s.data.toList[k]? = some s[k] := by
    rw [Array.getElem?_toList]
    exact getElem?_pos s.data k hk
  rw [this]; rfl
/-- The bytes of a word, one behind the other. -/
def accV (b : Bs) (i : Nat) : Nat → W32
  | 0 => 0
  | k + 1 => accV b i k <<< 8 ||| by32 b (4 * i + k)
theorem accV_four (b : Bs) (i : Nat) : accV b i 4 = blkV b i := word4 _ _ _ _
theorem partW_zero {l : List W32} {i : Nat} (hi : l.length = i) (h : i < 64) : (partW l).set i (wv 0) = partW l := by
  subst hi
  apply List.ext_getElem?
  intro k
  rw [List.getElem?_set]
  split
  · next e =>
    subst e
    rw [if_pos (by rw [partW_len (by omega)]; exact h)]
    unfold partW
    rw [List.getElem?_map, List.getElem?_append_right (Nat.le_refl _), Nat.sub_self, List.getElem?_replicate, if_pos (by omega)]
    rfl
  · rfl
theorem by32_get {b : Bs} {k : Nat} {x : UInt8} (h : b[k]? = some x) : by32 b k = bw x := by
  unfold by32 bw; rw [List.getD_eq_getElem?_getD, h]; rfl
/-- Bytes out of a string: a new row. -/
theorem bytes_conv (s : ByteArray) (l : Bs) (hl : s.data.toList = l) (w : World) : ∃ (cap : Nat) (W1 : World),
    (convert 9 71 (.string s)).run Try.prog w = .ok (.slice (some ⟨w.heap.size, 0, none⟩) l.length cap) W1 ∧ l.length ≤ cap ∧ Ext w W1 ∧ w.heap.size < W1.heap.size ∧
    (∀ j x, l[j]? = some x → W1.cell? ⟨w.heap.size, j, none⟩ = some (.int .u8 x.toNat)) ∧ (∀ j, j < cap → W1.frozen? ⟨w.heap.size, j, none⟩ = false) := by
  have hsz : s.size = l.length := by subst hl; rfl
  have hh : w.drew.heap.size = w.heap.size := rfl
  refine ⟨_, _, by rw [← hsz]; exact run_bytes_of_string w 9 71 5 s Try.underlying9 Try.underlying71 Try.underlying5, ?_, (Ext.refl w).drew.alloc _, ?_, ?_, ?_⟩
  · rw [← hsz]; exact grownCap_ge w _ _ _
  · rw [World.size_alloc]; exact Nat.lt_succ_self _
  · intro j x hj
    have hj2 : j < s.data.size := by
      have := (List.getElem?_eq_some_iff.1 hj).1; rw [← hsz] at this; exact this
    rw [← hh, World.cell?_alloc_mark, bytesRow_at _ _ _ hj2]
    congr 2
    have : s.data.toList[j]? = some x := by rw [hl]; exact hj
    rw [Array.getElem?_toList, Array.getElem?_eq_getElem hj2] at this
    rw [Option.some.inj this]
  · intro j hj
    rw [← hh, World.frozen?_alloc_mark]
    have hge := grownCap_ge w s.size 0 5
    have hb : (bytesRow s (grownCap w s.size 0 5)).size = grownCap w s.size 0 5 := by
      unfold bytesRow; simp only [Array.size_append, Array.size_map, Array.size_replicate]
      show s.size + (grownCap w s.size 0 5 - s.size) = _
      omega
    rw [hb]
    have : ¬ (grownCap w s.size 0 5 ≤ j) := by omega
    simp [this]
/-- A string out of bytes. -/
theorem string_back (w : World) (g o cap : Nat) (l : Bs) {n : Nat} (hn : l.length = n) (hc : ∀ j x, l[j]? = some x → w.cell? ⟨g, o + j, none⟩ = some (.int .u8 x.toNat)) :
    (convert 71 9 (.slice (some ⟨g, o, none⟩) n cap)).run Try.prog w = .ok (.string ⟨l.toArray⟩) w := by
  subst hn
  refine run_convert_bytes_back w 71 9 5 ⟨g, o, none⟩ cap l Try.underlying71 Try.underlying5 Try.underlying9 (fun j hj => ?_)
  have hadd : (⟨g, o, none⟩ : Addr).add j = ⟨g, o + j, none⟩ := by unfold Addr.add; split <;> simp_all
  rw [hadd]
  exact hc j _ (List.getElem?_eq_getElem hj)
theorem extract_list {s : ByteArray} {b : Bs} (h : s.data.toList = b) (i j : Nat) : (s.extract i j).data.toList = (b.drop i).take (j - i) := by
  subst h
  rw [ByteArray.data_extract, Array.toList_extract, List.extract_eq_take_drop]
end Go.Proofs.Ytmmcjcaccicheaa

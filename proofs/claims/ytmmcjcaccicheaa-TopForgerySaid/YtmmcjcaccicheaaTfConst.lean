/- The constants of SHA-256, in the program and in the reference. No condition. -/
import Derived.Test.YtmmcjcaccicheaaTfHide
import Derived.Deep.DeepCutAuto
namespace Go.Proofs.Ytmmcjcaccicheaa
open Go.RowKit
def constW : List Value := constL.map fun n => .int .u32 (Int.ofNat n)
theorem const_eq : constW = (List.range 64).map (fun t => wv (constV t)) := by kernel_rfl
theorem const_get {t : Nat} (h : t < 64) : constW[t]? = some (wv (constV t)) := by
  rw [const_eq, List.getElem?_map, List.getElem?_range h]; rfl
theorem sW64 : ZW64.size = constW.toArray.size := by kernel_rfl
theorem sW8 : ZW8.size = (initV.arr).toArray.size := by kernel_rfl
theorem const_ones : constW.toArray.all (·.oneCell') = true := by kernel_rfl
/-- The sums done, the rest as before. -/
def mixV (s v : V8) (i : Nat) : List Value := ((addV s v).list.take i ++ s.list.drop i).map wv
theorem mix_zero (s v : V8) : mixV s v 0 = s.arr := rfl
theorem mix_eight (s v : V8) : mixV s v 8 = (addV s v).arr := rfl
theorem mix_get (s v : V8) {i : Nat} (h : i < 8) : (mixV s v i)[i]? = some (wv (s.list.getD i 0)) := by
  match i, h with
  | 0, _ => rfl | 1, _ => rfl | 2, _ => rfl | 3, _ => rfl | 4, _ => rfl | 5, _ => rfl | 6, _ => rfl | 7, _ => rfl
theorem mix_set (s v : V8) {i : Nat} (h : i < 8) : (mixV s v i).set i (wv (s.list.getD i 0 + v.list.getD i 0)) = mixV s v (i + 1) := by
  match i, h with
  | 0, _ => rfl | 1, _ => rfl | 2, _ => rfl | 3, _ => rfl | 4, _ => rfl | 5, _ => rfl | 6, _ => rfl | 7, _ => rfl
theorem mix_len (s v : V8) {i : Nat} (h : i ≤ 8) : (mixV s v i).length = 8 := by
  have h1 : (addV s v).list.length = 8 := rfl
  have h2 : s.list.length = 8 := rfl
  unfold mixV; rw [List.length_map, List.length_append, List.length_take, List.length_drop, h1, h2]; omega
theorem arr_get (v : V8) {i : Nat} (h : i < 8) : v.arr[i]? = some (wv (v.list.getD i 0)) := by
  match i, h with
  | 0, _ => rfl | 1, _ => rfl | 2, _ => rfl | 3, _ => rfl | 4, _ => rfl | 5, _ => rfl | 6, _ => rfl | 7, _ => rfl
theorem sched_get {b : Bs} {n i : Nat} (h : i < n) : ((schedV b n).map wv)[i]? = some (wv ((schedV b n).getD i 0)) := by
  rw [List.getElem?_map, List.getD_eq_getElem?_getD, List.getElem?_eq_getElem (by rw [schedV_len]; exact h)]; rfl
set_option maxRecDepth 100000 in
set_option maxHeartbeats 1000000 in
theorem const_is (w : World) : Calls Try.prog 58 #[] w fun e w' => e = .returned (.agg (constW).toArray) ∧ Ext w w' := by
  have hA := Arr.new w ZW64 99
  have hE : Ext w ((w.alloc (.cells ZW64 99)).setRow w.heap.size (constW).toArray) := ((Ext.refl w).alloc _).setRow (Nat.le_refl _) _
  go_enter Try.func58, Try.ntmps58
  go_upto_region 1 with fail
  apply wp_region_lit
  refine wpList_build rfl 99 _ rfl (by kernel_rfl) ?_
  generalize hX : Option.getD _ _ = X
  obtain rfl : (constW).toArray = X := by rw [← hX]; kernel_rfl
  clear hX
  refine wpList_store_row rfl 99 _ _ rfl w.heap.size (constW).toArray rfl rfl 99 ZW64 hA.heap (by kernel_rfl) sW64 const_ones ?_
  refine wpList_nil ?_
  have hA2 := hA.put (constW)
  obtain ⟨W2, hW⟩ : ∃ W2, (w.alloc (.cells ZW64 99)).setRow w.heap.size (constW).toArray = W2 := ⟨_, rfl⟩
  rw [hW] at hA2 hE ⊢
  obtain ⟨L, hL⟩ : ∃ L, constW = L := ⟨_, rfl⟩
  have hn : L.length = 64 := by rw [← hL]; kernel_rfl
  rw [hL] at hA2 ⊢
  have HL := Lib.hid hL
  clear hL hA hW
  go_wp2_with fail
  exact ret_cell (A := ⟨w.heap.size, 0, none⟩) rfl rfl (lvW64 hA2 hn) rfl ⟨by rw [HL.out], hE⟩
set_option maxRecDepth 100000 in
set_option maxHeartbeats 1000000 in
theorem rconst_is (w : World) : Calls Try.prog 45 #[] w fun e w' => e = .returned (.agg (constW).toArray) ∧ Ext w w' := by
  have hA := Arr.new w ZW64 99
  have hE : Ext w ((w.alloc (.cells ZW64 99)).setRow w.heap.size (constW).toArray) := ((Ext.refl w).alloc _).setRow (Nat.le_refl _) _
  go_enter Try.func45, Try.ntmps45
  go_upto_region 1 with fail
  apply wp_region_lit
  refine wpList_build rfl 99 _ rfl (by kernel_rfl) ?_
  generalize hX : Option.getD _ _ = X
  obtain rfl : (constW).toArray = X := by rw [← hX]; kernel_rfl
  clear hX
  refine wpList_store_row rfl 99 _ _ rfl w.heap.size (constW).toArray rfl rfl 99 ZW64 hA.heap (by kernel_rfl) sW64 const_ones ?_
  refine wpList_nil ?_
  have hA2 := hA.put (constW)
  obtain ⟨W2, hW⟩ : ∃ W2, (w.alloc (.cells ZW64 99)).setRow w.heap.size (constW).toArray = W2 := ⟨_, rfl⟩
  rw [hW] at hA2 hE ⊢
  obtain ⟨L, hL⟩ : ∃ L, constW = L := ⟨_, rfl⟩
  have hn : L.length = 64 := by rw [← hL]; kernel_rfl
  rw [hL] at hA2 ⊢
  have HL := Lib.hid hL
  clear hL hA hW
  go_wp2_with fail
  exact ret_cell (A := ⟨w.heap.size, 0, none⟩) rfl rfl (lvW64 hA2 hn) rfl ⟨by rw [HL.out], hE⟩
set_option maxRecDepth 100000 in
set_option maxHeartbeats 1000000 in
theorem initial_is (w : World) : Calls Try.prog 49 #[] w fun e w' => e = .returned (.agg (initV.arr).toArray) ∧ Ext w w' := by
  have hA := Arr.new w ZW8 68
  have hE : Ext w ((w.alloc (.cells ZW8 68)).setRow w.heap.size (initV.arr).toArray) := ((Ext.refl w).alloc _).setRow (Nat.le_refl _) _
  go_enter Try.func49, Try.ntmps49
  go_upto_region 1 with fail
  apply wp_region_lit
  refine wpList_build rfl 68 _ rfl (by kernel_rfl) ?_
  generalize hX : Option.getD _ _ = X
  obtain rfl : (initV.arr).toArray = X := by rw [← hX]; kernel_rfl
  clear hX
  refine wpList_store_row rfl 68 _ _ rfl w.heap.size (initV.arr).toArray rfl rfl 68 ZW8 hA.heap (by kernel_rfl) sW8 (by kernel_rfl) ?_
  refine wpList_nil ?_
  have hA2 := hA.put (initV.arr)
  obtain ⟨W2, hW⟩ : ∃ W2, (w.alloc (.cells ZW8 68)).setRow w.heap.size (initV.arr).toArray = W2 := ⟨_, rfl⟩
  rw [hW] at hA2 hE ⊢
  obtain ⟨L, hL⟩ : ∃ L, initV.arr = L := ⟨_, rfl⟩
  have hn : L.length = 8 := by rw [← hL]; kernel_rfl
  rw [hL] at hA2 ⊢
  have HL := Lib.hid hL
  clear hL hA hW
  go_wp2_with fail
  exact ret_cell (A := ⟨w.heap.size, 0, none⟩) rfl rfl (lvW8 hA2 hn) rfl ⟨by rw [HL.out], hE⟩
end Go.Proofs.Ytmmcjcaccicheaa

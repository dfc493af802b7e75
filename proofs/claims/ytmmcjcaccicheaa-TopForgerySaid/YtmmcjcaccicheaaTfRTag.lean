/- The reference's Tag, Bit and above. No condition. -/
import Derived.Test.YtmmcjcaccicheaaTfVer
import Derived.Test.YtmmcjcaccicheaaTfRSum
namespace Go.Proofs.Ytmmcjcaccicheaa
open Go.RowKit
theorem tagV_len (m : Bs) : (tagV sumV m).length = 16 := rfl
set_option maxHeartbeats 2000000 in
theorem rtag_is (m : Bs) (hm : m.length < 1073741824) (w : World) : Calls Try.prog 11 #[.string (bst m)] w fun e w' => e = .returned (.string (bst (tagV sumV m))) ∧ Ext w w' := by
  go_enter Try.func11, Try.ntmps11
  go_wp2_with fail
  refine (rsum_is m hm _).mono ?_
  rintro e w2 ⟨rfl, hE⟩
  obtain ⟨D, hD⟩ : ∃ D, sumV m = D := ⟨_, rfl⟩
  have hDl : D.length = 32 := by rw [← hD]; rfl
  have hfin : D.take 16 = tagV sumV m := by rw [← hD]; rfl
  rw [hD]
  obtain ⟨g3, hg3⟩ : ∃ g, w2.heap.size = g := ⟨_, rfl⟩
  obtain ⟨W3, hst, t3, x3, s3⟩ := new_dg w2 D hDl
  rw [hg3] at hst t3 s3
  have hld := dg_load t3 hDl
  have HL := Lib.hid hDl; have HE := Lib.hid (hE.trans x3); have HF := Lib.hid hfin
  clear t3 x3 hE hD hDl hfin s3
  go_wp2_with fail
  refine (bytes_is D HL.out _).mono ?_
  rintro e w4 ⟨rfl, hE4⟩
  have h16 : (16 : Nat) ≤ D.length := by rw [HL.out]; omega
  go_wp2_with fail
  go_ret
  exact ⟨congrArg (fun d => Ending.returned (.string (bst d))) HF.out, HE.out.trans hE4⟩
theorem run_tidx (l : Bs) (k : Nat) (x : UInt8) (n : Int) (hn : n = k) (hx : l[k]? = some x) (W : World) : (Instr.index 9 (.string (bst l)) (.int .i64 n)).run Try.prog W = .ok (.int .u8 (ub x)) W :=
  run_sidx (bst l) k x n hn (by rw [bst_get]; exact hx) W
theorem shr_fin : ∀ (n : Fin 256) (k : Fin 8), bits .and .i64 (wrap64 (n.val : Int) / 2 ^ k.val) 1 = ((n.val / 2 ^ k.val % 2 : Nat) : Int) := by decide +kernel
theorem shr_and (x : UInt8) {k : Nat} (h : k < 8) : bits .and .i64 (wrap64 (ub x) / 2 ^ k) 1 = ((x.toNat >>> k % 2 : Nat) : Int) := by
  have := shr_fin ⟨x.toNat, x.toNat_lt⟩ ⟨k, h⟩
  rw [Nat.shiftRight_eq_div_pow]
  exact this
set_option maxHeartbeats 2000000 in
theorem rbit_is (t : Bs) (ht : t.length = 16) {p : Nat} (h : p < 128) (w : World) : Calls Try.prog 12 #[.string (bst t), .int .i64 p] w fun e w' => e = .returned (.int .i64 (bitV t p)) ∧ Ext w w' := by
  have hp0 : (0 : Int) ≤ p := Int.natCast_nonneg _
  have hp1 : (p : Int) < 128 := by omega
  obtain ⟨x, hx⟩ : ∃ x, t[p / 8]? = some x := ⟨_, List.getElem?_eq_getElem (by rw [ht]; omega)⟩
  have hix := run_tidx t (p / 8) x ((p : Int) / 8) (by omega) hx w
  have hb := shr_and x (k := 7 - p % 8) (by omega)
  have hv : x.toNat >>> (7 - p % 8) % 2 = bitV t p := by unfold bitV; rw [List.getD_eq_getElem?_getD, hx]; rfl
  rw [hv] at hb
  go_enter Try.func12, Try.ntmps12
  go_wp2_with fail
  go_ret
  exact ⟨rfl, Ext.refl w⟩
set_option maxHeartbeats 2000000 in
theorem above_is (a b : Bs) (ha : a.length = 32) (hb : b.length = 32) (w : World) : Calls Try.prog 30 #[dv a, dv b] w fun e w' => e = .returned (.string (bst (aboveV a b))) ∧ Ext w w' := by
  obtain ⟨W1, hW1⟩ : ∃ W, (w.alloc (.cells (dgl a).toArray 34)).alloc (.cells (dgl b).toArray 34) = W := ⟨_, rfl⟩
  have p0 : Arr W1 w.heap.size 34 (dgl a) := by rw [← hW1]; exact (Arr.new w (dgl a).toArray 34).ext ((Ext.refl _).alloc _)
  have p1 : Arr W1 (w.heap.size + 1) 34 (dgl b) := by have := Arr.new (w.alloc (.cells (dgl a).toArray 34)) (dgl b).toArray 34; rw [World.size_alloc] at this; rw [← hW1]; exact this
  have e0 : Ext w W1 := by rw [← hW1]; exact ((Ext.refl w).alloc _).alloc _
  have hfin : ([1] ++ a) ++ b = aboveV a b := rfl
  obtain ⟨T, hT⟩ : ∃ T, T = (fun wx => Ext w wx ∧ Arr wx w.heap.size 34 (dgl a) ∧ Arr wx (w.heap.size + 1) 34 (dgl b)) := ⟨_, rfl⟩
  have hTs : Stab T := by rw [hT]; exact (Stab.ext _).and ((Stab.arr _ _ _).and (Stab.arr _ _ _))
  have hT1 : T W1.drew := by rw [hT]; exact ⟨e0.drew, p0.ext (Ext.refl W1).drew, p1.ext (Ext.refl W1).drew⟩
  clear p0 p1 e0
  go_enter Try.func30, Try.ntmps30
  go_wp2_with fail
  refine wp_region_text T [0, 1, 2, 3, 4, 5, 6] (by kernel_rfl) hTs hT1 (by kernel_rfl) (fun _ d _ _ _ h => by cases d <;> exact h) ?_
  iterate 7
    refine wpTk_want rfl (Eq.refl true) ?_
    apply Exists.intro
    refine ⟨fun wx hx => ?_, ?_⟩
    · rw [hT] at hx
      have l0 := dg_load hx.2.1 ha
      have l1 := dg_load hx.2.2 hb
      clear hx
      go_simp
      with_reducible first | exact gives_ok _ _ _ | exact gives_call _ _ _ (bytes_is a ha wx) | exact gives_call _ _ _ (bytes_is b hb wx)
    simp only [Act.put, List.setIfInBounds_toArray, List.set_cons_zero, List.set_cons_succ]
  refine wpTk_nil ?_
  intro w' hw'
  rw [hT] at hw'
  go_wp2_with fail
  go_ret
  exact ⟨rfl, hw'.1⟩
end Go.Proofs.Ytmmcjcaccicheaa

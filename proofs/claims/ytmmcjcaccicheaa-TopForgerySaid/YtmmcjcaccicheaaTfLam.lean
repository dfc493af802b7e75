/- Lamport: secrets, public strings, nodes. No condition. -/
import Derived.Test.YtmmcjcaccicheaaTfHmac
namespace Go.Proofs.Ytmmcjcaccicheaa
open Go.RowKit
def secV (sd : Bs) (k p v : Nat) : Bs := hmacV sd [UInt8.ofNat k, UInt8.ofNat p, UInt8.ofNat v]
def pubV (sd : Bs) (k p v : Nat) : Bs := sumV (secV sd k p v)
theorem secV_len (sd : Bs) (k p v : Nat) : (secV sd k p v).length = 32 := rfl
theorem pubV_len (sd : Bs) (k p v : Nat) : (pubV sd k p v).length = 32 := rfl
def nodV (a b : Bs) : Bs := sumV (aboveV a b)
theorem nodV_len (a b : Bs) : (nodV a b).length = 32 := rfl
theorem byte_nat (k : Nat) : (k : Int) % 256 = ub (UInt8.ofNat k) := by
  unfold ub
  rw [UInt8.toNat_ofNat', Int.natCast_emod]; rfl
theorem three_bytes (a b c : UInt8) (w : World) : (convert 71 9 (.slice (some ⟨w.heap.size, 0, none⟩) 3 3)).run Try.prog (w.alloc (.cells #[.int .u8 (ub a), .int .u8 (ub b), .int .u8 (ub c)] 5)) = .ok (.string (bst [a, b, c])) (w.alloc (.cells #[.int .u8 (ub a), .int .u8 (ub b), .int .u8 (ub c)] 5)) := by
  rw [← bst_mk]
  refine string_back _ _ _ _ [a, b, c] rfl (fun j y hj => ?_)
  rw [Nat.zero_add]
  refine (Arr.new w #[.int .u8 (ub a), .int .u8 (ub b), .int .u8 (ub c)] 5).cell ?_
  match j, hj with
  | 0, hj => cases hj; rfl
  | 1, hj => cases hj; rfl
  | 2, hj => cases hj; rfl
  | j + 3, hj => simp at hj
set_option maxHeartbeats 2000000 in
theorem secret_is (sd : Bs) (hs : sd.length < 134217728) (k p v : Nat) (w : World) : Calls Try.prog 22 #[.string (bst sd), .int .i64 k, .int .i64 p, .int .i64 v] w fun e w' => e = .returned (dv (secV sd k p v)) ∧ Ext w w' := by
  have a0 := Arr.new w ZDg 34
  have e0 : Ext w (w.alloc (.cells ZDg 34)) := (Ext.refl w).alloc _
  obtain ⟨W1, hW1⟩ : ∃ W, w.alloc (.cells ZDg 34) = W := ⟨_, rfl⟩
  rw [hW1] at a0 e0
  have n1 := byte_nat k; have n2 := byte_nat p; have n3 := byte_nat v
  obtain ⟨a, ha⟩ : ∃ a, UInt8.ofNat k = a := ⟨_, rfl⟩
  obtain ⟨b, hb⟩ : ∃ a, UInt8.ofNat p = a := ⟨_, rfl⟩
  obtain ⟨c, hc⟩ : ∃ a, UInt8.ofNat v = a := ⟨_, rfl⟩
  rw [ha] at n1; rw [hb] at n2; rw [hc] at n3
  have hcv := three_bytes a b c W1
  have hfin : secV sd k p v = hmacV sd [a, b, c] := by unfold secV; rw [ha, hb, hc]
  have A0 := Lib.hid a0; have E0 := Lib.hid e0; have HF := Lib.hid hfin
  clear a0 e0 ha hb hc hfin
  go_enter Try.func22, Try.ntmps22
  go_wp2_with fail
  refine (hmac_is sd [a, b, c] hs (by show 3 < _; omega) _).mono ?_
  rintro e w2 ⟨rfl, hE⟩
  have hx : Ext W1 w2 := ((Ext.refl W1).alloc _).trans hE
  obtain ⟨W3, hst, t3, x3, -, -⟩ := put_dg (A0.out.ext hx) zdg_len (hmacV sd [a, b, c]) rfl
  have EX := Lib.hid (x3 w (E0.out.trans hx) (Nat.le_refl _)); have TT := Lib.hid t3
  clear x3 t3 hx hE hcv
  go_wp2_with fail
  exact ret_cell (A := ⟨w.heap.size, 0, none⟩) rfl rfl (dg_ret TT.out rfl) rfl ⟨by rw [HF.out], EX.out⟩
set_option maxHeartbeats 2000000 in
theorem public_is (d : Bs) (hd : d.length = 32) (w : World) : Calls Try.prog 23 #[dv d] w fun e w' => e = .returned (dv (sumV d)) ∧ Ext w w' := by
  have p0 := (Arr.new w (dgl d).toArray 34).ext ((Ext.refl _).alloc (.cells ZDg 34))
  have p1 := Arr.new (w.alloc (.cells (dgl d).toArray 34)) ZDg 34
  have e0 : Ext w ((w.alloc (.cells (dgl d).toArray 34)).alloc (.cells ZDg 34)) := ((Ext.refl w).alloc _).alloc _
  rw [World.size_alloc] at p1
  obtain ⟨W1, hW1⟩ : ∃ W, (w.alloc (.cells (dgl d).toArray 34)).alloc (.cells ZDg 34) = W := ⟨_, rfl⟩
  rw [hW1] at p0 p1 e0
  have hcv := dg_string p0 hd 32
  have A1 := Lib.hid p1; have E0 := Lib.hid e0
  clear p0 p1 e0
  go_enter Try.func23, Try.ntmps23
  go_wp2_with fail
  refine (sum_is d (by rw [hd]; omega) _).mono ?_
  rintro e w2 ⟨rfl, hE⟩
  obtain ⟨W3, hst, t3, x3, -, -⟩ := put_dg (A1.out.ext hE) zdg_len (sumV d) rfl
  have EX := Lib.hid (x3 w (E0.out.trans hE) (Nat.le_succ _)); have TT := Lib.hid t3
  clear x3 t3 hE hcv
  go_wp2_with fail
  exact ret_cell (A := ⟨w.heap.size + 1, 0, none⟩) rfl rfl (dg_ret TT.out rfl) rfl ⟨rfl, EX.out⟩
set_option maxHeartbeats 4000000 in
theorem node_is (a b : Bs) (ha : a.length = 32) (hb : b.length = 32) (w : World) : Calls Try.prog 25 #[dv a, dv b] w fun e w' => e = .returned (dv (nodV a b)) ∧ Ext w w' := by
  have p0 := ((Arr.new w (dgl a).toArray 34).ext ((Ext.refl _).alloc (.cells (dgl b).toArray 34))).ext ((Ext.refl _).alloc (.cells ZDg 34))
  have p1 := (Arr.new (w.alloc (.cells (dgl a).toArray 34)) (dgl b).toArray 34).ext ((Ext.refl _).alloc (.cells ZDg 34))
  have p2 := Arr.new ((w.alloc (.cells (dgl a).toArray 34)).alloc (.cells (dgl b).toArray 34)) ZDg 34
  have e0 : Ext w (((w.alloc (.cells (dgl a).toArray 34)).alloc (.cells (dgl b).toArray 34)).alloc (.cells ZDg 34)) := (((Ext.refl w).alloc _).alloc _).alloc _
  rw [World.size_alloc] at p1
  rw [World.size_alloc, World.size_alloc] at p2
  obtain ⟨W1, hW1⟩ : ∃ W, ((w.alloc (.cells (dgl a).toArray 34)).alloc (.cells (dgl b).toArray 34)).alloc (.cells ZDg 34) = W := ⟨_, rfl⟩
  rw [hW1] at p0 p1 p2 e0
  have hc1 := dg_string (p0.ext (Ext.refl W1).drew) ha 32
  have hc2 := dg_string (p1.ext (Ext.refl W1).drew) hb 32
  have A2 := Lib.hid p2; have E0 := Lib.hid e0
  clear p0 p1 p2 e0
  have hl1 : ([1] ++ a).length = 33 := by rw [List.length_append, ha]; rfl
  go_enter Try.func25, Try.ntmps25
  go_wp2_with fail
  go_region_with (go_at_call 36; refine (sum_is (aboveV a b) (by unfold aboveV; simp [ha, hb]) _).mono ?_; rintro e w2 ⟨rfl, hE⟩; obtain ⟨W3, hst, t3, x3, -, -⟩ := put_dg (A2.out.ext ((Ext.refl W1).drew.trans hE)) zdg_len (sumV (aboveV a b)) rfl; have EX := Lib.hid (x3 w (E0.out.trans ((Ext.refl W1).drew.trans hE)) (by omega)); have TT := Lib.hid t3; clear x3 t3 hE)
  all_goals
    go_wp2_with fail
    exact ret_cell (A := ⟨w.heap.size + 2, 0, none⟩) rfl rfl (dg_ret TT.out rfl) rfl ⟨rfl, EX.out⟩
end Go.Proofs.Ytmmcjcaccicheaa

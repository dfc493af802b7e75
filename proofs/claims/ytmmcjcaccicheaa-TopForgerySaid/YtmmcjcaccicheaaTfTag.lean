/- Lamport's tag of a message: 128 bits. No condition. -/
import Derived.Test.YtmmcjcaccicheaaTfLaw
namespace Go.Proofs.Ytmmcjcaccicheaa
open Go.RowKit
/-- The bits done, the rest 0. -/
def bitsP (m : Bs) (p : Nat) : List Value := (List.range p).map (fun q => Value.int .i64 (bitM m q)) ++ List.replicate (128 - p) (.int .i64 0)
def bitsA (m : Bs) : List Value := (List.range 128).map (fun q => Value.int .i64 (bitM m q))
theorem bitsA_len (m : Bs) : (bitsA m).length = 128 := by unfold bitsA; simp
theorem bitsP_len (m : Bs) {p : Nat} (h : p ≤ 128) : (bitsP m p).length = 128 := by unfold bitsP; simp; omega
theorem bitsP_full (m : Bs) : bitsP m 128 = bitsA m := by unfold bitsP bitsA; simp
theorem bitsP_set (m : Bs) {p : Nat} (h : p < 128) : (bitsP m p).set p (.int .i64 (bitM m p)) = bitsP m (p + 1) := by
  unfold bitsP
  rw [List.set_append_right _ _ (by simp), show 128 - p = (128 - (p + 1)) + 1 by omega, List.replicate_succ, List.length_map, List.length_range, Nat.sub_self, List.set_cons_zero, List.range_succ]
  simp
theorem bitsP_one (m : Bs) (p : Nat) : ∀ v ∈ bitsP m p, v.oneCell' = true := by
  intro v hv; unfold bitsP at hv
  rcases List.mem_append.1 hv with h | h
  · obtain ⟨q, -, rfl⟩ := List.mem_map.1 h; rfl
  · rw [List.eq_of_mem_replicate h]; rfl
theorem zb128 : ZB128.toList = List.replicate 128 (.int .i64 0) := by unfold ZB128; simp
theorem bitsA_get (m : Bs) {p : Nat} (h : p < 128) : (bitsA m)[p]? = some (.int .i64 (bitM m p)) := by
  unfold bitsA; rw [List.getElem?_map, List.getElem?_range h]; rfl
/-- A bit of the digest. -/
theorem bitM_of (m : Bs) {p : Nat} (h : p < 128) {x : UInt8} (hx : (sumV m)[p / 8]? = some x) : bitM m p = x.toNat / 2 ^ (7 - p % 8) % 2 := by
  unfold bitM bitV tagV
  rw [List.getD_eq_getElem?_getD, List.getElem?_take, if_pos (by omega), hx, Nat.shiftRight_eq_div_pow]
  rfl
set_option maxRecDepth 100000 in
theorem and_fin : ∀ n : Fin 256, bits .and .i64 (wrap64 (n.val : Int)) 1 = ((n.val % 2 : Nat) : Int) := by decide +kernel
theorem and_one {n : Nat} (h : n < 256) : bits .and .i64 (wrap64 (n : Int)) 1 = ((n % 2 : Nat) : Int) := and_fin ⟨n, h⟩
theorem ub_shr (x : UInt8) (k : Nat) : ub x / 2 ^ k = ((x.toNat / 2 ^ k : Nat) : Int) := by
  unfold ub; rw [Int.natCast_ediv, Int.natCast_pow]; rfl
theorem bit_is (m : Bs) {p : Nat} (h : p < 128) {x : UInt8} (hx : (sumV m)[p / 8]? = some x) : bits .and .i64 (wrap64 (ub x / 2 ^ (7 - p % 8))) 1 = (bitM m p : Int) := by
  rw [ub_shr, and_one (Nat.lt_of_le_of_lt (Nat.div_le_self _ _) x.toNat_lt), bitM_of m h hx]
set_option maxRecDepth 100000 in
set_option maxHeartbeats 8000000 in
theorem tag_is (m : Bs) (hm : m.length < 268435456) (w : World) : Calls Try.prog 21 #[.string (bst m)] w fun e w' => e = .returned (.agg (bitsA m).toArray) ∧ Ext w w' := by
  have p0 := Arr.new w ZB128 56
  have e0 : Ext w (w.alloc (.cells ZB128 56)) := (Ext.refl w).alloc _
  obtain ⟨g2, hg2⟩ : ∃ g, w.heap.size = g := ⟨_, rfl⟩
  obtain ⟨W1, hW1⟩ : ∃ W, w.alloc (.cells ZB128 56) = W := ⟨_, rfl⟩
  rw [hW1, hg2] at p0; rw [hW1] at e0
  have P0 := Lib.hid p0; have E0 := Lib.hid e0; have HG := Lib.hid hg2
  clear p0 e0
  go_enter Try.func21, Try.ntmps21
  go_wp2_with fail
  refine (sum_is m hm _).mono ?_
  rintro e w2 ⟨rfl, hE⟩
  obtain ⟨D, hD⟩ : ∃ D, sumV m = D := ⟨_, rfl⟩
  have hDl : D.length = 32 := by rw [← hD]; rfl
  rw [hD]
  obtain ⟨g3, hg3⟩ : ∃ g, w2.heap.size = g := ⟨_, rfl⟩
  obtain ⟨W3, hst, t3, x3, s3⟩ := new_dg w2 D hDl
  rw [hg3] at hst t3 s3
  have p4 := Arr.new W3 ZB128 56
  rw [s3] at p4
  have x4 : Ext W3 (W3.alloc (.cells ZB128 56)) := (Ext.refl W3).alloc _
  have hlt : g2 < g3 := by have := (P0.out.ext hE).lt; omega
  obtain ⟨W4, hW4⟩ : ∃ W, W3.alloc (.cells ZB128 56) = W := ⟨_, rfl⟩
  rw [hW4] at p4 x4
  have Q0 := Lib.hid (((P0.out.ext hE).ext x3).ext x4); have Q3 := Lib.hid (t3.ext x4); have Q4 := Lib.hid p4
  have EE := Lib.hid (((E0.out.trans hE).trans x3).trans x4); have HLT := Lib.hid hlt; have HD := Lib.hid hD; have HL := Lib.hid hDl; have S3 := Lib.hid s3
  clear t3 x3 p4 x4 hE hlt hD hDl P0 E0
  go_wp2_with fail
  clear hst hW4 hg3 hW1 s3 S3
  go_loopw [8] (fun v8 wq => ∃ p : Nat, p ≤ 128 ∧ v8 = .int .i64 p ∧ Arr wq g2 56 ZB128.toList ∧ Arr wq g3 34 (dgl D) ∧ Arr wq (g3 + 1) 56 (bitsP m p) ∧ Ext w wq) (fun v8 _ => 128 - (intOf v8).toNat)
  case atStart => exact ⟨0, by omega, rfl, Q0.out, Q3.out, by have := Q4.out; rw [zb128] at this; exact this, EE.out⟩
  case round =>
    clear Q0 Q3 Q4 EE
    obtain ⟨p, hp, rfl, p0, p3, p4, e0⟩ := hrel
    have P0 := Lib.hid p0; have P3 := Lib.hid p3; have P4 := Lib.hid p4; have E0 := Lib.hid e0; clear p0 p3 p4 e0
    by_cases h : p < 128
    · as_aux_lemma =>
        have hp0 : (0 : Int) ≤ p := Int.natCast_nonneg _
        have hp1 : (p : Int) < 128 := by omega
        obtain ⟨x, hx⟩ : ∃ x, D[p / 8]? = some x := ⟨_, List.getElem?_eq_getElem (by rw [HL.out]; omega)⟩
        have c3 := P3.out.cell (dgl_get hx)
        have hbit := bit_is m h (x := x) (by rw [HD.out]; exact hx)
        obtain ⟨b, hb⟩ : ∃ b : Int, (bitM m p : Int) = b := ⟨_, rfl⟩
        rw [hb] at hbit
        obtain ⟨y, hy⟩ : ∃ y, (bitsP m p)[p]? = some y := ⟨_, List.getElem?_eq_getElem (by rw [bitsP_len m hp]; omega)⟩
        have cy := P4.out.cell hy
        have fy : wr.frozen? ⟨g3 + 1, p, none⟩ = false := by simp [World.frozen?, P4.out.heap]
        have u0 := P0.out.setFar (k := g3 + 1) (i := p) (by have := HLT.out; omega) (.int .i64 b)
        have u3 := P3.out.setFar (k := g3 + 1) (i := p) (by omega) (.int .i64 b)
        have u4 := P4.out.setCell (i := p) (.int .i64 b)
        rw [show (bitsP m p).set p (.int .i64 b) = bitsP m (p + 1) by rw [← hb]; exact bitsP_set m h] at u4
        have uE := E0.out.setCell (p := ⟨g3 + 1, p, none⟩) (by have := HLT.out; have := HG.out; show _ ≤ g3 + 1; omega) (.int .i64 b)
        have U0 := Lib.hid u0; have U3 := Lib.hid u3; have U4 := Lib.hid u4; have UE := Lib.hid uE
        clear u0 u3 u4 uE hb hy
        unfold bv at c3
        go_wp2_with fail
        exact ⟨⟨p + 1, by omega, by go_num, U0.out, U3.out, U4.out, UE.out⟩, by simp [intOf]; omega⟩
    · obtain rfl : p = 128 := by omega
      have p4 := P4.out
      rw [bitsP_full] at p4
      have hld := ldB128 p4 (bitsA_len m)
      have hst := stB128 P0.out (by rw [zb128]; simp) (bitsA_len m) (by have := bitsP_one m 128; rw [bitsP_full] at this; exact this)
      have t0 := P0.out.put (bitsA m)
      have hE := E0.out.setRow (g := g2) (Nat.le_of_eq HG.out) (bitsA m).toArray
      obtain ⟨L, hL⟩ : ∃ L, bitsA m = L := ⟨_, rfl⟩
      have hLl : L.length = 128 := by rw [← hL]; exact bitsA_len m
      rw [hL] at hld hst t0 hE
      have HLL := Lib.hid hL
      obtain ⟨W9, hW9⟩ : ∃ W', wr.setRow g2 L.toArray = W' := ⟨_, rfl⟩
      rw [hW9] at hst t0 hE
      have T0 := Lib.hid t0; have HE := Lib.hid hE; have HL9 := Lib.hid hLl
      clear t0 hE hL hLl hW9 p4 P0 P3 P4 E0
      go_wp2_with fail
      exact ret_cell (A := ⟨g2, 0, none⟩) rfl rfl (lvB128 T0.out HL9.out) rfl ⟨by rw [HLL.out], HE.out⟩
end Go.Proofs.Ytmmcjcaccicheaa

/- The reference's step. No condition. -/
import Derived.Test.YtmmcjcaccicheaaTfConst
import Derived.Test.YtmmcjcaccicheaaTfRSch
namespace Go.Proofs.Ytmmcjcaccicheaa
open Go.RowKit
/-- The memory of a step: the state, the result, the words, the constants, the state that is turned. -/
structure Mem5 (w W : World) (g0 g5 : Nat) (b : Bs) (l0 l7 : List Value) : Prop where
  a0 : Arr W g0 68 l0
  a1 : Arr W (g0 + 1) 68 ZW8.toList
  a5 : Arr W g5 99 ((schedV b 64).map wv)
  a6 : Arr W (g5 + 1) 99 constW
  a7 : Arr W (g5 + 2) 68 l7
  e : Ext w W
theorem Mem5.ext {w W W' : World} {g0 g5 : Nat} {b : Bs} {l0 l7 : List Value} (h : Mem5 w W g0 g5 b l0 l7) (k : Ext W W') : Mem5 w W' g0 g5 b l0 l7 :=
  ⟨h.a0.ext k, h.a1.ext k, h.a5.ext k, h.a6.ext k, h.a7.ext k, h.e.trans k⟩
theorem Mem5.set7 {w W : World} {g0 g5 : Nat} {b : Bs} {l0 l7 : List Value} (h : Mem5 w W g0 g5 b l0 l7) (hg : g0 + 1 < g5) (hw : w.heap.size = g0) (l : List Value) : Mem5 w (W.setRow (g5 + 2) l.toArray) g0 g5 b l0 l :=
  ⟨h.a0.far (by omega) _, h.a1.far (by omega) _, h.a5.far (by omega) _, h.a6.far (by omega) _, h.a7.put l, h.e.setRow (by omega) _⟩
theorem Mem5.set0 {w W : World} {g0 g5 : Nat} {b : Bs} {l0 l7 : List Value} (h : Mem5 w W g0 g5 b l0 l7) (hg : g0 + 1 < g5) (hw : w.heap.size = g0) (i : Nat) (v : Value) : Mem5 w (W.setCell ⟨g0, i, none⟩ v) g0 g5 b (l0.set i v) l7 :=
  ⟨h.a0.setCell v, h.a1.setFar (by omega) _, h.a5.setFar (by omega) _, h.a6.setFar (by omega) _, h.a7.setFar (by omega) _, h.e.setCell (p := ⟨g0, i, none⟩) (by show w.heap.size ≤ g0; omega) _⟩
theorem Mem5.cells {w W : World} {g0 g5 i : Nat} {B : Bs} {l0 : List Value} {a b c d e f g h : W32} (m : Mem5 w W g0 g5 B l0 (V8.arr ⟨a, b, c, d, e, f, g, h⟩)) (hi : i < 64) {x k : W32} (hx : (schedV B 64).getD i 0 = x) (hk : constV i = k) :
    (W.cell? ⟨g5 + 2, 0, none⟩ = some (.int .u32 (wn a)) ∧ W.cell? ⟨g5 + 2, 1, none⟩ = some (.int .u32 (wn b)) ∧ W.cell? ⟨g5 + 2, 2, none⟩ = some (.int .u32 (wn c)) ∧ W.cell? ⟨g5 + 2, 3, none⟩ = some (.int .u32 (wn d))) ∧
    (W.cell? ⟨g5 + 2, 4, none⟩ = some (.int .u32 (wn e)) ∧ W.cell? ⟨g5 + 2, 5, none⟩ = some (.int .u32 (wn f)) ∧ W.cell? ⟨g5 + 2, 6, none⟩ = some (.int .u32 (wn g)) ∧ W.cell? ⟨g5 + 2, 7, none⟩ = some (.int .u32 (wn h))) ∧
    W.cell? ⟨g5, i, none⟩ = some (.int .u32 (wn x)) ∧ W.cell? ⟨g5 + 1, i, none⟩ = some (.int .u32 (wn k)) := by
  have cx := m.a5.cell (sched_get hi)
  have ck := m.a6.cell (const_get hi)
  rw [hx] at cx; rw [hk] at ck
  exact ⟨⟨m.a7.cell rfl, m.a7.cell rfl, m.a7.cell rfl, m.a7.cell rfl⟩, ⟨m.a7.cell rfl, m.a7.cell rfl, m.a7.cell rfl, m.a7.cell rfl⟩, cx, ck⟩
set_option maxRecDepth 100000 in
set_option maxHeartbeats 4000000 in
theorem rstep_is (s : ByteArray) (b : Bs) (hsb : s.data.toList = b) (hsz : s.size = 64) (V : V8) (w : World) :
    Calls Try.prog 29 #[.agg V.arr.toArray, .string s] w fun e w' => e = .returned (.agg (comprV V b).arr.toArray) ∧ Ext w w' := by
  go_enter Try.func29, Try.ntmps29
  go_wp2_with fail
  refine (rsched_is s b hsb hsz _).mono ?_
  rintro e w1 ⟨rfl, hE1⟩
  obtain ⟨L, hL⟩ : ∃ L, (schedV b 64).map wv = L := ⟨_, rfl⟩
  rw [hL]
  go_wp2_with fail
  refine (rconst_is _).mono ?_
  rintro e w2 ⟨rfl, hE2⟩
  have hl64 : L.length = 64 := by rw [← hL]; simp [schedV_len]
  have ho64 : ∀ v ∈ L, v.oneCell' = true := by rw [← hL]; intro v hv; obtain ⟨x, -, rfl⟩ := List.mem_map.1 hv; rfl
  have hc64 : constW.length = 64 := rfl
  have hoc : ∀ v ∈ constW, v.oneCell' = true := by rw [const_eq]; intro v hv; obtain ⟨x, -, rfl⟩ := List.mem_map.1 hv; rfl
  have p0 : Arr w2 w.heap.size 68 V.arr := (((Arr.new w V.arr.toArray 68).ext ((Ext.refl _).alloc (.cells ZW8 68))).ext hE1).ext hE2
  have p1 : Arr w2 (w.heap.size + 1) 68 ZW8.toList := by
    have := Arr.new (w.alloc (.cells V.arr.toArray 68)) ZW8 68
    rw [World.size_alloc] at this
    exact (this.ext hE1).ext hE2
  have hE : Ext w w2 := (((Ext.refl w).alloc (.cells V.arr.toArray 68)).alloc (.cells ZW8 68)).trans (hE1.trans hE2)
  obtain ⟨g0, hg0⟩ : ∃ g, w.heap.size = g := ⟨_, rfl⟩
  have hlt1 := p1.lt
  rw [hg0] at p0 p1 hlt1 ⊢
  obtain ⟨g5, hg5⟩ : ∃ g, w2.heap.size = g := ⟨_, rfl⟩
  rw [hg5] at hlt1
  have q5 : Arr ((w2.alloc (.cells ZW64 99)).alloc (.cells ZW64 99)) g5 99 ZW64.toList := hg5 ▸ (Arr.new w2 ZW64 99).ext ((Ext.refl _).alloc _)
  have q6 : Arr ((w2.alloc (.cells ZW64 99)).alloc (.cells ZW64 99)) (g5 + 1) 99 ZW64.toList := by
    have := Arr.new (w2.alloc (.cells ZW64 99)) ZW64 99
    rw [World.size_alloc, hg5] at this; exact this
  have hE3 : Ext w2 ((w2.alloc (.cells ZW64 99)).alloc (.cells ZW64 99)) := ((Ext.refl _).alloc _).alloc _
  have hz : ZW64.toList.length = 64 := by rw [zw64]; rfl
  have hsz3 : ((w2.alloc (.cells ZW64 99)).alloc (.cells ZW64 99)).heap.size = g5 + 2 := by rw [World.size_alloc, World.size_alloc, hg5]
  obtain ⟨W3, hW3⟩ : ∃ W3, ((w2.alloc (.cells ZW64 99)).alloc (.cells ZW64 99)) = W3 := ⟨_, rfl⟩
  have p0' := p0.ext hE3; have p1' := p1.ext hE3
  rw [hW3] at q5 q6 hsz3 p0' p1'
  have st1 := stW64 q5 hz hl64 ho64
  have st2 := stW64 (q6.far (k := g5) (by omega) L.toArray) hz hc64 hoc
  have r0 := (p0'.far (k := g5) (by omega) L.toArray).far (k := g5 + 1) (by omega) constW.toArray
  have r1 := (p1'.far (k := g5) (by omega) L.toArray).far (k := g5 + 1) (by omega) constW.toArray
  have r5 := (q5.put L).far (k := g5 + 1) (by omega) constW.toArray
  have r6 := (q6.far (k := g5) (by omega) L.toArray).put constW
  have hE4 := ((hE.trans hE3).setRow (g := g5) (by rw [hg0]; omega) L.toArray)
  rw [hW3] at hE4
  have hE5 := hE4.setRow (g := g5 + 1) (by rw [hg0]; clear st1 st2; omega) constW.toArray
  have hsz4 : ((W3.setRow g5 L.toArray).setRow (g5 + 1) constW.toArray).heap.size = g5 + 2 := by rw [setRow_size, setRow_size, hsz3]
  obtain ⟨W4, hW4⟩ : ∃ W4, W3.setRow g5 L.toArray = W4 := ⟨_, rfl⟩
  rw [hW4] at st1 st2 r0 r1 r5 r6 hE5 hsz4
  obtain ⟨W5, hW5⟩ : ∃ W5, W4.setRow (g5 + 1) constW.toArray = W5 := ⟨_, rfl⟩
  rw [hW5] at st2 r0 r1 r5 r6 hE5 hsz4
  have s0 := r0.ext ((Ext.refl _).alloc (.cells ZW8 68)); have s1 := r1.ext ((Ext.refl _).alloc (.cells ZW8 68)); have s5 := r5.ext ((Ext.refl _).alloc (.cells ZW8 68)); have s6 := r6.ext ((Ext.refl _).alloc (.cells ZW8 68))
  have s7 := Arr.new W5 ZW8 68
  have hE6 := hE5.alloc (.cells ZW8 68)
  rw [hsz4] at s7
  have ld0 := ldW8 r0 V.arr_len
  obtain ⟨W6, hW6⟩ : ∃ W6, W5.alloc (.cells ZW8 68) = W6 := ⟨_, rfl⟩
  rw [hW6] at s0 s1 s5 s6 s7 hE6
  have st3 := stW8 s7 (by rw [zw8]; rfl) V.arr_len V.arr_one
  have t0 := s0.far (k := g5 + 2) (by omega) V.arr.toArray; have t1 := s1.far (k := g5 + 2) (by omega) V.arr.toArray; have t5 := s5.far (k := g5 + 2) (by omega) V.arr.toArray; have t6 := s6.far (k := g5 + 2) (by omega) V.arr.toArray
  have t7 := s7.put V.arr
  have hE7 := hE6.setRow (g := g5 + 2) (by rw [hg0]; omega) V.arr.toArray
  obtain ⟨W7, hW7⟩ : ∃ W7, W6.setRow (g5 + 2) V.arr.toArray = W7 := ⟨_, rfl⟩
  rw [hW7] at st3 t0 t1 t5 t6 t7 hE7
  rw [← hL] at t5
  have hM := Lib.hid (Mem5.mk t0 t1 t5 t6 t7 hE7)
  have HG := Lib.hid hlt1; have HG0 := Lib.hid hg0; have HL := Lib.hid hL
  clear t0 t1 t5 t6 t7 hE7 hg0 hL s0 s1 s5 s6 s7 hE6 r0 r1 r5 r6 hE5 hE4 q5 q6 hE3 p0 p1 p0' p1' hE hE1 hE2 hl64 ho64 hc64 hoc hz hsz3 hlt1
  go_wp2_with fail
  clear ld0 st1 st2 st3 hW3 hW4 hW5 hW6 hW7 hsz4 hg5
  go_loopw [8] (fun v8 wr => ∃ i : Nat, i ≤ 64 ∧ v8 = .int .i64 i ∧ Mem5 w wr g0 g5 b V.arr (roundsV V (schedV b 64) i).arr) (fun v8 _ => 64 - (intOf v8).toNat)
  case atStart => exact ⟨0, by omega, rfl, hM.out⟩
  case round =>
    obtain ⟨i, hi, rfl, hM2⟩ := hrel
    have HM := Lib.hid hM2; clear hM2 hM
    by_cases h : i < 64
    · as_aux_lemma =>
        obtain ⟨u, hu⟩ : ∃ u, roundsV V (schedV b 64) i = u := ⟨_, rfl⟩
        obtain ⟨x, hx⟩ : ∃ x, (schedV b 64).getD i 0 = x := ⟨_, rfl⟩
        obtain ⟨k, hk⟩ : ∃ k, constV i = k := ⟨_, rfl⟩
        have hnx : roundsV V (schedV b 64) (i + 1) = stepV u k x := by rw [roundsV, hu, hx, hk]
        have HNX := Lib.hid hnx; have HX := Lib.hid hx; have HK := Lib.hid hk; clear hnx hk hx
        rw [hu] at HM
        obtain ⟨a, b', c, d, e, f, g, h'⟩ := u
        have h0 : (0 : Int) ≤ i := Int.natCast_nonneg _
        have h64 : (i : Int) < 64 := by omega
        clear hu
        obtain ⟨⟨c0, c1, c2, c3⟩, ⟨c4, c5, c6, c7⟩, cx, ck⟩ := HM.out.cells h HX.out HK.out
        go_wp2_with fail
        go_region
        have HMa := Lib.hid (HM.out.ext ((Ext.refl _).drew))
        clear c0 c1 c2 c3 c4 c5 c6 c7 cx ck HM
        obtain ⟨Wa, hWa⟩ : ∃ W, wr.drew = W := ⟨_, rfl⟩
        rw [hWa] at HMa ⊢
        clear hWa
        obtain ⟨⟨c0, c1, c2, c3⟩, ⟨c4, c5, c6, c7⟩, cx, ck⟩ := HMa.out.cells h HX.out HK.out
        go_wp2_with fail
        go_quiet (first
          | exact Calls.quiet_of_same (rotate_q _ _ 6 (by decide) (by decide) _)
          | exact Calls.quiet_of_same (rotate_q _ _ 11 (by decide) (by decide) _)
          | exact Calls.quiet_of_same (rotate_q _ _ 25 (by decide) (by decide) _))
        have HMb := Lib.hid (HMa.out.ext ((Ext.refl _).drewN nq))
        clear c0 c1 c2 c3 c4 c5 c6 c7 cx ck HMa
        obtain ⟨Wb, hWb⟩ : ∃ W, Wa.drewN nq = W := ⟨_, rfl⟩
        rw [hWb] at HMb ⊢
        clear hWb
        obtain ⟨⟨c0, c1, c2, c3⟩, ⟨c4, c5, c6, c7⟩, cx, ck⟩ := HMb.out.cells h HX.out HK.out
        go_wp2_with fail
        go_quiet (first
          | exact Calls.quiet_of_same (rotate_q _ _ 2 (by decide) (by decide) _)
          | exact Calls.quiet_of_same (rotate_q _ _ 13 (by decide) (by decide) _)
          | exact Calls.quiet_of_same (rotate_q _ _ 22 (by decide) (by decide) _))
        have HMc := Lib.hid (HMb.out.ext ((Ext.refl _).drewN nq))
        clear c0 c1 c2 c3 c4 c5 c6 c7 cx ck HMb
        obtain ⟨Wc, hWc⟩ : ∃ W, Wb.drewN nq = W := ⟨_, rfl⟩
        rw [hWc] at HMc ⊢
        clear hWc
        obtain ⟨⟨c0, c1, c2, c3⟩, ⟨c4, c5, c6, c7⟩, cx, ck⟩ := HMc.out.cells h HX.out HK.out
        have hst := stW8 HMc.out.a7 (V8.arr_len _) (V8.arr_len (stepV ⟨a, b', c, d, e, f, g, h'⟩ k x)) (V8.arr_one _)
        unfold stepV t1V t2V at hst
        simp only at hst
        go_wp2_with fail
        refine ⟨⟨i + 1, by omega, by go_num, ?_⟩, by simp [intOf]; omega⟩
        rw [HNX.out]
        exact HMc.out.set7 HG.out HG0.out _
    · obtain rfl : i = 64 := by omega
      obtain ⟨R, hR⟩ : ∃ R, roundsV V (schedV b 64) 64 = R := ⟨_, rfl⟩
      rw [hR] at HM
      have HR := Lib.hid hR; clear hR
      rw [show (((64 : Nat) : Int)) = 64 from rfl]
      go_wp2_with fail
      go_loopw [13] (fun v13 wr => ∃ i : Nat, i ≤ 8 ∧ v13 = .int .i64 i ∧ Mem5 w wr g0 g5 b (mixV V R i) R.arr) (fun v13 _ => 8 - (intOf v13).toNat)
      case atStart => exact ⟨0, by omega, rfl, by rw [mix_zero]; exact HM.out⟩
      case round =>
        clear HM
        obtain ⟨i, hi, rfl, hM2⟩ := hrel
        have HM := Lib.hid hM2; clear hM2
        by_cases h : i < 8
        · as_aux_lemma =>
            obtain ⟨x, hx⟩ : ∃ x, V.list.getD i 0 = x := ⟨_, rfl⟩
            obtain ⟨y, hy⟩ : ∃ x, R.list.getD i 0 = x := ⟨_, rfl⟩
            have cx := HM.out.a0.cell (mix_get V R h)
            have cy := HM.out.a7.cell (arr_get R h)
            have hs := mix_set V R h
            rw [hx] at cx; rw [hy] at cy; rw [hx, hy] at hs
            have fx : wr.frozen? ⟨g0, i, none⟩ = false := by simp [World.frozen?, HM.out.a0.heap]
            have h0 : (0 : Int) ≤ i := Int.natCast_nonneg _
            have h8 : (i : Int) < 8 := by omega
            have hM7 := HM.out.set0 HG.out HG0.out i (wv (x + y))
            rw [hs] at hM7
            unfold wv at cx cy hM7
            have HM7 := Lib.hid hM7; clear hM7 hx hy hs
            go_wp2_with fail
            go_region
            go_wp2_with fail
            go_roundw
            case rel => exact ⟨i + 1, by omega, by go_num, HM7.out.ext (Ext.refl _).drew⟩
            case measure => simp [intOf]; omega
        · obtain rfl : i = 8 := by omega
          have hM8 := HM.out
          rw [mix_eight] at hM8
          have hco : comprV V b = addV V R := by unfold comprV; rw [HR.out]
          have hld := ldW8 hM8.a0 (V8.arr_len _)
          have hst := stW8 hM8.a1 (by rw [zw8]; rfl) (V8.arr_len (addV V R)) (V8.arr_one _)
          have hA := hM8.a1.put (addV V R).arr
          have hE := hM8.e.setRow (g := g0 + 1) (by have := HG0.out; omega) (addV V R).arr.toArray
          obtain ⟨W9, hW9⟩ : ∃ W9, wr.setRow (g0 + 1) (addV V R).arr.toArray = W9 := ⟨_, rfl⟩
          rw [hW9] at hst hA hE
          have HA := Lib.hid hA; have HEz := Lib.hid hE; have HCO := Lib.hid hco; clear hA hE hco hM8
          go_wp2_with fail
          exact ret_cell (A := ⟨g0 + 1, 0, none⟩) rfl rfl (lvW8 HA.out (V8.arr_len _)) rfl ⟨by rw [HCO.out], HEz.out⟩
end Go.Proofs.Ytmmcjcaccicheaa

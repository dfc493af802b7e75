/- The program's compress. No condition. -/
import Derived.Test.YtmmcjcaccicheaaTfConst
import Derived.Test.YtmmcjcaccicheaaTfSch
namespace Go.Proofs.Ytmmcjcaccicheaa
open Go.RowKit
/-- The memory of compress: the state, the result, the words, the constants. -/
structure Mem4 (w W : World) (g0 g5 : Nat) (b : Bs) (l0 : List Value) : Prop where
  a0 : Arr W g0 68 l0
  a1 : Arr W (g0 + 1) 68 ZW8.toList
  a5 : Arr W g5 99 ((schedV b 64).map wv)
  a6 : Arr W (g5 + 1) 99 constW
  e : Ext w W
theorem Mem4.ext {w W W' : World} {g0 g5 : Nat} {b : Bs} {l0 : List Value} (h : Mem4 w W g0 g5 b l0) (k : Ext W W') : Mem4 w W' g0 g5 b l0 :=
  ⟨h.a0.ext k, h.a1.ext k, h.a5.ext k, h.a6.ext k, h.e.trans k⟩
theorem Mem4.set0 {w W : World} {g0 g5 : Nat} {b : Bs} {l0 : List Value} (h : Mem4 w W g0 g5 b l0) (hg : g0 + 1 < g5) (hw : w.heap.size = g0) (i : Nat) (v : Value) : Mem4 w (W.setCell ⟨g0, i, none⟩ v) g0 g5 b (l0.set i v) :=
  ⟨h.a0.setCell v, h.a1.setFar (by omega) _, h.a5.setFar (by omega) _, h.a6.setFar (by omega) _, h.e.setCell (p := ⟨g0, i, none⟩) (by show w.heap.size ≤ g0; omega) _⟩
theorem Mem4.cells {w W : World} {g0 g5 i : Nat} {B : Bs} {l0 : List Value} (m : Mem4 w W g0 g5 B l0) (hi : i < 64) {x k : W32} (hx : (schedV B 64).getD i 0 = x) (hk : constV i = k) :
    W.cell? ⟨g5, i, none⟩ = some (.int .u32 (wn x)) ∧ W.cell? ⟨g5 + 1, i, none⟩ = some (.int .u32 (wn k)) := by
  have cx := m.a5.cell (sched_get hi)
  have ck := m.a6.cell (const_get hi)
  rw [hx] at cx; rw [hk] at ck
  exact ⟨cx, ck⟩
/-- An array by value, indexed. -/
theorem run_aidx (v : V8) {i : Nat} (h : i < 8) (w : World) : (Instr.index 68 (.agg v.arr.toArray) (.int .i64 i)).run Try.prog w = .ok (wv (v.list.getD i 0)) w := by
  have hg := arr_get v h
  have h1 : (0 : Int) ≤ i := Int.natCast_nonneg _
  have h2 : (i : Int) < 8 := by omega
  have hsz : v.arr.length = 8 := V8.arr_len v
  simp [Instr.index, go_sem, hg, hsz]
  intro h3; omega
set_option maxRecDepth 100000 in
set_option maxHeartbeats 4000000 in
theorem compress_is (s : ByteArray) (b : Bs) (hsb : s.data.toList = b) (hsz : s.size = 64) (V : V8) (w : World) :
    Calls Try.prog 51 #[.agg V.arr.toArray, .string s] w fun e w' => e = .returned (.agg (comprV V b).arr.toArray) ∧ Ext w w' := by
  go_enter Try.func51, Try.ntmps51
  go_wp2_with fail
  refine (sched_is s b hsb hsz _).mono ?_
  rintro e w1 ⟨rfl, hE1⟩
  obtain ⟨L, hL⟩ : ∃ L, (schedV b 64).map wv = L := ⟨_, rfl⟩
  rw [hL]
  go_wp2_with fail
  refine (const_is _).mono ?_
  rintro e w2 ⟨rfl, hE2⟩
  have hl64 : L.length = 64 := by rw [← hL]; simp [schedV_len]
  have ho64 : ∀ v ∈ L, v.oneCell' = true := by rw [← hL]; intro v hv; obtain ⟨x, -, rfl⟩ := List.mem_map.1 hv; rfl
  have hc64 : constW.length = 64 := rfl
  have hoc : ∀ v ∈ constW, v.oneCell' = true := by rw [const_eq]; intro v hv; obtain ⟨x, -, rfl⟩ := List.mem_map.1 hv; rfl
  have p0 : Arr w2 w.heap.size 68 V.arr := (((Arr.new w V.arr.toArray 68).ext ((Ext.refl _).alloc (.cells ZW8 68))).ext hE1).ext hE2
  have p1 : Arr w2 (w.heap.size + 1) 68 ZW8.toList := by
    have := Arr.new (w.alloc (.cells V.arr.toArray 68)) ZW8 68
    rw [World.size_alloc] at this
    exact (this.ext hE1).ext hE2
  have hE : Ext w w2 := (((Ext.refl w).alloc (.cells V.arr.toArray 68)).alloc (.cells ZW8 68)).trans (hE1.trans hE2)
  obtain ⟨g0, hg0⟩ : ∃ g, w.heap.size = g := ⟨_, rfl⟩
  have hlt1 := p1.lt
  rw [hg0] at p0 p1 hlt1 ⊢
  obtain ⟨g5, hg5⟩ : ∃ g, w2.heap.size = g := ⟨_, rfl⟩
  rw [hg5] at hlt1
  have q5 : Arr ((w2.alloc (.cells ZW64 99)).alloc (.cells ZW64 99)) g5 99 ZW64.toList := hg5 ▸ (Arr.new w2 ZW64 99).ext ((Ext.refl _).alloc _)
  have q6 : Arr ((w2.alloc (.cells ZW64 99)).alloc (.cells ZW64 99)) (g5 + 1) 99 ZW64.toList := by
    have := Arr.new (w2.alloc (.cells ZW64 99)) ZW64 99
    rw [World.size_alloc, hg5] at this; exact this
  have hE3 : Ext w2 ((w2.alloc (.cells ZW64 99)).alloc (.cells ZW64 99)) := ((Ext.refl _).alloc _).alloc _
  have hz : ZW64.toList.length = 64 := by rw [zw64]; rfl
  have hsz3 : ((w2.alloc (.cells ZW64 99)).alloc (.cells ZW64 99)).heap.size = g5 + 2 := by rw [World.size_alloc, World.size_alloc, hg5]
  obtain ⟨W3, hW3⟩ : ∃ W3, ((w2.alloc (.cells ZW64 99)).alloc (.cells ZW64 99)) = W3 := ⟨_, rfl⟩
  have p0' := p0.ext hE3; have p1' := p1.ext hE3
  rw [hW3] at q5 q6 hsz3 p0' p1'
  have st1 := stW64 q5 hz hl64 ho64
  have st2 := stW64 (q6.far (k := g5) (by omega) L.toArray) hz hc64 hoc
  have r0 := (p0'.far (k := g5) (by omega) L.toArray).far (k := g5 + 1) (by omega) constW.toArray
  have r1 := (p1'.far (k := g5) (by omega) L.toArray).far (k := g5 + 1) (by omega) constW.toArray
  have r5 := (q5.put L).far (k := g5 + 1) (by omega) constW.toArray
  have r6 := (q6.far (k := g5) (by omega) L.toArray).put constW
  have hE4 := ((hE.trans hE3).setRow (g := g5) (by rw [hg0]; omega) L.toArray)
  rw [hW3] at hE4
  have hE5 := hE4.setRow (g := g5 + 1) (by rw [hg0]; clear st1 st2; omega) constW.toArray
  have hsz4 : ((W3.setRow g5 L.toArray).setRow (g5 + 1) constW.toArray).heap.size = g5 + 2 := by rw [setRow_size, setRow_size, hsz3]
  obtain ⟨W4, hW4⟩ : ∃ W4, W3.setRow g5 L.toArray = W4 := ⟨_, rfl⟩
  rw [hW4] at st1 st2 r0 r1 r5 r6 hE5 hsz4
  obtain ⟨W5, hW5⟩ : ∃ W5, W4.setRow (g5 + 1) constW.toArray = W5 := ⟨_, rfl⟩
  rw [hW5] at st2 r0 r1 r5 r6 hE5 hsz4
  rw [← hL] at r5
  have hM := Lib.hid (Mem4.mk r0 r1 r5 r6 hE5)
  have HG := Lib.hid hlt1; have HG0 := Lib.hid hg0; have HL := Lib.hid hL
  clear hg0 hL r0 r1 r5 r6 hE5 hE4 q5 q6 hE3 p0 p1 p0' p1' hE hE1 hE2 hl64 ho64 hc64 hoc hz hsz3 hlt1
  obtain ⟨va, vb, vc, vd, ve, vf, vg, vh⟩ := V
  obtain ⟨V, hV⟩ : ∃ V, V8.mk va vb vc vd ve vf vg vh = V := ⟨_, rfl⟩
  rw [hV] at hM ⊢
  have HV := Lib.hid hV
  have d0 : W5.cell? ⟨g0, 0, none⟩ = some (.int .u32 (wn va)) := hM.out.a0.cell (by rw [← hV]; rfl)
  have d1 : W5.cell? ⟨g0, 1, none⟩ = some (.int .u32 (wn vb)) := hM.out.a0.cell (by rw [← hV]; rfl)
  have d2 : W5.cell? ⟨g0, 2, none⟩ = some (.int .u32 (wn vc)) := hM.out.a0.cell (by rw [← hV]; rfl)
  have d3 : W5.cell? ⟨g0, 3, none⟩ = some (.int .u32 (wn vd)) := hM.out.a0.cell (by rw [← hV]; rfl)
  have d4 : W5.cell? ⟨g0, 4, none⟩ = some (.int .u32 (wn ve)) := hM.out.a0.cell (by rw [← hV]; rfl)
  have d5 : W5.cell? ⟨g0, 5, none⟩ = some (.int .u32 (wn vf)) := hM.out.a0.cell (by rw [← hV]; rfl)
  have d6 : W5.cell? ⟨g0, 6, none⟩ = some (.int .u32 (wn vg)) := hM.out.a0.cell (by rw [← hV]; rfl)
  have d7 : W5.cell? ⟨g0, 7, none⟩ = some (.int .u32 (wn vh)) := hM.out.a0.cell (by rw [← hV]; rfl)
  clear hV
  go_wp2_with fail
  go_quiet (fail)
  have hM2 := Lib.hid (hM.out.ext ((Ext.refl _).drewN nq))
  obtain ⟨W6, hW6⟩ : ∃ W, W5.drewN nq = W := ⟨_, rfl⟩
  rw [hW6] at hM2 ⊢
  clear hM hW6 d0 d1 d2 d3 d4 d5 d6 d7 st1 st2 hW3 hW4 hW5 hsz4 hg5
  go_wp2_with fail
  go_loopw [39, 7, 8, 9, 10, 11, 12, 13, 14] (fun v39 v7 v8 v9 v10 v11 v12 v13 v14 wr => ∃ i : Nat, i ≤ 64 ∧ v39 = .int .i64 i ∧ Mem4 w wr g0 g5 b V.arr ∧
    v7 = wv (roundsV V (schedV b 64) i).a ∧ v8 = wv (roundsV V (schedV b 64) i).b ∧ v9 = wv (roundsV V (schedV b 64) i).c ∧ v10 = wv (roundsV V (schedV b 64) i).d ∧
    v11 = wv (roundsV V (schedV b 64) i).e ∧ v12 = wv (roundsV V (schedV b 64) i).f ∧ v13 = wv (roundsV V (schedV b 64) i).g ∧ v14 = wv (roundsV V (schedV b 64) i).h) (fun v39 _ _ _ _ _ _ _ _ _ => 64 - (intOf v39).toNat)
  case atStart => exact ⟨0, by omega, rfl, hM2.out, by rw [← HV.out]; rfl, by rw [← HV.out]; rfl, by rw [← HV.out]; rfl, by rw [← HV.out]; rfl, by rw [← HV.out]; rfl, by rw [← HV.out]; rfl, by rw [← HV.out]; rfl, by rw [← HV.out]; rfl⟩
  case round =>
    obtain ⟨i, hi, rfl, hM3, rfl, rfl, rfl, rfl, rfl, rfl, rfl, rfl⟩ := hrel
    have HM := Lib.hid hM3; clear hM3 hM2
    by_cases h : i < 64
    · as_aux_lemma =>
        obtain ⟨u, hu⟩ : ∃ u, roundsV V (schedV b 64) i = u := ⟨_, rfl⟩
        obtain ⟨x, hx⟩ : ∃ x, (schedV b 64).getD i 0 = x := ⟨_, rfl⟩
        obtain ⟨k, hk⟩ : ∃ k, constV i = k := ⟨_, rfl⟩
        have hnx : roundsV V (schedV b 64) (i + 1) = stepV u k x := by rw [roundsV, hu, hx, hk]
        have HNX := Lib.hid hnx; have HX := Lib.hid hx; have HK := Lib.hid hk; clear hnx hk hx
        rw [hu]
        obtain ⟨a, b', c, d, e, f, g, h'⟩ := u
        have h0 : (0 : Int) ≤ i := Int.natCast_nonneg _
        have h64 : (i : Int) < 64 := by omega
        clear hu
        obtain ⟨cx, ck⟩ := HM.out.cells h HX.out HK.out
        unfold wv
        simp only
        go_wp2_with fail
        go_quiet (first
          | exact Calls.quiet_of_same (right_q _ _ 6 (by decide) (by decide) (by decide) _)
          | exact Calls.quiet_of_same (right_q _ _ 11 (by decide) (by decide) (by decide) _)
          | exact Calls.quiet_of_same (right_q _ _ 25 (by decide) (by decide) (by decide) _))
        have HMa := Lib.hid (HM.out.ext ((Ext.refl _).drewN nq))
        obtain ⟨Wa, hWa⟩ : ∃ W, wr.drewN nq = W := ⟨_, rfl⟩
        rw [hWa] at HMa ⊢
        clear hWa cx ck HM
        go_wp2_with fail
        refine (right_q _ _ 2 (by decide) (by decide) (by decide) _).mono ?_
        rintro e1 w3 ⟨rfl, rfl⟩
        go_wp2_with fail
        refine (right_q _ _ 13 (by decide) (by decide) (by decide) _).mono ?_
        rintro e1 w3 ⟨rfl, rfl⟩
        go_wp2_with fail
        refine (right_q _ _ 22 (by decide) (by decide) (by decide) _).mono ?_
        rintro e1 w3 ⟨rfl, rfl⟩
        go_wp2_with fail
        refine ⟨⟨i + 1, by omega, by go_num, HMa.out, ?_⟩, by simp [intOf]; omega⟩
        rw [HNX.out]
        exact ⟨rfl, rfl, rfl, rfl, rfl, rfl, rfl, rfl⟩
    · obtain rfl : i = 64 := by omega
      obtain ⟨R, hR⟩ : ∃ R, roundsV V (schedV b 64) 64 = R := ⟨_, rfl⟩
      rw [hR]
      have hco : comprV ⟨va, vb, vc, vd, ve, vf, vg, vh⟩ b = addV V R := by rw [HV.out]; unfold comprV; rw [hR]
      rw [show (((64 : Nat) : Int)) = 64 from rfl]
      have HCO := Lib.hid hco; clear hR hco
      obtain ⟨a, b', c, d, e, f, g, h'⟩ := R
      unfold wv
      simp only
      go_wp2_with fail
      obtain ⟨R, hR⟩ : ∃ R, V8.mk a b' c d e f g h' = R := ⟨_, rfl⟩
      rw [hR] at HCO ⊢
      clear hR
      go_loopw [111] (fun v111 wr => ∃ i : Nat, i ≤ 8 ∧ v111 = .int .i64 i ∧ Mem4 w wr g0 g5 b (mixV V R i)) (fun v111 _ => 8 - (intOf v111).toNat)
      case atStart => exact ⟨0, by omega, rfl, by rw [mix_zero]; exact HM.out⟩
      case round =>
        clear HM
        obtain ⟨i, hi, rfl, hM2⟩ := hrel
        have HM := Lib.hid hM2; clear hM2
        by_cases h : i < 8
        · as_aux_lemma =>
            obtain ⟨x, hx⟩ : ∃ x, V.list.getD i 0 = x := ⟨_, rfl⟩
            obtain ⟨y, hy⟩ : ∃ x, R.list.getD i 0 = x := ⟨_, rfl⟩
            have cx := HM.out.a0.cell (mix_get V R h)
            have hix := run_aidx R h
            have hs := mix_set V R h
            rw [hx] at cx; rw [hy] at hix; rw [hx, hy] at hs
            have fx : wr.frozen? ⟨g0, i, none⟩ = false := by simp [World.frozen?, HM.out.a0.heap]
            have h0 : (0 : Int) ≤ i := Int.natCast_nonneg _
            have h8 : (i : Int) < 8 := by omega
            have hM7 := HM.out.set0 HG.out HG0.out i (wv (x + y))
            rw [hs] at hM7
            unfold wv at cx hix hM7
            have HM7 := Lib.hid hM7; clear hM7 hx hy hs
            go_wp2_with fail
            go_roundw
            case rel => exact ⟨i + 1, by omega, by go_num, HM7.out⟩
            case measure => simp [intOf]; omega
        · obtain rfl : i = 8 := by omega
          have hM8 := HM.out
          rw [mix_eight] at hM8
          have hld := ldW8 hM8.a0 (V8.arr_len _)
          have hst := stW8 hM8.a1 (by rw [zw8]; rfl) (V8.arr_len (addV V R)) (V8.arr_one _)
          have hA := hM8.a1.put (addV V R).arr
          have hE := hM8.e.setRow (g := g0 + 1) (by have := HG0.out; omega) (addV V R).arr.toArray
          obtain ⟨W9, hW9⟩ : ∃ W9, wr.setRow (g0 + 1) (addV V R).arr.toArray = W9 := ⟨_, rfl⟩
          rw [hW9] at hst hA hE
          have HA := Lib.hid hA; have HEz := Lib.hid hE; clear hA hE hM8
          go_wp2_with fail
          exact ret_cell (A := ⟨g0 + 1, 0, none⟩) rfl rfl (lvW8 HA.out (V8.arr_len _)) rfl ⟨by rw [HCO.out], HEz.out⟩
end Go.Proofs.Ytmmcjcaccicheaa

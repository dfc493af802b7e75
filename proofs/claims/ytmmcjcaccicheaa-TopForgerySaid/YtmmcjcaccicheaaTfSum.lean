/- The program's Sum. No condition. -/
import Derived.Test.YtmmcjcaccicheaaTfBlk
import Derived.Test.YtmmcjcaccicheaaTfCompr
namespace Go.Proofs.Ytmmcjcaccicheaa
open Go.RowKit
attribute [local go_sem] Oper.semAt_some
theorem blocks_any (l : Bs) (w : World) : Calls Try.prog 50 #[.string (bst l)] w fun e w' => e = .returned (.func (.func 56) #[] #[.pointer (some ⟨w.heap.size, 0, none⟩)]) ∧ w' = w.alloc (.cells #[.string (bst l)] 9) := by
  have hmf : ∀ (fn : Fn) (first cap : Array Value) (w : World), (Instr.makeFunc fn first cap).run Try.prog w = .ok (.func fn first cap) w := fun _ _ _ _ => rfl
  go_enter Try.func50, Try.ntmps50
  go_wp2
  go_ret
  exact ⟨rfl, rfl⟩
theorem Arr.lv {S : Nat → Prop} {A B : World} {g : Nat} {t : TypeId} {l : List Value} (h : Arr A g t l) (k : Lv S A B) (hS : ¬ S g) : Arr B g t l := Blk.lv (o := .cells l.toArray t (0, 0)) h k hS
theorem Arr.nc {W : World} {g : Nat} {t : TypeId} {l : List Value} (h : Arr W g t l) : ¬ NC W g := Blk.nc h
theorem Lv.setRow {S : Nat → Prop} {A B : World} (h : Lv S A B) {g : Nat} (hg : g < A.heap.size → S g) (c : Array Value) : Lv S A (B.setRow g c) :=
  h.grown (row := some g) ⟨rfl, rfl, rfl, by rw [setRow_size]; exact Nat.le_refl _, fun k _ hk => setRow_ne B (fun e => hk (by rw [e])) c⟩ (fun k e hk => by cases e; exact hg hk)
set_option maxRecDepth 100000 in
set_option maxHeartbeats 8000000 in
theorem sum_is (l : Bs) (hl : l.length < 268435456) (w : World) : Calls Try.prog 36 #[.string (bst l)] w fun e w' => e = .returned (dv (sumV l)) ∧ Ext w w' := by
  refine calls_marks Try.func36 rfl ?_
  simp only [Try.ntmps36, List.size_toArray, List.length_cons, List.length_nil, Nat.reduceAdd, Nat.reduceSub, Array.replicate_succ, Array.replicate_zero, List.push_toArray, List.append_toArray, List.nil_append, List.cons_append]
  go_wp2_with fail
  refine (initial_is _).mono ?_
  rintro e w1 ⟨rfl, hE1⟩
  have p0 := (Arr.new w ZDg 34).ext hE1
  have hE : Ext w w1 := ((Ext.refl w).alloc (.cells ZDg 34)).trans hE1
  obtain ⟨g0, hg0⟩ : ∃ g, w.heap.size = g := ⟨_, rfl⟩
  obtain ⟨g1, hg1⟩ : ∃ g, w1.heap.size = g := ⟨_, rfl⟩
  have hlt := p0.lt
  rw [hg0] at p0 hlt ⊢
  rw [hg1] at hlt
  have p0' := p0.ext ((Ext.refl w1).alloc (.cells ZW8 68))
  have p1 := Arr.new w1 ZW8 68
  rw [hg1] at p1
  have hE2 := hE.alloc (.cells ZW8 68)
  have hst := stW8 p1 (by rw [zw8]; rfl) (V8.arr_len initV) (V8.arr_one _)
  have q0 := p0'.far (k := g1) (by omega) initV.arr.toArray
  have q1 := p1.put initV.arr
  have hE3 := hE2.setRow (g := g1) (by omega) initV.arr.toArray
  have hs3 : ((w1.alloc (.cells ZW8 68)).setRow g1 initV.arr.toArray).heap.size = g1 + 1 := by rw [setRow_size, World.size_alloc, hg1]
  obtain ⟨W2, hW2⟩ : ∃ W2, (w1.alloc (.cells ZW8 68)).setRow g1 initV.arr.toArray = W2 := ⟨_, rfl⟩
  rw [hW2] at hst q0 q1 hE3 hs3
  have Q0 := Lib.hid q0; have Q1 := Lib.hid q1; have HE := Lib.hid hE3; have HS := Lib.hid hs3; have HG := Lib.hid hg0; have HLT := Lib.hid hlt
  clear q0 q1 hE3 hs3 p0 p0' p1 hE hE1 hE2 hlt hg0
  go_wp2_with fail
  refine (blocks_any l _).mono ?_
  rintro e w3 ⟨rfl, hw3⟩
  rw [HS.out]
  have r0 := Q0.out.ext ((Ext.refl W2).alloc (.cells #[.string (bst l)] 9))
  have r1 := Q1.out.ext ((Ext.refl W2).alloc (.cells #[.string (bst l)] 9))
  have rE := HE.out.alloc (.cells #[.string (bst l)] 9)
  have rb : Blk (W2.alloc (.cells #[.string (bst l)] 9)) (g1 + 1) (.cells #[.string (bst l)] 9) := Blk.new W2 _ HS.out.symm
  have rs : (W2.alloc (.cells #[.string (bst l)] 9)).heap.size = g1 + 2 := by rw [World.size_alloc, HS.out]
  rw [← hw3] at r0 r1 rE rb rs
  clear hw3 hst hW2 hg1 Q0 Q1 HE HS
  obtain ⟨X, hX⟩ : ∃ X : Nat → Prop, X = fun g => g = g1 := ⟨_, rfl⟩
  have hXi : ∀ g, X g ↔ g = g1 := fun g => by rw [hX]
  have hKn : ∀ W, Lv X w3 W → Blk W (g1 + 1) (.cells #[.string (bst l)] 9 (0, 0)) := fun W hv => rb.lv hv (fun h => by have := (hXi _).1 h; omega)
  have hit := blocks_iter l hl (g1 + 1) X w3 hKn
  have HIT := Lib.hid hit; have HXI := Lib.hid hXi; have R0 := Lib.hid r0; have R1 := Lib.hid r1; have RE := Lib.hid rE; have RS := Lib.hid rs
  clear hit hXi hKn hX r0 r1 rE rb rs
  obtain ⟨xs, hxs⟩ : ∃ xs, blocksV l = xs := ⟨_, rfl⟩
  have hbx : ∀ B ∈ xs, B.length = 64 := by
    rw [← hxs]; intro B hB; unfold blocksV at hB
    obtain ⟨i, hi, rfl⟩ := List.mem_map.1 hB
    refine block_len _ ?_
    rw [pad_len]; have := List.mem_range.1 hi; omega
  rw [hxs] at HIT
  have HXS := Lib.hid hxs; have HBX := Lib.hid hbx; clear hxs hbx
  go_wp2_with fail
  generalize hA : Act.mk _ _ = a0
  refine wp_of_In (wpIn_range2 (gf := 56) (by rw [← hA]; rfl) (enters_of Try.func56 (by kernel_rfl) rfl) HIT.out (fun x vs S W h => by rw [show vs = _ from h]; rfl) (fun x vs S W W' h _ => h) (fun x vs S S' W h _ => h) (fun g h => h.elim)
    (fun pre S W => (∀ g, S g ↔ g = g1) ∧ Arr W g1 68 (pre.foldl comprV initV).arr ∧ Lv X w3 W)
    (fun _ _ _ _ => False) ?hI (fun _ _ _ _ _ h _ => h.elim) X ?h0 (fun g h => by have := (HXI.out g).1 h; have := RS.out; omega)
    (fun S W e h => ⟨Lv.of_ext e, h⟩)
    (fun x vs W a₁ W' => a₁ = { tmps := (a0.tmps.setIfInBounds 12 (.string (bst x))).setIfInBounds 4 (.string (bst x)), defers := [] } ∧ W' = W)
    (fun x vs W a₁ W' h => by rw [h.2]; exact Ext.refl W) ?assign ?body ?done (fun _ _ _ _ _ _ _ _ h _ => h.elim))
  case hI =>
    rintro pre S W W' ⟨hS, e1, e2⟩ hv
    exact ⟨hS, e1.lv hv (fun h => h.elim id (fun h => e1.nc h.2)), e2.trans hv (fun g hg h => h.elim False.elim (fun h => by omega))⟩
  case h0 => exact ⟨HXI.out, R1.out, Lv.refl _ _⟩
  case assign =>
    rintro ll x vs S W K rfl hK
    subst hA
    have HKA := Lib.hid hK; clear hK
    gi_wp2
    exact HKA.out _ _ ⟨rfl, rfl⟩
  case body =>
    rintro ll pre x vs S W0 W' W a₁ ⟨rfl, rfl⟩ hle0 hvb ⟨hS, e1, e2⟩ hleW hpx henc
    have hxl := HBX.out x (hpx.subset (List.mem_append_right _ (List.mem_singleton.2 rfl)))
    have H1 := Lib.hid e1; have H2 := Lib.hid e2; have HS := Lib.hid hS
    have hld := ldW8 e1 (V8.arr_len _)
    obtain ⟨V, hV⟩ : ∃ V, pre.foldl comprV initV = V := ⟨_, rfl⟩
    rw [hV] at hld H1
    have HV := Lib.hid hV
    clear hle0 hvb henc hpx e1 e2 hS hV
    subst hA
    simp only [List.setIfInBounds_toArray, List.set_cons_zero, List.set_cons_succ]
    gi_wp2
    refine ⟨trivial, rfl, CallsIn.inRound ll (callsIn_wide.2 ((compress_is (bst x) x (bst_list x) (by rw [bst_size, hxl]) V W).mono ?_))⟩
    rintro e W2 ⟨rfl, hE⟩
    have hst := stW8 (H1.out.ext hE) (V8.arr_len V) (V8.arr_len (comprV V x)) (V8.arr_one _)
    have u1 := (H1.out.ext hE).put (comprV V x).arr
    have hlv := (Lv.of_ext (S := S) hE).setRow (g := g1) (fun _ => (HS.out g1).2 rfl) (comprV V x).arr.toArray
    obtain ⟨W9, hW9⟩ : ∃ W, W2.setRow g1 (comprV V x).arr.toArray = W := ⟨_, rfl⟩
    rw [hW9] at hst u1 hlv
    have U1 := Lib.hid u1; have HLV := Lib.hid hlv; clear hE u1 hlv hW9 hld
    gi_wp2
    refine ⟨S, HLV.out, fun g h => .inl h, fun g h => by rw [(HS.out g).1 h]; exact U1.out.lt, HS.out, ?_, H2.out.trans HLV.out (fun g hg h => (HXI.out g).2 ((HS.out g).1 h))⟩
    rw [List.foldl_append, HV.out]
    exact U1.out
  case done =>
    rintro D0 S W hD0 hnS ⟨hS, e1, e2⟩ hdef
    subst hA
    obtain ⟨V, hV⟩ : ∃ V, xs.foldl comprV initV = V := ⟨_, rfl⟩
    have hsum : sumV l = bytesV V := by rw [sum_blocks, HXS.out, hV]
    rw [hV] at e1
    have z0 : Arr W g0 34 ZDg.toList := R0.out.lv e2 (fun h => by have := (HXI.out _).1 h; have := HLT.out; omega)
    have hE : Ext w W := e2.extBelow RE.out (fun g hg h => by have := (HXI.out _).1 h; have := HG.out; have := HLT.out; omega)
    obtain ⟨g5, hg5⟩ : ∃ g, W.heap.size = g := ⟨_, rfl⟩
    have hlt5 := e1.lt
    have hD5 : D0 < g5 := by rw [← hg5]; exact (Array.getElem?_eq_some_iff.1 hdef).1
    rw [hg5] at hlt5
    have y0 := z0.ext ((Ext.refl W).alloc (.cells ZDg 34))
    have y1 := e1.ext ((Ext.refl W).alloc (.cells ZDg 34))
    have y5 := Arr.new W ZDg 34
    rw [hg5] at y5
    have yE := hE.alloc (.cells ZDg 34)
    have yD : (W.alloc (.cells ZDg 34)).heap[D0]? = some (.deferred (some [])) := ((Ext.refl W).alloc _).block hdef
    obtain ⟨W5, hW5⟩ : ∃ W', W.alloc (.cells ZDg 34) = W' := ⟨_, rfl⟩
    rw [hW5] at y0 y1 y5 yE yD
    have hld := ldW8 y1 (V8.arr_len V)
    have Y0 := Lib.hid y0; have Y5 := Lib.hid y5; have YE := Lib.hid yE; have YD := Lib.hid yD; have HD5 := Lib.hid hD5; have HL5 := Lib.hid hlt5; have HD0 := Lib.hid hD0; have HSUM := Lib.hid hsum
    have hgw : w.heap.size ≤ g5 := by have := hE.size; omega
    have HGW := Lib.hid hgw
    clear y0 y1 y5 yE yD z0 hE e1 e2 hS hdef hV hD5 hlt5 hnS hD0 hsum hgw
    go_wp2_with fail
    clear hld hW5
    go_loopw [17] (fun v17 wq => ∃ i : Nat, i ≤ 8 ∧ v17 = .int .i64 i ∧ Arr wq g0 34 ZDg.toList ∧ Arr wq g5 34 (dgl (partB 32 (bytesV V) (4 * i))) ∧ Ext w wq ∧ wq.heap[D0]? = some (.deferred (some []))) (fun v17 _ => 8 - (intOf v17).toNat)
    case atStart => exact ⟨0, by omega, rfl, Y0.out, by rw [Nat.mul_zero, partB_zero]; have := Y5.out; rw [zdg] at this; exact this, YE.out, YD.out⟩
    case round =>
      clear Y0 Y5 YE YD
      obtain ⟨i, hi, rfl, y0, y5, yE, yD⟩ := hrel
      have Y0 := Lib.hid y0; have Y5 := Lib.hid y5; have YE := Lib.hid yE; have YD := Lib.hid yD; clear y0 y5 yE yD
      by_cases h : i < 8
      · have hix := run_aidx V h
        obtain ⟨x, hx⟩ : ∃ x, V.list.getD i 0 = x := ⟨_, rfl⟩
        rw [hx] at hix
        have HX := Lib.hid hx; clear hx
        have h0 : (0 : Int) ≤ i := Int.natCast_nonneg _
        have h8 : (i : Int) < 8 := by omega
        unfold wv at hix
        go_wp2_with fail
        go_loopw [21] (fun v21 wq => ∃ k : Nat, k ≤ 4 ∧ v21 = .int .i64 k ∧ Arr wq g0 34 ZDg.toList ∧ Arr wq g5 34 (dgl (partB 32 (bytesV V) (4 * i + k))) ∧ Ext w wq ∧ wq.heap[D0]? = some (.deferred (some []))) (fun v21 _ => 4 - (intOf v21).toNat)
        case atStart => exact ⟨0, by omega, rfl, Y0.out, Y5.out, YE.out, YD.out⟩
        case round =>
          clear Y0 Y5 YE YD
          obtain ⟨k, hk, rfl, y0, y5, yE, yD⟩ := hrel
          have Y0 := Lib.hid y0; have Y5 := Lib.hid y5; have YE := Lib.hid yE; have YD := Lib.hid yD; clear y0 y5 yE yD
          by_cases h4 : k < 4
          · as_aux_lemma =>
              have hb := bytesV_at V h h4
              rw [HX.out] at hb
              have hB := bytesV_len V
              obtain ⟨y, hy⟩ : ∃ y, (dgl (partB 32 (bytesV V) (4 * i + k)))[4 * i + k]? = some y := ⟨_, List.getElem?_eq_getElem (by rw [dgl_len, partB_len hB (by omega)]; omega)⟩
              have cy := Y5.out.cell hy
              have fy : wr.frozen? ⟨g5, 4 * i + k, none⟩ = false := by simp [World.frozen?, Y5.out.heap]
              have hlt0 : g0 < g5 := by have := HLT.out; have := HL5.out; omega
              have u0 := Y0.out.setFar (k := g5) (i := 4 * i + k) (by omega) (bv (byteOf x k))
              have u5 := Y5.out.setCell (i := 4 * i + k) (bv (byteOf x k))
              rw [partB_set hB hb] at u5
              have hEu := YE.out.setCell (p := ⟨g5, 4 * i + k, none⟩) HGW.out (bv (byteOf x k))
              have uD : (wr.setCell ⟨g5, 4 * i + k, none⟩ (bv (byteOf x k))).heap[D0]? = some (.deferred (some [])) := (Below.heap_setCell wr _ _ D0 (by have := HD5.out; show D0 ≠ g5; omega)).trans YD.out
              have U0 := Lib.hid u0; have U5 := Lib.hid u5; have HEU := Lib.hid hEu; have UD := Lib.hid uD; clear u0 u5 hEu uD hy hb hB
              have a1 : (0 : Int) ≤ 4 * i + k := by omega
              have a2 : 4 * (i : Int) + k < 32 := by omega
              have a3 : (4 * (i : Int) + k).toNat = 4 * i + k := by omega
              have a4 : (0 : Int) ≤ 24 - 8 * k := by omega
              have a5 : (24 - 8 * (k : Int)).toNat = 24 - 8 * k := by omega
              go_wp2_with fail
              exact ⟨⟨k + 1, by omega, by go_num, U0.out, U5.out, HEU.out, UD.out⟩, by simp [intOf]; omega⟩
          · obtain rfl : k = 4 := by omega
            go_wp2_with fail
            go_roundw
            case rel => exact ⟨i + 1, by omega, by go_num, Y0.out, Y5.out, YE.out, YD.out⟩
            case measure => simp [intOf]; omega
      · obtain rfl : i = 8 := by omega
        have y5 := Y5.out
        rw [show 4 * 8 = 32 from rfl, partB_full (bytesV_len V)] at y5
        have hld := ldDg y5 (by rw [dgl_len]; rfl)
        have hst := stDg Y0.out (by rw [zdg]; rfl) (l' := dgl (bytesV V)) (by rw [dgl_len]; rfl) (dgl_one _)
        have t0 := Y0.out.put (dgl (bytesV V))
        have hE := YE.out.setRow (g := g0) (Nat.le_of_eq HG.out) (dgl (bytesV V)).toArray
        have hne : D0 ≠ g0 := by have := HD0.out; have := RS.out; have := HLT.out; omega
        have hD : (wr.setRow g0 (dgl (bytesV V)).toArray).heap[D0]? = some (.deferred (some [])) := (setRow_ne wr hne _).trans YD.out
        obtain ⟨L, hL⟩ : ∃ L, dgl (bytesV V) = L := ⟨_, rfl⟩
        have hLl : L.length = 32 := by rw [← hL, dgl_len]; rfl
        have hd : dv (sumV l) = .agg L.toArray := by rw [HSUM.out]; unfold dv; rw [hL]
        rw [hL] at hld hst t0 hE hD
        obtain ⟨W9, hW9⟩ : ∃ W', wr.setRow g0 L.toArray = W' := ⟨_, rfl⟩
        rw [hW9] at hst t0 hE hD
        have hlv : Lv (fun g => g = D0) W9 (W9.putObj D0 (.deferred none)) := Lv.putObj (S := fun g => g = D0) (Lv.refl _ _) (fun _ => rfl) _
        have t1 := t0.lv hlv (fun e => hne e.symm)
        have hE9 := hlv.extBelow hE (fun g hg e => by have := HD0.out; have := RS.out; have := HLT.out; have := HG.out; omega)
        have HD := Lib.hid hd; have TT := Lib.hid t1; have HEE := Lib.hid hE9; have HLl := Lib.hid hLl; have HDD := Lib.hid hD; clear hd t0 t1 hE hE9 hW9 hL hLl y5 hlv hD
        rw [show (((8 : Nat)) : Int) = 8 from rfl]
        go_wp2_with fail
        refine ⟨by simp, .inl ⟨_, _, rfl, run_takeDeferred HDD.out, ?_⟩⟩
        refine ⟨_, ?_, by rw [HD.out], HEE.out⟩
        rw [results_cell1 rfl]
        exact lvDg TT.out HLl.out
end Go.Proofs.Ytmmcjcaccicheaa

/- Lamport's leaves. No condition. -/
import Derived.Test.YtmmcjcaccicheaaTfPub
namespace Go.Proofs.Ytmmcjcaccicheaa
open Go.RowKit
attribute [local go_sem] Oper.semAt_some
theorem flat_len : ∀ (l : List Bs), (∀ d ∈ l, d.length = 32) → l.flatten.length = 32 * l.length
  | [], _ => rfl
  | d :: r, hl => by rw [List.flatten_cons, List.length_append, hl d List.mem_cons_self, flat_len r (fun e he => hl e (List.mem_cons_of_mem _ he)), List.length_cons]; omega
set_option maxRecDepth 100000 in
set_option maxHeartbeats 8000000 in
/-- The leaf of whatever an iterator yields. -/
theorem leafOf_is (gf : FuncId) (lb : Array Value) (xs : List Bs) (hx : ∀ d ∈ xs, d.length = 32) (hxl : xs.length ≤ 256) (w : World) (hen : ∀ args w, (callFunc gf args).run Try.prog w = .ok (.enter gf args) w)
    (hit : ∀ (X : Nat → Prop) (w0 : World), Ext w w0 → (∀ g, g < w.heap.size → ¬ X g) → Iter Try.prog gf lb EncD xs (fun _ => False) (PreT X w0)) :
    Calls Try.prog 26 #[.func (.func gf) #[] lb] w fun e w' => e = .returned (dv (sumV (0 :: xs.flatten))) ∧ Ext w w' := by
  have p0 := (Arr.new w ZDg 34).ext ((Ext.refl _).alloc (.cells #[.pointer none, .slice none 0 0] 88))
  have b0 : Blk ((w.alloc (.cells ZDg 34)).alloc (.cells #[.pointer none, .slice none 0 0] 88)) (w.heap.size + 1) (.cells #[.pointer none, .slice none 0 0] 88) := Blk.new _ _ (by rw [World.size_alloc])
  have e0 : Ext w ((w.alloc (.cells ZDg 34)).alloc (.cells #[.pointer none, .slice none 0 0] 88)) := ((Ext.refl w).alloc _).alloc _
  have s0 : ((w.alloc (.cells ZDg 34)).alloc (.cells #[.pointer none, .slice none 0 0] 88)).heap.size = w.heap.size + 2 := by rw [World.size_alloc, World.size_alloc]
  obtain ⟨g2, hg2⟩ : ∃ g, w.heap.size = g := ⟨_, rfl⟩
  obtain ⟨W1, hW1⟩ : ∃ W, (w.alloc (.cells ZDg 34)).alloc (.cells #[.pointer none, .slice none 0 0] 88) = W := ⟨_, rfl⟩
  rw [hW1, hg2] at p0 b0 s0; rw [hW1] at e0
  have P0 := Lib.hid p0; have B0 := Lib.hid b0; have E0 := Lib.hid e0; have S0 := Lib.hid s0; have HG := Lib.hid hg2; have HIT := Lib.hid hit; have HXX := Lib.hid hx; have HEN := Lib.hid hen
  clear p0 b0 e0 s0 hit hx hen
  refine calls_marks Try.func26 rfl ?_
  simp only [Try.ntmps26, List.size_toArray, List.length_cons, List.length_nil, Nat.reduceAdd, Nat.reduceSub, Array.replicate_succ, Array.replicate_zero, List.push_toArray, List.append_toArray, List.nil_append, List.cons_append]
  go_wp2_with fail
  refine (wbyte_fresh (g2 + 1) 0 0 rfl W1 B0.out).mono ?_
  rintro e w2 ⟨rfl, v0, hbd, hlv⟩
  rw [S0.out] at hbd
  have hE2 : Ext w w2 := hlv.extBelow E0.out (fun g hg h => by have := HG.out; omega)
  have hs2 : g2 + 2 ≤ w2.heap.size := by have := hlv.size; have := S0.out; omega
  have q0 : Arr w2 g2 34 ZDg.toList := P0.out.lv hlv (fun h => by omega)
  obtain ⟨X, hX⟩ : ∃ X : Nat → Prop, X = fun g => g = g2 + 1 ∨ v0.ownBlock = some g := ⟨_, rfl⟩
  have hXi : ∀ g, X g ↔ g = g2 + 1 ∨ v0.ownBlock = some g := fun g => by rw [hX]
  have hXg : ∀ g, g < w.heap.size → ¬ X g := fun g hg h => by
    rcases (hXi g).1 h with h | h
    · have := HG.out; omega
    · have := (own_blk hbd.own h).1; have := HG.out; omega
  have hXl : ∀ g, X g → g < w2.heap.size := fun g h => by
    rcases (hXi g).1 h with h | h
    · omega
    · obtain ⟨_, cur, hb⟩ := own_blk hbd.own h; exact hb.lt
  have HI := Lib.hid (HIT.out X w2 hE2 hXg)
  have HXI := Lib.hid hXi; have HXL := Lib.hid hXl; have HXG := Lib.hid hXg; have HBD := Lib.hid hbd; have HE2 := Lib.hid hE2; have HS2 := Lib.hid hs2; have Q0 := Lib.hid q0
  clear hbd hlv hE2 hs2 q0 hX hXi hXg hXl P0 B0 E0 S0 HIT
  go_wp2_with fail
  generalize hA : Act.mk _ _ = a0
  refine wp_of_In (wpIn_range2 (gf := gf) (by rw [← hA]; rfl) HEN.out HI.out (fun x vs S W h => by rw [h.1]; rfl) (fun x vs S W W' h _ => h) (fun x vs S S' W h _ => h) (fun g h => h.elim)
    (fun pre S W => ∃ v : Value, (∀ g, S g ↔ g = g2 + 1 ∨ v.ownBlock = some g) ∧ BdS (g2 + 2) W (g2 + 1) v (0 :: pre.flatten) ∧ Lv X w2 W ∧ (v.ownBlock = v0.ownBlock ∨ ∃ g, v.ownBlock = some g ∧ w2.heap.size ≤ g))
    (fun _ _ _ _ => False) ?hI (fun _ _ _ _ _ h _ => h.elim) X ?h0 HXL.out
    (fun S W e h => ⟨Lv.of_ext e, h⟩)
    (fun x vs W a₁ W' => a₁ = { tmps := (a0.tmps.setIfInBounds 7 (dv x)).setIfInBounds 4 (.pointer (some ⟨W.heap.size, 0, none⟩)), defers := [] } ∧ Ext W W' ∧ Arr W' W.heap.size 34 (dgl x))
    (fun x vs W a₁ W' h => h.2.1) ?assign ?body ?done (fun _ _ _ _ _ _ _ _ h _ => h.elim))
  case hI =>
    rintro pre S W W' ⟨v, hS, e1, e2, e3⟩ hv
    refine ⟨v, hS, e1.lv hv (fun g hg h => h.elim id (fun h => ?_)), e2.trans hv (fun g hg h => h.elim False.elim (fun h => by omega)), e3⟩
    rcases hg with rfl | hg
    · exact e1.blk.nc h.2
    · obtain ⟨_, cur, hb⟩ := own_blk e1.own hg; exact hb.nc h.2
  case h0 => exact ⟨v0, HXI.out, HBD.out, Lv.refl _ _, .inl rfl⟩
  case assign =>
    rintro ll x vs S W K ⟨rfl, hxl⟩ hK
    subst hA
    have HKA := Lib.hid hK; clear hK
    obtain ⟨W2, hst, a2, e2, -⟩ := new_dg W x hxl
    have HA2 := Lib.hid a2; have HE2 := Lib.hid e2; clear a2 e2
    gi_wp2
    exact HKA.out _ _ ⟨rfl, HE2.out, HA2.out⟩
  case body =>
    rintro ll pre x vs S W0 W' W a₁ ⟨rfl, hEa, ha⟩ hle0 hvb ⟨v, hS, e1, e2, e3⟩ hleW hpx ⟨-, hxl⟩
    have hx2 := ha.lv hvb (fun h => ha.nc h.2)
    have hcells : ∀ (j : Nat) (y : UInt8), x[j]? = some y → W.cell? ⟨W0.heap.size, 0 + j, none⟩ = some (bv y) := fun j y hj => by rw [Nat.zero_add]; exact hx2.cell (dgl_get hj)
    have hpl : pre.flatten.length ≤ 32 * 256 := by
      rw [flat_len pre (fun d hd => HXX.out d (hpx.subset (List.mem_append_left _ hd)))]
      have := hpx.length_le
      rw [List.length_append] at this
      omega
    have H1 := Lib.hid e1; have H2 := Lib.hid e2; have H3 := Lib.hid e3; have HS := Lib.hid hS
    obtain ⟨gx, hgx⟩ : ∃ g, W0.heap.size = g := ⟨_, rfl⟩
    rw [hgx] at hcells ⊢
    have HCC := Lib.hid hcells
    clear hEa ha hle0 hvb hpx e1 e2 e3 hS hx2 hgx hcells
    subst hA
    simp only [List.setIfInBounds_toArray, List.set_cons_zero, List.set_cons_succ]
    gi_wp2
    refine ⟨trivial, rfl, CallsIn.inRound ll (callsIn_wide.2 ((write_is (g2 + 2) (g2 + 1) v (0 :: pre.flatten) x gx 0 32 W H1.out HCC.out (by rw [List.length_cons]; omega) (by intro e; rw [e] at hxl; cases hxl) (by have := H2.out.size; have := HS2.out; omega) hxl).mono ?_))⟩
    rintro e W2 ⟨⟨r, rfl⟩, v', hbd, hlv, hnew⟩
    have HB2 := Lib.hid hbd; have HL2 := Lib.hid hlv; have HN2 := Lib.hid hnew
    clear hbd hlv hnew
    gi_wp2
    have hlv : Lv S W W2 := HL2.out.mono (fun g _ h => (HS.out g).2 h)
    refine ⟨fun g => g = g2 + 1 ∨ v'.ownBlock = some g, hlv, ?_, ?_, v', fun g => Iff.rfl, ?_, H2.out.trans hlv (fun g hg h => ?_), ?_⟩
    · rintro g (h | h)
      · exact .inl ((HS.out g).2 (.inl h))
      · rcases HN2.out with h2 | ⟨g3, h2, h3⟩
        · exact .inl ((HS.out g).2 (.inr (by rw [← h2]; exact h)))
        · rw [h] at h2; cases h2; exact .inr h3
    · rintro g (h | h)
      · rw [h]; exact HB2.out.blk.lt
      · obtain ⟨_, cur, hb⟩ := own_blk HB2.out.own h; exact hb.lt
    · rw [List.flatten_append]; simpa using HB2.out
    · rcases (HS.out g).1 h with h | h
      · exact (HXI.out g).2 (.inl h)
      · rcases H3.out with h2 | ⟨g3, h2, h3⟩
        · exact (HXI.out g).2 (.inr (by rw [← h2]; exact h))
        · rw [h] at h2; cases h2; omega
    · rcases HN2.out with h2 | ⟨g3, h2, h3⟩
      · rw [h2]; exact H3.out
      · exact .inr ⟨g3, h2, by have := H2.out.size; omega⟩
  case done =>
    rintro D0 S W hD0 hnS ⟨v, hS, e1, e2, e3⟩ hdef
    subst hA
    have z0 : Arr W g2 34 ZDg.toList := Q0.out.lv e2 (fun h => by
      rcases (HXI.out _).1 h with h | h
      · omega
      · have := (own_blk HBD.out.own h).1; omega)
    have hE : Ext w W := e2.extBelow HE2.out (fun g hg h => HXG.out g hg h)
    have hbd2 : BdS (g2 + 1) W (g2 + 1) v (0 :: xs.flatten) := ⟨e1.blk, own_base e1.own (by omega)⟩
    have hWs : g2 + 2 ≤ W.heap.size := by have := e2.size; have := HS2.out; omega
    have Z0 := Lib.hid z0; have HE := Lib.hid hE; have HBB := Lib.hid hbd2; have HDF := Lib.hid hdef; have HD0 := Lib.hid hD0; have HWS := Lib.hid hWs
    clear z0 hE hbd2 hdef hD0 hWs e1 e2 e3 hS hnS
    go_wp2_with fail
    refine (bstring_is (g2 + 1) v (0 :: xs.flatten) W (g2 + 1) (Nat.le_refl _) (by have := HWS.out; omega) HBB.out).mono ?_
    rintro e W3 ⟨rfl, hB3, hO3⟩
    have z3 : Arr W3 g2 34 ZDg.toList := (Below.block hB3 g2 (Nat.lt_succ_self _)).trans Z0.out
    have hE3 : Ext w W3 := Below.trans HE.out (Below.mono hB3 (by have := HG.out; omega))
    have hD3 : W3.heap[D0]? = some (.deferred (some [])) := hO3 D0 _ HDF.out (fun e => by cases e; have := HD0.out; have := HS2.out; omega) (fun c fz e => by cases e)
    have hsl : (0 :: xs.flatten).length < 268435456 := by rw [List.length_cons, flat_len xs HXX.out]; omega
    have Z3 := Lib.hid z3; have HE3 := Lib.hid hE3; have HD3 := Lib.hid hD3
    clear z3 hE3 hD3 hB3 hO3
    go_wp2_with fail
    refine (sum_is (0 :: xs.flatten) hsl W3).mono ?_
    rintro e W4 ⟨rfl, hE4⟩
    obtain ⟨L, hL⟩ : ∃ L, sumV (0 :: xs.flatten) = L := ⟨_, rfl⟩
    have hLl : L.length = 32 := by rw [← hL]; rfl
    obtain ⟨W5, hst, t5, x5, k5, -⟩ := put_dg (Z3.out.ext hE4) zdg_len L hLl
    have hne : D0 ≠ g2 := by have := HD0.out; have := HS2.out; omega
    have hD5 : W5.heap[D0]? = some (.deferred (some [])) := (k5 D0 hne).trans (hE4.block HD3.out)
    have hE5 := x5 w (HE3.out.trans hE4) (Nat.le_of_eq HG.out)
    have hlv : Lv (fun g => g = D0) W5 (W5.putObj D0 (.deferred none)) := Lv.putObj (S := fun g => g = D0) (Lv.refl _ _) (fun _ => rfl) _
    have t6 := t5.lv hlv (fun e => hne e.symm)
    have hE6 := hlv.extBelow hE5 (fun g hg e => by have := HD0.out; have := HS2.out; have := HG.out; omega)
    have TT := Lib.hid t6; have HEE := Lib.hid hE6; have HDD := Lib.hid hD5; have HLL := Lib.hid hL; have HL2 := Lib.hid hLl
    rw [hL]
    clear t5 x5 k5 t6 hE5 hE6 hD5 hlv hE4 hL hLl
    go_wp2_with fail
    refine ⟨by simp, .inl ⟨_, _, rfl, run_takeDeferred HDD.out, ?_⟩⟩
    refine ⟨_, ?_, by rw [HLL.out], HEE.out⟩
    rw [results_cell1 rfl]
    exact dg_ret TT.out HL2.out
theorem published_any (sd : Bs) (k : Nat) (w : World) : Calls Try.prog 38 #[.string (bst sd), .int .i64 k] w fun e w' => e = .returned (.func (.func 54) #[] #[.pointer (some ⟨w.heap.size, 0, none⟩), .pointer (some ⟨w.heap.size + 1, 0, none⟩)]) ∧ w' = (w.alloc (.cells #[.string (bst sd)] 9)).alloc (.cells #[.int .i64 k] 3) := by
  have hmf : ∀ (fn : Fn) (first cap : Array Value) (w : World), (Instr.makeFunc fn first cap).run Try.prog w = .ok (.func fn first cap) w := fun _ _ _ _ => rfl
  go_enter Try.func38, Try.ntmps38
  go_wp2
  go_ret
  exact ⟨rfl, rfl⟩
def lfOf (sd : Bs) (k : Nat) : Bs := sumV (0 :: (pubsV sd k).flatten)
theorem pubs_32 (sd : Bs) (k : Nat) : ∀ d ∈ pubsV sd k, d.length = 32 := by
  intro d hd; unfold pubsV at hd; obtain ⟨i, -, rfl⟩ := List.mem_map.1 hd; rfl
set_option maxRecDepth 100000 in
set_option maxHeartbeats 2000000 in
theorem leaf_is (sd : Bs) (hs : sd.length < 134217728) (k : Nat) (w : World) : Calls Try.prog 24 #[.string (bst sd), .int .i64 k] w fun e w' => e = .returned (dv (lfOf sd k)) ∧ Ext w w' := by
  have a0 := Arr.new w ZDg 34
  have e0 : Ext w (w.alloc (.cells ZDg 34)) := (Ext.refl w).alloc _
  obtain ⟨W1, hW1⟩ : ∃ W, w.alloc (.cells ZDg 34) = W := ⟨_, rfl⟩
  rw [hW1] at a0 e0
  have A0 := Lib.hid a0; have E0 := Lib.hid e0
  clear a0 e0
  go_enter Try.func24, Try.ntmps24
  go_wp2_with fail
  refine (published_any sd k W1).mono ?_
  rintro e w2 ⟨rfl, hw2⟩
  have b1 : Blk w2 W1.heap.size (.cells #[.string (bst sd)] 9) := by rw [hw2]; exact (Blk.new W1 _ rfl).alloc _
  have b2 : Blk w2 (W1.heap.size + 1) (.cells #[.int .i64 k] 3) := by rw [hw2]; exact Blk.new _ _ (by rw [World.size_alloc])
  have hE2 : Ext W1 w2 := by rw [hw2]; exact ((Ext.refl W1).alloc _).alloc _
  obtain ⟨gs, hgs⟩ : ∃ g, W1.heap.size = g := ⟨_, rfl⟩
  rw [hgs] at b1 b2 ⊢
  have B1 := Lib.hid b1; have B2 := Lib.hid b2; have HE2 := Lib.hid hE2
  clear b1 b2 hE2 hw2
  go_wp2_with fail
  refine (leafOf_is 54 #[.pointer (some ⟨gs, 0, none⟩), .pointer (some ⟨gs + 1, 0, none⟩)] (pubsV sd k) (pubs_32 sd k) (Nat.le_of_eq (pubs_len sd k)) w2 (enters_of Try.func54 (by kernel_rfl) rfl)
    (fun X w0 he hX => published_iter sd hs k gs (gs + 1) X w0 (fun W hv => ⟨(B1.out.ext he).lv hv (hX _ B1.out.lt), (B2.out.ext he).lv hv (hX _ B2.out.lt)⟩))).mono ?_
  rintro e w3 ⟨rfl, hE3⟩
  rw [show sumV (0 :: (pubsV sd k).flatten) = lfOf sd k from rfl]
  obtain ⟨W4, hst, t4, x4, -, -⟩ := put_dg (A0.out.ext (HE2.out.trans hE3)) zdg_len (lfOf sd k) rfl
  have EX := Lib.hid (x4 w (E0.out.trans (HE2.out.trans hE3)) (Nat.le_refl _)); have TT := Lib.hid t4
  clear x4 t4 hE3 hgs
  go_wp2_with fail
  exact ret_cell (A := ⟨w.heap.size, 0, none⟩) rfl rfl (dg_ret TT.out rfl) rfl ⟨rfl, EX.out⟩
end Go.Proofs.Ytmmcjcaccicheaa

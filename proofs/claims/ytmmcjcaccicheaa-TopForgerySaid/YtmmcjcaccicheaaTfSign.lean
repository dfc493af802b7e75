/- Lamport's Sign. No condition. -/
import Derived.Test.YtmmcjcaccicheaaTfTag
import Derived.Test.YtmmcjcaccicheaaTfReg
import Derived.Test.YtmmcjcaccicheaaTfChk
import Derived.Test.YtmmcjcaccicheaaTfBsl
namespace Go.Proofs.Ytmmcjcaccicheaa
open Go.RowKit
theorem run_bidx (m : Bs) {p : Nat} (h : p < 128) (w : World) : (Instr.index 56 (.agg (bitsA m).toArray) (.int .i64 p)).run Try.prog w = .ok (.int .i64 (bitM m p)) w := by
  have hg := bitsA_get m h
  have h1 : (0 : Int) ≤ p := Int.natCast_nonneg _
  have h2 : (p : Int) < 128 := by omega
  have hsz := bitsA_len m
  simp [Instr.index, go_sem, hg, hsz]
  intro h3; omega
abbrev zsg : Value := .slice none 0 0
/-- The memory of Sign: the result's variable, the signature's variable, and its two rows. -/
structure SgSt (w0 W : World) (g6 g8 : Nat) (k : Int) (fR fO vR : Value) (rs : List Bs) (vO : Value) (os : List Bs) : Prop where
  e : Ext w0 W
  a6 : Blk W g6 (.cells (sgc 0 zsg zsg zsg) 25 (0, 0))
  a8 : Blk W g8 (.cells (sgc k fR fO zsg) 25 (0, 0))
  oR : W.ownsRow (g8 + 1) 34 32 vR rs.length (dgs rs)
  oO : W.ownsRow (g8 + 1) 34 32 vO os.length (dgs os)
  ne : ∀ g, vR.ownBlock = some g → vO.ownBlock ≠ some g
section
variable {w0 W W' : World} {g6 g8 : Nat} {k : Int} {fR fO vR vO v' : Value} {rs os : List Bs} {d : Bs}
theorem SgSt.ext (h : SgSt w0 W g6 g8 k fR fO vR rs vO os) (e : Ext W W') : SgSt w0 W' g6 g8 k fR fO vR rs vO os :=
  ⟨h.e.trans e, h.a6.ext e, h.a8.ext e, own_stab3 e h.oR, own_stab3 e h.oO, h.ne⟩
theorem SgSt.stab : Stab (fun W => SgSt w0 W g6 g8 k fR fO vR rs vO os) := fun _ _ e h => h.ext e
theorem SgSt.appR (h : SgSt w0 W g6 g8 k fR fO vR rs vO os) (h0 : w0.heap.size ≤ g8) (h6 : g6 ≤ g8) (ho : W'.ownsRow (g8 + 1) 34 32 v' (rs.length + 1) (dgs rs ++ dgl d)) (hg : W.grownBy W' vR.ownBlock) (hb : v'.ownBlock = vR.ownBlock ∨ ∃ g, v'.ownBlock = some g ∧ W.heap.size ≤ g) :
    SgSt w0 W' g6 g8 k fR fO v' (rs ++ [d]) vO os := by
  have hlv : Lv (fun g => vR.ownBlock = some g) W W' := (Lv.refl _ W).grown hg (fun k hk _ => hk)
  have hlo : ∀ g, vR.ownBlock = some g → g8 + 1 ≤ g := fun g hg => (own_blk h.oR hg).1
  refine ⟨hlv.extBelow h.e (fun g hg hx => by have := hlo g hx; omega), h.a6.lv hlv (fun hx => by have := hlo _ hx; omega), h.a8.lv hlv (fun hx => by have := hlo _ hx; omega), ?_, own_lv h.oO hlv (fun g hx hy => h.ne g hy hx), ?_⟩
  · rw [List.length_append]; unfold dgs at ho ⊢; rw [List.flatMap_append]; simpa using ho
  · intro g hg2 hx
    rcases hb with hb | ⟨g', hb, hlt⟩
    · exact h.ne g (hb ▸ hg2) hx
    · rw [hb] at hg2; cases hg2
      obtain ⟨-, cur, hk⟩ := own_blk h.oO hx
      have := hk.lt; omega
theorem SgSt.appO (h : SgSt w0 W g6 g8 k fR fO vR rs vO os) (h0 : w0.heap.size ≤ g8) (h6 : g6 ≤ g8) (ho : W'.ownsRow (g8 + 1) 34 32 v' (os.length + 1) (dgs os ++ dgl d)) (hg : W.grownBy W' vO.ownBlock) (hb : v'.ownBlock = vO.ownBlock ∨ ∃ g, v'.ownBlock = some g ∧ W.heap.size ≤ g) :
    SgSt w0 W' g6 g8 k fR fO vR rs v' (os ++ [d]) := by
  have hlv : Lv (fun g => vO.ownBlock = some g) W W' := (Lv.refl _ W).grown hg (fun k hk _ => hk)
  have hlo : ∀ g, vO.ownBlock = some g → g8 + 1 ≤ g := fun g hg => (own_blk h.oO hg).1
  refine ⟨hlv.extBelow h.e (fun g hg hx => by have := hlo g hx; omega), h.a6.lv hlv (fun hx => by have := hlo _ hx; omega), h.a8.lv hlv (fun hx => by have := hlo _ hx; omega), own_lv h.oR hlv (fun g hx hy => h.ne g hx hy), ?_, ?_⟩
  · rw [List.length_append]; unfold dgs at ho ⊢; rw [List.flatMap_append]; simpa using ho
  · intro g hg2 hx
    rcases hb with hb | ⟨g', hb, hlt⟩
    · exact h.ne g hg2 (hb ▸ hx)
    · rw [hb] at hx; cases hx
      obtain ⟨-, cur, hk⟩ := own_blk h.oR hg2
      have := hk.lt; omega
/-- A field takes a value. -/
theorem SgSt.put (h : SgSt w0 W g6 g8 k fR fO vR rs vO os) (h0 : w0.heap.size ≤ g8) (h6 : g6 < g8) (i : Nat) (v : Value) {c : Array Value} (hc : (sgc k fR fO zsg).setIfInBounds i v = c) :
    Ext w0 (W.setCell ⟨g8, i, none⟩ v) ∧ Blk (W.setCell ⟨g8, i, none⟩ v) g6 (.cells (sgc 0 zsg zsg zsg) 25 (0, 0)) ∧ Blk (W.setCell ⟨g8, i, none⟩ v) g8 (.cells c 25 (0, 0)) ∧
    (W.setCell ⟨g8, i, none⟩ v).ownsRow (g8 + 1) 34 32 vR rs.length (dgs rs) ∧ (W.setCell ⟨g8, i, none⟩ v).ownsRow (g8 + 1) 34 32 vO os.length (dgs os) := by
  have hlv : Lv (fun g => g = g8) W (W.setCell ⟨g8, i, none⟩ v) := Lv.setCell (S := fun g => g = g8) (p := ⟨g8, i, none⟩) (Lv.refl _ W) (fun _ => rfl) v
  refine ⟨hlv.extBelow h.e (fun g hg hx => by omega), h.a6.lv hlv (by omega), ?_, own_lv h.oR hlv (fun g hx hy => by have := (own_blk h.oR hx).1; omega), own_lv h.oO hlv (fun g hx hy => by have := (own_blk h.oO hx).1; omega)⟩
  have := setCell_eq_setRow W g8 i _ 25 (0, 0) v h.a8
  unfold Blk
  rw [this, setRow_heap W g8 _ _ 25 _ h.a8, ← hc]
theorem SgSt.setR (h : SgSt w0 W g6 g8 k fR fO vR rs vO os) (h0 : w0.heap.size ≤ g8) (h6 : g6 < g8) : SgSt w0 (W.setCell ⟨g8, 1, none⟩ vR) g6 g8 k vR fO vR rs vO os := by
  obtain ⟨a, b, c, d, e⟩ := h.put h0 h6 1 vR (c := sgc k vR fO zsg) rfl
  exact ⟨a, b, c, d, e, h.ne⟩
theorem SgSt.setO (h : SgSt w0 W g6 g8 k fR fO vR rs vO os) (h0 : w0.heap.size ≤ g8) (h6 : g6 < g8) : SgSt w0 (W.setCell ⟨g8, 2, none⟩ vO) g6 g8 k fR vO vR rs vO os := by
  obtain ⟨a, b, c, d, e⟩ := h.put h0 h6 2 vO (c := sgc k fR vO zsg) rfl
  exact ⟨a, b, c, d, e, h.ne⟩
end
theorem zdg_cells : (Value.agg ZDg).cells.size = 32 := by show ZDg.size = 32; rw [← Array.length_toList]; exact zdg_len
theorem app_ne {l : List Value} {d : Bs} (hd : d.length = 32) : l ++ dgl d ≠ [] := fun e => by have := congrArg List.length e; rw [List.length_append, dgl_len, hd] at this; simp at this
theorem wrap_flip : ∀ {b : Nat}, b ≤ 1 → IntKind.i64.wrap (1 - (b : Int)) = ((1 - b : Nat) : Int)
  | 0, _ => rfl
  | 1, _ => rfl
  | b + 2, h => by omega
theorem xor_b4 : ∀ k : Fin 4, bits .xor .i64 (k.val : Int) 1 = ((besideV k.val : Nat) : Int) := by decide +kernel
theorem xor_beside {k : Nat} (h : k < 4) : bits .xor .i64 (k : Int) 1 = ((besideV k : Nat) : Int) := xor_b4 ⟨k, h⟩
theorem xor_o4 : ∀ k : Fin 4, bits .xor .i64 ((k.val : Int) / 2 * 2) 2 = ((otherV k.val : Nat) : Int) := by decide +kernel
theorem xor_other {k : Nat} (h : k < 4) : bits .xor .i64 ((k : Int) / 2 * 2) 2 = ((otherV k : Nat) : Int) := xor_o4 ⟨k, h⟩
theorem ret_cell2 {P : Program} {fn : Func} {R : Ending → World → Prop} {a : Act} {w : World} {v u : Value} {p q : Tmp} {t : TypeId} {A : Addr} (h : fn.results = #[.cell p t, .tmp q]) (hp : a.tmps.getD p undef = .pointer (some A)) (hl : (loadVar t A).run P w = .ok v w)
    (hq : a.tmps.getD q undef = u) (hd : a.defers = []) (hR : R (.returned (.tuple #[v, u])) w) : bodyPost P fn R .ret a w := by
  refine bodyPost_ret (v := .tuple #[v, u]) ?_ hd hR
  rw [Array.getD_eq_getD_getElem?] at hp hq
  simp only [results, h]
  simp [Sem.run_bind, Result.andThen, hp, asAddr, hl, hq]
def revP (sd : Bs) (k : Nat) (m : Bs) (p : Nat) : List Bs := (List.range p).map (fun q => secV sd k q (bitM m q))
def othP (sd : Bs) (k : Nat) (m : Bs) (p : Nat) : List Bs := (List.range p).map (fun q => pubV sd k q (1 - bitM m q))
theorem revP_succ (sd : Bs) (k : Nat) (m : Bs) (p : Nat) : revP sd k m p ++ [secV sd k p (bitM m p)] = revP sd k m (p + 1) := by unfold revP; rw [List.range_succ, List.map_append]; rfl
theorem othP_succ (sd : Bs) (k : Nat) (m : Bs) (p : Nat) : othP sd k m p ++ [pubV sd k p (1 - bitM m p)] = othP sd k m (p + 1) := by unfold othP; rw [List.range_succ, List.map_append]; rfl
theorem revP_len (sd : Bs) (k : Nat) (m : Bs) (p : Nat) : (revP sd k m p).length = p := by unfold revP; simp
theorem othP_len (sd : Bs) (k : Nat) (m : Bs) (p : Nat) : (othP sd k m p).length = p := by unfold othP; simp
set_option maxRecDepth 100000 in
set_option maxHeartbeats 8000000 in
theorem lsign_is (sd : Bs) (hs : sd.length < 134217728) (k : Nat) (hk : k < 4) (m : Bs) (hm : m.length < 268435456) (w : World) : Calls Try.prog 6 #[.string (bst sd), .int .i64 k, .string (bst m)] w fun e w' => ∃ vR vO vP, e = .returned (.tuple #[.agg (sgc k vR vO vP), .int .i64 0]) ∧ DgS w' vR (signV sd k m).rev ∧ DgS w' vO (signV sd k m).oth ∧ DgS w' vP (signV sd k m).path ∧ Ext w w' := by
  have k0 : (0 : Int) ≤ k := Int.natCast_nonneg _
  have k4 : (k : Int) < 4 := by omega
  obtain ⟨inf, i1, i2, i3, i4⟩ := info_of dg_info
  have I1 := Lib.hid i1; have I2 := Lib.hid i2; have I3 := Lib.hid i3; have I4 := Lib.hid i4; clear i1 i2 i3 i4
  go_enter Try.func6, Try.ntmps6
  go_wp2_with fail
  refine (tag_is m hm _).mono ?_
  rintro e w2 ⟨rfl, hE⟩
  obtain ⟨W1, hW1⟩ : ∃ W, (w.alloc (.cells (sgc 0 zsg zsg zsg) 25)).alloc (.cells (sgc k zsg zsg zsg) 25) = W := ⟨_, rfl⟩
  have st0 : SgSt w W1 w.heap.size (w.heap.size + 1) k zsg zsg zsg [] zsg [] := by
    rw [← hW1]
    exact ⟨((Ext.refl w).alloc _).alloc _, (Blk.new w _ rfl).alloc _, Blk.new _ _ (by rw [World.size_alloc]), World.ownsRow_nil _ _ _ _, World.ownsRow_nil _ _ _ _, fun g h => by cases h⟩
  have st1 := st0.ext (hW1 ▸ hE)
  obtain ⟨g6, hg6⟩ : ∃ g, w.heap.size = g := ⟨_, rfl⟩
  rw [hg6] at st1 ⊢
  have ST1 := Lib.hid st1; have HG6 := Lib.hid hg6
  clear st0 st1 hE hW1 hg6
  go_wp2_with fail
  go_loopw [23] (fun v23 wq => ∃ (p : Nat) (vR vO : Value), p ≤ 128 ∧ v23 = .int .i64 p ∧ SgSt w wq g6 (g6 + 1) k vR vO vR (revP sd k m p) vO (othP sd k m p)) (fun v23 _ => 128 - (intOf v23).toNat)
  case atStart => exact ⟨0, zsg, zsg, by omega, rfl, ST1.out⟩
  case round =>
    clear ST1
    obtain ⟨p, vR, vO, hp, rfl, st⟩ := hrel
    have ST := Lib.hid st; clear st
    by_cases h : p < 128
    · have hp0 : (0 : Int) ≤ p := Int.natCast_nonneg _
      have hp1 : (p : Int) < 128 := by omega
      have hix := run_bidx m h
      have rs := revP_succ sd k m p; have os := othP_succ sd k m p
      have hb2 : bitM m p ≤ 1 := by rcases bitM_two m p with h | h <;> omega
      obtain ⟨b, hb⟩ : ∃ b, bitM m p = b := ⟨_, rfl⟩
      rw [hb] at hix rs os hb2
      have RS := Lib.hid rs; have OS := Lib.hid os; have HB2 := Lib.hid hb2; clear rs os hb2 hb
      go_wp2_with fail
      have hST : ∀ W, SgSt w W g6 (g6 + 1) k vR vO vR (revP sd k m p) vO (othP sd k m p) → W.cell? ⟨g6 + 1, 1, none⟩ = some vR := fun W h => h.a8.cell 1
      refine wp_region_Y 10 (fun W => W.cell? ⟨g6 + 1, 1, none⟩ = some vR) (fun W => SgSt w W g6 (g6 + 1) k vR vO vR (revP sd k m p) vO (othP sd k m p)) (by kernel_rfl) (ST.out.ext (Ext.refl _).drew) (wpY_takes (by kernel_rfl) (fun _ d _ _ _ h => by cases d <;> exact h) SgSt.stab hST (fuel := 4) [0, 1, 2, 3, 4, 5, 6] _ _ (by kernel_rfl) (by kernel_rfl) ?_)
      iterate 6
        refine wpTk_want rfl (Eq.refl true) ?_
        apply Exists.intro
        refine ⟨fun wx hx => ?_, ?_⟩
        · go_simp
          with_reducible exact gives_ok _ _ _
        simp only [Act.put, List.setIfInBounds_toArray, List.set_cons_zero, List.set_cons_succ]
      refine wpTk_want rfl (Eq.refl true) ⟨dv (secV sd k p b), fun wx hx => ?_, ?_⟩
      · clear hx
        go_simp
        exact gives_call _ _ _ (secret_is sd hs k p b wx)
      simp only [Act.put, List.setIfInBounds_toArray, List.set_cons_zero, List.set_cons_succ]
      refine wpTk_nil ?_
      refine wpY_push 7 8 (by kernel_rfl) rfl rfl (by kernel_rfl) rfl rfl (.tmp 28) (.tmp 34) 23 rfl (g6 + 1 + 1) 34 inf _ 32 32 Try.underlying23 I1.out I2.out I3.out I4.out zdg_cells (by decide) vR (revP sd k m p).length (dgs (revP sd k m p)) (dgl (secV sd k p b)) (fun wz => ?_) (fun g => by simp [Act.eval, Act.put]) (fun g => by simp [Act.eval, Act.put]) (by rw [dgl_len]; rfl) (dgl_one _) (by rw [revP_len]; simp only [maxLen]; omega) (by rw [revP_len]; omega) SgSt.stab hST (fun _ h => ⟨h.oR, h.a8.lt⟩) (fun g wx hX v2 wy hown hg hb => ?_)
      · go_simp
        have hb1 := bsl_one (secV sd k p b) rfl wz
        simp only [hb1, Result.andThen]
      obtain ⟨gr, cr, rfl⟩ := own_slice hown (app_ne rfl)
      rw [revP_len] at hown ⊢
      refine ⟨fun W => SgSt w W g6 (g6 + 1) k vR vO (.slice (some ⟨gr, 0, none⟩) (p + 1) cr) (revP sd k m (p + 1)) vO (othP sd k m p), SgSt.stab, fun _ _ h => h.a8.cell 1, by rw [← RS.out]; exact hX.appR (by have := HG6.out; omega) (by omega) (by rw [revP_len]; exact hown) hg hb, ?_⟩
      clear hX hown hg hb wx wy
      simp only [Act.put, List.setIfInBounds_toArray, List.set_cons_zero, List.set_cons_succ]
      refine wpY_one 9 (by kernel_rfl) rfl rfl (fun wz hz K hK => ?_)
      go_simp
      refine hK _ _ ⟨fun W => SgSt w W g6 (g6 + 1) k vR vO (.slice (some ⟨gr, 0, none⟩) (p + 1) cr) (revP sd k m (p + 1)) vO (othP sd k m p), SgSt.stab, fun _ _ h => h.a8.cell 1, hz, ?_⟩
      clear hK K hz wz
      refine wpY_one 10 (by kernel_rfl) rfl rfl (fun wz hz K hK => ?_)
      have c8 := hz.a8.cell 1
      have f8 := hz.a8.free 1
      go_simp
      refine hK _ _ ⟨fun W => SgSt w W g6 (g6 + 1) k (.slice (some ⟨gr, 0, none⟩) (p + 1) cr) vO (.slice (some ⟨gr, 0, none⟩) (p + 1) cr) (revP sd k m (p + 1)) vO (othP sd k m p), SgSt.stab, fun h => absurd rfl h, hz.setR (by have := HG6.out; omega) (by omega), ?_⟩
      clear hK K hz wz c8 f8
      refine wpY_done (by kernel_rfl) (fun wz hz => ?_) _
      have ST2 := Lib.hid hz
      have hsub := wrap_flip HB2.out
      have HSUB := Lib.hid hsub; clear hsub
      clear hz hST ST
      go_wp2_with fail
      have hST : ∀ W, SgSt w W g6 (g6 + 1) k (.slice (some ⟨gr, 0, none⟩) (p + 1) cr) vO (.slice (some ⟨gr, 0, none⟩) (p + 1) cr) (revP sd k m (p + 1)) vO (othP sd k m p) → W.cell? ⟨g6 + 1, 2, none⟩ = some vO := fun W h => h.a8.cell 2
      refine wp_region_Y 12 (fun W => W.cell? ⟨g6 + 1, 2, none⟩ = some vO) (fun W => SgSt w W g6 (g6 + 1) k (.slice (some ⟨gr, 0, none⟩) (p + 1) cr) vO (.slice (some ⟨gr, 0, none⟩) (p + 1) cr) (revP sd k m (p + 1)) vO (othP sd k m p)) (by kernel_rfl) (ST2.out.ext (Ext.refl _).drew) (wpY_takes (by kernel_rfl) (fun _ d _ _ _ h => by cases d <;> exact h) SgSt.stab hST (fuel := 4) [0, 1, 2, 3, 4, 5, 6, 7, 8] _ _ (by kernel_rfl) (by kernel_rfl) ?_)
      iterate 7
        refine wpTk_want rfl (Eq.refl true) ?_
        apply Exists.intro
        refine ⟨fun wx hx => ?_, ?_⟩
        · go_simp
          with_reducible exact gives_ok _ _ _
        simp only [Act.put, List.setIfInBounds_toArray, List.set_cons_zero, List.set_cons_succ]
      refine wpTk_want rfl (Eq.refl true) ⟨dv (secV sd k p (1 - b)), fun wx hx => ?_, ?_⟩
      · clear hx
        go_simp
        rw [HSUB.out]
        exact gives_call _ _ _ (secret_is sd hs k p (1 - b) wx)
      simp only [Act.put, List.setIfInBounds_toArray, List.set_cons_zero, List.set_cons_succ]
      refine wpTk_want rfl (Eq.refl true) ⟨dv (pubV sd k p (1 - b)), fun wx hx => ?_, ?_⟩
      · clear hx
        go_simp
        exact gives_call _ _ _ (public_is (secV sd k p (1 - b)) rfl wx)
      simp only [Act.put, List.setIfInBounds_toArray, List.set_cons_zero, List.set_cons_succ]
      refine wpTk_nil ?_
      refine wpY_push 9 10 (by kernel_rfl) rfl rfl (by kernel_rfl) rfl rfl (.tmp 38) (.tmp 46) 23 rfl (g6 + 1 + 1) 34 inf _ 32 32 Try.underlying23 I1.out I2.out I3.out I4.out zdg_cells (by decide) vO (othP sd k m p).length (dgs (othP sd k m p)) (dgl (pubV sd k p (1 - b))) (fun wz => ?_) (fun g => by simp [Act.eval, Act.put]) (fun g => by simp [Act.eval, Act.put]) (by rw [dgl_len]; rfl) (dgl_one _) (by rw [othP_len]; simp only [maxLen]; omega) (by rw [othP_len]; omega) SgSt.stab hST (fun _ h => ⟨h.oO, h.a8.lt⟩) (fun g wx hX v3 wy hown hg hb => ?_)
      · go_simp
        have hb1 := bsl_one (pubV sd k p (1 - b)) rfl wz
        simp only [hb1, Result.andThen]
      obtain ⟨go, co, rfl⟩ := own_slice hown (app_ne rfl)
      rw [othP_len] at hown ⊢
      refine ⟨fun W => SgSt w W g6 (g6 + 1) k (.slice (some ⟨gr, 0, none⟩) (p + 1) cr) vO (.slice (some ⟨gr, 0, none⟩) (p + 1) cr) (revP sd k m (p + 1)) (.slice (some ⟨go, 0, none⟩) (p + 1) co) (othP sd k m (p + 1)), SgSt.stab, fun _ _ h => h.a8.cell 2, by rw [← OS.out]; exact hX.appO (by have := HG6.out; omega) (by omega) (by rw [othP_len]; exact hown) hg hb, ?_⟩
      clear hX hown hg hb wx wy
      simp only [Act.put, List.setIfInBounds_toArray, List.set_cons_zero, List.set_cons_succ]
      refine wpY_one 11 (by kernel_rfl) rfl rfl (fun wz hz K hK => ?_)
      go_simp
      refine hK _ _ ⟨fun W => SgSt w W g6 (g6 + 1) k (.slice (some ⟨gr, 0, none⟩) (p + 1) cr) vO (.slice (some ⟨gr, 0, none⟩) (p + 1) cr) (revP sd k m (p + 1)) (.slice (some ⟨go, 0, none⟩) (p + 1) co) (othP sd k m (p + 1)), SgSt.stab, fun _ _ h => h.a8.cell 2, hz, ?_⟩
      clear hK K hz wz
      refine wpY_one 12 (by kernel_rfl) rfl rfl (fun wz hz K hK => ?_)
      have c8 := hz.a8.cell 2
      have f8 := hz.a8.free 2
      go_simp
      refine hK _ _ ⟨fun W => SgSt w W g6 (g6 + 1) k (.slice (some ⟨gr, 0, none⟩) (p + 1) cr) (.slice (some ⟨go, 0, none⟩) (p + 1) co) (.slice (some ⟨gr, 0, none⟩) (p + 1) cr) (revP sd k m (p + 1)) (.slice (some ⟨go, 0, none⟩) (p + 1) co) (othP sd k m (p + 1)), SgSt.stab, fun h => absurd rfl h, hz.setO (by have := HG6.out; omega) (by omega), ?_⟩
      clear hK K hz wz c8 f8
      refine wpY_done (by kernel_rfl) (fun wz hz => ?_) _
      have ST3 := Lib.hid hz
      clear hz hST ST2
      go_wp2_with fail
      go_roundw
      case rel => exact ⟨p + 1, _, _, by omega, by go_num, ST3.out⟩
      case measure => simp [intOf]; omega
    · obtain rfl : p = 128 := by omega
      have r32 : ∀ d ∈ revP sd k m 128, d.length = 32 := by intro d hd; obtain ⟨q, -, rfl⟩ := List.mem_map.1 hd; rfl
      have o32 : ∀ d ∈ othP sd k m 128, d.length = 32 := by intro d hd; obtain ⟨q, -, rfl⟩ := List.mem_map.1 hd; rfl
      have rne : dgs (revP sd k m 128) ≠ [] := fun e => by have := dgs_len _ r32; rw [e, revP_len] at this; simp at this
      have one : dgs (othP sd k m 128) ≠ [] := fun e => by have := dgs_len _ o32; rw [e, othP_len] at this; simp at this
      have oR := ST.out.oR; have oO := ST.out.oO
      rw [revP_len] at oR; rw [othP_len] at oO
      obtain ⟨gr, cr, rfl⟩ := own_slice oR rne
      obtain ⟨go, co, rfl⟩ := own_slice oO one
      have R32 := Lib.hid r32; have O32 := Lib.hid o32
      clear r32 o32 rne one oR oO
      have hx1 := xor_beside hk
      have hx2 := xor_other hk
      obtain ⟨q, hq⟩ : ∃ q, besideV k = q := ⟨_, rfl⟩
      obtain ⟨o, ho⟩ : ∃ o, otherV k = o := ⟨_, rfl⟩
      have ho2 : o ≤ 2 := by rw [← ho]; unfold otherV; split <;> omega
      rw [hq] at hx1; rw [ho] at hx2
      have hsR : (revP sd k m 128).length = 128 := revP_len _ _ _ _
      obtain ⟨la, hla⟩ : ∃ l, lfOf sd q = l := ⟨_, rfl⟩
      obtain ⟨lb, hlb⟩ : ∃ l, lfOf sd o = l := ⟨_, rfl⟩
      obtain ⟨lc, hlc⟩ : ∃ l, lfOf sd (o + 1) = l := ⟨_, rfl⟩
      have la32 : la.length = 32 := by rw [← hla]; rfl
      have lb32 : lb.length = 32 := by rw [← hlb]; rfl
      have lc32 : lc.length = 32 := by rw [← hlc]; rfl
      obtain ⟨ld, hld⟩ : ∃ l, nodV lb lc = l := ⟨_, rfl⟩
      have ld32 : ld.length = 32 := by rw [← hld]; rfl
      have HQ := Lib.hid hq; have HO := Lib.hid ho; have HLA := Lib.hid hla; have HLB := Lib.hid hlb; have HLC := Lib.hid hlc; have HLD := Lib.hid hld
      have A32 := Lib.hid la32; have B32 := Lib.hid lb32; have C32 := Lib.hid lc32; have D32 := Lib.hid ld32
      clear hq ho hla hlb hlc hld la32 lb32 lc32 ld32 hsR
      go_wp2_with fail
      refine (leaf_is sd hs q _).mono ?_
      rintro e w3 ⟨rfl, hE3⟩
      rw [HLA.out]
      have ST3 := Lib.hid (ST.out.ext hE3); clear hE3 ST
      go_wp2_with fail
      refine (leaf_is sd hs o _).mono ?_
      rintro e w4 ⟨rfl, hE4⟩
      rw [HLB.out]
      have ST4 := Lib.hid (ST3.out.ext hE4); clear hE4 ST3
      go_wp2_with fail
      rw [show (o : Int) + 1 = ((o + 1 : Nat) : Int) from rfl]
      refine (leaf_is sd hs (o + 1) _).mono ?_
      rintro e w5 ⟨rfl, hE5⟩
      rw [HLC.out]
      have ST5 := Lib.hid (ST4.out.ext hE5); clear hE5 ST4
      go_wp2_with fail
      refine (node_is lb lc B32.out C32.out _).mono ?_
      rintro e w6 ⟨rfl, hE6⟩
      rw [HLD.out]
      have st6 := ST5.out.ext hE6
      have hbs := bsl_two la ld A32.out D32.out w6
      have st7 := st6.ext ((Ext.refl w6).alloc (.cells (dgs [la, ld]).toArray 34))
      have ar7 := Arr.new w6 (dgs [la, ld]).toArray 34
      obtain ⟨gp, hgp⟩ : ∃ g, w6.heap.size = g := ⟨_, rfl⟩
      obtain ⟨W7, hW7⟩ : ∃ W, w6.alloc (.cells (dgs [la, ld]).toArray 34) = W := ⟨_, rfl⟩
      rw [hW7] at st7 ar7 hbs; rw [hgp] at ar7 hbs
      have c83 : W7.cell? ⟨g6 + 1, 3, none⟩ = some zsg := st7.a8.cell 3
      have f83 : W7.frozen? ⟨g6 + 1, 3, none⟩ = false := st7.a8.free 3
      have hgp8 : g6 + 1 < gp := by rw [← hgp]; exact st6.a8.lt
      have st8 := st7.put (by have := HG6.out; omega) (by omega) 3 (.slice (some ⟨gp, 0, none⟩) 2 2) (c := sgc k (.slice (some ⟨gr, 0, none⟩) 128 cr) (.slice (some ⟨go, 0, none⟩) 128 co) (.slice (some ⟨gp, 0, none⟩) 2 2)) rfl
      have ar8 := ar7.setFar (k := g6 + 1) (i := 3) (by omega) (.slice (some ⟨gp, 0, none⟩) 2 2)
      obtain ⟨W8, hW8⟩ : ∃ W, W7.setCell ⟨g6 + 1, 3, none⟩ (.slice (some ⟨gp, 0, none⟩) 2 2) = W := ⟨_, rfl⟩
      rw [hW8] at st8 ar8
      obtain ⟨e8, a68, a88, oR8, oO8⟩ := st8
      have c80 : W8.cell? ⟨g6 + 1, 0, none⟩ = some (.int .i64 k) := a88.cell 0
      have c81 : W8.cell? ⟨g6 + 1, 1, none⟩ = some (.slice (some ⟨gr, 0, none⟩) 128 cr) := a88.cell 1
      have c82 : W8.cell? ⟨g6 + 1, 2, none⟩ = some (.slice (some ⟨go, 0, none⟩) 128 co) := a88.cell 2
      have c88 : W8.cell? ⟨g6 + 1, 3, none⟩ = some (.slice (some ⟨gp, 0, none⟩) 2 2) := a88.cell 3
      have c60 : W8.cell? ⟨g6, 0, none⟩ = some (.int .i64 0) := a68.cell 0
      have c61 : W8.cell? ⟨g6, 1, none⟩ = some zsg := a68.cell 1
      have c62 : W8.cell? ⟨g6, 2, none⟩ = some zsg := a68.cell 2
      have c63 : W8.cell? ⟨g6, 3, none⟩ = some zsg := a68.cell 3
      have b0 : Blk (W8.setCell ⟨g6, 0, none⟩ (.int .i64 k)) g6 (.cells (sgc k zsg zsg zsg) 25 (0, 0)) := a68.setCell 0 _
      have f60 : W8.frozen? ⟨g6, 0, none⟩ = false := a68.free 0
      have l0 : Lv (fun g => g = g6) W8 (W8.setCell ⟨g6, 0, none⟩ (.int .i64 k)) := Lv.setCell (S := fun g => g = g6) (p := ⟨g6, 0, none⟩) (Lv.refl _ _) (fun _ => rfl) _
      obtain ⟨V0, hV0⟩ : ∃ W, W8.setCell ⟨g6, 0, none⟩ (.int .i64 k) = W := ⟨_, rfl⟩
      rw [hV0] at b0 l0
      have b1 : Blk (V0.setCell ⟨g6, 1, none⟩ (.slice (some ⟨gr, 0, none⟩) 128 cr)) g6 (.cells (sgc k (.slice (some ⟨gr, 0, none⟩) 128 cr) zsg zsg) 25 (0, 0)) := b0.setCell 1 _
      have f61 : V0.frozen? ⟨g6, 1, none⟩ = false := b0.free 1
      have d61 : V0.cell? ⟨g6, 1, none⟩ = some zsg := b0.cell 1
      have l1 : Lv (fun g => g = g6) V0 (V0.setCell ⟨g6, 1, none⟩ (.slice (some ⟨gr, 0, none⟩) 128 cr)) := Lv.setCell (S := fun g => g = g6) (p := ⟨g6, 1, none⟩) (Lv.refl _ _) (fun _ => rfl) _
      obtain ⟨V1, hV1⟩ : ∃ W, V0.setCell ⟨g6, 1, none⟩ (.slice (some ⟨gr, 0, none⟩) 128 cr) = W := ⟨_, rfl⟩
      rw [hV1] at b1 l1
      have b2 : Blk (V1.setCell ⟨g6, 2, none⟩ (.slice (some ⟨go, 0, none⟩) 128 co)) g6 (.cells (sgc k (.slice (some ⟨gr, 0, none⟩) 128 cr) (.slice (some ⟨go, 0, none⟩) 128 co) zsg) 25 (0, 0)) := b1.setCell 2 _
      have f62 : V1.frozen? ⟨g6, 2, none⟩ = false := b1.free 2
      have d62 : V1.cell? ⟨g6, 2, none⟩ = some zsg := b1.cell 2
      have l2 : Lv (fun g => g = g6) V1 (V1.setCell ⟨g6, 2, none⟩ (.slice (some ⟨go, 0, none⟩) 128 co)) := Lv.setCell (S := fun g => g = g6) (p := ⟨g6, 2, none⟩) (Lv.refl _ _) (fun _ => rfl) _
      obtain ⟨V2, hV2⟩ : ∃ W, V1.setCell ⟨g6, 2, none⟩ (.slice (some ⟨go, 0, none⟩) 128 co) = W := ⟨_, rfl⟩
      rw [hV2] at b2 l2
      have b3 : Blk (V2.setCell ⟨g6, 3, none⟩ (.slice (some ⟨gp, 0, none⟩) 2 2)) g6 (.cells (sgc k (.slice (some ⟨gr, 0, none⟩) 128 cr) (.slice (some ⟨go, 0, none⟩) 128 co) (.slice (some ⟨gp, 0, none⟩) 2 2)) 25 (0, 0)) := b2.setCell 3 _
      have f63 : V2.frozen? ⟨g6, 3, none⟩ = false := b2.free 3
      have d63 : V2.cell? ⟨g6, 3, none⟩ = some zsg := b2.cell 3
      have l3 : Lv (fun g => g = g6) V2 (V2.setCell ⟨g6, 3, none⟩ (.slice (some ⟨gp, 0, none⟩) 2 2)) := Lv.setCell (S := fun g => g = g6) (p := ⟨g6, 3, none⟩) (Lv.refl _ _) (fun _ => rfl) _
      obtain ⟨V3, hV3⟩ : ∃ W, V2.setCell ⟨g6, 3, none⟩ (.slice (some ⟨gp, 0, none⟩) 2 2) = W := ⟨_, rfl⟩
      rw [hV3] at b3 l3
      have r60 : V3.cell? ⟨g6, 0, none⟩ = some (.int .i64 k) := b3.cell 0
      have r61 : V3.cell? ⟨g6, 1, none⟩ = some (.slice (some ⟨gr, 0, none⟩) 128 cr) := b3.cell 1
      have r62 : V3.cell? ⟨g6, 2, none⟩ = some (.slice (some ⟨go, 0, none⟩) 128 co) := b3.cell 2
      have r63 : V3.cell? ⟨g6, 3, none⟩ = some (.slice (some ⟨gp, 0, none⟩) 2 2) := b3.cell 3
      have hlv := ((l0.trans l1 (fun _ _ h => h)).trans l2 (fun _ _ h => h)).trans l3 (fun _ _ h => h)
      have eF := hlv.extBelow e8 (fun g hg hx => by have := HG6.out; omega)
      have oRF := own_dgs (own_lv oR8 hlv (fun g hx hy => by have := (own_blk oR8 hx).1; omega)) R32.out rfl (fun e => by have := congrArg List.length e; rw [revP_len] at this; cases this)
      have oOF := own_dgs (own_lv oO8 hlv (fun g hx hy => by have := (own_blk oO8 hx).1; omega)) O32.out rfl (fun e => by have := congrArg List.length e; rw [othP_len] at this; cases this)
      have pF := ar8.lv hlv (by omega)
      have oPF : DgS V3 (.slice (some ⟨gp, 0, none⟩) 2 2) [la, ld] := ⟨by simp [A32.out, D32.out], _, 2, rfl, .inr ⟨gp, 0, rfl, fun j x hj => by rw [Nat.zero_add]; exact pF.cell hj⟩⟩
      have EF := Lib.hid eF; have RF := Lib.hid oRF; have OF := Lib.hid oOF; have PF := Lib.hid oPF
      clear hE6 ST5 st6 st7 ar7 e8 a68 a88 oR8 oO8 ar8 b0 b1 b2 b3 l0 l1 l2 l3 hlv eF oRF oOF pF oPF
      go_wp2_with fail
      have hpath : [la, ld] = (signV sd k m).path := by rw [← HLD.out, ← HLA.out, ← HLB.out, ← HLC.out, ← HQ.out, ← HO.out]; rfl
      have hp := PF.out
      rw [hpath] at hp
      have HP := Lib.hid hp
      clear hpath hp PF
      refine ret_cell2 (A := ⟨g6, 0, none⟩) (v := .agg (sgc k (.slice (some ⟨gr, 0, none⟩) 128 cr) (.slice (some ⟨go, 0, none⟩) 128 co) (.slice (some ⟨gp, 0, none⟩) 2 2))) rfl rfl ?_ rfl rfl ⟨_, _, _, rfl, RF.out, OF.out, HP.out, EF.out⟩
      clear RF OF HP EF
      go_simp
end Go.Proofs.Ytmmcjcaccicheaa

/- arq's due, for a sender with one string that was not sent yet: an iterator of one value. No condition. -/
import Derived.Test.YtmmcjcaccicheaaTfOff
import Derived.RegionIn
namespace Go.Proofs.Ytmmcjcaccicheaa
open Go.RowKit
attribute [local go_sem] Oper.semAt_some
theorem take_ex {F : Fence} {n : Nat} {P : Program} {md : Region.Mode} {l : List Oper} {Q : Exit → Act → World → Prop} (i : Nat) {oi : Oper} {fuel : Nat} {listed : Array Bool} {a : Act} {w : World} (hro : F.round = none) (ho : nth l i = some oi)
    (hs : Region.noSelect l.toArray = true) (hf : Region.free md l.toArray listed i = true) (hr : (Region.ready md l.toArray listed).contains i = true)
    (hQ : ∀ c v a w, Q (.panic c) (Act.put a oi.dst v) w → Q (.panic c) a w) (h : ∃ v, YieldsFenced P l.toArray oi v a ∧ wpAnyIn F n P md l.toArray Q fuel (listed.setIfInBounds i true) (a.put oi.dst v) w) : wpAnyIn F n P md l.toArray Q (fuel + 1) listed a w := by
  obtain ⟨v, hy, h⟩ := h
  have hi : l.toArray[i]? = some oi := by rw [nth_eq] at ho; simpa using ho
  exact wpAnyIn_take hro hi hs hf hr (fun c a w => hQ c v a w) hy h
theorem skip_ex {F : Fence} {n : Nat} {P : Program} {md : Region.Mode} {l : List Oper} {Q : Exit → Act → World → Prop} (i : Nat) {oi : Oper} {fuel : Nat} {listed : Array Bool} {a : Act} {w : World} (hro : F.round = none) (ho : nth l i = some oi)
    (hs : Region.noSelect l.toArray = true) (hf : Region.free md l.toArray listed i = true) (hr : (Region.ready md l.toArray listed).contains i = true)
    (hQ : ∀ c v a w, Q (.panic c) (Act.put a oi.dst v) w → Q (.panic c) a w) (hw : Region.wanted oi (yielded l.toArray a.tmps) = false) (hab : ∀ w, oi.about P w a.eval = none)
    (h : wpAnyIn F n P md l.toArray Q fuel (listed.setIfInBounds i true) (a.put oi.dst undef) w) : wpAnyIn F n P md l.toArray Q (fuel + 1) listed a w := by
  have hi : l.toArray[i]? = some oi := by rw [nth_eq] at ho; simpa using ho
  exact wpAnyIn_take hro hi hs hf hr (fun c a w => hQ c _ a w) ⟨.inr ⟨hw, rfl⟩, hab⟩ h
/-- One alone may come up. -/
theorem one_ex {F : Fence} {n : Nat} {P : Program} {md : Region.Mode} {l : List Oper} {Q : Exit → Act → World → Prop} (i : Nat) {o : Oper} {fuel : Nat} {listed : Array Bool} {a : Act} {w : World} (hr : Region.ready md l.toArray listed = [i]) (ho : nth l i = some o)
    (hw : Region.wanted o (yielded l.toArray a.tmps) = true)
    (h : ∀ K : Act → World → Prop, (∀ a' w', wpAnyIn F n P md l.toArray Q fuel (listed.setIfInBounds i true) a' w' → K a' w') → Oper.wpIn F n P o a w K Q) : wpAnyIn F n P md l.toArray Q (fuel + 1) listed a w := by
  refine wpAnyIn_all hr (by simp) fun j hj => ?_
  obtain rfl : j = i := by simpa using hj
  have hi : l.toArray[j]? = some o := by rw [nth_eq] at ho; simpa using ho
  refine wpOpIn_step hi fun K' hK' => ?_
  rw [if_pos hw]
  exact h K' hK'
def EncI (x : Nat) (vs : Array Value) (_ : Nat → Prop) (_ : World) : Prop := vs = #[.int .i64 x]
theorem due_any (c : Array Value) (w : World) : Calls Try.prog 35 #[.agg c, .int .i64 0] w fun e w' => e = .returned (.func (.func 48) #[] #[.pointer (some ⟨w.heap.size, 0, none⟩), .pointer (some ⟨w.heap.size + 1, 0, none⟩)]) ∧ w' = (w.alloc (.cells c 45)).alloc (.cells #[.int .i64 0] 3) := by
  have hmf : ∀ (fn : Fn) (first cap : Array Value) (w : World), (Instr.makeFunc fn first cap).run Try.prog w = .ok (.func fn first cap) w := fun _ _ _ _ => rfl
  go_enter Try.func35, Try.ntmps35
  go_wp2
  go_ret
  exact ⟨rfl, rfl⟩
set_option maxRecDepth 100000 in
set_option maxHeartbeats 8000000 in
theorem due_iter (ga gb gd cd gs cs : Nat) (X : Nat → Prop) (w0 : World)
    (hKn : ∀ W, Lv X w0 W → Blk W ga (.cells (snd 0 1 (.slice (some ⟨gd, 0, none⟩) 1 cd) (.slice (some ⟨gs, 0, none⟩) 1 cs)) 45 (0, 0)) ∧ Blk W gb (.cells #[.int .i64 0] 3 (0, 0)) ∧ W.cell? ⟨gs, 0, none⟩ = some (.int .i64 (-1))) :
    Iter Try.prog 48 #[.pointer (some ⟨ga, 0, none⟩), .pointer (some ⟨gb, 0, none⟩)] EncI [0] (fun _ => False) (PreT X w0) := by
  intro ly J Jx S W hP hSz hJ hJx hY h0
  have HP := Lib.hid hP; have HJ := Lib.hid hJ; have HJX := Lib.hid hJx; have HY := Lib.hid hY; have H0 := Lib.hid h0; have HZ := Lib.hid hSz; have HK := Lib.hid hKn; clear hP hSz hJ hJx hY h0 hKn
  refine callsIn_wide.2 ?_
  simp only [List.append_toArray, List.cons_append, List.nil_append]
  go_enter Try.func48, Try.ntmps48
  have hk := HK.out W HP.out.1
  have c1 := hk.1.cell 1; have c2 := hk.1.cell 2
  clear hk
  go_wp2_with fail
  clear c1 c2
  go_loopw [11] (fun v11 wr => (v11 = .int .i64 0 ∧ wr = W) ∨ (v11 = .int .i64 1 ∧ ∃ S', J [0] S' wr)) (fun v11 _ => 1 - (intOf v11).toNat)
  case atStart => exact .inl ⟨rfl, rfl⟩
  case round =>
    rcases hrel with ⟨rfl, rfl⟩ | ⟨rfl, S', hj⟩
    · have hk := HK.out wr HP.out.1
      have c3 := hk.1.cell 3; have cb := hk.2.1.cell 0; have cs0 := hk.2.2
      clear hk
      go_wp2_with fail
      have hjd := HJ.out [] S wr wr.drew H0.out (Lv.of_ext (Ext.refl wr).drew)
      have hR := HY.out [] 0 #[.int .i64 0] S wr.drew hjd (List.prefix_refl [0]) rfl
      have HR := Lib.hid hR; clear hR hjd
      obtain ⟨fn, tmps, assign, body, hy, hRR⟩ := HR.out
      refine wp_of_In ?_
      refine wpIn_region_any (by kernel_rfl) ?_
      change wpAnyIn _ _ _ _ _ _ _ _ _ (World.drew _)
      refine take_ex 0 rfl rfl (by kernel_rfl) (by kernel_rfl) (by kernel_rfl) (fun _ _ _ _ h => h) ?_
      apply Exists.intro
      refine ⟨⟨Or.inl ⟨by rfl, ?_⟩, fun _ => rfl⟩, ?_⟩
      · intro w
        go_simp
        try with_reducible rfl
      simp only [Act.put, List.setIfInBounds_toArray, List.set_cons_zero, List.set_cons_succ]
      refine take_ex 2 rfl rfl (by kernel_rfl) (by kernel_rfl) (by kernel_rfl) (fun _ _ _ _ h => h) ?_
      apply Exists.intro
      refine ⟨⟨Or.inl ⟨by rfl, ?_⟩, fun _ => rfl⟩, ?_⟩
      · intro w
        go_simp
        try with_reducible rfl
      simp only [Act.put, List.setIfInBounds_toArray, List.set_cons_zero, List.set_cons_succ]
      refine one_ex 1 (by kernel_rfl) rfl rfl (fun K hK => ?_)
      go_simp
      refine hK _ _ ?_
      clear hK K
      try simp only [Act.put, List.setIfInBounds_toArray, List.set_cons_zero, List.set_cons_succ]
      refine take_ex 3 rfl rfl (by kernel_rfl) (by kernel_rfl) (by kernel_rfl) (fun _ _ _ _ h => h) ?_
      apply Exists.intro
      refine ⟨⟨Or.inl ⟨by rfl, ?_⟩, fun _ => rfl⟩, ?_⟩
      · intro w
        go_simp
        try with_reducible rfl
      simp only [Act.put, List.setIfInBounds_toArray, List.set_cons_zero, List.set_cons_succ]
      refine one_ex 4 (by kernel_rfl) rfl rfl (fun K hK => ?_)
      go_simp
      refine hK _ _ ?_
      clear hK K
      try simp only [Act.put, List.setIfInBounds_toArray, List.set_cons_zero, List.set_cons_succ]
      refine take_ex 5 rfl rfl (by kernel_rfl) (by kernel_rfl) (by kernel_rfl) (fun _ _ _ _ h => h) ?_
      apply Exists.intro
      refine ⟨⟨Or.inl ⟨by rfl, ?_⟩, fun _ => rfl⟩, ?_⟩
      · intro w
        go_simp
        try with_reducible rfl
      simp only [Act.put, List.setIfInBounds_toArray, List.set_cons_zero, List.set_cons_succ]
      refine take_ex 6 rfl rfl (by kernel_rfl) (by kernel_rfl) (by kernel_rfl) (fun _ _ _ _ h => h) ?_
      apply Exists.intro
      refine ⟨⟨Or.inl ⟨by rfl, ?_⟩, fun _ => rfl⟩, ?_⟩
      · intro w
        go_simp
        try with_reducible rfl
      simp only [Act.put, List.setIfInBounds_toArray, List.set_cons_zero, List.set_cons_succ]
      refine skip_ex 7 rfl rfl (by kernel_rfl) (by kernel_rfl) (by kernel_rfl) (fun _ _ _ _ h => h) rfl (fun _ => rfl) ?_
      simp only [Act.put, List.setIfInBounds_toArray, List.set_cons_zero, List.set_cons_succ]
      refine skip_ex 8 rfl rfl (by kernel_rfl) (by kernel_rfl) (by kernel_rfl) (fun _ _ _ _ h => h) rfl (fun _ => rfl) ?_
      simp only [Act.put, List.setIfInBounds_toArray, List.set_cons_zero, List.set_cons_succ]
      refine skip_ex 10 rfl rfl (by kernel_rfl) (by kernel_rfl) (by kernel_rfl) (fun _ _ _ _ h => h) rfl (fun _ => rfl) ?_
      simp only [Act.put, List.setIfInBounds_toArray, List.set_cons_zero, List.set_cons_succ]
      refine skip_ex 9 rfl rfl (by kernel_rfl) (by kernel_rfl) (by kernel_rfl) (fun _ _ _ _ h => h) rfl (fun _ => rfl) ?_
      simp only [Act.put, List.setIfInBounds_toArray, List.set_cons_zero, List.set_cons_succ]
      refine skip_ex 11 rfl rfl (by kernel_rfl) (by kernel_rfl) (by kernel_rfl) (fun _ _ _ _ h => h) rfl (fun _ => rfl) ?_
      simp only [Act.put, List.setIfInBounds_toArray, List.set_cons_zero, List.set_cons_succ]
      refine skip_ex 12 rfl rfl (by kernel_rfl) (by kernel_rfl) (by kernel_rfl) (fun _ _ _ _ h => h) rfl (fun _ => rfl) ?_
      simp only [Act.put, List.setIfInBounds_toArray, List.set_cons_zero, List.set_cons_succ]
      refine skip_ex 13 rfl rfl (by kernel_rfl) (by kernel_rfl) (by kernel_rfl) (fun _ _ _ _ h => h) rfl (fun _ => rfl) ?_
      simp only [Act.put, List.setIfInBounds_toArray, List.set_cons_zero, List.set_cons_succ]
      refine skip_ex 14 rfl rfl (by kernel_rfl) (by kernel_rfl) (by kernel_rfl) (fun _ _ _ _ h => h) rfl (fun _ => rfl) ?_
      simp only [Act.put, List.setIfInBounds_toArray, List.set_cons_zero, List.set_cons_succ]
      refine take_ex 15 rfl rfl (by kernel_rfl) (by kernel_rfl) (by kernel_rfl) (fun _ _ _ _ h => h) ?_
      apply Exists.intro
      refine ⟨⟨Or.inl ⟨by rfl, ?_⟩, fun _ => rfl⟩, ?_⟩
      · intro w
        go_simp
        try with_reducible rfl
      simp only [Act.put, List.setIfInBounds_toArray, List.set_cons_zero, List.set_cons_succ]
      refine take_ex 16 rfl rfl (by kernel_rfl) (by kernel_rfl) (by kernel_rfl) (fun _ _ _ _ h => h) ?_
      apply Exists.intro
      refine ⟨⟨Or.inl ⟨by rfl, ?_⟩, fun _ => rfl⟩, ?_⟩
      · intro w
        go_simp
        try with_reducible rfl
      simp only [Act.put, List.setIfInBounds_toArray, List.set_cons_zero, List.set_cons_succ]
      refine take_ex 17 rfl rfl (by kernel_rfl) (by kernel_rfl) (by kernel_rfl) (fun _ _ _ _ h => h) ?_
      apply Exists.intro
      refine ⟨⟨Or.inl ⟨by rfl, ?_⟩, fun _ => rfl⟩, ?_⟩
      · intro w
        go_simp
        try with_reducible rfl
      simp only [Act.put, List.setIfInBounds_toArray, List.set_cons_zero, List.set_cons_succ]
      refine take_ex 18 rfl rfl (by kernel_rfl) (by kernel_rfl) (by kernel_rfl) (fun _ _ _ _ h => h) ?_
      apply Exists.intro
      refine ⟨⟨Or.inl ⟨by rfl, ?_⟩, fun _ => rfl⟩, ?_⟩
      · intro w
        go_simp
        try with_reducible rfl
      simp only [Act.put, List.setIfInBounds_toArray, List.set_cons_zero, List.set_cons_succ]
      refine one_ex 19 (by kernel_rfl) rfl rfl (fun K hK => ?_)
      gi_wp2
      refine ⟨rfl, hRR.mono ?_⟩
      rintro e W6 ⟨S3, hv2, hs2, hz2, (⟨rfl, hJ2⟩ | ⟨rfl, hJx2⟩)⟩
      · have HJ2 := Lib.hid hJ2
        clear hJ2 hv2 hs2 hz2 hy hRR
        refine hK _ _ ?_
        clear hK K
        refine take_ex 20 rfl rfl (by kernel_rfl) (by kernel_rfl) (by kernel_rfl) (fun _ _ _ _ h => h) ?_
        apply Exists.intro
        refine ⟨⟨Or.inl ⟨by rfl, ?_⟩, fun _ => rfl⟩, ?_⟩
        · intro w
          go_simp
          try with_reducible rfl
        simp only [Act.put, List.setIfInBounds_toArray, List.set_cons_zero, List.set_cons_succ]
        refine take_ex 21 rfl rfl (by kernel_rfl) (by kernel_rfl) (by kernel_rfl) (fun _ _ _ _ h => h) ?_
        apply Exists.intro
        refine ⟨⟨Or.inl ⟨by rfl, ?_⟩, fun _ => rfl⟩, ?_⟩
        · intro w
          go_simp
          try with_reducible rfl
        simp only [Act.put, List.setIfInBounds_toArray, List.set_cons_zero, List.set_cons_succ]
        refine wpAnyIn_done (by kernel_rfl) ?_ _
        go_wp2_with fail
        go_roundw
        case rel => exact .inr ⟨rfl, _, HJ2.out⟩
        case measure => simp [intOf]
      · have HJ2 := Lib.hid hJx2
        clear hJx2 hv2 hs2 hz2 hy hRR
        refine hK _ _ ?_
        clear hK K
        refine take_ex 20 rfl rfl (by kernel_rfl) (by kernel_rfl) (by kernel_rfl) (fun _ _ _ _ h => h) ?_
        apply Exists.intro
        refine ⟨⟨Or.inl ⟨by rfl, ?_⟩, fun _ => rfl⟩, ?_⟩
        · intro w
          go_simp
          try with_reducible rfl
        simp only [Act.put, List.setIfInBounds_toArray, List.set_cons_zero, List.set_cons_succ]
        refine take_ex 21 rfl rfl (by kernel_rfl) (by kernel_rfl) (by kernel_rfl) (fun _ _ _ _ h => h) ?_
        apply Exists.intro
        refine ⟨⟨Or.inl ⟨by rfl, ?_⟩, fun _ => rfl⟩, ?_⟩
        · intro w
          go_simp
          try with_reducible rfl
        simp only [Act.put, List.setIfInBounds_toArray, List.set_cons_zero, List.set_cons_succ]
        refine wpAnyIn_done (by kernel_rfl) ?_ _
        go_wp2_with fail
        refine bodyPost_ret (results_none rfl _ _ _) rfl ?_
        exact ⟨⟨_, rfl⟩, .inr ⟨[0], _, List.prefix_refl _, HJ2.out⟩⟩
    · have HJ1 := Lib.hid hj; clear hj
      go_wp2_with fail
      refine bodyPost_end (results_none rfl _ _ _) rfl ?_
      exact ⟨⟨_, rfl⟩, .inl ⟨_, HJ1.out⟩⟩
end Go.Proofs.Ytmmcjcaccicheaa

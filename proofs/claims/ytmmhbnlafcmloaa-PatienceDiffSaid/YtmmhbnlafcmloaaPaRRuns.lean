/- Contracts of the reference: Shift, Runs. -/
import Derived.Test.YtmmhbnlafcmloaaPaKeep
import Derived.Test.YtmmhbnlafcmloaaHiApp
import Derived.Test.YtmmhbnlafcmloaaPaUniq
namespace Go.Proofs.Ytmmhbnlafcmloaa
open Go.RowKit

theorem mv_take {ms : List Mt} {k : Nat} {m : Mt} (x y : Int) (h : ms[k]? = some m) : (ms.take (k + 1)).map (fun m => mvM m x y) = (ms.take k).map (fun m => mvM m x y) ++ [mvM m x y] := by
  rw [take_succ_of h, List.map_append]; rfl
/-- Matches that are small. -/
def SmallM (ms : List Mt) : Prop := ∀ m ∈ ms, (0 ≤ m.a ∧ m.a ≤ 10000) ∧ (0 ≤ m.b ∧ m.b ≤ 10000) ∧ (0 ≤ m.n ∧ m.n ≤ 10000)
theorem Bnd.small {L : Nat} {ms : List Mt} (h : Bnd L ms) (hL : L ≤ 10000) : SmallM ms := fun m hm => by
  have := h m hm; omega

set_option maxRecDepth 100000 in
set_option maxHeartbeats 8000000 in
theorem rshift_any (A : Option Addr) (n c : Nat) (ms : List Mt) (x y : Nat) (w : World) (ha : Mts w A n ms) (hs : SmallM ms) (hn : n ≤ 1000) (hx : x ≤ 10000) (hy : y ≤ 10000) :
    Calls Try.prog 32 #[.slice A n c, .int .i64 x, .int .i64 y] w fun e w' => ∃ v, e = .returned v ∧ w'.ownsRow w.heap.size 32 3 v n ((shV ms x y).flatMap Mt.cells) ∧ Ext w w' := by
  unfold shV
  obtain rfl : ms.length = n := ha.1
  have HA := Lib.hid ha; have HSM := Lib.hid hs; clear ha hs
  obtain ⟨inf, i1, i2, i3, i4⟩ := info_of infoM'
  have I1 := Lib.hid i1; have I2 := Lib.hid i2; have I3 := Lib.hid i3; have I4 := Lib.hid i4; clear i1 i2 i3 i4
  go_enter Try.func32, Try.ntmps32
  go_wp2_with fail
  obtain ⟨w2, hw2⟩ : ∃ w2, w2 = w.alloc (.cells #[] 32) := ⟨_, rfl⟩
  have hE2 : Ext w w2 := by rw [hw2]; exact (Ext.refl w).alloc _
  have hO2 : w2.ownsRow w.heap.size 32 3 (.slice (some ⟨w.heap.size, 0, none⟩) 0 0) 0 [] := by
    rw [hw2]; exact ⟨rfl, .inr ⟨w.heap.size, 0, #[], rfl, Nat.le_refl _, heap_alloc_new w _, Nat.le_refl _, by simp [maxLen], rfl, rfl⟩⟩
  rw [← hw2]
  have HE2 := Lib.hid hE2; have HO2 := Lib.hid hO2; clear hw2 hE2 hO2
  go_loopw [7, 8] (fun v7 v8 wr => ∃ k : Nat, k ≤ ms.length ∧ v8 = .int .i64 k ∧ wr.ownsRow w.heap.size 32 3 v7 k (((ms.take k).map (fun m => mvM m x y)).flatMap Mt.cells) ∧ Ext w wr) (fun _ v8 _ => ms.length - (intOf v8).toNat)
  case atStart => exact ⟨0, Nat.zero_le _, rfl, HO2.out, HE2.out⟩
  case round =>
    obtain ⟨k, hk, rfl, ho, hE⟩ := hrel
    have HO := Lib.hid ho; have HE := Lib.hid hE; clear ho hE
    by_cases hlt : k < ms.length
    case neg =>
      obtain rfl : k = ms.length := by omega
      go_wp2_with fail
      go_ret
      exact ⟨_, rfl, by have := HO.out; rwa [List.take_of_length_le (Nat.le_refl _)] at this, HE.out⟩
    obtain ⟨ba, oa, ⟨p, q, l⟩, rfl, hba, hm, hwf, c1, c2, c3⟩ := HA.out.get hlt
    obtain ⟨⟨p1, p2⟩, ⟨q1, q2⟩, ⟨l1, l2⟩⟩ := HSM.out _ (List.mem_of_getElem? hm)
    have hbt := mv_take (x : Int) (y : Int) hm
    dsimp only at c1 c2 c3 p1 p2 q1 q2 l1 l2
    have C1 := Lib.hid c1; have C2 := Lib.hid c2; have C3 := Lib.hid c3; have HBT := Lib.hid hbt
    clear c1 c2 c3 hbt hm hwf
    have e1 : IntKind.i64.wrap (p + x) = p + x := wrap_in (by omega) (by omega)
    have e2 : IntKind.i64.wrap (q + y) = q + y := wrap_in (by omega) (by omega)
    go_wp2_with fail
    have hO3 := own_stab3 (Ext.refl wr).drew HO.out
    refine wp_region_X (T := fun wx => Ext w wx) (fun wx => Ext w wx ∧ wx.ownsRow w.heap.size 32 3 u7 k (((ms.take k).map (fun m => mvM m x y)).flatMap Mt.cells)) (by kernel_rfl) ⟨HE.out.drew, hO3⟩ (wpX_takes (by kernel_rfl) (fun _ d _ _ _ h => by cases d <;> exact h) ((Stab.ext _).and (fun _ _ e h => own_stab3 e h)) (fun _ h => h.1) (fuel := 3) [0,1,2,3,4,5,6,7,8,9,10,11,12,13,14,15,16,17,18,19,20] _ _ (by kernel_rfl) ?_)
    iterate 21
      refine wpTk_want rfl (Eq.refl true) ?_
      apply Exists.intro
      refine ⟨fun wx hx => ?_, ?_⟩
      · have d1 := hx.cell C1.out; have d2 := hx.cell C2.out; have d3 := hx.cell C3.out
        clear hx
        go_simp
        with_reducible exact gives_ok _ _ _
      simp only [Act.put, List.setIfInBounds_toArray, List.set_cons_zero, List.set_cons_succ]
    refine wpTk_nil ?_
    refine wpX_push 21 22 (by kernel_rfl) rfl rfl (by kernel_rfl) rfl rfl (.tmp 16) (.tmp 37) 25 rfl w.heap.size 32 inf _ 3 24 underM' I1.out I2.out I3.out I4.out rfl (by decide) u7 k (((ms.take k).map (fun m => mvM m x y)).flatMap Mt.cells) (Mt.cells ⟨p + x, q + y, l⟩)
      (fun wz => by go_simp; rfl) (fun g => by simp [Act.eval, Act.put]) (fun g => by simp [Act.eval, Act.put]) rfl (by simp [Mt.cells, Value.oneCell']) (by simp only [maxLen]; omega) (by omega) ((Stab.ext _).and (fun _ _ e h => own_stab3 e h)) (fun _ h => h.1) (fun _ h => ⟨h.2, h.1.size⟩) (fun g wx hx v1 wy hown hg => ?_)
    refine ⟨fun wz => Ext w wz ∧ wz.ownsRow w.heap.size 32 3 v1 (k + 1) (((ms.take k).map (fun m => mvM m x y)).flatMap Mt.cells ++ Mt.cells ⟨p + x, q + y, l⟩), (Stab.ext _).and (fun _ _ e h => own_stab3 e h), fun _ h => h.1, ⟨hx.1.own3 hx.2 hg, hown⟩, ?_⟩
    clear hx hown hg
    simp only [Act.put, List.setIfInBounds_toArray, List.set_cons_zero, List.set_cons_succ]
    refine wpX_one 23 (by kernel_rfl) rfl rfl (fun wz hz K hK => ?_)
    go_simp
    refine hK _ _ ⟨fun wz => Ext w wz ∧ wz.ownsRow w.heap.size 32 3 v1 (k + 1) (((ms.take k).map (fun m => mvM m x y)).flatMap Mt.cells ++ Mt.cells ⟨p + x, q + y, l⟩), (Stab.ext _).and (fun _ _ e h => own_stab3 e h), fun _ h => h.1, hz, ?_⟩
    clear hK K hz wz
    refine wpX_done (by kernel_rfl) (fun wz hz => ?_) _
    have HZ := Lib.hid hz; clear hz
    go_wp2_with fail
    go_roundw
    case rel =>
      refine ⟨k + 1, by omega, by go_num, ?_, HZ.out.1⟩
      rw [HBT.out, List.flatMap_append]
      simpa [mvM] using HZ.out.2
    case measure => simp [intOf]; omega
theorem runs_step {ms R : List Mt} {k : Nat} {m : Mt} (hR : runsV (ms.take k) = R) (h : ms[k]? = some m) : runsV (ms.take (k + 1)) = keepV R m := by
  rw [take_succ_of h, ← hR]; unfold runsV; rw [List.foldl_append]; rfl
theorem runs_bnd {L : Nat} : ∀ (ms out : List Mt), Bnd L ms → Bnd L out → Bnd L (ms.foldl keepV out)
  | [], _, _, h => h
  | m :: ms, out, hm, h => runs_bnd ms _ (fun x hx => hm x (by simp [hx])) (h.keep (fun x hx => hm x (by simp only [List.mem_singleton] at hx; simp [hx])))
theorem runs_len : ∀ (ms out : List Mt), (ms.foldl keepV out).length ≤ out.length + ms.length
  | [], _ => by simp
  | m :: ms, out => by
    have := runs_len ms (keepV out m)
    have := keepV_len out m
    simp only [List.foldl_cons, List.length_cons]; omega

set_option maxRecDepth 100000 in
set_option maxHeartbeats 8000000 in
theorem rruns_any (A : Option Addr) (n c : Nat) (ms : List Mt) (L : Nat) (w : World) (ha : Mts w A n ms) (hn : n ≤ 1000) (hB : Bnd L ms) (hL : L ≤ 1000) :
    Calls Try.prog 34 #[.slice A n c] w fun e w' => ∃ v, e = .returned v ∧ w'.ownsRow w.heap.size 32 3 v (runsV ms).length ((runsV ms).flatMap Mt.cells) ∧ Ext w w' := by
  obtain rfl : ms.length = n := ha.1
  have HA := Lib.hid ha; have HBN := Lib.hid hB; clear ha hB
  obtain ⟨inf, i1, i2, i3, i4⟩ := info_of infoM'
  have I1 := Lib.hid i1; have I2 := Lib.hid i2; have I3 := Lib.hid i3; have I4 := Lib.hid i4; clear i1 i2 i3 i4
  go_enter Try.func34, Try.ntmps34
  go_wp2_with fail
  obtain ⟨w2, hw2⟩ : ∃ w2, w2 = w.alloc (.cells #[] 32) := ⟨_, rfl⟩
  have hE2 : Ext w w2 := by rw [hw2]; exact (Ext.refl w).alloc _
  have hO2 : w2.ownsRow w.heap.size 32 3 (.slice (some ⟨w.heap.size, 0, none⟩) 0 0) 0 [] := by
    rw [hw2]; exact ⟨rfl, .inr ⟨w.heap.size, 0, #[], rfl, Nat.le_refl _, heap_alloc_new w _, Nat.le_refl _, by simp [maxLen], rfl, rfl⟩⟩
  rw [← hw2]
  have HE2 := Lib.hid hE2; have HO2 := Lib.hid hO2; clear hw2 hE2 hO2
  go_loopw [3, 4] (fun v3 v4 wr => ∃ k : Nat, k ≤ ms.length ∧ v4 = .int .i64 k ∧ wr.ownsRow w.heap.size 32 3 v3 (runsV (ms.take k)).length ((runsV (ms.take k)).flatMap Mt.cells) ∧ Ext w wr) (fun _ v4 _ => ms.length - (intOf v4).toNat)
  case atStart => exact ⟨0, Nat.zero_le _, rfl, HO2.out, HE2.out⟩
  clear HO2 HE2
  case round =>
    obtain ⟨k, hk, rfl, ho, hE⟩ := hrel
    have HO := Lib.hid ho; have HE := Lib.hid hE; clear ho hE
    by_cases hlt : k < ms.length
    case neg =>
      obtain rfl : k = ms.length := by omega
      go_wp2_with fail
      go_ret
      exact ⟨_, rfl, by have := HO.out; rwa [List.take_of_length_le (Nat.le_refl _)] at this, HE.out⟩
    obtain ⟨R, hR⟩ : ∃ R, runsV (ms.take k) = R := ⟨_, rfl⟩
    have hRB : Bnd L R := by rw [← hR]; exact runs_bnd _ [] (fun x hx => HBN.out x (List.mem_of_mem_take hx)) (by intro x hx; cases hx)
    have hRl : R.length ≤ k := by rw [← hR]; have := runs_len (ms.take k) []; rw [List.length_take] at this; simp only [List.length_nil] at this; unfold runsV; omega
    rw [hR] at HO
    obtain ⟨ba, oa, ⟨x, y, l⟩, rfl, hba, hm, hwf, c0, c1, c2⟩ := (HA.out.ext HE.out).get hlt
    have hsn := runs_step hR hm
    obtain ⟨⟨b1, b2⟩, ⟨b3, b4⟩, b5⟩ := HBN.out _ (List.mem_of_getElem? hm)
    dsimp only at c0 c1 c2 b1 b2 b3 b4 b5
    have HSN := Lib.hid hsn; have HRB := Lib.hid hRB; clear hsn hm hwf hR hRB
    by_cases hl1 : l < 1
    · have q1 : decide (l < 1) = true := yd hl1
      have hz := HSN.out
      rw [keepV_zero (by exact hl1)] at hz
      have HZ := Lib.hid hz; clear hz
      obtain ⟨A1, k1, rfl, -, -⟩ := ownM_mts HO.out (HRB.out.wf (by omega))
      go_wp2_with fail
      go_roundw
      case rel => exact ⟨k + 1, by omega, by go_num, by rw [HZ.out]; exact HO.out, HE.out⟩
      case measure => simp [intOf]; omega
    have q1 : decide (l < 1) = false := nd hl1
    rcases snoc_or R with rfl | ⟨r, ⟨p, q, z⟩, rfl⟩
    · obtain ⟨A1, k1, rfl, -, -⟩ := ownM_mts HO.out (by simp)
      have how0 : wr.ownsRow w.heap.size 32 3 (.slice A1 0 k1) 0 [] := HO.out
      have HOW := Lib.hid how0; clear how0
      have hz := HSN.out
      rw [keepV_nil (by exact hl1)] at hz
      have HZ := Lib.hid hz; clear hz
      go_wp2_with fail
      go_quiet (fail)
      go_wp2_with (at_builtin; refine wpList_append_size2 rfl (.tmp 82) (.tmp 87) 25 rfl w.heap.size 32 inf _ 3 24 underM' I1.out I2.out I3.out I4.out rfl (by decide) _ 0 _ (some ⟨(wr.drewN nq).heap.size, 0, none⟩) 1 1 (Mt.cells ⟨x, y, l⟩) rfl (by simp [Act.eval]) rfl (by simp [Mt.cells, Value.oneCell']) (by simp only [maxLen]; omega) (by omega) (own_stab3 (((Ext.refl wr).drewN nq).alloc _) HOW.out) (Cells.new (wr.drewN nq) _ _ rfl) (by have := HE.out.size; simp; omega) ?_; intro v' w5 hown hg hbk)
      go_roundw
      case rel =>
        have hx : Ext wr ((wr.drewN nq).alloc (.cells (Mt.cells ⟨x, y, l⟩).toArray 32)) := ((Ext.refl wr).drewN nq).alloc _
        refine ⟨k + 1, by omega, by go_num, ?_, (HE.out.trans hx).own3 (own_stab3 hx HOW.out) hg⟩
        rw [HZ.out]
        simpa using hown
      case measure => simp [intOf]; omega
    · have hown := HO.out
      have hbz := HRB.out ⟨p, q, z⟩ (by simp)
      dsimp only at hbz
      obtain ⟨⟨z1, z2⟩, ⟨z3, z4⟩, z5⟩ := hbz
      rw [List.length_append] at hRl hown
      simp only [List.length_singleton] at hRl hown
      obtain ⟨g1, k1, rfl⟩ := ownsRow_succ hown
      obtain ⟨A1, k2, hv, -, hM⟩ := ownM_mts hown (HRB.out.wf (by omega))
      cases hv
      obtain ⟨bb, ob, mt, hA1, hbb, hmt, -, d0, d1, d2⟩ := hM.get (k := r.length) (by omega)
      cases hA1
      rw [List.getElem?_append_right (Nat.le_refl _), Nat.sub_self] at hmt
      simp only [List.getElem?_cons_zero, Option.some.injEq] at hmt
      subst hmt
      simp only [Nat.zero_add] at d0 d1 d2
      have hfz := hown.frozenAt (r.length * 3 + 2)
      have HOW := Lib.hid hown; clear hown hM HO
      have e1 : IntKind.i64.wrap (p + z) = p + z := wrap_in (by omega) (by omega)
      have e2 : IntKind.i64.wrap (q + z) = q + z := wrap_in (by omega) (by omega)
      have e3 : IntKind.i64.wrap (z + l) = z + l := wrap_in (by omega) (by omega)
      have r1 : r.length < r.length + 1 := by omega
      by_cases ha1 : p + z = x
      case neg =>
        have q2 : (p + z == x) = false := by simp [ha1]
        have HNA := Lib.hid ha1; clear ha1
        have hz := HSN.out
        rw [keepV_new (by exact hl1) (fun h => HNA.out h.1)] at hz
        have HZ := Lib.hid hz; clear hz
        go_wp2_with fail
        go_quiet (fail)
        go_wp2_with (at_builtin; refine wpList_append_size2 rfl (.tmp 82) (.tmp 87) 25 rfl w.heap.size 32 inf _ 3 24 underM' I1.out I2.out I3.out I4.out rfl (by decide) _ (r.length + 1) _ (some ⟨(wr.drewN nq).heap.size, 0, none⟩) 1 1 (Mt.cells ⟨x, y, l⟩) rfl (by simp [Act.eval]) rfl (by simp [Mt.cells, Value.oneCell']) (by simp only [maxLen]; omega) (by omega) (own_stab3 (((Ext.refl wr).drewN nq).alloc _) HOW.out) (Cells.new (wr.drewN nq) _ _ rfl) (by have := HE.out.size; simp; omega) ?_; intro v' w5 hown hg hbk)
        go_roundw
        case rel =>
          have hx : Ext wr ((wr.drewN nq).alloc (.cells (Mt.cells ⟨x, y, l⟩).toArray 32)) := ((Ext.refl wr).drewN nq).alloc _
          refine ⟨k + 1, by omega, by go_num, ?_, (HE.out.trans hx).own3 (own_stab3 hx HOW.out) hg⟩
          rw [HZ.out, List.length_append, List.flatMap_append]
          simpa using hown
        case measure => simp [intOf]; omega
      by_cases ha2 : q + z = y
      case neg =>
        have q2 : (p + z == x) = true := by simp [ha1]
        have q3 : (q + z == y) = false := by simp [ha2]
        have HNA := Lib.hid ha2; clear ha1 ha2
        have hz := HSN.out
        rw [keepV_new (by exact hl1) (fun h => HNA.out h.2)] at hz
        have HZ := Lib.hid hz; clear hz
        go_wp2_with fail
        go_quiet (fail)
        go_wp2_with (at_builtin; refine wpList_append_size2 rfl (.tmp 82) (.tmp 87) 25 rfl w.heap.size 32 inf _ 3 24 underM' I1.out I2.out I3.out I4.out rfl (by decide) _ (r.length + 1) _ (some ⟨(wr.drewN nq).heap.size, 0, none⟩) 1 1 (Mt.cells ⟨x, y, l⟩) rfl (by simp [Act.eval]) rfl (by simp [Mt.cells, Value.oneCell']) (by simp only [maxLen]; omega) (by omega) (own_stab3 (((Ext.refl wr).drewN nq).alloc _) HOW.out) (Cells.new (wr.drewN nq) _ _ rfl) (by have := HE.out.size; simp; omega) ?_; intro v' w5 hown hg hbk)
        go_roundw
        case rel =>
          have hx : Ext wr ((wr.drewN nq).alloc (.cells (Mt.cells ⟨x, y, l⟩).toArray 32)) := ((Ext.refl wr).drewN nq).alloc _
          refine ⟨k + 1, by omega, by go_num, ?_, (HE.out.trans hx).own3 (own_stab3 hx HOW.out) hg⟩
          rw [HZ.out, List.length_append, List.flatMap_append]
          simpa using hown
        case measure => simp [intOf]; omega
      have q2 : (p + z == x) = true := by simp [ha1]
      have q3 : (q + z == y) = true := by simp [ha2]
      have hz := HSN.out
      rw [keepV_join (by exact hl1) ha1 ha2] at hz
      have HZ := Lib.hid hz; clear hz ha1 ha2
      go_wp2_with fail
      go_quiet (fail)
      go_wp2_with fail
      go_region
      go_wp2_with fail
      go_roundw
      case rel =>
        have hst := ((own_stab3 ((Ext.refl wr).drewN (nq + 1)) HOW.out).stored (r.length * 3 + 2) (.int .i64 (z + l))).1
        rw [flat_set r ⟨p, q, z⟩ (z + l)] at hst
        refine ⟨k + 1, by omega, by go_num, ?_, (HE.out.drewN _).setCell (by have := (HOW.out.lt g1 rfl).1; simpa using this) _⟩
        rw [HZ.out, List.length_append]
        simpa using hst
      case measure => simp [intOf]; omega
end Go.Proofs.Ytmmhbnlafcmloaa

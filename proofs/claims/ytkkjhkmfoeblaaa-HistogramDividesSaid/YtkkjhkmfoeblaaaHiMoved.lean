/- Contract of the reference: moved. -/
import Derived.Test.YtkkjhkmfoeblaaaHiDefs
import Derived.Test.YtkkjhkmfoeblaaaHiApp
namespace Go.Proofs.Ytkkjhkmfoeblaaa
open Go.RowKit

theorem mts_take {w : World} {A : Option Addr} {n : Nat} {ms : List Mt} (h : Mts w A n ms) : ms.length = n := h.1
theorem by_take {ms : List Mt} {k : Nat} {m : Mt} (x y : Int) (h : ms[k]? = some m) : (ms.take (k + 1)).map (fun m => m.by x y) = (ms.take k).map (fun m => m.by x y) ++ [m.by x y] := by
  rw [take_succ_of h, List.map_append]; rfl

/-- Matches that are small. -/
def Small (ms : List Mt) : Prop := ∀ m ∈ ms, (0 ≤ m.a ∧ m.a ≤ 10000) ∧ (0 ≤ m.b ∧ m.b ≤ 10000) ∧ (0 ≤ m.n ∧ m.n ≤ 10000)

set_option maxRecDepth 100000 in
set_option maxHeartbeats 8000000 in
theorem moved_any (A : Option Addr) (n c : Nat) (ms : List Mt) (x y : Nat) (w : World) (ha : Mts w A n ms) (hs : Small ms) (hn : n ≤ 1000) (hx : x ≤ 10000) (hy : y ≤ 10000) :
    Calls Try.prog 30 #[.slice A n c, .int .i64 x, .int .i64 y] w fun e w' => ∃ v, e = .returned v ∧ w'.ownsRow w.heap.size 26 3 v n ((ms.map (fun m => m.by x y)).flatMap Mt.cells) ∧ Ext w w' := by
  obtain rfl : ms.length = n := ha.1
  have HA := Lib.hid ha; have HSM := Lib.hid hs; clear ha hs
  obtain ⟨inf, i1, i2, i3, i4⟩ := info_of infoM
  have I1 := Lib.hid i1; have I2 := Lib.hid i2; have I3 := Lib.hid i3; have I4 := Lib.hid i4; clear i1 i2 i3 i4
  go_enter Try.func30, Try.ntmps30
  go_wp2_with fail
  obtain ⟨w2, hw2⟩ : ∃ w2, w2 = w.alloc (.cells #[] 26) := ⟨_, rfl⟩
  have hE2 : Ext w w2 := by rw [hw2]; exact (Ext.refl w).alloc _
  have hO2 : w2.ownsRow w.heap.size 26 3 (.slice (some ⟨w.heap.size, 0, none⟩) 0 0) 0 [] := by
    rw [hw2]; exact ⟨rfl, .inr ⟨w.heap.size, 0, #[], rfl, Nat.le_refl _, heap_alloc_new w _, Nat.le_refl _, by simp [maxLen], rfl, rfl⟩⟩
  rw [← hw2]
  have HE2 := Lib.hid hE2; have HO2 := Lib.hid hO2; clear hw2 hE2 hO2
  go_loopw [7, 8] (fun v7 v8 wr => ∃ k : Nat, k ≤ ms.length ∧ v8 = .int .i64 k ∧ wr.ownsRow w.heap.size 26 3 v7 k (((ms.take k).map (fun m => m.by x y)).flatMap Mt.cells) ∧ Ext w wr) (fun _ v8 _ => ms.length - (intOf v8).toNat)
  case atStart => exact ⟨0, Nat.zero_le _, rfl, HO2.out, HE2.out⟩
  case round =>
    obtain ⟨k, hk, rfl, ho, hE⟩ := hrel
    have HO := Lib.hid ho; have HE := Lib.hid hE; clear ho hE
    by_cases hlt : k < ms.length
    case neg =>
      obtain rfl : k = ms.length := by omega
      go_wp2_with fail
      go_ret
      exact ⟨_, rfl, by have := HO.out; rwa [List.take_of_length_le (Nat.le_refl _)] at this, HE.out⟩
    obtain ⟨ba, oa, ⟨p, q, l⟩, rfl, hba, hm, hwf, c1, c2, c3⟩ := HA.out.get hlt
    obtain ⟨⟨p1, p2⟩, ⟨q1, q2⟩, ⟨l1, l2⟩⟩ := HSM.out _ (List.mem_of_getElem? hm)
    have hbt := by_take (x : Int) (y : Int) hm
    dsimp only at c1 c2 c3 p1 p2 q1 q2 l1 l2
    have C1 := Lib.hid c1; have C2 := Lib.hid c2; have C3 := Lib.hid c3; have HBT := Lib.hid hbt
    clear c1 c2 c3 hbt hm hwf
    have e1 : IntKind.i64.wrap (p + x) = p + x := wrap_in (by omega) (by omega)
    have e2 : IntKind.i64.wrap (q + y) = q + y := wrap_in (by omega) (by omega)
    go_wp2_with fail
    have hO3 := own_stab3 (Ext.refl wr).drew HO.out
    refine wp_region_X (T := fun wx => Ext w wx) (fun wx => Ext w wx ∧ wx.ownsRow w.heap.size 26 3 u7 k (((ms.take k).map (fun m => m.by x y)).flatMap Mt.cells)) (by kernel_rfl) ⟨HE.out.drew, hO3⟩ (wpX_takes (by kernel_rfl) (fun _ d _ _ _ h => by cases d <;> exact h) ((Stab.ext _).and (fun _ _ e h => own_stab3 e h)) (fun _ h => h.1) (fuel := 3) [0,1,2,3,4,5,6,7,8,9,10,11,12,13,14,15,16,17,18,19,20] _ _ (by kernel_rfl) ?_)
    iterate 21
      refine wpTk_want rfl (Eq.refl true) ?_
      apply Exists.intro
      refine ⟨fun wx hx => ?_, ?_⟩
      · have d1 := hx.cell C1.out; have d2 := hx.cell C2.out; have d3 := hx.cell C3.out
        clear hx
        go_simp
        with_reducible exact gives_ok _ _ _
      simp only [Act.put, List.setIfInBounds_toArray, List.set_cons_zero, List.set_cons_succ]
    refine wpTk_nil ?_
    refine wpX_push 21 22 (by kernel_rfl) rfl rfl (by kernel_rfl) rfl rfl (.tmp 16) (.tmp 37) 31 rfl w.heap.size 26 inf _ 3 24 underM I1.out I2.out I3.out I4.out rfl (by decide) u7 k (((ms.take k).map (fun m => m.by x y)).flatMap Mt.cells) (Mt.cells ⟨p + x, q + y, l⟩)
      (fun wz => by go_simp; rfl) (fun g => by simp [Act.eval, Act.put]) (fun g => by simp [Act.eval, Act.put]) rfl (by simp [Mt.cells, Value.oneCell']) (by simp only [maxLen]; omega) (by omega) ((Stab.ext _).and (fun _ _ e h => own_stab3 e h)) (fun _ h => h.1) (fun _ h => ⟨h.2, h.1.size⟩) (fun g wx hx v1 wy hown hg => ?_)
    refine ⟨fun wz => Ext w wz ∧ wz.ownsRow w.heap.size 26 3 v1 (k + 1) (((ms.take k).map (fun m => m.by x y)).flatMap Mt.cells ++ Mt.cells ⟨p + x, q + y, l⟩), (Stab.ext _).and (fun _ _ e h => own_stab3 e h), fun _ h => h.1, ⟨hx.1.own3 hx.2 hg, hown⟩, ?_⟩
    clear hx hown hg
    simp only [Act.put, List.setIfInBounds_toArray, List.set_cons_zero, List.set_cons_succ]
    refine wpX_one 23 (by kernel_rfl) rfl rfl (fun wz hz K hK => ?_)
    go_simp
    refine hK _ _ ⟨fun wz => Ext w wz ∧ wz.ownsRow w.heap.size 26 3 v1 (k + 1) (((ms.take k).map (fun m => m.by x y)).flatMap Mt.cells ++ Mt.cells ⟨p + x, q + y, l⟩), (Stab.ext _).and (fun _ _ e h => own_stab3 e h), fun _ h => h.1, hz, ?_⟩
    clear hK K hz wz
    refine wpX_done (by kernel_rfl) (fun wz hz => ?_) _
    have HZ := Lib.hid hz; clear hz
    go_wp2_with fail
    go_roundw
    case rel =>
      refine ⟨k + 1, by omega, by go_num, ?_, HZ.out.1⟩
      rw [HBT.out, List.flatMap_append]
      simpa [Mt.by] using HZ.out.2
    case measure => simp [intOf]; omega
end Go.Proofs.Ytkkjhkmfoeblaaa

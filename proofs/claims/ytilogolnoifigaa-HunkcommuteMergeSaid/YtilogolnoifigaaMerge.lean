/- Contracts of hunkcommute.Merge (printed by genmerge.py out of those of Commute). -/
import Derived.Test.YtilogolnoifigaaPlain
namespace Go.Proofs.Ytilogolnoifigaa
open Go.RowKit

/-- What Merge gives. -/
def mergeV (a b : Hk) : Option (Hk × Hk) :=
  if a.ok = false ∨ b.ok = false then none
  else if a.at_ + a.ol < b.at_ then (if b.at_ + ((a.nl : Int) - a.ol) ≤ 1099511627776 then some ({ b with at_ := b.at_ + ((a.nl : Int) - a.ol) }, a) else none)
  else if b.at_ + b.ol < a.at_ then (if a.at_ + ((b.nl : Int) - b.ol) ≤ 1099511627776 then some (b, { a with at_ := a.at_ + ((b.nl : Int) - b.ol) }) else none)
  else none

set_option maxHeartbeats 1000000 in
theorem merge_no1 (a b : Hk) (w : World) (ha : a.small) (hok' : a.ok = false) :
    Calls Try.prog 16 #[a.val, b.val] w fun e w' => e = .returned (resV none) ∧ Ext w w' := by
  have HA := Lib.hid ha; clear ha
  go_enter Try.func16, Try.ntmps16
  go_wp2_with fail
  refine (valid_any a _ HA.out).mono ?_
  rintro e w1 ⟨rfl, hE⟩
  have HV := Lib.hid ((V4.start w a b).ext hE); clear hE
  go_wp2_with fail
  refine (both_no Hk.zero Hk.zero _).mono ?_
  rintro e w2 ⟨rfl, hE2⟩
  have HV2 := Lib.hid (HV.out.ext hE2); clear hE2
  obtain ⟨c20, c21, c22⟩ := HV2.out.2.2.2.1.cells3
  obtain ⟨c30, c31, c32⟩ := HV2.out.2.2.2.2.cells3
  obtain ⟨f20, f21, f22⟩ := HV2.out.2.2.2.1.free3
  obtain ⟨f30, f31, f32⟩ := HV2.out.2.2.2.2.free3
  go_wp2_with fail
  exact bodyPost_ret (v := resV none) (by simp [resV, results, Try.results16, go_sem, Hk.zero, c20, c21, c22, c30, c31, c32]) rfl ⟨rfl, (HV2.out.1.set3 (by omega) _ _ _).set3 (by omega) _ _ _⟩


set_option maxHeartbeats 1000000 in
theorem merge_no2 (a b : Hk) (w : World) (ha : a.small) (hb : b.small) (hok : a.ok = true) (hok' : b.ok = false) :
    Calls Try.prog 16 #[a.val, b.val] w fun e w' => e = .returned (resV none) ∧ Ext w w' := by
  have HA := Lib.hid ha; have HB := Lib.hid hb; clear ha hb
  go_enter Try.func16, Try.ntmps16
  go_wp2_with fail
  refine (valid_any a _ HA.out).mono ?_
  rintro e w1 ⟨rfl, hE⟩
  have HV := Lib.hid ((V4.start w a b).ext hE); clear hE
  obtain ⟨c10, c11, c12⟩ := HV.out.2.2.1.cells3
  go_wp2_with fail
  refine (valid_any b _ HB.out).mono ?_
  rintro e w2 ⟨rfl, hE2⟩
  have HV2 := Lib.hid (HV.out.ext hE2); clear hE2 c10 c11 c12
  go_wp2_with fail
  refine (both_no Hk.zero Hk.zero _).mono ?_
  rintro e w3 ⟨rfl, hE3⟩
  have HV3 := Lib.hid (HV2.out.ext hE3); clear hE3
  obtain ⟨c20, c21, c22⟩ := HV3.out.2.2.2.1.cells3
  obtain ⟨c30, c31, c32⟩ := HV3.out.2.2.2.2.cells3
  obtain ⟨f20, f21, f22⟩ := HV3.out.2.2.2.1.free3
  obtain ⟨f30, f31, f32⟩ := HV3.out.2.2.2.2.free3
  go_wp2_with fail
  exact bodyPost_ret (v := resV none) (by simp [resV, results, Try.results16, go_sem, Hk.zero, c20, c21, c22, c30, c31, c32]) rfl ⟨rfl, (HV3.out.1.set3 (by omega) _ _ _).set3 (by omega) _ _ _⟩


set_option maxHeartbeats 1000000 in
theorem merge_A (a b : Hk) (ok : Bool) (w : World) (ha : a.small) (hb : b.small) (hoka : a.ok = true) (hokb : b.ok = true) (hlt : a.at_ + a.ol < b.at_) (hok : decide (b.at_ + ((a.nl : Int) - a.ol) ≤ 1099511627776) = ok) :
    Calls Try.prog 16 #[a.val, b.val] w fun e w' => e = .returned (resV (if ok then some ({ b with at_ := b.at_ + ((a.nl : Int) - a.ol) }, a) else none)) ∧ Ext w w' := by
  have HA := Lib.hid ha; have HB := Lib.hid hb
  obtain ⟨ha1, ha2⟩ := ha; obtain ⟨hb1, hb2⟩ := hb
  unfold Reach at ha1 ha2 hb1 hb2
  obtain ⟨ha3, ha4⟩ := ok_bounds hoka; obtain ⟨hb3, hb4⟩ := ok_bounds hokb
  have HOK := Lib.hid hok; clear hok
  go_enter Try.func16, Try.ntmps16
  go_wp2_with fail
  refine (valid_any a _ HA.out).mono ?_
  rintro e w1 ⟨rfl, hE⟩
  have HV := Lib.hid ((V4.start w a b).ext hE); clear hE
  obtain ⟨c10, c11, c12⟩ := HV.out.2.2.1.cells3
  go_wp2_with fail
  refine (valid_any b _ HB.out).mono ?_
  rintro e w2 ⟨rfl, hE2⟩
  have HV2 := Lib.hid (HV.out.ext hE2); clear hE2 c10 c11 c12
  obtain ⟨c00, c01, c02⟩ := HV2.out.2.1.cells3
  obtain ⟨c10, c11, c12⟩ := HV2.out.2.2.1.cells3
  go_wp2_with fail
  clear c00 c01 c02 c10 c11 c12
  refine wp_region_X (T := V4 w a b) (V4 w a b) (by kernel_rfl) HV2.out.drew (wpX_takes (by kernel_rfl) (fun _ d _ _ _ h => by cases d <;> exact h) (V4.stab w a b) (fun _ h => h) (fuel := 3) [0,1,2,3,4,5,6] _ _ (by kernel_rfl) ?_)
  iterate 7
    refine wpTk_want rfl (Eq.refl true) ?_
    apply Exists.intro
    refine ⟨fun wx hx => ?_, ?_⟩
    · obtain ⟨d00, d01, d02⟩ := hx.2.1.cells3
      obtain ⟨d10, d11, d12⟩ := hx.2.2.1.cells3
      clear hx
      go_simp
      first | with_reducible exact gives_ok _ _ _ | exact gives_call _ _ _ (growth_any a _ HA.out) | exact gives_call _ _ _ (shifted_any b _ ok _ hb3 hb4 (by omega) (by omega) HOK.out)
    simp only [Act.put, List.setIfInBounds_toArray, List.set_cons_zero, List.set_cons_succ]
  refine wpTk_nil ?_
  refine wpX_one 7 (by kernel_rfl) rfl rfl (fun wx hx K hK => ?_)
  go_simp
  refine hK _ _ ⟨fun wy => V4 w a b wy ∧ Blk wy wx.heap.size zeroObj, (V4.stab w a b).and (Stab.blk _ _), fun _ h => h.1, ⟨hx.alloc _, Blk.new _ _ rfl⟩, ?_⟩
  clear hK K
  refine wpX_one 8 (by kernel_rfl) rfl rfl (fun wy hy K hK => ?_)
  have HY := Lib.hid hy; clear hy
  obtain ⟨d70, d71, d72⟩ := HY.out.2.cells3
  obtain ⟨e70, e71, e72⟩ := HY.out.2.free3
  go_simp
  refine hK _ _ ⟨fun wz => V4 w a b wz ∧ Blk wz wx.heap.size (({ b with at_ := b.at_ + ((a.nl : Int) - a.ol) } : Hk).obj), (V4.stab w a b).and (Stab.blk _ _), fun _ h => h.1, ⟨HY.out.1.set3 hx.lt _ _ _, HY.out.2.set3⟩, ?_⟩
  clear hK K d70 d71 d72 e70 e71 e72 HY
  refine wpX_one 9 (by kernel_rfl) rfl rfl (fun wz hz K hK => ?_)
  go_simp
  refine hK _ _ ⟨fun wz => V4 w a b wz ∧ Blk wz wx.heap.size (({ b with at_ := b.at_ + ((a.nl : Int) - a.ol) } : Hk).obj), (V4.stab w a b).and (Stab.blk _ _), fun _ h => h.1, hz, ?_⟩
  clear hK K hz
  refine wpX_done (by kernel_rfl) (fun wz hz => ?_) _
  obtain ⟨hz, hz7⟩ := hz
  have HZ := Lib.hid hz; have HZ7 := Lib.hid hz7; clear hz hz7
  obtain ⟨d00, d01, d02⟩ := HZ.out.2.1.cells3
  obtain ⟨d70, d71, d72⟩ := HZ7.out.cells3
  go_wp2_with fail
  clear d00 d01 d02 d70 d71 d72
  cases ok
  · refine (both_no ({ b with at_ := b.at_ + ((a.nl : Int) - a.ol) } : Hk) a _).mono ?_
    rintro e w3 ⟨rfl, hE3⟩
    have HV3 := Lib.hid (HZ.out.ext hE3); clear hE3
    obtain ⟨c20, c21, c22⟩ := HV3.out.2.2.2.1.cells3
    obtain ⟨c30, c31, c32⟩ := HV3.out.2.2.2.2.cells3
    obtain ⟨f20, f21, f22⟩ := HV3.out.2.2.2.1.free3
    obtain ⟨f30, f31, f32⟩ := HV3.out.2.2.2.2.free3
    go_wp2_with fail
    exact bodyPost_ret (v := resV none) (by simp [resV, results, Try.results16, go_sem, Hk.zero, c20, c21, c22, c30, c31, c32]) rfl ⟨rfl, (HV3.out.1.set3 (by omega) _ _ _).set3 (by omega) _ _ _⟩
  · refine (both_yes ({ b with at_ := b.at_ + ((a.nl : Int) - a.ol) } : Hk) a _).mono ?_
    rintro e w3 ⟨rfl, hE3⟩
    have HV3 := Lib.hid (HZ.out.ext hE3); clear hE3
    obtain ⟨c20, c21, c22⟩ := HV3.out.2.2.2.1.cells3
    obtain ⟨c30, c31, c32⟩ := HV3.out.2.2.2.2.cells3
    obtain ⟨f20, f21, f22⟩ := HV3.out.2.2.2.1.free3
    obtain ⟨f30, f31, f32⟩ := HV3.out.2.2.2.2.free3
    go_wp2_with fail
    exact bodyPost_ret (v := resV (some ({ b with at_ := b.at_ + ((a.nl : Int) - a.ol) }, a))) (by simp [resV, results, Try.results16, go_sem, c20, c21, c22, c30, c31, c32]) rfl ⟨rfl, (HV3.out.1.set3 (by omega) _ _ _).set3 (by omega) _ _ _⟩

set_option maxHeartbeats 1000000 in
theorem merge_B (a b : Hk) (ok : Bool) (w : World) (ha : a.small) (hb : b.small) (hoka : a.ok = true) (hokb : b.ok = true) (hge : ¬ a.at_ + a.ol < b.at_) (hlt : b.at_ + b.ol < a.at_) (hok : decide (a.at_ + ((b.nl : Int) - b.ol) ≤ 1099511627776) = ok) :
    Calls Try.prog 16 #[a.val, b.val] w fun e w' => e = .returned (resV (if ok then some (b, { a with at_ := a.at_ + ((b.nl : Int) - b.ol) }) else none)) ∧ Ext w w' := by
  have HA := Lib.hid ha; have HB := Lib.hid hb
  obtain ⟨ha1, ha2⟩ := ha; obtain ⟨hb1, hb2⟩ := hb
  unfold Reach at ha1 ha2 hb1 hb2
  obtain ⟨ha3, ha4⟩ := ok_bounds hoka; obtain ⟨hb3, hb4⟩ := ok_bounds hokb
  have HOK := Lib.hid hok; clear hok
  go_enter Try.func16, Try.ntmps16
  go_wp2_with fail
  refine (valid_any a _ HA.out).mono ?_
  rintro e w1 ⟨rfl, hE⟩
  have HV := Lib.hid ((V4.start w a b).ext hE); clear hE
  obtain ⟨c10, c11, c12⟩ := HV.out.2.2.1.cells3
  go_wp2_with fail
  refine (valid_any b _ HB.out).mono ?_
  rintro e w2 ⟨rfl, hE2⟩
  have HV2 := Lib.hid (HV.out.ext hE2); clear hE2 c10 c11 c12
  obtain ⟨c00, c01, c02⟩ := HV2.out.2.1.cells3
  obtain ⟨c10, c11, c12⟩ := HV2.out.2.2.1.cells3
  go_wp2_with fail
  clear c00 c01 c02 c10 c11 c12
  refine wp_region_X (T := V4 w a b) (V4 w a b) (by kernel_rfl) HV2.out.drew (wpX_takes (by kernel_rfl) (fun _ d _ _ _ h => by cases d <;> exact h) (V4.stab w a b) (fun _ h => h) (fuel := 3) [0,1,2,3,4,5,6] _ _ (by kernel_rfl) ?_)
  iterate 7
    refine wpTk_want rfl (Eq.refl true) ?_
    apply Exists.intro
    refine ⟨fun wx hx => ?_, ?_⟩
    · obtain ⟨d00, d01, d02⟩ := hx.2.1.cells3
      obtain ⟨d10, d11, d12⟩ := hx.2.2.1.cells3
      clear hx
      go_simp
      first | with_reducible exact gives_ok _ _ _ | exact gives_call _ _ _ (growth_any b _ HB.out) | exact gives_call _ _ _ (shifted_any a _ ok _ ha3 ha4 (by omega) (by omega) HOK.out)
    simp only [Act.put, List.setIfInBounds_toArray, List.set_cons_zero, List.set_cons_succ]
  refine wpTk_nil ?_
  refine wpX_one 7 (by kernel_rfl) rfl rfl (fun wx hx K hK => ?_)
  go_simp
  refine hK _ _ ⟨fun wy => V4 w a b wy ∧ Blk wy wx.heap.size zeroObj, (V4.stab w a b).and (Stab.blk _ _), fun _ h => h.1, ⟨hx.alloc _, Blk.new _ _ rfl⟩, ?_⟩
  clear hK K
  refine wpX_one 8 (by kernel_rfl) rfl rfl (fun wy hy K hK => ?_)
  have HY := Lib.hid hy; clear hy
  obtain ⟨d70, d71, d72⟩ := HY.out.2.cells3
  obtain ⟨e70, e71, e72⟩ := HY.out.2.free3
  go_simp
  refine hK _ _ ⟨fun wz => V4 w a b wz ∧ Blk wz wx.heap.size (({ a with at_ := a.at_ + ((b.nl : Int) - b.ol) } : Hk).obj), (V4.stab w a b).and (Stab.blk _ _), fun _ h => h.1, ⟨HY.out.1.set3 hx.lt _ _ _, HY.out.2.set3⟩, ?_⟩
  clear hK K d70 d71 d72 e70 e71 e72 HY
  refine wpX_one 9 (by kernel_rfl) rfl rfl (fun wz hz K hK => ?_)
  go_simp
  refine hK _ _ ⟨fun wz => V4 w a b wz ∧ Blk wz wx.heap.size (({ a with at_ := a.at_ + ((b.nl : Int) - b.ol) } : Hk).obj), (V4.stab w a b).and (Stab.blk _ _), fun _ h => h.1, hz, ?_⟩
  clear hK K hz
  refine wpX_done (by kernel_rfl) (fun wz hz => ?_) _
  obtain ⟨hz, hz7⟩ := hz
  have HZ := Lib.hid hz; have HZ7 := Lib.hid hz7; clear hz hz7
  obtain ⟨d00, d01, d02⟩ := HZ.out.2.2.1.cells3
  obtain ⟨d70, d71, d72⟩ := HZ7.out.cells3
  go_wp2_with fail
  clear d00 d01 d02 d70 d71 d72
  cases ok
  · refine (both_no b ({ a with at_ := a.at_ + ((b.nl : Int) - b.ol) } : Hk) _).mono ?_
    rintro e w3 ⟨rfl, hE3⟩
    have HV3 := Lib.hid (HZ.out.ext hE3); clear hE3
    obtain ⟨c20, c21, c22⟩ := HV3.out.2.2.2.1.cells3
    obtain ⟨c30, c31, c32⟩ := HV3.out.2.2.2.2.cells3
    obtain ⟨f20, f21, f22⟩ := HV3.out.2.2.2.1.free3
    obtain ⟨f30, f31, f32⟩ := HV3.out.2.2.2.2.free3
    go_wp2_with fail
    exact bodyPost_ret (v := resV none) (by simp [resV, results, Try.results16, go_sem, Hk.zero, c20, c21, c22, c30, c31, c32]) rfl ⟨rfl, (HV3.out.1.set3 (by omega) _ _ _).set3 (by omega) _ _ _⟩
  · refine (both_yes b ({ a with at_ := a.at_ + ((b.nl : Int) - b.ol) } : Hk) _).mono ?_
    rintro e w3 ⟨rfl, hE3⟩
    have HV3 := Lib.hid (HZ.out.ext hE3); clear hE3
    obtain ⟨c20, c21, c22⟩ := HV3.out.2.2.2.1.cells3
    obtain ⟨c30, c31, c32⟩ := HV3.out.2.2.2.2.cells3
    obtain ⟨f20, f21, f22⟩ := HV3.out.2.2.2.1.free3
    obtain ⟨f30, f31, f32⟩ := HV3.out.2.2.2.2.free3
    go_wp2_with fail
    exact bodyPost_ret (v := resV (some (b, { a with at_ := a.at_ + ((b.nl : Int) - b.ol) }))) (by simp [resV, results, Try.results16, go_sem, c20, c21, c22, c30, c31, c32]) rfl ⟨rfl, (HV3.out.1.set3 (by omega) _ _ _).set3 (by omega) _ _ _⟩

set_option maxHeartbeats 1000000 in
theorem merge_C (a b : Hk) (w : World) (ha : a.small) (hb : b.small) (hoka : a.ok = true) (hokb : b.ok = true) (hge : ¬ a.at_ + a.ol < b.at_) (hge' : ¬ b.at_ + b.ol < a.at_) :
    Calls Try.prog 16 #[a.val, b.val] w fun e w' => e = .returned (resV none) ∧ Ext w w' := by
  have HA := Lib.hid ha; have HB := Lib.hid hb
  obtain ⟨ha1, ha2⟩ := ha; obtain ⟨hb1, hb2⟩ := hb
  unfold Reach at ha1 ha2 hb1 hb2
  obtain ⟨ha3, ha4⟩ := ok_bounds hoka; obtain ⟨hb3, hb4⟩ := ok_bounds hokb
  go_enter Try.func16, Try.ntmps16
  go_wp2_with fail
  refine (valid_any a _ HA.out).mono ?_
  rintro e w1 ⟨rfl, hE⟩
  have HV := Lib.hid ((V4.start w a b).ext hE); clear hE
  obtain ⟨c10, c11, c12⟩ := HV.out.2.2.1.cells3
  go_wp2_with fail
  refine (valid_any b _ HB.out).mono ?_
  rintro e w2 ⟨rfl, hE2⟩
  have HV2 := Lib.hid (HV.out.ext hE2); clear hE2 c10 c11 c12
  obtain ⟨c00, c01, c02⟩ := HV2.out.2.1.cells3
  obtain ⟨c10, c11, c12⟩ := HV2.out.2.2.1.cells3
  go_wp2_with fail
  clear c00 c01 c02 c10 c11 c12
  refine (both_no Hk.zero Hk.zero _).mono ?_
  rintro e w3 ⟨rfl, hE3⟩
  have HV3 := Lib.hid (HV2.out.ext hE3); clear hE3
  obtain ⟨c20, c21, c22⟩ := HV3.out.2.2.2.1.cells3
  obtain ⟨c30, c31, c32⟩ := HV3.out.2.2.2.2.cells3
  obtain ⟨f20, f21, f22⟩ := HV3.out.2.2.2.1.free3
  obtain ⟨f30, f31, f32⟩ := HV3.out.2.2.2.2.free3
  go_wp2_with fail
  exact bodyPost_ret (v := resV none) (by simp [resV, results, Try.results16, go_sem, Hk.zero, c20, c21, c22, c30, c31, c32]) rfl ⟨rfl, (HV3.out.1.set3 (by omega) _ _ _).set3 (by omega) _ _ _⟩


theorem merge_any (a b : Hk) (w : World) (ha : a.small) (hb : b.small) :
    Calls Try.prog 16 #[a.val, b.val] w fun e w' => e = .returned (resV (mergeV a b)) ∧ Ext w w' := by
  by_cases h1 : a.ok = true
  case neg =>
    have h1' : a.ok = false := by simpa using h1
    rw [mergeV, if_pos (.inl h1')]
    exact merge_no1 a b w ha h1'
  by_cases h2 : b.ok = true
  case neg =>
    have h2' : b.ok = false := by simpa using h2
    rw [mergeV, if_pos (.inr h2')]
    exact merge_no2 a b w ha hb h1 h2'
  rw [mergeV, if_neg (by simp [h1, h2])]
  by_cases h3 : a.at_ + a.ol < b.at_
  · rw [if_pos h3]
    have := merge_A a b _ w ha hb h1 h2 h3 rfl
    simpa using this
  rw [if_neg h3]
  by_cases h4 : b.at_ + b.ol < a.at_
  · rw [if_pos h4]
    have := merge_B a b _ w ha hb h1 h2 h3 h4 rfl
    simpa using this
  rw [if_neg h4]
  exact merge_C a b w ha hb h1 h2 h3 h4


/-- Merge's three results. -/
def mergeT (a b : Hk) : Hk × Hk × Bool := match mergeV a b with
  | none => (Hk.zero, Hk.zero, false)
  | some (x, y) => (x, y, true)
theorem merge_is {a b x y : Hk} {ok : Bool} (h : mergeT a b = (x, y, ok)) (w : World) (ha : a.small) (hb : b.small) :
    Calls Try.prog 16 #[a.val, b.val] w fun e w' => e = .returned (.tuple #[x.val, y.val, .bool ok]) ∧ Ext w w' := by
  have := merge_any a b w ha hb
  unfold mergeT at h
  split at h
  · rename_i h'; cases h; rw [h'] at this; exact this
  · rename_i h'; cases h; rw [h'] at this; exact this
end Go.Proofs.Ytilogolnoifigaa

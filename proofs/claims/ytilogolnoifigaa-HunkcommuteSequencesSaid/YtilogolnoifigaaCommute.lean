/- Contracts: growth, shifted, both, valid, Commute, Merge, Invert. -/
import Derived.Test.YtilogolnoifigaaHunk
namespace Go.Proofs.Ytilogolnoifigaa
open Go.RowKit

set_option maxHeartbeats 400000 in
theorem growth_any (h : Hk) (w : World) (hs : h.small) :
    Calls Try.prog 28 #[h.val] w fun e w' => e = .returned (.int .i64 ((h.nl : Int) - h.ol)) ∧ Ext w w' := by
  obtain ⟨hs1, hs2⟩ := hs
  unfold Reach at hs1 hs2
  go_enter Try.func28, Try.ntmps28
  go_wp2
  go_ret
  exact ⟨rfl, (Ext.refl _).alloc _⟩

set_option maxHeartbeats 400000 in
theorem shifted_all (h : Hk) (by_ : Int) (w : World) (h0 : 0 ≤ h.at_) (h1 : h.at_ ≤ 1099511627776) (h2 : -1000000000000000 ≤ by_) (h3 : by_ ≤ 1000000000000000) :
    Calls Try.prog 27 #[h.val, .int .i64 by_] w fun e w' => e = .returned (.tuple #[({ h with at_ := h.at_ + by_ } : Hk).val, .bool (decide (h.at_ + by_ ≤ 1099511627776))]) ∧ Ext w w' := by
  go_enter Try.func27, Try.ntmps27
  go_wp2
  go_region
  go_wp2
  exact bodyPost_ret (v := .tuple #[({ h with at_ := h.at_ + by_ } : Hk).val, .bool (decide (h.at_ + by_ ≤ 1099511627776))]) (by simp [results, Try.results27, go_sem]) rfl ⟨rfl, (((Ext.refl _).alloc _).alloc _).drew⟩

theorem shifted_any (h : Hk) (by_ : Int) (ok : Bool) (w : World) (h0 : 0 ≤ h.at_) (h1 : h.at_ ≤ 1099511627776) (h2 : -1000000000000000 ≤ by_) (h3 : by_ ≤ 1000000000000000) (hok : decide (h.at_ + by_ ≤ 1099511627776) = ok) :
    Calls Try.prog 27 #[h.val, .int .i64 by_] w fun e w' => e = .returned (.tuple #[({ h with at_ := h.at_ + by_ } : Hk).val, .bool ok]) ∧ Ext w w' := by
  subst hok; exact shifted_all h by_ w h0 h1 h2 h3

/-- The zero hunk. -/
def Hk.zero : Hk := ⟨0, none, 0, 0, none, 0, 0⟩

set_option maxHeartbeats 400000 in
theorem both_yes (h k : Hk) (w : World) :
    Calls Try.prog 29 #[h.val, k.val, .bool true] w fun e w' => e = .returned (.tuple #[h.val, k.val, .bool true]) ∧ Ext w w' := by
  go_enter Try.func29, Try.ntmps29
  go_wp2
  go_region
  go_wp2
  exact bodyPost_ret (v := .tuple #[h.val, k.val, .bool true]) (by simp [results, Try.results29, go_sem]) rfl ⟨rfl, (((((Ext.refl _).alloc _).alloc _).alloc _).alloc _).drew⟩

set_option maxHeartbeats 400000 in
theorem both_no (h k : Hk) (w : World) :
    Calls Try.prog 29 #[h.val, k.val, .bool false] w fun e w' => e = .returned (.tuple #[Hk.zero.val, Hk.zero.val, .bool false]) ∧ Ext w w' := by
  go_enter Try.func29, Try.ntmps29
  go_wp2
  exact bodyPost_ret (v := .tuple #[Hk.zero.val, Hk.zero.val, .bool false]) (by simp [results, Try.results29, go_sem, Hk.zero]) rfl ⟨rfl, ((((Ext.refl _).alloc _).alloc _).alloc _).alloc _⟩

/-- A hunk that is valid by itself. -/
def Hk.ok (h : Hk) : Bool := decide (0 ≤ h.at_) && decide (h.at_ ≤ 1099511627776) && !(h.ol + h.nl == 0)

theorem hks_one (h : Hk) (hs : h.small) (W : World) {b : Nat} (hb : b = W.heap.size) {t : TypeId} : Hks (W.alloc (.cells #[.int .i64 h.at_, .slice h.oa h.ol h.oc, .slice h.na h.nl h.nc] t)) (some ⟨b, 0, none⟩) 1 [h] :=
  ⟨rfl, fun x hx => by obtain rfl : x = h := by simpa using hx
                       exact hs, Cells.new W t _ hb⟩
theorem ok_check (h : Hk) : h.ok = (checkFrom (-1) [h] == 0) := by
  unfold Hk.ok
  simp only [checkFrom]
  by_cases h1 : h.at_ < 0 ∨ 1099511627776 < h.at_
  · rw [if_pos h1]; rcases h1 with h1 | h1 <;> simp <;> omega
  · rw [if_neg h1]
    by_cases h2 : h.ol + h.nl = 0
    · rw [if_pos h2]; simp [h2]
    · rw [if_neg h2, if_neg (by omega)]; simp; omega

set_option maxHeartbeats 400000 in
theorem valid_any (h : Hk) (w : World) (hs : h.small) :
    Calls Try.prog 26 #[h.val] w fun e w' => e = .returned (.bool h.ok) ∧ Ext w w' := by
  have HS := Lib.hid hs; clear hs
  go_enter Try.func26, Try.ntmps26
  go_wp2_with fail
  refine (check_any _ 1 1 [h] _ (hks_one h HS.out _ (by simp)) (by decide)).mono ?_
  rintro e w' ⟨rfl, hE⟩
  go_wp2_with fail
  go_ret
  refine ⟨ret_bool (ok_check h).symm, ?_⟩
  exact (((Ext.refl w).alloc _).alloc _).trans hE

/-- What Commute gives. -/
def commuteV (a b : Hk) : Option (Hk × Hk) :=
  if a.ok = false ∨ b.ok = false then none
  else if a.at_ + a.nl < b.at_ then (if b.at_ + ((a.ol : Int) - a.nl) ≤ 1099511627776 then some ({ b with at_ := b.at_ + ((a.ol : Int) - a.nl) }, a) else none)
  else if b.at_ + b.ol < a.at_ then (if a.at_ + ((b.nl : Int) - b.ol) ≤ 1099511627776 then some (b, { a with at_ := a.at_ + ((b.nl : Int) - b.ol) }) else none)
  else none
def resV : Option (Hk × Hk) → Value
  | none => .tuple #[Hk.zero.val, Hk.zero.val, .bool false]
  | some (x, y) => .tuple #[x.val, y.val, .bool true]

theorem ok_bounds {h : Hk} (hk : h.ok = true) : 0 ≤ h.at_ ∧ h.at_ ≤ 1099511627776 := by
  unfold Hk.ok at hk
  simp at hk
  exact ⟨hk.1.1, hk.1.2⟩

abbrev Hk.obj (h : Hk) : Obj := .cells #[.int .i64 h.at_, .slice h.oa h.ol h.oc, .slice h.na h.nl h.nc] 24
abbrev zeroObj : Obj := .cells #[.int .i64 0, .slice none 0 0, .slice none 0 0] 24

/-- The world in which a function of two hunks with two hunks among its results begins. -/
abbrev W4 (w : World) (a b : Hk) : World := (((w.alloc a.obj).alloc b.obj).alloc zeroObj).alloc zeroObj
theorem W4.ext (w : World) (a b : Hk) : Ext w (W4 w a b) := ((((Ext.refl w).alloc _).alloc _).alloc _).alloc _

/-- What is known of the four first variables, in a later world. -/
def V4 (w : World) (a b : Hk) (wx : World) : Prop := Ext w wx ∧ Blk wx w.heap.size a.obj ∧ Blk wx (w.heap.size + 1) b.obj ∧ Blk wx (w.heap.size + 2) zeroObj ∧ Blk wx (w.heap.size + 3) zeroObj
theorem V4.start (w : World) (a b : Hk) : V4 w a b (W4 w a b) :=
  ⟨W4.ext w a b, (((Blk.new w _ rfl).alloc _).alloc _).alloc _, ((Blk.new (w.alloc _) _ (by simp)).alloc _).alloc _, (Blk.new ((w.alloc _).alloc _) _ (by simp)).alloc _, Blk.new (((w.alloc _).alloc _).alloc _) _ (by simp)⟩
theorem V4.ext {w : World} {a b : Hk} {wx wy : World} (h : V4 w a b wx) (e : Ext wx wy) : V4 w a b wy := ⟨h.1.trans e, h.2.1.ext e, h.2.2.1.ext e, h.2.2.2.1.ext e, h.2.2.2.2.ext e⟩
theorem V4.stab (w : World) (a b : Hk) : Stab (V4 w a b) := fun _ _ e h => h.ext e
theorem V4.drew {w : World} {a b : Hk} {wx : World} (h : V4 w a b wx) : V4 w a b wx.drew := h.ext (Ext.refl wx).drew
theorem V4.alloc {w : World} {a b : Hk} {wx : World} (h : V4 w a b wx) (o : Obj) : V4 w a b (wx.alloc o) := h.ext ((Ext.refl wx).alloc o)
theorem V4.lt {w : World} {a b : Hk} {wx : World} (h : V4 w a b wx) : w.heap.size + 3 < wx.heap.size := h.2.2.2.2.lt
theorem V4.set3 {w : World} {a b : Hk} {wx : World} (h : V4 w a b wx) {k : Nat} (hk : w.heap.size + 3 < k) (x y z : Value) : V4 w a b (((wx.setCell ⟨k, 0, none⟩ x).setCell ⟨k, 1, none⟩ y).setCell ⟨k, 2, none⟩ z) :=
  ⟨h.1.set3 (by omega) _ _ _, h.2.1.far3 (by omega) _ _ _, h.2.2.1.far3 (by omega) _ _ _, h.2.2.2.1.far3 (by omega) _ _ _, h.2.2.2.2.far3 (by omega) _ _ _⟩

set_option maxHeartbeats 1000000 in
/-- The way out at the end of Commute and Merge: nothing is possible. -/
theorem commute_no1 (a b : Hk) (w : World) (ha : a.small) (hok' : a.ok = false) :
    Calls Try.prog 12 #[a.val, b.val] w fun e w' => e = .returned (resV none) ∧ Ext w w' := by
  have HA := Lib.hid ha; clear ha
  go_enter Try.func12, Try.ntmps12
  go_wp2_with fail
  refine (valid_any a _ HA.out).mono ?_
  rintro e w1 ⟨rfl, hE⟩
  have HV := Lib.hid ((V4.start w a b).ext hE); clear hE
  go_wp2_with fail
  refine (both_no Hk.zero Hk.zero _).mono ?_
  rintro e w2 ⟨rfl, hE2⟩
  have HV2 := Lib.hid (HV.out.ext hE2); clear hE2
  obtain ⟨c20, c21, c22⟩ := HV2.out.2.2.2.1.cells3
  obtain ⟨c30, c31, c32⟩ := HV2.out.2.2.2.2.cells3
  obtain ⟨f20, f21, f22⟩ := HV2.out.2.2.2.1.free3
  obtain ⟨f30, f31, f32⟩ := HV2.out.2.2.2.2.free3
  go_wp2_with fail
  exact bodyPost_ret (v := resV none) (by simp [resV, results, Try.results12, go_sem, Hk.zero, c20, c21, c22, c30, c31, c32]) rfl ⟨rfl, (HV2.out.1.set3 (by omega) _ _ _).set3 (by omega) _ _ _⟩

set_option maxHeartbeats 1000000 in
theorem commute_no2 (a b : Hk) (w : World) (ha : a.small) (hb : b.small) (hok : a.ok = true) (hok' : b.ok = false) :
    Calls Try.prog 12 #[a.val, b.val] w fun e w' => e = .returned (resV none) ∧ Ext w w' := by
  have HA := Lib.hid ha; have HB := Lib.hid hb; clear ha hb
  go_enter Try.func12, Try.ntmps12
  go_wp2_with fail
  refine (valid_any a _ HA.out).mono ?_
  rintro e w1 ⟨rfl, hE⟩
  have HV := Lib.hid ((V4.start w a b).ext hE); clear hE
  obtain ⟨c10, c11, c12⟩ := HV.out.2.2.1.cells3
  go_wp2_with fail
  refine (valid_any b _ HB.out).mono ?_
  rintro e w2 ⟨rfl, hE2⟩
  have HV2 := Lib.hid (HV.out.ext hE2); clear hE2 c10 c11 c12
  go_wp2_with fail
  refine (both_no Hk.zero Hk.zero _).mono ?_
  rintro e w3 ⟨rfl, hE3⟩
  have HV3 := Lib.hid (HV2.out.ext hE3); clear hE3
  obtain ⟨c20, c21, c22⟩ := HV3.out.2.2.2.1.cells3
  obtain ⟨c30, c31, c32⟩ := HV3.out.2.2.2.2.cells3
  obtain ⟨f20, f21, f22⟩ := HV3.out.2.2.2.1.free3
  obtain ⟨f30, f31, f32⟩ := HV3.out.2.2.2.2.free3
  go_wp2_with fail
  exact bodyPost_ret (v := resV none) (by simp [resV, results, Try.results12, go_sem, Hk.zero, c20, c21, c22, c30, c31, c32]) rfl ⟨rfl, (HV3.out.1.set3 (by omega) _ _ _).set3 (by omega) _ _ _⟩

set_option maxHeartbeats 1000000 in
theorem commute_A (a b : Hk) (ok : Bool) (w : World) (ha : a.small) (hb : b.small) (hoka : a.ok = true) (hokb : b.ok = true) (hlt : a.at_ + a.nl < b.at_) (hok : decide (b.at_ + ((a.ol : Int) - a.nl) ≤ 1099511627776) = ok) :
    Calls Try.prog 12 #[a.val, b.val] w fun e w' => e = .returned (resV (if ok then some ({ b with at_ := b.at_ + ((a.ol : Int) - a.nl) }, a) else none)) ∧ Ext w w' := by
  have HA := Lib.hid ha; have HB := Lib.hid hb
  obtain ⟨ha1, ha2⟩ := ha; obtain ⟨hb1, hb2⟩ := hb
  unfold Reach at ha1 ha2 hb1 hb2
  obtain ⟨ha3, ha4⟩ := ok_bounds hoka; obtain ⟨hb3, hb4⟩ := ok_bounds hokb
  have HOK := Lib.hid hok; clear hok
  have hwr : IntKind.i64.wrap (-((a.nl : Int) - a.ol)) = (a.ol : Int) - a.nl := by rw [IntWalk.i64_in _ (by omega)]; omega
  go_enter Try.func12, Try.ntmps12
  go_wp2_with fail
  refine (valid_any a _ HA.out).mono ?_
  rintro e w1 ⟨rfl, hE⟩
  have HV := Lib.hid ((V4.start w a b).ext hE); clear hE
  obtain ⟨c10, c11, c12⟩ := HV.out.2.2.1.cells3
  go_wp2_with fail
  refine (valid_any b _ HB.out).mono ?_
  rintro e w2 ⟨rfl, hE2⟩
  have HV2 := Lib.hid (HV.out.ext hE2); clear hE2 c10 c11 c12
  obtain ⟨c00, c01, c02⟩ := HV2.out.2.1.cells3
  obtain ⟨c10, c11, c12⟩ := HV2.out.2.2.1.cells3
  go_wp2_with fail
  clear c00 c01 c02 c10 c11 c12
  refine wp_region_X (T := V4 w a b) (V4 w a b) (by kernel_rfl) HV2.out.drew (wpX_takes (by kernel_rfl) (fun _ d _ _ _ h => by cases d <;> exact h) (V4.stab w a b) (fun _ h => h) (fuel := 3) [0,1,2,3,4,5,6,7] _ _ (by kernel_rfl) ?_)
  iterate 8
    refine wpTk_want rfl (Eq.refl true) ?_
    apply Exists.intro
    refine ⟨fun wx hx => ?_, ?_⟩
    · obtain ⟨d00, d01, d02⟩ := hx.2.1.cells3
      obtain ⟨d10, d11, d12⟩ := hx.2.2.1.cells3
      clear hx
      go_simp
      first | with_reducible exact gives_ok _ _ _ | exact gives_call _ _ _ (growth_any a _ HA.out) | exact gives_call _ _ _ (shifted_any b _ ok _ hb3 hb4 (by omega) (by omega) HOK.out)
    simp only [Act.put, List.setIfInBounds_toArray, List.set_cons_zero, List.set_cons_succ]
  refine wpTk_nil ?_
  clear hwr
  refine wpX_one 8 (by kernel_rfl) rfl rfl (fun wx hx K hK => ?_)
  go_simp
  refine hK _ _ ⟨fun wy => V4 w a b wy ∧ Blk wy wx.heap.size zeroObj, (V4.stab w a b).and (Stab.blk _ _), fun _ h => h.1, ⟨hx.alloc _, Blk.new _ _ rfl⟩, ?_⟩
  clear hK K
  refine wpX_one 9 (by kernel_rfl) rfl rfl (fun wy hy K hK => ?_)
  have HY := Lib.hid hy; clear hy
  obtain ⟨d70, d71, d72⟩ := HY.out.2.cells3
  obtain ⟨e70, e71, e72⟩ := HY.out.2.free3
  go_simp
  refine hK _ _ ⟨fun wz => V4 w a b wz ∧ Blk wz wx.heap.size (({ b with at_ := b.at_ + ((a.ol : Int) - a.nl) } : Hk).obj), (V4.stab w a b).and (Stab.blk _ _), fun _ h => h.1, ⟨HY.out.1.set3 hx.lt _ _ _, HY.out.2.set3⟩, ?_⟩
  clear hK K d70 d71 d72 e70 e71 e72 HY
  refine wpX_one 10 (by kernel_rfl) rfl rfl (fun wz hz K hK => ?_)
  go_simp
  refine hK _ _ ⟨fun wz => V4 w a b wz ∧ Blk wz wx.heap.size (({ b with at_ := b.at_ + ((a.ol : Int) - a.nl) } : Hk).obj), (V4.stab w a b).and (Stab.blk _ _), fun _ h => h.1, hz, ?_⟩
  clear hK K hz
  refine wpX_done (by kernel_rfl) (fun wz hz => ?_) _
  obtain ⟨hz, hz7⟩ := hz
  have HZ := Lib.hid hz; have HZ7 := Lib.hid hz7; clear hz hz7
  obtain ⟨d00, d01, d02⟩ := HZ.out.2.1.cells3
  obtain ⟨d70, d71, d72⟩ := HZ7.out.cells3
  go_wp2_with fail
  clear d00 d01 d02 d70 d71 d72
  cases ok
  · refine (both_no ({ b with at_ := b.at_ + ((a.ol : Int) - a.nl) } : Hk) a _).mono ?_
    rintro e w3 ⟨rfl, hE3⟩
    have HV3 := Lib.hid (HZ.out.ext hE3); clear hE3
    obtain ⟨c20, c21, c22⟩ := HV3.out.2.2.2.1.cells3
    obtain ⟨c30, c31, c32⟩ := HV3.out.2.2.2.2.cells3
    obtain ⟨f20, f21, f22⟩ := HV3.out.2.2.2.1.free3
    obtain ⟨f30, f31, f32⟩ := HV3.out.2.2.2.2.free3
    go_wp2_with fail
    exact bodyPost_ret (v := resV none) (by simp [resV, results, Try.results12, go_sem, Hk.zero, c20, c21, c22, c30, c31, c32]) rfl ⟨rfl, (HV3.out.1.set3 (by omega) _ _ _).set3 (by omega) _ _ _⟩
  · refine (both_yes ({ b with at_ := b.at_ + ((a.ol : Int) - a.nl) } : Hk) a _).mono ?_
    rintro e w3 ⟨rfl, hE3⟩
    have HV3 := Lib.hid (HZ.out.ext hE3); clear hE3
    obtain ⟨c20, c21, c22⟩ := HV3.out.2.2.2.1.cells3
    obtain ⟨c30, c31, c32⟩ := HV3.out.2.2.2.2.cells3
    obtain ⟨f20, f21, f22⟩ := HV3.out.2.2.2.1.free3
    obtain ⟨f30, f31, f32⟩ := HV3.out.2.2.2.2.free3
    go_wp2_with fail
    exact bodyPost_ret (v := resV (some ({ b with at_ := b.at_ + ((a.ol : Int) - a.nl) }, a))) (by simp [resV, results, Try.results12, go_sem, c20, c21, c22, c30, c31, c32]) rfl ⟨rfl, (HV3.out.1.set3 (by omega) _ _ _).set3 (by omega) _ _ _⟩
set_option maxHeartbeats 1000000 in
theorem commute_B (a b : Hk) (ok : Bool) (w : World) (ha : a.small) (hb : b.small) (hoka : a.ok = true) (hokb : b.ok = true) (hge : ¬ a.at_ + a.nl < b.at_) (hlt : b.at_ + b.ol < a.at_) (hok : decide (a.at_ + ((b.nl : Int) - b.ol) ≤ 1099511627776) = ok) :
    Calls Try.prog 12 #[a.val, b.val] w fun e w' => e = .returned (resV (if ok then some (b, { a with at_ := a.at_ + ((b.nl : Int) - b.ol) }) else none)) ∧ Ext w w' := by
  have HA := Lib.hid ha; have HB := Lib.hid hb
  obtain ⟨ha1, ha2⟩ := ha; obtain ⟨hb1, hb2⟩ := hb
  unfold Reach at ha1 ha2 hb1 hb2
  obtain ⟨ha3, ha4⟩ := ok_bounds hoka; obtain ⟨hb3, hb4⟩ := ok_bounds hokb
  have HOK := Lib.hid hok; clear hok
  go_enter Try.func12, Try.ntmps12
  go_wp2_with fail
  refine (valid_any a _ HA.out).mono ?_
  rintro e w1 ⟨rfl, hE⟩
  have HV := Lib.hid ((V4.start w a b).ext hE); clear hE
  obtain ⟨c10, c11, c12⟩ := HV.out.2.2.1.cells3
  go_wp2_with fail
  refine (valid_any b _ HB.out).mono ?_
  rintro e w2 ⟨rfl, hE2⟩
  have HV2 := Lib.hid (HV.out.ext hE2); clear hE2 c10 c11 c12
  obtain ⟨c00, c01, c02⟩ := HV2.out.2.1.cells3
  obtain ⟨c10, c11, c12⟩ := HV2.out.2.2.1.cells3
  go_wp2_with fail
  clear c00 c01 c02 c10 c11 c12
  refine wp_region_X (T := V4 w a b) (V4 w a b) (by kernel_rfl) HV2.out.drew (wpX_takes (by kernel_rfl) (fun _ d _ _ _ h => by cases d <;> exact h) (V4.stab w a b) (fun _ h => h) (fuel := 3) [0,1,2,3,4,5,6] _ _ (by kernel_rfl) ?_)
  iterate 7
    refine wpTk_want rfl (Eq.refl true) ?_
    apply Exists.intro
    refine ⟨fun wx hx => ?_, ?_⟩
    · obtain ⟨d00, d01, d02⟩ := hx.2.1.cells3
      obtain ⟨d10, d11, d12⟩ := hx.2.2.1.cells3
      clear hx
      go_simp
      first | with_reducible exact gives_ok _ _ _ | exact gives_call _ _ _ (growth_any b _ HB.out) | exact gives_call _ _ _ (shifted_any a _ ok _ ha3 ha4 (by omega) (by omega) HOK.out)
    simp only [Act.put, List.setIfInBounds_toArray, List.set_cons_zero, List.set_cons_succ]
  refine wpTk_nil ?_
  refine wpX_one 7 (by kernel_rfl) rfl rfl (fun wx hx K hK => ?_)
  go_simp
  refine hK _ _ ⟨fun wy => V4 w a b wy ∧ Blk wy wx.heap.size zeroObj, (V4.stab w a b).and (Stab.blk _ _), fun _ h => h.1, ⟨hx.alloc _, Blk.new _ _ rfl⟩, ?_⟩
  clear hK K
  refine wpX_one 8 (by kernel_rfl) rfl rfl (fun wy hy K hK => ?_)
  have HY := Lib.hid hy; clear hy
  obtain ⟨d70, d71, d72⟩ := HY.out.2.cells3
  obtain ⟨e70, e71, e72⟩ := HY.out.2.free3
  go_simp
  refine hK _ _ ⟨fun wz => V4 w a b wz ∧ Blk wz wx.heap.size (({ a with at_ := a.at_ + ((b.nl : Int) - b.ol) } : Hk).obj), (V4.stab w a b).and (Stab.blk _ _), fun _ h => h.1, ⟨HY.out.1.set3 hx.lt _ _ _, HY.out.2.set3⟩, ?_⟩
  clear hK K d70 d71 d72 e70 e71 e72 HY
  refine wpX_one 9 (by kernel_rfl) rfl rfl (fun wz hz K hK => ?_)
  go_simp
  refine hK _ _ ⟨fun wz => V4 w a b wz ∧ Blk wz wx.heap.size (({ a with at_ := a.at_ + ((b.nl : Int) - b.ol) } : Hk).obj), (V4.stab w a b).and (Stab.blk _ _), fun _ h => h.1, hz, ?_⟩
  clear hK K hz
  refine wpX_done (by kernel_rfl) (fun wz hz => ?_) _
  obtain ⟨hz, hz7⟩ := hz
  have HZ := Lib.hid hz; have HZ7 := Lib.hid hz7; clear hz hz7
  obtain ⟨d00, d01, d02⟩ := HZ.out.2.2.1.cells3
  obtain ⟨d70, d71, d72⟩ := HZ7.out.cells3
  go_wp2_with fail
  clear d00 d01 d02 d70 d71 d72
  cases ok
  · refine (both_no b ({ a with at_ := a.at_ + ((b.nl : Int) - b.ol) } : Hk) _).mono ?_
    rintro e w3 ⟨rfl, hE3⟩
    have HV3 := Lib.hid (HZ.out.ext hE3); clear hE3
    obtain ⟨c20, c21, c22⟩ := HV3.out.2.2.2.1.cells3
    obtain ⟨c30, c31, c32⟩ := HV3.out.2.2.2.2.cells3
    obtain ⟨f20, f21, f22⟩ := HV3.out.2.2.2.1.free3
    obtain ⟨f30, f31, f32⟩ := HV3.out.2.2.2.2.free3
    go_wp2_with fail
    exact bodyPost_ret (v := resV none) (by simp [resV, results, Try.results12, go_sem, Hk.zero, c20, c21, c22, c30, c31, c32]) rfl ⟨rfl, (HV3.out.1.set3 (by omega) _ _ _).set3 (by omega) _ _ _⟩
  · refine (both_yes b ({ a with at_ := a.at_ + ((b.nl : Int) - b.ol) } : Hk) _).mono ?_
    rintro e w3 ⟨rfl, hE3⟩
    have HV3 := Lib.hid (HZ.out.ext hE3); clear hE3
    obtain ⟨c20, c21, c22⟩ := HV3.out.2.2.2.1.cells3
    obtain ⟨c30, c31, c32⟩ := HV3.out.2.2.2.2.cells3
    obtain ⟨f20, f21, f22⟩ := HV3.out.2.2.2.1.free3
    obtain ⟨f30, f31, f32⟩ := HV3.out.2.2.2.2.free3
    go_wp2_with fail
    exact bodyPost_ret (v := resV (some (b, { a with at_ := a.at_ + ((b.nl : Int) - b.ol) }))) (by simp [resV, results, Try.results12, go_sem, c20, c21, c22, c30, c31, c32]) rfl ⟨rfl, (HV3.out.1.set3 (by omega) _ _ _).set3 (by omega) _ _ _⟩
set_option maxHeartbeats 1000000 in
theorem commute_C (a b : Hk) (w : World) (ha : a.small) (hb : b.small) (hoka : a.ok = true) (hokb : b.ok = true) (hge : ¬ a.at_ + a.nl < b.at_) (hge' : ¬ b.at_ + b.ol < a.at_) :
    Calls Try.prog 12 #[a.val, b.val] w fun e w' => e = .returned (resV none) ∧ Ext w w' := by
  have HA := Lib.hid ha; have HB := Lib.hid hb
  obtain ⟨ha1, ha2⟩ := ha; obtain ⟨hb1, hb2⟩ := hb
  unfold Reach at ha1 ha2 hb1 hb2
  obtain ⟨ha3, ha4⟩ := ok_bounds hoka; obtain ⟨hb3, hb4⟩ := ok_bounds hokb
  go_enter Try.func12, Try.ntmps12
  go_wp2_with fail
  refine (valid_any a _ HA.out).mono ?_
  rintro e w1 ⟨rfl, hE⟩
  have HV := Lib.hid ((V4.start w a b).ext hE); clear hE
  obtain ⟨c10, c11, c12⟩ := HV.out.2.2.1.cells3
  go_wp2_with fail
  refine (valid_any b _ HB.out).mono ?_
  rintro e w2 ⟨rfl, hE2⟩
  have HV2 := Lib.hid (HV.out.ext hE2); clear hE2 c10 c11 c12
  obtain ⟨c00, c01, c02⟩ := HV2.out.2.1.cells3
  obtain ⟨c10, c11, c12⟩ := HV2.out.2.2.1.cells3
  go_wp2_with fail
  clear c00 c01 c02 c10 c11 c12
  refine (both_no Hk.zero Hk.zero _).mono ?_
  rintro e w3 ⟨rfl, hE3⟩
  have HV3 := Lib.hid (HV2.out.ext hE3); clear hE3
  obtain ⟨c20, c21, c22⟩ := HV3.out.2.2.2.1.cells3
  obtain ⟨c30, c31, c32⟩ := HV3.out.2.2.2.2.cells3
  obtain ⟨f20, f21, f22⟩ := HV3.out.2.2.2.1.free3
  obtain ⟨f30, f31, f32⟩ := HV3.out.2.2.2.2.free3
  go_wp2_with fail
  exact bodyPost_ret (v := resV none) (by simp [resV, results, Try.results12, go_sem, Hk.zero, c20, c21, c22, c30, c31, c32]) rfl ⟨rfl, (HV3.out.1.set3 (by omega) _ _ _).set3 (by omega) _ _ _⟩

theorem commute_any (a b : Hk) (w : World) (ha : a.small) (hb : b.small) :
    Calls Try.prog 12 #[a.val, b.val] w fun e w' => e = .returned (resV (commuteV a b)) ∧ Ext w w' := by
  by_cases h1 : a.ok = true
  case neg =>
    have h1' : a.ok = false := by simpa using h1
    rw [commuteV, if_pos (.inl h1')]
    exact commute_no1 a b w ha h1'
  by_cases h2 : b.ok = true
  case neg =>
    have h2' : b.ok = false := by simpa using h2
    rw [commuteV, if_pos (.inr h2')]
    exact commute_no2 a b w ha hb h1 h2'
  rw [commuteV, if_neg (by simp [h1, h2])]
  by_cases h3 : a.at_ + a.nl < b.at_
  · rw [if_pos h3]
    have := commute_A a b _ w ha hb h1 h2 h3 rfl
    simpa using this
  rw [if_neg h3]
  by_cases h4 : b.at_ + b.ol < a.at_
  · rw [if_pos h4]
    have := commute_B a b _ w ha hb h1 h2 h3 h4 rfl
    simpa using this
  rw [if_neg h4]
  exact commute_C a b w ha hb h1 h2 h3 h4

theorem commute_some {a b x y : Hk} (h : commuteV a b = some (x, y)) (w : World) (ha : a.small) (hb : b.small) :
    Calls Try.prog 12 #[a.val, b.val] w fun e w' => e = .returned (.tuple #[x.val, y.val, .bool true]) ∧ Ext w w' := by
  have := commute_any a b w ha hb
  rw [h] at this
  exact this
theorem commute_none {a b : Hk} (h : commuteV a b = none) (w : World) (ha : a.small) (hb : b.small) :
    Calls Try.prog 12 #[a.val, b.val] w fun e w' => e = .returned (.tuple #[Hk.zero.val, Hk.zero.val, .bool false]) ∧ Ext w w' := by
  have := commute_any a b w ha hb
  rw [h] at this
  exact this

end Go.Proofs.Ytilogolnoifigaa

/- The walk of HunkcommuteTwice: it returns true, and adds new memory at most. -/
import Derived.Test.YtilogolnoifigaaKnow
namespace Go.Proofs.Ytilogolnoifigaa
open Go.RowKit

/-- What is known of the two arguments' variables. -/
def P2 (w : World) (a b : Hk) (wx : World) : Prop := Ext w wx ∧ Blk wx w.heap.size a.obj ∧ Blk wx (w.heap.size + 1) b.obj
theorem P2.start (w : World) (a b : Hk) : P2 w a b ((w.alloc a.obj).alloc b.obj) := ⟨((Ext.refl w).alloc _).alloc _, (Blk.new w _ rfl).alloc _, Blk.new (w.alloc _) _ (by simp)⟩
theorem P2.ext {w : World} {a b : Hk} {wx wy : World} (h : P2 w a b wx) (e : Ext wx wy) : P2 w a b wy := ⟨h.1.trans e, h.2.1.ext e, h.2.2.ext e⟩
theorem P2.alloc {w : World} {a b : Hk} {wx : World} (h : P2 w a b wx) (o : Obj) : P2 w a b (wx.alloc o) := h.ext ((Ext.refl wx).alloc o)

set_option maxHeartbeats 1000000 in
theorem twice_walk {a b : Hk} {x y : AH} (w : World) (ha : RH w a x) (hb : RH w b y) :
    Calls Try.prog 3 #[a.val, b.val] w fun e w' => e = .returned (.bool true) ∧ Ext w w' := by
  have HA := Lib.hid ha; have HB := Lib.hid hb; clear ha hb
  have HP := Lib.hid (P2.start w a b)
  obtain ⟨G, hG⟩ := great2 none 0 0 a b x y _ (by decide) (HA.out.ext HP.out.1) (HB.out.ext HP.out.1) (w.heap.size + 2) (w.heap.size + 3) (by simp) (by simp)
  have HG := Lib.hid hG; clear hG
  go_enter Try.func3, Try.ntmps3
  go_wp2_with fail
  refine HG.out.mono ?_
  rintro e w1 ⟨rfl, hE⟩
  have HP1 := Lib.hid (HP.out.ext hE); clear hE
  cases G
  case true =>
    go_wp2_with fail
    refine (awake_any _).mono ?_
    rintro e w2 ⟨rfl, hE⟩
    have HE := Lib.hid (HP1.out.1.trans hE); clear hE
    go_wp2_with fail
    go_ret
    exact ⟨rfl, HE.out⟩
  obtain ⟨c0, c1, c2⟩ := HP1.out.2.1.cells3
  obtain ⟨d0, d1, d2⟩ := HP1.out.2.2.cells3
  go_wp2_with fail
  clear c0 c1 c2 d0 d1 d2
  cases hc : commuteV a b with
  | none =>
    refine (commute_none hc _ HA.out.1 HB.out.1).mono ?_
    rintro e w2 ⟨rfl, hE⟩
    have HE := Lib.hid ((((HP1.out.1.trans hE).alloc Hk.zero.obj).alloc Hk.zero.obj)); clear hE
    have HC := Lib.hid hc; clear hc
    go_wp2_with fail
    refine (awake_any _).mono ?_
    rintro e w3 ⟨rfl, hE⟩
    have HE3 := Lib.hid (HE.out.trans hE); clear hE
    go_wp2_with fail
    go_ret
    exact ⟨rfl, HE3.out⟩
  | some r =>
    obtain ⟨k, h⟩ := r
    have hsm := commuteV_small hc HA.out.1 HB.out.1
    have HS := Lib.hid hsm; have HC := Lib.hid hc
    refine (commute_some hc _ HA.out.1 HB.out.1).mono ?_
    clear hc hsm
    rintro e w2 ⟨rfl, hE⟩
    have HP2 := Lib.hid (HP1.out.ext hE); clear hE
    go_wp2_with fail
    refine (commute_some (commuteV_twice HC.out) _ HS.out.1 HS.out.2).mono ?_
    rintro e w3 ⟨rfl, hE⟩
    have HP3 := Lib.hid (HP2.out.ext ((((Ext.refl w2).alloc k.obj).alloc h.obj).trans hE)); clear hE
    obtain ⟨c0, c1, c2⟩ := HP3.out.2.1.two3
    go_wp2_with fail
    clear c0 c1 c2
    have HP4 := Lib.hid ((HP3.out.alloc a.obj).alloc b.obj)
    have HN := Lib.hid (Blk.new (w3.alloc a.obj) b.obj (g := w3.heap.size + 1) (by simp))
    refine (sameHunk_is (AH.same_refl x) (HA.out.ext HP4.out.1) (HA.out.ext HP4.out.1)).mono ?_
    rintro e w4 ⟨rfl, hE⟩
    have HP5 := Lib.hid (HP4.out.ext hE)
    obtain ⟨c0, c1, c2⟩ := (HN.out.ext hE).cells3
    obtain ⟨d0, d1, d2⟩ := HP5.out.2.2.cells3
    clear hE
    go_wp2_with fail
    clear c0 c1 c2 d0 d1 d2
    refine (sameHunk_is (AH.same_refl y) (HB.out.ext HP5.out.1) (HB.out.ext HP5.out.1)).mono ?_
    rintro e w5 ⟨rfl, hE⟩
    have HE5 := Lib.hid (HP5.out.1.trans hE); clear hE
    go_wp2_with fail
    refine (awake_any _).mono ?_
    rintro e w6 ⟨rfl, hE⟩
    have HE6 := Lib.hid (HE5.out.trans hE); clear hE
    go_wp2_with fail
    go_ret
    exact ⟨rfl, HE6.out⟩
end Go.Proofs.Ytilogolnoifigaa

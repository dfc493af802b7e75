/- Lamport's and the reference's Check, the reference's Great. No condition. -/
import Derived.Test.YtmmcjcaccicheaaTfSum
namespace Go.Proofs.Ytmmcjcaccicheaa
open Go.RowKit
def checkV (i : Int) (a b c : Nat) : Int := if i < 0 then 2 else if 4 ≤ i then 2 else if a ≠ 128 then 1 else if b ≠ 128 then 1 else if c ≠ 2 then 1 else 0
/-- A signature's cells. -/
abbrev sgc (i : Int) (p q r : Value) : Array Value := #[.int .i64 i, p, q, r]
theorem checkV_ok {i : Int} {a b c : Nat} (h : checkV i a b c = 0) : 0 ≤ i ∧ i < 4 ∧ a = 128 ∧ b = 128 ∧ c = 2 := by
  unfold checkV at h
  split at h
  · omega
  split at h
  · omega
  split at h
  · omega
  split at h
  · omega
  split at h
  · omega
  omega
theorem checkV_of {i : Int} {a b c : Nat} (h0 : 0 ≤ i) (h1 : i < 4) (h2 : a = 128) (h3 : b = 128) (h4 : c = 2) : checkV i a b c = 0 := by
  unfold checkV
  rw [if_neg (by omega), if_neg (by omega), if_neg (by omega), if_neg (by omega), if_neg (by omega)]
set_option maxHeartbeats 4000000 in
theorem check_is (i : Int) (p1 p2 p3 : Option Addr) (n1 c1 n2 c2 n3 c3 : Nat) (w : World) :
    Calls Try.prog 7 #[.agg (sgc i (.slice p1 n1 c1) (.slice p2 n2 c2) (.slice p3 n3 c3))] w fun e w' => e = .returned (.int .i64 (checkV i n1 n2 n3)) ∧ Ext w w' := by
  have hx := (Ext.refl w).alloc (.cells (sgc i (.slice p1 n1 c1) (.slice p2 n2 c2) (.slice p3 n3 c3)) 25)
  have e1 : ((n1 : Int) = 128) = (n1 = 128) := by apply propext; omega
  have e2 : ((n2 : Int) = 128) = (n2 = 128) := by apply propext; omega
  have e3 : ((n3 : Int) = 2) = (n3 = 2) := by apply propext; omega
  have HX := Lib.hid hx; clear hx
  by_cases h0 : i < 0
  · have hv := Lib.hid (show (2 : Int) = checkV i n1 n2 n3 by unfold checkV; rw [if_pos h0])
    go_enter Try.func7, Try.ntmps7
    go_wp2
    go_ret
    exact ⟨congrArg (fun n => Ending.returned (.int .i64 n)) hv.out, HX.out⟩
  by_cases h4 : 4 ≤ i
  · have hv := Lib.hid (show (2 : Int) = checkV i n1 n2 n3 by unfold checkV; rw [if_neg h0, if_pos h4])
    go_enter Try.func7, Try.ntmps7
    go_wp2
    go_ret
    exact ⟨congrArg (fun n => Ending.returned (.int .i64 n)) hv.out, HX.out⟩
  by_cases k1 : n1 = 128
  rotate_left
  · have hv := Lib.hid (show (1 : Int) = checkV i n1 n2 n3 by unfold checkV; rw [if_neg h0, if_neg h4, if_pos k1])
    go_enter Try.func7, Try.ntmps7
    go_wp2
    go_ret
    exact ⟨congrArg (fun n => Ending.returned (.int .i64 n)) hv.out, HX.out⟩
  obtain rfl := k1
  by_cases k2 : n2 = 128
  rotate_left
  · have hv := Lib.hid (show (1 : Int) = checkV i 128 n2 n3 by unfold checkV; rw [if_neg h0, if_neg h4, if_neg (by omega), if_pos k2])
    go_enter Try.func7, Try.ntmps7
    go_wp2
    go_ret
    exact ⟨congrArg (fun n => Ending.returned (.int .i64 n)) hv.out, HX.out⟩
  obtain rfl := k2
  by_cases k3 : n3 = 2
  rotate_left
  · have hv := Lib.hid (show (1 : Int) = checkV i 128 128 n3 by unfold checkV; rw [if_neg h0, if_neg h4, if_neg (by omega), if_neg (by omega), if_pos k3])
    go_enter Try.func7, Try.ntmps7
    go_wp2
    go_ret
    exact ⟨congrArg (fun n => Ending.returned (.int .i64 n)) hv.out, HX.out⟩
  · obtain rfl := k3
    have hv := Lib.hid (show (0 : Int) = checkV i 128 128 2 by unfold checkV; rw [if_neg h0, if_neg h4, if_neg (by omega), if_neg (by omega), if_neg (by omega)])
    go_enter Try.func7, Try.ntmps7
    go_wp2
    go_ret
    exact ⟨congrArg (fun n => Ending.returned (.int .i64 n)) hv.out, HX.out⟩
set_option maxHeartbeats 4000000 in
theorem rcheck_is (i : Int) (p1 p2 p3 : Option Addr) (n1 c1 n2 c2 n3 c3 : Nat) (w : World) :
    Calls Try.prog 8 #[.agg (sgc i (.slice p1 n1 c1) (.slice p2 n2 c2) (.slice p3 n3 c3))] w fun e w' => e = .returned (.int .i64 (checkV i n1 n2 n3)) ∧ Ext w w' := by
  have hx := (Ext.refl w).alloc (.cells (sgc i (.slice p1 n1 c1) (.slice p2 n2 c2) (.slice p3 n3 c3)) 25)
  have e1 : ((n1 : Int) = 128) = (n1 = 128) := by apply propext; omega
  have e2 : ((n2 : Int) = 128) = (n2 = 128) := by apply propext; omega
  have e3 : ((n3 : Int) = 2) = (n3 = 2) := by apply propext; omega
  have HX := Lib.hid hx; clear hx
  by_cases h0 : i < 0
  · have hv := Lib.hid (show (2 : Int) = checkV i n1 n2 n3 by unfold checkV; rw [if_pos h0])
    go_enter Try.func8, Try.ntmps8
    go_wp2
    go_ret
    exact ⟨congrArg (fun n => Ending.returned (.int .i64 n)) hv.out, HX.out⟩
  by_cases h4 : 4 ≤ i
  · have hv := Lib.hid (show (2 : Int) = checkV i n1 n2 n3 by unfold checkV; rw [if_neg h0, if_pos h4])
    have h5 : 3 < i := by omega
    go_enter Try.func8, Try.ntmps8
    go_wp2
    go_ret
    exact ⟨congrArg (fun n => Ending.returned (.int .i64 n)) hv.out, HX.out⟩
  have h5 : ¬ (3 < i) := by omega
  by_cases k1 : n1 = 128
  rotate_left
  · have hv := Lib.hid (show (1 : Int) = checkV i n1 n2 n3 by unfold checkV; rw [if_neg h0, if_neg h4, if_pos k1])
    go_enter Try.func8, Try.ntmps8
    go_wp2
    go_ret
    exact ⟨congrArg (fun n => Ending.returned (.int .i64 n)) hv.out, HX.out⟩
  obtain rfl := k1
  by_cases k2 : n2 = 128
  rotate_left
  · have hv := Lib.hid (show (1 : Int) = checkV i 128 n2 n3 by unfold checkV; rw [if_neg h0, if_neg h4, if_neg (by omega), if_pos k2])
    go_enter Try.func8, Try.ntmps8
    go_wp2
    go_ret
    exact ⟨congrArg (fun n => Ending.returned (.int .i64 n)) hv.out, HX.out⟩
  obtain rfl := k2
  by_cases k3 : n3 = 2
  rotate_left
  · have hv := Lib.hid (show (1 : Int) = checkV i 128 128 n3 by unfold checkV; rw [if_neg h0, if_neg h4, if_neg (by omega), if_neg (by omega), if_pos k3])
    go_enter Try.func8, Try.ntmps8
    go_wp2
    go_ret
    exact ⟨congrArg (fun n => Ending.returned (.int .i64 n)) hv.out, HX.out⟩
  · obtain rfl := k3
    have hv := Lib.hid (show (0 : Int) = checkV i 128 128 2 by unfold checkV; rw [if_neg h0, if_neg h4, if_neg (by omega), if_neg (by omega), if_neg (by omega)])
    go_enter Try.func8, Try.ntmps8
    go_wp2
    go_ret
    exact ⟨congrArg (fun n => Ending.returned (.int .i64 n)) hv.out, HX.out⟩
def greatV (a b c : Nat) : Bool := if 200 < a then true else if 200 < b then true else decide (10 < c)
set_option maxHeartbeats 4000000 in
theorem rgreat_is (i : Int) (p1 p2 p3 : Option Addr) (n1 c1 n2 c2 n3 c3 : Nat) (w : World) :
    Calls Try.prog 4 #[.agg (sgc i (.slice p1 n1 c1) (.slice p2 n2 c2) (.slice p3 n3 c3))] w fun e w' => e = .returned (.bool (greatV n1 n2 n3)) ∧ Ext w w' := by
  have hx := (Ext.refl w).alloc (.cells (sgc i (.slice p1 n1 c1) (.slice p2 n2 c2) (.slice p3 n3 c3)) 25)
  have HX := Lib.hid hx; clear hx
  by_cases k1 : (200 : Int) < n1
  · have hv := Lib.hid (show true = greatV n1 n2 n3 by unfold greatV; rw [if_pos (by omega)])
    go_enter Try.func4, Try.ntmps4
    go_wp2
    go_ret
    exact ⟨congrArg (fun n => Ending.returned (.bool n)) hv.out, HX.out⟩
  by_cases k2 : (200 : Int) < n2
  · have hv := Lib.hid (show true = greatV n1 n2 n3 by unfold greatV; rw [if_neg (by omega), if_pos (by omega)])
    go_enter Try.func4, Try.ntmps4
    go_wp2
    go_ret
    exact ⟨congrArg (fun n => Ending.returned (.bool n)) hv.out, HX.out⟩
  · have hv := Lib.hid (show decide ((10 : Int) < n3) = greatV n1 n2 n3 by unfold greatV; rw [if_neg (by omega), if_neg (by omega)]; congr 1; apply propext; omega)
    go_enter Try.func4, Try.ntmps4
    go_wp2
    go_ret
    exact ⟨congrArg (fun n => Ending.returned (.bool n)) hv.out, HX.out⟩
end Go.Proofs.Ytmmcjcaccicheaa

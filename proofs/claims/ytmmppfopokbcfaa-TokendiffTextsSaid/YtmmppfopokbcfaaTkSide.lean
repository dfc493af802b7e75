/- Contracts: Old, New; Great. -/
import Derived.Test.YtmmppfopokbcfaaTkRender
namespace Go.Proofs.Ytmmppfopokbcfaa
open Go.RowKit

theorem bytes_take (p : Pc → Bool) (l : List Pc) (j : Nat) : (bytesB p (l.take j)).length ≤ (bytesB p l).length := by
  conv => rhs; rw [← List.take_append_drop j l, bytes_app, List.length_append]
  omega
theorem bytes_snoc (p : Pc → Bool) (l : List Pc) (x : Pc) : bytesB p (l ++ [x]) = bytesB p l ++ (if p x then x.t.data.toList else []) := by
  rw [bytes_app]
  congr 1
  unfold bytesB
  cases h : p x <;> simp [h]
theorem sumG_take' (f : Pc → Nat) (l : List Pc) (j : Nat) : sumG f (l.take j) ≤ sumG f l := by
  conv => rhs; rw [← List.take_append_drop j l]
  rw [sumG_app]; omega
def sizeS (l : List Pc) : Nat := sumG (fun x => x.t.size) l
theorem bytes_le (p : Pc → Bool) (l : List Pc) : (bytesB p l).length ≤ sizeS l := by
  induction l with
  | nil => exact Nat.zero_le _
  | cons x l ih =>
    have h1 : (bytesB p [x]).length ≤ x.t.size := by
      unfold bytesB
      cases h : p x <;> simp [h]
    have h2 : sizeS ([x] ++ l) = x.t.size + sizeS l := by unfold sizeS; rw [sumG_app]; simp [sumG]
    rw [show x :: l = [x] ++ l from rfl, bytes_app, List.length_append, h2]
    omega
set_option maxRecDepth 100000 in
set_option maxHeartbeats 8000000 in
theorem without_any (A : Option Addr) (n c : Nat) (k : Int) (l : List Pc) (w : World) (hS : Pcs w A n l) (hn : n ≤ 100000) (hl : sizeS l ≤ 80000) :
    Calls Try.prog 57 #[.slice A n c, .int .i64 k] w fun e w' => e = .returned (.string (sideV k l)) ∧ Ext w w' := by
  have HS := Lib.hid hS; have HL := Lib.hid hS.1; clear hS
  have hbn := bytes_le (fun x => decide (x.k ≠ k)) l
  have hE1 : Ext w (w.alloc (.cells #[.pointer none, .slice none 0 0] 73)) := (Ext.refl _).alloc _
  have hBn := Bd.new w
  obtain ⟨g, hg⟩ : ∃ g, w.heap.size = g := ⟨_, rfl⟩
  rw [hg] at hBn
  have HE1 := Lib.hid hE1; have HBn := Lib.hid hBn; have HG := Lib.hid hg; clear hE1 hBn
  go_enter Try.func57, Try.ntmps57
  go_wp2_with fail
  go_loopw [10] (fun v10 wr => ∃ j : Nat, j ≤ n ∧ v10 = .int .i64 j ∧ Bd g g (bytesB (fun x => decide (x.k ≠ k)) (l.take j)) wr ∧ Ext w wr ∧ g ≤ wr.heap.size) (fun v10 _ => n - (intOf v10).toNat)
  case atStart => exact ⟨0, Nat.zero_le _, rfl, HBn.out, HE1.out, by have := HE1.out.size; omega⟩
  case round =>
    obtain ⟨j, hj, rfl, hb, hk, hgw⟩ := hrel
    have HB1 := Lib.hid hb; have HK := Lib.hid hk; clear hb hk
    by_cases hlt : j < n
    · obtain ⟨b, off, x, rfl, hb, hx, hwf, c0, c1⟩ := (HS.out.ext HK.out).get hlt
      obtain ⟨xk, xt⟩ := x
      dsimp only at c0 c1
      have hst : bytesB (fun x => decide (x.k ≠ k)) (l.take (j + 1)) = bytesB (fun x => decide (x.k ≠ k)) (l.take j) ++ (if decide (xk ≠ k) then xt.data.toList else []) := by rw [take_succ_of hx, bytes_snoc]
      have hle1 := bytes_take (fun x => decide (x.k ≠ k)) l j
      have hxs : xt.size ≤ 80000 := by
        have h1 := bytes_le (fun _ => true) l
        have h2 := bytes_take (fun _ => true) l (j + 1)
        rw [take_succ_of hx, bytes_snoc, if_pos rfl, List.length_append, ← size_len] at h2
        dsimp only at h2
        omega
      have HST := Lib.hid hst; clear hst hx hwf
      have hbz := Blk.new wr (Pc.obj ⟨xk, xt⟩) rfl
      have hB2 := HB1.out.alloc (Pc.obj ⟨xk, xt⟩)
      have hE2 := HK.out.alloc (Pc.obj ⟨xk, xt⟩)
      have hg2 : g ≤ (wr.alloc (Pc.obj ⟨xk, xt⟩)).heap.size := Nat.le_trans hgw ((Ext.refl wr).alloc (Pc.obj ⟨xk, xt⟩)).size
      have HB2 := Lib.hid hB2; have HE2 := Lib.hid hE2; clear hbz hB2 hE2
      by_cases hk : xk = k
      · have q1 : (xk != k) = false := by simpa using hk
        have hd : decide (xk ≠ k) = false := by simpa using hk
        rw [hd] at HST
        clear hk
        go_wp2_with fail
        go_roundw
        case rel =>
          refine ⟨j + 1, by omega, by go_num, ?_, HE2.out, hg2⟩
          have h9 := HST.out
          rw [if_neg (by simp), List.append_nil] at h9
          rw [h9]; exact HB2.out
        case measure => simp [intOf]; omega
      · have q1 : (xk != k) = true := by simpa using hk
        have hd : decide (xk ≠ k) = true := by simpa using hk
        rw [hd] at HST
        clear hk
        go_wp2_with fail
        refine (wstr_is xt HB2.out (by omega) (by omega) hg2).mono ?_
        rintro e W6 ⟨rfl, hb, hk⟩
        have HB6 := Lib.hid hb; have hg6 := Nat.le_trans hg2 hk.size; have HE6 := Lib.hid (bk_ext HE2.out HG.out hk); clear hb hk
        go_wp2_with fail
        go_roundw
        case rel =>
          refine ⟨j + 1, by omega, by go_num, ?_, HE6.out, hg6⟩
          have h9 := HST.out
          rw [if_pos trivial] at h9
          rw [h9]; exact HB6.out
        case measure => simp [intOf]; omega
    · have h9 := HB1.out
      rw [List.take_of_length_le (by rw [HL.out]; omega)] at h9
      have HB9 := Lib.hid h9; clear h9
      go_wp2_with fail
      refine (bstr_is HB9.out hgw).mono ?_
      rintro e W6 ⟨rfl, hk⟩
      have HE6 := Lib.hid (bk_ext HK.out HG.out hk); clear hk
      go_wp2_with fail
      go_ret
      refine ⟨?_, HE6.out⟩
      rw [sideV, show (fun x : Pc => decide (x.k ≠ k)) = (fun x => !decide (x.k = k)) from by funext x; simp]
      rfl
set_option maxRecDepth 100000 in
set_option maxHeartbeats 4000000 in
theorem old_any (A : Option Addr) (n c : Nat) (l : List Pc) (w : World) (hS : Pcs w A n l) (hn : n ≤ 100000) (hl : sizeS l ≤ 80000) :
    Calls Try.prog 30 #[.slice A n c] w fun e w' => e = .returned (.string (sideV 2 l)) ∧ Ext w w' := by
  go_enter Try.func30, Try.ntmps30
  go_wp2_with fail
  refine (without_any A n c 2 l w hS hn hl).mono ?_
  rintro e w1 ⟨rfl, hE⟩
  go_wp2_with fail
  go_ret
  exact ⟨rfl, hE⟩
set_option maxRecDepth 100000 in
set_option maxHeartbeats 4000000 in
theorem new_any (A : Option Addr) (n c : Nat) (l : List Pc) (w : World) (hS : Pcs w A n l) (hn : n ≤ 100000) (hl : sizeS l ≤ 80000) :
    Calls Try.prog 32 #[.slice A n c] w fun e w' => e = .returned (.string (sideV 1 l)) ∧ Ext w w' := by
  go_enter Try.func32, Try.ntmps32
  go_wp2_with fail
  refine (without_any A n c 1 l w hS hn hl).mono ?_
  rintro e w1 ⟨rfl, hE⟩
  go_wp2_with fail
  go_ret
  exact ⟨rfl, hE⟩
def greatV (l : List Pc) : Bool := decide (30 < l.length) || decide (300 < sizeS l)
theorem sizeS_snoc (l : List Pc) (x : Pc) : sizeS (l ++ [x]) = sizeS l + x.t.size := by unfold sizeS; rw [sumG_app]; simp [sumG]
theorem sizeS_bound : ∀ (l : List Pc), (∀ x ∈ l, x.wf) → sizeS l ≤ l.length * 140737488351232
  | [], _ => Nat.zero_le _
  | x :: l, h => by
    have ih := sizeS_bound l (fun y hy => h y (by simp [hy]))
    have h1 := (h x (by simp)).2
    unfold Reach at h1
    have h2 : sizeS (x :: l) = x.t.size + sizeS l := by unfold sizeS; rw [show x :: l = [x] ++ l from rfl, sumG_app]; simp [sumG]
    rw [h2, List.length_cons]; omega
theorem w64_rng (x : Int) : I64 (wrap64 x) := by unfold I64 wrap64; omega
theorem w64_id {x : Int} (h1 : -9223372036854775808 ≤ x) (h2 : x ≤ 9223372036854775807) : wrap64 x = x := by unfold wrap64; omega
set_option maxRecDepth 100000 in
set_option maxHeartbeats 4000000 in
theorem great_any (A : Option Addr) (n c : Nat) (l : List Pc) (w : World) (hS : Pcs w A n l) (hn : n ≤ Reach) :
    Calls Try.prog 25 #[.slice A n c] w fun e w' => e = .returned (.bool (greatV l)) ∧ w' = w := by
  unfold Reach at hn
  have HS := Lib.hid hS; have HL := Lib.hid hS.1; have HW := Lib.hid hS.2.1; clear hS
  go_enter Try.func25, Try.ntmps25
  go_wp2_with fail
  go_loop [3, 4] (fun v3 v4 => ∃ (j : Nat) (x : Int), j ≤ n ∧ v4 = .int .i64 j ∧ v3 = .int .i64 x ∧ I64 x ∧ (n ≤ 30 → x = (sizeS (l.take j) : Nat))) (fun _ v4 => n - (intOf v4).toNat)
  case atStart => exact ⟨0, 0, Nat.zero_le _, rfl, rfl, ⟨by omega, by omega⟩, fun _ => rfl⟩
  case round =>
    obtain ⟨j, x, hj, rfl, rfl, hx64, hxs⟩ := hrel
    have HX := Lib.hid hx64; have HXS := Lib.hid hxs; clear hx64 hxs
    by_cases hlt : j < n
    · obtain ⟨b, off, y, rfl, hb, hx, hwf, c0, c1⟩ := HS.out.get hlt
      have hst : sizeS (l.take (j + 1)) = sizeS (l.take j) + y.t.size := by rw [take_succ_of hx, sizeS_snoc]
      have hbd := sizeS_bound (l.take (j + 1)) (fun z hz => HW.out z (List.take_subset _ _ hz))
      rw [List.length_take, HL.out] at hbd
      have hys := hwf.2
      unfold Reach at hys
      have HST := Lib.hid hst; have HBD := Lib.hid hbd; clear hst hx hwf hbd
      go_wp2_with fail
      go_round
      case rel =>
        refine ⟨j + 1, wrap64 (x + y.t.size), by omega, by go_num, rfl, w64_rng _, fun h30 => ?_⟩
        have h1 := HXS.out h30
        have h2 := HBD.out
        have h3 := HST.out
        rw [h3] at h2
        rw [h1, h3, w64_id] <;> omega
      case measure => simp [intOf]; omega
    · have hln := HL.out
      have htl : l.take j = l := List.take_of_length_le (by omega)
      by_cases g1 : 30 < n
      · have hr : greatV l = true := by unfold greatV; rw [hln, decide_eq_true g1]; rfl
        have HR := Lib.hid hr; clear hr hln htl
        have q0 : (30 : Int) < (n : Int) := by omega
        go_wp2_with fail
        go_ret
        exact ⟨ret_bool HR.out.symm, rfl⟩
      · have hxe := HXS.out (by omega)
        rw [htl] at hxe
        have q0 : ¬ ((30 : Int) < (n : Int)) := by omega
        by_cases g2 : 300 < sizeS l
        · have hr : greatV l = true := by unfold greatV; rw [decide_eq_true g2, Bool.or_true]
          have q1 : (300 : Int) < x := by omega
          have HR := Lib.hid hr; clear hr hln htl hxe
          go_wp2_with fail
          go_ret
          exact ⟨ret_bool HR.out.symm, rfl⟩
        · have hr : greatV l = false := by unfold greatV; rw [hln, decide_eq_false g1, decide_eq_false g2]; rfl
          have q1 : ¬ ((300 : Int) < x) := by omega
          have HR := Lib.hid hr; clear hr hln htl hxe
          go_wp2_with fail
          go_ret
          exact ⟨ret_bool HR.out.symm, rfl⟩
theorem greatp_is {A : Option Addr} {n c : Nat} {l : List Pc} {r : Bool} {w : World} (hr : greatV l = r) (hS : Pcs w A n l) (hn : n ≤ Reach) :
    Calls Try.prog 25 #[.slice A n c] w fun e w' => e = .returned (.bool r) ∧ w' = w := by
  subst hr; exact great_any A n c l w hS hn
end Go.Proofs.Ytmmppfopokbcfaa

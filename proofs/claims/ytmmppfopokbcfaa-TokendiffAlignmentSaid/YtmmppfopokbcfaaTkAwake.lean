/- Contracts: awake, long. -/
import Derived.Test.YtmmppfopokbcfaaTkRender
import Derived.Test.YtmmppfopokbcfaaTkSim
namespace Go.Proofs.Ytmmppfopokbcfaa
open Go.RowKit

abbrev awA : ByteArray := ⟨#[120, 32, 61, 32, 102, 40, 49, 41]⟩
abbrev awB : ByteArray := ⟨#[120, 32, 61, 32, 103, 40, 49, 41, 59]⟩
abbrev awT : ByteArray := ⟨#[120, 32, 61, 32, 91, 45, 102, 45, 93, 123, 43, 103, 43, 125, 40, 49, 41, 123, 43, 59, 43, 125]⟩
theorem aw_ren : rendV (refineV awA awB) = awT := by kernel_rfl
theorem aw_len : (rendL (refineV awA awB)).length = 22 := by kernel_rfl
theorem aw_e : renE (refineV awA awB) = 0 := by kernel_rfl
theorem aw_sim : simV awA awB = 82 := by kernel_rfl
set_option maxRecDepth 100000 in
set_option maxHeartbeats 4000000 in
theorem awake_is {w : World} : Calls Try.prog 12 #[] w fun e w' => e = .returned (.bool true) ∧ Ext w w' := by
  go_enter Try.func12, Try.ntmps12
  go_wp2_with fail
  refine (refine_is (s := awA) (t := awB) (by decide) (by decide)).mono ?_
  rintro e w1 ⟨A, c, rfl, hc, hP, hE⟩
  have hlen := refine_few awA awB
  have h17 : (refineV awA awB).length ≤ 17 := hlen
  have HP := Lib.hid hP; have HE := Lib.hid hE; clear hP hE hlen
  go_wp2_with fail
  refine (render_any A (refineV awA awB).length c (refineV awA awB) w1 HP.out (by omega) (by rw [aw_len]; decide)).mono ?_
  rintro e w2 ⟨rfl, hE⟩
  have HE2 := Lib.hid (HE.out.trans hE); clear hE
  rw [aw_ren, aw_e]
  go_wp2_with fail
  refine (sim_any awA awB w2 (by decide) (by decide)).mono ?_
  rintro e w3 ⟨rfl, hE⟩
  have HE3 := Lib.hid (HE2.out.trans hE); clear hE
  rw [aw_sim]
  go_wp2_with fail
  go_ret
  exact ⟨rfl, HE3.out⟩
/-- One of the strings is longer than the statements use. -/
def longV (l : Lns) : Bool := l.any fun s => decide (100 < s.size)
set_option maxRecDepth 100000 in
set_option maxHeartbeats 4000000 in
theorem long_any (A : Option Addr) (n c : Nat) (l : Lns) (w : World) (hS : Strs w A n l) (hn : n ≤ Reach) :
    Calls Try.prog 11 #[.slice A n c] w fun e w' => e = .returned (.bool (longV l)) ∧ w' = w := by
  unfold Reach at hn
  have HS := Lib.hid hS; have HL := Lib.hid hS.1; clear hS
  go_enter Try.func11, Try.ntmps11
  go_wp2_with fail
  go_loop [7] (fun v7 => ∃ j : Nat, j ≤ n ∧ v7 = .int .i64 j ∧ longV (l.drop j) = longV l) (fun v7 => n - (intOf v7).toNat)
  case atStart => exact ⟨0, Nat.zero_le _, rfl, rfl⟩
  case round =>
    obtain ⟨j, hj, rfl, hv⟩ := hrel
    by_cases hlt : j < n
    · obtain ⟨b, off, s, rfl, hb, hx, hwf, c0⟩ := HS.out.get hlt
      unfold Reach at hwf
      have hd := drop_of hx
      by_cases h1 : 100 < s.size
      · have hr : longV l = true := by rw [← hv, hd, longV, List.any_cons, yd h1]; rfl
        have HR := Lib.hid hr; clear hr hv hd hx
        have q1 : (100 : Int) < (s.size : Int) := by omega
        go_wp2_with fail
        go_ret
        exact ⟨ret_bool HR.out.symm, rfl⟩
      · have hr : longV (l.drop (j + 1)) = longV l := by rw [← hv, hd, longV, longV, List.any_cons, nd h1]; rfl
        have HR := Lib.hid hr; clear hr hv hd hx
        have q1 : ¬ ((100 : Int) < (s.size : Int)) := by omega
        go_wp2_with fail
        go_round
        case rel => exact ⟨j + 1, by omega, by go_num, HR.out⟩
        case measure => simp [intOf]; omega
    · have hr : longV l = false := by rw [← hv, List.drop_eq_nil_of_le (by rw [HL.out]; omega)]; rfl
      have HR := Lib.hid hr; clear hr hv
      go_wp2_with fail
      go_ret
      exact ⟨ret_bool HR.out.symm, rfl⟩
theorem long_is {A : Option Addr} {n c : Nat} {l : Lns} {r : Bool} {w : World} (hr : longV l = r) (hS : Strs w A n l) (hn : n ≤ Reach) :
    Calls Try.prog 11 #[.slice A n c] w fun e w' => e = .returned (.bool r) ∧ w' = w := by
  subst hr; exact long_any A n c l w hS hn
theorem two_strs (w : World) (s t : ByteArray) (hs : s.size ≤ Reach) (ht : t.size ≤ Reach) : Strs (w.alloc (.cells #[.string s, .string t] 9)) (some ⟨w.heap.size, 0, none⟩) 2 [s, t] :=
  ⟨rfl, fun x hx => by rcases List.mem_cons.1 hx with rfl | hx; exact hs; obtain rfl := List.mem_singleton.1 hx; exact ht, Cells.new w _ [.string s, .string t] rfl⟩
end Go.Proofs.Ytmmppfopokbcfaa

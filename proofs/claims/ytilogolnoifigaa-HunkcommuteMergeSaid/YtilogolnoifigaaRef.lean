/- Contracts of the reference's functions on hunks: Check, valid, moved, Commute, Merge, Invert. -/
import Derived.Test.YtilogolnoifigaaMerge
namespace Go.Proofs.Ytilogolnoifigaa
open Go.RowKit

/-- What holds of the reference's check when k hunks have passed. -/
def ChkRef (hs : List Hk) (k : Nat) (e : Int) : Prop := checkFrom (-1) hs = checkFrom e (hs.drop k) ∧ -1 ≤ e ∧ e ≤ 1000000000000000
theorem ChkRef.start (hs : List Hk) : ChkRef hs 0 (-1) := ⟨rfl, by omega, by omega⟩
theorem ChkRef.step {hs : List Hk} {k : Nat} {e : Int} {x : Hk} (h : ChkRef hs k e) (hx : hs[k]? = some x) (h1 : 0 ≤ x.at_) (h2 : x.at_ ≤ 1099511627776) (h0 : x.ol ≤ 140737488351232) (h3 : ¬ x.ol + x.nl = 0) (h4 : ¬ x.at_ ≤ e) : ChkRef hs (k + 1) (x.at_ + x.ol) := by
  refine ⟨?_, by omega, by omega⟩
  rw [h.1, drop_of hx, checkFrom, if_neg (by omega), if_neg h3, if_neg h4]
theorem ChkRef.none {hs : List Hk} {k : Nat} {e : Int} (h : ChkRef hs k e) (hk : hs.length ≤ k) : 0 = checkFrom (-1) hs := by
  rw [h.1, List.drop_of_length_le hk]; rfl
theorem ChkRef.stop {hs : List Hk} {k : Nat} {e r : Int} {x : Hk} (h : ChkRef hs k e) (hx : hs[k]? = some x) (hr : checkFrom e (x :: hs.drop (k + 1)) = r) : r = checkFrom (-1) hs := by
  rw [h.1, drop_of hx, hr]

set_option maxHeartbeats 2000000 in
theorem check08_any (A : Option Addr) (n c : Nat) (hs : List Hk) (w : World) (hh : Hks w A n hs) (hn : n ≤ Reach) :
    Calls Try.prog 40 #[.slice A n c] w fun e w' => e = .returned (.int .i64 (checkFrom (-1) hs)) ∧ Ext w w' := by
  unfold Reach at hn
  have HH := Lib.hid hh; clear hh
  go_enter Try.func40, Try.ntmps40
  go_wp2_with fail
  go_loopw [3, 4] (fun t i wr => ∃ (k : Nat) (e : Int), k ≤ n ∧ i = .int .i64 k ∧ t = .int .i64 e ∧ ChkRef hs k e ∧ Ext w wr) (fun _ i _ => n - (intOf i).toNat)
  case atStart => exact ⟨0, -1, Nat.zero_le _, rfl, rfl, ChkRef.start _, Ext.refl _⟩
  case round =>
    obtain ⟨k, e, hk, rfl, rfl, h1, hE⟩ := hrel
    have he1 := h1.2.1; have he2 := h1.2.2
    have HE := Lib.hid hE; have H1 := Lib.hid h1; clear hE h1
    by_cases hlt : k < n
    · obtain ⟨b, off, x, rfl, hb, hx, hxs, hc0, hc1, hc2⟩ := (HH.out.ext HE.out).get hlt
      have HX := Lib.hid hx; clear hx
      obtain ⟨hx1, hx2⟩ := hxs
      unfold Reach at hx1 hx2
      have hw1 : IntKind.i64.wrap ((x.ol : Int) + x.nl) = (x.ol : Int) + x.nl := IntWalk.i64_in _ (by omega)
      by_cases hA : x.at_ < 0
      · go_wp2_with fail
        go_ret
        exact ⟨ret_int (H1.out.stop HX.out (by rw [checkFrom, if_pos (.inl hA)])), HE.out⟩
      by_cases hB : 1099511627776 < x.at_
      · go_wp2_with fail
        go_ret
        exact ⟨ret_int (H1.out.stop HX.out (by rw [checkFrom, if_pos (.inr hB)])), HE.out⟩
      by_cases hC : x.ol + x.nl = 0
      · have hC' : (((x.ol : Int) + x.nl) == 0) = true := by rw [beq_iff_eq]; omega
        have HC := Lib.hid hC; clear hC
        go_wp2_with fail
        go_quiet (fail)
        go_wp2_with fail
        go_ret
        exact ⟨ret_int (H1.out.stop HX.out (by rw [checkFrom, if_neg (by omega), if_pos HC.out])), HE.out.drewN _⟩
      have hC' : (((x.ol : Int) + x.nl) == 0) = false := by rw [beq_eq_false_iff_ne]; omega
      have HC := Lib.hid hC; clear hC
      by_cases hD : x.at_ ≤ e
      · go_wp2_with fail
        go_quiet (fail)
        go_wp2_with fail
        go_ret
        exact ⟨ret_int (H1.out.stop HX.out (by rw [checkFrom, if_neg (by omega), if_neg HC.out, if_pos hD])), HE.out.drewN _⟩
      · have hw2 : IntKind.i64.wrap (x.at_ + (x.ol : Int)) = x.at_ + (x.ol : Int) := IntWalk.i64_in _ (by omega)
        go_wp2_with fail
        go_quiet (fail)
        go_wp2_with fail
        go_quiet (fail)
        go_wp2_with fail
        go_roundw
        case rel => exact ⟨k + 1, x.at_ + x.ol, by omega, by go_num, rfl, H1.out.step HX.out (by omega) (by omega) hx1 HC.out (by omega), HE.out.drewN _⟩
        case measure => simp [intOf]; omega
    · go_wp2_with fail
      go_ret
      exact ⟨ret_int (H1.out.none (by rw [HH.out.1]; omega)), HE.out⟩

set_option maxHeartbeats 400000 in
theorem valid11_any (h : Hk) (w : World) (hs : h.small) :
    Calls Try.prog 31 #[h.val] w fun e w' => e = .returned (.bool h.ok) ∧ Ext w w' := by
  have HS := Lib.hid hs; clear hs
  go_enter Try.func31, Try.ntmps31
  go_wp2_with fail
  refine (check08_any _ 1 1 [h] _ (hks_one h HS.out _ (by simp)) (by decide)).mono ?_
  rintro e w' ⟨rfl, hE⟩
  go_wp2_with fail
  go_ret
  refine ⟨ret_bool (ok_check h).symm, ?_⟩
  exact (((Ext.refl w).alloc _).alloc _).trans hE

set_option maxHeartbeats 400000 in
theorem moved_all (h : Hk) (n : Int) (w : World) (h0 : 0 ≤ h.at_) (h1 : h.at_ ≤ 1099511627776) (h2 : -1000000000000000 ≤ n) (h3 : n ≤ 1000000000000000) :
    Calls Try.prog 32 #[h.val, .int .i64 n] w fun e w' => e = .returned (.tuple #[({ h with at_ := h.at_ + n } : Hk).val, .bool (decide (h.at_ + n ≤ 1099511627776))]) ∧ Ext w w' := by
  go_enter Try.func32, Try.ntmps32
  go_wp2
  go_region
  go_wp2
  exact bodyPost_ret (v := .tuple #[({ h with at_ := h.at_ + n } : Hk).val, .bool (decide (h.at_ + n ≤ 1099511627776))]) (by simp [results, Try.results32, go_sem]) rfl ⟨rfl, (((Ext.refl _).alloc _).alloc _).drew⟩
theorem moved_any (h : Hk) (n : Int) (ok : Bool) (w : World) (h0 : 0 ≤ h.at_) (h1 : h.at_ ≤ 1099511627776) (h2 : -1000000000000000 ≤ n) (h3 : n ≤ 1000000000000000) (hok : decide (h.at_ + n ≤ 1099511627776) = ok) :
    Calls Try.prog 32 #[h.val, .int .i64 n] w fun e w' => e = .returned (.tuple #[({ h with at_ := h.at_ + n } : Hk).val, .bool ok]) ∧ Ext w w' := by
  subst hok; exact moved_all h n w h0 h1 h2 h3

set_option maxHeartbeats 400000 in
theorem invert11_is (h : Hk) (w : World) :
    Calls Try.prog 18 #[h.val] w fun e w' => e = .returned h.inv.val ∧ Ext w w' := by
  go_enter Try.func18, Try.ntmps18
  go_wp2
  exact bodyPost_ret (v := h.inv.val) (by simp [results, Try.results18, go_sem, Hk.inv]) rfl ⟨rfl, ((Ext.refl _).alloc _).alloc _⟩
end Go.Proofs.Ytilogolnoifigaa

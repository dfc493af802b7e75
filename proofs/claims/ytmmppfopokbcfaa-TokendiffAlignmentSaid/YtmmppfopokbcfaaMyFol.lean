/- Contracts: following a diagonal, on both sides; table.step. -/
import Derived.Test.YtmmppfopokbcfaaMyDefs
namespace Go.Proofs.Ytmmppfopokbcfaa
open Go.RowKit

set_option maxRecDepth 100000 in
set_option maxHeartbeats 2000000 in
theorem folc_any (A B : Option Addr) (n m c d : Nat) (a b : Lns) (ga gb : Nat) (x0 k : Int) (w : World) (ha : Strs w A n a) (hb : Strs w B m b)
    (hga : Blk w ga (.cells #[.slice A n c] 31 (0, 0))) (hgb : Blk w gb (.cells #[.slice B m d] 31 (0, 0)))
    (hn : n ≤ 1000) (hm : m ≤ 1000) (hx : -1000000 ≤ x0) (hx' : x0 ≤ 1000000) (hk : -1000000 ≤ k) (hk' : k ≤ 1000000) :
    Calls Try.prog 67 #[.int .i64 x0, .int .i64 k, .pointer (some ⟨ga, 0, none⟩), .pointer (some ⟨gb, 0, none⟩)] w fun e w' => e = .returned (.int .i64 (folV a b x0 k)) ∧ Ext w w' := by
  have HA := Lib.hid ha; have HB := Lib.hid hb; have GA := Lib.hid hga; have GB := Lib.hid hgb; clear ha hb hga hgb
  obtain rfl : a.length = n := HA.out.1
  obtain rfl : b.length = m := HB.out.1
  go_enter Try.func67, Try.ntmps67
  go_wp2_with fail
  go_loopw [0] (fun v wr => ∃ x : Int, v = .int .i64 x ∧ -1000000 ≤ x ∧ x ≤ 1000000 ∧ folV a b x k = folV a b x0 k ∧ Ext w wr) (fun v _ => ((a.length : Int) - intOf v).toNat)
  case atStart => exact ⟨x0, rfl, hx, hx', rfl, Ext.refl _⟩
  case round =>
    obtain ⟨x, rfl, hx1, hx2, hf, hE⟩ := hrel
    have HE := Lib.hid hE; have HF := Lib.hid hf; clear hE hf
    have c1 := ((GA.out.ext HE.out).cell 0); have c2 := ((GB.out.ext HE.out).cell 0)
    replace c1 : wr.cell? ⟨ga, 0, none⟩ = some (.slice A a.length c) := c1
    replace c2 : wr.cell? ⟨gb, 0, none⟩ = some (.slice B b.length d) := c2
    by_cases g1 : 0 ≤ x
    case neg =>
      have g1' : decide (0 ≤ x) = false := by simpa using g1
      have hs : folV a b x k = x := folV_stop (mtB_out (fun h => g1 h.1))
      have HS := Lib.hid hs; clear hs
      go_wp2_with fail
      go_quiet (fail)
      go_wp2_with fail
      go_ret
      exact ⟨ret_int (by rw [← HF.out, HS.out]), HE.out.drewN _⟩
    by_cases g2 : k ≤ x
    case neg =>
      have g2' : decide (k ≤ x) = false := by simpa using g2
      have hs : folV a b x k = x := folV_stop (mtB_out (fun h => g2 (by omega)))
      have HS := Lib.hid hs; clear hs
      go_wp2_with fail
      go_quiet (fail)
      go_wp2_with fail
      go_ret
      exact ⟨ret_int (by rw [← HF.out, HS.out]), HE.out.drewN _⟩
    by_cases g3 : x < a.length
    case neg =>
      have g3' : decide (x < a.length) = false := by simpa using g3
      have hs : folV a b x k = x := folV_stop (mtB_out (fun h => g3 (by omega)))
      have HS := Lib.hid hs; clear hs
      go_wp2_with fail
      go_quiet (fail)
      go_wp2_with fail
      go_ret
      exact ⟨ret_int (by rw [← HF.out, HS.out]), HE.out.drewN _⟩
    by_cases g4 : x - k < b.length
    case neg =>
      have g4' : decide (x - k < b.length) = false := by simpa using g4
      have hs : folV a b x k = x := folV_stop (mtB_out (fun h => g4 (by omega)))
      have HS := Lib.hid hs; clear hs
      go_wp2_with fail
      go_quiet (fail)
      go_wp2_with fail
      go_ret
      exact ⟨ret_int (by rw [← HF.out, HS.out]), HE.out.drewN _⟩
    obtain ⟨p, rfl⟩ : ∃ p : Nat, x = p := ⟨x.toNat, by omega⟩
    obtain ⟨q, hq⟩ : ∃ q : Nat, (p : Int) - k = q := ⟨((p : Int) - k).toNat, by omega⟩
    have hpl : p < a.length := by omega
    have hql : q < b.length := by omega
    obtain ⟨ba, oa, s, rfl, hba, hs, hs2, hc1⟩ := (HA.out.ext HE.out).get hpl
    obtain ⟨bb, ob, t, rfl, hbb, ht, ht2, hc2⟩ := (HB.out.ext HE.out).get hql
    have hmt : mtB a b p ((p : Int) - k) = decide (s = t) := by rw [hq]; exact mtB_at hs ht
    have HM := Lib.hid hmt; clear hmt hs ht
    by_cases hst : s = t
    · subst hst
      have hstep := folV_step (x := p) (k := k) (by rw [HM.out]; simp)
      have HS := Lib.hid hstep; clear hstep
      go_wp2_with fail
      go_quiet (fail)
      go_wp2_with fail
      go_roundw
      case rel => exact ⟨(p : Int) + 1, by go_num, by omega, by omega, by rw [← HS.out, HF.out], HE.out.drewN _⟩
      case measure => simp [intOf]; omega
    · have hne : (s.toList == t.toList) = false := by
        cases e : (s.toList == t.toList) with
        | false => rfl
        | true => exact absurd (toList_inj (by simpa using e)) hst
      have hstop := folV_stop (x := p) (k := k) (by rw [HM.out]; simpa using hst)
      have HS := Lib.hid hstop; clear hstop hst
      go_wp2_with fail
      go_quiet (fail)
      go_wp2_with fail
      go_ret
      exact ⟨ret_int (by rw [← HF.out, HS.out]), HE.out.drewN _⟩
end Go.Proofs.Ytmmppfopokbcfaa

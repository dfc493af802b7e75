/- Contract: the reference's Check. -/
import Derived.Test.YtkkjhkmfoeblaaaMyCheck
namespace Go.Proofs.Ytkkjhkmfoeblaaa
open Go.RowKit

set_option maxRecDepth 100000 in
set_option maxHeartbeats 8000000 in
theorem refCheck_any (A B C : Option Addr) (n c m d ln lc : Nat) (a b : Lns) (ms : List Mt) (w : World) (ha : Strs w A n a) (hb : Strs w B m b) (hl : Mts w C ln ms) (hn : n ≤ 1000) (hm : m ≤ 1000) (hln : ln ≤ 1000) :
    Calls Try.prog 18 #[.slice A n c, .slice B m d, .slice C ln lc] w fun e w' => e = .returned (.int .i64 (checkV a b (-1) (-1) ms)) ∧ Ext w w' := by
  obtain rfl : a.length = n := ha.1
  obtain rfl : b.length = m := hb.1
  have HA := Lib.hid ha; have HB := Lib.hid hb; have HL := Lib.hid hl; clear ha hb hl
  go_enter Try.func18, Try.ntmps18
  go_wp2_with fail
  go_loopw [7, 8, 9] (fun v7 v8 v9 wr => ∃ (k : Nat) (x y u v : Int), k ≤ ln ∧ v9 = .int .i64 k ∧ v7 = .int .i64 u ∧ v8 = .int .i64 v ∧ ((k = 0 ∧ x = -1 ∧ y = -1 ∧ u = 0 ∧ v = 0) ∨ (0 < k ∧ u = x ∧ v = y)) ∧ 0 ≤ u ∧ u ≤ 1000 ∧ 0 ≤ v ∧ v ≤ 1000 ∧ checkV a b (-1) (-1) ms = checkV a b x y (ms.drop k) ∧ Ext w wr) (fun _ _ v9 _ => ln - (intOf v9).toNat)
  case atStart => exact ⟨0, -1, -1, 0, 0, Nat.zero_le _, rfl, rfl, rfl, .inl ⟨rfl, rfl, rfl, rfl, rfl⟩, by omega, by omega, by omega, by omega, rfl, Ext.refl _⟩
  case round =>
    obtain ⟨k, x, y, u, v, hk, rfl, rfl, rfl, hxy, hx1, hx2, hy1, hy2, hch, hE⟩ := hrel
    have HC := Lib.hid hch; have HE := Lib.hid hE; have HXY := Lib.hid hxy; clear hch hE hxy
    by_cases hlt : k < ln
    case neg =>
      have hkn : ms.drop k = [] := List.drop_of_length_le (by rw [HL.out.1]; omega)
      have HK := Lib.hid hkn; clear hkn
      go_wp2_with fail
      go_ret
      exact ⟨ret_int (by rw [HC.out, HK.out]; rfl), HE.out⟩
    obtain ⟨bb, off, ⟨ma, mb, mn⟩, rfl, hbb, hs, hwf, c1, c2, c3⟩ := (HL.out.ext HE.out).get hlt
    dsimp only at c1 c2 c3
    obtain ⟨⟨w1, w2⟩, ⟨w3, w4⟩, ⟨w5, w6⟩⟩ : ((-9223372036854775808 : Int) ≤ ma ∧ ma ≤ 9223372036854775807) ∧ ((-9223372036854775808 : Int) ≤ mb ∧ mb ≤ 9223372036854775807) ∧ ((-9223372036854775808 : Int) ≤ mn ∧ mn ≤ 9223372036854775807) := hwf
    have HS := Lib.hid (drop_of hs); clear hs
    by_cases g1 : mn < 1
    · have hcode : codeV a b x y ⟨ma, mb, mn⟩ = 1 := by rw [codeV, if_pos g1]
      have HCO := Lib.hid hcode; clear hcode
      go_wp2_with fail
      go_ret
      exact ⟨ret_int (by rw [HC.out, HS.out, checkV_bad HCO.out (by decide)]), HE.out.alloc _⟩
    have g1' := nd g1
    have g1b : 1 ≤ mn := by omega
    have hwa : wrap64 ((a.length : Int) - mn) = (a.length : Int) - mn := w64_in (by omega) (by omega)
    have hwb : wrap64 ((b.length : Int) - mn) = (b.length : Int) - mn := w64_in (by omega) (by omega)
    by_cases g2 : ma < 0 ∨ mb < 0 ∨ (a.length : Int) - mn < ma ∨ (b.length : Int) - mn < mb
    · have hcode : codeV a b x y ⟨ma, mb, mn⟩ = 2 := by rw [codeV, if_neg g1, if_pos g2]
      have HCO := Lib.hid hcode; clear hcode
      rcases q1 : decide (ma < 0) with _ | _
      · rcases q2 : decide (mb < 0) with _ | _
        · rcases q3 : decide ((a.length : Int) < mn) with _ | _
          · rcases q4 : decide ((b.length : Int) < mn) with _ | _
            · rcases q5 : decide ((a.length : Int) - mn < ma) with _ | _
              · have hg6 : (b.length : Int) - mn < mb := by simp only [decide_eq_false_iff_not] at q1 q2 q3 q4 q5; omega
                have hg6' := yd hg6
                clear g2
                go_wp2_with fail
                go_ret
                exact ⟨ret_int (by rw [HC.out, HS.out, checkV_bad HCO.out (by decide)]), HE.out.alloc _⟩
              · clear g2
                go_wp2_with fail
                go_ret
                exact ⟨ret_int (by rw [HC.out, HS.out, checkV_bad HCO.out (by decide)]), HE.out.alloc _⟩
            · clear g2
              go_wp2_with fail
              go_ret
              exact ⟨ret_int (by rw [HC.out, HS.out, checkV_bad HCO.out (by decide)]), HE.out.alloc _⟩
          · clear g2
            go_wp2_with fail
            go_ret
            exact ⟨ret_int (by rw [HC.out, HS.out, checkV_bad HCO.out (by decide)]), HE.out.alloc _⟩
        · clear g2
          go_wp2_with fail
          go_ret
          exact ⟨ret_int (by rw [HC.out, HS.out, checkV_bad HCO.out (by decide)]), HE.out.alloc _⟩
      · clear g2
        go_wp2_with fail
        go_ret
        exact ⟨ret_int (by rw [HC.out, HS.out, checkV_bad HCO.out (by decide)]), HE.out.alloc _⟩
    have h21 : ¬ ma < 0 := fun h => g2 (.inl h)
    have h22 : ¬ mb < 0 := fun h => g2 (.inr (.inl h))
    have h23 : ¬ (a.length : Int) - mn < ma := fun h => g2 (.inr (.inr (.inl h)))
    have h24 : ¬ (b.length : Int) - mn < mb := fun h => g2 (.inr (.inr (.inr h)))
    have h21' := nd h21; have h22' := nd h22; have h23' := nd h23; have h24' := nd h24
    have h25' : decide ((a.length : Int) < mn) = false := nd (by omega)
    have h26' : decide ((b.length : Int) < mn) = false := nd (by omega)
    by_cases g3 : ma < u ∨ mb < v ∨ (0 < k ∧ ma = u ∧ mb = v)
    · have hcode : codeV a b x y ⟨ma, mb, mn⟩ = 9 := by
        rw [codeV, if_neg g1, if_neg g2, if_pos ?_]
        rcases HXY.out with ⟨rfl, rfl, rfl, rfl, rfl⟩ | ⟨h0, rfl, rfl⟩
        · show ma < -1 ∨ mb < -1 ∨ (ma = -1 ∧ mb = -1); omega
        · show ma < u ∨ mb < v ∨ (ma = u ∧ mb = v); omega
      have HCO := Lib.hid hcode; clear hcode
      clear g2
      rcases q1 : decide (ma < u) with _ | _
      · rcases q2 : decide (mb < v) with _ | _
        · have hg3 : 0 < k ∧ ma = u ∧ mb = v := by simp only [decide_eq_false_iff_not] at q1 q2; omega
          have e1 : (ma == u) = true := by simpa using hg3.2.1
          have e2 : (mb == v) = true := by simpa using hg3.2.2
          have e3 : 0 < k := by omega
          clear g3 hg3
          go_wp2_with fail
          go_ret
          exact ⟨ret_int (by rw [HC.out, HS.out, checkV_bad HCO.out (by decide)]), HE.out.alloc _⟩
        · clear g3
          go_wp2_with fail
          go_ret
          exact ⟨ret_int (by rw [HC.out, HS.out, checkV_bad HCO.out (by decide)]), HE.out.alloc _⟩
      · clear g3
        go_wp2_with fail
        go_ret
        exact ⟨ret_int (by rw [HC.out, HS.out, checkV_bad HCO.out (by decide)]), HE.out.alloc _⟩
    have h31' := nd (fun h => g3 (.inl h)); have h32' := nd (fun h => g3 (.inr (.inl h)))
    have hcode : codeV a b x y ⟨ma, mb, mn⟩ = if (a.drop ma.toNat).take mn.toNat = (b.drop mb.toNat).take mn.toNat then 0 else 10 := by
      rw [codeV, if_neg g1, if_neg g2, if_neg ?_]
      rcases HXY.out with ⟨rfl, rfl, rfl, rfl, rfl⟩ | ⟨h0, rfl, rfl⟩
      · show ¬ (ma < -1 ∨ mb < -1 ∨ (ma = -1 ∧ mb = -1)); omega
      · show ¬ (ma < u ∨ mb < v ∨ (ma = u ∧ mb = v)); omega
    have hq : decide (0 < k) = false ∨ (decide (0 < k) = true ∧ (ma == u) = false) ∨ (decide (0 < k) = true ∧ (ma == u) = true ∧ (mb == v) = false) := by
      simp only [decide_eq_false_iff_not, decide_eq_true_eq, beq_eq_false_iff_ne, beq_iff_eq]; omega
    clear g1 g2 g3
    obtain ⟨p, rfl⟩ : ∃ p : Nat, ma = p := ⟨ma.toNat, by omega⟩
    obtain ⟨q, rfl⟩ : ∃ q : Nat, mb = q := ⟨mb.toNat, by omega⟩
    obtain ⟨l, rfl⟩ : ∃ l : Nat, mn = l := ⟨mn.toNat, by omega⟩
    simp only [Int.toNat_natCast] at hcode
    have hpl : p + l ≤ a.length := by omega
    have hql : q + l ≤ b.length := by omega
    have h25n := nd (show ¬ a.length < l by omega); have h26n := nd (show ¬ b.length < l by omega)
    have HCO := Lib.hid hcode; clear hcode
    rcases hq with hq1 | ⟨hq1, hq2⟩ | ⟨hq1, hq2, hq3⟩
    all_goals
      go_wp2_with fail
      obtain ⟨wo, hwo⟩ : ∃ wo : World, wo = wr.alloc (Mt.obj ⟨p, q, l⟩) := ⟨_, rfl⟩
      have hbo : Blk wo wr.heap.size (Mt.obj ⟨p, q, l⟩) := by rw [hwo]; exact Blk.new wr _ rfl
      have heo : Ext w wo := by rw [hwo]; exact HE.out.alloc _
      have HBO := Lib.hid hbo; have HEO := Lib.hid heo; have HWO := Lib.hid hwo; clear hbo heo hwo
      go_loopw [11] (fun v11 wq => ∃ j : Nat, j ≤ l ∧ v11 = .int .i64 j ∧ (a.drop p).take j = (b.drop q).take j ∧ Ext wo wq) (fun v11 _ => l - (intOf v11).toNat)
      case atStart => exact ⟨0, Nat.zero_le _, rfl, rfl, by rw [HWO.out]; exact Ext.refl _⟩
      case round =>
        obtain ⟨j, hj, rfl, htk, hE2⟩ := hrel
        have HT := Lib.hid htk; have HE2 := Lib.hid hE2; clear htk hE2
        obtain ⟨d0, d1, d2⟩ := (HBO.out.ext HE2.out).cells3
        by_cases hjl : j < l
        · obtain ⟨ba, oa, s, rfl, hba, hsa, hsa2, hca⟩ := (HA.out.ext (HEO.out.trans HE2.out)).get (k := p + j) (by omega)
          obtain ⟨bb2, ob, t, rfl, hb2, hsb, hsb2, hcb⟩ := (HB.out.ext (HEO.out.trans HE2.out)).get (k := q + j) (by omega)
          have e1 : IntKind.i64.wrap ((p : Int) + j) = (p : Int) + j := wrap_in (by omega) (by omega)
          have e2 : ((p : Int) + j).toNat = p + j := by omega
          have e3 : (0 : Int) ≤ (p : Int) + j := by omega
          have e4 : (p : Int) + j < a.length := by omega
          have f1 : IntKind.i64.wrap ((q : Int) + j) = (q : Int) + j := wrap_in (by omega) (by omega)
          have f2 : ((q : Int) + j).toNat = q + j := by omega
          have f3 : (0 : Int) ≤ (q : Int) + j := by omega
          have f4 : (q : Int) + j < b.length := by omega
          have hda : (a.drop p)[j]? = some s := by rw [List.getElem?_drop]; exact hsa
          have hdb : (b.drop q)[j]? = some t := by rw [List.getElem?_drop]; exact hsb
          have HDA := Lib.hid hda; have HDB := Lib.hid hdb; clear hda hdb hsa hsb
          by_cases hst : s = t
          · subst hst
            go_wp2_with fail
            go_quiet (fail)
            clear e1 e2 e3 e4 f1 f2 f3 f4
            go_wp2_with fail
            go_roundw
            case rel => exact ⟨j + 1, by omega, by go_num, by rw [take_succ_of HDA.out, take_succ_of HDB.out, HT.out], HE2.out.drewN _⟩
            case measure => simp [intOf]; omega
          · have hne : (!s.toList == t.toList) = true := by
              cases e : (s.toList == t.toList) with
              | false => rfl
              | true => exact absurd (toList_inj (by simpa using e)) hst
            have hbad : codeV a b x y ⟨p, q, l⟩ = 10 := by
              rw [HCO.out, if_neg ?_]
              intro h
              have h1 : ((a.drop p).take l)[j]? = ((b.drop q).take l)[j]? := by rw [h]
              rw [List.getElem?_take_of_lt hjl, List.getElem?_take_of_lt hjl, HDA.out, HDB.out] at h1
              exact hst (by simpa using h1)
            have HN := Lib.hid hbad; clear hbad hst
            go_wp2_with fail
            go_quiet (fail)
            clear e1 e2 e3 e4 f1 f2 f3 f4
            go_wp2_with fail
            go_ret
            exact ⟨ret_int (by rw [HC.out, HS.out, checkV_bad HN.out (by decide)]), (HEO.out.trans HE2.out).drewN _⟩
        · obtain rfl : j = l := by omega
          have hgood : codeV a b x y ⟨p, q, j⟩ = 0 := by rw [HCO.out, if_pos HT.out]
          have HN := Lib.hid hgood; clear hgood
          go_wp2_with fail
          go_quiet (fail)
          go_wp2_with fail
          go_roundw
          case rel =>
            refine ⟨k + 1, (p : Int) + j, (q : Int) + j, (p : Int) + j, (q : Int) + j, by omega, by go_num, by go_num, by go_num, .inr ⟨by omega, rfl, rfl⟩, by omega, by omega, by omega, by omega, ?_, (HEO.out.trans HE2.out).drewN _⟩
            rw [HC.out, HS.out, checkV_good HN.out]
          case measure => simp [intOf]; omega
end Go.Proofs.Ytkkjhkmfoeblaaa

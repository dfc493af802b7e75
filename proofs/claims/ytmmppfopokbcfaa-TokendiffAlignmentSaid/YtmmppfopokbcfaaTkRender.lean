/- Contracts: Render; Same. -/
import Derived.Test.YtmmppfopokbcfaaTkValid
namespace Go.Proofs.Ytmmppfopokbcfaa
open Go.RowKit

theorem rend_take (l : List Pc) (j : Nat) : (rendL (l.take j)).length ≤ (rendL l).length := by
  conv => rhs; rw [← List.take_append_drop j l, rend_app, List.length_append]
  omega
theorem rend_snoc (l : List Pc) (x : Pc) : rendL (l ++ [x]) = rendL l ++ lead x.k ++ quoteL x.t.data.toList ++ trail x.k := by
  rw [rend_app]; simp [rendL]
theorem lead_size (k : Int) : (mkS (lead k)).size ≤ 2 := by 
  rw [mkS_size]; unfold lead
  split
  · simp
  · split <;> simp
theorem trail_size (k : Int) : (mkS (trail k)).size ≤ 2 := by 
  rw [mkS_size]; unfold trail
  split
  · simp
  · split <;> simp
theorem bk_ext {w w1 w2 : World} {b g : Nat} (h : Ext w w1) (hg : w.heap.size = g) (k : BK b g w1 w2) : Ext w w2 := Below.trans h (by rw [hg]; exact k.1)
def renE (l : List Pc) : Int := if vldV l then 0 else 1
set_option maxRecDepth 100000 in
set_option maxHeartbeats 8000000 in
theorem render_any (A : Option Addr) (n c : Nat) (l : List Pc) (w : World) (hS : Pcs w A n l) (hn : n ≤ 100000) (hl : (rendL l).length ≤ 80000) :
    Calls Try.prog 26 #[.slice A n c] w fun e w' => e = .returned (.tuple #[.string (rendV l), .int .i64 (renE l)]) ∧ Ext w w' := by
  have HS := Lib.hid hS; have HL := Lib.hid hS.1; clear hS
  cases hv : vldV l with
  | false =>
    have hr : rendV l = mkS [] := by rw [rendV, if_neg (by simp [hv])]
    have hr2 : renE l = 1 := by rw [renE, if_neg (by simp [hv])]
    rw [hr, hr2]
    have HV := Lib.hid hv; clear hv hr hr2
    go_enter Try.func26, Try.ntmps26
    go_wp2_with fail
    refine (valid_any A n c l w HS.out (by unfold Reach; omega)).mono ?_
    rintro e w1 ⟨rfl, hE⟩
    rw [HV.out]
    go_wp2_with fail
    go_ret2
    exact ⟨rfl, hE⟩
  | true =>
    have hr : rendV l = mkS (rendL l) := by rw [rendV, if_pos hv]
    have hr2 : renE l = 0 := by rw [renE, if_pos hv]
    rw [hr, hr2]
    have HV := Lib.hid hv; clear hv hr hr2
    go_enter Try.func26, Try.ntmps26
    go_wp2_with fail
    refine (valid_any A n c l w HS.out (by unfold Reach; omega)).mono ?_
    rintro e w1 ⟨rfl, hE⟩
    rw [HV.out]
    have HS1 := Lib.hid (HS.out.ext hE); have HE := Lib.hid hE; clear hE
    have hE1 : Ext w1 (w1.alloc (.cells #[.pointer none, .slice none 0 0] 73)) := (Ext.refl _).alloc _
    have hBn := Bd.new w1
    obtain ⟨g, hg⟩ : ∃ g, w1.heap.size = g := ⟨_, rfl⟩
    rw [hg] at hBn
    have HE1 := Lib.hid hE1; have HBn := Lib.hid hBn; have HG := Lib.hid hg; clear hE1 hBn
    go_wp2_with fail
    go_loopw [14] (fun v14 wr => ∃ j : Nat, j ≤ n ∧ v14 = .int .i64 j ∧ Bd g g (rendL (l.take j)) wr ∧ Ext w1 wr ∧ g ≤ wr.heap.size) (fun v14 _ => n - (intOf v14).toNat)
    case atStart => exact ⟨0, Nat.zero_le _, rfl, HBn.out, HE1.out, by have := HE1.out.size; omega⟩
    case round =>
      obtain ⟨j, hj, rfl, hb, hk, hgw⟩ := hrel
      have HB1 := Lib.hid hb; have HK := Lib.hid hk; clear hb hk
      by_cases hlt : j < n
      · obtain ⟨b, off, x, rfl, hb, hx, hwf, c0, c1⟩ := (HS1.out.ext HK.out).get hlt
        obtain ⟨xk, xt⟩ := x
        dsimp only at c0 c1
        have hst : rendL (l.take (j + 1)) = rendL (l.take j) ++ lead xk ++ quoteL xt.data.toList ++ trail xk := by rw [take_succ_of hx, rend_snoc]
        have hle := rend_take l (j + 1)
        have hle1 := rend_take l j
        rw [hst] at hle
        simp only [List.length_append] at hle
        have hq := quote_len xt.data.toList
        rw [← size_len] at hq
        have hl1 := lead_size xk
        have hl2 := trail_size xk
        have HST := Lib.hid hst; clear hst hx hwf
        have hbz := Blk.new wr (Pc.obj ⟨xk, xt⟩) rfl
        have hB2 := HB1.out.alloc (Pc.obj ⟨xk, xt⟩)
        have hE2 := HK.out.alloc (Pc.obj ⟨xk, xt⟩)
        obtain ⟨z, hz⟩ : ∃ z, wr.heap.size = z := ⟨_, rfl⟩
        rw [hz] at hbz hgw
        have hzg : z ≠ g := by
          intro e
          have h1 := HB1.out
          have : g < wr.heap.size := by
            rcases h1 with h1 | h1
            · exact h1.lt
            · exact h1.lt
          omega
        have HBZ := Lib.hid hbz; have HZG := Lib.hid hzg; have HB2 := Lib.hid hB2; have HE2 := Lib.hid hE2; clear hbz hzg hB2 hE2
        go_wp2_with fail
        obtain ⟨W5, hW5⟩ : ∃ W5, wr.alloc (Pc.obj ⟨xk, xt⟩) = W5 := ⟨_, rfl⟩
        have hg5 : g ≤ W5.heap.size := by rw [← hW5]; have := ((Ext.refl wr).alloc (Pc.obj ⟨xk, xt⟩)).size; omega
        rw [hW5] at HBZ HB2 HE2 ⊢
        clear hW5 hz c0 c1
        refine brackets_is.mono ?_
        rintro e W5' ⟨rfl, rfl⟩
        have d1 := HBZ.out.cell 1
        replace d1 : W5'.cell? ⟨z, 1, none⟩ = some (.string xt) := d1
        go_wp2_with fail
        refine (wstr_is (mkS (lead xk)) HB2.out (by omega) (by omega) hg5).mono ?_
        rintro e W6 ⟨rfl, hb, hk⟩
        have HB6 := Lib.hid hb; have HBZ6 := Lib.hid (hk.blk HBZ.out HZG.out (by decide)); have hg6 := Nat.le_trans hg5 hk.size; have HE6 := Lib.hid (bk_ext HE2.out HG.out hk); clear hb hk d1
        have d1 := HBZ6.out.cell 1
        replace d1 : W6.cell? ⟨z, 1, none⟩ = some (.string xt) := d1
        go_wp2_with fail
        refine (quoted_any xt g g _ W6 HB6.out (by rw [List.length_append, mkS_data]; omega) hg6).mono ?_
        rintro e W7 ⟨rfl, hb, hk⟩
        have HB7 := Lib.hid hb; have hg7 := Nat.le_trans hg6 hk.size; have HE7 := Lib.hid (bk_ext HE6.out HG.out hk); clear hb hk d1
        go_wp2_with fail
        refine (wstr_is (mkS (trail xk)) HB7.out (by rw [List.length_append, List.length_append, mkS_data]; omega) (by omega) hg7).mono ?_
        rintro e W8 ⟨rfl, hb, hk⟩
        have HB8 := Lib.hid hb; have hg8 := Nat.le_trans hg7 hk.size; have HE8 := Lib.hid (bk_ext HE7.out HG.out hk); clear hb hk
        go_wp2_with fail
        go_roundw
        case rel =>
          have h9 := HB8.out
          rw [mkS_data, mkS_data] at h9
          exact ⟨j + 1, by omega, by go_num, by rw [HST.out]; exact h9, HE8.out, hg8⟩
        case measure => simp [intOf]; omega
      · have h9 := HB1.out
        rw [List.take_of_length_le (by rw [HL.out]; omega)] at h9
        have HB9 := Lib.hid h9; clear h9
        go_wp2_with fail
        refine (bstr_is HB9.out hgw).mono ?_
        rintro e W6 ⟨rfl, hk⟩
        have HE6 := Lib.hid (bk_ext HK.out HG.out hk); clear hk
        go_wp2_with fail
        go_ret2
        exact ⟨rfl, HE.out.trans HE6.out⟩

set_option maxRecDepth 100000 in
set_option maxHeartbeats 4000000 in
theorem samep_any (A B : Option Addr) (n m c d : Nat) (xs ys : List Pc) (w : World) (ha : Pcs w A n xs) (hb : Pcs w B m ys) (hn : n ≤ Reach) (hm : m ≤ Reach) :
    Calls Try.prog 13 #[.slice A n c, .slice B m d] w fun e w' => e = .returned (.bool (decide (xs = ys))) ∧ Ext w w' := by
  unfold Reach at hn hm
  have HA := Lib.hid ha; have HB := Lib.hid hb; clear ha hb
  by_cases hnm : n = m
  · subst hnm
    have h0 : ((n : Int) != (n : Int)) = false := by simp
    go_enter Try.func13, Try.ntmps13
    go_wp2
    go_loopw [5] (fun i wr => ∃ k : Nat, k ≤ n ∧ i = .int .i64 k ∧ xs.take k = ys.take k ∧ Ext w wr) (fun i _ => n - (intOf i).toNat)
    case atStart => exact ⟨0, Nat.zero_le _, rfl, rfl, Ext.refl _⟩
    case round =>
      obtain ⟨k, hk, rfl, htk, hE⟩ := hrel
      have HE := Lib.hid hE; have HT := Lib.hid htk; clear hE htk
      by_cases hlt : k < n
      · obtain ⟨b, off, s, rfl, hb1, hs1, hs2, c1, c2⟩ := (HA.out.ext HE.out).get hlt
        obtain ⟨b', off', s', rfl, hb1', hs1', hs2', c1', c2'⟩ := (HB.out.ext HE.out).get hlt
        have HS := Lib.hid hs1; have HS' := Lib.hid hs1'; clear hs1 hs1'
        obtain ⟨sk, st⟩ := s
        obtain ⟨sk', st'⟩ := s'
        dsimp only at c1 c2 c1' c2'
        by_cases he : (⟨sk, st⟩ : Pc) = ⟨sk', st'⟩
        · obtain ⟨rfl, rfl⟩ : sk = sk' ∧ st = st' := by simpa using he
          go_wp2
          go_quiet (fail)
          go_wp2
          go_roundw
          case rel => exact ⟨k + 1, by omega, by go_num, by rw [take_succ_of HS.out, take_succ_of HS'.out, HT.out], HE.out.drewN _⟩
          case measure => simp [intOf]; omega
        · have hx : xs ≠ ys := fun e => by
            have h1 := HS.out; rw [e, HS'.out] at h1
            exact he (by simpa using h1.symm)
          have hd : (sk == sk') = false ∨ ((sk == sk') = true ∧ (st.toList == st'.toList) = false) := by
            simp only [Pc.mk.injEq, not_and] at he
            by_cases h1 : sk = sk'
            · right
              refine ⟨by simpa using h1, ?_⟩
              have h2 := he h1
              cases e : st.toList == st'.toList with
              | false => rfl
              | true => exact absurd (toList_inj (by simpa using e)) h2
            · left; simpa using h1
          have HX := Lib.hid hx; clear hx he
          rcases hd with h1 | ⟨h1, h2⟩
          all_goals
            go_wp2
            go_quiet (fail)
            go_wp2
            go_ret
            refine ⟨?_, HE.out.drewN _⟩
            simp [HX.out]
      · go_wp2
        go_ret
        refine ⟨?_, HE.out⟩
        have h1 := HT.out
        rw [List.take_of_length_le (by rw [HA.out.1]; omega), List.take_of_length_le (by rw [HB.out.1]; omega)] at h1
        simp [h1]
  · have h0 : ((n : Int) != (m : Int)) = true := by simp; omega
    have hx : xs ≠ ys := fun e => hnm (by rw [← HA.out.1, ← HB.out.1, e])
    go_enter Try.func13, Try.ntmps13
    go_wp2
    go_ret
    simp [hx, Ext.refl]
theorem samep_is {A B : Option Addr} {n m c d : Nat} {xs ys : List Pc} {r : Bool} {w : World} (hr : decide (xs = ys) = r) (ha : Pcs w A n xs) (hb : Pcs w B m ys) (hn : n ≤ Reach) (hm : m ≤ Reach) :
    Calls Try.prog 13 #[.slice A n c, .slice B m d] w fun e w' => e = .returned (.bool r) ∧ Ext w w' := by
  subst hr; exact samep_any A B n m c d xs ys w ha hb hn hm
end Go.Proofs.Ytmmppfopokbcfaa

/- Contracts of the reference: bounded, Certify. -/
import Derived.Test.YtmagicjmenbdpaaMyBound
import Derived.Test.YtmagicjmenbdpaaMyRefDiff
namespace Go.Proofs.Ytmagicjmenbdpaa
open Go.RowKit

set_option maxHeartbeats 4000000 in
theorem rfolq_any (A B : Option Addr) (n m c d : Nat) (a b : Lns) (x0 k : Int) (w : World) (ha : Strs w A n a) (hb : Strs w B m b)
    (hn : n ≤ 1000) (hm : m ≤ 1000) (hx : -1000000 ≤ x0) (hx' : x0 ≤ 1000000) (hk : -1000000 ≤ k) (hk' : k ≤ 1000000) :
    Calls Try.prog 52 #[.slice A n c, .slice B m d, .int .i64 x0, .int .i64 k] w fun e w' => e = .returned (.int .i64 (folV a b x0 k)) ∧ ∃ q, w' = w.drewN q := by
  have HA := Lib.hid ha; have HB := Lib.hid hb; clear ha hb
  obtain rfl : a.length = n := HA.out.1
  obtain rfl : b.length = m := HB.out.1
  go_enter Try.func52, Try.ntmps52
  go_wp2_with fail
  go_loopw [2] (fun v wr => ∃ x : Int, v = .int .i64 x ∧ -1000000 ≤ x ∧ x ≤ 1000000 ∧ folV a b x k = folV a b x0 k ∧ ∃ q, wr = w.drewN q) (fun v _ => ((a.length : Int) - intOf v).toNat)
  case atStart => exact ⟨x0, rfl, hx, hx', rfl, 0, rfl⟩
  case round =>
    obtain ⟨x, rfl, hx1, hx2, hf, q0, rfl⟩ := hrel
    have HE := Lib.hid ((Ext.refl w).drewN q0); have HF := Lib.hid hf; clear hf
    by_cases hin : 0 ≤ x ∧ x < a.length ∧ 0 ≤ x - k ∧ x - k < b.length
    case neg =>
      have hs : folV a b x k = x := folV_stop (mtB_out (fun h => hin (by omega)))
      have hd : decide (0 ≤ x) = false ∨ (decide (0 ≤ x) = true ∧ decide (x < a.length) = false) ∨ (decide (0 ≤ x) = true ∧ decide (x < a.length) = true ∧ decide (0 ≤ x - k) = false) ∨ (decide (0 ≤ x) = true ∧ decide (x < a.length) = true ∧ decide (0 ≤ x - k) = true ∧ decide (x - k < b.length) = false) := by
        simp only [decide_eq_true_eq, decide_eq_false_iff_not]; omega
      have hkx : decide (0 ≤ x - k) = decide (k ≤ x) := by rw [Bool.eq_iff_iff]; simp only [decide_eq_true_eq]; omega
      rw [hkx] at hd
      have HS := Lib.hid hs; clear hs hin hkx
      rcases hd with q1 | ⟨q1, q2⟩ | ⟨q1, q2, q3⟩ | ⟨q1, q2, q3, q4⟩
      all_goals
        go_wp2_with fail
        go_quiet (fail)
        go_wp2_with fail
        go_ret
        exact ⟨ret_int (by rw [← HF.out, HS.out]), _, by first | rfl | rw [World.drewN_drewN]⟩
    obtain ⟨p, rfl⟩ : ∃ p : Nat, x = p := ⟨x.toNat, by omega⟩
    obtain ⟨q, hq⟩ : ∃ q : Nat, (p : Int) - k = q := ⟨((p : Int) - k).toNat, by omega⟩
    have hpl : p < a.length := by omega
    have hql : q < b.length := by omega
    have hkp : k ≤ p := by omega
    obtain ⟨ba, oa, s, rfl, hba, hs, hs2, hc1⟩ := HA.out.get hpl
    obtain ⟨bb, ob, t, rfl, hbb, ht, ht2, hc2⟩ := HB.out.get hql
    have hmt : mtB a b p ((p : Int) - k) = decide (s = t) := by rw [hq]; exact mtB_at hs ht
    have HM := Lib.hid hmt; clear hmt hs ht hin
    by_cases hst : s = t
    · subst hst
      have hstep := folV_step (x := p) (k := k) (by rw [HM.out]; simp)
      have HS := Lib.hid hstep; clear hstep
      go_wp2_with fail
      go_quiet (fail)
      go_wp2_with fail
      go_roundw
      case rel => exact ⟨(p : Int) + 1, by go_num, by omega, by omega, by rw [← HS.out, HF.out], _, by first | rfl | rw [World.drewN_drewN]⟩
      case measure => simp [intOf]; omega
    · have hne : (s.toList == t.toList) = false := by
        cases e : (s.toList == t.toList) with
        | false => rfl
        | true => exact absurd (toList_inj (by simpa using e)) hst
      have hstop := folV_stop (x := p) (k := k) (by rw [HM.out]; simpa using hst)
      have HS := Lib.hid hstop; clear hstop hst
      go_wp2_with fail
      go_quiet (fail)
      go_wp2_with fail
      go_ret
      exact ⟨ret_int (by rw [← HF.out, HS.out]), _, by first | rfl | rw [World.drewN_drewN]⟩
theorem rfolq_is {A B : Option Addr} {n m c d : Nat} {a b : Lns} {x0 k r : Int} {w : World} {q : Nat} (h : folV a b x0 k = r) (ha : Strs w A n a) (hb : Strs w B m b)
    (hn : n ≤ 1000) (hm : m ≤ 1000) (hx : -1000000 ≤ x0) (hx' : x0 ≤ 1000000) (hk : -1000000 ≤ k) (hk' : k ≤ 1000000) :
    Calls Try.prog 52 #[.slice A n c, .slice B m d, .int .i64 x0, .int .i64 k] (w.drewN q) fun e w' => e = .returned (.int .i64 r) ∧ ∃ j, w' = (w.drewN q).drewN j := by
  subst h; exact rfolq_any A B n m c d a b x0 k _ (ha.ext ((Ext.refl w).drewN q)) (hb.ext ((Ext.refl w).drewN q)) hn hm hx hx' hk hk'

theorem begV_none {t : List Int} {d i : Nat} (ht : t.length = d) (hd : 0 < d) (hi : i = 0) {q : Int} (hq : t[0]? = some q) : begV t (2 * (i : Int) - d) = q := by
  subst hi
  obtain ⟨e, rfl⟩ : ∃ e, d = e + 1 := ⟨d - 1, by omega⟩
  have hl : atV t (2 * ((0 : Nat) : Int) - ((e + 1 : Nat) : Int) - 1) = none := atV_out ht (by omega)
  have hr : atV t (2 * ((0 : Nat) : Int) - ((e + 1 : Nat) : Int) + 1) = some q := by
    rw [atV_in ht (by omega) (by omega) (by omega), show ((2 * ((0 : Nat) : Int) - ((e + 1 : Nat) : Int) + 1 + e) / 2).toNat = 0 by omega]; exact hq
  simp only [begV, hl, hr]
theorem begV_both {t : List Int} {d i : Nat} (ht : t.length = d) (hd : i + 1 < d) {p q : Int} (hp : t[i]? = some p) (hq : t[i + 1]? = some q) : begV t (2 * ((i + 1 : Nat) : Int) - d) = if p + 1 < q then q else p + 1 := by
  obtain ⟨e, rfl⟩ : ∃ e, d = e + 1 := ⟨d - 1, by omega⟩
  have hl : atV t (2 * ((i + 1 : Nat) : Int) - ((e + 1 : Nat) : Int) - 1) = some p := by
    rw [atV_in ht (by omega) (by omega) (by omega), show ((2 * ((i + 1 : Nat) : Int) - ((e + 1 : Nat) : Int) - 1 + e) / 2).toNat = i by omega]; exact hp
  have hr : atV t (2 * ((i + 1 : Nat) : Int) - ((e + 1 : Nat) : Int) + 1) = some q := by
    rw [atV_in ht (by omega) (by omega) (by omega), show ((2 * ((i + 1 : Nat) : Int) - ((e + 1 : Nat) : Int) + 1 + e) / 2).toNat = i + 1 by omega]; exact hq
  simp only [begV, hl, hr]
theorem begV_left {t : List Int} {d i : Nat} (ht : t.length = d) (hd : i + 1 = d) {p : Int} (hp : t[i]? = some p) : begV t (2 * ((i + 1 : Nat) : Int) - d) = p + 1 := by
  subst hd
  have hl : atV t (2 * ((i + 1 : Nat) : Int) - ((i + 1 : Nat) : Int) - 1) = some p := by
    rw [atV_in ht (by omega) (by omega) (by omega), show ((2 * ((i + 1 : Nat) : Int) - ((i + 1 : Nat) : Int) - 1 + i) / 2).toNat = i by omega]; exact hp
  have hr : atV t (2 * ((i + 1 : Nat) : Int) - ((i + 1 : Nat) : Int) + 1) = none := atV_out ht (by omega)
  simp only [begV, hl, hr]
theorem rows_pos {a b : Lns} {before : List Int} {d : Nat} (hn : a.length ≤ 1000) (hd : d ≤ 1000) : ∀ (t : List Int) (i : Nat), rowsV a b before d i t = true → ∀ x ∈ t, 0 ≤ x ∧ x ≤ 2000
  | [], _, _, x, hx => by simp at hx
  | n :: r, i, h, x, hx => by
    simp only [rowsV, Bool.and_eq_true] at h
    rcases List.mem_cons.1 hx with rfl | hx
    · have := h.1
      simp only [rowOk, Bool.and_eq_true, decide_eq_true_eq] at this
      omega
    · exact rows_pos hn hd r _ h.2 x hx

set_option maxRecDepth 100000 in
set_option maxHeartbeats 32000000 in
theorem bounded_any (A B C D : Option Addr) (n c m cd tn tc pn pc : Nat) (a b : Lns) (t before : List Int) (d : Nat) (w : World) (ha : Strs w A n a) (hb : Strs w B m b) (hn : n ≤ 100) (hm : m ≤ 100) (hd : d ≤ 200)
    (ht : Ints w C tn t) (htn : tn ≤ 300) (hp : Ints w D pn before) (hpn : pn = d) (hwf : ∀ x ∈ t, (Lit.int .i64 x).wf = true) (hsm : ∀ x ∈ before, 0 ≤ x ∧ x ≤ 2000) :
    Calls Try.prog 44 #[.slice A n c, .slice B m cd, .slice D pn pc, .slice C tn tc, .int .i64 d] w fun e w' => e = .returned (.bool (decide (t.length = d + 1) && (rowsV a b before d 0 t && endOk a b t))) ∧ Ext w w' := by
  obtain rfl : a.length = n := ha.1
  obtain rfl : b.length = m := hb.1
  have HA := Lib.hid ha; have HB := Lib.hid hb; have HT := Lib.hid ht; have HP := Lib.hid hp; have HW := Lib.hid hwf; have HS := Lib.hid hsm; have HPN := Lib.hid hpn
  clear ha hb ht hp hwf hsm hpn
  by_cases htd : tn = d + 1
  case neg =>
    have e1 : ((tn : Int) != (d : Int) + 1) = true := by simp; omega
    have hres : (decide (t.length = d + 1) && (rowsV a b before d 0 t && endOk a b t)) = false := by rw [decide_eq_false (by rw [HT.out.1]; exact htd)]; rfl
    have HRS := Lib.hid hres; clear hres htd
    go_enter Try.func44, Try.ntmps44
    go_wp2_with fail
    go_ret
    exact ⟨ret_bool HRS.out.symm, Ext.refl _⟩
  subst htd
  have hlen := HT.out.1
  have hres : (decide (t.length = d + 1) && (rowsV a b before d 0 t && endOk a b t)) = (rowsV a b before d 0 t && endOk a b t) := by rw [decide_eq_true hlen]; rfl
  rw [hres]
  have HLEN := Lib.hid hlen
  clear hres hlen
  have e1 : (((d : Int) + 1) != (d : Int) + 1) = false := by simp
  go_enter Try.func44, Try.ntmps44
  go_wp2_with fail
  clear e1
  go_loopw [11] (fun v wr => ∃ i : Nat, i ≤ d + 1 ∧ v = .int .i64 i ∧ rowsV a b before d 0 t = rowsV a b before d i (t.drop i) ∧ Ext w wr) (fun v _ => d + 2 - (intOf v).toNat)
  case atStart => exact ⟨0, by omega, rfl, rfl, Ext.refl _⟩
  case round =>
    obtain ⟨i, hi, rfl, hr, hE⟩ := hrel
    have HR := Lib.hid hr; have HE := Lib.hid hE; clear hr hE
    by_cases hlt : i < d + 1
    case neg =>
      obtain rfl : i = d + 1 := by omega
      have hnil : t.drop (d + 1) = [] := List.drop_of_length_le (by rw [HT.out.1]; omega)
      have hrow : rowsV a b before d 0 t = true := by rw [HR.out, hnil]; rfl
      have hsmt := rows_small (by omega) (by omega) _ _ hrow
      have HROW := Lib.hid hrow; clear hnil hrow
      have hge : ¬ (((d + 1 : Nat) : Int) ≤ d) := by omega
      by_cases hin : -(d : Int) ≤ (a.length : Int) - b.length ∧ (a.length : Int) - b.length ≤ d ∧ ((a.length : Int) - b.length + d) % 2 = 0
      · obtain ⟨q1, q2, q3⟩ := hin
        obtain ⟨j, hj⟩ : ∃ j : Nat, ((a.length : Int) - b.length + d) / 2 = j := ⟨(((a.length : Int) - b.length + d) / 2).toNat, by omega⟩
        have hjd : (j : Int) < (d : Int) + 1 := by omega
        obtain ⟨bb, off, x, rfl, hbb, hx, hcx⟩ := (HT.out.ext HE.out).get (k := j) (by omega)
        have hat : atV t ((a.length : Int) - b.length) = some x := by rw [atV_in HLEN.out q1 q2 q3, hj]; simpa using hx
        have hxb := atV_small hsmt hat
        have hend : endOk a b t = decide (x < a.length) := by rw [endOk, hat]
        have HEND := Lib.hid hend; have HJ := Lib.hid hj
        clear hend hj hat hx hsmt
        cases hxa : decide (x < (a.length : Int)) with
        | true =>
          go_wp2_with fail
          refine (rat_yes q1 q2 q3 HJ.out (by omega)).mono ?_
          rintro e w4 ⟨rfl, rfl⟩
          go_wp2_with fail
          go_ret
          exact ⟨ret_bool (by rw [HROW.out, HEND.out, hxa]; rfl), HE.out⟩
        | false =>
          go_wp2_with fail
          refine (rat_yes q1 q2 q3 HJ.out (by omega)).mono ?_
          rintro e w4 ⟨rfl, rfl⟩
          go_wp2_with fail
          go_ret
          exact ⟨ret_bool (by rw [HROW.out, HEND.out, hxa]; rfl), HE.out⟩
      · have hat : atV t ((a.length : Int) - b.length) = none := atV_out HLEN.out (by omega)
        have hend : endOk a b t = true := by rw [endOk, hat]
        have HEND := Lib.hid hend
        clear hend hat hsmt
        go_wp2_with fail
        refine (rat_no (d := d) (by omega) (by omega) (by omega) (by omega)).mono ?_
        rintro e w4 ⟨rfl, rfl⟩
        go_wp2_with fail
        go_ret
        exact ⟨ret_bool (by rw [HROW.out, HEND.out]; rfl), HE.out⟩
    obtain ⟨bb, off, x, rfl, hbb, hx, hc⟩ := (HT.out.ext HE.out).get hlt
    obtain ⟨hw1, hw2⟩ := bounds_i64 (HW.out x (List.mem_of_getElem? hx))
    have HX := Lib.hid (drop_of hx); clear hx
    obtain ⟨be, hbe⟩ : ∃ be, (if d = 0 then 0 else begV before (2 * (i : Int) - d)) = be := ⟨_, rfl⟩
    have hok : rowOk a b before d i x = (decide (0 ≤ x) && (decide (x ≤ (a.length : Int) + d) && decide (folV a b be (2 * (i : Int) - d) ≤ x))) := by rw [rowOk, hbe]
    obtain ⟨fo, hfo⟩ : ∃ fo, folV a b be (2 * (i : Int) - d) = fo := ⟨_, rfl⟩
    rw [hfo] at hok
    have HOK := Lib.hid hok; have HFO := Lib.hid hfo; have HBE := Lib.hid hbe; clear hok hfo hbe
    have hout : (decide (x < 0) = true ∧ rowOk a b before d i x = false) ∨ (decide (x < 0) = false ∧ decide ((a.length : Int) + d < x) = true ∧ rowOk a b before d i x = false) ∨
        (decide (x < 0) = false ∧ decide ((a.length : Int) + d < x) = false ∧ decide (x < fo) = true ∧ rowOk a b before d i x = false) ∨ (decide (x < 0) = false ∧ decide ((a.length : Int) + d < x) = false ∧ decide (x < fo) = false ∧ rowOk a b before d i x = true) := by
      rw [HOK.out]
      simp only [decide_eq_true_eq, decide_eq_false_iff_not, Bool.and_eq_false_imp, Bool.and_eq_true]
      omega
    have g1 : IntKind.i64.wrap (2 * (i : Int)) = 2 * (i : Int) := wrap_in (by omega) (by omega)
    have g2 : IntKind.i64.wrap (2 * (i : Int) - d) = 2 * (i : Int) - d := wrap_in (by omega) (by omega)
    have g3 : IntKind.i64.wrap ((a.length : Int) + d) = (a.length : Int) + d := wrap_in (by omega) (by omega)
    have G := Lib.hid (And.intro g1 (And.intro g2 g3)); clear g1 g2 g3
    rcases Nat.eq_zero_or_pos i with hi0 | hi0
    · have ni := nd (show ¬ 0 < i by omega)
      rcases Nat.eq_zero_or_pos d with hd0 | hd0
      · have nid := nd (show ¬ i < d by omega)
        have hbe := HBE.out
        rw [if_pos hd0] at hbe
        subst hbe
        clear hi0 hd0
        go_wp2_with fail
        obtain ⟨g1, g2, g3⟩ := G.out
        rcases hout with ⟨o1, ho⟩ | ⟨o1, o2, ho⟩ | ⟨o1, o2, o3, ho⟩ | ⟨o1, o2, o3, ho⟩
        · have HO := Lib.hid ho; clear ho
          go_quiet (fail)
          clear g1 g2 g3
          go_wp2_with fail
          go_ret
          exact ⟨ret_bool (by rw [HR.out, HX.out, rows_bad HO.out]; rfl), HE.out.drewN _⟩
        · have HO := Lib.hid ho; clear ho
          go_quiet (fail)
          clear g1 g2 g3
          go_wp2_with fail
          go_ret
          exact ⟨ret_bool (by rw [HR.out, HX.out, rows_bad HO.out]; rfl), HE.out.drewN _⟩
        · have HO := Lib.hid ho; clear ho
          go_quiet ((go_at_call 52; exact Calls.quiet_of (rfolq_is HFO.out (HA.out.ext HE.out) (HB.out.ext HE.out) (by omega) (by omega) (by omega) (by omega) (by omega) (by omega))))
          clear g1 g2 g3
          go_wp2_with fail
          go_ret
          exact ⟨ret_bool (by rw [HR.out, HX.out, rows_bad HO.out]; rfl), HE.out.drewN _⟩
        · have HO := Lib.hid ho; clear ho
          go_quiet ((go_at_call 52; exact Calls.quiet_of (rfolq_is HFO.out (HA.out.ext HE.out) (HB.out.ext HE.out) (by omega) (by omega) (by omega) (by omega) (by omega) (by omega))))
          clear g1 g2 g3
          go_wp2_with fail
          go_roundw
          case rel => exact ⟨i + 1, by omega, by go_num, by rw [HR.out, HX.out, rows_good HO.out], HE.out.drewN _⟩
          case measure => simp [intOf]; omega
      · have nid := yd (show i < d by omega)
        obtain ⟨bc, oc, q, rfl, hbc, hq, hcq⟩ := (HP.out.ext HE.out).get (k := i) (by have := HPN.out; omega)
        have hq0 : before[0]? = some q := by rw [← hi0]; exact hq
        obtain ⟨hqb, hqb2⟩ := HS.out q (List.mem_of_getElem? hq)
        have hbe := HBE.out
        rw [if_neg (by omega), begV_none (by rw [HP.out.1]; exact HPN.out) hd0 hi0 hq0] at hbe
        subst hbe
        have nip : i < pn := by have := HPN.out; omega
        clear hi0 hq hq0
        by_cases hqp : 0 < q
        · have hqp' := yd hqp
          go_wp2_with fail
          obtain ⟨g1, g2, g3⟩ := G.out
          rcases hout with ⟨o1, ho⟩ | ⟨o1, o2, ho⟩ | ⟨o1, o2, o3, ho⟩ | ⟨o1, o2, o3, ho⟩
          · have HO := Lib.hid ho; clear ho
            go_quiet (fail)
            clear g1 g2 g3
            go_wp2_with fail
            go_ret
            exact ⟨ret_bool (by rw [HR.out, HX.out, rows_bad HO.out]; rfl), HE.out.drewN _⟩
          · have HO := Lib.hid ho; clear ho
            go_quiet (fail)
            clear g1 g2 g3
            go_wp2_with fail
            go_ret
            exact ⟨ret_bool (by rw [HR.out, HX.out, rows_bad HO.out]; rfl), HE.out.drewN _⟩
          · have HO := Lib.hid ho; clear ho
            go_quiet ((go_at_call 52; exact Calls.quiet_of (rfolq_is HFO.out (HA.out.ext HE.out) (HB.out.ext HE.out) (by omega) (by omega) (by omega) (by omega) (by omega) (by omega))))
            clear g1 g2 g3
            go_wp2_with fail
            go_ret
            exact ⟨ret_bool (by rw [HR.out, HX.out, rows_bad HO.out]; rfl), HE.out.drewN _⟩
          · have HO := Lib.hid ho; clear ho
            go_quiet ((go_at_call 52; exact Calls.quiet_of (rfolq_is HFO.out (HA.out.ext HE.out) (HB.out.ext HE.out) (by omega) (by omega) (by omega) (by omega) (by omega) (by omega))))
            clear g1 g2 g3
            go_wp2_with fail
            go_roundw
            case rel => exact ⟨i + 1, by omega, by go_num, by rw [HR.out, HX.out, rows_good HO.out], HE.out.drewN _⟩
            case measure => simp [intOf]; omega
        · have hqp' := nd hqp
          obtain rfl : q = 0 := by omega
          go_wp2_with fail
          obtain ⟨g1, g2, g3⟩ := G.out
          rcases hout with ⟨o1, ho⟩ | ⟨o1, o2, ho⟩ | ⟨o1, o2, o3, ho⟩ | ⟨o1, o2, o3, ho⟩
          · have HO := Lib.hid ho; clear ho
            go_quiet (fail)
            clear g1 g2 g3
            go_wp2_with fail
            go_ret
            exact ⟨ret_bool (by rw [HR.out, HX.out, rows_bad HO.out]; rfl), HE.out.drewN _⟩
          · have HO := Lib.hid ho; clear ho
            go_quiet (fail)
            clear g1 g2 g3
            go_wp2_with fail
            go_ret
            exact ⟨ret_bool (by rw [HR.out, HX.out, rows_bad HO.out]; rfl), HE.out.drewN _⟩
          · have HO := Lib.hid ho; clear ho
            go_quiet ((go_at_call 52; exact Calls.quiet_of (rfolq_is HFO.out (HA.out.ext HE.out) (HB.out.ext HE.out) (by omega) (by omega) (by omega) (by omega) (by omega) (by omega))))
            clear g1 g2 g3
            go_wp2_with fail
            go_ret
            exact ⟨ret_bool (by rw [HR.out, HX.out, rows_bad HO.out]; rfl), HE.out.drewN _⟩
          · have HO := Lib.hid ho; clear ho
            go_quiet ((go_at_call 52; exact Calls.quiet_of (rfolq_is HFO.out (HA.out.ext HE.out) (HB.out.ext HE.out) (by omega) (by omega) (by omega) (by omega) (by omega) (by omega))))
            clear g1 g2 g3
            go_wp2_with fail
            go_roundw
            case rel => exact ⟨i + 1, by omega, by go_num, by rw [HR.out, HX.out, rows_good HO.out], HE.out.drewN _⟩
            case measure => simp [intOf]; omega
    · obtain ⟨j, rfl⟩ : ∃ j, i = j + 1 := ⟨i - 1, by omega⟩
      obtain ⟨bc, oc, p, rfl, hbc, hp, hcp⟩ := (HP.out.ext HE.out).get (k := j) (by have := HPN.out; omega)
      obtain ⟨hpb, hpb2⟩ := HS.out p (List.mem_of_getElem? hp)
      have e4 : ((j : Int) + 1) - 1 = j := by omega
      have e5 : (((j + 1 : Nat) : Int)) - 1 = j := by omega
      by_cases hjd : j + 1 < d
      · obtain ⟨bc2, oc2, q, hA, hbc2, hq, hcq⟩ := (HP.out.ext HE.out).get (k := j + 1) (by have := HPN.out; omega)
        cases hA
        obtain ⟨hqb, hqb2⟩ := HS.out q (List.mem_of_getElem? hq)
        have hbe := HBE.out
        rw [if_neg (by omega), begV_both (by rw [HP.out.1]; exact HPN.out) hjd hp hq] at hbe
        have hcq2 := hcq
        rw [← Nat.add_assoc] at hcq2
        have nid := yd hjd
        have nid2 : decide ((j : Int) + 1 < d) = true := yd (by omega)
        have nip : j < pn := by have := HPN.out; omega
        have nip2 : j + 1 < pn := by have := HPN.out; omega
        have nip3 : (j : Int) + 1 < pn := by have := HPN.out; omega
        clear hp hq
        by_cases hpq : p + 1 < q
        · rw [if_pos hpq] at hbe
          subst hbe
          have hpq' := yd hpq
          go_wp2_with fail
          obtain ⟨g1, g2, g3⟩ := G.out
          rcases hout with ⟨o1, ho⟩ | ⟨o1, o2, ho⟩ | ⟨o1, o2, o3, ho⟩ | ⟨o1, o2, o3, ho⟩
          · have HO := Lib.hid ho; clear ho
            go_quiet (fail)
            clear g1 g2 g3
            go_wp2_with fail
            go_ret
            exact ⟨ret_bool (by rw [HR.out, HX.out, rows_bad HO.out]; rfl), HE.out.drewN _⟩
          · have HO := Lib.hid ho; clear ho
            go_quiet (fail)
            clear g1 g2 g3
            go_wp2_with fail
            go_ret
            exact ⟨ret_bool (by rw [HR.out, HX.out, rows_bad HO.out]; rfl), HE.out.drewN _⟩
          · have HO := Lib.hid ho; clear ho
            go_quiet ((go_at_call 52; exact Calls.quiet_of (rfolq_is HFO.out (HA.out.ext HE.out) (HB.out.ext HE.out) (by omega) (by omega) (by omega) (by omega) (by omega) (by omega))))
            clear g1 g2 g3
            go_wp2_with fail
            go_ret
            exact ⟨ret_bool (by rw [HR.out, HX.out, rows_bad HO.out]; rfl), HE.out.drewN _⟩
          · have HO := Lib.hid ho; clear ho
            go_quiet ((go_at_call 52; exact Calls.quiet_of (rfolq_is HFO.out (HA.out.ext HE.out) (HB.out.ext HE.out) (by omega) (by omega) (by omega) (by omega) (by omega) (by omega))))
            clear g1 g2 g3
            go_wp2_with fail
            go_roundw
            case rel => exact ⟨j + 1 + 1, by omega, by go_num, by rw [HR.out, HX.out, rows_good HO.out], HE.out.drewN _⟩
            case measure => simp [intOf]; omega
        · rw [if_neg hpq] at hbe
          subst hbe
          have hpq' := nd hpq
          go_wp2_with fail
          obtain ⟨g1, g2, g3⟩ := G.out
          rcases hout with ⟨o1, ho⟩ | ⟨o1, o2, ho⟩ | ⟨o1, o2, o3, ho⟩ | ⟨o1, o2, o3, ho⟩
          · have HO := Lib.hid ho; clear ho
            go_quiet (fail)
            clear g1 g2 g3
            go_wp2_with fail
            go_ret
            exact ⟨ret_bool (by rw [HR.out, HX.out, rows_bad HO.out]; rfl), HE.out.drewN _⟩
          · have HO := Lib.hid ho; clear ho
            go_quiet (fail)
            clear g1 g2 g3
            go_wp2_with fail
            go_ret
            exact ⟨ret_bool (by rw [HR.out, HX.out, rows_bad HO.out]; rfl), HE.out.drewN _⟩
          · have HO := Lib.hid ho; clear ho
            go_quiet ((go_at_call 52; exact Calls.quiet_of (rfolq_is HFO.out (HA.out.ext HE.out) (HB.out.ext HE.out) (by omega) (by omega) (by omega) (by omega) (by omega) (by omega))))
            clear g1 g2 g3
            go_wp2_with fail
            go_ret
            exact ⟨ret_bool (by rw [HR.out, HX.out, rows_bad HO.out]; rfl), HE.out.drewN _⟩
          · have HO := Lib.hid ho; clear ho
            go_quiet ((go_at_call 52; exact Calls.quiet_of (rfolq_is HFO.out (HA.out.ext HE.out) (HB.out.ext HE.out) (by omega) (by omega) (by omega) (by omega) (by omega) (by omega))))
            clear g1 g2 g3
            go_wp2_with fail
            go_roundw
            case rel => exact ⟨j + 1 + 1, by omega, by go_num, by rw [HR.out, HX.out, rows_good HO.out], HE.out.drewN _⟩
            case measure => simp [intOf]; omega
      · have hbe := HBE.out
        rw [if_neg (by omega), begV_left (by rw [HP.out.1]; exact HPN.out) (by omega) hp] at hbe
        subst hbe
        have nid := nd hjd
        have nid2 : decide ((j : Int) + 1 < d) = false := nd (by omega)
        have nip : j < pn := by have := HPN.out; omega
        clear hp
        go_wp2_with fail
        obtain ⟨g1, g2, g3⟩ := G.out
        rcases hout with ⟨o1, ho⟩ | ⟨o1, o2, ho⟩ | ⟨o1, o2, o3, ho⟩ | ⟨o1, o2, o3, ho⟩
        · have HO := Lib.hid ho; clear ho
          go_quiet (fail)
          clear g1 g2 g3
          go_wp2_with fail
          go_ret
          exact ⟨ret_bool (by rw [HR.out, HX.out, rows_bad HO.out]; rfl), HE.out.drewN _⟩
        · have HO := Lib.hid ho; clear ho
          go_quiet (fail)
          clear g1 g2 g3
          go_wp2_with fail
          go_ret
          exact ⟨ret_bool (by rw [HR.out, HX.out, rows_bad HO.out]; rfl), HE.out.drewN _⟩
        · have HO := Lib.hid ho; clear ho
          go_quiet ((go_at_call 52; exact Calls.quiet_of (rfolq_is HFO.out (HA.out.ext HE.out) (HB.out.ext HE.out) (by omega) (by omega) (by omega) (by omega) (by omega) (by omega))))
          clear g1 g2 g3
          go_wp2_with fail
          go_ret
          exact ⟨ret_bool (by rw [HR.out, HX.out, rows_bad HO.out]; rfl), HE.out.drewN _⟩
        · have HO := Lib.hid ho; clear ho
          go_quiet ((go_at_call 52; exact Calls.quiet_of (rfolq_is HFO.out (HA.out.ext HE.out) (HB.out.ext HE.out) (by omega) (by omega) (by omega) (by omega) (by omega) (by omega))))
          clear g1 g2 g3
          go_wp2_with fail
          go_roundw
          case rel => exact ⟨j + 1 + 1, by omega, by go_num, by rw [HR.out, HX.out, rows_good HO.out], HE.out.drewN _⟩
          case measure => simp [intOf]; omega

theorem bounded_is {A B C D : Option Addr} {n c m cd tn tc pn pc : Nat} {a b : Lns} {t before : List Int} {d : Nat} {r : Bool} {w : World} (h : (decide (t.length = d + 1) && (rowsV a b before d 0 t && endOk a b t)) = r) (ha : Strs w A n a) (hb : Strs w B m b) (hn : n ≤ 100) (hm : m ≤ 100) (hd : d ≤ 200)
    (ht : Ints w C tn t) (htn : tn ≤ 300) (hp : Ints w D pn before) (hpn : pn = d) (hwf : ∀ x ∈ t, (Lit.int .i64 x).wf = true) (hsm : ∀ x ∈ before, 0 ≤ x ∧ x ≤ 2000) :
    Calls Try.prog 44 #[.slice A n c, .slice B m cd, .slice D pn pc, .slice C tn tc, .int .i64 d] w fun e w' => e = .returned (.bool r) ∧ Ext w w' := by
  subst h; exact bounded_any A B C D n c m cd tn tc pn pc a b t before d w ha hb hn hm hd ht htn hp hpn hwf hsm

theorem certV_bad {a b : Lns} {before : List Int} {d : Nat} {t : List Int} {r : List (List Int)} (h : (decide (t.length = d + 1) && (rowsV a b before d 0 t && endOk a b t)) = false) : certV a b before d (t :: r) = false := by
  rw [certV]
  cases h1 : decide (t.length = d + 1) <;> cases h2 : rowsV a b before d 0 t <;> cases h3 : endOk a b t <;> simp_all
theorem certV_good {a b : Lns} {before : List Int} {d : Nat} {t : List Int} {r : List (List Int)} (h : (decide (t.length = d + 1) && (rowsV a b before d 0 t && endOk a b t)) = true) : certV a b before d (t :: r) = certV a b t (d + 1) r ∧ t.length = d + 1 ∧ rowsV a b before d 0 t = true ∧ endOk a b t = true := by
  simp only [Bool.and_eq_true, decide_eq_true_eq] at h
  rw [certV, h.2.1, h.2.2, decide_eq_true h.1]
  exact ⟨rfl, h.1, rfl, rfl⟩

/-- What is known in the loop of the reference's Certify. -/
def RCertAt (w : World) (a b : Lns) (L : List TB) (i : Nat) (v : Value) (wr : World) : Prop :=
  ∃ (D : Option Addr) (pn pc : Nat) (before : List Int), v = .slice D pn pc ∧ Ints wr D pn before ∧ pn = i ∧ (∀ x ∈ before, 0 ≤ x ∧ x ≤ 2000) ∧ certV a b [] 0 (L.map (·.t)) = certV a b before i ((L.drop i).map (·.t))

set_option maxHeartbeats 8000000 in
theorem rcertify_any (A B C : Option Addr) (n c m cd ln lc : Nat) (a b : Lns) (L : List TB) (w : World) (ha : Strs w A n a) (hb : Strs w B m b) (hn : n ≤ 100) (hm : m ≤ 100)
    (hl : RTBs w C ln L) (hln : ln ≤ 100) (hwf : ∀ s ∈ L, ∀ x ∈ s.t, (Lit.int .i64 x).wf = true) (hsn : ∀ s ∈ L, s.n ≤ 300) :
    Calls Try.prog 29 #[.slice A n c, .slice B m cd, .slice C ln lc] w fun e w' => e = .returned (.bool (certV a b [] 0 (L.map (·.t)))) ∧ Ext w w' := by
  obtain rfl : a.length = n := ha.1
  obtain rfl : b.length = m := hb.1
  have HA := Lib.hid ha; have HB := Lib.hid hb; have HL := Lib.hid hl; have HW := Lib.hid hwf; have HSN := Lib.hid hsn; clear ha hb hl hwf hsn
  go_enter Try.func29, Try.ntmps29
  go_wp2_with fail
  go_loopw [7, 8] (fun v7 v8 wr => ∃ i : Nat, i ≤ ln ∧ v8 = .int .i64 i ∧ RCertAt w a b L i v7 wr ∧ Ext w wr) (fun _ v8 _ => ln - (intOf v8).toNat)
  case atStart => exact ⟨0, Nat.zero_le _, rfl, ⟨_, 0, 0, [], rfl, ⟨rfl, Cells.nil _ _⟩, rfl, (fun x hx => by simp at hx), rfl⟩, (Ext.refl w).alloc _⟩
  case round =>
    obtain ⟨i, hi, rfl, ⟨D, pn, pc, before, rfl, hp, rfl, hsm, hcert⟩, hE⟩ := hrel
    have HP := Lib.hid hp; have HSM := Lib.hid hsm; have HC := Lib.hid hcert; have HE := Lib.hid hE; clear hp hsm hcert hE
    by_cases hlt : pn < ln
    case neg =>
      have hnil : L.drop pn = [] := List.drop_of_length_le (by rw [HL.out.1]; omega)
      have HN := Lib.hid hnil; clear hnil
      go_wp2_with fail
      go_ret
      exact ⟨ret_bool (by rw [HC.out, HN.out]; rfl), HE.out⟩
    obtain ⟨bt, off, ⟨sa, sn, sc, st⟩, rfl, hbt, hs, hrs, hc⟩ := HL.out.get hlt
    dsimp only at hc
    obtain ⟨hsn0, hst⟩ : sn ≤ Reach ∧ Ints w sa sn st := hrs
    have hsn : sn ≤ 300 := HSN.out _ (List.mem_of_getElem? hs)
    have hsw : ∀ x ∈ st, (Lit.int .i64 x).wf = true := HW.out _ (List.mem_of_getElem? hs)
    have hdr : (L.drop pn).map (·.t) = st :: (L.drop (pn + 1)).map (·.t) := by rw [drop_of hs]; rfl
    have HI := Lib.hid hst; have HSW := Lib.hid hsw; have HDR := Lib.hid hdr; have HCC := Lib.hid hc; clear hst hsw hdr hs hsn0 hc
    have hc := HE.out.cell HCC.out
    cases hrow : (decide (st.length = pn + 1) && (rowsV a b before pn 0 st && endOk a b st)) with
    | false =>
      have HR := Lib.hid hrow; have HBD := Lib.hid (certV_bad (r := (L.drop (pn + 1)).map (·.t)) hrow); clear hrow
      go_wp2_with fail
      refine (bounded_is HR.out (HA.out.ext HE.out) (HB.out.ext HE.out) (by omega) (by omega) (by omega) (HI.out.ext HE.out) hsn HP.out rfl HSW.out HSM.out).mono ?_
      rintro e w2 ⟨rfl, hE⟩
      have HE2 := Lib.hid (HE.out.trans hE); clear hE
      go_wp2_with fail
      go_ret
      exact ⟨ret_bool (by rw [HC.out, HDR.out, HBD.out]), HE2.out⟩
    | true =>
      obtain ⟨h1, h2, h3, _⟩ := certV_good (r := (L.drop (pn + 1)).map (·.t)) hrow
      have HG := Lib.hid h1; have HR := Lib.hid hrow; have HPOS := Lib.hid (rows_pos (by omega) (by omega) _ _ h3)
      obtain rfl : sn = pn + 1 := by rw [← HI.out.1]; exact h2
      clear hrow h1 h2 h3
      go_wp2_with fail
      refine (bounded_is HR.out (HA.out.ext HE.out) (HB.out.ext HE.out) (by omega) (by omega) (by omega) (HI.out.ext HE.out) hsn HP.out rfl HSW.out HSM.out).mono ?_
      rintro e w2 ⟨rfl, hE⟩
      have HE2 := Lib.hid (HE.out.trans hE); clear hE hc
      have hc := HE2.out.cell HCC.out
      go_wp2_with fail
      go_roundw
      case rel => exact ⟨pn + 1, by omega, by go_num, ⟨sa, _, sc, st, rfl, HI.out.ext HE2.out, rfl, HPOS.out, by rw [HC.out, HDR.out, HG.out]⟩, HE2.out⟩
      case measure => simp [intOf]; omega

/-! ### long -/
def longV (L : List TB) : Bool := decide (26 < L.length) || L.any (fun s => decide (27 < s.n))
theorem long1_any (A : Option Addr) (n c : Nat) (w : World) (hn : n ≤ Reach) :
    Calls Try.prog 42 #[.slice A n c] w fun e w' => e = .returned (.bool (decide (27 < n))) ∧ w = w' := by
  unfold Reach at hn
  by_cases h : 27 < n
  · have h' := yd h
    go_enter Try.func42, Try.ntmps42
    go_wp2_with fail
    go_ret
    exact ⟨ret_bool (by first | rfl | (rw [Bool.eq_iff_iff]; simp only [decide_eq_true_eq]; omega)), rfl⟩
  · have h' := nd h
    go_enter Try.func42, Try.ntmps42
    go_wp2_with fail
    go_ret
    exact ⟨ret_bool (by first | rfl | (rw [Bool.eq_iff_iff]; simp only [decide_eq_true_eq]; omega)), rfl⟩
def lIdx (k : Nat) : List TB → Int
  | [] => -1
  | s :: t => if 27 < s.n then k else lIdx (k + 1) t
theorem lIdx_neg : ∀ (L : List TB) (k : Nat), (0 ≤ lIdx k L ↔ L.any (fun s => decide (27 < s.n)) = true)
  | [], k => by simp [lIdx]
  | s :: t, k => by
    unfold lIdx
    by_cases h : 27 < s.n
    · rw [if_pos h]; simp [h]
    · rw [if_neg h, lIdx_neg t (k + 1)]; simp [h]
set_option maxHeartbeats 1000000 in
theorem indexLong_any (A : Option Addr) (n c : Nat) (L : List TB) (w : World) (hr : RTBs w A n L) (hn : n ≤ Reach) :
    Calls Try.prog 51 #[.slice A n c, .func (.func 42) #[] #[]] w fun e w' => e = .returned (.int .i64 (lIdx 0 L)) ∧ w = w' := by
  have HR := Lib.hid hr; clear hr
  unfold Reach at hn
  go_enter Try.func51, Try.ntmps51
  go_wp2_with fail
  go_loop [8] (fun i => ∃ k : Nat, k ≤ n ∧ i = .int .i64 k ∧ lIdx 0 L = lIdx k (L.drop k)) (fun i => n - (intOf i).toNat)
  case atStart => exact ⟨0, Nat.zero_le _, rfl, rfl⟩
  case round =>
    obtain ⟨k, hk, rfl, hg⟩ := hrel
    have HG := Lib.hid hg; clear hg
    by_cases hlt : k < n
    · obtain ⟨b, off, ⟨sa, sn, sc, st⟩, rfl, hb, hs, hrs, hc0⟩ := HR.out.get hlt
      dsimp only at hc0
      have hsn : sn ≤ Reach := hrs.1
      have HS := Lib.hid hs; clear hs hrs
      by_cases h1 : 27 < sn
      · have h1' := yd h1
        go_wp2_with fail
        refine (long1_any sa sn sc _ hsn).mono ?_
        rintro e w1 ⟨rfl, rfl⟩
        go_wp2_with fail
        go_ret
        exact ⟨ret_int (by rw [HG.out, drop_of HS.out, lIdx, if_pos h1]), rfl⟩
      · have h1' := nd h1
        go_wp2_with fail
        refine (long1_any sa sn sc _ hsn).mono ?_
        rintro e w1 ⟨rfl, rfl⟩
        go_wp2_with fail
        go_round
        case rel => exact ⟨k + 1, by omega, by go_num, by rw [HG.out, drop_of HS.out, lIdx, if_neg h1]⟩
        case measure => simp [intOf]; omega
    · go_wp2_with fail
      go_ret
      exact ⟨ret_int (by rw [HG.out, List.drop_of_length_le (by rw [HR.out.1]; omega)]; rfl), rfl⟩
theorem containsLong_any (A : Option Addr) (n c : Nat) (L : List TB) (w : World) (hr : RTBs w A n L) (hn : n ≤ Reach) :
    Calls Try.prog 41 #[.slice A n c, .func (.func 42) #[] #[]] w fun e w' => e = .returned (.bool (L.any (fun s => decide (27 < s.n)))) ∧ w = w' := by
  have HR := Lib.hid hr; clear hr
  go_enter Try.func41, Try.ntmps41
  go_wp2_with fail
  refine (indexLong_any A n c L _ HR.out hn).mono ?_
  rintro e w1 ⟨rfl, rfl⟩
  go_wp2_with fail
  go_ret
  exact ⟨ret_bool (by rw [Bool.eq_iff_iff, ← lIdx_neg L 0]; simp), rfl⟩
theorem long_any (A : Option Addr) (n c : Nat) (L : List TB) (w : World) (hr : RTBs w A n L) (hn : n ≤ Reach) :
    Calls Try.prog 27 #[.slice A n c] w fun e w' => e = .returned (.bool (longV L)) ∧ w = w' := by
  have hl := hr.1
  have HR := Lib.hid hr; have HLL := Lib.hid hl; clear hr hl
  have hn' := hn
  unfold Reach at hn
  by_cases h : 26 < n
  · have h' := yd h
    go_enter Try.func27, Try.ntmps27
    go_wp2_with fail
    go_ret
    exact ⟨ret_bool (by rw [longV, HLL.out]; simp [h]), rfl⟩
  · have h' := nd h
    go_enter Try.func27, Try.ntmps27
    go_wp2_with fail
    refine (containsLong_any A n c L _ HR.out hn').mono ?_
    rintro e w1 ⟨rfl, rfl⟩
    go_wp2_with fail
    go_ret
    exact ⟨ret_bool (by rw [longV, HLL.out]; simp [h]; intro hh; omega), rfl⟩
theorem long_is {A : Option Addr} {n c : Nat} {L : List TB} {r : Bool} {w : World} (h : longV L = r) (hr : RTBs w A n L) (hn : n ≤ Reach) :
    Calls Try.prog 27 #[.slice A n c] w fun e w' => e = .returned (.bool r) ∧ w = w' := by
  subst h; exact long_any A n c L w hr hn
end Go.Proofs.Ytmagicjmenbdpaa

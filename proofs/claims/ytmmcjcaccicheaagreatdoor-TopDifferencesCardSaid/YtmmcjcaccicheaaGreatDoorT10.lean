/- MyBound: parts of the proof of TopDifferences, one text behind the other. No condition. -/
import Derived.Test.YtmmcjcaccicheaaGreatDoorT09
import Derived.Test.YtmmcjcaccicheaaGreatDoorT07
/- Contracts: bound and Certify of myers. -/
namespace Go.Proofs.YtmmcjcaccicheaaGreatDoor
open Go.RowKit

/-- Where the path to the diagonal k at least begins. -/
def begV (t : List Int) (k : Int) : Int :=
  match atV t (k - 1), atV t (k + 1) with
  | none, none => 0
  | none, some q => q
  | some p, none => p + 1
  | some p, some q => if p + 1 < q then q else p + 1
/-- Is the i-th number of the table of d large enough? -/
def rowOk (a b : Lns) (before : List Int) (d i : Nat) (n : Int) : Bool :=
  decide (0 ≤ n) && (decide (n ≤ (a.length : Int) + d) && decide (folV a b (if d = 0 then 0 else begV before (2 * (i : Int) - d)) (2 * (i : Int) - d) ≤ n))
def rowsV (a b : Lns) (before : List Int) (d : Nat) : Nat → List Int → Bool
  | _, [] => true
  | i, n :: r => rowOk a b before d i n && rowsV a b before d (i + 1) r
def endOk (a b : Lns) (t : List Int) : Bool := match atV t ((a.length : Int) - b.length) with
  | none => true
  | some n => decide (n < a.length)
def certV (a b : Lns) : List Int → Nat → List (List Int) → Bool
  | _, _, [] => true
  | before, d, t :: r => decide (t.length = d + 1) && (rowsV a b before d 0 t && (endOk a b t && certV a b t (d + 1) r))

theorem begV_bound {t : List Int} (h : SmallT t) (k : Int) : -100000 ≤ begV t k ∧ begV t k ≤ 100001 := by
  unfold begV
  split
  · omega
  · rename_i q _ e; have := atV_small h e; omega
  · rename_i p e _; have := atV_small h e; omega
  · rename_i p q e1 e2; have := atV_small h e1; have := atV_small h e2; split <;> omega
theorem rows_small {a b : Lns} {before : List Int} {d : Nat} (hn : a.length ≤ 1000) (hd : d ≤ 1000) : ∀ (t : List Int) (i : Nat), rowsV a b before d i t = true → SmallT t
  | [], _, _, x, hx => by simp at hx
  | n :: r, i, h, x, hx => by
    simp only [rowsV, Bool.and_eq_true] at h
    rcases List.mem_cons.1 hx with rfl | hx
    · have := h.1
      simp only [rowOk, Bool.and_eq_true, decide_eq_true_eq] at this
      omega
    · exact rows_small hn hd r _ h.2 x hx
theorem rows_bad {a b : Lns} {before : List Int} {d i : Nat} {n : Int} {r : List Int} (h : rowOk a b before d i n = false) : rowsV a b before d i (n :: r) = false := by simp [rowsV, h]
theorem rows_good {a b : Lns} {before : List Int} {d i : Nat} {n : Int} {r : List Int} (h : rowOk a b before d i n = true) : rowsV a b before d i (n :: r) = rowsV a b before d (i + 1) r := by simp [rowsV, h]

theorem folc_is {A B : Option Addr} {n m c d : Nat} {a b : Lns} {ga gb : Nat} {x0 k r : Int} {w : World} (h : folV a b x0 k = r) (ha : Strs w A n a) (hb : Strs w B m b)
    (hga : Blk w ga (.cells #[.slice A n c] 22 (0, 0))) (hgb : Blk w gb (.cells #[.slice B m d] 22 (0, 0)))
    (hn : n ≤ 1000) (hm : m ≤ 1000) (hx : -1000000 ≤ x0) (hx' : x0 ≤ 1000000) (hk : -1000000 ≤ k) (hk' : k ≤ 1000000) :
    Calls Tryz.prog 50 #[.int .i64 x0, .int .i64 k, .pointer (some ⟨ga, 0, none⟩), .pointer (some ⟨gb, 0, none⟩)] w fun e w' => e = .returned (.int .i64 r) ∧ Ext w w' := by
  subst h; exact folc_any A B n m c d a b ga gb x0 k w ha hb hga hgb hn hm hx hx' hk hk'

set_option maxRecDepth 100000 in
set_option maxHeartbeats 16000000 in
theorem bound_any (A B C D : Option Addr) (n c m cd tn tc pn pc : Nat) (a b : Lns) (ga gb : Nat) (t before : List Int) (d : Nat) (w : World) (ha : Strs w A n a) (hb : Strs w B m b)
    (hga : Blk w ga (.cells #[.slice A n c] 22 (0, 0))) (hgb : Blk w gb (.cells #[.slice B m cd] 22 (0, 0))) (hn : n ≤ 100) (hm : m ≤ 100) (hd : d ≤ 200)
    (ht : Ints w C tn t) (htn : tn = d + 1) (hp : Ints w D pn before) (hpn : pn ≤ 300) (hwf : ∀ x ∈ t, (Lit.int .i64 x).wf = true) (hsm : SmallT before) :
    Calls Tryz.prog 23 #[.slice C tn tc, .slice D pn pc, .int .i64 ((n : Int) + d), .func (.func 50) #[] #[.pointer (some ⟨ga, 0, none⟩), .pointer (some ⟨gb, 0, none⟩)]] w fun e w' => e = .returned (.bool (rowsV a b before d 0 t)) ∧ Ext w w' := by
  subst htn
  obtain rfl : a.length = n := ha.1
  have HA := Lib.hid ha; have HB := Lib.hid hb; have GA := Lib.hid hga; have GB := Lib.hid hgb; have HT := Lib.hid ht; have HP := Lib.hid hp; have HW := Lib.hid hwf; have HS := Lib.hid hsm
  clear ha hb hga hgb ht hp hwf hsm
  go_enter Tryz.func23, Tryz.ntmps23
  go_wp2_with fail
  go_loopw [23] (fun v wr => ∃ i : Nat, i ≤ d + 1 ∧ v = .int .i64 i ∧ rowsV a b before d 0 t = rowsV a b before d i (t.drop i) ∧ Ext w wr) (fun v _ => d + 1 - (intOf v).toNat)
  case atStart => exact ⟨0, by omega, rfl, rfl, Ext.refl _⟩
  case round =>
    obtain ⟨i, hi, rfl, hr, hE⟩ := hrel
    have HR := Lib.hid hr; have HE := Lib.hid hE; clear hr hE
    by_cases hlt : i < d + 1
    case neg =>
      have hnil : t.drop i = [] := List.drop_of_length_le (by rw [HT.out.1]; omega)
      have HN := Lib.hid hnil; clear hnil
      go_wp2_with fail
      go_ret
      exact ⟨ret_bool (by rw [HR.out, HN.out]; rfl), HE.out⟩
    obtain ⟨bb, off, x, rfl, hbb, hx, hc⟩ := (HT.out.ext HE.out).get hlt
    obtain ⟨hw1, hw2⟩ := bounds_i64 (HW.out x (List.mem_of_getElem? hx))
    have HX := Lib.hid (drop_of hx); clear hx
    obtain ⟨be, hbe⟩ : ∃ be, (if d = 0 then 0 else begV before (2 * (i : Int) - d)) = be := ⟨_, rfl⟩
    have hbb2 : -100000 ≤ be ∧ be ≤ 100001 := by
      rw [← hbe]
      split
      · omega
      · exact begV_bound HS.out _
    obtain ⟨hb1, hb2⟩ := hbb2
    have hok : rowOk a b before d i x = (decide (0 ≤ x) && (decide (x ≤ (a.length : Int) + d) && decide (folV a b be (2 * (i : Int) - d) ≤ x))) := by rw [rowOk, hbe]
    obtain ⟨fo, hfo⟩ : ∃ fo, folV a b be (2 * (i : Int) - d) = fo := ⟨_, rfl⟩
    rw [hfo] at hok
    have HOK := Lib.hid hok; have HFO := Lib.hid hfo; have HBE := Lib.hid hbe; clear hok hfo hbe
    have hout : (decide (x < 0) = true ∧ rowOk a b before d i x = false) ∨ (decide (x < 0) = false ∧ decide ((a.length : Int) + d < x) = true ∧ rowOk a b before d i x = false) ∨
        (decide (x < 0) = false ∧ decide ((a.length : Int) + d < x) = false ∧ decide (x < fo) = true ∧ rowOk a b before d i x = false) ∨ (decide (x < 0) = false ∧ decide ((a.length : Int) + d < x) = false ∧ decide (x < fo) = false ∧ rowOk a b before d i x = true) := by
      rw [HOK.out]
      simp only [decide_eq_true_eq, decide_eq_false_iff_not, Bool.and_eq_false_imp, Bool.and_eq_true]
      omega
    have hd0 : d = 0 ∨ 0 < d := by omega
    rcases hout with ⟨o1, ho⟩ | ⟨o1, o2, ho⟩ | ⟨o1, o2, o3, ho⟩ | ⟨o1, o2, o3, ho⟩
    · have HO := Lib.hid ho; clear ho
      rcases hd0 with hdz | hd0
      · have hbe := HBE.out
        rw [if_pos hdz] at hbe
        subst hbe
        have e0 : decide (0 < d) = false := by rw [hdz]; rfl
        clear hdz
        go_wp2_with fail
        go_ret
        exact ⟨ret_bool (by rw [HR.out, HX.out, rows_bad HO.out]), HE.out⟩
      have hbe := HBE.out
      rw [if_neg (by omega), begV] at hbe
      cases h1 : atV before (2 * (i : Int) - d - 1) with
      | none =>
        cases h2 : atV before (2 * (i : Int) - d + 1) with
        | none =>
          rw [h1, h2] at hbe
          have H1 := Lib.hid h1; have H2 := Lib.hid h2; clear h1 h2
          subst hbe
          go_wp2_with fail
          refine (at_none H1.out (HP.out.ext HE.out) (by omega) (by omega) (by omega)).mono ?_
          rintro e w5 ⟨rfl, rfl⟩
          go_wp2_with fail
          refine (at_none H2.out (HP.out.ext HE.out) (by omega) (by omega) (by omega)).mono ?_
          rintro e w5 ⟨rfl, rfl⟩
          go_wp2_with fail
          go_ret
          exact ⟨ret_bool (by rw [HR.out, HX.out, rows_bad HO.out]), HE.out⟩
        | some q =>
          rw [h1, h2] at hbe
          have hq := atV_small HS.out h2
          have H1 := Lib.hid h1; have H2 := Lib.hid h2; clear h1 h2
          subst hbe
          go_wp2_with fail
          refine (at_none H1.out (HP.out.ext HE.out) (by omega) (by omega) (by omega)).mono ?_
          rintro e w5 ⟨rfl, rfl⟩
          go_wp2_with fail
          refine (at_some H2.out (HP.out.ext HE.out) (by omega) (by omega) (by omega)).mono ?_
          rintro e w5 ⟨rfl, rfl⟩
          go_wp2_with fail
          go_ret
          exact ⟨ret_bool (by rw [HR.out, HX.out, rows_bad HO.out]), HE.out⟩
      | some p =>
        have hp := atV_small HS.out h1
        cases h2 : atV before (2 * (i : Int) - d + 1) with
        | none =>
          rw [h1, h2] at hbe
          have H1 := Lib.hid h1; have H2 := Lib.hid h2; clear h1 h2
          subst hbe
          go_wp2_with fail
          refine (at_some H1.out (HP.out.ext HE.out) (by omega) (by omega) (by omega)).mono ?_
          rintro e w5 ⟨rfl, rfl⟩
          go_wp2_with fail
          refine (at_none H2.out (HP.out.ext HE.out) (by omega) (by omega) (by omega)).mono ?_
          rintro e w5 ⟨rfl, rfl⟩
          go_wp2_with fail
          go_ret
          exact ⟨ret_bool (by rw [HR.out, HX.out, rows_bad HO.out]), HE.out⟩
        | some q =>
          have hq := atV_small HS.out h2
          rw [h1, h2] at hbe
          have H1 := Lib.hid h1; have H2 := Lib.hid h2; clear h1 h2
          by_cases hpq : p + 1 < q
          · have hpq' := yd hpq
            simp only [if_pos hpq] at hbe
            subst hbe
            go_wp2_with fail
            refine (at_some H1.out (HP.out.ext HE.out) (by omega) (by omega) (by omega)).mono ?_
            rintro e w5 ⟨rfl, rfl⟩
            go_wp2_with fail
            refine (at_some H2.out (HP.out.ext HE.out) (by omega) (by omega) (by omega)).mono ?_
            rintro e w5 ⟨rfl, rfl⟩
            go_wp2_with fail
            go_ret
            exact ⟨ret_bool (by rw [HR.out, HX.out, rows_bad HO.out]), HE.out⟩
          · have hpq' := nd hpq
            simp only [if_neg hpq] at hbe
            subst hbe
            go_wp2_with fail
            refine (at_some H1.out (HP.out.ext HE.out) (by omega) (by omega) (by omega)).mono ?_
            rintro e w5 ⟨rfl, rfl⟩
            go_wp2_with fail
            refine (at_some H2.out (HP.out.ext HE.out) (by omega) (by omega) (by omega)).mono ?_
            rintro e w5 ⟨rfl, rfl⟩
            go_wp2_with fail
            go_ret
            exact ⟨ret_bool (by rw [HR.out, HX.out, rows_bad HO.out]), HE.out⟩
    · have HO := Lib.hid ho; clear ho
      rcases hd0 with hdz | hd0
      · have hbe := HBE.out
        rw [if_pos hdz] at hbe
        subst hbe
        have e0 : decide (0 < d) = false := by rw [hdz]; rfl
        clear hdz
        go_wp2_with fail
        go_ret
        exact ⟨ret_bool (by rw [HR.out, HX.out, rows_bad HO.out]), HE.out⟩
      have hbe := HBE.out
      rw [if_neg (by omega), begV] at hbe
      cases h1 : atV before (2 * (i : Int) - d - 1) with
      | none =>
        cases h2 : atV before (2 * (i : Int) - d + 1) with
        | none =>
          rw [h1, h2] at hbe
          have H1 := Lib.hid h1; have H2 := Lib.hid h2; clear h1 h2
          subst hbe
          go_wp2_with fail
          refine (at_none H1.out (HP.out.ext HE.out) (by omega) (by omega) (by omega)).mono ?_
          rintro e w5 ⟨rfl, rfl⟩
          go_wp2_with fail
          refine (at_none H2.out (HP.out.ext HE.out) (by omega) (by omega) (by omega)).mono ?_
          rintro e w5 ⟨rfl, rfl⟩
          go_wp2_with fail
          go_ret
          exact ⟨ret_bool (by rw [HR.out, HX.out, rows_bad HO.out]), HE.out⟩
        | some q =>
          rw [h1, h2] at hbe
          have hq := atV_small HS.out h2
          have H1 := Lib.hid h1; have H2 := Lib.hid h2; clear h1 h2
          subst hbe
          go_wp2_with fail
          refine (at_none H1.out (HP.out.ext HE.out) (by omega) (by omega) (by omega)).mono ?_
          rintro e w5 ⟨rfl, rfl⟩
          go_wp2_with fail
          refine (at_some H2.out (HP.out.ext HE.out) (by omega) (by omega) (by omega)).mono ?_
          rintro e w5 ⟨rfl, rfl⟩
          go_wp2_with fail
          go_ret
          exact ⟨ret_bool (by rw [HR.out, HX.out, rows_bad HO.out]), HE.out⟩
      | some p =>
        have hp := atV_small HS.out h1
        cases h2 : atV before (2 * (i : Int) - d + 1) with
        | none =>
          rw [h1, h2] at hbe
          have H1 := Lib.hid h1; have H2 := Lib.hid h2; clear h1 h2
          subst hbe
          go_wp2_with fail
          refine (at_some H1.out (HP.out.ext HE.out) (by omega) (by omega) (by omega)).mono ?_
          rintro e w5 ⟨rfl, rfl⟩
          go_wp2_with fail
          refine (at_none H2.out (HP.out.ext HE.out) (by omega) (by omega) (by omega)).mono ?_
          rintro e w5 ⟨rfl, rfl⟩
          go_wp2_with fail
          go_ret
          exact ⟨ret_bool (by rw [HR.out, HX.out, rows_bad HO.out]), HE.out⟩
        | some q =>
          have hq := atV_small HS.out h2
          rw [h1, h2] at hbe
          have H1 := Lib.hid h1; have H2 := Lib.hid h2; clear h1 h2
          by_cases hpq : p + 1 < q
          · have hpq' := yd hpq
            simp only [if_pos hpq] at hbe
            subst hbe
            go_wp2_with fail
            refine (at_some H1.out (HP.out.ext HE.out) (by omega) (by omega) (by omega)).mono ?_
            rintro e w5 ⟨rfl, rfl⟩
            go_wp2_with fail
            refine (at_some H2.out (HP.out.ext HE.out) (by omega) (by omega) (by omega)).mono ?_
            rintro e w5 ⟨rfl, rfl⟩
            go_wp2_with fail
            go_ret
            exact ⟨ret_bool (by rw [HR.out, HX.out, rows_bad HO.out]), HE.out⟩
          · have hpq' := nd hpq
            simp only [if_neg hpq] at hbe
            subst hbe
            go_wp2_with fail
            refine (at_some H1.out (HP.out.ext HE.out) (by omega) (by omega) (by omega)).mono ?_
            rintro e w5 ⟨rfl, rfl⟩
            go_wp2_with fail
            refine (at_some H2.out (HP.out.ext HE.out) (by omega) (by omega) (by omega)).mono ?_
            rintro e w5 ⟨rfl, rfl⟩
            go_wp2_with fail
            go_ret
            exact ⟨ret_bool (by rw [HR.out, HX.out, rows_bad HO.out]), HE.out⟩
    · have HO := Lib.hid ho; clear ho
      rcases hd0 with hdz | hd0
      · have hbe := HBE.out
        rw [if_pos hdz] at hbe
        subst hbe
        have e0 : decide (0 < d) = false := by rw [hdz]; rfl
        clear hdz
        go_wp2_with fail
        refine (folc_is HFO.out (HA.out.ext HE.out) (HB.out.ext HE.out) (GA.out.ext HE.out) (GB.out.ext HE.out) (by omega) (by omega) (by omega) (by omega) (by omega) (by omega)).mono ?_
        rintro e w6 ⟨rfl, hE⟩
        have HE6 := Lib.hid (HE.out.trans hE); clear hE
        go_wp2_with fail
        go_ret
        exact ⟨ret_bool (by rw [HR.out, HX.out, rows_bad HO.out]), HE6.out⟩
      have hbe := HBE.out
      rw [if_neg (by omega), begV] at hbe
      cases h1 : atV before (2 * (i : Int) - d - 1) with
      | none =>
        cases h2 : atV before (2 * (i : Int) - d + 1) with
        | none =>
          rw [h1, h2] at hbe
          have H1 := Lib.hid h1; have H2 := Lib.hid h2; clear h1 h2
          subst hbe
          go_wp2_with fail
          refine (at_none H1.out (HP.out.ext HE.out) (by omega) (by omega) (by omega)).mono ?_
          rintro e w5 ⟨rfl, rfl⟩
          go_wp2_with fail
          refine (at_none H2.out (HP.out.ext HE.out) (by omega) (by omega) (by omega)).mono ?_
          rintro e w5 ⟨rfl, rfl⟩
          go_wp2_with fail
          refine (folc_is HFO.out (HA.out.ext HE.out) (HB.out.ext HE.out) (GA.out.ext HE.out) (GB.out.ext HE.out) (by omega) (by omega) (by omega) (by omega) (by omega) (by omega)).mono ?_
          rintro e w6 ⟨rfl, hE⟩
          have HE6 := Lib.hid (HE.out.trans hE); clear hE
          go_wp2_with fail
          go_ret
          exact ⟨ret_bool (by rw [HR.out, HX.out, rows_bad HO.out]), HE6.out⟩
        | some q =>
          rw [h1, h2] at hbe
          have hq := atV_small HS.out h2
          have H1 := Lib.hid h1; have H2 := Lib.hid h2; clear h1 h2
          subst hbe
          go_wp2_with fail
          refine (at_none H1.out (HP.out.ext HE.out) (by omega) (by omega) (by omega)).mono ?_
          rintro e w5 ⟨rfl, rfl⟩
          go_wp2_with fail
          refine (at_some H2.out (HP.out.ext HE.out) (by omega) (by omega) (by omega)).mono ?_
          rintro e w5 ⟨rfl, rfl⟩
          go_wp2_with fail
          refine (folc_is HFO.out (HA.out.ext HE.out) (HB.out.ext HE.out) (GA.out.ext HE.out) (GB.out.ext HE.out) (by omega) (by omega) (by omega) (by omega) (by omega) (by omega)).mono ?_
          rintro e w6 ⟨rfl, hE⟩
          have HE6 := Lib.hid (HE.out.trans hE); clear hE
          go_wp2_with fail
          go_ret
          exact ⟨ret_bool (by rw [HR.out, HX.out, rows_bad HO.out]), HE6.out⟩
      | some p =>
        have hp := atV_small HS.out h1
        cases h2 : atV before (2 * (i : Int) - d + 1) with
        | none =>
          rw [h1, h2] at hbe
          have H1 := Lib.hid h1; have H2 := Lib.hid h2; clear h1 h2
          subst hbe
          go_wp2_with fail
          refine (at_some H1.out (HP.out.ext HE.out) (by omega) (by omega) (by omega)).mono ?_
          rintro e w5 ⟨rfl, rfl⟩
          go_wp2_with fail
          refine (at_none H2.out (HP.out.ext HE.out) (by omega) (by omega) (by omega)).mono ?_
          rintro e w5 ⟨rfl, rfl⟩
          go_wp2_with fail
          refine (folc_is HFO.out (HA.out.ext HE.out) (HB.out.ext HE.out) (GA.out.ext HE.out) (GB.out.ext HE.out) (by omega) (by omega) (by omega) (by omega) (by omega) (by omega)).mono ?_
          rintro e w6 ⟨rfl, hE⟩
          have HE6 := Lib.hid (HE.out.trans hE); clear hE
          go_wp2_with fail
          go_ret
          exact ⟨ret_bool (by rw [HR.out, HX.out, rows_bad HO.out]), HE6.out⟩
        | some q =>
          have hq := atV_small HS.out h2
          rw [h1, h2] at hbe
          have H1 := Lib.hid h1; have H2 := Lib.hid h2; clear h1 h2
          by_cases hpq : p + 1 < q
          · have hpq' := yd hpq
            simp only [if_pos hpq] at hbe
            subst hbe
            go_wp2_with fail
            refine (at_some H1.out (HP.out.ext HE.out) (by omega) (by omega) (by omega)).mono ?_
            rintro e w5 ⟨rfl, rfl⟩
            go_wp2_with fail
            refine (at_some H2.out (HP.out.ext HE.out) (by omega) (by omega) (by omega)).mono ?_
            rintro e w5 ⟨rfl, rfl⟩
            go_wp2_with fail
            refine (folc_is HFO.out (HA.out.ext HE.out) (HB.out.ext HE.out) (GA.out.ext HE.out) (GB.out.ext HE.out) (by omega) (by omega) (by omega) (by omega) (by omega) (by omega)).mono ?_
            rintro e w6 ⟨rfl, hE⟩
            have HE6 := Lib.hid (HE.out.trans hE); clear hE
            go_wp2_with fail
            go_ret
            exact ⟨ret_bool (by rw [HR.out, HX.out, rows_bad HO.out]), HE6.out⟩
          · have hpq' := nd hpq
            simp only [if_neg hpq] at hbe
            subst hbe
            go_wp2_with fail
            refine (at_some H1.out (HP.out.ext HE.out) (by omega) (by omega) (by omega)).mono ?_
            rintro e w5 ⟨rfl, rfl⟩
            go_wp2_with fail
            refine (at_some H2.out (HP.out.ext HE.out) (by omega) (by omega) (by omega)).mono ?_
            rintro e w5 ⟨rfl, rfl⟩
            go_wp2_with fail
            refine (folc_is HFO.out (HA.out.ext HE.out) (HB.out.ext HE.out) (GA.out.ext HE.out) (GB.out.ext HE.out) (by omega) (by omega) (by omega) (by omega) (by omega) (by omega)).mono ?_
            rintro e w6 ⟨rfl, hE⟩
            have HE6 := Lib.hid (HE.out.trans hE); clear hE
            go_wp2_with fail
            go_ret
            exact ⟨ret_bool (by rw [HR.out, HX.out, rows_bad HO.out]), HE6.out⟩
    · have HO := Lib.hid ho; clear ho
      rcases hd0 with hdz | hd0
      · have hbe := HBE.out
        rw [if_pos hdz] at hbe
        subst hbe
        have e0 : decide (0 < d) = false := by rw [hdz]; rfl
        clear hdz
        go_wp2_with fail
        refine (folc_is HFO.out (HA.out.ext HE.out) (HB.out.ext HE.out) (GA.out.ext HE.out) (GB.out.ext HE.out) (by omega) (by omega) (by omega) (by omega) (by omega) (by omega)).mono ?_
        rintro e w6 ⟨rfl, hE⟩
        have HE6 := Lib.hid (HE.out.trans hE); clear hE
        go_wp2_with fail
        go_roundw
        case rel => exact ⟨i + 1, by omega, by go_num, by rw [HR.out, HX.out, rows_good HO.out], HE6.out⟩
        case measure => simp [intOf]; omega
      have hbe := HBE.out
      rw [if_neg (by omega), begV] at hbe
      cases h1 : atV before (2 * (i : Int) - d - 1) with
      | none =>
        cases h2 : atV before (2 * (i : Int) - d + 1) with
        | none =>
          rw [h1, h2] at hbe
          have H1 := Lib.hid h1; have H2 := Lib.hid h2; clear h1 h2
          subst hbe
          go_wp2_with fail
          refine (at_none H1.out (HP.out.ext HE.out) (by omega) (by omega) (by omega)).mono ?_
          rintro e w5 ⟨rfl, rfl⟩
          go_wp2_with fail
          refine (at_none H2.out (HP.out.ext HE.out) (by omega) (by omega) (by omega)).mono ?_
          rintro e w5 ⟨rfl, rfl⟩
          go_wp2_with fail
          refine (folc_is HFO.out (HA.out.ext HE.out) (HB.out.ext HE.out) (GA.out.ext HE.out) (GB.out.ext HE.out) (by omega) (by omega) (by omega) (by omega) (by omega) (by omega)).mono ?_
          rintro e w6 ⟨rfl, hE⟩
          have HE6 := Lib.hid (HE.out.trans hE); clear hE
          go_wp2_with fail
          go_roundw
          case rel => exact ⟨i + 1, by omega, by go_num, by rw [HR.out, HX.out, rows_good HO.out], HE6.out⟩
          case measure => simp [intOf]; omega
        | some q =>
          rw [h1, h2] at hbe
          have hq := atV_small HS.out h2
          have H1 := Lib.hid h1; have H2 := Lib.hid h2; clear h1 h2
          subst hbe
          go_wp2_with fail
          refine (at_none H1.out (HP.out.ext HE.out) (by omega) (by omega) (by omega)).mono ?_
          rintro e w5 ⟨rfl, rfl⟩
          go_wp2_with fail
          refine (at_some H2.out (HP.out.ext HE.out) (by omega) (by omega) (by omega)).mono ?_
          rintro e w5 ⟨rfl, rfl⟩
          go_wp2_with fail
          refine (folc_is HFO.out (HA.out.ext HE.out) (HB.out.ext HE.out) (GA.out.ext HE.out) (GB.out.ext HE.out) (by omega) (by omega) (by omega) (by omega) (by omega) (by omega)).mono ?_
          rintro e w6 ⟨rfl, hE⟩
          have HE6 := Lib.hid (HE.out.trans hE); clear hE
          go_wp2_with fail
          go_roundw
          case rel => exact ⟨i + 1, by omega, by go_num, by rw [HR.out, HX.out, rows_good HO.out], HE6.out⟩
          case measure => simp [intOf]; omega
      | some p =>
        have hp := atV_small HS.out h1
        cases h2 : atV before (2 * (i : Int) - d + 1) with
        | none =>
          rw [h1, h2] at hbe
          have H1 := Lib.hid h1; have H2 := Lib.hid h2; clear h1 h2
          subst hbe
          go_wp2_with fail
          refine (at_some H1.out (HP.out.ext HE.out) (by omega) (by omega) (by omega)).mono ?_
          rintro e w5 ⟨rfl, rfl⟩
          go_wp2_with fail
          refine (at_none H2.out (HP.out.ext HE.out) (by omega) (by omega) (by omega)).mono ?_
          rintro e w5 ⟨rfl, rfl⟩
          go_wp2_with fail
          refine (folc_is HFO.out (HA.out.ext HE.out) (HB.out.ext HE.out) (GA.out.ext HE.out) (GB.out.ext HE.out) (by omega) (by omega) (by omega) (by omega) (by omega) (by omega)).mono ?_
          rintro e w6 ⟨rfl, hE⟩
          have HE6 := Lib.hid (HE.out.trans hE); clear hE
          go_wp2_with fail
          go_roundw
          case rel => exact ⟨i + 1, by omega, by go_num, by rw [HR.out, HX.out, rows_good HO.out], HE6.out⟩
          case measure => simp [intOf]; omega
        | some q =>
          have hq := atV_small HS.out h2
          rw [h1, h2] at hbe
          have H1 := Lib.hid h1; have H2 := Lib.hid h2; clear h1 h2
          by_cases hpq : p + 1 < q
          · have hpq' := yd hpq
            simp only [if_pos hpq] at hbe
            subst hbe
            go_wp2_with fail
            refine (at_some H1.out (HP.out.ext HE.out) (by omega) (by omega) (by omega)).mono ?_
            rintro e w5 ⟨rfl, rfl⟩
            go_wp2_with fail
            refine (at_some H2.out (HP.out.ext HE.out) (by omega) (by omega) (by omega)).mono ?_
            rintro e w5 ⟨rfl, rfl⟩
            go_wp2_with fail
            refine (folc_is HFO.out (HA.out.ext HE.out) (HB.out.ext HE.out) (GA.out.ext HE.out) (GB.out.ext HE.out) (by omega) (by omega) (by omega) (by omega) (by omega) (by omega)).mono ?_
            rintro e w6 ⟨rfl, hE⟩
            have HE6 := Lib.hid (HE.out.trans hE); clear hE
            go_wp2_with fail
            go_roundw
            case rel => exact ⟨i + 1, by omega, by go_num, by rw [HR.out, HX.out, rows_good HO.out], HE6.out⟩
            case measure => simp [intOf]; omega
          · have hpq' := nd hpq
            simp only [if_neg hpq] at hbe
            subst hbe
            go_wp2_with fail
            refine (at_some H1.out (HP.out.ext HE.out) (by omega) (by omega) (by omega)).mono ?_
            rintro e w5 ⟨rfl, rfl⟩
            go_wp2_with fail
            refine (at_some H2.out (HP.out.ext HE.out) (by omega) (by omega) (by omega)).mono ?_
            rintro e w5 ⟨rfl, rfl⟩
            go_wp2_with fail
            refine (folc_is HFO.out (HA.out.ext HE.out) (HB.out.ext HE.out) (GA.out.ext HE.out) (GB.out.ext HE.out) (by omega) (by omega) (by omega) (by omega) (by omega) (by omega)).mono ?_
            rintro e w6 ⟨rfl, hE⟩
            have HE6 := Lib.hid (HE.out.trans hE); clear hE
            go_wp2_with fail
            go_roundw
            case rel => exact ⟨i + 1, by omega, by go_num, by rw [HR.out, HX.out, rows_good HO.out], HE6.out⟩
            case measure => simp [intOf]; omega

theorem bound_is {A B C D : Option Addr} {n c m cd tn tc pn pc : Nat} {a b : Lns} {ga gb : Nat} {t before : List Int} {d : Nat} {r : Bool} {w : World} (h : rowsV a b before d 0 t = r) (ha : Strs w A n a) (hb : Strs w B m b)
    (hga : Blk w ga (.cells #[.slice A n c] 22 (0, 0))) (hgb : Blk w gb (.cells #[.slice B m cd] 22 (0, 0))) (hn : n ≤ 100) (hm : m ≤ 100) (hd : d ≤ 200)
    (ht : Ints w C tn t) (htn : tn = d + 1) (hp : Ints w D pn before) (hpn : pn ≤ 300) (hwf : ∀ x ∈ t, (Lit.int .i64 x).wf = true) (hsm : SmallT before) :
    Calls Tryz.prog 23 #[.slice C tn tc, .slice D pn pc, .int .i64 ((n : Int) + d), .func (.func 50) #[] #[.pointer (some ⟨ga, 0, none⟩), .pointer (some ⟨gb, 0, none⟩)]] w fun e w' => e = .returned (.bool r) ∧ Ext w w' := by
  subst h; exact bound_any A B C D n c m cd tn tc pn pc a b ga gb t before d w ha hb hga hgb hn hm hd ht htn hp hpn hwf hsm

/-- What is known in the loop of Certify. -/
def CertAt (w : World) (a b : Lns) (L : List TB) (i : Nat) (v : Value) (_wr : World) : Prop :=
  ∃ (D : Option Addr) (pn pc : Nat) (before : List Int), v = .slice D pn pc ∧ Ints w D pn before ∧ pn = i ∧ SmallT before ∧ certV a b [] 0 (L.map (·.t)) = certV a b before i ((L.drop i).map (·.t))

set_option maxHeartbeats 8000000 in
theorem certify_any (A B C : Option Addr) (n c m cd ln lc : Nat) (a b : Lns) (L : List TB) (w : World) (ha : Strs w A n a) (hb : Strs w B m b) (hn : n ≤ 100) (hm : m ≤ 100)
    (hl : RTBs w C ln L) (hln : ln ≤ 100) (hwf : ∀ s ∈ L, ∀ x ∈ s.t, (Lit.int .i64 x).wf = true) (hsn : ∀ s ∈ L, s.n ≤ 300) :
    Calls Tryz.prog 8 #[.slice A n c, .slice B m cd, .slice C ln lc] w fun e w' => e = .returned (.bool (certV a b [] 0 (L.map (·.t)))) ∧ Ext w w' := by
  obtain rfl : a.length = n := ha.1
  obtain rfl : b.length = m := hb.1
  have HA := Lib.hid ha; have HB := Lib.hid hb; have HL := Lib.hid hl; have HW := Lib.hid hwf; have HSN := Lib.hid hsn; clear ha hb hl hwf hsn
  have HE0 := Lib.hid (((Ext.refl w).alloc (boxS A a.length c)).alloc (boxS B b.length cd))
  have GA := Lib.hid ((Blk.new w (boxS A a.length c) rfl).alloc (boxS B b.length cd))
  have GB := Lib.hid (Blk.new (w.alloc (boxS A a.length c)) (boxS B b.length cd) (g := w.heap.size + 1) (by simp))
  go_enter Tryz.func8, Tryz.ntmps8
  go_wp2_with fail
  refine (follower_any _ _ _ _ _ _ _).mono ?_
  rintro e w1 ⟨rfl, rfl⟩
  obtain ⟨w1, hw1⟩ : ∃ w1, w1 = (w.alloc (boxS A a.length c)).alloc (boxS B b.length cd) := ⟨_, rfl⟩
  rw [← hw1] at HE0 GA GB ⊢
  clear hw1
  go_wp2_with fail
  go_loopw [8, 18] (fun v8 v18 wr => ∃ i : Nat, i ≤ ln ∧ v18 = .int .i64 i ∧ CertAt w a b L i v8 wr ∧ Ext w1 wr) (fun _ v18 _ => ln - (intOf v18).toNat)
  case atStart => exact ⟨0, Nat.zero_le _, rfl, ⟨none, 0, 0, [], rfl, ⟨rfl, Cells.nil _ _⟩, rfl, (fun x hx => by simp at hx), rfl⟩, Ext.refl _⟩
  case round =>
    obtain ⟨i, hi, rfl, ⟨D, pn, pc, before, rfl, hp, rfl, hsm, hcert⟩, hE⟩ := hrel
    have HP := Lib.hid hp; have HSM := Lib.hid hsm; have HC := Lib.hid hcert; have HE := Lib.hid hE; clear hp hsm hcert hE
    by_cases hlt : pn < ln
    case neg =>
      have hnil : L.drop pn = [] := List.drop_of_length_le (by rw [HL.out.1]; omega)
      have HN := Lib.hid hnil; clear hnil
      go_wp2_with fail
      go_ret
      exact ⟨ret_bool (by rw [HC.out, HN.out]; rfl), HE0.out.trans HE.out⟩
    obtain ⟨bt, off, ⟨sa, sn, sc, st⟩, rfl, hbt, hs, hrs, hc⟩ := (HL.out.ext (HE0.out.trans HE.out)).get hlt
    dsimp only at hc
    obtain ⟨hsn0, hst⟩ : sn ≤ Reach ∧ Ints wr sa sn st := hrs
    have hst0 : Ints w sa sn st := (HL.out.2.1 _ (List.mem_of_getElem? hs)).2
    have hsn : sn ≤ 300 := HSN.out _ (List.mem_of_getElem? hs)
    have hsw : ∀ x ∈ st, (Lit.int .i64 x).wf = true := HW.out _ (List.mem_of_getElem? hs)
    have hdr : (L.drop pn).map (·.t) = st :: (L.drop (pn + 1)).map (·.t) := by rw [drop_of hs]; rfl
    have HI := Lib.hid hst; have HI0 := Lib.hid hst0; have HSW := Lib.hid hsw; have HDR := Lib.hid hdr; clear hst hst0 hsw hdr hs hsn0
    by_cases hlen : sn = pn + 1
    case neg =>
      have e1 : ((sn : Int) != (pn : Int) + 1) = true := by simp; omega
      have hbad : certV a b before pn (st :: (L.drop (pn + 1)).map (·.t)) = false := by rw [certV, decide_eq_false (by rw [HI.out.1]; exact hlen)]; rfl
      have HB2 := Lib.hid hbad; clear hbad hlen
      go_wp2_with fail
      go_ret
      exact ⟨ret_bool (by rw [HC.out, HDR.out, HB2.out]), HE0.out.trans HE.out⟩
    subst hlen
    have e1 : ((((pn + 1 : Nat) : Int)) != (pn : Int) + 1) = false := by simp
    have e2 : (((pn : Int) + 1) != (pn : Int) + 1) = false := by simp
    cases hrow : rowsV a b before pn 0 st with
    | false =>
      have hbad : certV a b before pn (st :: (L.drop (pn + 1)).map (·.t)) = false := by rw [certV, hrow]; simp
      have HB2 := Lib.hid hbad; have HR := Lib.hid hrow; clear hbad hrow
      go_wp2_with fail
      refine (bound_is HR.out (HA.out.ext (HE0.out.trans HE.out)) (HB.out.ext (HE0.out.trans HE.out)) (GA.out.ext HE.out) (GB.out.ext HE.out) (by omega) (by omega) (by omega) HI.out (by omega) (HP.out.ext (HE0.out.trans HE.out)) (by omega) HSW.out HSM.out).mono ?_
      rintro e w2 ⟨rfl, hE⟩
      have HE2 := Lib.hid (HE.out.trans hE); clear hE
      go_wp2_with fail
      go_ret
      exact ⟨ret_bool (by rw [HC.out, HDR.out, HB2.out]), HE0.out.trans HE2.out⟩
    | true =>
      have hsm2 := rows_small (by omega) (by omega) _ _ hrow
      have HSM2 := Lib.hid hsm2; clear hsm2
      cases hat : atV st ((a.length : Int) - b.length) with
      | none =>
        have hgood : certV a b before pn (st :: (L.drop (pn + 1)).map (·.t)) = certV a b st (pn + 1) ((L.drop (pn + 1)).map (·.t)) := by rw [certV, hrow, endOk, hat, decide_eq_true HI.out.1]; simp
        have HG := Lib.hid hgood; have HR := Lib.hid hrow; have HAT := Lib.hid hat; clear hgood hrow hat
        go_wp2_with fail
        refine (bound_is HR.out (HA.out.ext (HE0.out.trans HE.out)) (HB.out.ext (HE0.out.trans HE.out)) (GA.out.ext HE.out) (GB.out.ext HE.out) (by omega) (by omega) (by omega) HI.out (by omega) (HP.out.ext (HE0.out.trans HE.out)) (by omega) HSW.out HSM.out).mono ?_
        rintro e w2 ⟨rfl, hE⟩
        have HE2 := Lib.hid (HE.out.trans hE); clear hE
        go_wp2_with fail
        refine (at_none HAT.out (HI0.out.ext (HE0.out.trans HE2.out)) (by omega) (by omega) (by omega)).mono ?_
        rintro e w3 ⟨rfl, rfl⟩
        go_wp2_with fail
        go_roundw
        case rel => exact ⟨pn + 1, by omega, by go_num, ⟨sa, _, sc, st, rfl, HI0.out, rfl, HSM2.out, by rw [HC.out, HDR.out, HG.out]⟩, HE2.out⟩
        case measure => simp [intOf]; omega
      | some x =>
        have hx := atV_small HSM2.out hat
        by_cases hxa : x < (a.length : Int)
        · have hxa' := nd (show ¬ (a.length : Int) ≤ x by omega)
          have hgood : certV a b before pn (st :: (L.drop (pn + 1)).map (·.t)) = certV a b st (pn + 1) ((L.drop (pn + 1)).map (·.t)) := by rw [certV, hrow, endOk, hat, decide_eq_true HI.out.1]; simp [hxa]
          have HG := Lib.hid hgood; have HR := Lib.hid hrow; have HAT := Lib.hid hat; clear hgood hrow hat
          go_wp2_with fail
          refine (bound_is HR.out (HA.out.ext (HE0.out.trans HE.out)) (HB.out.ext (HE0.out.trans HE.out)) (GA.out.ext HE.out) (GB.out.ext HE.out) (by omega) (by omega) (by omega) HI.out (by omega) (HP.out.ext (HE0.out.trans HE.out)) (by omega) HSW.out HSM.out).mono ?_
          rintro e w2 ⟨rfl, hE⟩
          have HE2 := Lib.hid (HE.out.trans hE); clear hE
          go_wp2_with fail
          refine (at_some HAT.out (HI0.out.ext (HE0.out.trans HE2.out)) (by omega) (by omega) (by omega)).mono ?_
          rintro e w3 ⟨rfl, rfl⟩
          go_wp2_with fail
          go_roundw
          case rel => exact ⟨pn + 1, by omega, by go_num, ⟨sa, _, sc, st, rfl, HI0.out, rfl, HSM2.out, by rw [HC.out, HDR.out, HG.out]⟩, HE2.out⟩
          case measure => simp [intOf]; omega
        · have hxa' := yd (show (a.length : Int) ≤ x by omega)
          have hbad : certV a b before pn (st :: (L.drop (pn + 1)).map (·.t)) = false := by rw [certV, hrow, endOk, hat, decide_eq_true HI.out.1]; simp [hxa]
          have HG := Lib.hid hbad; have HR := Lib.hid hrow; have HAT := Lib.hid hat; clear hbad hrow hat
          go_wp2_with fail
          refine (bound_is HR.out (HA.out.ext (HE0.out.trans HE.out)) (HB.out.ext (HE0.out.trans HE.out)) (GA.out.ext HE.out) (GB.out.ext HE.out) (by omega) (by omega) (by omega) HI.out (by omega) (HP.out.ext (HE0.out.trans HE.out)) (by omega) HSW.out HSM.out).mono ?_
          rintro e w2 ⟨rfl, hE⟩
          have HE2 := Lib.hid (HE.out.trans hE); clear hE
          go_wp2_with fail
          refine (at_some HAT.out (HI0.out.ext (HE0.out.trans HE2.out)) (by omega) (by omega) (by omega)).mono ?_
          rintro e w3 ⟨rfl, rfl⟩
          go_wp2_with fail
          go_ret
          exact ⟨ret_bool (by rw [HC.out, HDR.out, HG.out]), HE0.out.trans HE2.out⟩
end Go.Proofs.YtmmcjcaccicheaaGreatDoor

/- Contracts of the reference: follow, down, table, at, Tables. -/
import Derived.Test.YtmmppfopokbcfaaMyLaws
namespace Go.Proofs.Ytmmppfopokbcfaa
open Go.RowKit

set_option maxRecDepth 100000 in
set_option maxHeartbeats 4000000 in
theorem rfol_any (A B : Option Addr) (n m c d : Nat) (a b : Lns) (x0 k : Int) (w : World) (ha : Strs w A n a) (hb : Strs w B m b)
    (hn : n ≤ 1000) (hm : m ≤ 1000) (hx : -1000000 ≤ x0) (hx' : x0 ≤ 1000000) (hk : -1000000 ≤ k) (hk' : k ≤ 1000000) :
    Calls Try.prog 86 #[.slice A n c, .slice B m d, .int .i64 x0, .int .i64 k] w fun e w' => e = .returned (.int .i64 (folV a b x0 k)) ∧ Ext w w' := by
  have HA := Lib.hid ha; have HB := Lib.hid hb; clear ha hb
  obtain rfl : a.length = n := HA.out.1
  obtain rfl : b.length = m := HB.out.1
  go_enter Try.func86, Try.ntmps86
  go_wp2_with fail
  go_loopw [2] (fun v wr => ∃ x : Int, v = .int .i64 x ∧ -1000000 ≤ x ∧ x ≤ 1000000 ∧ folV a b x k = folV a b x0 k ∧ Ext w wr) (fun v _ => ((a.length : Int) - intOf v).toNat)
  case atStart => exact ⟨x0, rfl, hx, hx', rfl, Ext.refl _⟩
  case round =>
    obtain ⟨x, rfl, hx1, hx2, hf, hE⟩ := hrel
    have HE := Lib.hid hE; have HF := Lib.hid hf; clear hE hf
    by_cases hin : 0 ≤ x ∧ x < a.length ∧ 0 ≤ x - k ∧ x - k < b.length
    case neg =>
      have hs : folV a b x k = x := folV_stop (mtB_out (fun h => hin (by omega)))
      have hd : decide (0 ≤ x) = false ∨ (decide (0 ≤ x) = true ∧ decide (x < a.length) = false) ∨ (decide (0 ≤ x) = true ∧ decide (x < a.length) = true ∧ decide (0 ≤ x - k) = false) ∨ (decide (0 ≤ x) = true ∧ decide (x < a.length) = true ∧ decide (0 ≤ x - k) = true ∧ decide (x - k < b.length) = false) := by
        simp only [decide_eq_true_eq, decide_eq_false_iff_not]; omega
      have hkx : decide (0 ≤ x - k) = decide (k ≤ x) := by rw [Bool.eq_iff_iff]; simp only [decide_eq_true_eq]; omega
      rw [hkx] at hd
      have HS := Lib.hid hs; clear hs hin hkx
      rcases hd with q1 | ⟨q1, q2⟩ | ⟨q1, q2, q3⟩ | ⟨q1, q2, q3, q4⟩
      all_goals
        go_wp2_with fail
        go_quiet (fail)
        go_wp2_with fail
        go_ret
        exact ⟨ret_int (by rw [← HF.out, HS.out]), HE.out.drewN _⟩
    obtain ⟨p, rfl⟩ : ∃ p : Nat, x = p := ⟨x.toNat, by omega⟩
    obtain ⟨q, hq⟩ : ∃ q : Nat, (p : Int) - k = q := ⟨((p : Int) - k).toNat, by omega⟩
    have hpl : p < a.length := by omega
    have hql : q < b.length := by omega
    have hkp : k ≤ p := by omega
    obtain ⟨ba, oa, s, rfl, hba, hs, hs2, hc1⟩ := (HA.out.ext HE.out).get hpl
    obtain ⟨bb, ob, t, rfl, hbb, ht, ht2, hc2⟩ := (HB.out.ext HE.out).get hql
    have hmt : mtB a b p ((p : Int) - k) = decide (s = t) := by rw [hq]; exact mtB_at hs ht
    have HM := Lib.hid hmt; clear hmt hs ht hin
    by_cases hst : s = t
    · subst hst
      have hstep := folV_step (x := p) (k := k) (by rw [HM.out]; simp)
      have HS := Lib.hid hstep; clear hstep
      go_wp2_with fail
      go_quiet (fail)
      go_wp2_with fail
      go_roundw
      case rel => exact ⟨(p : Int) + 1, by go_num, by omega, by omega, by rw [← HS.out, HF.out], HE.out.drewN _⟩
      case measure => simp [intOf]; omega
    · have hne : (s.toList == t.toList) = false := by
        cases e : (s.toList == t.toList) with
        | false => rfl
        | true => exact absurd (toList_inj (by simpa using e)) hst
      have hstop := folV_stop (x := p) (k := k) (by rw [HM.out]; simpa using hst)
      have HS := Lib.hid hstop; clear hstop hst
      go_wp2_with fail
      go_quiet (fail)
      go_wp2_with fail
      go_ret
      exact ⟨ret_int (by rw [← HF.out, HS.out]), HE.out.drewN _⟩
theorem rfol_is {A B : Option Addr} {n m c d : Nat} {a b : Lns} {x0 k r : Int} {w : World} (h : folV a b x0 k = r) (ha : Strs w A n a) (hb : Strs w B m b)
    (hn : n ≤ 1000) (hm : m ≤ 1000) (hx : -1000000 ≤ x0) (hx' : x0 ≤ 1000000) (hk : -1000000 ≤ k) (hk' : k ≤ 1000000) :
    Calls Try.prog 86 #[.slice A n c, .slice B m d, .int .i64 x0, .int .i64 k] w fun e w' => e = .returned (.int .i64 r) ∧ Ext w w' := by
  subst h; exact rfol_any A B n m c d a b x0 k w ha hb hn hm hx hx' hk hk'

/-- Does the path to the i-th number of the table of d go down? -/
def downV (t : List Int) (d i : Nat) : Bool := decide (i = 0) || (decide (i < d) && (match t[i - 1]?, t[i]? with | some p, some q => decide (p < q) | _, _ => false))

set_option maxRecDepth 100000 in
set_option maxHeartbeats 2000000 in
theorem down_any (A : Option Addr) (n c : Nat) (t : List Int) (d i : Nat) (w : World) (ht : Ints w A n t) (hn : n = d) (hd : d ≤ 1000) (hi : i ≤ d) :
    Calls Try.prog 65 #[.slice A n c, .int .i64 d, .int .i64 i] w fun e w' => e = .returned (.bool (downV t d i)) ∧ Ext w w' := by
  subst hn
  have HT := Lib.hid ht; clear ht
  rcases Nat.eq_zero_or_pos i with rfl | h0
  · go_enter Try.func65, Try.ntmps65
    go_wp2_with fail
    go_quiet (fail)
    go_wp2_with fail
    go_ret
    exact ⟨ret_bool (by simp [downV]), (Ext.refl w).drewN _⟩
  have e0 : ((i : Int) == 0) = false := by simp; omega
  by_cases hlt : i < n
  · obtain ⟨j, rfl⟩ : ∃ j, i = j + 1 := ⟨i - 1, by omega⟩
    obtain ⟨b1, o1, p, rfl, hb1, hp, hc1⟩ := HT.out.get (k := j) (by omega)
    obtain ⟨b2, o2, q, hA, hb2, hq, hc2⟩ := HT.out.get (k := j + 1) hlt
    cases hA
    have hV : downV t n (j + 1) = decide (p < q) := by simp [downV, hlt, hp, hq]
    have HV := Lib.hid hV; clear hV hp hq
    have e1 : ((j + 1 : Nat) : Int) - 1 = j := by omega
    have e2 : (((j + 1 : Nat) : Int)) < n := by omega
    have e5 : decide ((j : Int) + 1 < n) = true := yd (by omega)
    have e6 : ((j : Int) + 1 == 0) = false := by simp; omega
    have e7 : IntKind.i64.wrap (j : Int) = j := wrap_in (by omega) (by omega)
    have e8 : ((j : Int) + 1).toNat = j + 1 := by omega
    have e9 : (0 : Int) ≤ (j : Int) + 1 := by omega
    have e10 : (j : Int) + 1 < n := by omega
    have hc3 := hc2
    have e3 : ((j : Int) + 1) - 1 = j := by omega
    have e4 : IntKind.i64.wrap ((j : Int) + 1 - 1) = j := by rw [e3]; exact wrap_in (by omega) (by omega)
    rw [← Nat.add_assoc] at hc2
    go_enter Try.func65, Try.ntmps65
    go_wp2_with fail
    go_quiet (fail)
    go_wp2_with fail
    go_ret
    exact ⟨ret_bool (by rw [HV.out]), (Ext.refl w).drewN _⟩
  · have hin : i = n := by omega
    have hV : downV t n i = false := by simp [downV, hlt]; omega
    have HV := Lib.hid hV; clear hV
    have e1 := nd hlt
    clear hin
    go_enter Try.func65, Try.ntmps65
    go_wp2_with fail
    go_quiet (fail)
    go_wp2_with fail
    go_ret
    exact ⟨ret_bool (by rw [HV.out]), (Ext.refl w).drewN _⟩

theorem down_yes {t : List Int} {d i : Nat} (ht : t.length = d) (hd : 0 < d) (hi : i ≤ d) (h : downV t d i = true) : ∃ q, t[i]? = some q ∧ i < d ∧ stepV t (2 * (i : Int) - d) = (q, 2 * (i : Int) - d + 1) := by
  have hid : i < d := by
    unfold downV at h
    simp only [Bool.or_eq_true, decide_eq_true_eq, Bool.and_eq_true] at h
    omega
  obtain ⟨q, hq⟩ : ∃ q, t[i]? = some q := ⟨_, List.getElem?_eq_getElem (by omega)⟩
  obtain ⟨e, rfl⟩ : ∃ e, d = e + 1 := ⟨d - 1, by omega⟩
  refine ⟨q, hq, hid, ?_⟩
  have hright : atV t (2 * (i : Int) - ((e + 1 : Nat) : Int) + 1) = some q := by
    rw [atV_in ht (by omega) (by omega) (by omega), show ((2 * (i : Int) - ((e + 1 : Nat) : Int) + 1 + e) / 2).toNat = i by omega]; exact hq
  rcases Nat.eq_zero_or_pos i with rfl | h0
  · have hleft : atV t (2 * ((0 : Nat) : Int) - ((e + 1 : Nat) : Int) - 1) = none := atV_out ht (by omega)
    simp only [stepV, hleft, hright]
  · obtain ⟨p, hp⟩ : ∃ p, t[i - 1]? = some p := ⟨_, List.getElem?_eq_getElem (by omega)⟩
    have hleft : atV t (2 * (i : Int) - ((e + 1 : Nat) : Int) - 1) = some p := by
      rw [atV_in ht (by omega) (by omega) (by omega), show ((2 * (i : Int) - ((e + 1 : Nat) : Int) - 1 + e) / 2).toNat = i - 1 by omega]; exact hp
    have hpq : p < q := by
      unfold downV at h
      simp only [hp, hq, Bool.or_eq_true, decide_eq_true_eq, Bool.and_eq_true] at h
      omega
    simp only [stepV, hleft, hright, if_pos hpq]
theorem down_no {t : List Int} {d i : Nat} (ht : t.length = d) (hd : 0 < d) (hi : i ≤ d) (h : downV t d i = false) : ∃ p, t[i - 1]? = some p ∧ 0 < i ∧ stepV t (2 * (i : Int) - d) = (p + 1, 2 * (i : Int) - d - 1) := by
  have h0 : 0 < i := by
    unfold downV at h
    simp only [Bool.or_eq_false_iff, decide_eq_false_iff_not] at h
    omega
  obtain ⟨p, hp⟩ : ∃ p, t[i - 1]? = some p := ⟨_, List.getElem?_eq_getElem (by omega)⟩
  obtain ⟨e, rfl⟩ : ∃ e, d = e + 1 := ⟨d - 1, by omega⟩
  refine ⟨p, hp, h0, ?_⟩
  have hleft : atV t (2 * (i : Int) - ((e + 1 : Nat) : Int) - 1) = some p := by
    rw [atV_in ht (by omega) (by omega) (by omega), show ((2 * (i : Int) - ((e + 1 : Nat) : Int) - 1 + e) / 2).toNat = i - 1 by omega]; exact hp
  rcases Nat.lt_or_ge i (e + 1) with hlt | hge
  · obtain ⟨q, hq⟩ : ∃ q, t[i]? = some q := ⟨_, List.getElem?_eq_getElem (by omega)⟩
    have hright : atV t (2 * (i : Int) - ((e + 1 : Nat) : Int) + 1) = some q := by
      rw [atV_in ht (by omega) (by omega) (by omega), show ((2 * (i : Int) - ((e + 1 : Nat) : Int) + 1 + e) / 2).toNat = i by omega]; exact hq
    have hpq : ¬ p < q := by
      unfold downV at h
      simp only [hp, hq, Bool.or_eq_false_iff, decide_eq_false_iff_not, Bool.and_eq_false_imp, decide_eq_true_eq] at h
      exact h.2 hlt
    simp only [stepV, hleft, hright, if_neg hpq]
  · have hright : atV t (2 * (i : Int) - ((e + 1 : Nat) : Int) + 1) = none := atV_out ht (by omega)
    simp only [stepV, hleft, hright]
theorem down_is {A : Option Addr} {n c : Nat} {t : List Int} {d i : Nat} {r : Bool} {w : World} (h : downV t d i = r) (ht : Ints w A n t) (hn : n = d) (hd : d ≤ 1000) (hi : i ≤ d) :
    Calls Try.prog 65 #[.slice A n c, .int .i64 d, .int .i64 i] w fun e w' => e = .returned (.bool r) ∧ Ext w w' := by
  subst h; exact down_any A n c t d i w ht hn hd hi

theorem under47 : Try.prog.underlying 67 = some (.slice 3) := by kernel_rfl

set_option maxRecDepth 100000 in
set_option maxHeartbeats 8000000 in
theorem rtable_any (A B C : Option Addr) (n c m cd pn pc : Nat) (a b : Lns) (t : List Int) (d : Nat) (w : World) (ha : Strs w A n a) (hb : Strs w B m b) (hn : n ≤ 100) (hm : m ≤ 100) (hd : d ≤ 200)
    (hp : Ints w C pn t) (hpn : pn = d) (hsm : ∀ x ∈ t, 0 ≤ x ∧ x ≤ 1000) :
    Calls Try.prog 77 #[.slice A n c, .slice B m cd, .slice C pn pc, .int .i64 d] w fun e w' => ∃ v, e = .returned v ∧ w'.ownsRow w.heap.size 3 1 v (d + 1) ((if d = 0 then [folV a b 0 0] else nextV a b t).map (Value.int .i64)) ∧ Ext w w' := by
  subst hpn
  obtain rfl : t.length = pn := hp.1
  have HA := Lib.hid ha; have HB := Lib.hid hb; have HP := Lib.hid hp; have HS := Lib.hid hsm; clear ha hb hp hsm
  obtain ⟨inf, i1, i2, i3, i4⟩ := info_of infoI
  have I1 := Lib.hid i1; have I2 := Lib.hid i2; have I3 := Lib.hid i3; have I4 := Lib.hid i4; clear i1 i2 i3 i4
  rcases Nat.eq_zero_or_pos t.length with h0 | h0
  · -- the first table
    obtain rfl : t = [] := List.eq_nil_of_length_eq_zero h0
    obtain ⟨fo, hfo⟩ : ∃ fo, folV a b 0 0 = fo := ⟨_, rfl⟩
    have HFO := Lib.hid hfo
    have e0 : (([] : List Int).length) = 0 := rfl
    have e00 : ((0 : Nat) : Int) = 0 := rfl
    rw [e0, e00]
    rw [if_pos rfl, hfo]
    clear e0 e00
    clear hfo
    go_enter Try.func77, Try.ntmps77
    go_wp2_with fail
    obtain ⟨w1, hw1⟩ : ∃ w1, w1 = w.alloc (.cells #[] 3) := ⟨_, rfl⟩
    have hs1 : w1.heap.size = w.heap.size + 1 := by rw [hw1]; simp
    have hE1 : Ext w w1 := by rw [hw1]; exact (Ext.refl w).alloc _
    have hO1 : w1.ownsRow w.heap.size 3 1 (.slice (some ⟨w.heap.size, 0, none⟩) 0 0) 0 [] := by rw [hw1]; exact ⟨rfl, .inr ⟨w.heap.size, 0, #[], rfl, Nat.le_refl _, heap_alloc_new w _, Nat.le_refl _, by simp [maxLen], rfl, rfl⟩⟩
    rw [← hw1]
    have HE1 := Lib.hid hE1; have HO1 := Lib.hid hO1; clear hw1 hE1 hO1
    go_loopw [9, 10] (fun v9 v10 wr => ((v10 = .int .i64 0 ∧ wr.ownsRow w.heap.size 3 1 v9 0 []) ∨ (v10 = .int .i64 1 ∧ wr.ownsRow w.heap.size 3 1 v9 1 [.int .i64 fo])) ∧ Ext w wr) (fun _ v10 _ => (2 - intOf v10).toNat)
    case atStart => exact ⟨.inl ⟨rfl, HO1.out⟩, HE1.out⟩
    case round =>
      obtain ⟨⟨rfl, ho⟩ | ⟨rfl, ho⟩, hE⟩ := hrel
      · have HO := Lib.hid ho; have HE := Lib.hid hE; clear ho hE
        go_wp2_with fail
        refine (rfol_is HFO.out (HA.out.ext HE.out) (HB.out.ext HE.out) (by omega) (by omega) (by omega) (by omega) (by omega) (by omega)).mono ?_
        rintro e w5 ⟨rfl, hE⟩
        have HE5 := Lib.hid hE; clear hE
        go_wp2_with (at_builtin; refine wpList_append_size rfl (.tmp 38) (.tmp 47) 67 rfl w.heap.size 3 inf _ 1 8 under47 I1.out I2.out I3.out I4.out rfl (by decide) _ 0 [] (some ⟨w5.heap.size, 0, none⟩) 1 1 [.int .i64 fo] rfl (by simp [Act.eval]) rfl (by simp [Value.oneCell']) (by simp only [maxLen]; omega) (by omega) (own_stab3 (HE5.out.alloc _) HO.out) (Cells.new w5 _ [_] rfl) (by have := HE.out.size; have := HE5.out.size; simp; omega) ?_; intro v2 w2 hown2 hg2)
        have HO2 := Lib.hid hown2; have HE2 := Lib.hid (((HE.out.trans HE5.out).alloc _).own3 (own_stab3 (HE5.out.alloc _) HO.out) hg2); clear hown2 hg2
        go_wp2_with fail
        go_roundw
        case rel => exact ⟨.inr ⟨by go_num, by simpa using HO2.out⟩, HE2.out⟩
        case measure => simp [intOf]
      · have HO := Lib.hid ho; have HE := Lib.hid hE; clear ho hE
        go_wp2_with fail
        go_ret
        exact ⟨_, rfl, HO.out, HE.out⟩
  · rw [if_neg (by omega)]
    have hd0 : (0 : Int) < t.length := by omega
    go_enter Try.func77, Try.ntmps77
    go_wp2_with fail
    obtain ⟨w1, hw1⟩ : ∃ w1, w1 = w.alloc (.cells #[] 3) := ⟨_, rfl⟩
    have hE1 : Ext w w1 := by rw [hw1]; exact (Ext.refl w).alloc _
    have hO1 : w1.ownsRow w.heap.size 3 1 (.slice (some ⟨w.heap.size, 0, none⟩) 0 0) 0 [] := by rw [hw1]; exact ⟨rfl, .inr ⟨w.heap.size, 0, #[], rfl, Nat.le_refl _, heap_alloc_new w _, Nat.le_refl _, by simp [maxLen], rfl, rfl⟩⟩
    rw [← hw1]
    have HE1 := Lib.hid hE1; have HO1 := Lib.hid hO1; clear hw1 hE1 hO1
    go_loopw [9, 10] (fun v9 v10 wr => ∃ i : Nat, i ≤ t.length + 1 ∧ v10 = .int .i64 i ∧ wr.ownsRow w.heap.size 3 1 v9 i ((nextP a b t i).map (Value.int .i64)) ∧ Ext w wr) (fun _ v10 _ => t.length + 1 - (intOf v10).toNat)
    case atStart => exact ⟨0, by omega, rfl, HO1.out, HE1.out⟩
    case round =>
      obtain ⟨i, hi, rfl, ho, hE⟩ := hrel
      have HO := Lib.hid ho; have HE := Lib.hid hE; clear ho hE
      by_cases hlt : i ≤ t.length
      case neg =>
        obtain rfl : i = t.length + 1 := by omega
        have hge : ¬ (((t.length + 1 : Nat) : Int) ≤ t.length) := by omega
        go_wp2_with fail
        go_ret
        exact ⟨_, rfl, by rw [← nextP_all]; exact HO.out, HE.out⟩
      cases hdn : downV t t.length i with
      | true =>
        obtain ⟨q, hq, hid, hst⟩ := down_yes rfl h0 hlt hdn
        obtain ⟨q1, q2⟩ := HS.out q (List.mem_of_getElem? hq)
        have hP := nextP_succ a b t i
        rw [hst] at hP
        obtain ⟨fo, hfo⟩ : ∃ fo, folV a b q (2 * (i : Int) - t.length) = fo := ⟨_, rfl⟩
        rw [hfo] at hP
        obtain ⟨bc, oc, q', rfl, hbc, hq', hcq⟩ := HP.out.get hid
        obtain rfl : q = q' := by rw [hq] at hq'; simpa using hq'
        have hcw := HE.out.cell hcq
        have HPS := Lib.hid hP; have HFO := Lib.hid hfo; have HDN := Lib.hid hdn; have HCQ := Lib.hid hcq; clear hP hfo hdn hq hq' hst hcw hcq
        go_wp2_with fail
        refine (down_is HDN.out (HP.out.ext HE.out) rfl (by omega) hlt).mono ?_
        rintro e w4 ⟨rfl, hE⟩
        have HE4 := Lib.hid hE; clear hE
        have hcw := (HE.out.trans HE4.out).cell HCQ.out
        go_wp2_with fail
        refine (rfol_is HFO.out (HA.out.ext (HE.out.trans HE4.out)) (HB.out.ext (HE.out.trans HE4.out)) (by omega) (by omega) (by omega) (by omega) (by omega) (by omega)).mono ?_
        rintro e w5 ⟨rfl, hE⟩
        have HE5 := Lib.hid (HE4.out.trans hE); clear hE hcw
        go_wp2_with (at_builtin; refine wpList_append_size rfl (.tmp 38) (.tmp 47) 67 rfl w.heap.size 3 inf _ 1 8 under47 I1.out I2.out I3.out I4.out rfl (by decide) _ i ((nextP a b t i).map (Value.int .i64)) (some ⟨w5.heap.size, 0, none⟩) 1 1 [.int .i64 fo] rfl (by simp [Act.eval]) rfl (by simp [Value.oneCell']) (by simp only [maxLen]; omega) (by omega) (own_stab3 (HE5.out.alloc _) HO.out) (Cells.new w5 _ [_] rfl) (by have := HE.out.size; have := HE5.out.size; simp; omega) ?_; intro v2 w2 hown2 hg2)
        have HO2 := Lib.hid hown2; have HE2 := Lib.hid (((HE.out.trans HE5.out).alloc _).own3 (own_stab3 (HE5.out.alloc _) HO.out) hg2); clear hown2 hg2
        go_wp2_with fail
        go_roundw
        case rel => exact ⟨i + 1, by omega, by go_num, by rw [HPS.out, List.map_append]; exact HO2.out, HE2.out⟩
        case measure => simp [intOf]; omega
      | false =>
        obtain ⟨p, hp, hi0, hst⟩ := down_no rfl h0 hlt hdn
        obtain ⟨p1, p2⟩ := HS.out p (List.mem_of_getElem? hp)
        obtain ⟨j, rfl⟩ : ∃ j, i = j + 1 := ⟨i - 1, by omega⟩
        have hP := nextP_succ a b t (j + 1)
        rw [hst] at hP
        obtain ⟨fo, hfo⟩ : ∃ fo, folV a b (p + 1) (2 * ((j + 1 : Nat) : Int) - t.length) = fo := ⟨_, rfl⟩
        rw [hfo] at hP
        obtain ⟨bc, oc, p', rfl, hbc, hp', hcp⟩ := HP.out.get (k := j) (by omega)
        obtain rfl : p = p' := by rw [show j + 1 - 1 = j by omega, hp'] at hp; simpa using hp.symm
        have e1 : ((j : Int) + 1) - 1 = j := by omega
        have HPS := Lib.hid hP; have HFO := Lib.hid hfo; have HDN := Lib.hid hdn; have HCP := Lib.hid hcp; clear hP hfo hdn hp hp' hst hcp
        go_wp2_with fail
        refine (down_is HDN.out (HP.out.ext HE.out) rfl (by omega) hlt).mono ?_
        rintro e w4 ⟨rfl, hE⟩
        have HE4 := Lib.hid hE; clear hE
        have hcw := (HE.out.trans HE4.out).cell HCP.out
        go_wp2_with fail
        refine (rfol_is HFO.out (HA.out.ext (HE.out.trans HE4.out)) (HB.out.ext (HE.out.trans HE4.out)) (by omega) (by omega) (by omega) (by omega) (by omega) (by omega)).mono ?_
        rintro e w5 ⟨rfl, hE⟩
        have HE5 := Lib.hid (HE4.out.trans hE); clear hE hcw
        go_wp2_with (at_builtin; refine wpList_append_size rfl (.tmp 38) (.tmp 47) 67 rfl w.heap.size 3 inf _ 1 8 under47 I1.out I2.out I3.out I4.out rfl (by decide) _ (j + 1) ((nextP a b t (j + 1)).map (Value.int .i64)) (some ⟨w5.heap.size, 0, none⟩) 1 1 [.int .i64 fo] rfl (by simp [Act.eval]) rfl (by simp [Value.oneCell']) (by simp only [maxLen]; omega) (by omega) (own_stab3 (HE5.out.alloc _) HO.out) (Cells.new w5 _ [_] rfl) (by have := HE.out.size; have := HE5.out.size; simp; omega) ?_; intro v2 w2 hown2 hg2)
        have HO2 := Lib.hid hown2; have HE2 := Lib.hid (((HE.out.trans HE5.out).alloc _).own3 (own_stab3 (HE5.out.alloc _) HO.out) hg2); clear hown2 hg2
        go_wp2_with fail
        go_roundw
        case rel => exact ⟨j + 1 + 1, by omega, by go_num, by rw [HPS.out, List.map_append]; exact HO2.out, HE2.out⟩
        case measure => simp [intOf]; omega
end Go.Proofs.Ytmmppfopokbcfaa

/- Contracts: Similar of both; Same. -/
import Derived.Test.YtmmppfopokbcfaaTkRRef
namespace Go.Proofs.Ytmmppfopokbcfaa
open Go.RowKit

/-! ### What Similar counts -/
def sumS (l : Lns) : Nat := (l.map ByteArray.size).foldr (· + ·) 0
theorem sumS_snoc (l : Lns) (x : ByteArray) : sumS (l ++ [x]) = sumS l + x.size := by
  unfold sumS
  induction l with
  | nil => simp
  | cons y l ih => simp only [List.cons_append, List.map_cons, List.foldr_cons, ih]; omega
theorem sumS_join (l : Lns) : sumS l = (joinV l).size := by
  unfold sumS
  induction l with
  | nil => rfl
  | cons y l ih => rw [joinV_cons, ← ih]; rfl
/-- How many bytes matches keep. -/
def keptB (a : Lns) (ms : List Mt) : Nat := (ms.map fun m => sumS (cutW a m.a (m.a + m.n))).foldr (· + ·) 0
theorem keptB_ref (a b : Lns) : ∀ (ms : List Mt) (x y : Int), sumG sameB (refL a b x y ms) = keptB a ms
  | [], x, y => by
    rw [refL, sumG_app, sumG_pc sameB 1 _ 0 rfl (fun _ => rfl), sumG_pc sameB 2 _ 0 rfl (fun _ => rfl)]; rfl
  | m :: r, x, y => by
    rw [refL, sumG_app, sumG_app, sumG_app, sumG_pc sameB 1 _ 0 rfl (fun _ => rfl), sumG_pc sameB 2 _ 0 rfl (fun _ => rfl), keptB_ref a b r, sumG_pc sameB 0 _ (sumS (cutW a m.a (m.a + m.n))) (by rw [sumS_join]; rfl) (fun e => by rw [e]; rfl)]
    unfold keptB
    simp only [List.map_cons, List.foldr_cons]; omega
theorem keptB_snoc (a : Lns) (l : List Mt) (m : Mt) : keptB a (l ++ [m]) = keptB a l + sumS (cutW a m.a (m.a + m.n)) := by
  unfold keptB
  induction l with
  | nil => simp
  | cons y l ih => simp only [List.cons_append, List.map_cons, List.foldr_cons, ih]; omega
theorem kept_sum (s t : ByteArray) : sumG sameB (refineV s t) = keptB (wordsV s) (diffV (wordsV s) (wordsV t) (dist (wordsV s) (wordsV t))) := keptB_ref _ _ _ _ _
theorem kept_few (s t : ByteArray) : sumG sameB (refineV s t) ≤ s.size ∧ sumG sameB (refineV s t) ≤ t.size := by
  have h1 := sum_le 2 (by decide) (refineV s t)
  have h2 := sum_le 1 (by decide) (refineV s t)
  rw [refine_old] at h1
  rw [refine_new] at h2
  exact ⟨h1, h2⟩
theorem keptB_take (a : Lns) (ms : List Mt) (j : Nat) : keptB a (ms.take j) ≤ keptB a ms := by
  conv => rhs; rw [← List.take_append_drop j ms]
  unfold keptB
  rw [List.map_append, List.foldr_append]
  generalize (ms.take j).map _ = l
  induction l with
  | nil => simp
  | cons x l ih => simp only [List.foldr_cons]; omega
theorem sumS_take (l : Lns) (j : Nat) : sumS (l.take j) ≤ sumS l := by rw [sumS_join, sumS_join]; exact joinV_sub (List.take_sublist _ _)

theorem piece_le (k : Int) : ∀ (l : List Pc) (x : Pc), x ∈ l → x.k ≠ k → x.t.size ≤ (sideV k l).size
  | y :: l, x, hx, hk => by
    rw [sideV, mkS_size, show y :: l = [y] ++ l from rfl, bytes_app, List.length_append]
    rcases List.mem_cons.1 hx with rfl | hx
    · have : (bytesB (fun x => decide (x.k ≠ k)) [x]).length = x.t.size := by simp [bytesB, hk]
      omega
    · have := piece_le k l x hx hk
      rw [sideV, mkS_size] at this; omega
theorem refine_piece {s t : ByteArray} {x : Pc} (hx : x ∈ refineV s t) : x.t.size ≤ s.size + t.size ∧ 0 ≤ x.k ∧ x.k ≤ 2 := by
  have hv := vld_ne _ _ (refine_vld s t) x hx
  refine ⟨?_, hv.2⟩
  by_cases hk : x.k = 2
  · have := piece_le 1 _ x hx (by omega)
    rw [refine_new] at this; omega
  · have := piece_le 2 _ x hx hk
    rw [refine_old] at this; omega
theorem side_count : ∀ (l : List Pc), (∀ x ∈ l, x.t.size ≠ 0) → l.length ≤ (sideV 2 l).size + (sideV 1 l).size
  | [], _ => Nat.zero_le _
  | y :: l, h => by
    have ih := side_count l (fun x hx => h x (by simp [hx]))
    have hy := h y (by simp)
    rw [sideV, sideV, mkS_size, mkS_size, show y :: l = [y] ++ l from rfl, bytes_app, bytes_app, List.length_append, List.length_append, List.length_append]
    rw [sideV, sideV, mkS_size, mkS_size] at ih
    by_cases h2 : y.k = 2
    · have : (bytesB (fun x => decide (x.k ≠ 1)) [y]).length = y.t.size := by simp [bytesB, h2]
      simp only [List.length_singleton]; omega
    · have : (bytesB (fun x => decide (x.k ≠ 2)) [y]).length = y.t.size := by simp [bytesB, h2]
      simp only [List.length_singleton]; omega
theorem refine_few (s t : ByteArray) : (refineV s t).length ≤ s.size + t.size := by
  have := side_count (refineV s t) (fun x hx => (vld_ne _ _ (refine_vld s t) x hx).1)
  rwa [refine_old, refine_new] at this
theorem refine_wf {s t : ByteArray} (hs : s.size ≤ 1000) (ht : t.size ≤ 1000) : ∀ x ∈ refineV s t, x.wf := by
  intro x hx
  have := refine_piece hx
  refine ⟨⟨by omega, by omega⟩, by unfold Reach; omega⟩
theorem sumG_take (f : Pc → Nat) (l : List Pc) (j : Nat) : sumG f (l.take j) ≤ sumG f l := by
  conv => rhs; rw [← List.take_append_drop j l]
  rw [sumG_app]; omega
/-- The reference's pieces of two lines. -/
theorem rrefine_is {s t : ByteArray} {w : World} (hs : s.size ≤ 100) (ht : t.size ≤ 100) :
    Calls Try.prog 15 #[.string s, .string t] w fun e w' => ∃ A c, e = .returned (.slice A (refineV s t).length c) ∧ (refineV s t).length ≤ c ∧ Pcs w' A (refineV s t).length (refineV s t) ∧ Ext w w' := by
  refine (rrefine_any s t w hs ht).mono ?_
  rintro e w' ⟨v, base, rfl, ho, -, hE⟩
  obtain ⟨A, c, rfl, hc, hP⟩ := ownP_pcs ho (refine_wf (by omega) (by omega))
  exact ⟨A, c, rfl, hc, hP, hE⟩
/-- The program's pieces of two lines. -/
theorem refine_is {s t : ByteArray} {w : World} (hs : s.size ≤ 100) (ht : t.size ≤ 100) :
    Calls Try.prog 14 #[.string s, .string t] w fun e w' => ∃ A c, e = .returned (.slice A (refineV s t).length c) ∧ (refineV s t).length ≤ c ∧ Pcs w' A (refineV s t).length (refineV s t) ∧ Ext w w' := by
  refine (refine_any s t w (by omega) (by omega)).mono ?_
  rintro e w' ⟨v, base, rfl, ho, -, hE⟩
  obtain ⟨A, c, rfl, hc, hP⟩ := ownP_pcs ho (refine_wf (by omega) (by omega))
  exact ⟨A, c, rfl, hc, hP, hE⟩
set_option maxRecDepth 100000 in
set_option maxHeartbeats 8000000 in
theorem rsim_any (s t : ByteArray) (w : World) (hs : s.size ≤ 100) (ht : t.size ≤ 100) :
    Calls Try.prog 17 #[.string s, .string t] w fun e w' => e = .returned (.int .i64 (simV s t)) ∧ Ext w w' := by
  by_cases h0 : s.size + t.size = 0
  · have hv : simV s t = 100 := by rw [simV, if_pos h0]
    rw [hv]
    have q0 : ((s.size : Int) + t.size == 0) = true := by simp; omega
    clear hv
    go_enter Try.func17, Try.ntmps17
    go_wp2_with fail
    go_ret
    exact ⟨rfl, Ext.refl _⟩
  · have q0 : ((s.size : Int) + t.size == 0) = false := by simp; omega
    have hv : simV s t = 200 * (sumG sameB (refineV s t) : Int) / ((s.size + t.size : Nat) : Int) := by rw [simV, if_neg h0]
    have HV := Lib.hid hv; clear hv
    go_enter Try.func17, Try.ntmps17
    go_wp2_with fail
    refine (rrefine_is hs ht).mono ?_
    rintro e w1 ⟨A, c, rfl, hc, hP, hE⟩
    have hfew := kept_few s t
    have hlen := refine_few s t
    obtain ⟨S, hS⟩ : ∃ S, sumG sameB (refineV s t) = S := ⟨_, rfl⟩
    rw [hS] at HV hfew
    have hbd : ∀ x ∈ refineV s t, x.t.size ≤ 200 := fun x hx => by have := (refine_piece hx).1; omega
    obtain ⟨L, hL⟩ : ∃ L, refineV s t = L := ⟨_, rfl⟩
    rw [hL] at hc hP hS hbd hlen ⊢
    have HP := Lib.hid hP; have HE := Lib.hid hE; have HS := Lib.hid hS; have HBD := Lib.hid hbd; clear hP hE hS hbd hL
    go_wp2_with fail
    go_loopw [6, 7] (fun v6 v7 wr => ∃ j : Nat, j ≤ L.length ∧ v7 = .int .i64 j ∧ v6 = .int .i64 (sumG sameB (L.take j) : Nat) ∧ Ext w1 wr) (fun _ v7 _ => L.length - (intOf v7).toNat)
    case atStart => exact ⟨0, Nat.zero_le _, rfl, rfl, Ext.refl _⟩
    case round =>
      obtain ⟨j, hj, rfl, rfl, hE⟩ := hrel
      have HE2 := Lib.hid hE; clear hE
      have hle := sumG_take sameB L j
      rw [HS.out] at hle
      by_cases hlt : j < L.length
      · obtain ⟨b, off, x, rfl, hb, hx, hwf, c0, c1⟩ := (HP.out.ext HE2.out).get hlt
        obtain ⟨xk, xt⟩ := x
        have hxs : xt.size ≤ 200 := HBD.out _ (List.mem_of_getElem? hx)
        have hst : sumG sameB (L.take (j + 1)) = sumG sameB (L.take j) + sameB ⟨xk, xt⟩ := by
          rw [take_succ_of hx, sumG_app]; simp [sumG]
        have HST := Lib.hid hst; clear hst hwf hx
        dsimp only at c0 c1
        by_cases hk : xk = 0
        · subst hk
          go_wp2_with fail
          go_roundw
          case rel => exact ⟨j + 1, by omega, by go_num, by rw [HST.out]; simp [sameB], HE2.out⟩
          case measure => simp [intOf]; omega
        · have q1 : (xk == 0) = false := by simpa using hk
          go_wp2_with fail
          go_roundw
          case rel => exact ⟨j + 1, by omega, by go_num, by rw [HST.out]; simp [sameB, hk], HE2.out⟩
          case measure => simp [intOf]; omega
      · have hn : sumG sameB (L.take j) = S := by rw [List.take_of_length_le (by omega), HS.out]
        rw [hn]
        clear hn
        go_wp2_with fail
        go_ret
        exact ⟨ret_int (by rw [HV.out]; simp), HE.out.trans HE2.out⟩
set_option maxRecDepth 100000 in
set_option maxHeartbeats 8000000 in
theorem sim_any (s t : ByteArray) (w : World) (hs : s.size ≤ 100) (ht : t.size ≤ 100) :
    Calls Try.prog 16 #[.string s, .string t] w fun e w' => e = .returned (.int .i64 (simV s t)) ∧ Ext w w' := by
  by_cases h0 : s.size + t.size = 0
  · have hv : simV s t = 100 := by rw [simV, if_pos h0]
    rw [hv]
    have q0 := emp_yes (r := s) (by omega)
    have q1 := emp_yes (r := t) (by omega)
    clear hv
    go_enter Try.func16, Try.ntmps16
    go_wp2_with fail
    go_ret
    exact ⟨rfl, Ext.refl _⟩
  · have hv : simV s t = 200 * (sumG sameB (refineV s t) : Int) / ((s.size + t.size : Nat) : Int) := by rw [simV, if_neg h0]
    have hq : s.toList.isEmpty = false ∨ (s.toList.isEmpty = true ∧ t.toList.isEmpty = false) := by
      by_cases h1 : s.size = 0
      · exact .inr ⟨emp_yes h1, emp_no (by omega)⟩
      · exact .inl (emp_no h1)
    have hfew := (kept_few s t).1
    rw [kept_sum] at hv hfew
    have hpos : 0 < s.size + t.size := by omega
    have HV := Lib.hid hv; clear hv h0
    rcases hq with q0 | ⟨q0, q1⟩
    all_goals
      go_enter Try.func16, Try.ntmps16
      go_wp2_with fail
      refine (words_is (by omega)).mono ?_
      rintro e w1 ⟨A, c, rfl, hc, hA, hE⟩
      have HA := Lib.hid hA; have HE := Lib.hid hE; clear hA hE
      go_wp2_with fail
      refine (words_is (by omega)).mono ?_
      rintro e w2 ⟨B, d, rfl, hd, hB, hE⟩
      have HB := Lib.hid hB; have HE2 := Lib.hid (HE.out.trans hE); replace HA := Lib.hid (HA.out.ext hE); clear hB hE HE
      have hla := words_few s
      have hlb := words_few t
      obtain ⟨a, ha⟩ : ∃ a, wordsV s = a := ⟨_, rfl⟩
      obtain ⟨b, hb⟩ : ∃ b, wordsV t = b := ⟨_, rfl⟩
      rw [ha] at HA hc hla HV hfew ⊢
      rw [hb] at HB hd hlb HV hfew ⊢
      have hok := okF_start (diff_ok a b).1
      have hdl := diff_len a b
      have hdd := dist_le a b
      clear ha hb
      go_wp2_with fail
      refine (diff_any A B a.length c b.length d a b _ HA.out HB.out (by omega) (by omega) (dist a b) (by omega) (last_dist a b)).mono ?_
      rintro e w3 ⟨v, N, rfl, ho, hwf, hE⟩
      obtain ⟨ms, hms⟩ : ∃ ms, diffV a b (dist a b) = ms := ⟨_, rfl⟩
      rw [hms] at ho hwf hok hdl HV hfew
      obtain ⟨C, cc, rfl, hcc, hM⟩ := ownM_mts ho hwf
      obtain rfl := hM.1
      have HMS := Lib.hid hM; have HE3 := Lib.hid (HE2.out.trans hE); have HOK := Lib.hid hok; replace HA := Lib.hid (HA.out.ext hE)
      clear hms ho hwf hok hM hE
      go_wp2_with fail
      go_loopw [6, 24] (fun v6 v24 wr => ∃ j x y : Nat, v24 = .int .i64 j ∧ v6 = .int .i64 (keptB a (ms.take j) : Nat) ∧ j ≤ ms.length ∧ okF a.length b.length x y (ms.drop j) ∧ Ext w3 wr) (fun _ v24 _ => ms.length - (intOf v24).toNat)
      case atStart => exact ⟨0, 0, 0, rfl, rfl, Nat.zero_le _, HOK.out, Ext.refl _⟩
      case round =>
        obtain ⟨j, x, y, rfl, rfl, hj, hok, hE⟩ := hrel
        have HE4 := Lib.hid hE; clear hE
        by_cases hlt : j < ms.length
        · obtain ⟨bk, off, m, hC, hb1, hm, hwf, c0, c1, c2⟩ := (HMS.out.ext HE4.out).get hlt
          cases hC
          obtain ⟨⟨m1, m2, m3, m4, m5⟩, hok2⟩ := okF_at hm hok
          obtain ⟨ma, mb, mn⟩ := m
          dsimp only at m1 m2 m3 m4 m5 hok2 c0 c1 c2
          obtain ⟨p, rfl⟩ : ∃ p : Nat, ma = p := ⟨ma.toNat, by omega⟩
          obtain ⟨q, rfl⟩ : ∃ p : Nat, mb = p := ⟨mb.toNat, by omega⟩
          obtain ⟨l, rfl⟩ : ∃ p : Nat, mn = p := ⟨mn.toNat, by omega⟩
          have hst : keptB a (ms.take (j + 1)) = keptB a (ms.take j) + sumS (cutW a p ((p : Int) + l)) := by rw [take_succ_of hm, keptB_snoc]
          have hle := keptB_take a ms (j + 1)
          have HOK2 := Lib.hid hok2; have HST := Lib.hid hst; clear hok2 hm hok hwf
          rw [hst] at hle
          have hle0 : keptB a (ms.take j) + sumS (cutW a p ((p : Int) + l)) ≤ 100 := by omega
          clear hle hst
          obtain ⟨K0, hK0⟩ : ∃ K, keptB a (ms.take j) = K := ⟨_, rfl⟩
          rw [hK0] at hle0 HST ⊢
          have HS := Lib.hid (strs_cutL (HA.out.ext HE4.out) hc (x := p) (l := l) (A' := A.map (fun z => z.add p)) (by omega) (if_neg (by omega)))
          obtain ⟨A', hA'⟩ : ∃ A', A.map (fun z => z.add p) = A' := ⟨_, rfl⟩
          obtain ⟨ws, hws⟩ : ∃ ws, cutW a p ((p : Int) + l) = ws := ⟨_, rfl⟩
          rw [hws] at HST hle0 HS
          rw [hA'] at HS
          have hE5 : Ext wr (wr.alloc (Mt.obj ⟨(p : Int), (q : Int), (l : Int)⟩)) := (Ext.refl _).alloc _
          have HE5 := Lib.hid hE5; clear hws hE5 hK0
          go_wp2_with fail
          clear hA'
          go_loopw [6, 38] (fun v6 v38 wx => ∃ i : Nat, i ≤ l ∧ v38 = .int .i64 i ∧ v6 = .int .i64 (K0 + sumS (ws.take i) : Nat) ∧ Ext wr wx) (fun _ v38 _ => l - (intOf v38).toNat)
          case atStart => exact ⟨0, Nat.zero_le _, rfl, rfl, HE5.out⟩
          case round =>
            obtain ⟨i, hi, rfl, rfl, hE⟩ := hrel
            have HE6 := Lib.hid hE; clear hE
            have hle := sumS_take ws i
            by_cases hil : i < l
            · obtain ⟨b2, off2, z, hA2, hb2, hz, hwf2, e0⟩ := (HS.out.ext HE6.out).get hil
              subst hA2
              have hst : sumS (ws.take (i + 1)) = sumS (ws.take i) + z.size := by rw [take_succ_of hz, sumS_snoc]
              have hle2 := sumS_take ws (i + 1)
              rw [hst] at hle2
              have HST2 := Lib.hid hst; clear hst hz hwf2
              go_wp2_with fail
              go_roundw
              case rel => exact ⟨i + 1, by omega, by go_num, by rw [HST2.out]; simp; omega, HE6.out⟩
              case measure => simp [intOf]; omega
            · have hil' : ws.take i = ws := List.take_of_length_le (by rw [HS.out.1]; omega)
              rw [hil']
              clear hil'
              go_wp2_with fail
              go_roundw
              case rel => exact ⟨j + 1, p + l, q + l, by go_num, by rw [HST.out], by omega, HOK2.out, HE4.out.trans HE6.out⟩
              case measure => simp [intOf]; omega
        · have hn : keptB a (ms.take j) = keptB a ms := by rw [List.take_of_length_le (by omega)]
          rw [hn]
          clear hn hok
          go_wp2_with fail
          go_ret
          exact ⟨ret_int (by rw [HV.out]; simp), HE3.out.trans HE4.out⟩
end Go.Proofs.Ytmmppfopokbcfaa

/- Contracts: the reference's special, quote, Valid. -/
import Derived.Test.YtmmppfopokbcfaaTkRender
import Derived.Test.YtmmppfopokbcfaaTkSide
namespace Go.Proofs.Ytmmppfopokbcfaa
open Go.RowKit

set_option maxRecDepth 100000 in
set_option maxHeartbeats 4000000 in
theorem rspec_any (c : UInt8) (w : World) :
    Calls Try.prog 74 #[.int .u8 (c.toNat : Int)] w fun e w' => e = .returned (.bool (spc c)) ∧ w' = w := by
  unfold spc
  generalize c.toNat = n
  go_enter Try.func74, Try.ntmps74
  go_wp2_with fail
  all_goals
    go_ret
    refine ⟨ret_bool ?_, rfl⟩
    rw [Bool.eq_iff_iff]
    simp only [Bool.or_eq_true, decide_eq_true_eq, beq_iff_eq, true_iff]
    omega
theorem rspec_is {c : UInt8} {q : Bool} {w : World} (hq : spc c = q) :
    Calls Try.prog 74 #[.int .u8 (c.toNat : Int)] w fun e w' => e = .returned (.bool q) ∧ w' = w := by
  subst hq; exact rspec_any c w
theorem infoU8 : (Try.prog.info? 5).map (fun i => (i.zero, i.size, i.bytes)) = some (some (.int .u8 0), 1, 1) := by kernel_rfl
theorem underU8 : Try.prog.underlying 71 = some (.slice 5) := by kernel_rfl
theorem conv_is {w : World} {base : Nat} {v : Value} {l : Bs} (h : w.ownsRow base 5 1 v l.length (Lib.byteCells l)) : (convert 71 9 v).run Try.prog w = .ok (.string (mkS l)) w := by
  have hc := fun g hg => h.cells (g := g) hg
  rcases h.2 with ⟨rfl, h0⟩ | ⟨g, cap, cur, rfl, hb, hgg, hnc, _⟩
  · obtain rfl : l = [] := List.eq_nil_of_length_eq_zero h0
    exact run_convert_bytes_nil w 71 5 underU8 Try.underlying5 0 0 9 Try.underlying9
  · refine run_convert_bytes_back w 71 9 5 ⟨g, 0, none⟩ cap l underU8 Try.underlying5 Try.underlying9 fun j hj => ?_
    refine hc g rfl j _ ?_
    unfold Lib.byteCells
    rw [List.getElem?_map, List.getElem?_eq_getElem hj]; rfl
theorem own_newB (w : World) : (w.alloc (.cells #[] 5)).ownsRow w.heap.size 5 1 (.slice (some ⟨w.heap.size, 0, none⟩) 0 0) 0 [] :=
  ⟨rfl, .inr ⟨w.heap.size, 0, #[], rfl, Nat.le_refl _, heap_alloc_new w _, Nat.le_refl _, by simp [maxLen], rfl, rfl⟩⟩
/-- A byte behind bytes. -/
theorem own_byte {w : World} {base : Nat} {v : Value} {acc : Bs} {c : UInt8} (h : w.ownsRow base 5 1 v (acc.length + 1) (Lib.byteCells acc ++ [.int .u8 c.toNat])) : w.ownsRow base 5 1 v (acc ++ [c]).length (Lib.byteCells (acc ++ [c])) := by
  rw [Lib.byteCells_append, List.length_append]; exact h

set_option maxRecDepth 100000 in
set_option maxHeartbeats 8000000 in
theorem rquote_any (s : ByteArray) (w : World) (hs : (quoteL s.data.toList).length ≤ 90000) :
    Calls Try.prog 55 #[.string s] w fun e w' => e = .returned (.string (mkS (quoteL s.data.toList))) ∧ Ext w w' := by
  obtain ⟨inf, i1, i2, i3, i4⟩ := info_of infoU8
  have I1 := Lib.hid i1; have I2 := Lib.hid i2; have I3 := Lib.hid i3; have I4 := Lib.hid i4; clear i1 i2 i3 i4
  have hsz := (quote_len s.data.toList).1
  rw [← size_len] at hsz
  go_enter Try.func55, Try.ntmps55
  go_wp2_with fail
  go_loopw [3, 4] (fun v3 v4 wr => ∃ j : Nat, j ≤ s.size ∧ v4 = .int .i64 j ∧ wr.ownsRow w.heap.size 5 1 v3 (quoteL (s.data.toList.take j)).length (Lib.byteCells (quoteL (s.data.toList.take j))) ∧ Ext w wr) (fun _ v4 _ => s.size - (intOf v4).toNat)
  case atStart => exact ⟨0, Nat.zero_le _, rfl, own_newB w, (Ext.refl w).alloc _⟩
  case round =>
    obtain ⟨j, hj, rfl, ho, hE⟩ := hrel
    have HO := Lib.hid ho; have HE := Lib.hid hE; clear ho hE
    by_cases hlt : j < s.size
    · have hq := quote_take s.data.toList j
      have hst : quoteL (s.data.toList.take (j + 1)) = quoteL (s.data.toList.take j) ++ (if spc s[j] then [92, s[j]] else [s[j]]) := by rw [take_succ_of (byte_at hlt), quote_snoc]
      obtain ⟨acc, hacc⟩ : ∃ acc, quoteL (s.data.toList.take j) = acc := ⟨_, rfl⟩
      rw [hacc] at hq hst HO
      clear hacc
      cases hc : spc s[j] with
      | true =>
        rw [hc, if_pos rfl] at hst
        have HST := Lib.hid hst; have HC := Lib.hid hc; clear hst hc
        go_wp2_with fail
        refine (rspec_is HC.out).mono ?_
        rintro e w1 ⟨rfl, rfl⟩
        go_wp2_with (at_builtin; first
          | (refine wpList_append_size2 rfl (.tmp 16) (.tmp 17) 71 rfl w.heap.size 5 inf _ 1 1 underU8 I1.out I2.out I3.out I4.out rfl (by decide) _ acc.length (Lib.byteCells acc) (some ⟨w1.heap.size, 0, none⟩) 1 1 [.int .u8 92] rfl (by simp [Act.eval]) rfl (by simp [Value.oneCell']) (by simp only [maxLen]; omega) (by omega) (own_stab3 ((Ext.refl w1).alloc _) HO.out) (Cells.new w1 _ [.int .u8 92] rfl) (by have := HE.out.size; simp; omega) ?_; intro v2 w2 hown2 hg2 _; have HO2 := Lib.hid (own_byte (c := 92) hown2); have HE2 := Lib.hid ((HE.out.alloc (.cells #[.int .u8 92] 5)).own3 (own_stab3 ((Ext.refl w1).alloc _) HO.out) hg2); clear hown2 hg2)
          | (refine wpList_append_size2 rfl (.tmp 19) (.tmp 23) 71 rfl w.heap.size 5 inf _ 1 1 underU8 I1.out I2.out I3.out I4.out rfl (by decide) v2 (acc ++ [92]).length (Lib.byteCells (acc ++ [92])) (some ⟨_, 0, none⟩) 1 1 [.int .u8 (s[j].toNat : Int)] rfl (by simp [Act.eval]) rfl (by simp [Value.oneCell']) (by rw [List.length_append, List.length_singleton]; simp only [maxLen]; omega) (by rw [List.length_append, List.length_singleton]; omega) (own_stab3 ((Ext.refl _).alloc _) HO2.out) (Cells.new _ _ [.int .u8 (s[j].toNat : Int)] rfl) (by have := HE2.out.size; simp; omega) ?_; intro v3 w3 hown3 hg3 _; have HO3 := Lib.hid (own_byte (c := s[j]) hown3); have HE3 := Lib.hid ((HE2.out.alloc (.cells #[.int .u8 (s[j].toNat : Int)] 5)).own3 (own_stab3 ((Ext.refl _).alloc _) HO2.out) hg3); clear hown3 hg3))
        go_roundw
        case rel =>
          refine ⟨j + 1, by omega, by go_num, ?_, HE3.out⟩
          have h9 := HO3.out
          rw [HST.out]; simpa [List.append_assoc] using h9
        case measure => simp [intOf]; omega
      | false =>
        rw [hc, if_neg (by simp)] at hst
        have HST := Lib.hid hst; have HC := Lib.hid hc; clear hst hc
        go_wp2_with fail
        refine (rspec_is HC.out).mono ?_
        rintro e w1 ⟨rfl, rfl⟩
        go_wp2_with (at_builtin; refine wpList_append_size2 rfl (.tmp 19) (.tmp 23) 71 rfl w.heap.size 5 inf _ 1 1 underU8 I1.out I2.out I3.out I4.out rfl (by decide) _ acc.length (Lib.byteCells acc) (some ⟨_, 0, none⟩) 1 1 [.int .u8 (s[j].toNat : Int)] rfl (by simp [Act.eval]) rfl (by simp [Value.oneCell']) (by simp only [maxLen]; omega) (by omega) (own_stab3 ((Ext.refl _).alloc _) HO.out) (Cells.new _ _ [.int .u8 (s[j].toNat : Int)] rfl) (by have := HE.out.size; simp; omega) ?_; intro v3 w3 hown3 hg3 _; have HO3 := Lib.hid (own_byte (c := s[j]) hown3); have HE3 := Lib.hid ((HE.out.alloc (.cells #[.int .u8 (s[j].toNat : Int)] 5)).own3 (own_stab3 ((Ext.refl _).alloc _) HO.out) hg3); clear hown3 hg3)
        go_roundw
        case rel => exact ⟨j + 1, by omega, by go_num, by rw [HST.out]; exact HO3.out, HE3.out⟩
        case measure => simp [intOf]; omega
    · have h9 := HO.out
      rw [List.take_of_length_le (by rw [← size_len]; omega)] at h9
      have hcv := conv_is h9
      clear h9
      go_wp2_with fail
      go_ret
      exact ⟨rfl, HE.out⟩
set_option maxRecDepth 100000 in
set_option maxHeartbeats 8000000 in
theorem rvalid_any (A : Option Addr) (n c : Nat) (l : List Pc) (w : World) (hS : Pcs w A n l) (hn : n ≤ Reach) :
    Calls Try.prog 54 #[.slice A n c] w fun e w' => e = .returned (.bool (vldV l)) ∧ Ext w w' := by
  unfold Reach at hn
  have HS := Lib.hid hS; have HL := Lib.hid hS.1; clear hS
  go_enter Try.func54, Try.ntmps54
  go_wp2_with fail
  go_loopw [3] (fun v7 wr => ∃ (j : Nat) (p : Int), j ≤ n ∧ v7 = .int .i64 j ∧ vldF p (l.drop j) = vldV l ∧ (j = 0 → p = -1) ∧ (0 < j → ∃ x, l[j - 1]? = some x ∧ x.k = p) ∧ Ext w wr) (fun v7 _ => n - (intOf v7).toNat)
  case atStart => exact ⟨0, -1, Nat.zero_le _, rfl, rfl, fun _ => rfl, fun h => absurd h (by omega), Ext.refl _⟩
  case round =>
    obtain ⟨j, p, hj, rfl, hv, hp0, hp1, hE⟩ := hrel
    have HV := Lib.hid hv; have HE := Lib.hid hE; have HP0 := Lib.hid hp0; have HP1 := Lib.hid hp1; clear hv hE hp0 hp1
    by_cases hlt : j < n
    · obtain ⟨b, off, x, rfl, hb, hx, hwf, c0, c1⟩ := (HS.out.ext HE.out).get hlt
      obtain ⟨xk, xt⟩ := x
      dsimp only at c0 c1
      have hd := drop_of hx
      have HD := Lib.hid hd; have HX := Lib.hid hx; clear hd hx hwf
      by_cases k1 : xk < 0
      · have hr : vldV l = false := by rw [← HV.out, HD.out, vld_no (.inl k1)]
        have HR := Lib.hid hr; clear hr
        go_wp2_with fail
        go_ret
        exact ⟨ret_bool HR.out.symm, HE.out⟩
      by_cases k2 : 2 < xk
      · have hr : vldV l = false := by rw [← HV.out, HD.out, vld_no (.inr (.inl k2))]
        have HR := Lib.hid hr; clear hr
        go_wp2_with fail
        go_ret
        exact ⟨ret_bool HR.out.symm, HE.out⟩
      by_cases k3 : xt.size = 0
      · have hr : vldV l = false := by rw [← HV.out, HD.out, vld_no (.inr (.inr (.inl k3)))]
        have HR := Lib.hid hr; clear hr
        have q3 := emp_yes k3
        clear k3
        go_wp2_with fail
        go_ret
        exact ⟨ret_bool HR.out.symm, HE.out⟩
      have q3 := emp_no k3
      by_cases hj0 : j = 0
      · subst hj0
        simp only [Nat.zero_mul, Nat.add_zero] at c0 c1
        have hs : vldF xk (l.drop 1) = vldV l := by rw [← HV.out, HD.out, HP0.out rfl, vld_yes (by dsimp only; omega) (by dsimp only; omega) k3 (by dsimp only; omega) (by omega)]
        have HS1 := Lib.hid hs; clear hs k3
        go_wp2_with fail
        go_quiet (fail)
        go_wp2_with fail
        go_roundw
        case rel => exact ⟨1, xk, by omega, rfl, HS1.out, fun h => by omega, fun _ => ⟨_, HX.out, rfl⟩, HE.out.drewN _⟩
        case measure => simp [intOf]; omega
      · obtain ⟨y, hy, hyk⟩ := HP1.out (by omega)
        obtain ⟨b', off', y', hA', -, hy', -, d0, -⟩ := (HS.out.ext HE.out).get (j := j - 1) (by omega)
        cases hA'
        rw [hy] at hy'
        cases hy'
        rw [hyk] at d0
        have hjs : ((j : Int) - 1) = ((j - 1 : Nat) : Int) := by omega
        have hj1 : 0 < j := by omega
        clear hy hyk
        by_cases k4 : p = xk
        · have hr : vldV l = false := by rw [← HV.out, HD.out, vld_no (.inr (.inr (.inr (.inl k4))))]
          have HR := Lib.hid hr; clear hr
          have q4 : (p == xk) = true := by simpa using k4
          clear k4 k3
          go_wp2_with fail
          go_quiet (fail)
          go_wp2_with fail
          go_ret
          exact ⟨ret_bool HR.out.symm, HE.out.drewN _⟩
        have q4 : (p == xk) = false := by simpa using k4
        by_cases k5 : p = 2
        · by_cases k6 : xk = 1
          · have hr : vldV l = false := by rw [← HV.out, HD.out, vld_no (.inr (.inr (.inr (.inr ⟨k5, k6⟩))))]
            have HR := Lib.hid hr; clear hr
            have q5 : (p == 2) = true := by simpa using k5
            have q6 : (xk == 1) = true := by simpa using k6
            clear k3 k4
            go_wp2_with fail
            go_quiet (fail)
            go_wp2_with fail
            go_ret
            exact ⟨ret_bool HR.out.symm, HE.out.drewN _⟩
          · have hs : vldF xk (l.drop (j + 1)) = vldV l := by rw [← HV.out, HD.out, vld_yes (by dsimp only; omega) (by dsimp only; omega) k3 k4 (by dsimp only; omega)]
            have HS1 := Lib.hid hs; clear hs
            have q5 : (p == 2) = true := by simpa using k5
            have q6 : (xk == 1) = false := by simpa using k6
            clear k3 k4 k5 k6
            go_wp2_with fail
            go_quiet (fail)
            go_wp2_with fail
            go_roundw
            case rel => exact ⟨j + 1, xk, by omega, by go_num, HS1.out, fun h => by omega, fun _ => ⟨_, HX.out, rfl⟩, HE.out.drewN _⟩
            case measure => simp [intOf]; omega
        · have hs : vldF xk (l.drop (j + 1)) = vldV l := by rw [← HV.out, HD.out, vld_yes (by dsimp only; omega) (by dsimp only; omega) k3 k4 (by dsimp only; omega)]
          have HS1 := Lib.hid hs; clear hs
          have q5 : (p == 2) = false := by simpa using k5
          clear k3 k4 k5
          go_wp2_with fail
          go_quiet (fail)
          go_wp2_with fail
          go_roundw
          case rel => exact ⟨j + 1, xk, by omega, by go_num, HS1.out, fun h => by omega, fun _ => ⟨_, HX.out, rfl⟩, HE.out.drewN _⟩
          case measure => simp [intOf]; omega
    · have hr : vldV l = true := by
        rw [← HV.out, List.drop_eq_nil_of_le (by rw [HL.out]; omega)]; rfl
      have HR := Lib.hid hr; clear hr
      go_wp2_with fail
      go_ret
      exact ⟨ret_bool HR.out.symm, HE.out⟩
end Go.Proofs.Ytmmppfopokbcfaa

/- Contract: the reference's Words. -/
import Derived.Test.YtmmppfopokbcfaaTkWordsW
namespace Go.Proofs.Ytmmppfopokbcfaa
open Go.RowKit

theorem kind_is {c : UInt8} {r : Nat} {w : World} (h : kd c = r) :
    Calls Try.prog 63 #[.int .u8 (c.toNat : Int)] w fun e w' => e = .returned (.int .i64 (r : Nat)) ∧ w' = w := by
  subst h; exact kind_any c w
/-- The bytes from i to k are one run. -/
def RunTo (s : ByteArray) (i k : Nat) (A : Nat) : Prop := (∀ x ∈ (s.data.toList.drop (i + 1)).take (k - (i + 1)), kd x = A) ∧ (A = 0 → k = i + 1)
theorem runTo_more {s : ByteArray} {i k A : Nat} (h : RunTo s i k A) (hi : i < k) (hk : k < s.size) (hA : A ≠ 0) (hc : kd s[k] = A) : RunTo s i (k + 1) A := by
  refine ⟨fun x hx => ?_, fun e => absurd e hA⟩
  have e : (s.data.toList.drop (i + 1)).take (k + 1 - (i + 1)) = (s.data.toList.drop (i + 1)).take (k - (i + 1)) ++ [s[k]] := by
    rw [show k + 1 - (i + 1) = (k - (i + 1)) + 1 by omega]
    exact take_succ_of (by rw [List.getElem?_drop, show i + 1 + (k - (i + 1)) = k by omega]; exact byte_at hk)
  rw [e] at hx
  rcases List.mem_append.1 hx with hx | hx
  · exact h.1 x hx
  · obtain rfl := List.mem_singleton.1 hx; exact hc
theorem runTo_end {s : ByteArray} {i k A : Nat} (h : RunTo s i k A) (hi : i < k) (hks : k ≤ s.size) (hA : kd (s[i]'(by omega)) = A) (he : k = s.size ∨ A = 0 ∨ ∃ h : k < s.size, kd s[k] ≠ A) : wlen (s.extract i s.size).data.toList = k - i := by
  have hi' : i < s.size := by omega
  have e0 : (s.extract i s.size).data.toList = s.data.toList.drop i := by
    rw [ext_mk, List.take_of_length_le (by rw [List.length_drop, ← size_len]; exact Nat.le_refl _)]
  have e1 : s.data.toList.drop i = (s[i] :: (s.data.toList.drop (i + 1)).take (k - (i + 1))) ++ s.data.toList.drop k := by
    rw [drop_of (byte_at hi'), List.cons_append]
    congr 1
    conv => lhs; rw [← List.take_append_drop (k - (i + 1)) (s.data.toList.drop (i + 1)), List.drop_drop, show i + 1 + (k - (i + 1)) = k by omega]
  rw [e0, wlen_rlen (by rw [e1]; simp), e1, rlen_run]
  · rw [List.length_cons, List.length_take, List.length_drop, ← size_len]; omega
  · refine ⟨_, _, rfl, fun e => ?_, fun x hx => by rw [h.1 x hx, hA]⟩
    rw [h.2 (by omega), Nat.sub_self, List.take_zero]
  · rcases he with he | he | ⟨hks', he⟩
    · exact .inl (List.drop_eq_nil_of_le (by rw [← size_len]; omega))
    · exact .inr (.inl (by show kd _ = 0; rw [hA]; exact he))
    · rw [drop_of (byte_at hks')]
      exact .inr (.inr (by show kd _ ≠ kd _; rw [hA]; exact he))
theorem ext_ext (s : ByteArray) {i k : Nat} (hi : i ≤ k) (hk : k ≤ s.size) : (s.extract i s.size).extract 0 (k - i) = s.extract i k ∧ (s.extract i s.size).extract (k - i) (s.extract i s.size).size = s.extract k s.size := by
  have e0 : (s.extract i s.size).data.toList = s.data.toList.drop i := by
    rw [ext_mk, List.take_of_length_le (by rw [List.length_drop, ← size_len]; exact Nat.le_refl _)]
  constructor
  · apply toList_inj
    rw [ByteArray.toList_eq, ByteArray.toList_eq, ext_mk, e0, ext_mk]; simp
  · apply toList_inj
    rw [ByteArray.toList_eq, ByteArray.toList_eq, ext_mk, e0, ext_mk, ext_size _ _ _ (Nat.le_refl _), List.drop_drop, show i + (k - i) = k by omega, show s.size - i - (k - i) = s.size - k by omega]

theorem rword_step {s : ByteArray} {i k A : Nat} (h0 : i < s.size) (h : RunTo s i k A) (hi : i < k) (hks : k ≤ s.size) (hA : kd (s[i]'(by omega)) = A) (he : k = s.size ∨ A = 0 ∨ ∃ h : k < s.size, kd s[k] ≠ A) : wordsV (s.extract i s.size) = s.extract i k :: wordsV (s.extract k s.size) := by
  have h1 := runTo_end h hi hks hA he
  rw [wordsV_step (by rw [ext_size _ _ _ (Nat.le_refl _)]; omega), h1, (ext_ext s (by omega) hks).1, (ext_ext s (by omega) hks).2]
set_option maxRecDepth 100000 in
set_option maxHeartbeats 8000000 in
theorem rwords_any (s : ByteArray) (w : World) (hs : s.size ≤ 1000) :
    Calls Try.prog 37 #[.string s] w fun e w' => ∃ v, e = .returned v ∧ w'.ownsRow w.heap.size 9 1 v (wordsV s).length ((wordsV s).map .string) ∧ Ext w w' := by
  obtain ⟨inf, i1, i2, i3, i4⟩ := info_of infoSt
  have I1 := Lib.hid i1; have I2 := Lib.hid i2; have I3 := Lib.hid i3; have I4 := Lib.hid i4; clear i1 i2 i3 i4
  go_enter Try.func37, Try.ntmps37
  go_wp2_with fail
  go_loopw [3, 4, 5] (fun v3 v4 _ wr => ∃ (i : Nat) (acc : Lns), v4 = .int .i64 i ∧ i ≤ s.size ∧ acc.length ≤ i ∧ acc ++ wordsV (s.extract i s.size) = wordsV s ∧ wr.ownsRow w.heap.size 9 1 v3 acc.length (acc.map .string) ∧ Ext w wr) (fun _ v4 _ _ => s.size - (intOf v4).toNat)
  case atStart =>
    refine ⟨0, [], rfl, by omega, by simp, ?_, ?_, (Ext.refl w).alloc _⟩
    · rw [show s.extract 0 s.size = s by rw [Lib.extract_eq, List.drop_zero, Nat.sub_zero, List.take_of_length_le (by rw [← size_len]; exact Nat.le_refl _), Lib.mk_data]]; rfl
    · exact ⟨rfl, .inr ⟨w.heap.size, 0, #[], rfl, Nat.le_refl _, heap_alloc_new w _, Nat.le_refl _, by simp [maxLen], rfl, rfl⟩⟩
  case round =>
    obtain ⟨i, acc, rfl, hi, ha, hw, ho, hE⟩ := hrel
    have HW := Lib.hid hw; have HO := Lib.hid ho; have HE := Lib.hid hE; clear hw ho hE
    by_cases h0 : i < s.size
    · obtain ⟨A, hA⟩ : ∃ A, kd s[i] = A := ⟨_, rfl⟩
      have HA := Lib.hid hA; clear hA
      go_wp2_with fail
      go_loopw [5] (fun v5 wr' => ∃ k : Nat, v5 = .int .i64 k ∧ i < k ∧ k ≤ s.size ∧ RunTo s i k A ∧ wr'.ownsRow w.heap.size 9 1 u3 acc.length (acc.map .string) ∧ Ext w wr') (fun v5 _ => s.size - (intOf v5).toNat)
      case atStart => exact ⟨i + 1, by go_num, by omega, by omega, ⟨by simp, fun _ => rfl⟩, HO.out, HE.out⟩
      case round =>
        obtain ⟨k, rfl, hik, hks, hr, ho2, hE2⟩ := hrel
        have HR := Lib.hid hr; have HO2 := Lib.hid ho2; have HE2 := Lib.hid hE2; clear ho2 hE2
        by_cases hlt : k < s.size
        · obtain ⟨B, hB⟩ : ∃ B, kd s[k] = B := ⟨_, rfl⟩
          have HB := Lib.hid hB; clear hB
          by_cases hA0 : 0 < A
          · by_cases hAB : B = A
            · have q1 : ((B : Int) == (A : Int)) = true := by rw [hAB]; simp
              have HAB := Lib.hid hAB; clear hAB hr
              go_wp2_with fail
              go_quiet ((go_at_call 63; first | exact Calls.quiet_of_same (kind_is HA.out) | exact Calls.quiet_of_same (kind_is HB.out)))
              go_wp2_with fail
              go_roundw
              case rel => exact ⟨k + 1, by go_num, by omega, by omega, runTo_more HR.out hik hlt (by omega) (by rw [HB.out, HAB.out]), own_stab3 ((Ext.refl _).drewN _) HO2.out, HE2.out.drewN _⟩
              case measure => simp [intOf]; omega
            · have q1 : ((B : Int) == (A : Int)) = false := by simp; omega
              have hst := rword_step h0 HR.out hik hks HA.out (.inr (.inr ⟨hlt, by rw [HB.out]; exact hAB⟩))
              have HST := Lib.hid hst; clear hst
              clear hAB
              go_wp2_with fail
              go_quiet ((go_at_call 63; first | exact Calls.quiet_of_same (kind_is HA.out) | exact Calls.quiet_of_same (kind_is HB.out)))
              clear hr
              go_wp2_with (at_builtin; refine wpList_append_size2 rfl (.tmp 37) (.tmp 42) 31 rfl w.heap.size 9 inf _ 1 16 underSt I1.out I2.out I3.out I4.out rfl (by decide) _ acc.length (acc.map .string) (some ⟨_, 0, none⟩) 1 1 [.string (s.extract i k)] rfl (by simp [Act.eval]) rfl (by simp [Value.oneCell']) (by simp only [maxLen]; omega) (by omega) (own_stab3 ((Ext.refl _).alloc _) HO2.out) (Cells.new _ _ [.string (s.extract i k)] rfl) (by have := HE2.out.size; simp; omega) ?_; intro v2 w3 hown2 hg2 _)
              have HO3 := Lib.hid hown2; have HG3 := Lib.hid hg2; clear hown2 hg2
              go_wp2_with fail
              go_roundw
              case rel =>
                refine ⟨k, acc ++ [s.extract i k], by go_num, by omega, ?_, ?_, ?_, ((HE2.out.drewN _).alloc _).own3 (own_stab3 (((Ext.refl _).drewN _).alloc _) HO2.out) HG3.out⟩
                · rw [List.length_append, List.length_singleton]; omega
                · rw [← HW.out, HST.out, List.append_assoc]; rfl
                · rw [List.length_append, List.map_append]; exact HO3.out
              case measure => simp [intOf]; omega
          · have hA' : A = 0 := by omega
            have hst := rword_step h0 HR.out hik hks HA.out (.inr (.inl hA'))
            have HST := Lib.hid hst; clear hst
            clear hA'
            go_wp2_with fail
            go_quiet ((go_at_call 63; first | exact Calls.quiet_of_same (kind_is HA.out) | exact Calls.quiet_of_same (kind_is HB.out)))
            clear hr
            go_wp2_with (at_builtin; refine wpList_append_size2 rfl (.tmp 37) (.tmp 42) 31 rfl w.heap.size 9 inf _ 1 16 underSt I1.out I2.out I3.out I4.out rfl (by decide) _ acc.length (acc.map .string) (some ⟨_, 0, none⟩) 1 1 [.string (s.extract i k)] rfl (by simp [Act.eval]) rfl (by simp [Value.oneCell']) (by simp only [maxLen]; omega) (by omega) (own_stab3 ((Ext.refl _).alloc _) HO2.out) (Cells.new _ _ [.string (s.extract i k)] rfl) (by have := HE2.out.size; simp; omega) ?_; intro v2 w3 hown2 hg2 _)
            have HO3 := Lib.hid hown2; have HG3 := Lib.hid hg2; clear hown2 hg2
            go_wp2_with fail
            go_roundw
            case rel =>
              refine ⟨k, acc ++ [s.extract i k], by go_num, by omega, ?_, ?_, ?_, ((HE2.out.drewN _).alloc _).own3 (own_stab3 (((Ext.refl _).drewN _).alloc _) HO2.out) HG3.out⟩
              · rw [List.length_append, List.length_singleton]; omega
              · rw [← HW.out, HST.out, List.append_assoc]; rfl
              · rw [List.length_append, List.map_append]; exact HO3.out
            case measure => simp [intOf]; omega
        · have hk' : k = s.size := by omega
          have hst := rword_step h0 HR.out hik hks HA.out (.inl hk')
          have HST := Lib.hid hst; clear hst
          clear hk'
          go_wp2_with fail
          go_quiet (fail)
          clear hr
          go_wp2_with (at_builtin; refine wpList_append_size2 rfl (.tmp 37) (.tmp 42) 31 rfl w.heap.size 9 inf _ 1 16 underSt I1.out I2.out I3.out I4.out rfl (by decide) _ acc.length (acc.map .string) (some ⟨_, 0, none⟩) 1 1 [.string (s.extract i k)] rfl (by simp [Act.eval]) rfl (by simp [Value.oneCell']) (by simp only [maxLen]; omega) (by omega) (own_stab3 ((Ext.refl _).alloc _) HO2.out) (Cells.new _ _ [.string (s.extract i k)] rfl) (by have := HE2.out.size; simp; omega) ?_; intro v2 w3 hown2 hg2 _)
          have HO3 := Lib.hid hown2; have HG3 := Lib.hid hg2; clear hown2 hg2
          go_wp2_with fail
          go_roundw
          case rel =>
            refine ⟨k, acc ++ [s.extract i k], by go_num, by omega, ?_, ?_, ?_, ((HE2.out.drewN _).alloc _).own3 (own_stab3 (((Ext.refl _).drewN _).alloc _) HO2.out) HG3.out⟩
            · rw [List.length_append, List.length_singleton]; omega
            · rw [← HW.out, HST.out, List.append_assoc]; rfl
            · rw [List.length_append, List.map_append]; exact HO3.out
          case measure => simp [intOf]; omega
    · have hn := wordsV_nil (r := s.extract i s.size) (by rw [ext_size _ _ _ (Nat.le_refl _)]; omega)
      have HN := Lib.hid hn; clear hn
      go_wp2_with fail
      go_ret
      have h9 := HO.out
      refine ⟨_, rfl, ?_, HE.out⟩
      rw [← HW.out, HN.out, List.append_nil]
      exact h9
/-- The reference's words of a line. -/
theorem rwords_is {s : ByteArray} {w : World} (hs : s.size ≤ 1000) :
    Calls Try.prog 37 #[.string s] w fun e w' => ∃ A c, e = .returned (.slice A (wordsV s).length c) ∧ (wordsV s).length ≤ c ∧ Strs w' A (wordsV s).length (wordsV s) ∧ Ext w w' := by
  refine (rwords_any s w hs).mono ?_
  rintro e w' ⟨v, rfl, ho, hE⟩
  obtain ⟨A, c, rfl, hc, hS⟩ := own_strs ho (fun x hx => by have := words_small s x hx; unfold Reach; omega)
  exact ⟨A, c, rfl, hc, hS, hE⟩
end Go.Proofs.Ytmmppfopokbcfaa

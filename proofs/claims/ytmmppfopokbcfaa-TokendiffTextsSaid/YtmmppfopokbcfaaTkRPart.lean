/- Contract: the reference's part. -/
import Derived.Test.YtmmppfopokbcfaaTkRText
namespace Go.Proofs.Ytmmppfopokbcfaa
open Go.RowKit

theorem part_none {s : ByteArray} {k : Nat} (h : s.size ≤ k) : partL (s.data.toList.drop k) = ([], 0) := by
  rw [List.drop_eq_nil_of_le (by rw [← size_len]; exact h)]; rfl
theorem part_special {s : ByteArray} {k : Nat} (h : k < s.size) (h1 : spc s[k] = true) (h2 : s[k] ≠ 92) : partL (s.data.toList.drop k) = ([], 0) := by
  rw [drop_of (byte_at h)]
  exact part_stop (fun c t e => by cases e; exact ⟨h1, h2⟩)
theorem part_last {s : ByteArray} {k : Nat} (h : k < s.size) (h1 : s[k] = 92) (h2 : k + 1 = s.size) : partL (s.data.toList.drop k) = ([], 0) := by
  rw [drop_of (byte_at h), List.drop_eq_nil_of_le (by rw [← size_len]; omega), h1]; rfl
theorem part_bad {s : ByteArray} {k : Nat} (h : k + 1 < s.size) (h1 : s[k] = 92) (h2 : spc s[k + 1] = false) : partL (s.data.toList.drop k) = ([], 0) := by
  rw [drop_of (byte_at (show k < s.size by omega)), drop_of (byte_at h), partL, if_pos h1, if_neg (by simp [h2])]
theorem part_esc {s : ByteArray} {k : Nat} (h : k + 1 < s.size) (h1 : s[k] = 92) (h2 : spc s[k + 1] = true) : partL (s.data.toList.drop k) = (s[k + 1] :: (partL (s.data.toList.drop (k + 2))).1, (partL (s.data.toList.drop (k + 2))).2 + 2) := by
  conv => lhs; rw [drop_of (byte_at (show k < s.size by omega)), drop_of (byte_at h), partL, if_pos h1, if_pos h2]
theorem part_at {s : ByteArray} {k : Nat} (h : k < s.size) (h1 : spc s[k] = false) : partL (s.data.toList.drop k) = (s[k] :: (partL (s.data.toList.drop (k + 1))).1, (partL (s.data.toList.drop (k + 1))).2 + 1) := by
  conv => lhs; rw [drop_of (byte_at h), part_plain h1]

theorem ret_part {x y : Bs} {k a n : Nat} (h1 : x ++ (([] : Bs), 0).1 = y) (h2 : k + (([] : Bs), 0).2 = a + n) : Ending.returned (.tuple #[.string (mkS x), .int .i64 (k : Int)]) = .returned (.tuple #[.string (mkS y), .int .i64 ((a : Int) + (n : Nat))]) := by
  rw [← h1, List.append_nil, show ((k : Nat) : Int) = (a : Int) + (n : Nat) by simp only [Nat.add_zero] at h2; omega]
set_option maxRecDepth 100000 in
set_option maxHeartbeats 16000000 in
theorem part_any (s : ByteArray) (a : Nat) (w : World) (ha : a ≤ s.size) (hs : s.size ≤ 80000) :
    Calls Try.prog 56 #[.string s, .int .i64 a] w fun e w' => e = .returned (.tuple #[.string (mkS (partL (s.data.toList.drop a)).1), .int .i64 ((a : Int) + ((partL (s.data.toList.drop a)).2 : Nat))]) ∧ Ext w w' := by
  obtain ⟨inf, i1, i2, i3, i4⟩ := info_of infoU8
  have I1 := Lib.hid i1; have I2 := Lib.hid i2; have I3 := Lib.hid i3; have I4 := Lib.hid i4; clear i1 i2 i3 i4
  obtain ⟨p, hp⟩ : ∃ p, partL (s.data.toList.drop a) = p := ⟨_, rfl⟩
  rw [hp]
  have HP := Lib.hid hp; clear hp
  go_enter Try.func56, Try.ntmps56
  go_wp2_with fail
  go_loopw [1, 6] (fun v1 v6 wr => ∃ (k : Nat) (acc : Bs), v1 = .int .i64 k ∧ a ≤ k ∧ k ≤ s.size ∧ acc.length ≤ k ∧ wr.ownsRow w.heap.size 5 1 v6 acc.length (Lib.byteCells acc) ∧ Ext w wr ∧ acc ++ (partL (s.data.toList.drop k)).1 = p.1 ∧ k + (partL (s.data.toList.drop k)).2 = a + p.2) (fun v1 _ _ => s.size - (intOf v1).toNat)
  case atStart => exact ⟨a, [], rfl, Nat.le_refl _, ha, Nat.zero_le _, own_newB w, (Ext.refl w).alloc _, by rw [HP.out]; rfl, by rw [HP.out]⟩
  case round =>
    obtain ⟨k, acc, rfl, hak, hks, hl, ho, hE, hp1, hp2⟩ := hrel
    have HO := Lib.hid ho; have HE := Lib.hid hE; have HP1 := Lib.hid hp1; have HP2 := Lib.hid hp2; clear ho hE hp1 hp2
    by_cases hlt : k < s.size
    · cases hc : spc s[k] with
      | false =>
        have hn : s[k].toNat ≠ 92 := by intro e; rw [show s[k] = 92 from UInt8.toNat_inj.1 e] at hc; cases hc
        have q1 : ((s[k].toNat : Int) == 92) = false := by simp; omega
        have HST := Lib.hid (part_at hlt hc); have HC := Lib.hid hc; clear hc hn
        go_wp2_with fail
        refine (rspec_is HC.out).mono ?_
        rintro e w1 ⟨rfl, rfl⟩
        go_wp2_with (at_builtin; refine wpList_append_size2 rfl (.tmp 46) (.tmp 50) 71 rfl w.heap.size 5 inf _ 1 1 underU8 I1.out I2.out I3.out I4.out rfl (by decide) _ acc.length (Lib.byteCells acc) (some ⟨_, 0, none⟩) 1 1 [.int .u8 (s[k].toNat : Int)] rfl (by simp [Act.eval]) rfl (by simp [Value.oneCell']) (by simp only [maxLen]; omega) (by omega) (own_stab3 ((Ext.refl _).alloc _) HO.out) (Cells.new _ _ [.int .u8 (s[k].toNat : Int)] rfl) (by have := HE.out.size; simp; omega) ?_; intro v3 w3 hown3 hg3 _; have HO3 := Lib.hid (own_byte (c := s[k]) hown3); have HE3 := Lib.hid ((HE.out.alloc (.cells #[.int .u8 (s[k].toNat : Int)] 5)).own3 (own_stab3 ((Ext.refl _).alloc _) HO.out) hg3); clear hown3 hg3)
        go_roundw
        case rel =>
          refine ⟨k + 1, acc ++ [s[k]], by go_num, by omega, by omega, by rw [List.length_append, List.length_singleton]; omega, HO3.out, HE3.out, ?_, ?_⟩
          · rw [← HP1.out, HST.out, List.append_assoc]; rfl
          · rw [← HP2.out, HST.out]; omega
        case measure => simp [intOf]; omega
      | true =>
        by_cases h92 : s[k] = 92
        · have q1 : ((s[k].toNat : Int) == 92) = true := by rw [h92]; rfl
          have HC := Lib.hid hc; have H92 := Lib.hid h92; clear hc h92
          by_cases hl1 : k + 1 = s.size
          · have hfin := part_last hlt H92.out hl1
            have h1 := HP1.out; have h2 := HP2.out
            rw [hfin] at h1 h2
            have H1 := Lib.hid h1; have H2 := Lib.hid h2
            have hcv := conv_is HO.out
            have q2 : ((k : Int) + 1 == (s.size : Int)) = true := by simp; omega
            clear hfin h1 h2
            go_wp2_with fail
            refine (rspec_is HC.out).mono ?_
            rintro e w1 ⟨rfl, rfl⟩
            go_wp2_with fail
            go_ret2
            exact ⟨ret_part H1.out H2.out, HE.out⟩
          · have q2 : ((k : Int) + 1 == (s.size : Int)) = false := by simp; omega
            have hk1 : k + 1 < s.size := by omega
            cases hc1 : spc s[k + 1] with
            | false =>
              have hfin := part_bad hk1 H92.out hc1
              have h1 := HP1.out; have h2 := HP2.out
              rw [hfin] at h1 h2
              have H1 := Lib.hid h1; have H2 := Lib.hid h2; have HC1 := Lib.hid hc1
              have hcv := conv_is HO.out
              clear hfin h1 h2 hc1
              go_wp2_with fail
              refine (rspec_is HC.out).mono ?_
              rintro e w1 ⟨rfl, rfl⟩
              go_wp2_with fail
              refine (rspec_is HC1.out).mono ?_
              rintro e w2 ⟨rfl, rfl⟩
              go_wp2_with fail
              go_ret2
              exact ⟨ret_part H1.out H2.out, HE.out⟩
            | true =>
              have HST := Lib.hid (part_esc hk1 H92.out hc1); have HC1 := Lib.hid hc1; clear hc1
              go_wp2_with fail
              refine (rspec_is HC.out).mono ?_
              rintro e w1 ⟨rfl, rfl⟩
              go_wp2_with fail
              refine (rspec_is HC1.out).mono ?_
              rintro e w2 ⟨rfl, rfl⟩
              go_wp2_with (at_builtin; refine wpList_append_size2 rfl (.tmp 46) (.tmp 50) 71 rfl w.heap.size 5 inf _ 1 1 underU8 I1.out I2.out I3.out I4.out rfl (by decide) _ acc.length (Lib.byteCells acc) (some ⟨_, 0, none⟩) 1 1 [.int .u8 (s[k + 1].toNat : Int)] rfl (by simp [Act.eval]) rfl (by simp [Value.oneCell']) (by simp only [maxLen]; omega) (by omega) (own_stab3 ((Ext.refl _).alloc _) HO.out) (Cells.new _ _ [.int .u8 (s[k + 1].toNat : Int)] rfl) (by have := HE.out.size; simp; omega) ?_; intro v3 w3 hown3 hg3 _; have HO3 := Lib.hid (own_byte (c := s[k + 1]) hown3); have HE3 := Lib.hid ((HE.out.alloc (.cells #[.int .u8 (s[k + 1].toNat : Int)] 5)).own3 (own_stab3 ((Ext.refl _).alloc _) HO.out) hg3); clear hown3 hg3)
              go_roundw
              case rel =>
                refine ⟨k + 2, acc ++ [s[k + 1]], by go_num, by omega, by omega, by rw [List.length_append, List.length_singleton]; omega, HO3.out, HE3.out, ?_, ?_⟩
                · rw [← HP1.out, HST.out, List.append_assoc]; rfl
                · rw [← HP2.out, HST.out]; omega
              case measure => simp [intOf]; omega
        · have hn : s[k].toNat ≠ 92 := fun e => h92 (UInt8.toNat_inj.1 e)
          have q1 : ((s[k].toNat : Int) == 92) = false := by simp; omega
          have hfin := part_special hlt hc h92
          have h1 := HP1.out; have h2 := HP2.out
          rw [hfin] at h1 h2
          have H1 := Lib.hid h1; have H2 := Lib.hid h2; have HC := Lib.hid hc
          have hcv := conv_is HO.out
          clear hfin h1 h2 hc h92 hn
          go_wp2_with fail
          refine (rspec_is HC.out).mono ?_
          rintro e w1 ⟨rfl, rfl⟩
          go_wp2_with fail
          go_ret2
          exact ⟨ret_part H1.out H2.out, HE.out⟩
    · have hfin := part_none (s := s) (k := k) (by omega)
      have h1 := HP1.out; have h2 := HP2.out
      rw [hfin] at h1 h2
      have H1 := Lib.hid h1; have H2 := Lib.hid h2
      have hcv := conv_is HO.out
      clear hfin h1 h2
      go_wp2_with fail
      go_ret2
      exact ⟨ret_part H1.out H2.out, HE.out⟩
end Go.Proofs.Ytmmppfopokbcfaa

/- Contract: Pairs of the reference. -/
import Derived.Test.YtmmppfopokbcfaaTkWts
namespace Go.Proofs.Ytmmppfopokbcfaa
open Go.RowKit

set_option maxRecDepth 100000 in
set_option maxHeartbeats 16000000 in
theorem rpairs_any (A B : Option Addr) (c d : Nat) (a b : Lns) (w : World) (hA : Strs w A a.length a) (hB : Strs w B b.length b) (ha : a.length ≤ 10) (hb : b.length ≤ 10) (hac : a.length ≤ c) (hbd : b.length ≤ d) (hsa : ∀ s ∈ a, s.size ≤ 100) (hsb : ∀ s ∈ b, s.size ≤ 100) :
    Calls Try.prog 24 #[.slice A a.length c, .slice B b.length d] w fun e w' => ∃ A c, e = .returned (.slice A (pairsAt simV a b 0 0).length c) ∧ (pairsAt simV a b 0 0).length ≤ c ∧ Prs w' A (pairsAt simV a b 0 0).length (pairsAt simV a b 0 0) ∧ Ext w w' := by
  have hW := weights_any A B c d a b w hA hB ha hb hac hbd hsa hsb
  clear hA hB hsa hsb
  obtain ⟨n, hn⟩ : ∃ n, a.length = n := ⟨_, rfl⟩
  obtain ⟨m, hm⟩ : ∃ m, b.length = m := ⟨_, rfl⟩
  rw [hn] at ha hac
  rw [hm] at hb hbd
  rw [hn, hm] at hW ⊢
  have HN := Lib.hid hn; have HM := Lib.hid hm; have HWC := Lib.hid hW; clear hn hm hW
  go_enter Try.func24, Try.ntmps24
  go_wp2_with fail
  refine HWC.out.mono ?_
  rintro e W0 ⟨g, br, F, rfl, hW, hD, hE⟩
  have HW := Lib.hid hW; have HE0 := Lib.hid hE
  have HSM := Lib.hid (fun (i k : Nat) (x y : ByteArray) (hx : a[i]? = some x) (hy : b[k]? = some y) => hD.1 i k x y hx hy (by omega))
  have HBS := Lib.hid (fun (i k : Nat) (hi : i ≤ n) (hk : k ≤ m) => hD.2 i k (by rw [HN.out]; exact hi) (by rw [HM.out]; exact hk) (by omega))
  clear hW hD hE HWC
  go_wp2_with fail
  go_loopw [7, 8, 9] (fun v10 v11 v12 wr => ∃ (i k : Nat) (L : List (Int × Int)), i ≤ n ∧ k ≤ m ∧ v11 = .int .i64 i ∧ v12 = .int .i64 k ∧ L.length ≤ i ∧ L ++ pairsAt simV a b i k = pairsAt simV a b 0 0 ∧ wr.ownsRow W0.heap.size 39 2 v10 L.length (L.flatMap prc) ∧ Ext W0 wr) (fun _ v11 v12 _ => (n - (intOf v11).toNat) + (m - (intOf v12).toNat))
  case atStart => exact ⟨0, 0, [], Nat.zero_le _, Nat.zero_le _, rfl, rfl, Nat.zero_le _, rfl, own_newPr W0, (Ext.refl W0).alloc _⟩
  case round =>
    obtain ⟨i, k, L, hi, hk, rfl, rfl, hL, hpre, ho, hE⟩ := hrel
    have HP := Lib.hid hpre; have HO := Lib.hid ho; have HE := Lib.hid hE; clear hpre ho hE
    by_cases hik : i < n ∧ k < m
    case neg =>
      have hend : pairsAt simV a b i k = [] := pairsAt_end simV a b (by rw [HN.out, HM.out]; omega)
      have hfin : L = pairsAt simV a b 0 0 := by rw [← HP.out, hend, List.append_nil]
      have hwf : ∀ p ∈ L, prwf p := hfin ▸ pairs_wf (by rw [HN.out]; exact ha) (by rw [HM.out]; exact hb)
      obtain ⟨A', c', rfl, hc', hPr⟩ := own_prs HO.out hwf
      rw [hfin] at hPr hc'
      have hr : L.length = (pairsAt simV a b 0 0).length := by rw [hfin]
      have HPR := Lib.hid hPr; have HR := Lib.hid hr; have HEx := Lib.hid (HE0.out.trans HE.out); clear hPr hr hend hfin hwf
      as_aux_lemma =>
        by_cases h1 : i < n
        · have h2 : ¬ k < m := by omega
          go_wp2_with fail
          go_ret
          exact ⟨A', c', by rw [HR.out]; rfl, hc', HPR.out, HEx.out⟩
        · go_wp2_with fail
          go_ret
          exact ⟨A', c', by rw [HR.out]; rfl, hc', HPR.out, HEx.out⟩
    case pos =>
      obtain ⟨hin, hkm⟩ := hik
      have hx := List.getElem?_eq_getElem (l := a) (i := i) (by rw [HN.out]; exact hin)
      have hy := List.getElem?_eq_getElem (l := b) (i := k) (by rw [HM.out]; exact hkm)
      obtain ⟨x, hx2⟩ : ∃ x, a[i]? = some x := ⟨_, hx⟩
      obtain ⟨y, hy2⟩ : ∃ y, b[k]? = some y := ⟨_, hy⟩
      have hT := HW.out.ext HE.out
      have c1 := hT.row true i (Nat.zero_le _) (by omega)
      have c2 := hT.cell true i k (Nat.zero_le _) (by omega) (by omega)
      have c3 := hT.row false i (Nat.zero_le _) (by omega)
      have c4 := hT.row false (i + 1) (Nat.zero_le _) (by omega)
      have c5 := hT.cell false (i + 1) (k + 1) (Nat.zero_le _) (by omega) (by omega)
      have c6 := hT.cell false i k (Nat.zero_le _) (by omega) (by omega)
      have c7 := hT.cell false (i + 1) k (Nat.zero_le _) (by omega) (by omega)
      rw [HSM.out i k x y hx2 hy2] at c2
      rw [HBS.out (i + 1) (k + 1) (by omega) (by omega)] at c5
      rw [HBS.out i k (by omega) (by omega)] at c6
      rw [HBS.out (i + 1) k (by omega) (by omega)] at c7
      have hstep := pairsAt_step simV a b hx2 hy2
      have r1 := best_I a b i k (by rw [HN.out]; exact ha)
      have r2 := best_I a b (i + 1) k (by rw [HN.out]; exact ha)
      have r3 := best_I a b (i + 1) (k + 1) (by rw [HN.out]; exact ha)
      have r4 := sim_range x y
      obtain ⟨s, hs⟩ : ∃ z, simV x y = z := ⟨_, rfl⟩
      obtain ⟨B1, hB1⟩ : ∃ z, bestAt simV a b i k = z := ⟨_, rfl⟩
      obtain ⟨B2, hB2⟩ : ∃ z, bestAt simV a b (i + 1) k = z := ⟨_, rfl⟩
      obtain ⟨B3, hB3⟩ : ∃ z, bestAt simV a b (i + 1) (k + 1) = z := ⟨_, rfl⟩
      rw [hB1, hB2, hB3, hs] at hstep
      rw [hs] at c2 r4
      rw [hB1] at c6 r1
      rw [hB2] at c7 r2
      rw [hB3] at c5 r3
      have HST := hstep; clear hstep hs hB1 hB2 hB3 hx hy hx2 hy2 hT
      obtain ⟨r10, r11⟩ := r1; obtain ⟨r20, r21⟩ := r2; obtain ⟨r30, r31⟩ := r3; obtain ⟨r40, r41, -⟩ := r4
      have h0 : (0 : Int) ≤ i := Int.natCast_nonneg _
      have h1 : (i : Int) < n := by omega
      have h2 : (0 : Int) ≤ k := Int.natCast_nonneg _
      have h3 : (k : Int) < m := by omega
      have f1 : i + 1 < n + 1 := by omega
      have f2 : k + 1 < m + 1 := by omega
      have h4 : (i : Int) < (n + 1 : Nat) := by omega
      have h5 : (k : Int) < (m + 1 : Nat) := by omega
      have h6 : (i : Int) + 1 < (n + 1 : Nat) := by omega
      have h7 : (k : Int) + 1 < (m + 1 : Nat) := by omega
      clear HW HSM HBS
      as_aux_lemma =>
        by_cases h50 : 50 ≤ s
        case neg =>
          rw [if_neg (fun h => h50 h.1)] at HST
          have q50 : decide (50 ≤ s) = false := by simpa using h50
          go_wp2_with fail
          go_region
          go_wp2_with fail
          by_cases h21 : B2 = B1
          case pos =>
            rw [if_pos h21] at HST
            go_region
            go_wp2_with fail
            go_roundw
            case rel => exact ⟨i + 1, k, L, by omega, by omega, by go_num, by go_num, by omega, by rw [← HST]; exact HP.out, own_stab3 ((Ext.refl _).drew.drew) HO.out, HE.out.drew.drew⟩
            case measure => simp [intOf]; omega
          case neg =>
            rw [if_neg h21] at HST
            go_region
            go_wp2_with fail
            go_roundw
            case rel => exact ⟨i, k + 1, L, by omega, by omega, by go_num, by go_num, by omega, by rw [← HST]; exact HP.out, own_stab3 ((Ext.refl _).drew.drew) HO.out, HE.out.drew.drew⟩
            case measure => simp [intOf]; omega
        case pos =>
          by_cases h31 : s + B3 = B1
          case neg =>
            rw [if_neg (fun h => h31 h.2)] at HST
            have w3 : IntKind.i64.wrap (s + B3) = s + B3 := wrap_in (by omega) (by omega)
            go_wp2_with fail
            go_region
            go_wp2_with fail
            by_cases h21 : B2 = B1
            case pos =>
              rw [if_pos h21] at HST
              go_region
              go_wp2_with fail
              go_roundw
              case rel => exact ⟨i + 1, k, L, by omega, by omega, by go_num, by go_num, by omega, by rw [← HST]; exact HP.out, own_stab3 ((Ext.refl _).drew.drew) HO.out, HE.out.drew.drew⟩
              case measure => simp [intOf]; omega
            case neg =>
              rw [if_neg h21] at HST
              go_region
              go_wp2_with fail
              go_roundw
              case rel => exact ⟨i, k + 1, L, by omega, by omega, by go_num, by go_num, by omega, by rw [← HST]; exact HP.out, own_stab3 ((Ext.refl _).drew.drew) HO.out, HE.out.drew.drew⟩
              case measure => simp [intOf]; omega
          case pos =>
            rw [if_pos ⟨h50, h31⟩] at HST
            have w3 : IntKind.i64.wrap (s + B3) = s + B3 := wrap_in (by omega) (by omega)
            obtain ⟨inf, i1, i2, i3, i4⟩ := info_of infoPr
            have I1 := Lib.hid i1; have I2 := Lib.hid i2; have I3 := Lib.hid i3; have I4 := Lib.hid i4; clear i1 i2 i3 i4
            have HO8 := Lib.hid (own_stab3 ((Ext.refl wr).drew) HO.out); have HE8 := Lib.hid HE.out.drew
            go_wp2_with fail
            go_region
            obtain ⟨W8, hW8⟩ : ∃ W8, wr.drew = W8 := ⟨_, rfl⟩
            rw [hW8] at HO8 HE8 ⊢
            clear hW8 c1 c2 c3 c4 c5 c6 c7
            go_wp2_with (at_builtin; refine wpList_append_size2 rfl (.tmp 62) (.tmp 66) 34 rfl W0.heap.size 39 inf _ 2 16 underPr I1.out I2.out I3.out I4.out rfl (by decide) u7 L.length (L.flatMap prc) (some ⟨W8.heap.size, 0, none⟩) 1 1 (prc ((i : Int), (k : Int))) rfl (by simp [Act.eval]) rfl (by simp [prc, Value.oneCell']) (by simp only [maxLen]; omega) (by omega) (own_stab3 ((Ext.refl W8).alloc _) HO8.out) (Cells.new W8 _ _ rfl) (by have := HE8.out.size; simp; omega) ?_; intro v' w3 hown hg hbk)
            go_roundw
            case rel =>
              refine ⟨i + 1, k + 1, L ++ [((i : Int), (k : Int))], by omega, by omega, by go_num, by go_num, by simp; omega, by rw [List.append_assoc, List.singleton_append, ← HST]; exact HP.out, ?_, (HE8.out.alloc _).own3 (own_stab3 ((Ext.refl W8).alloc _) HO8.out) hg⟩
              rw [List.flatMap_append, List.length_append]
              simpa using hown
            case measure => simp [intOf]; omega
end Go.Proofs.Ytmmppfopokbcfaa

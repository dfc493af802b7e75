/- The search for a collision. No condition. -/
import Derived.Test.YtmmcjcaccicheaaTfMap
import Derived.Test.YtmmcjcaccicheaaTfRStr
namespace Go.Proofs.Ytmmcjcaccicheaa
open Go.RowKit
theorem lookup_put (d s : Bs) (m : List (Bs × Bs)) : (fun t => if t = d then some s else m.lookup t) = fun t => ((d, s) :: m).lookup t := by
  funext t
  rw [List.lookup_cons]
  by_cases h : t = d
  · subst h; simp
  · have : (t == d) = false := by simp [h]
    rw [if_neg h, this]
set_option maxRecDepth 100000 in
set_option maxHeartbeats 8000000 in
theorem collide_is (xs : List Bs) (hxs : ∀ x ∈ xs, x.length < 1073741824) (hxl : xs.length ≤ 1000) (g o c : Nat) (w : World) (hc : ∀ i x, xs[i]? = some x → w.cell? ⟨g, o + i, none⟩ = some (sv x)) :
    Calls Try.prog 15 #[.slice (some ⟨g, o, none⟩) xs.length c] w fun e w' => e = .returned (.bool (collF sumV xs [])) ∧ Ext w w' := by
  have m0 := MapD.new w rfl
  have e0 : Ext w (w.alloc (.map #[] 0)) := (Ext.refl w).alloc _
  have M0 := Lib.hid m0; have E0 := Lib.hid e0; have HC := Lib.hid hc; have HXS := Lib.hid hxs
  clear m0 e0 hc hxs
  obtain ⟨n, hn⟩ : ∃ n, xs.length = n := ⟨_, rfl⟩
  rw [hn] at hxl ⊢
  obtain ⟨g3, hg3⟩ : ∃ g, w.heap.size = g := ⟨_, rfl⟩
  have HG := Lib.hid hg3; have HN := Lib.hid hn
  have hmm := @run_makeMap Try.prog
  go_enter Try.func15, Try.ntmps15
  go_wp2_with fail
  rw [hg3] at M0
  clear hn hmm
  go_loopw [12] (fun v12 wq => ∃ (i : Nat) (m : List (Bs × Bs)), i ≤ n ∧ v12 = .int .i64 i ∧ MapD wq g3 i (fun t => m.lookup t) ∧ Ext w wq ∧ collF sumV xs [] = collF sumV (xs.drop i) m) (fun v12 _ => n - (intOf v12).toNat)
  case atStart => exact ⟨0, [], Nat.zero_le _, rfl, M0.out, E0.out, rfl⟩
  case round =>
    clear M0 E0
    obtain ⟨i, m, hi, rfl, hm, he, hcol⟩ := hrel
    have HM := Lib.hid hm; have HE := Lib.hid he; have HCOL := Lib.hid hcol
    clear hm he hcol
    by_cases h : i < n
    · have hi0 : (0 : Int) ≤ i := Int.natCast_nonneg _
      have hi1 : (i : Int) < n := by omega
      obtain ⟨x, hx⟩ : ∃ x, xs[i]? = some x := ⟨_, List.getElem?_eq_getElem (by rw [HN.out]; exact h)⟩
      have hdr : xs.drop i = x :: xs.drop (i + 1) := by
        obtain ⟨hlt, hget⟩ := List.getElem?_eq_some_iff.1 hx
        rw [List.drop_eq_getElem_cons hlt, hget]
      have hcx := HE.out.cell (HC.out i x hx)
      have hxx := HXS.out x (List.mem_of_getElem? hx)
      unfold sv at hcx
      have HDR := Lib.hid hdr; have HX := Lib.hid hxx
      clear hdr hx hxx
      go_wp2_with fail
      refine (rsum_is x HX.out _).mono ?_
      rintro e w2 ⟨rfl, hE2⟩
      obtain ⟨d, hd⟩ : ∃ d, sumV x = d := ⟨_, rfl⟩
      have d32 : d.length = 32 := by rw [← hd]; rfl
      rw [hd]
      obtain ⟨g6, hg6⟩ : ∃ g, w2.heap.size = g := ⟨_, rfl⟩
      obtain ⟨W3, hst, a3, e3, -⟩ := new_dg w2 d d32
      rw [hg6] at hst a3
      have hld := dg_load a3 d32
      have hm3 := (HM.out.ext hE2).ext e3
      have hlk := hm3.look d32
      have HM3 := Lib.hid hm3; have HE3 := Lib.hid ((HE.out.trans hE2).trans e3); have HD := Lib.hid hd; have D32 := Lib.hid d32
      have hcf : collF sumV (x :: xs.drop (i + 1)) m = (match m.lookup d with | some t => if t ≠ x then true else collF sumV (xs.drop (i + 1)) ((d, x) :: m) | none => collF sumV (xs.drop (i + 1)) ((d, x) :: m)) := by
        rw [collF.eq_2, hd]
        cases m.lookup d <;> rfl
      rw [← HDR.out, ← HCOL.out] at hcf
      clear hE2 a3 e3 hm3 hd d32 HM HE HCOL HDR hcx
      cases hml : m.lookup d with
      | none =>
        simp only [hml] at hlk hcf
        unfold optV at hlk
        have HCF := Lib.hid hcf; clear hcf hml
        go_wp2_with (at_mapUpdate; refine wpList_mapD_put _ rfl _ _ _ rfl g3 i (fun t => m.lookup t) rfl HM3.out (by simp only [maxLen]; omega) d x rfl rfl D32.out ?_; intro w4 hm4 hg4)
        rw [lookup_put] at hm4
        have HM4 := Lib.hid hm4; have HE4 := Lib.hid (HE3.out.grownBy hg4 (Nat.le_of_eq HG.out))
        clear hm4 hg4 hst hld hlk HM3 HE3 hg6
        go_wp2_with fail
        go_roundw
        case rel => exact ⟨i + 1, _, by omega, by go_num, HM4.out, HE4.out, HCF.out⟩
        case measure => simp [intOf]; omega
      | some t =>
        simp only [hml] at hlk hcf
        unfold optV at hlk
        by_cases htx : t = x
        · subst htx
          simp only [ne_eq, not_true_eq_false, if_false] at hcf
          have HCF := Lib.hid hcf; clear hcf hml
          go_wp2_with (at_mapUpdate; refine wpList_mapD_put _ rfl _ _ _ rfl g3 i (fun t => m.lookup t) rfl HM3.out (by simp only [maxLen]; omega) d t rfl rfl D32.out ?_; intro w4 hm4 hg4)
          rw [lookup_put] at hm4
          have HM4 := Lib.hid hm4; have HE4 := Lib.hid (HE3.out.grownBy hg4 (Nat.le_of_eq HG.out))
          clear hm4 hg4 hst hld hlk HM3 HE3 hg6
          go_wp2_with fail
          go_roundw
          case rel => exact ⟨i + 1, _, by omega, by go_num, HM4.out, HE4.out, HCF.out⟩
          case measure => simp [intOf]; omega
        · have hne : ((bst t).toList == (bst x).toList) = false := by rw [ByteArray.toList_eq, ByteArray.toList_eq, bst_list, bst_list]; simpa using htx
          simp only [ne_eq, htx, not_false_eq_true, if_true] at hcf
          have HCF := Lib.hid hcf; clear hcf hml
          go_wp2_with fail
          go_ret
          exact ⟨congrArg (fun b => Ending.returned (.bool b)) HCF.out.symm, HE3.out⟩
    · obtain rfl : i = n := by omega
      have hcf := HCOL.out
      rw [List.drop_of_length_le (Nat.le_of_eq HN.out)] at hcf
      have hcf : collF sumV xs [] = false := hcf
      have HCF := Lib.hid hcf; clear hcf
      go_wp2_with fail
      go_ret
      exact ⟨congrArg (fun b => Ending.returned (.bool b)) HCF.out.symm, HE.out⟩
end Go.Proofs.Ytmmcjcaccicheaa

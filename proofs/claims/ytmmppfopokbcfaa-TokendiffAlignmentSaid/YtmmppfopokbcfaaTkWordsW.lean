/- Contract: Words. -/
import Derived.Test.YtmmppfopokbcfaaTkRun
namespace Go.Proofs.Ytmmppfopokbcfaa
open Go.RowKit

def strLen : Value → Nat
  | .string s => s.size
  | _ => 0
theorem ext_mk (s : ByteArray) (a b : Nat) : (s.extract a b).data.toList = (s.data.toList.drop a).take (b - a) := Lib.extract_data s a b
theorem wordsV_step {r : ByteArray} (h : r.size ≠ 0) : wordsV r = r.extract 0 (wlen r.data.toList) :: wordsV (r.extract (wlen r.data.toList) r.size) := by
  have hl : r.data.toList ≠ [] := by intro e; rw [size_len, e] at h; exact h rfl
  unfold wordsV
  rw [wordsL_step hl, List.map_cons, ext_mk, Lib.extract_eq r 0]
  rw [List.take_of_length_le (i := r.size - wlen r.data.toList) (by rw [List.length_drop, ← size_len]; exact Nat.le_refl _)]
  rfl
theorem emp_yes {r : ByteArray} (h : r.size = 0) : r.toList.isEmpty = true := by
  rw [ByteArray.toList_eq, List.isEmpty_iff]
  exact List.eq_nil_of_length_eq_zero (by rw [← size_len]; exact h)
theorem emp_no {r : ByteArray} (h : r.size ≠ 0) : r.toList.isEmpty = false := by
  cases e : r.toList.isEmpty with
  | false => rfl
  | true =>
    rw [ByteArray.toList_eq, List.isEmpty_iff] at e
    exact absurd (by rw [size_len, e]; rfl) h
theorem wordsV_nil {r : ByteArray} (h : r.size = 0) : wordsV r = [] := by
  have : r.data.toList = [] := List.eq_nil_of_length_eq_zero (by rw [← size_len]; exact h)
  unfold wordsV; rw [this]; rfl
theorem ext_size (r : ByteArray) (a b : Nat) (h : b ≤ r.size) : (r.extract a b).size = b - a := by
  rw [size_len, ext_mk, List.length_take, List.length_drop, ← size_len]; omega
theorem words_small (s : ByteArray) : ∀ x ∈ wordsV s, x.size ≤ s.size := by
  intro x hx
  obtain ⟨l, hl, rfl⟩ := List.mem_map.1 hx
  have h := words_back s.data.toList
  have : l.length ≤ (wordsL s.data.toList).flatten.length := by
    generalize wordsL s.data.toList = L at hl
    induction L with
    | nil => cases hl
    | cons y L ih =>
      rw [List.flatten_cons, List.length_append]
      rcases List.mem_cons.1 hl with rfl | hl
      · omega
      · have := ih hl; omega
  rw [h, ← size_len] at this
  exact this
theorem infoSt : (Try.prog.info? 9).map (fun i => (i.zero, i.size, i.bytes)) = some (some (.string ⟨#[]⟩), 1, 16) := by kernel_rfl
theorem underSt : Try.prog.underlying 31 = some (.slice 9) := by kernel_rfl

set_option maxRecDepth 100000 in
set_option maxHeartbeats 8000000 in
theorem words_any (s : ByteArray) (w : World) (hs : s.size ≤ 1000) :
    Calls Try.prog 18 #[.string s] w fun e w' => ∃ v, e = .returned v ∧ w'.ownsRow w.heap.size 9 1 v (wordsV s).length ((wordsV s).map .string) ∧ Ext w w' := by
  obtain ⟨inf, i1, i2, i3, i4⟩ := info_of infoSt
  have I1 := Lib.hid i1; have I2 := Lib.hid i2; have I3 := Lib.hid i3; have I4 := Lib.hid i4; clear i1 i2 i3 i4
  go_enter Try.func18, Try.ntmps18
  go_wp2_with fail
  go_loopw [0, 3] (fun v0 v3 wr => ∃ (r : ByteArray) (acc : Lns), v0 = .string r ∧ acc.length + r.size ≤ s.size ∧ acc ++ wordsV r = wordsV s ∧ wr.ownsRow w.heap.size 9 1 v3 acc.length (acc.map .string) ∧ Ext w wr) (fun v0 _ _ => strLen v0)
  case atStart => exact ⟨s, [], rfl, by simp, rfl, World.ownsRow_nil _ _ _ _, Ext.refl w⟩
  case round =>
    obtain ⟨r, acc, rfl, hl, hw, ho, hE⟩ := hrel
    have HW := Lib.hid hw; have HO := Lib.hid ho; have HE := Lib.hid hE; clear hw ho hE
    by_cases h0 : r.size = 0
    · have hq := emp_yes h0
      have hn := wordsV_nil h0
      have HN := Lib.hid hn; clear hn
      go_wp2_with fail
      go_ret
      have h9 := HO.out
      refine ⟨_, rfl, ?_, HE.out⟩
      rw [← HW.out, HN.out, List.append_nil]
      exact h9
    · have hq := emp_no h0
      have hst := wordsV_step h0
      have hle := wlen_le (l := r.data.toList) (by intro e; rw [size_len, e] at h0; exact h0 rfl)
      have hpos := wlen_pos r.data.toList
      rw [← size_len] at hle
      have HST := Lib.hid hst; clear hst
      obtain ⟨W, hW⟩ : ∃ W, wlen r.data.toList = W := ⟨_, rfl⟩
      obtain ⟨W1, h1⟩ : ∃ W, tw wordB r.data.toList = W := ⟨_, rfl⟩
      obtain ⟨W2, h2⟩ : ∃ W, tw spaceB r.data.toList = W := ⟨_, rfl⟩
      have hmx : (1 < W2 ∧ W1 < W2 ∧ W = W2) ∨ (1 < W1 ∧ W2 ≤ W1 ∧ W = W1) ∨ (W1 ≤ 1 ∧ W2 ≤ 1 ∧ W = 1) := by rw [← hW, wlen, h1, h2]; omega
      rw [hW] at hle hpos
      have HWL := Lib.hid hW; have H1 := Lib.hid h1; have H2 := Lib.hid h2; clear hW h1 h2
      rcases hmx with ⟨m1, m2, rfl⟩ | ⟨m1, m2, rfl⟩ | ⟨m1, m2, rfl⟩
      · go_wp2_with fail
        refine (runW_any r _ (by unfold Reach; omega)).mono ?_
        rintro e w1 ⟨rfl, rfl⟩
        rw [H1.out]
        go_wp2_with fail
        refine (runS_any r _ (by unfold Reach; omega)).mono ?_
        rintro e w2 ⟨rfl, rfl⟩
        rw [H2.out]
        have f1 : (if 1 < (W1 : Int) then (W1 : Int) else 1) < (W : Int) := by split <;> omega
        clear m1 m2
        go_wp2_with (at_builtin; refine wpList_append_size2 rfl (.tmp 12) (.tmp 16) 31 rfl w.heap.size 9 inf _ 1 16 underSt I1.out I2.out I3.out I4.out rfl (by decide) _ acc.length (acc.map .string) (some ⟨w2.heap.size, 0, none⟩) 1 1 [.string (r.extract 0 W)] rfl (by simp [Act.eval]) rfl (by simp [Value.oneCell']) (by simp only [maxLen]; omega) (by omega) (own_stab3 ((Ext.refl w2).alloc _) HO.out) (Cells.new w2 _ [.string (r.extract 0 W)] rfl) (by have := HE.out.size; simp; omega) ?_; intro v2 w3 hown2 hg2 _)
        have HO2 := Lib.hid hown2; have HG2 := Lib.hid hg2; clear hown2 hg2
        go_wp2_with fail
        go_roundw
        case rel =>
          refine ⟨_, acc ++ [r.extract 0 W], rfl, ?_, ?_, ?_, (HE.out.alloc _).own3 (own_stab3 ((Ext.refl w2).alloc _) HO.out) HG2.out⟩
          · rw [List.length_append, List.length_singleton, ext_size _ _ _ (Nat.le_refl _)]; omega
          · rw [← HW.out, HST.out, HWL.out, List.append_assoc]; rfl
          · rw [List.length_append, List.map_append]; exact HO2.out
        case measure => simp only [strLen]; rw [ext_size _ _ _ (Nat.le_refl _)]; omega
      · go_wp2_with fail
        refine (runW_any r _ (by unfold Reach; omega)).mono ?_
        rintro e w1 ⟨rfl, rfl⟩
        rw [H1.out]
        go_wp2_with fail
        refine (runS_any r _ (by unfold Reach; omega)).mono ?_
        rintro e w2 ⟨rfl, rfl⟩
        rw [H2.out]
        have f2 : 1 < (W : Int) := by omega
        have f1 : ¬ ((if 1 < (W : Int) then (W : Int) else 1) < (W2 : Int)) := by split <;> omega
        clear m1 m2
        go_wp2_with (at_builtin; refine wpList_append_size2 rfl (.tmp 12) (.tmp 16) 31 rfl w.heap.size 9 inf _ 1 16 underSt I1.out I2.out I3.out I4.out rfl (by decide) _ acc.length (acc.map .string) (some ⟨w2.heap.size, 0, none⟩) 1 1 [.string (r.extract 0 W)] rfl (by simp [Act.eval]) rfl (by simp [Value.oneCell']) (by simp only [maxLen]; omega) (by omega) (own_stab3 ((Ext.refl w2).alloc _) HO.out) (Cells.new w2 _ [.string (r.extract 0 W)] rfl) (by have := HE.out.size; simp; omega) ?_; intro v2 w3 hown2 hg2 _)
        have HO2 := Lib.hid hown2; have HG2 := Lib.hid hg2; clear hown2 hg2
        go_wp2_with fail
        go_roundw
        case rel =>
          refine ⟨_, acc ++ [r.extract 0 W], rfl, ?_, ?_, ?_, (HE.out.alloc _).own3 (own_stab3 ((Ext.refl w2).alloc _) HO.out) HG2.out⟩
          · rw [List.length_append, List.length_singleton, ext_size _ _ _ (Nat.le_refl _)]; omega
          · rw [← HW.out, HST.out, HWL.out, List.append_assoc]; rfl
          · rw [List.length_append, List.map_append]; exact HO2.out
        case measure => simp only [strLen]; rw [ext_size _ _ _ (Nat.le_refl _)]; omega
      · go_wp2_with fail
        refine (runW_any r _ (by unfold Reach; omega)).mono ?_
        rintro e w1 ⟨rfl, rfl⟩
        rw [H1.out]
        go_wp2_with fail
        refine (runS_any r _ (by unfold Reach; omega)).mono ?_
        rintro e w2 ⟨rfl, rfl⟩
        rw [H2.out]
        have f2 : ¬ (1 < (W1 : Int)) := by omega
        have f1 : ¬ ((if 1 < (W1 : Int) then (W1 : Int) else 1) < (W2 : Int)) := by split <;> omega
        clear m1 m2
        go_wp2_with (at_builtin; refine wpList_append_size2 rfl (.tmp 12) (.tmp 16) 31 rfl w.heap.size 9 inf _ 1 16 underSt I1.out I2.out I3.out I4.out rfl (by decide) _ acc.length (acc.map .string) (some ⟨w2.heap.size, 0, none⟩) 1 1 [.string (r.extract 0 1)] rfl (by simp [Act.eval]) rfl (by simp [Value.oneCell']) (by simp only [maxLen]; omega) (by omega) (own_stab3 ((Ext.refl w2).alloc _) HO.out) (Cells.new w2 _ [.string (r.extract 0 1)] rfl) (by have := HE.out.size; simp; omega) ?_; intro v2 w3 hown2 hg2 _)
        have HO2 := Lib.hid hown2; have HG2 := Lib.hid hg2; clear hown2 hg2
        go_wp2_with fail
        go_roundw
        case rel =>
          refine ⟨_, acc ++ [r.extract 0 1], rfl, ?_, ?_, ?_, (HE.out.alloc _).own3 (own_stab3 ((Ext.refl w2).alloc _) HO.out) HG2.out⟩
          · rw [List.length_append, List.length_singleton, ext_size _ _ _ (Nat.le_refl _)]; omega
          · rw [← HW.out, HST.out, HWL.out, List.append_assoc]; rfl
          · rw [List.length_append, List.map_append]; exact HO2.out
        case measure => simp only [strLen]; rw [ext_size _ _ _ (Nat.le_refl _)]; omega
/-- The program's words of a line. -/
theorem words_is {s : ByteArray} {w : World} (hs : s.size ≤ 1000) :
    Calls Try.prog 18 #[.string s] w fun e w' => ∃ A c, e = .returned (.slice A (wordsV s).length c) ∧ (wordsV s).length ≤ c ∧ Strs w' A (wordsV s).length (wordsV s) ∧ Ext w w' := by
  refine (words_any s w hs).mono ?_
  rintro e w' ⟨v, rfl, ho, hE⟩
  obtain ⟨A, c, rfl, hc, hS⟩ := own_strs ho (fun x hx => by have := words_small s x hx; unfold Reach; omega)
  exact ⟨A, c, rfl, hc, hS, hE⟩
end Go.Proofs.Ytmmppfopokbcfaa

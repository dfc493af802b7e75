/- Hunks as values, lists of hunks in memory, and the contracts of the functions that look at their places and lengths alone. -/
import Derived.Test.YtilogolnoifigaaLeaf
namespace Go.Proofs.Ytilogolnoifigaa
open Go.RowKit

/-- A hunk as a Go value: its place, and two slices. -/
structure Hk where
  at_ : Int
  oa : Option Addr
  ol : Nat
  oc : Nat
  na : Option Addr
  nl : Nat
  nc : Nat

abbrev Hk.cells (h : Hk) : List Value := [.int .i64 h.at_, .slice h.oa h.ol h.oc, .slice h.na h.nl h.nc]
abbrev Hk.val (h : Hk) : Value := .agg #[.int .i64 h.at_, .slice h.oa h.ol h.oc, .slice h.na h.nl h.nc]

/-- Its slices are no longer than the form's reach lets them be. -/
def Hk.small (h : Hk) : Prop := h.ol ≤ Reach ∧ h.nl ≤ Reach

theorem flat3_get {α : Type} (f : α → List Value) (hf : ∀ a, (f a).length = 3) : ∀ (l : List α) (k j : Nat) (a : α), l[k]? = some a → j < 3 → (l.flatMap f)[k * 3 + j]? = (f a)[j]?
  | [], k, j, a, h, _ => by simp at h
  | x :: l, 0, j, a, h, hj => by
    obtain rfl : x = a := by simpa using h
    rw [List.flatMap_cons, List.getElem?_append_left (by rw [hf]; omega)]
    simp
  | x :: l, k + 1, j, a, h, hj => by
    rw [List.flatMap_cons, List.getElem?_append_right (by rw [hf]; omega), hf]
    have := flat3_get f hf l k j a (by simpa using h) hj
    rw [← this]
    congr 1
    omega
theorem flat3_len {α : Type} (f : α → List Value) (hf : ∀ a, (f a).length = 3) (l : List α) : (l.flatMap f).length = l.length * 3 := by
  induction l with
  | nil => rfl
  | cons x l ih => rw [List.flatMap_cons, List.length_append, ih, hf, List.length_cons]; omega

/-- From address A on lie the n hunks hs. -/
def Hks (w : World) (A : Option Addr) (n : Nat) (hs : List Hk) : Prop := hs.length = n ∧ (∀ h ∈ hs, h.small) ∧ Cells w A (hs.flatMap Hk.cells)

section
variable {w w' : World} {A : Option Addr} {n : Nat} {hs : List Hk}
theorem Hks.ext (h : Hks w A n hs) (e : Ext w w') : Hks w' A n hs := ⟨h.1, h.2.1, h.2.2.ext e⟩
theorem Hks.get (h : Hks w A n hs) {k : Nat} (hk : k < n) : ∃ b off x, A = some ⟨b, off, none⟩ ∧ b < w.heap.size ∧ hs[k]? = some x ∧ x.small ∧ w.cell? ⟨b, off + k * 3, none⟩ = some (.int .i64 x.at_) ∧
    w.cell? ⟨b, off + k * 3 + 1, none⟩ = some (.slice x.oa x.ol x.oc) ∧ w.cell? ⟨b, off + k * 3 + 2, none⟩ = some (.slice x.na x.nl x.nc) := by
  have hl : k < hs.length := by rw [h.1]; exact hk
  have hx : hs[k]? = some hs[k] := List.getElem?_eq_getElem hl
  obtain ⟨b, off, h1, h2, h3⟩ := h.2.2.get (k := k * 3) (by rw [flat3_len _ (fun _ => rfl)]; omega)
  have g := fun j hj => flat3_get Hk.cells (fun _ => rfl) hs k j _ hx hj
  exact ⟨b, off, hs[k], h1, h2, hx, h.2.1 _ (List.getElem_mem hl), h3 (k * 3) _ (by simpa using g 0 (by omega)), by simpa [Nat.add_assoc] using h3 (k * 3 + 1) _ (by simpa using g 1 (by omega)), by simpa [Nat.add_assoc] using h3 (k * 3 + 2) _ (by simpa using g 2 (by omega))⟩
end

set_option maxHeartbeats 400000 in
theorem end_any (h : Hk) (w : World) (h0 : 0 ≤ h.at_) (h1 : h.at_ ≤ 1099511627776) (hs : h.small) :
    Calls Try.prog 41 #[h.val] w fun e w' => e = .returned (.int .i64 (h.at_ + h.ol)) ∧ Ext w w' := by
  obtain ⟨hs1, hs2⟩ := hs
  unfold Reach at hs1 hs2
  go_enter Try.func41, Try.ntmps41
  go_wp2
  go_ret
  exact ⟨rfl, (Ext.refl _).alloc _⟩

/-- The error of a list of hunks, where e is the end of what stands ahead of it. -/
def checkFrom (e : Int) : List Hk → Int
  | [] => 0
  | h :: t => if h.at_ < 0 ∨ 1099511627776 < h.at_ then 2 else if h.ol + h.nl = 0 then 1 else if h.at_ ≤ e then 9 else checkFrom (h.at_ + h.ol) t

/-- What holds of a check when k hunks have passed, the last of which ends at e. -/
def ChkAt (hs : List Hk) (k : Nat) (e : Int) : Prop :=
  checkFrom (-1) hs = checkFrom e (hs.drop k) ∧ (k = 0 → e = -1) ∧ ∀ j x, j + 1 = k → hs[j]? = some x → 0 ≤ x.at_ ∧ x.at_ ≤ 1099511627776 ∧ e = x.at_ + x.ol
theorem ChkAt.start (hs : List Hk) : ChkAt hs 0 (-1) := ⟨rfl, fun _ => rfl, fun _ _ h _ => by omega⟩
theorem ChkAt.step {hs : List Hk} {k : Nat} {e : Int} {x : Hk} (h : ChkAt hs k e) (hx : hs[k]? = some x) (h1 : 0 ≤ x.at_) (h2 : x.at_ ≤ 1099511627776) (h3 : ¬ x.ol + x.nl = 0) (h4 : ¬ x.at_ ≤ e) : ChkAt hs (k + 1) (x.at_ + x.ol) := by
  refine ⟨?_, fun h => by omega, fun j z hj hz => ?_⟩
  · rw [h.1, drop_of hx, checkFrom, if_neg (by omega), if_neg h3, if_neg h4]
  · obtain rfl : j = k := by omega
    rw [hx] at hz
    cases hz
    exact ⟨h1, h2, rfl⟩
theorem ChkAt.none {hs : List Hk} {k : Nat} {e : Int} (h : ChkAt hs k e) (hk : hs.length ≤ k) : 0 = checkFrom (-1) hs := by
  rw [h.1, List.drop_of_length_le hk]; rfl
theorem ChkAt.stop {hs : List Hk} {k : Nat} {e r : Int} {x : Hk} (h : ChkAt hs k e) (hx : hs[k]? = some x) (hr : checkFrom e (x :: hs.drop (k + 1)) = r) : r = checkFrom (-1) hs := by
  rw [h.1, drop_of hx, hr]

set_option maxHeartbeats 1000000 in
theorem check_any (A : Option Addr) (n c : Nat) (hs : List Hk) (w : World) (hh : Hks w A n hs) (hn : n ≤ Reach) :
    Calls Try.prog 39 #[.slice A n c] w fun e w' => e = .returned (.int .i64 (checkFrom (-1) hs)) ∧ Ext w w' := by
  unfold Reach at hn
  have HH := Lib.hid hh; clear hh
  go_enter Try.func39, Try.ntmps39
  go_wp2
  go_loopw [7] (fun i wr => ∃ (k : Nat) (e : Int), k ≤ n ∧ i = .int .i64 k ∧ ChkAt hs k e ∧ Ext w wr) (fun i _ => n - (intOf i).toNat)
  case atStart => exact ⟨0, -1, Nat.zero_le _, rfl, ChkAt.start _, Ext.refl _⟩
  case round =>
    obtain ⟨k, e, hk, rfl, h1, hE⟩ := hrel
    have HE := Lib.hid hE; have H1 := Lib.hid h1; clear hE h1
    by_cases hlt : k < n
    · obtain ⟨b, off, x, rfl, hb, hx, hxs, hc0, hc1, hc2⟩ := (HH.out.ext HE.out).get hlt
      have HX := Lib.hid hx; clear hx
      obtain ⟨hx1, hx2⟩ := hxs
      unfold Reach at hx1 hx2
      by_cases hA : x.at_ < 0
      · go_wp2
        go_ret
        exact ⟨ret_int (H1.out.stop HX.out (by rw [checkFrom, if_pos (.inl hA)])), HE.out.alloc _⟩
      by_cases hB : 1099511627776 < x.at_
      · go_wp2
        go_ret
        exact ⟨ret_int (H1.out.stop HX.out (by rw [checkFrom, if_pos (.inr hB)])), HE.out.alloc _⟩
      by_cases hC : x.ol + x.nl = 0
      · have hC' : (((x.ol : Int) + x.nl) == 0) = true := by rw [beq_iff_eq]; omega
        have HC := Lib.hid hC; clear hC
        go_wp2
        go_ret
        exact ⟨ret_int (H1.out.stop HX.out (by rw [checkFrom, if_neg (by omega), if_pos HC.out])), HE.out.alloc _⟩
      have hC' : (((x.ol : Int) + x.nl) == 0) = false := by rw [beq_eq_false_iff_ne]; omega
      have HC := Lib.hid hC; clear hC
      by_cases hk0 : k = 0
      · subst hk0
        obtain rfl : e = -1 := H1.out.2.1 rfl
        simp only [Nat.zero_mul, Nat.add_zero] at hc0 hc1 hc2
        go_wp2
        refine wp_region_text (fun wx => Ext wr wx) [0,1,2,3,4,5,6,7,8,9,10,11,12,13] (by kernel_rfl) (Stab.ext _) ((Ext.refl _).alloc _).drew (by kernel_rfl) (fun _ d _ _ _ h => by cases d <;> exact h) ?_
        iterate 3
          refine wpTk_want rfl (Eq.refl true) ?_
          apply Exists.intro
          refine ⟨fun wx hx => ?_, ?_⟩
          · go_simp
            with_reducible exact gives_ok _ _ _
          simp only [Act.put, List.setIfInBounds_toArray, List.set_cons_zero, List.set_cons_succ]
        iterate 9
          refine wpTk_skip rfl (Eq.refl false) ?_
          simp only [Act.put, List.setIfInBounds_toArray, List.set_cons_zero, List.set_cons_succ]
        iterate 2
          refine wpTk_want rfl (Eq.refl true) ?_
          apply Exists.intro
          refine ⟨fun wx hx => ?_, ?_⟩
          · go_simp
            with_reducible exact gives_ok _ _ _
          simp only [Act.put, List.setIfInBounds_toArray, List.set_cons_zero, List.set_cons_succ]
        refine wpTk_nil ?_
        intro wx hE2
        go_wp2
        go_roundw
        case rel => exact ⟨1, x.at_ + x.ol, by omega, by go_num, H1.out.step HX.out (by omega) (by omega) HC.out (by omega), HE.out.trans hE2⟩
        case measure => simp [intOf]; omega
      have hk1 : 0 < k := by omega
      obtain ⟨b', off', y, hA', hb', hy, hys, hd0, hd1, hd2⟩ := (HH.out.ext HE.out).get (k := k - 1) (by omega)
      obtain ⟨rfl, rfl⟩ : b = b' ∧ off = off' := by simpa using hA'
      have hyE := H1.out.2.2 (k - 1) y (by omega) hy
      have HY := Lib.hid hy; clear hy
      have hidx : ((k : Int) - 1).toNat = k - 1 := by omega
      have hwr : IntKind.i64.wrap ((k : Int) - 1) = (k : Int) - 1 := IntWalk.i64_in _ (by omega)
      have hlo : (1 : Int) ≤ (k : Int) := by omega
      have hhi : (k : Int) - 1 < (n : Int) := by omega
      obtain ⟨hy1, hy2, hy3⟩ := hyE
      have HYE := Lib.hid hy3; clear hy3
      have hys' := hys
      obtain ⟨hys1, hys2⟩ := hys
      unfold Reach at hys1 hys2
      have HS := Lib.hid hys'; clear hys'
      by_cases hD : x.at_ ≤ y.at_ + y.ol
      all_goals
        go_wp2
        refine wp_region_text (fun wx => Ext wr wx ∧ wx.cell? ⟨wr.heap.size, 0, none⟩ = some (.int .i64 x.at_) ∧ wx.cell? ⟨b, off + (k - 1) * 3, none⟩ = some (.int .i64 y.at_) ∧ wx.cell? ⟨b, off + (k - 1) * 3 + 1, none⟩ = some (.slice y.oa y.ol y.oc) ∧ wx.cell? ⟨b, off + (k - 1) * 3 + 2, none⟩ = some (.slice y.na y.nl y.nc)) [0,1,2,3,4,5,6,7,8,9,10,11,12,13] (by kernel_rfl)
          ((Stab.ext _).and ((Stab.cell _ _).and ((Stab.cell _ _).and ((Stab.cell _ _).and (Stab.cell _ _))))) ⟨((Ext.refl _).alloc _).drew, by go_simp, by go_simp, by go_simp, by go_simp⟩ (by kernel_rfl) (fun _ d _ _ _ h => by cases d <;> exact h) ?_
        iterate 14
          refine wpTk_want rfl (Eq.refl true) ?_
          apply Exists.intro
          refine ⟨fun wx hx => ?_, ?_⟩
          · obtain ⟨hE, g1, g2, g3, g4⟩ := hx
            go_simp
            first | with_reducible exact gives_ok _ _ _ | exact gives_call _ _ _ (end_any y _ hy1 hy2 HS.out)
          simp only [Act.put, List.setIfInBounds_toArray, List.set_cons_zero, List.set_cons_succ]
        refine wpTk_nil ?_
        rintro wx ⟨hE2, g1, g2, g3, g4⟩
        clear g1 g2 g3 g4
      · go_wp2
        go_ret
        exact ⟨ret_int (H1.out.stop HX.out (by rw [checkFrom, if_neg (by omega), if_neg HC.out, HYE.out, if_pos hD])), HE.out.trans hE2⟩
      · go_wp2
        go_roundw
        case rel => exact ⟨k + 1, x.at_ + x.ol, by omega, by go_num, H1.out.step HX.out (by omega) (by omega) HC.out (by rw [HYE.out]; omega), HE.out.trans hE2⟩
        case measure => simp [intOf]; omega
    · go_wp2
      go_ret
      exact ⟨ret_int (H1.out.none (by rw [HH.out.1]; omega)), HE.out⟩

end Go.Proofs.Ytilogolnoifigaa

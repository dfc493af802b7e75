/- The contract of CommuteAll. -/
import Derived.Test.YtilogolnoifigaaCarried
namespace Go.Proofs.Ytilogolnoifigaa
open Go.RowKit

/-- What CommuteAll gives. -/
def allT (a b : List Hk) : Option (List Hk × List Hk) := if (a ++ b).all Hk.ok = true then allV a b else none

def AllDone (r : Option (List Hk × List Hk)) (n m : Nat) (e : Ending) (w' : World) : Prop := match r with
  | none => e = .returned (.tuple #[.slice none 0 0, .slice none 0 0, .bool false])
  | some (y, x) => ∃ Y cy X cx, m ≤ cy ∧ n ≤ cx ∧ Hks w' Y m y ∧ Hks w' X n x ∧ e = .returned (.tuple #[.slice Y m cy, .slice X n cx, .bool true])

/-- What is known in the second loop. -/
def AllAt (w : World) (a b : List Hk) (n : Nat) (s out : Value) (k : Nat) (wr : World) : Prop :=
  Ext w wr ∧ ∃ A c s' o, s = .slice A n c ∧ n ≤ c ∧ Hks wr A n s' ∧ (∀ x ∈ o, x.small) ∧ wr.ownsRow w.heap.size 24 3 out k (o.flatMap Hk.cells) ∧
    allV a b = (match allV s' (b.drop k) with
      | none => none
      | some (o2, x) => some (o ++ o2, x))

set_option maxHeartbeats 4000000 in
theorem all_any {hs gs : List Hk} (A : Option Addr) (n c : Nat) (B : Option Addr) (m d : Nat) (w : World) (hh : Hks w A n hs) (hg : Hks w B m gs) (hn : n ≤ 500) (hm : m ≤ 500) (hnc : n ≤ c) :
    Calls Try.prog 21 #[.slice A n c, .slice B m d] w fun e w' => Ext w w' ∧ AllDone (allT hs gs) n m e w' := by
  have HH := Lib.hid hh; have HG := Lib.hid hg; clear hh hg
  have hlh := HH.out.1; have hlg := HG.out.1
  have HLH := Lib.hid hlh; have HLG := Lib.hid hlg; clear hlh hlg
  go_enter Try.func21, Try.ntmps21
  go_wp2_with fail
  refine (concat_two A B n c m d _ _ (Blk.new w _ rfl) (HH.out.ext ((Ext.refl w).alloc _)) (HG.out.ext ((Ext.refl w).alloc _)) (by omega) (by omega)).mono ?_
  rintro e w1 ⟨hE, v, rfl, ho⟩
  obtain ⟨cA, cc, rfl, hcc, hk⟩ := own_hks ho (by
    intro x hx
    rcases List.mem_append.1 hx with hx | hx
    · exact HH.out.2.1 x hx
    · exact HG.out.2.1 x hx)
  have HE := Lib.hid (((Ext.refl w).alloc _).trans hE); have HK := Lib.hid hk; clear hE ho hk
  go_wp2_with fail
  go_loopw [19] (fun i wr => ∃ k : Nat, k ≤ n + m ∧ i = .int .i64 k ∧ ((hs ++ gs).take k).all Hk.ok = true ∧ Ext w wr ∧ Ext w1 wr) (fun i _ => n + m - (intOf i).toNat)
  case atStart => exact ⟨0, Nat.zero_le _, rfl, rfl, HE.out, Ext.refl _⟩
  case round =>
    obtain ⟨k, hk, rfl, hok, hE, hE1⟩ := hrel
    have HE2 := Lib.hid hE; have HE1 := Lib.hid hE1; have HOK := Lib.hid hok; clear hE hE1 hok
    by_cases hlt : k < n + m
    · obtain ⟨b, off, h, rfl, hb, hx, hxs, hc0, hc1, hc2⟩ := (HK.out.ext HE1.out).get hlt
      have HX := Lib.hid hx; have HXS := Lib.hid hxs; clear hx hxs
      obtain ⟨ok, hok⟩ : ∃ ok, h.ok = ok := ⟨_, rfl⟩
      have HO := Lib.hid hok; clear hok
      go_wp2_with fail
      refine (valid_any h _ HXS.out).mono ?_
      rintro e w2 ⟨rfl, hE⟩
      have HE3 := Lib.hid ((HE2.out.alloc _).trans hE); have HE4 := Lib.hid ((HE1.out.alloc _).trans hE); clear hE
      rw [HO.out]
      cases ok
      case false =>
        go_wp2_with fail
        refine bodyPost_ret (v := .tuple #[.slice none 0 0, .slice none 0 0, .bool false]) (by simp [results, Try.results21, go_sem]) rfl ⟨HE3.out, ?_⟩
        have : allT hs gs = none := by
          unfold allT
          rw [if_neg]
          intro h'
          have := List.all_eq_true.1 h' h (List.mem_of_getElem? HX.out)
          rw [HO.out] at this; cases this
        rw [this]
        exact rfl
      case true =>
        go_wp2_with fail
        go_roundw
        case rel => exact ⟨k + 1, by omega, by go_num, by rw [take_succ_of HX.out, List.all_append, HOK.out]; simp [HO.out], HE3.out, HE4.out⟩
        case measure => simp [intOf]; omega
    · have hall : (hs ++ gs).all Hk.ok = true := by
        have h := HOK.out
        rwa [List.take_of_length_le (by rw [List.length_append, HLH.out, HLG.out]; omega)] at h
      have HALL := Lib.hid hall; clear hall
      go_wp2_with fail
      go_loopw [9, 10, 30] (fun s out i wr => ∃ k : Nat, k ≤ m ∧ i = .int .i64 k ∧ AllAt w hs gs n s out k wr) (fun _ _ i _ => m - (intOf i).toNat)
      case atStart =>
        refine ⟨0, Nat.zero_le _, rfl, HE2.out, A, c, hs, [], rfl, hnc, HH.out.ext HE2.out, by simp, World.ownsRow_nil _ _ _ _, ?_⟩
        rw [List.drop_zero]
        cases allV hs gs with
        | none => rfl
        | some r => rfl
      case round =>
        obtain ⟨k, hk, rfl, hE, A', c', s', o, rfl, hnc', hks, hso, ho, hv⟩ := hrel
        have HE5 := Lib.hid hE; have HKS := Lib.hid hks; have HSO := Lib.hid hso; have HOW := Lib.hid ho; have HV := Lib.hid hv; clear hE hks hso ho hv
        by_cases hlt : k < m
        · obtain ⟨b, off, h, rfl, hb, hx, hxs, hc0, hc1, hc2⟩ := (HG.out.ext HE5.out).get hlt
          have HX := Lib.hid hx; have HXS := Lib.hid hxs; clear hx hxs
          cases hp : passV s' h with
          | none =>
            have HP := Lib.hid hp; clear hp
            go_wp2_with fail
            refine (carried_none w A' n c' _ k _ (HE5.out.alloc _) (own_stab3 ((Ext.refl _).alloc _) HOW.out) (by omega) (HKS.out.ext ((Ext.refl _).alloc _)) (by omega) HXS.out HP.out).mono ?_
            rintro e w2 ⟨hE, v', rfl⟩
            have HE6 := Lib.hid hE; clear hE
            go_wp2_with fail
            refine bodyPost_ret (v := .tuple #[.slice none 0 0, .slice none 0 0, .bool false]) (by simp [results, Try.results21, go_sem]) rfl ⟨HE6.out, ?_⟩
            have : allT hs gs = none := by
              unfold allT
              rw [if_pos HALL.out, HV.out, drop_of HX.out]
              simp only [allV, HP.out]
            rw [this]
            exact rfl
          | some r =>
            obtain ⟨h', s2⟩ := r
            have HP := Lib.hid hp; clear hp
            go_wp2_with fail
            refine (carried_some w A' n c' _ k _ (HE5.out.alloc _) (own_stab3 ((Ext.refl _).alloc _) HOW.out) (by omega) (HKS.out.ext ((Ext.refl _).alloc _)) (by omega) HXS.out HP.out).mono ?_
            rintro e w2 ⟨hE, A2, c2, v2, hc2', hk2, hsm2, ho2, rfl⟩
            have HE6 := Lib.hid hE; have HK2 := Lib.hid hk2; have HS2 := Lib.hid hsm2; have HO2 := Lib.hid ho2; clear hE hk2 hsm2 ho2
            go_wp2_with fail
            go_roundw
            case rel =>
              refine ⟨k + 1, by omega, by go_num, HE6.out, A2, c2, s2, o ++ [h'], rfl, hc2', HK2.out, ?_, HO2.out, ?_⟩
              · intro x hx
                rcases List.mem_append.1 hx with hx | hx
                · exact HSO.out x hx
                · obtain rfl := List.mem_singleton.1 hx; exact HS2.out
              · rw [HV.out, drop_of HX.out]
                simp only [allV, HP.out]
                cases allV s2 (gs.drop (k + 1)) with
                | none => rfl
                | some r => simp
            case measure => simp [intOf]; omega
        · obtain rfl : k = m := by omega
          obtain ⟨Y, cy, rfl, hcy, hky⟩ := own_hks HOW.out HSO.out
          have HKY := Lib.hid hky; clear hky
          go_wp2_with fail
          refine bodyPost_ret (v := .tuple #[.slice Y k cy, .slice A' n c', .bool true]) (by simp [results, Try.results21, go_sem]) rfl ⟨HE5.out, ?_⟩
          have : allT hs gs = some (o, s') := by
            unfold allT
            rw [if_pos HALL.out, HV.out, List.drop_of_length_le (by rw [HLG.out]; omega)]
            simp [allV]
          rw [this]
          exact ⟨Y, cy, A', c', hcy, hnc', HKY.out, HKS.out, rfl⟩
end Go.Proofs.Ytilogolnoifigaa

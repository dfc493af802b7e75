/- Contracts of the reference: times, Unique; PatienceUnique: the walk. -/
import Derived.Test.YtmmhbnlafcmloaaPaAwake
namespace Go.Proofs.Ytmmhbnlafcmloaa
open Go.RowKit

set_option maxHeartbeats 4000000 in
theorem rtimes_any (A : Option Addr) (n c : Nat) (l : Lns) (s : ByteArray) (w : World) (ha : Strs w A n l) (hn : n ≤ 1000) :
    Calls Try.prog 28 #[.slice A n c, .string s] w fun e w' => (∃ y : Int, e = .returned (.tuple #[.int .i64 (cnt l s), .int .i64 y]) ∧ (cnt l s ≠ 0 → y = whV l s)) ∧ Ext w w' := by
  obtain rfl : l.length = n := ha.1
  have HA := Lib.hid ha; clear ha
  go_enter Try.func28, Try.ntmps28
  go_wp2_with fail
  go_loopw [6, 7, 8] (fun v6 v7 v8 wr => ∃ (k x : Nat) (y : Int), k ≤ l.length ∧ x ≤ k ∧ v6 = .int .i64 x ∧ v7 = .int .i64 y ∧ v8 = .int .i64 k ∧ cnt (l.take k) s = x ∧ (x ≠ 0 → y = whP l s k) ∧ Ext w wr) (fun _ _ v8 _ => l.length - (intOf v8).toNat)
  case atStart => exact ⟨0, 0, -1, Nat.zero_le _, Nat.le_refl _, rfl, rfl, rfl, rfl, fun h => absurd rfl h, Ext.refl _⟩
  case round =>
    obtain ⟨k, x, y, hk, hx, rfl, rfl, rfl, hc, hy, hE⟩ := hrel
    have HC := Lib.hid hc; have HY := Lib.hid hy; have HE := Lib.hid hE; clear hc hy hE
    by_cases hlt : k < l.length
    case neg =>
      obtain rfl : k = l.length := by omega
      go_wp2_with fail
      have h1 := HC.out
      rw [List.take_length] at h1
      refine bodyPost_ret (v := .tuple #[.int .i64 (x : Int), .int .i64 y]) (by simp [results, Try.results28, go_sem]) rfl ⟨⟨y, by rw [h1], fun h => HY.out (by rw [← h1]; exact h)⟩, HE.out⟩
    obtain ⟨ba, oa, t, rfl, hba, ht, ht2, hc1⟩ := (HA.out.ext HE.out).get hlt
    have HT := Lib.hid (cnt_take (s := s) ht)
    have hw := whP_succ l s k
    rw [ht] at hw
    have HW := Lib.hid hw; clear hw ht
    by_cases hst : t = s
    · subst hst
      go_wp2_with fail
      go_roundw
      case rel => exact ⟨k + 1, x + 1, k, by omega, by omega, by go_num, rfl, by go_num, by rw [HT.out, HC.out, if_pos rfl], fun _ => by rw [HW.out, if_pos rfl], HE.out⟩
      case measure => simp [intOf]; omega
    · have hne := ne_list hst
      have HN := Lib.hid hst; clear hst
      go_wp2_with fail
      go_roundw
      case rel => exact ⟨k + 1, x, y, by omega, by omega, rfl, rfl, by go_num, by rw [HT.out, HC.out, if_neg HN.out]; rfl, fun h => by rw [HW.out, if_neg (fun e => HN.out (Option.some.inj e))]; exact HY.out h, HE.out⟩
      case measure => simp [intOf]; omega
theorem rtimes_is {A : Option Addr} {n c : Nat} {l : Lns} {s : ByteArray} {w : World} {z x : Nat} (hz : cnt l s = z) (hx : whV l s = x) (ha : Strs w A n l) (hn : n ≤ 1000) :
    Calls Try.prog 28 #[.slice A n c, .string s] w fun e w' => (∃ y : Int, e = .returned (.tuple #[.int .i64 z, .int .i64 y]) ∧ (z ≠ 0 → y = x)) ∧ Ext w w' := by
  subst hz; subst hx; exact rtimes_any A n c l s w ha hn

set_option maxRecDepth 100000 in
set_option maxHeartbeats 8000000 in
theorem runique_any (A B : Option Addr) (n c m d : Nat) (a b : Lns) (w : World) (ha : Strs w A n a) (hb : Strs w B m b) (hn : n ≤ 500) (hm : m ≤ 500) :
    Calls Try.prog 14 #[.slice A n c, .slice B m d] w fun e w' => ∃ v, e = .returned v ∧ w'.ownsRow w.heap.size 32 3 v (uniqV a b).length ((uniqV a b).flatMap Mt.cells) ∧ Ext w w' := by
  obtain rfl : a.length = n := ha.1
  obtain rfl : b.length = m := hb.1
  have HA := Lib.hid ha; have HB := Lib.hid hb; clear ha hb
  obtain ⟨inf, i1, i2, i3, i4⟩ := info_of infoM'
  have I1 := Lib.hid i1; have I2 := Lib.hid i2; have I3 := Lib.hid i3; have I4 := Lib.hid i4; clear i1 i2 i3 i4
  go_enter Try.func14, Try.ntmps14
  go_wp2_with fail
  obtain ⟨w2, hw2⟩ : ∃ w2, w2 = w.alloc (.cells #[] 32) := ⟨_, rfl⟩
  have hE2 : Ext w w2 := by rw [hw2]; exact (Ext.refl w).alloc _
  have hO2 : w2.ownsRow w.heap.size 32 3 (.slice (some ⟨w.heap.size, 0, none⟩) 0 0) 0 [] := by
    rw [hw2]; exact ⟨rfl, .inr ⟨w.heap.size, 0, #[], rfl, Nat.le_refl _, heap_alloc_new w _, Nat.le_refl _, by simp [maxLen], rfl, rfl⟩⟩
  rw [← hw2]
  have HE2 := Lib.hid hE2; have HO2 := Lib.hid hO2; clear hw2 hE2 hO2
  go_loopw [5, 6] (fun v5 v6 wr => ∃ k : Nat, k ≤ a.length ∧ v6 = .int .i64 k ∧ wr.ownsRow w.heap.size 32 3 v5 (uniqP a b k).length ((uniqP a b k).flatMap Mt.cells) ∧ Ext w wr) (fun _ v6 _ => a.length - (intOf v6).toNat)
  case atStart => exact ⟨0, Nat.zero_le _, rfl, HO2.out, HE2.out⟩
  clear HO2 HE2
  case round =>
    obtain ⟨k, hk, rfl, ho, hE⟩ := hrel
    have HO := Lib.hid ho; have HEr := Lib.hid hE; clear ho hE
    by_cases hlt : k < a.length
    case neg =>
      obtain rfl : k = a.length := by omega
      go_wp2_with fail
      go_ret
      exact ⟨_, rfl, HO.out, HEr.out⟩
    case pos =>
      obtain ⟨ba, oa, s, hA, hba, hs, hs2, hc1⟩ := (HA.out.ext HEr.out).get hlt
      subst hA
      have hsn := uniqP_succ b hs
      have hlen := uniqP_len a b k
      obtain ⟨z, hz⟩ : ∃ z, cnt a s = z := ⟨_, rfl⟩
      obtain ⟨y, hy⟩ : ∃ y, cnt b s = y := ⟨_, rfl⟩
      obtain ⟨x, hx⟩ : ∃ x, whV b s = x := ⟨_, rfl⟩
      obtain ⟨x', hx'⟩ : ∃ x, whV a s = x := ⟨_, rfl⟩
      rw [hz, hy, hx] at hsn
      have HSN := Lib.hid hsn; have HZ := Lib.hid hz; have HY := Lib.hid hy; have HX := Lib.hid hx; have HX' := Lib.hid hx'; clear hsn hz hy hx hx' hs
      go_wp2_with fail
      refine (rtimes_is HZ.out HX'.out (HA.out.ext HEr.out) (by omega)).mono ?_
      rintro e w3 ⟨⟨y1, rfl, -⟩, hE⟩
      have hc2 := hE.cell hc1
      have hba2 := Nat.lt_of_lt_of_le hba hE.size
      have HE3 := Lib.hid (HEr.out.trans hE); have HO3 := Lib.hid (own_stab3 hE HO.out); clear hE HO HEr hc1 hba
      go_wp2_with fail
      refine (rtimes_is HY.out HX.out (HB.out.ext HE3.out) (by omega)).mono ?_
      rintro e w4 ⟨⟨y2, rfl, hy2⟩, hE⟩
      have HE4 := Lib.hid (HE3.out.trans hE); have HO4 := Lib.hid (own_stab3 hE HO3.out); have HY2 := Lib.hid hy2; clear hE HO3 HE3 hc2 hba2 hy2
      by_cases hz1 : z = 1
      case neg =>
        have q1 : ((z : Int) == 1) = false := by simp; omega
        have hs3 := HSN.out; rw [if_neg (fun h => hz1 h.1)] at hs3
        have HS3 := Lib.hid hs3; clear hs3 hz1
        go_wp2_with fail
        go_roundw
        case rel => exact ⟨k + 1, by omega, by go_num, by rw [HS3.out]; exact HO4.out, HE4.out⟩
        case measure => simp [intOf]; omega
      subst hz1
      by_cases hy1 : y = 1
      case neg =>
        have q1 : ((y : Int) == 1) = false := by simp; omega
        have hs3 := HSN.out; rw [if_neg (fun h => hy1 h.2)] at hs3
        have HS3 := Lib.hid hs3; clear hs3 hy1
        go_wp2_with fail
        go_roundw
        case rel => exact ⟨k + 1, by omega, by go_num, by rw [HS3.out]; exact HO4.out, HE4.out⟩
        case measure => simp [intOf]; omega
      subst hy1
      obtain rfl : y2 = x := HY2.out (by omega)
      have hs3 := HSN.out; rw [if_pos ⟨rfl, rfl⟩] at hs3
      have HS3 := Lib.hid hs3; clear hs3
      go_wp2_with (at_builtin; refine wpList_append_size2 rfl (.tmp 42) (.tmp 46) 25 rfl w.heap.size 32 inf _ 3 24 underM' I1.out I2.out I3.out I4.out rfl (by decide) u5 (uniqP a b k).length _ (some ⟨w4.heap.size, 0, none⟩) 1 1 (Mt.cells ⟨k, x, 1⟩) rfl (by simp [Act.eval]) rfl (by simp [Mt.cells, Value.oneCell']) (by simp only [maxLen]; omega) (by omega) (own_stab3 ((Ext.refl w4).alloc _) HO4.out) (Cells.new w4 _ _ rfl) (by have := HE4.out.size; simp; omega) ?_; intro v' w5 hown hg hbk)
      go_roundw
      case rel =>
        have hx : Ext w4 (w4.alloc (.cells (Mt.cells ⟨k, x, 1⟩).toArray 32)) := (Ext.refl w4).alloc _
        refine ⟨k + 1, by omega, by go_num, ?_, (HE4.out.trans hx).own3 (own_stab3 hx HO4.out) hg⟩
        rw [HS3.out, List.length_append, List.flatMap_append]
        simpa using hown
      case measure => simp [intOf]; omega

/-- What is asked of a law: it returns true, and nothing old has turned. -/
def Good (w : World) (e : Ending) (w' : World) : Prop := e = .returned (.bool true) ∧ Ext w w'

set_option maxRecDepth 100000 in
set_option maxHeartbeats 8000000 in
theorem unique_walk {A : Option Addr} {n c : Nat} {a : Lns} {B : Option Addr} {m d : Nat} {b : Lns} (w : World) (ha : Strs w A n a) (hac : n ≤ c) (han : n ≤ Reach) (hb : Strs w B m b) (hbc : m ≤ d) (hbn : m ≤ Reach) :
    Calls Try.prog 3 #[.slice A n c, .slice B m d] w (Good w) := by
  obtain rfl : a.length = n := ha.1
  obtain rfl : b.length = m := hb.1
  have HA := Lib.hid ha; have HB := Lib.hid hb; clear ha hb
  go_enter Try.func3, Try.ntmps3
  go_wp2_with fail
  refine (great_any A B a.length c b.length d a b _ HA.out HB.out han hbn).mono ?_
  rintro e w1 ⟨rfl, hE⟩
  have HE := Lib.hid hE; clear hE
  cases hg : (great04 a || great04 b) with
  | true =>
    go_wp2_with fail
    refine (awake_any _).mono ?_
    rintro e w9 ⟨rfl, hE⟩
    have HE9 := Lib.hid (HE.out.trans hE); clear hE
    go_wp2_with fail
    go_ret
    exact ⟨rfl, HE9.out⟩
  | false =>
    have hg2 : great04 a = false ∧ great04 b = false := by simpa using hg
    have h1 := great04_len hg2.1
    have h2 := great04_len hg2.2
    clear hg hg2
    go_wp2_with fail
    refine (unique_is A B a.length c b.length d a b _ (HA.out.ext HE.out) (HB.out.ext HE.out) (by omega) (by omega)).mono ?_
    rintro e w2 ⟨C1, k1, rfl, hM, hE⟩
    have HE2 := Lib.hid (HE.out.trans hE); have HM := Lib.hid hM; clear hE hM
    go_wp2_with fail
    refine (runique_any A B a.length c b.length d a b _ (HA.out.ext HE2.out) (HB.out.ext HE2.out) (by omega) (by omega)).mono ?_
    rintro e w3 ⟨v, rfl, ho, hE⟩
    obtain ⟨C2, k2, rfl, _, hM2⟩ := ownM_mts ho ((uniq_bnd a b 500 (by omega) (by omega) _ (Nat.le_refl _)).wf (by omega))
    have hul := uniqP_len a b a.length
    have HE3 := Lib.hid (HE2.out.trans hE); have HM2 := Lib.hid hM2; have HM1 := Lib.hid (HM.out.ext hE); clear ho hE hM2
    go_wp2_with fail
    refine (sameM_is (r := true) (by simp) HM1.out HM2.out (by unfold uniqV Reach; omega) (by unfold uniqV Reach; omega)).mono ?_
    rintro e w4 ⟨rfl, hE⟩
    have HE4 := Lib.hid (HE3.out.trans hE); clear hE
    go_wp2_with fail
    refine (awake_any _).mono ?_
    rintro e w9 ⟨rfl, hE⟩
    have HE9 := Lib.hid (HE4.out.trans hE); clear hE
    go_wp2_with fail
    go_ret
    exact ⟨rfl, HE9.out⟩
end Go.Proofs.Ytmmhbnlafcmloaa

/- PatienceOnce: the law's count, plain laws, the walk. -/
import Derived.Test.YtmmhbnlafcmloaaPaRUniq
import Derived.Test.YtmmhbnlafcmloaaPaValP
namespace Go.Proofs.Ytmmhbnlafcmloaa
open Go.RowKit

set_option maxHeartbeats 4000000 in
theorem ltimes_any (A : Option Addr) (n c : Nat) (l : Lns) (s : ByteArray) (w : World) (ha : Strs w A n l) (hn : n ≤ 1000) :
    Calls Try.prog 20 #[.slice A n c, .string s] w fun e w' => e = .returned (.int .i64 (cnt l s)) ∧ Ext w w' := by
  obtain rfl : l.length = n := ha.1
  have HA := Lib.hid ha; clear ha
  go_enter Try.func20, Try.ntmps20
  go_wp2_with fail
  go_loopw [5, 10] (fun v5 v10 wr => ∃ k x : Nat, k ≤ l.length ∧ x ≤ k ∧ v5 = .int .i64 x ∧ v10 = .int .i64 k ∧ cnt (l.take k) s = x ∧ Ext w wr) (fun _ v10 _ => l.length - (intOf v10).toNat)
  case atStart => exact ⟨0, 0, Nat.zero_le _, Nat.le_refl _, rfl, rfl, rfl, Ext.refl _⟩
  case round =>
    obtain ⟨k, x, hk, hx, rfl, rfl, hc, hE⟩ := hrel
    have HE := Lib.hid hE; have HC := Lib.hid hc; clear hE hc
    by_cases hlt : k < l.length
    case neg =>
      go_wp2_with fail
      go_ret
      exact ⟨ret_int (by rw [← HC.out, List.take_of_length_le (by omega)]), HE.out⟩
    obtain ⟨ba, oa, t, rfl, hba, ht, ht2, hc1⟩ := (HA.out.ext HE.out).get hlt
    have HT := Lib.hid (cnt_take (s := s) ht); clear ht
    by_cases hst : t = s
    · subst hst
      go_wp2_with fail
      go_roundw
      case rel => exact ⟨k + 1, x + 1, by omega, by omega, by go_num, by go_num, by rw [HT.out, HC.out, if_pos rfl], HE.out⟩
      case measure => simp [intOf]; omega
    · have hne := ne_list hst
      have HN := Lib.hid hst; clear hst
      go_wp2_with fail
      go_roundw
      case rel => exact ⟨k + 1, x, by omega, by omega, by go_num, by go_num, by rw [HT.out, HC.out, if_neg HN.out]; rfl, HE.out⟩
      case measure => simp [intOf]; omega
theorem ltimes_is {A : Option Addr} {n c : Nat} {l : Lns} {s : ByteArray} {w : World} {z : Nat} (hz : cnt l s = z) (ha : Strs w A n l) (hn : n ≤ 1000) :
    Calls Try.prog 20 #[.slice A n c, .string s] w fun e w' => e = .returned (.int .i64 z) ∧ Ext w w' := by
  subst hz; exact ltimes_any A n c l s w ha hn

theorem uniqP_pre (a b : Lns) : ∀ (d k : Nat), uniqP a b k <+: uniqP a b (k + d)
  | 0, k => List.prefix_refl _
  | d + 1, k => by
    refine (uniqP_pre a b d k).trans ?_
    rw [show k + (d + 1) = k + d + 1 by omega, uniqP]
    split
    · exact List.prefix_refl _
    · split
      · exact List.prefix_append _ _
      · exact List.prefix_refl _
theorem uniq_at {a : Lns} (b : Lns) {k : Nat} {s : ByteArray} (h : a[k]? = some s) (h1 : cnt a s = 1) (h2 : cnt b s = 1) : (uniqV a b)[(uniqP a b k).length]? = some ⟨(k : Int), (whV b s : Int), 1⟩ := by
  have hk := (List.getElem?_eq_some_iff.1 h).1
  have hp := uniqP_pre a b (a.length - (k + 1)) (k + 1)
  rw [show k + 1 + (a.length - (k + 1)) = a.length by omega, uniqP_succ b h, if_pos ⟨h1, h2⟩] at hp
  obtain ⟨r, hr⟩ := hp
  unfold uniqV
  rw [← hr, List.getElem?_append_left (by simp), List.getElem?_append_right (Nat.le_refl _), Nat.sub_self]
  rfl
set_option maxRecDepth 100000 in
set_option maxHeartbeats 8000000 in
theorem once_walk {A : Option Addr} {n c : Nat} {a : Lns} {B : Option Addr} {m d : Nat} {b : Lns} (w : World) (ha : Strs w A n a) (hac : n ≤ c) (han : n ≤ Reach) (hb : Strs w B m b) (hbc : m ≤ d) (hbn : m ≤ Reach) :
    Calls Try.prog 6 #[.slice A n c, .slice B m d] w (Good w) := by
  obtain rfl : a.length = n := ha.1
  obtain rfl : b.length = m := hb.1
  have HA := Lib.hid ha; have HB := Lib.hid hb; clear ha hb
  go_enter Try.func6, Try.ntmps6
  go_wp2_with fail
  refine (great_any A B a.length c b.length d a b _ HA.out HB.out han hbn).mono ?_
  rintro e w1 ⟨rfl, hE⟩
  have HE := Lib.hid hE; clear hE
  cases hg : (great04 a || great04 b) with
  | true =>
    go_wp2_with fail
    refine (awake_any _).mono ?_
    rintro e w9 ⟨rfl, hE⟩
    have HE9 := Lib.hid (HE.out.trans hE); clear hE
    go_wp2_with fail
    go_ret
    exact ⟨rfl, HE9.out⟩
  | false =>
    have hg2 : great04 a = false ∧ great04 b = false := by simpa using hg
    have h1 := great04_len hg2.1
    have h2 := great04_len hg2.2
    clear hg hg2
    obtain ⟨U, hU⟩ : ∃ U, uniqV a b = U := ⟨_, rfl⟩
    have hul : U.length ≤ a.length := by rw [← hU]; exact uniqP_len a b a.length
    have HU := Lib.hid hU; clear hU
    go_wp2_with fail
    refine (unique_is A B a.length c b.length d a b _ (HA.out.ext HE.out) (HB.out.ext HE.out) (by omega) (by omega)).mono ?_
    rintro e w2 ⟨C1, k1, rfl, hM, hE⟩
    rw [HU.out] at hM ⊢
    have HE2 := Lib.hid (HE.out.trans hE); have HM := Lib.hid hM; clear hE hM
    go_wp2_with fail
    go_loopw [6, 18] (fun v6 v18 wr => ∃ k : Nat, k ≤ a.length ∧ v6 = .int .i64 ((uniqP a b k).length : Nat) ∧ v18 = .int .i64 k ∧ Ext w2 wr) (fun _ v18 _ => a.length - (intOf v18).toNat)
    case atStart => exact ⟨0, Nat.zero_le _, rfl, rfl, Ext.refl _⟩
    case round =>
      obtain ⟨k, hk, rfl, rfl, hE⟩ := hrel
      have HEr := Lib.hid hE; clear hE
      obtain ⟨at', hat⟩ : ∃ at', (uniqP a b k).length = at' := ⟨_, rfl⟩
      have hatl : at' ≤ k := by rw [← hat]; exact uniqP_len a b k
      rw [hat]
      have HAT := Lib.hid hat; clear hat
      by_cases hlt : k < a.length
      case neg =>
        obtain rfl : k = a.length := by omega
        have hU : at' = U.length := by rw [← HAT.out, ← HU.out]; rfl
        subst hU
        go_wp2_with fail
        refine (awake_any _).mono ?_
        rintro e w9 ⟨rfl, hE⟩
        have HE9 := Lib.hid ((HE2.out.trans HEr.out).trans hE); clear hE
        go_wp2_with fail
        go_ret
        exact ⟨rfl, HE9.out⟩
      case pos =>
        obtain ⟨ba, oa, s, hA, hba, hs, hs2, hc1⟩ := (HA.out.ext (HE2.out.trans HEr.out)).get hlt
        subst hA
        obtain ⟨z, hz⟩ : ∃ z, cnt a s = z := ⟨_, rfl⟩
        obtain ⟨y, hy⟩ : ∃ y, cnt b s = y := ⟨_, rfl⟩
        obtain ⟨x, hx⟩ : ∃ x, whV b s = x := ⟨_, rfl⟩
        have hsn := uniqP_succ b hs
        rw [hz, hy, hx] at hsn
        have hyes : z = 1 → y = 1 → U[at']? = some ⟨(k : Int), (x : Int), 1⟩ ∧ x < b.length ∧ b[x]? = some s := fun e1 e2 => by
          have h8 := uniq_at b hs (by rw [hz]; exact e1) (by rw [hy]; exact e2)
          rw [HU.out, HAT.out, hx] at h8
          have h9 := wh_get b s b.length (Nat.le_refl _) (by rw [List.take_length]; omega)
          change b[whV b s]? = some s at h9
          rw [hx] at h9
          exact ⟨h8, (List.getElem?_eq_some_iff.1 h9).1, h9⟩
        have HSN := Lib.hid hsn; have HZ := Lib.hid hz; have HY := Lib.hid hy; have HYES := Lib.hid hyes
        clear hsn hz hy hx hs hyes
        go_wp2_with fail
        refine (ltimes_is HZ.out (HA.out.ext (HE2.out.trans HEr.out)) (by omega)).mono ?_
        rintro e w3 ⟨rfl, hE⟩
        have HE3 := Lib.hid (HEr.out.trans hE); clear hE hc1 hba
        by_cases hz1 : z = 1
        case neg =>
          have q1 : ((z : Int) != 1) = true := by simp; omega
          have hs3 := HSN.out; rw [if_neg (fun h => hz1 h.1)] at hs3
          have HS3 := Lib.hid hs3; clear hs3 hz1
          go_wp2_with fail
          go_roundw
          case rel => exact ⟨k + 1, by omega, by rw [HS3.out, HAT.out], by go_num, HE3.out⟩
          case measure => simp [intOf]; omega
        subst hz1
        go_wp2_with fail
        refine (ltimes_is HY.out (HB.out.ext (HE2.out.trans HE3.out)) (by omega)).mono ?_
        rintro e w4 ⟨rfl, hE⟩
        have HE4 := Lib.hid (HE3.out.trans hE); clear hE HE3
        by_cases hy1 : y = 1
        case neg =>
          have q1 : ((y : Int) != 1) = true := by simp; omega
          have hs3 := HSN.out; rw [if_neg (fun h => hy1 h.2)] at hs3
          have HS3 := Lib.hid hs3; clear hs3 hy1
          go_wp2_with fail
          go_roundw
          case rel => exact ⟨k + 1, by omega, by rw [HS3.out, HAT.out], by go_num, HE4.out⟩
          case measure => simp [intOf]; omega
        subst hy1
        obtain ⟨hu1, hu2, hu3⟩ := HYES.out (by simp) (by simp)
        have hal : at' < U.length := (List.getElem?_eq_some_iff.1 hu1).1
        have hs3 := HSN.out; simp only [and_self, if_true, eq_self_iff_true] at hs3
        have hs4 : (uniqP a b (k + 1)).length = at' + 1 := by rw [hs3, List.length_append, HAT.out]; rfl
        obtain ⟨bc, oc, mt, hC, hbc2, hmt, -, d0, d1, d2⟩ := (HM.out.ext HE4.out).get hal
        rw [hu1] at hmt; cases hmt
        subst hC
        obtain ⟨bb, ob, t, hB, hbb, ht, ht2, hc2⟩ := (HB.out.ext (HE2.out.trans HE4.out)).get hu2
        rw [hu3] at ht; cases ht
        subst hB
        dsimp only at d0 d1 d2
        have HS4 := Lib.hid hs4; clear hs3 hs4 hu1 hu3
        go_wp2_with fail
        go_roundw
        case rel => exact ⟨k + 1, by omega, by rw [HS4.out]; go_num, by go_num, HE4.out⟩
        case measure => simp [intOf]; omega
end Go.Proofs.Ytmmhbnlafcmloaa

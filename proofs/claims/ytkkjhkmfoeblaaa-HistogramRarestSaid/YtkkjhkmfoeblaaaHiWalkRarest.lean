/- HistogramRarest: the walk. -/
import Derived.Test.YtkkjhkmfoeblaaaHiWalk
namespace Go.Proofs.Ytkkjhkmfoeblaaa
open Go.RowKit

set_option maxRecDepth 100000 in
set_option maxHeartbeats 8000000 in
theorem rarest_walk {A : Option Addr} {n c : Nat} {a : Lns} {B : Option Addr} {m d : Nat} {b : Lns} (w : World) (ha : Strs w A n a) (hac : n ≤ c) (han : n ≤ Reach) (hb : Strs w B m b) (hbc : m ≤ d) (hbn : m ≤ Reach) :
    Calls Try.prog 7 #[.slice A n c, .slice B m d] w (Good w) := by
  obtain rfl : a.length = n := ha.1
  obtain rfl : b.length = m := hb.1
  have HA := Lib.hid ha; have HB := Lib.hid hb; clear ha hb
  have HG := Lib.hid (rss2 (c := c) (d := d) HA.out han HB.out hbn)
  by_cases hg : ([(⟨A, a.length, c, a⟩ : SS), ⟨B, b.length, d, b⟩].any fun s => great03 s.l) = true
  · have HGR := Lib.hid hg; clear hg
    go_enter Try.func7, Try.ntmps7
    go_wp2_with fail
    refine (great_new (L := [(⟨A, a.length, c, a⟩ : SS), ⟨B, b.length, d, b⟩]) rfl HGR.out HG.out (by simp)).mono ?_
    rintro e w1 ⟨rfl, hE⟩
    have HE := Lib.hid hE; clear hE
    go_wp2_with fail
    refine (awake_any _).mono ?_
    rintro e w9 ⟨rfl, hE⟩
    have HE9 := Lib.hid (HE.out.trans hE); clear hE
    go_wp2_with fail
    go_ret
    exact ⟨rfl, HE9.out⟩
  have hg' : ([(⟨A, a.length, c, a⟩ : SS), ⟨B, b.length, d, b⟩].any fun s => great03 s.l) = false := by simpa using hg
  have h1 : a.length ≤ 12 := great03_len (by simp at hg'; exact hg'.1)
  have h2 : b.length ≤ 12 := great03_len (by simp at hg'; exact hg'.2)
  have HGR := Lib.hid hg'; clear hg hg'
  obtain ⟨⟨⟨p, q, ll⟩, r⟩, hV⟩ : ∃ V : Mt × Nat, bestV a b = V := ⟨_, rfl⟩
  have hno : ¬ r ≤ 64 → rarP a b a.length = 0 := fun h => rar_none (by omega) (by rw [hV]; exact h)
  have hyes : r ≤ 64 → ∃ i k l : Nat, p = i ∧ q = k ∧ ll = l ∧ checkV a b (-1) (-1) [⟨i, k, l⟩] = 0 ∧ i + l ≤ a.length ∧ k + l ≤ b.length ∧ rarV a i l = r ∧ rarP a b a.length = r := fun h => by
    have h64 : (bestV a b).2 ≤ 64 := by rw [hV]; exact h
    obtain ⟨i, k, l, ⟨h3, h4, h5, h6, h7, h8⟩, _⟩ := best_some (b := b) (by omega : a.length ≤ 64) h64
    obtain ⟨p1, p2, _, _⟩ := runN_spec (a := a) (b := b) (i := i) (k := k) (by omega) (by omega)
    have hr := rar_best (b := b) (by omega : a.length ≤ 64) h64
    rw [hV] at h3 h8 hr
    injection h3 with g1 g2 g3
    exact ⟨i, k, l, g1, g2, g3, check_best h4 h5 h6 h7, by omega, by omega, h8, hr⟩
  have HV := Lib.hid hV; have HNO := Lib.hid hno; have HYES := Lib.hid hyes; clear hV hno hyes
  go_enter Try.func7, Try.ntmps7
  go_wp2_with fail
  refine (great_new (L := [(⟨A, a.length, c, a⟩ : SS), ⟨B, b.length, d, b⟩]) rfl HGR.out HG.out (by simp)).mono ?_
  rintro e w1 ⟨rfl, hE⟩
  have HE := Lib.hid hE; clear hE
  go_wp2_with fail
  refine (best_any A B a.length c b.length d a b _ (HA.out.ext HE.out) (HB.out.ext HE.out) (by omega) (by omega) hac).mono ?_
  rintro e w2 ⟨rfl, hE⟩
  have HE2 := Lib.hid (HE.out.trans hE); clear hE
  rw [HV.out, bestR, Mt.val]
  dsimp only
  obtain ⟨ok, hok⟩ : ∃ ok, decide (r ≤ 64) = ok := ⟨_, rfl⟩
  rw [hok]
  have HOK := Lib.hid hok; clear hok
  go_wp2_with fail
  obtain ⟨g5, hg5⟩ : ∃ g5, g5 = w2.heap.size := ⟨_, rfl⟩
  have hb2 : Blk (w2.alloc (Mt.obj ⟨p, q, ll⟩)) g5 (Mt.obj ⟨p, q, ll⟩) := by rw [hg5]; exact Blk.new w2 _ rfl
  rw [← hg5]
  have HB2 := Lib.hid hb2; clear hb2 hg5
  go_loopw [7, 24] (fun v7 v24 wr => ∃ k x : Nat, k ≤ a.length ∧ x ≤ 1000 ∧ v7 = .int .i64 x ∧ v24 = .int .i64 k ∧ rarP a b k = x ∧ Blk wr g5 (Mt.obj ⟨p, q, ll⟩) ∧ Ext w wr) (fun _ v24 _ => a.length - (intOf v24).toNat)
  case atStart => exact ⟨0, 0, Nat.zero_le _, by omega, rfl, rfl, rfl, HB2.out, HE2.out.alloc _⟩
  clear HB2
  case round =>
    obtain ⟨k, x, hk, hx, rfl, rfl, hr, hb, hE⟩ := hrel
    have HR := Lib.hid hr; have HBr := Lib.hid hb; have HEr := Lib.hid hE; clear hr hb hE
    by_cases hlt : k < a.length
    case pos =>
      obtain ⟨ba, oa, s, hA, hba, hs, hs2, hc1⟩ := (HA.out.ext HEr.out).get hlt
      subst hA
      have hsn := rarP_succ b hs
      obtain ⟨z, hz⟩ : ∃ z, cnt a s = z := ⟨_, rfl⟩
      have hz2 : z ≤ 1000 := by have := cnt_le a s; omega
      rw [hz, HR.out] at hsn
      have HZ := Lib.hid hz; have HSN := Lib.hid hsn; clear hz hsn hs
      go_wp2_with fail
      refine (count_is HZ.out (HA.out.ext HEr.out) (by omega)).mono ?_
      rintro e w3 ⟨rfl, hE⟩
      have HB3 := Lib.hid (HBr.out.ext hE); have HE3 := Lib.hid (HEr.out.trans hE); clear hE hc1 hba
      go_wp2_with fail
      refine (contains_any B b.length d b s _ (HB.out.ext HE3.out) (by omega)).mono ?_
      rintro e w4 ⟨rfl, hE⟩
      have HB4 := Lib.hid (HB3.out.ext hE); have HE4 := Lib.hid (HE3.out.trans hE); clear hE
      by_cases hcb : 0 < cnt b s
      case neg =>
        rw [nd hcb]
        have hs1 := HSN.out
        rw [if_neg (fun h => hcb h.1)] at hs1
        have HS1 := Lib.hid hs1; clear hs1 hcb
        go_wp2_with fail
        go_roundw
        case rel => exact ⟨k + 1, x, by omega, hx, rfl, by go_num, HS1.out, HB4.out, HE4.out⟩
        case measure => simp [intOf]; omega
      rw [yd hcb]
      have hq : (((x : Int) == 0) = true ∧ rarP a b (k + 1) = z) ∨ (((x : Int) == 0) = false ∧ decide (z < x) = true ∧ rarP a b (k + 1) = z) ∨ (((x : Int) == 0) = false ∧ decide (z < x) = false ∧ rarP a b (k + 1) = x) := by
        have hs1 := HSN.out
        by_cases hx0 : x = 0
        · rw [if_pos ⟨hcb, .inl hx0⟩] at hs1
          exact .inl ⟨by simp [hx0], hs1⟩
        · by_cases hzx : z < x
          · rw [if_pos ⟨hcb, .inr hzx⟩] at hs1
            exact .inr (.inl ⟨by simp; omega, by simp; omega, hs1⟩)
          · rw [if_neg (fun h => h.2.elim hx0 hzx)] at hs1
            exact .inr (.inr ⟨by simp; omega, by simp; omega, hs1⟩)
      clear hcb
      rcases hq with ⟨q1, hs1⟩ | ⟨q1, q2, hs1⟩ | ⟨q1, q2, hs1⟩
      case' inl => have HS1 := Lib.hid hs1; clear hs1
      case' inr.inl => have HS1 := Lib.hid hs1; clear hs1
      case' inr.inr => have HS1 := Lib.hid hs1; clear hs1
      all_goals
        go_wp2_with fail
        go_roundw
        case rel => exact ⟨k + 1, _, by omega, by omega, rfl, by go_num, HS1.out, HB4.out, HE4.out⟩
        case measure => simp [intOf]; omega
    case neg =>
      obtain rfl : k = a.length := by omega
      cases ok with
      | false =>
        have hx0 := HNO.out (by have := HOK.out; simpa using this)
        rw [HR.out] at hx0
        subst hx0
        go_wp2_with fail
        refine (awake_any _).mono ?_
        rintro e w9 ⟨rfl, hE⟩
        have HE9 := Lib.hid (HEr.out.trans hE); clear hE
        go_wp2_with fail
        go_ret
        exact ⟨rfl, HE9.out⟩
      | true =>
        obtain ⟨i, kk, l, rfl, rfl, rfl, h5, h6, h7, h8, h9⟩ := HYES.out (by have := HOK.out; simpa using this)
        obtain rfl : x = r := by rw [← HR.out, h9]
        have hwf : ∀ m ∈ [(⟨i, kk, l⟩ : Mt)], m.wf := fun m hm => by
          simp only [List.mem_cons, List.not_mem_nil, or_false] at hm
          subst hm
          exact mt_wf_small (by omega) (by omega) (by omega)
        have HWF := Lib.hid hwf; have HCK := Lib.hid h5; have H8 := Lib.hid h8
        clear hwf h5 h8 h9
        obtain ⟨c0, c1, c2⟩ := HBr.out.cells3
        go_wp2_with fail
        refine (refCheck_is HCK.out (HA.out.ext (HEr.out.alloc _)) (HB.out.ext (HEr.out.alloc _)) (Mts.of_blk (ms := [⟨i, kk, l⟩]) (Blk.new wr _ rfl) HWF.out) (by omega) (by omega) (by simp)).mono ?_
        rintro e w5 ⟨rfl, hE⟩
        have HB5 := Lib.hid ((HBr.out.alloc _).ext hE); have HE5 := Lib.hid ((HEr.out.alloc _).trans hE); clear hE c0 c1 c2
        obtain ⟨c0, c1, c2⟩ := HB5.out.cells3
        go_wp2_with fail
        refine (rarity_is H8.out (HA.out.ext HE5.out) (by omega) h6).mono ?_
        rintro e w6 ⟨rfl, hE⟩
        have HE6 := Lib.hid (HE5.out.trans hE); clear hE c0 c1 c2
        go_wp2_with fail
        refine (awake_any _).mono ?_
        rintro e w9 ⟨rfl, hE⟩
        have HE9 := Lib.hid (HE6.out.trans hE); clear hE
        go_wp2_with fail
        go_ret
        exact ⟨rfl, HE9.out⟩
end Go.Proofs.Ytkkjhkmfoeblaaa

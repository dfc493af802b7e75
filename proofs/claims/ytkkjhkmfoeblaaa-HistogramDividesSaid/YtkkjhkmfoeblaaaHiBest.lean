/- Contract of the reference: Best. -/
import Derived.Test.YtkkjhkmfoeblaaaHiRun
namespace Go.Proofs.Ytkkjhkmfoeblaaa
open Go.RowKit

theorem bstep_zero {a b : Lns} {s : Mt × Nat} {i k : Nat} (h : runN a b i k = 0) : bstep a b s i k = s := by unfold bstep; rw [if_pos h]
theorem bstep_yes {a b : Lns} {s : Mt × Nat} {i k l n : Nat} (h : runN a b i k = l) (h0 : l ≠ 0) (hn : rarV a i l = n) (hc : n < s.2 ∨ (n = s.2 ∧ s.1.n < l ∧ n ≤ 64)) : bstep a b s i k = (⟨i, k, l⟩, n) := by
  subst h; subst hn; unfold bstep; rw [if_neg h0, if_pos hc]
theorem bstep_no {a b : Lns} {s : Mt × Nat} {i k l n : Nat} (h : runN a b i k = l) (h0 : l ≠ 0) (hn : rarV a i l = n) (hc : ¬ (n < s.2 ∨ (n = s.2 ∧ s.1.n < l ∧ n ≤ 64))) : bstep a b s i k = s := by
  subst h; subst hn; unfold bstep; rw [if_neg h0, if_neg hc]
theorem run_is {A B : Option Addr} {n c m d : Nat} {a b : Lns} {i k l : Nat} {w : World} (h : runN a b i k = l) (ha : Strs w A n a) (hb : Strs w B m b) (hn : n ≤ 1000) (hm : m ≤ 1000) (hi : i ≤ n) (hk : k ≤ m) :
    Calls Try.prog 28 #[.slice A n c, .slice B m d, .int .i64 i, .int .i64 k] w fun e w' => e = .returned (.agg #[.int .i64 i, .int .i64 k, .int .i64 l]) ∧ Ext w w' := by
  subst h; exact run_any A B n c m d a b i k w ha hb hn hm hi hk
theorem rarity_is {A : Option Addr} {n c : Nat} {a : Lns} {i l r : Nat} {y : Int} {w : World} (h : rarV a i l = r) (ha : Strs w A n a) (hn : n ≤ 1000) (hl : i + l ≤ n) :
    Calls Try.prog 21 #[.slice A n c, .agg #[.int .i64 i, .int .i64 y, .int .i64 l]] w fun e w' => e = .returned (.int .i64 r) ∧ Ext w w' := by
  subst h; exact rarity_any A n c a i l y w ha hn hl

/-- What Best returns. -/
def bestR (s : Mt × Nat) : Value := .tuple #[s.1.val, .bool (decide (s.2 ≤ 64))]

set_option maxRecDepth 100000 in
set_option maxHeartbeats 8000000 in
theorem rbest_any (A B : Option Addr) (n c m d : Nat) (a b : Lns) (w : World) (ha : Strs w A n a) (hb : Strs w B m b) (hn : n ≤ 1000) (hm : m ≤ 1000) :
    Calls Try.prog 13 #[.slice A n c, .slice B m d] w fun e w' => e = .returned (bestR (bestV a b)) ∧ Ext w w' := by
  obtain rfl : a.length = n := ha.1
  obtain rfl : b.length = m := hb.1
  have HA := Lib.hid ha; have HB := Lib.hid hb; clear ha hb
  go_enter Try.func13, Try.ntmps13
  go_wp2_with fail
  obtain ⟨w1, hw1, hb4, hb6, hE1⟩ : ∃ w1, w1 = ((w.alloc (Mt.obj ⟨0, 0, 0⟩)).alloc (Mt.obj ⟨0, 0, 0⟩)) ∧ Blk w1 w.heap.size (Mt.obj ⟨0, 0, 0⟩) ∧ Blk w1 (w.heap.size + 1) (Mt.obj ⟨0, 0, 0⟩) ∧ Ext w w1 :=
    ⟨_, rfl, ((Blk.new w _ rfl).alloc _), Blk.new (w.alloc _) _ (by simp), (((Ext.refl w).alloc _).alloc _)⟩
  rw [← hw1]
  have HB4 := Lib.hid hb4; have HB6 := Lib.hid hb6; have HE1 := Lib.hid hE1; clear hw1 hb4 hb6 hE1
  go_loopw [7, 8] (fun v7 v8 wr => ∃ (i : Nat) (s : Mt × Nat), i ≤ a.length ∧ s.2 ≤ 1000 ∧ v7 = .int .i64 s.2 ∧ v8 = .int .i64 i ∧ bestP a b i = s ∧ Blk wr w.heap.size (Mt.obj ⟨0, 0, 0⟩) ∧ Blk wr (w.heap.size + 1) s.1.obj ∧ Ext w wr) (fun _ v8 _ => a.length - (intOf v8).toNat)
  case atStart => exact ⟨0, (⟨0, 0, 0⟩, 65), Nat.zero_le _, by decide, rfl, rfl, rfl, HB4.out, HB6.out, HE1.out⟩
  case round =>
    obtain ⟨i, ⟨M, r⟩, hi, hr, rfl, rfl, hs, hb4, hb6, hE⟩ := hrel
    have HS := Lib.hid hs; have HE := Lib.hid hE; have HB4 := Lib.hid hb4; have HB6 := Lib.hid hb6; clear hs hE hb4 hb6
    by_cases hlt : i < a.length
    case neg =>
      obtain rfl : i = a.length := by omega
      obtain ⟨c0, c1, c2⟩ := HB6.out.cells3
      obtain ⟨p0, p1, p2⟩ := HB4.out.cells3
      obtain ⟨r0, r1, r2⟩ := HB4.out.free3
      go_wp2_with fail
      refine bodyPost_ret (v := .tuple #[M.val, .bool (decide ((r : Int) ≤ 64))]) ?_ rfl ⟨?_, HE.out.set3 (Nat.le_refl _) _ _ _⟩
      · simp [results, Try.results13, go_sem, Mt.val, p0, p1, p2]
      · have h1 : bestV a b = (M, r) := HS.out
        rw [h1, bestR, show decide ((r : Int) ≤ 64) = decide (r ≤ 64) by rw [Bool.eq_iff_iff]; simp only [decide_eq_true_eq]; omega]
    go_wp2_with fail
    go_loopw [7, 9] (fun v7 v9 wr => ∃ (k : Nat) (s : Mt × Nat), k ≤ b.length ∧ s.2 ≤ 1000 ∧ v7 = .int .i64 s.2 ∧ v9 = .int .i64 k ∧ browP a b (bestP a b i) i k = s ∧ Blk wr w.heap.size (Mt.obj ⟨0, 0, 0⟩) ∧ Blk wr (w.heap.size + 1) s.1.obj ∧ Ext w wr) (fun _ v9 _ => b.length - (intOf v9).toNat)
    case atStart => exact ⟨0, (M, r), Nat.zero_le _, hr, rfl, rfl, by rw [browP_zero, HS.out], HB4.out, HB6.out, HE.out⟩
    case round =>
      clear hr HS HE HB4 HB6
      obtain ⟨k, ⟨M, r⟩, hk, hr, rfl, rfl, hs, hb4, hb6, hE⟩ := hrel
      dsimp only at hr hb6
      have HS := Lib.hid hs; have HE := Lib.hid hE; have HB4 := Lib.hid hb4; have HB6 := Lib.hid hb6; clear hs hE hb4 hb6
      by_cases hklt : k < b.length
      case neg =>
        obtain rfl : k = b.length := by omega
        go_wp2_with fail
        go_roundw
        case rel => exact ⟨i + 1, (M, r), by omega, hr, rfl, by go_num, by rw [bestP_succ, HS.out], HB4.out, HB6.out, HE.out⟩
        case measure => simp [intOf]; omega
      obtain ⟨l, hl⟩ : ∃ l, runN a b i k = l := ⟨_, rfl⟩
      have hil : i + l ≤ a.length := by have := runN_spec (a := a) (b := b) (i := i) (k := k) (by omega) (by omega); omega
      have HL := Lib.hid hl; clear hl
      go_wp2_with fail
      refine (run_is HL.out (HA.out.ext HE.out) (HB.out.ext HE.out) hn hm (by omega) (by omega)).mono ?_
      rintro e w2 ⟨rfl, hE⟩
      have HB42 := Lib.hid (HB4.out.ext hE); have HB62 := Lib.hid (HB6.out.ext hE); have HE2 := Lib.hid (HE.out.trans hE); clear hE HE HB4 HB6
      by_cases hl0 : l = 0
      · subst hl0
        go_wp2_with fail
        go_roundw
        case rel => exact ⟨k + 1, (M, r), by omega, hr, rfl, by go_num, by rw [browP_succ, HS.out, bstep_zero HL.out], HB42.out.alloc _, HB62.out.alloc _, HE2.out.alloc _⟩
        case measure => simp [intOf]; omega
      have e0 : ((l : Int) == 0) = false := by simp; omega
      obtain ⟨n, hn'⟩ : ∃ n, rarV a i l = n := ⟨_, rfl⟩
      have hn2 : n ≤ 1000 := by have := rarV_le a i l; omega
      have HN := Lib.hid hn'; clear hn'
      go_wp2_with fail
      refine (rarity_is HN.out (HA.out.ext (HE2.out.alloc _)) hn hil).mono ?_
      rintro e w4 ⟨rfl, hE⟩
      have HB10 := Lib.hid ((Blk.new w2 (Mt.obj ⟨i, k, l⟩) rfl).ext hE)
      have HLT := Lib.hid HB62.out.lt
      have HB4 := Lib.hid ((HB42.out.alloc _).ext hE); have HB6 := Lib.hid ((HB62.out.alloc _).ext hE); have HE := Lib.hid ((HE2.out.alloc _).trans hE); clear hE HE2 HB42 HB62
      obtain ⟨d0, d1, d2⟩ := HB10.out.cells3
      obtain ⟨c0, c1, c2⟩ := HB6.out.cells3
      obtain ⟨r0, r1, r2⟩ := HB6.out.free3
      have hbs : ∀ s, bstep a b (M, r) i k = s → browP a b (bestP a b i) i (k + 1) = s := fun s h => by rw [browP_succ, HS.out, h]
      have HBS := Lib.hid hbs; clear hbs
      by_cases hlt2 : n < r
      · have hst := HBS.out _ (bstep_yes (s := (M, r)) HL.out hl0 HN.out (.inl hlt2))
        have HST := Lib.hid hst; clear hst
        go_wp2_with fail
        go_roundw
        case rel => exact ⟨k + 1, (⟨i, k, l⟩, n), by omega, hn2, rfl, by go_num, HST.out, HB4.out.far3 (by omega) _ _ _, HB6.out.set3, HE.out.set3 (by omega) _ _ _⟩
        case measure => simp [intOf]; omega
      have hlt2' := nd hlt2
      by_cases hnr : n = r
      case neg =>
        have e1 : ((n : Int) == r) = false := by simp; omega
        have hst := HBS.out _ (bstep_no (s := (M, r)) HL.out hl0 HN.out (by dsimp only; omega))
        have HST := Lib.hid hst; clear hst
        go_wp2_with fail
        go_roundw
        case rel => exact ⟨k + 1, (M, r), by omega, hr, rfl, by go_num, HST.out, HB4.out, HB6.out, HE.out⟩
        case measure => simp [intOf]; omega
      subst hnr
      have e1 : ((n : Int) == n) = true := by simp
      by_cases hMl : M.n < l
      case neg =>
        have e2 := nd hMl
        have hst := HBS.out _ (bstep_no (s := (M, n)) HL.out hl0 HN.out (by dsimp only; omega))
        have HST := Lib.hid hst; clear hst
        go_wp2_with fail
        go_roundw
        case rel => exact ⟨k + 1, (M, n), by omega, hr, rfl, by go_num, HST.out, HB4.out, HB6.out, HE.out⟩
        case measure => simp [intOf]; omega
      have e2 := yd hMl
      by_cases h64 : n ≤ 64
      case neg =>
        have e3 := nd h64
        have e4 : decide ((n : Int) ≤ 64) = false := nd (by omega)
        have hst := HBS.out _ (bstep_no (s := (M, n)) HL.out hl0 HN.out (by dsimp only; omega))
        have HST := Lib.hid hst; clear hst
        go_wp2_with fail
        go_roundw
        case rel => exact ⟨k + 1, (M, n), by omega, hr, rfl, by go_num, HST.out, HB4.out, HB6.out, HE.out⟩
        case measure => simp [intOf]; omega
      have e3 := yd h64
      have e4 : decide ((n : Int) ≤ 64) = true := yd (by omega)
      have hst := HBS.out _ (bstep_yes (s := (M, n)) HL.out hl0 HN.out (by dsimp only; omega))
      have HST := Lib.hid hst; clear hst
      go_wp2_with fail
      go_roundw
      case rel => exact ⟨k + 1, (⟨i, k, l⟩, n), by omega, hn2, rfl, by go_num, HST.out, HB4.out.far3 (by omega) _ _ _, HB6.out.set3, HE.out.set3 (by omega) _ _ _⟩
      case measure => simp [intOf]; omega
end Go.Proofs.Ytkkjhkmfoeblaaa

/- Contracts of the reference: Count, Rarity, run. -/
import Derived.Test.YtkkjhkmfoeblaaaHiDefs
namespace Go.Proofs.Ytkkjhkmfoeblaaa
open Go.RowKit

theorem cnt_take {a : Lns} {s t : ByteArray} {k : Nat} (h : a[k]? = some t) : cnt (a.take (k + 1)) s = cnt (a.take k) s + (if t = s then 1 else 0) := by
  rw [take_succ_of h, cnt_snoc]
theorem ne_list {s t : ByteArray} (h : s ≠ t) : (s.toList == t.toList) = false := by
  cases e : (s.toList == t.toList) with
  | false => rfl
  | true => exact absurd (toList_inj (by simpa using e)) h

set_option maxHeartbeats 2000000 in
theorem count_any (A : Option Addr) (n c : Nat) (a : Lns) (s : ByteArray) (w : World) (ha : Strs w A n a) (hn : n ≤ 1000) :
    Calls Try.prog 19 #[.slice A n c, .string s] w fun e w' => e = .returned (.int .i64 (cnt a s)) ∧ Ext w w' := by
  obtain rfl : a.length = n := ha.1
  have HA := Lib.hid ha; clear ha
  go_enter Try.func19, Try.ntmps19
  go_wp2_with fail
  go_loopw [5, 6] (fun v5 v6 wr => ∃ k x : Nat, k ≤ a.length ∧ x ≤ k ∧ v5 = .int .i64 x ∧ v6 = .int .i64 k ∧ cnt (a.take k) s = x ∧ Ext w wr) (fun _ v6 _ => a.length - (intOf v6).toNat)
  case atStart => exact ⟨0, 0, Nat.zero_le _, Nat.le_refl _, rfl, rfl, rfl, Ext.refl _⟩
  case round =>
    obtain ⟨k, x, hk, hx, rfl, rfl, hc, hE⟩ := hrel
    have HE := Lib.hid hE; have HC := Lib.hid hc; clear hE hc
    by_cases hlt : k < a.length
    case neg =>
      go_wp2_with fail
      go_ret
      exact ⟨ret_int (by rw [← HC.out, List.take_of_length_le (by omega)]), HE.out⟩
    obtain ⟨ba, oa, t, rfl, hba, ht, ht2, hc1⟩ := (HA.out.ext HE.out).get hlt
    have HT := Lib.hid (cnt_take (s := s) ht); clear ht
    by_cases hst : t = s
    · subst hst
      go_wp2_with fail
      go_roundw
      case rel => exact ⟨k + 1, x + 1, by omega, by omega, by go_num, by go_num, by rw [HT.out, HC.out, if_pos rfl], HE.out⟩
      case measure => simp [intOf]; omega
    · have hne := ne_list hst
      have HN := Lib.hid hst; clear hst
      go_wp2_with fail
      go_roundw
      case rel => exact ⟨k + 1, x, by omega, by omega, by go_num, by go_num, by rw [HT.out, HC.out, if_neg HN.out]; rfl, HE.out⟩
      case measure => simp [intOf]; omega
theorem count_is {A : Option Addr} {n c : Nat} {a : Lns} {s : ByteArray} {w : World} {r : Nat} (h : cnt a s = r) (ha : Strs w A n a) (hn : n ≤ 1000) :
    Calls Try.prog 19 #[.slice A n c, .string s] w fun e w' => e = .returned (.int .i64 r) ∧ Ext w w' := by
  subst h; exact count_any A n c a s w ha hn

theorem rar_snoc {a : Lns} {i k : Nat} {t : ByteArray} (h : a[i + k]? = some t) : rarV a i (k + 1) = if k = 0 then cnt a t else min (rarV a i k) (cnt a t) := by
  unfold rarV
  have h2 : (a.drop i)[k]? = some t := by rw [List.getElem?_drop]; exact h
  rw [take_succ_of h2, List.map_append, List.map_cons, List.map_nil]
  rcases Nat.eq_zero_or_pos k with rfl | h0
  · simp [least]
  · rw [if_neg (by omega), least_snoc]
    intro e
    have hl := congrArg List.length e
    have := (List.getElem?_eq_some_iff.1 h2).1
    simp only [List.length_map, List.length_take, List.length_drop, List.length_nil] at hl
    simp only [List.length_drop] at this
    omega

set_option maxHeartbeats 4000000 in
theorem rarity_any (A : Option Addr) (n c : Nat) (a : Lns) (i l : Nat) (y : Int) (w : World) (ha : Strs w A n a) (hn : n ≤ 1000) (hl : i + l ≤ n) :
    Calls Try.prog 21 #[.slice A n c, .agg #[.int .i64 i, .int .i64 y, .int .i64 l]] w fun e w' => e = .returned (.int .i64 (rarV a i l)) ∧ Ext w w' := by
  obtain rfl : a.length = n := ha.1
  have HA := Lib.hid ha; clear ha
  go_enter Try.func21, Try.ntmps21
  go_wp2_with fail
  obtain ⟨w1, hw1⟩ : ∃ w1, w1 = w.alloc (Mt.obj ⟨i, y, l⟩) := ⟨_, rfl⟩
  have hb1 : Blk w1 w.heap.size (Mt.obj ⟨i, y, l⟩) := by rw [hw1]; exact Blk.new w _ rfl
  have hE1 : Ext w w1 := by rw [hw1]; exact (Ext.refl w).alloc _
  rw [← hw1]
  have HB := Lib.hid hb1; have HE1 := Lib.hid hE1; clear hw1 hb1 hE1
  go_loopw [5, 6] (fun v5 v6 wr => ∃ k x : Nat, k ≤ l ∧ x ≤ 1000 ∧ v5 = .int .i64 x ∧ v6 = .int .i64 k ∧ rarV a i k = x ∧ Ext w1 wr) (fun _ v6 _ => l - (intOf v6).toNat)
  case atStart => exact ⟨0, 0, Nat.zero_le _, by omega, rfl, rfl, by simp [rarV, least], Ext.refl _⟩
  case round =>
    obtain ⟨k, x, hk, hx, rfl, rfl, hr, hE⟩ := hrel
    have HE := Lib.hid hE; have HR := Lib.hid hr; clear hE hr
    obtain ⟨c0, c1, c2⟩ := (HB.out.ext HE.out).cells3
    by_cases hlt : k < l
    case neg =>
      go_wp2_with fail
      go_ret
      obtain rfl : k = l := by omega
      exact ⟨ret_int (by rw [HR.out]), HE1.out.trans HE.out⟩
    obtain ⟨ba, oa, t, rfl, hba, ht, ht2, hc1⟩ := (HA.out.ext (HE1.out.trans HE.out)).get (k := i + k) (by omega)
    have hsn := rar_snoc ht
    obtain ⟨z, hz⟩ : ∃ z, cnt a t = z := ⟨_, rfl⟩
    have hz2 : z ≤ 1000 := by have := cnt_le a t; omega
    rw [hz] at hsn
    have HS := Lib.hid hsn; have HZ := Lib.hid hz; clear ht hsn hz
    have hik : i + k < a.length := by omega
    go_wp2_with fail
    refine (count_is HZ.out (HA.out.ext (HE1.out.trans HE.out)) hn).mono ?_
    rintro e w2 ⟨rfl, hE⟩
    have HE2 := Lib.hid (HE.out.trans hE); clear hE
    clear c0 c1 c2 hc1 hba
    by_cases h0 : k = 0
    · subst h0
      go_wp2_with fail
      go_roundw
      case rel => exact ⟨1, z, by omega, by omega, by go_num, by go_num, by rw [HS.out]; simp, HE2.out⟩
      case measure => simp [intOf]; omega
    have e0 : ((k : Int) == 0) = false := by simp; omega
    by_cases hzx : z < x
    · go_wp2_with fail
      go_roundw
      case rel => exact ⟨k + 1, z, by omega, by omega, by go_num, by go_num, by rw [HS.out, if_neg h0, HR.out]; omega, HE2.out⟩
      case measure => simp [intOf]; omega
    · have e1 := nd hzx
      go_wp2_with fail
      go_roundw
      case rel => exact ⟨k + 1, x, by omega, by omega, by go_num, by go_num, by rw [HS.out, if_neg h0, HR.out]; omega, HE2.out⟩
      case measure => simp [intOf]; omega

/-- The number in a cell. -/
def cellN : Option Value → Nat
  | some v => (intOf v).toNat
  | none => 0

set_option maxRecDepth 100000 in
set_option maxHeartbeats 8000000 in
theorem run_any (A B : Option Addr) (n c m d : Nat) (a b : Lns) (i k : Nat) (w : World) (ha : Strs w A n a) (hb : Strs w B m b) (hn : n ≤ 1000) (hm : m ≤ 1000) (hi : i ≤ n) (hk : k ≤ m) :
    Calls Try.prog 28 #[.slice A n c, .slice B m d, .int .i64 i, .int .i64 k] w fun e w' => e = .returned (Mt.val ⟨i, k, runN a b i k⟩) ∧ Ext w w' := by
  obtain rfl : a.length = n := ha.1
  obtain rfl : b.length = m := hb.1
  have HA := Lib.hid ha; have HB := Lib.hid hb; clear ha hb
  go_enter Try.func28, Try.ntmps28
  cases hm0 : mtB a b ((i : Int) - 1) ((k : Int) - 1) with
  | true =>
    have hlt := mtB_lt hm0
    obtain ⟨i, rfl⟩ : ∃ j, i = j + 1 := ⟨i - 1, by omega⟩
    obtain ⟨k, rfl⟩ : ∃ j, k = j + 1 := ⟨k - 1, by omega⟩
    have hrun : runN a b (i + 1) (k + 1) = 0 := by rw [runN, if_pos hm0]
    obtain ⟨ba, oa, s, rfl, hba, hs, hs2, hc1⟩ := HA.out.get (k := i) (by omega)
    obtain ⟨bb, ob, t, rfl, hbb, ht, ht2, hc2⟩ := HB.out.get (k := k) (by omega)
    rw [show ((i + 1 : Nat) : Int) - 1 = (i : Nat) by omega, show ((k + 1 : Nat) : Int) - 1 = (k : Nat) by omega, mtB_at hs ht] at hm0
    obtain rfl : s = t := by simpa using hm0
    have HR := Lib.hid hrun; clear hrun hs ht hm0 hlt
    go_wp2_with fail
    go_quiet (fail)
    go_wp2_with fail
    refine bodyPost_ret (v := Mt.val ⟨((i + 1 : Nat) : Int), ((k + 1 : Nat) : Int), 0⟩) ?_ rfl ⟨by rw [HR.out]; rfl, ?_⟩
    · simp [results, Try.results28, go_sem, Mt.val]
    · exact ((((Ext.refl w).alloc _).alloc _).drewN _).set3 (Nat.le_refl _) _ _ _
  | false =>
    have hrun : runN a b i k = (folV a b i ((i : Int) - k) - i).toNat := by rw [runN, if_neg (by rw [hm0]; simp)]
    have HR := Lib.hid hrun; clear hrun
    have hq : (i = 0) ∨ (0 < i ∧ k = 0) ∨ (∃ x y s t ba oa bb ob, i = x + 1 ∧ k = y + 1 ∧ A = some ⟨ba, oa, none⟩ ∧ B = some ⟨bb, ob, none⟩ ∧ ba < w.heap.size ∧ bb < w.heap.size ∧ (s.toList == t.toList) = false ∧ s.size ≤ Reach ∧ t.size ≤ Reach ∧ w.cell? ⟨ba, oa + x, none⟩ = some (.string s) ∧ w.cell? ⟨bb, ob + y, none⟩ = some (.string t)) := by
      rcases Nat.eq_zero_or_pos i with h | h
      · exact .inl h
      rcases Nat.eq_zero_or_pos k with h' | h'
      · exact .inr (.inl ⟨h, h'⟩)
      obtain ⟨x, rfl⟩ : ∃ j, i = j + 1 := ⟨i - 1, by omega⟩
      obtain ⟨y, rfl⟩ : ∃ j, k = j + 1 := ⟨k - 1, by omega⟩
      obtain ⟨ba, oa, s, hA, hba, hs, hs2, hc1⟩ := HA.out.get (k := x) (by omega)
      obtain ⟨bb, ob, t, hB, hbb, ht, ht2, hc2⟩ := HB.out.get (k := y) (by omega)
      rw [show ((x + 1 : Nat) : Int) - 1 = (x : Nat) by omega, show ((y + 1 : Nat) : Int) - 1 = (y : Nat) by omega, mtB_at hs ht] at hm0
      exact .inr (.inr ⟨x, y, s, t, ba, oa, bb, ob, rfl, rfl, hA, hB, hba, hbb, ne_list (by simpa using hm0), hs2, ht2, hc1, hc2⟩)
    clear hm0
    rcases hq with h0 | ⟨hi1, h0⟩ | ⟨x, y, s, t, ba, oa, bb, ob, hix, hky, rfl, rfl, hba, hbb, hst, hs2, ht2, hc1, hc2⟩
    rotate_left 2
    · subst hix; subst hky
      go_wp2_with fail
      go_quiet (fail)
      go_wp2_with fail
      obtain ⟨i, hi'⟩ : ∃ i, i = x + 1 := ⟨_, rfl⟩
      obtain ⟨k, hk'⟩ : ∃ k, k = y + 1 := ⟨_, rfl⟩
      rw [← hi'] at hi HR; rw [← hk'] at hk HR
      rw [← hi', ← hk']
      clear hba hbb hc1 hc2
      have e01 : (x : Int) + 1 = i := by omega
      have e02 : (y : Int) + 1 = k := by omega
      rw [e01, e02]
      have HI := Lib.hid hi'; have HK := Lib.hid hk'
      clear e01 e02 hi' hk' hst
      obtain ⟨w1, hw1, hb8, hb9, hE1⟩ : ∃ w1, w1 = ((w.alloc (Mt.obj ⟨0, 0, 0⟩)).alloc (Mt.obj ⟨i, k, 0⟩)).drewN nq ∧ Blk w1 w.heap.size (Mt.obj ⟨0, 0, 0⟩) ∧ Blk w1 (w.heap.size + 1) (Mt.obj ⟨i, k, 0⟩) ∧ Ext w w1 :=
        ⟨_, rfl, ((Blk.new w _ rfl).alloc _), Blk.new (w.alloc _) _ (by simp), (((Ext.refl w).alloc _).alloc _).drewN _⟩
      rw [← hw1]
      have HB8 := Lib.hid hb8; have HB9 := Lib.hid hb9; have HE1 := Lib.hid hE1; clear hw1 hb8 hb9 hE1
      go_loopw [] (fun wr => ∃ l : Nat, i + l ≤ a.length ∧ k + l ≤ b.length ∧ folV a b ((i + l : Nat)) ((i : Int) - k) = folV a b i ((i : Int) - k) ∧ Blk wr w.heap.size (Mt.obj ⟨0, 0, 0⟩) ∧ Blk wr (w.heap.size + 1) (Mt.obj ⟨i, k, l⟩) ∧ Ext w wr) (fun wr => a.length - cellN (wr.cell? ⟨w.heap.size + 1, 2, none⟩))
      case atStart => exact ⟨0, by omega, by omega, rfl, HB8.out, HB9.out, HE1.out⟩
      case round =>
        obtain ⟨l, hl1, hl2, hf, hb8, hb9, hE⟩ := hrel
        have HF := Lib.hid hf; have HE := Lib.hid hE; have HB8 := Lib.hid hb8; have HB9 := Lib.hid hb9
        have hcl : cellN (wr.cell? ⟨w.heap.size + 1, 2, none⟩) = l := by rw [hb9.cell 2]; simp [cellN, intOf]
        have HCL := Lib.hid hcl; clear hf hE hb8 hcl
        obtain ⟨d0, d1, d2⟩ := hb9.cells3
        have f2 := hb9.free3.2.2
        clear hb9
        have e1 : IntKind.i64.wrap ((i : Int) + l) = (i : Int) + l := wrap_in (by omega) (by omega)
        have e2 : IntKind.i64.wrap ((k : Int) + l) = (k : Int) + l := wrap_in (by omega) (by omega)
        have e3 : ((i : Int) + l).toNat = i + l := by omega
        have e4 : ((k : Int) + l).toNat = k + l := by omega
        have e5 : 0 ≤ (i : Int) + l := by omega
        have e6 : 0 ≤ (k : Int) + l := by omega
        by_cases hin : i + l < a.length ∧ k + l < b.length
        case neg =>
          have hs : folV a b ((i + l : Nat)) ((i : Int) - k) = ((i + l : Nat) : Int) := folV_stop (mtB_out (by omega))
          rw [HF.out] at hs
          have hs' : runN a b i k = l := by rw [HR.out, hs]; omega
          have HS := Lib.hid hs'; clear hs hs'
          have hq : decide ((i : Int) + l < a.length) = false ∨ (decide ((i : Int) + l < a.length) = true ∧ decide ((k : Int) + l < b.length) = false) := by
            simp only [decide_eq_true_eq, decide_eq_false_iff_not]; omega
          clear hin
          rcases hq with q1 | ⟨q1, q2⟩
          all_goals
            go_wp2_with fail
            go_quiet (fail)
            obtain ⟨p0, p1, p2⟩ := HB8.out.cells3
            obtain ⟨r0, r1, r2⟩ := HB8.out.free3
            go_wp2_with fail
            refine bodyPost_ret (v := Mt.val ⟨i, k, l⟩) ?_ rfl ⟨by first | rw [HS.out] | (rw [← HS.out, HI.out, HK.out]; rfl), (HE.out.drewN _).set3 (Nat.le_refl _) _ _ _⟩
            simp [results, Try.results28, go_sem, Mt.val, p0, p1, p2]
        obtain ⟨hin1, hin2⟩ := hin
        obtain ⟨ba, oa, s, hA, hba, hs, hs2, hc1⟩ := (HA.out.ext HE.out).get hin1
        cases hA
        obtain ⟨bb, ob, t, hB, hbb, ht, ht2, hc2⟩ := (HB.out.ext HE.out).get hin2
        cases hB
        have hmt : mtB a b ((i + l : Nat)) (((i + l : Nat) : Int) - ((i : Int) - k)) = decide (s = t) := by rw [show ((i + l : Nat) : Int) - ((i : Int) - k) = ((k + l : Nat) : Int) by omega]; exact mtB_at hs ht
        have HM := Lib.hid hmt; clear hmt hs ht
        have hc3 := hc1; have hc4 := hc2
        rw [← Nat.add_assoc] at hc3 hc4
        have q1 : decide ((i : Int) + l < a.length) = true := yd (by omega)
        have q2 : decide ((k : Int) + l < b.length) = true := yd (by omega)
        have q3 : (i : Int) + l < a.length := by omega
        have q4 : (k : Int) + l < b.length := by omega
        by_cases hst : s = t
        · subst hst
          have hstep := folV_step (a := a) (b := b) (x := ((i + l : Nat) : Int)) (k := (i : Int) - k) (by rw [HM.out]; simp)
          have HS := Lib.hid hstep; clear hstep
          go_wp2_with fail
          go_quiet (fail)
          go_wp2_with fail
          have hbn : Blk (wr.drewN nq) (w.heap.size + 1) (Mt.obj ⟨i, k, l⟩) := HB9.out.ext ((Ext.refl wr).drewN _)
          have hb8n : Blk (wr.drewN nq) w.heap.size (Mt.obj ⟨0, 0, 0⟩) := HB8.out.ext ((Ext.refl wr).drewN _)
          have hbn2 := hbn.put 2 (.int .i64 ((l + 1 : Nat) : Int))
          go_roundw
          case rel =>
            refine ⟨l + 1, by omega, by omega, ?_, ?_, ?_, ?_⟩
            · rw [show ((i + (l + 1) : Nat) : Int) = ((i + l : Nat) : Int) + 1 by omega, ← HS.out, HF.out]
            · exact hb8n.far (by simp) _
            · simpa using hbn2
            · exact (HE.out.drewN _).setCell (by simp) _
          case measure =>
            have h1 : ((wr.drewN nq).setCell ⟨w.heap.size + 1, 2, none⟩ (.int .i64 ((l : Int) + 1))).cell? ⟨w.heap.size + 1, 2, none⟩ = some (.int .i64 ((l : Int) + 1)) := by simpa using hbn2.cell 2
            have h2 := HCL.out
            have h3 : cellN (((wr.drewN nq).setCell ⟨w.heap.size + 1, 2, none⟩ (.int .i64 ((l : Int) + 1))).cell? ⟨w.heap.size + 1, 2, none⟩) = l + 1 := by rw [h1]; simp [cellN, intOf]
            simp only [h2, h3]
            omega
        · have hne := ne_list hst
          have hstop := folV_stop (a := a) (b := b) (x := ((i + l : Nat) : Int)) (k := (i : Int) - k) (by rw [HM.out]; simpa using hst)
          rw [HF.out] at hstop
          have hs' : runN a b i k = l := by rw [HR.out, hstop]; omega
          have HS := Lib.hid hs'; clear hstop hs' hst
          go_wp2_with fail
          go_quiet (fail)
          obtain ⟨p0, p1, p2⟩ := HB8.out.cells3
          obtain ⟨r0, r1, r2⟩ := HB8.out.free3
          go_wp2_with fail
          refine bodyPost_ret (v := Mt.val ⟨i, k, l⟩) ?_ rfl ⟨by first | rw [HS.out] | (rw [← HS.out, HI.out, HK.out]; rfl), (HE.out.drewN _).set3 (Nat.le_refl _) _ _ _⟩
          simp [results, Try.results28, go_sem, Mt.val, p0, p1, p2]

    · have h0' : decide (0 < i) = false := nd (by omega)
      clear h0
      go_wp2_with fail
      go_quiet (fail)
      go_wp2_with fail
      obtain ⟨w1, hw1, hb8, hb9, hE1⟩ : ∃ w1, w1 = ((w.alloc (Mt.obj ⟨0, 0, 0⟩)).alloc (Mt.obj ⟨i, k, 0⟩)).drewN nq ∧ Blk w1 w.heap.size (Mt.obj ⟨0, 0, 0⟩) ∧ Blk w1 (w.heap.size + 1) (Mt.obj ⟨i, k, 0⟩) ∧ Ext w w1 :=
        ⟨_, rfl, ((Blk.new w _ rfl).alloc _), Blk.new (w.alloc _) _ (by simp), (((Ext.refl w).alloc _).alloc _).drewN _⟩
      rw [← hw1]
      have HB8 := Lib.hid hb8; have HB9 := Lib.hid hb9; have HE1 := Lib.hid hE1; clear hw1 hb8 hb9 hE1
      go_loopw [] (fun wr => ∃ l : Nat, i + l ≤ a.length ∧ k + l ≤ b.length ∧ folV a b ((i + l : Nat)) ((i : Int) - k) = folV a b i ((i : Int) - k) ∧ Blk wr w.heap.size (Mt.obj ⟨0, 0, 0⟩) ∧ Blk wr (w.heap.size + 1) (Mt.obj ⟨i, k, l⟩) ∧ Ext w wr) (fun wr => a.length - cellN (wr.cell? ⟨w.heap.size + 1, 2, none⟩))
      case atStart => exact ⟨0, by omega, by omega, rfl, HB8.out, HB9.out, HE1.out⟩
      case round =>
        obtain ⟨l, hl1, hl2, hf, hb8, hb9, hE⟩ := hrel
        have HF := Lib.hid hf; have HE := Lib.hid hE; have HB8 := Lib.hid hb8; have HB9 := Lib.hid hb9
        have hcl : cellN (wr.cell? ⟨w.heap.size + 1, 2, none⟩) = l := by rw [hb9.cell 2]; simp [cellN, intOf]
        have HCL := Lib.hid hcl; clear hf hE hb8 hcl
        obtain ⟨d0, d1, d2⟩ := hb9.cells3
        have f2 := hb9.free3.2.2
        clear hb9
        have e1 : IntKind.i64.wrap ((i : Int) + l) = (i : Int) + l := wrap_in (by omega) (by omega)
        have e2 : IntKind.i64.wrap ((k : Int) + l) = (k : Int) + l := wrap_in (by omega) (by omega)
        have e3 : ((i : Int) + l).toNat = i + l := by omega
        have e4 : ((k : Int) + l).toNat = k + l := by omega
        have e5 : 0 ≤ (i : Int) + l := by omega
        have e6 : 0 ≤ (k : Int) + l := by omega
        by_cases hin : i + l < a.length ∧ k + l < b.length
        case neg =>
          have hs : folV a b ((i + l : Nat)) ((i : Int) - k) = ((i + l : Nat) : Int) := folV_stop (mtB_out (by omega))
          rw [HF.out] at hs
          have hs' : runN a b i k = l := by rw [HR.out, hs]; omega
          have HS := Lib.hid hs'; clear hs hs'
          have hq : decide ((i : Int) + l < a.length) = false ∨ (decide ((i : Int) + l < a.length) = true ∧ decide ((k : Int) + l < b.length) = false) := by
            simp only [decide_eq_true_eq, decide_eq_false_iff_not]; omega
          clear hin
          rcases hq with q1 | ⟨q1, q2⟩
          all_goals
            go_wp2_with fail
            go_quiet (fail)
            obtain ⟨p0, p1, p2⟩ := HB8.out.cells3
            obtain ⟨r0, r1, r2⟩ := HB8.out.free3
            go_wp2_with fail
            refine bodyPost_ret (v := Mt.val ⟨i, k, l⟩) ?_ rfl ⟨by first | rw [HS.out] | (rw [← HS.out, HI.out, HK.out]; rfl), (HE.out.drewN _).set3 (Nat.le_refl _) _ _ _⟩
            simp [results, Try.results28, go_sem, Mt.val, p0, p1, p2]
        obtain ⟨hin1, hin2⟩ := hin
        obtain ⟨ba, oa, s, hA, hba, hs, hs2, hc1⟩ := (HA.out.ext HE.out).get hin1
        cases hA
        obtain ⟨bb, ob, t, hB, hbb, ht, ht2, hc2⟩ := (HB.out.ext HE.out).get hin2
        cases hB
        have hmt : mtB a b ((i + l : Nat)) (((i + l : Nat) : Int) - ((i : Int) - k)) = decide (s = t) := by rw [show ((i + l : Nat) : Int) - ((i : Int) - k) = ((k + l : Nat) : Int) by omega]; exact mtB_at hs ht
        have HM := Lib.hid hmt; clear hmt hs ht
        have hc3 := hc1; have hc4 := hc2
        rw [← Nat.add_assoc] at hc3 hc4
        have q1 : decide ((i : Int) + l < a.length) = true := yd (by omega)
        have q2 : decide ((k : Int) + l < b.length) = true := yd (by omega)
        have q3 : (i : Int) + l < a.length := by omega
        have q4 : (k : Int) + l < b.length := by omega
        by_cases hst : s = t
        · subst hst
          have hstep := folV_step (a := a) (b := b) (x := ((i + l : Nat) : Int)) (k := (i : Int) - k) (by rw [HM.out]; simp)
          have HS := Lib.hid hstep; clear hstep
          go_wp2_with fail
          go_quiet (fail)
          go_wp2_with fail
          have hbn : Blk (wr.drewN nq) (w.heap.size + 1) (Mt.obj ⟨i, k, l⟩) := HB9.out.ext ((Ext.refl wr).drewN _)
          have hb8n : Blk (wr.drewN nq) w.heap.size (Mt.obj ⟨0, 0, 0⟩) := HB8.out.ext ((Ext.refl wr).drewN _)
          have hbn2 := hbn.put 2 (.int .i64 ((l + 1 : Nat) : Int))
          go_roundw
          case rel =>
            refine ⟨l + 1, by omega, by omega, ?_, ?_, ?_, ?_⟩
            · rw [show ((i + (l + 1) : Nat) : Int) = ((i + l : Nat) : Int) + 1 by omega, ← HS.out, HF.out]
            · exact hb8n.far (by simp) _
            · simpa using hbn2
            · exact (HE.out.drewN _).setCell (by simp) _
          case measure =>
            have h1 : ((wr.drewN nq).setCell ⟨w.heap.size + 1, 2, none⟩ (.int .i64 ((l : Int) + 1))).cell? ⟨w.heap.size + 1, 2, none⟩ = some (.int .i64 ((l : Int) + 1)) := by simpa using hbn2.cell 2
            have h2 := HCL.out
            have h3 : cellN (((wr.drewN nq).setCell ⟨w.heap.size + 1, 2, none⟩ (.int .i64 ((l : Int) + 1))).cell? ⟨w.heap.size + 1, 2, none⟩) = l + 1 := by rw [h1]; simp [cellN, intOf]
            simp only [h2, h3]
            omega
        · have hne := ne_list hst
          have hstop := folV_stop (a := a) (b := b) (x := ((i + l : Nat) : Int)) (k := (i : Int) - k) (by rw [HM.out]; simpa using hst)
          rw [HF.out] at hstop
          have hs' : runN a b i k = l := by rw [HR.out, hstop]; omega
          have HS := Lib.hid hs'; clear hstop hs' hst
          go_wp2_with fail
          go_quiet (fail)
          obtain ⟨p0, p1, p2⟩ := HB8.out.cells3
          obtain ⟨r0, r1, r2⟩ := HB8.out.free3
          go_wp2_with fail
          refine bodyPost_ret (v := Mt.val ⟨i, k, l⟩) ?_ rfl ⟨by first | rw [HS.out] | (rw [← HS.out, HI.out, HK.out]; rfl), (HE.out.drewN _).set3 (Nat.le_refl _) _ _ _⟩
          simp [results, Try.results28, go_sem, Mt.val, p0, p1, p2]

    · have h0' : decide (0 < k) = false := nd (by omega)
      clear h0
      go_wp2_with fail
      go_quiet (fail)
      go_wp2_with fail
      obtain ⟨w1, hw1, hb8, hb9, hE1⟩ : ∃ w1, w1 = ((w.alloc (Mt.obj ⟨0, 0, 0⟩)).alloc (Mt.obj ⟨i, k, 0⟩)).drewN nq ∧ Blk w1 w.heap.size (Mt.obj ⟨0, 0, 0⟩) ∧ Blk w1 (w.heap.size + 1) (Mt.obj ⟨i, k, 0⟩) ∧ Ext w w1 :=
        ⟨_, rfl, ((Blk.new w _ rfl).alloc _), Blk.new (w.alloc _) _ (by simp), (((Ext.refl w).alloc _).alloc _).drewN _⟩
      rw [← hw1]
      have HB8 := Lib.hid hb8; have HB9 := Lib.hid hb9; have HE1 := Lib.hid hE1; clear hw1 hb8 hb9 hE1
      go_loopw [] (fun wr => ∃ l : Nat, i + l ≤ a.length ∧ k + l ≤ b.length ∧ folV a b ((i + l : Nat)) ((i : Int) - k) = folV a b i ((i : Int) - k) ∧ Blk wr w.heap.size (Mt.obj ⟨0, 0, 0⟩) ∧ Blk wr (w.heap.size + 1) (Mt.obj ⟨i, k, l⟩) ∧ Ext w wr) (fun wr => a.length - cellN (wr.cell? ⟨w.heap.size + 1, 2, none⟩))
      case atStart => exact ⟨0, by omega, by omega, rfl, HB8.out, HB9.out, HE1.out⟩
      case round =>
        obtain ⟨l, hl1, hl2, hf, hb8, hb9, hE⟩ := hrel
        have HF := Lib.hid hf; have HE := Lib.hid hE; have HB8 := Lib.hid hb8; have HB9 := Lib.hid hb9
        have hcl : cellN (wr.cell? ⟨w.heap.size + 1, 2, none⟩) = l := by rw [hb9.cell 2]; simp [cellN, intOf]
        have HCL := Lib.hid hcl; clear hf hE hb8 hcl
        obtain ⟨d0, d1, d2⟩ := hb9.cells3
        have f2 := hb9.free3.2.2
        clear hb9
        have e1 : IntKind.i64.wrap ((i : Int) + l) = (i : Int) + l := wrap_in (by omega) (by omega)
        have e2 : IntKind.i64.wrap ((k : Int) + l) = (k : Int) + l := wrap_in (by omega) (by omega)
        have e3 : ((i : Int) + l).toNat = i + l := by omega
        have e4 : ((k : Int) + l).toNat = k + l := by omega
        have e5 : 0 ≤ (i : Int) + l := by omega
        have e6 : 0 ≤ (k : Int) + l := by omega
        by_cases hin : i + l < a.length ∧ k + l < b.length
        case neg =>
          have hs : folV a b ((i + l : Nat)) ((i : Int) - k) = ((i + l : Nat) : Int) := folV_stop (mtB_out (by omega))
          rw [HF.out] at hs
          have hs' : runN a b i k = l := by rw [HR.out, hs]; omega
          have HS := Lib.hid hs'; clear hs hs'
          have hq : decide ((i : Int) + l < a.length) = false ∨ (decide ((i : Int) + l < a.length) = true ∧ decide ((k : Int) + l < b.length) = false) := by
            simp only [decide_eq_true_eq, decide_eq_false_iff_not]; omega
          clear hin
          rcases hq with q1 | ⟨q1, q2⟩
          all_goals
            go_wp2_with fail
            go_quiet (fail)
            obtain ⟨p0, p1, p2⟩ := HB8.out.cells3
            obtain ⟨r0, r1, r2⟩ := HB8.out.free3
            go_wp2_with fail
            refine bodyPost_ret (v := Mt.val ⟨i, k, l⟩) ?_ rfl ⟨by first | rw [HS.out] | (rw [← HS.out, HI.out, HK.out]; rfl), (HE.out.drewN _).set3 (Nat.le_refl _) _ _ _⟩
            simp [results, Try.results28, go_sem, Mt.val, p0, p1, p2]
        obtain ⟨hin1, hin2⟩ := hin
        obtain ⟨ba, oa, s, hA, hba, hs, hs2, hc1⟩ := (HA.out.ext HE.out).get hin1
        cases hA
        obtain ⟨bb, ob, t, hB, hbb, ht, ht2, hc2⟩ := (HB.out.ext HE.out).get hin2
        cases hB
        have hmt : mtB a b ((i + l : Nat)) (((i + l : Nat) : Int) - ((i : Int) - k)) = decide (s = t) := by rw [show ((i + l : Nat) : Int) - ((i : Int) - k) = ((k + l : Nat) : Int) by omega]; exact mtB_at hs ht
        have HM := Lib.hid hmt; clear hmt hs ht
        have hc3 := hc1; have hc4 := hc2
        rw [← Nat.add_assoc] at hc3 hc4
        have q1 : decide ((i : Int) + l < a.length) = true := yd (by omega)
        have q2 : decide ((k : Int) + l < b.length) = true := yd (by omega)
        have q3 : (i : Int) + l < a.length := by omega
        have q4 : (k : Int) + l < b.length := by omega
        by_cases hst : s = t
        · subst hst
          have hstep := folV_step (a := a) (b := b) (x := ((i + l : Nat) : Int)) (k := (i : Int) - k) (by rw [HM.out]; simp)
          have HS := Lib.hid hstep; clear hstep
          go_wp2_with fail
          go_quiet (fail)
          go_wp2_with fail
          have hbn : Blk (wr.drewN nq) (w.heap.size + 1) (Mt.obj ⟨i, k, l⟩) := HB9.out.ext ((Ext.refl wr).drewN _)
          have hb8n : Blk (wr.drewN nq) w.heap.size (Mt.obj ⟨0, 0, 0⟩) := HB8.out.ext ((Ext.refl wr).drewN _)
          have hbn2 := hbn.put 2 (.int .i64 ((l + 1 : Nat) : Int))
          go_roundw
          case rel =>
            refine ⟨l + 1, by omega, by omega, ?_, ?_, ?_, ?_⟩
            · rw [show ((i + (l + 1) : Nat) : Int) = ((i + l : Nat) : Int) + 1 by omega, ← HS.out, HF.out]
            · exact hb8n.far (by simp) _
            · simpa using hbn2
            · exact (HE.out.drewN _).setCell (by simp) _
          case measure =>
            have h1 : ((wr.drewN nq).setCell ⟨w.heap.size + 1, 2, none⟩ (.int .i64 ((l : Int) + 1))).cell? ⟨w.heap.size + 1, 2, none⟩ = some (.int .i64 ((l : Int) + 1)) := by simpa using hbn2.cell 2
            have h2 := HCL.out
            have h3 : cellN (((wr.drewN nq).setCell ⟨w.heap.size + 1, 2, none⟩ (.int .i64 ((l : Int) + 1))).cell? ⟨w.heap.size + 1, 2, none⟩) = l + 1 := by rw [h1]; simp [cellN, intOf]
            simp only [h2, h3]
            omega
        · have hne := ne_list hst
          have hstop := folV_stop (a := a) (b := b) (x := ((i + l : Nat) : Int)) (k := (i : Int) - k) (by rw [HM.out]; simpa using hst)
          rw [HF.out] at hstop
          have hs' : runN a b i k = l := by rw [HR.out, hstop]; omega
          have HS := Lib.hid hs'; clear hstop hs' hst
          go_wp2_with fail
          go_quiet (fail)
          obtain ⟨p0, p1, p2⟩ := HB8.out.cells3
          obtain ⟨r0, r1, r2⟩ := HB8.out.free3
          go_wp2_with fail
          refine bodyPost_ret (v := Mt.val ⟨i, k, l⟩) ?_ rfl ⟨by first | rw [HS.out] | (rw [← HS.out, HI.out, HK.out]; rfl), (HE.out.drewN _).set3 (Nat.le_refl _) _ _ _⟩
          simp [results, Try.results28, go_sem, Mt.val, p0, p1, p2]

end Go.Proofs.Ytkkjhkmfoeblaaa

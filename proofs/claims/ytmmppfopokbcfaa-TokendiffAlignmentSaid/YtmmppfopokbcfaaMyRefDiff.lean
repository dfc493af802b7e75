/- Contracts of the reference: at, Tables, Diff. -/
import Derived.Test.YtmmppfopokbcfaaMyRef
namespace Go.Proofs.Ytmmppfopokbcfaa
open Go.RowKit

set_option maxRecDepth 100000 in
set_option maxHeartbeats 1000000 in
theorem rat_any (d k : Int) (w : World) (hd : 0 ≤ d) (hd' : d ≤ 1000) (hk : -1000 ≤ k) (hk' : k ≤ 1000) :
    Calls Try.prog 78 #[.int .i64 d, .int .i64 k] w fun e w' => e = .returned (.tuple #[.int .i64 ((k + d).tdiv 2), .bool (decide (-d ≤ k) && (decide (k ≤ d) && decide ((k + d) % 2 = 0)))]) ∧ w = w' := by
  have hmod : ((k + d).tmod 2 == 0) = decide ((k + d) % 2 = 0) := by
    rw [Bool.eq_iff_iff, beq_iff_eq, decide_eq_true_eq]
    rcases Int.le_total 0 (k + d) with h | h
    · rw [Int.tmod_eq_emod_of_nonneg h]
    · have h2 : (k + d).tmod 2 = -((-(k + d)).tmod 2) := by rw [← Int.neg_tmod, Int.neg_neg]
      rw [h2, Int.tmod_eq_emod_of_nonneg (by omega)]; omega
  have HM := Lib.hid hmod; clear hmod
  by_cases h1 : -d ≤ k
  case neg =>
    have h1' := nd h1
    go_enter Try.func78, Try.ntmps78
    go_wp2_with fail
    exact bodyPost_ret (v := .tuple #[.int .i64 ((k + d).tdiv 2), .bool false]) (by simp [results, Try.results78, go_sem]) rfl ⟨by simp, rfl⟩
  by_cases h2 : k ≤ d
  case neg =>
    have h1' := yd h1; have h2' := nd h2
    go_enter Try.func78, Try.ntmps78
    go_wp2_with fail
    exact bodyPost_ret (v := .tuple #[.int .i64 ((k + d) / 2), .bool false]) (by simp [results, Try.results78, go_sem]) rfl ⟨by rw [Int.tdiv_eq_ediv_of_nonneg (by omega)], rfl⟩
  have h0 : 0 ≤ k + d := by omega
  have hdv : (k + d).tdiv 2 = (k + d) / 2 := Int.tdiv_eq_ediv_of_nonneg h0
  have HDV := Lib.hid hdv; clear hdv
  have h1' := yd h1; have h2' := yd h2
  rcases hr : ((k + d) % 2 == 0) with _ | _
  · go_enter Try.func78, Try.ntmps78
    go_wp2_with fail
    exact bodyPost_ret (v := .tuple #[.int .i64 ((k + d) / 2), .bool false]) (by simp [results, Try.results78, go_sem]) rfl ⟨by rw [HDV.out]; simp at hr; simp [h1, h2, hr], rfl⟩
  · go_enter Try.func78, Try.ntmps78
    go_wp2_with fail
    exact bodyPost_ret (v := .tuple #[.int .i64 ((k + d) / 2), .bool true]) (by simp [results, Try.results78, go_sem]) rfl ⟨by rw [HDV.out]; simp at hr; simp [h1, h2, hr], rfl⟩
theorem rat_no {d : Nat} {k : Int} {w : World} (h : k < -(d : Int) ∨ (d : Int) < k ∨ (k + d) % 2 ≠ 0) (hd : d ≤ 1000) (hk : -1000 ≤ k) (hk' : k ≤ 1000) :
    Calls Try.prog 78 #[.int .i64 d, .int .i64 k] w fun e w' => e = .returned (.tuple #[.int .i64 ((k + d).tdiv 2), .bool false]) ∧ w = w' := by
  have := rat_any d k w (by omega) (by omega) hk hk'
  have e : (decide (-(d : Int) ≤ k) && (decide (k ≤ d) && decide ((k + d) % 2 = 0))) = false := by
    simp only [Bool.and_eq_false_imp, decide_eq_true_eq, decide_eq_false_iff_not]; omega
  rw [e] at this; exact this
theorem rat_yes {d i : Nat} {k : Int} {w : World} (h1 : -(d : Int) ≤ k) (h2 : k ≤ d) (h3 : (k + d) % 2 = 0) (hi : (k + d) / 2 = i) (hd : d ≤ 1000) :
    Calls Try.prog 78 #[.int .i64 d, .int .i64 k] w fun e w' => e = .returned (.tuple #[.int .i64 i, .bool true]) ∧ w = w' := by
  have := rat_any d k w (by omega) (by omega) (by omega) (by omega)
  have e : (decide (-(d : Int) ≤ k) && (decide (k ≤ d) && decide ((k + d) % 2 = 0))) = true := by
    simp only [Bool.and_eq_true, decide_eq_true_eq]; omega
  rw [e, Int.tdiv_eq_ediv_of_nonneg (by omega), hi] at this; exact this

theorem info47' : (Try.prog.info? 67).map (fun i => (i.zero, i.size, i.bytes)) = some (some (.slice none 0 0), 1, 24) := by kernel_rfl
theorem under33' : Try.prog.underlying 65 = some (.slice 67) := by kernel_rfl
theorem tabs_snoc {W : World} {vs : List Value} {ts : List (List Int)} {v : Value} {t : List Int} {g : Nat} (h : Tabs W vs ts) (ht : TabAt W g v t) : Tabs W (vs ++ [v]) (ts ++ [t]) := by
  refine ⟨by simp [h.1], fun j x y hx hy => ?_⟩
  rcases Nat.lt_or_ge j vs.length with hj | hj
  · rw [List.getElem?_append_left hj] at hx
    rw [List.getElem?_append_left (by rw [← h.1]; exact hj)] at hy
    exact h.2 j x y hx hy
  · rw [List.getElem?_append_right hj] at hx
    rw [List.getElem?_append_right (by rw [← h.1]; exact hj)] at hy
    obtain ⟨h7, rfl⟩ : j - vs.length = 0 ∧ v = x := by
      rcases hq : j - vs.length with _ | q
      · rw [hq] at hx; exact ⟨rfl, by simpa using hx⟩
      · rw [hq] at hx; simp at hx
    rw [show j - ts.length = 0 by rw [← h.1]; exact h7] at hy
    obtain rfl : t = y := by simpa using hy
    exact ⟨g, ht⟩

theorem tbl_step {n1 n : Nat} {te : TypeId} (hte : te ≠ 3) {W W1 W2 : World} {v u : Value} {vs : List Value} {ts : List (List Int)} {t : List Int} {g : Nat} (h2 : W.ownsRow n1 te 1 v n vs) (h3 : Tabs W vs ts) (ht : TabAt W g u t)
    (he : Ext W W1) (hgr : W1.grownBy W2 v.ownBlock) : Tabs W2 (vs ++ [u]) (ts ++ [t]) ∧ TabAt W2 g u t := by
  have hl : Lv (fun k => v.ownBlock = some k) W W2 := (Lv.of_ext he).grown hgr (fun k hk _ => hk)
  have hS : ∀ (g : Nat) (cs : Array Value) (f : Nat × Nat), v.ownBlock = some g → ¬ Blk W g (.cells cs 3 f) := fun g cs f hk hb => by
    obtain ⟨_, cur, hb'⟩ := own_blk h2 hk
    exact hte (blk_type hb' hb)
  have ht2 : TabAt W2 g u t := ht.lv hl (fun hk => by
    obtain ⟨c, cs, _, hb, _⟩ := ht
    exact hS g cs _ hk hb)
  exact ⟨tabs_snoc (h3.lv hl hS) ht2, ht2⟩

/-- What is known in the loop of Tables, when d tables are done. -/
def TblAt (w : World) (a b : Lns) (d : Nat) (v5 v6 : Value) (wr : World) : Prop :=
  ∃ (C : Option Addr) (pc : Nat) (t : List Int) (vs : List Value), v6 = .slice C d pc ∧ Ints wr C d t ∧ (0 < d → t = tabV a b (d - 1)) ∧ wr.ownsRow w.heap.size 67 1 v5 d vs ∧ Tabs wr vs (tabsV a b d) ∧ Ext w wr

theorem tab_next (a b : Lns) (d : Nat) (t : List Int) (h : 0 < d → t = tabV a b (d - 1)) : (if d = 0 then [folV a b 0 0] else nextV a b t) = tabV a b d := by
  cases d with
  | zero => rfl
  | succ d => rw [if_neg (by omega), h (by omega)]; rfl

set_option maxRecDepth 100000 in
set_option maxHeartbeats 8000000 in
theorem rtables_any (A B : Option Addr) (n c m cd : Nat) (a b : Lns) (w : World) (ha : Strs w A n a) (hb : Strs w B m b) (hn : n ≤ 100) (hm : m ≤ 100) :
    Calls Try.prog 64 #[.slice A n c, .slice B m cd] w fun e w' => ∃ v vs, e = .returned v ∧ w'.ownsRow w.heap.size 67 1 v (dist a b + 1) vs ∧ Tabs w' vs (tabsV a b (dist a b + 1)) ∧ Ext w w' := by
  obtain rfl : a.length = n := ha.1
  obtain rfl : b.length = m := hb.1
  have hD := dist_le a b
  have HA := Lib.hid ha; have HB := Lib.hid hb; clear ha hb
  obtain ⟨inf, i1, i2, i3, i4⟩ := info_of info47'
  have I1 := Lib.hid i1; have I2 := Lib.hid i2; have I3 := Lib.hid i3; have I4 := Lib.hid i4; clear i1 i2 i3 i4
  go_enter Try.func64, Try.ntmps64
  go_wp2_with fail
  obtain ⟨w1, hw1⟩ : ∃ w1, w1 = (w.alloc (.cells #[] 67)).alloc (.cells #[] 3) := ⟨_, rfl⟩
  have hE1 : Ext w w1 := by rw [hw1]; exact ((Ext.refl w).alloc _).alloc _
  have hO1 : w1.ownsRow w.heap.size 67 1 (.slice (some ⟨w.heap.size, 0, none⟩) 0 0) 0 [] := by
    rw [hw1]; exact own_stab3 ((Ext.refl _).alloc _) ⟨rfl, .inr ⟨w.heap.size, 0, #[], rfl, Nat.le_refl _, heap_alloc_new w _, Nat.le_refl _, by simp [maxLen], rfl, rfl⟩⟩
  rw [← hw1]
  have HE1 := Lib.hid hE1; have HO1 := Lib.hid hO1; clear hw1 hE1 hO1
  go_loopw [5, 6, 7] (fun v5 v6 v7 wr => ∃ d : Nat, d ≤ dist a b ∧ v7 = .int .i64 d ∧ TblAt w a b d v5 v6 wr) (fun _ _ v7 _ => dist a b + 1 - (intOf v7).toNat)
  case atStart => exact ⟨0, Nat.zero_le _, rfl, _, _, [], [], rfl, ⟨rfl, Cells.nil _ _⟩, (fun h => by omega), HO1.out, ⟨rfl, by simp⟩, HE1.out⟩
  case round =>
    obtain ⟨d, hd, rfl, C, pc, t, vs, rfl, hi, ht, ho, htb, hE⟩ := hrel
    have hsm : ∀ x ∈ t, 0 ≤ x ∧ x ≤ 1000 := by
      intro x hx
      rcases Nat.eq_zero_or_pos d with rfl | h0
      · have := List.eq_nil_of_length_eq_zero hi.1; rw [this] at hx; simp at hx
      · rw [ht h0] at hx; have := tabV_bound a b (d - 1) x hx; omega
    have HI := Lib.hid hi; have HT := Lib.hid ht; have HO := Lib.hid ho; have HTB := Lib.hid htb; have HE := Lib.hid hE; have HSM := Lib.hid hsm; clear hi ht ho htb hE hsm
    go_wp2_with fail
    refine (rtable_any A B C _ _ _ _ _ _ a b t d _ (HA.out.ext HE.out) (HB.out.ext HE.out) (by omega) (by omega) (by omega) HI.out rfl HSM.out).mono ?_
    rintro e w2 ⟨v, rfl, ho2, hE2⟩
    rw [tab_next a b d t HT.out] at ho2
    obtain ⟨g, hg, hta⟩ := TabAt.of_own ho2 (fun h => by have := tabV_len a b d; rw [h] at this; simp at this)
    have hta2 := hta
    obtain ⟨cc, cs, rfl, -, -⟩ := hta
    have HTA := Lib.hid hta2; have HE2 := Lib.hid (HE.out.trans hE2); have HE2' := Lib.hid hE2; have HG := Lib.hid hg; clear hta2 hE2 ho2 hg
    have hvl : vs.length = d := by have := HTB.out.1; simpa [tabsV] using this
    have HVL := Lib.hid hvl; clear hvl
    have hlen := tabV_len a b d
    have HL := Lib.hid hlen; clear hlen
    go_wp2_with (at_builtin; refine wpList_append_size2 rfl (.tmp 19) (.tmp 21) 65 rfl w.heap.size 67 inf _ 1 24 under33' I1.out I2.out I3.out I4.out rfl (by decide) _ d vs (some ⟨w2.heap.size, 0, none⟩) 1 1 [.slice (some ⟨g, 0, none⟩) (tabV a b d).length cc] rfl (by simp [Act.eval]) rfl (by simp [Value.oneCell']) (by simp only [maxLen]; omega) (by omega) (own_stab3 (HE2'.out.alloc _) HO.out) (Cells.new w2 _ [_] rfl) (by have := HE2.out.size; simp; omega) ?_; intro v3 w3 hown3 hg3 hb3)
    have hO3 := own_stab3 HE2'.out HO.out
    obtain ⟨st1, st2⟩ := tbl_step (by decide) hO3 (HTB.out.ext HE2'.out) HTA.out ((Ext.refl w2).alloc _) hg3
    have hE3 := (HE2.out.alloc (.cells #[.slice (some ⟨g, 0, none⟩) (tabV a b d).length cc] 67)).own3 (own_stab3 (HE2'.out.alloc _) HO.out) hg3
    rw [← tabsV_succ] at st1
    have HO3 := Lib.hid hown3; have ST1 := Lib.hid st1; have ST2 := Lib.hid st2; have HE3 := Lib.hid hE3
    clear hown3 hg3 hb3 hO3 st1 st2 hE3
    have hints := ST2.out.ints
    have HIN := Lib.hid hints; clear hints
    rw [HL.out]
    go_wp2_with fail
    by_cases hin : -(d : Int) ≤ (a.length : Int) - b.length ∧ (a.length : Int) - b.length ≤ d ∧ ((a.length : Int) - b.length + d) % 2 = 0
    · obtain ⟨q1, q2, q3⟩ := hin
      obtain ⟨i, hi⟩ : ∃ i : Nat, ((a.length : Int) - b.length + d) / 2 = i := ⟨(((a.length : Int) - b.length + d) / 2).toNat, by omega⟩
      obtain ⟨X, hX, hfar⟩ := tab_far (a := a) (b := b) d _ q1 q2 q3
      have hend := tab_end hX
      have hXi : (tabV a b d)[i]? = some (X : Int) := by
        rw [atV_in (tabV_len a b d) q1 q2 q3, hi] at hX; simpa using hX
      have hXb := tabV_bound a b d X (List.mem_of_getElem? hXi)
      obtain ⟨bb, off, x', hA, hbb, hx', hcx⟩ := HIN.out.get (k := i) (by rw [HL.out]; omega)
      cases hA
      obtain rfl : (X : Int) = x' := by rw [hXi] at hx'; simpa using hx'
      rw [Nat.zero_add] at hcx
      have HIX := Lib.hid hi; have HEND := Lib.hid hend; clear hi hX hfar hend hXi hx'
      have hid : (i : Int) < (d : Int) + 1 := by have := HIX.out; omega
      refine (rat_yes q1 q2 q3 HIX.out (by omega)).mono ?_
      rintro e w4 ⟨rfl, rfl⟩
      by_cases hle : (a.length : Int) ≤ X
      · have hdd : dist a b ≤ d := HEND.out.1 hle
        obtain rfl : d = dist a b := by omega
        have hle' : decide (a.length ≤ X) = true := yd (by omega)
        go_wp2_with fail
        go_ret
        exact ⟨_, _, rfl, HO3.out, ST1.out, HE3.out⟩
      · have hdd : ¬ dist a b ≤ d := fun h => hle (HEND.out.2 h)
        have hle' : decide (a.length ≤ X) = false := nd (by omega)
        go_wp2_with fail
        go_roundw
        case rel => exact ⟨d + 1, by omega, by go_num, _, _, tabV a b d, _, rfl, (HL.out ▸ HIN.out), (fun _ => rfl), HO3.out, ST1.out, HE3.out⟩
        case measure => simp [intOf]; omega
    · have hdd : ¬ dist a b ≤ d := by
        intro h
        obtain rfl : d = dist a b := by omega
        have hlast := tab_last a b
        rw [atV_out (tabV_len a b (dist a b)) (by omega)] at hlast
        cases hlast
      refine (rat_no (d := d) (by omega) (by omega) (by omega) (by omega)).mono ?_
      rintro e w4 ⟨rfl, rfl⟩
      go_wp2_with fail
      go_roundw
      case rel => exact ⟨d + 1, by omega, by go_num, _, _, tabV a b d, _, rfl, (HL.out ▸ HIN.out), (fun _ => rfl), HO3.out, ST1.out, HE3.out⟩
      case measure => simp [intOf]; omega

/-- What is known in the loop of Diff, with j tables left. -/
def RDiffAt (a b : Lns) (_w w1 : World) (j : Nat) (k x : Int) (v : Value) (wr : World) : Prop :=
  ∃ ms : List Mt, (backV a b j k x).reverse ++ ms = diffV a b (dist a b) ∧ (∀ m ∈ ms, m.wf) ∧ ms.length + j ≤ dist a b + 1 ∧ wr.ownsRow w1.heap.size 55 3 v ms.length (ms.flatMap Mt.cells) ∧ Ext w1 wr

theorem own_first {w : World} {m : Mt} {b0 : Nat} (hb : b0 ≤ w.heap.size) : (w.alloc (Mt.obj m)).ownsRow b0 55 3 (.slice (some ⟨w.heap.size, 0, none⟩) 1 1) 1 m.cells :=
  ⟨rfl, .inr ⟨w.heap.size, 1, _, rfl, hb, heap_alloc_new w _, Nat.le_refl _, by simp [maxLen], rfl, rfl⟩⟩

set_option maxRecDepth 100000 in
set_option maxHeartbeats 16000000 in
theorem rdiff_any (A B : Option Addr) (n c m cd : Nat) (a b : Lns) (w : World) (ha : Strs w A n a) (hb : Strs w B m b) (hn : n ≤ 100) (hm : m ≤ 100) :
    Calls Try.prog 38 #[.slice A n c, .slice B m cd] w fun e w' => ∃ v N, e = .returned v ∧ w'.ownsRow w.heap.size 55 3 v N ((diffV a b (dist a b)).flatMap Mt.cells) ∧ (∀ m ∈ diffV a b (dist a b), m.wf) ∧ Ext w w' := by
  obtain rfl : a.length = n := ha.1
  obtain rfl : b.length = m := hb.1
  have hD := dist_le a b
  have HA := Lib.hid ha; have HB := Lib.hid hb; clear ha hb
  obtain ⟨inf, i1, i2, i3, i4⟩ := info_of infoM
  have I1 := Lib.hid i1; have I2 := Lib.hid i2; have I3 := Lib.hid i3; have I4 := Lib.hid i4; clear i1 i2 i3 i4
  go_enter Try.func38, Try.ntmps38
  go_wp2_with fail
  refine (rtables_any A B a.length c b.length cd a b _ HA.out HB.out hn hm).mono ?_
  rintro e w1 ⟨v, vs, rfl, ho, ht, hE⟩
  obtain ⟨g, cc, L, rfl, hgb, hcc, hL1, hL2, hL3⟩ := own_tabs ho ht (tabsV_small a b (by omega))
  have HE := Lib.hid hE; have HR := Lib.hid hL2; have HT := Lib.hid hL3; clear ho ht hE hL1 hL2 hL3
  go_wp2_with fail
  obtain ⟨w2, hw2⟩ : ∃ w2, w2 = w1.alloc (.cells #[] 55) := ⟨_, rfl⟩
  have hE2 : Ext w1 w2 := by rw [hw2]; exact (Ext.refl w1).alloc _
  have hO2 : w2.ownsRow w1.heap.size 55 3 (.slice (some ⟨w1.heap.size, 0, none⟩) 0 0) 0 [] := by
    rw [hw2]; exact ⟨rfl, .inr ⟨w1.heap.size, 0, #[], rfl, Nat.le_refl _, heap_alloc_new w1 _, Nat.le_refl _, by simp [maxLen], rfl, rfl⟩⟩
  rw [← hw2]
  have HE2 := Lib.hid hE2; have HO2 := Lib.hid hO2; clear hw2 hE2 hO2
  go_loopw [6, 7, 8, 9] (fun v6 v7 v8 v9 wr => ∃ (j : Nat) (k x : Int), j ≤ dist a b + 1 ∧ v9 = .int .i64 ((j : Int) - 1) ∧ v8 = .int .i64 k ∧ v7 = .int .i64 x ∧ (0 < j → -((j : Int) - 1) ≤ k ∧ k ≤ (j : Int) - 1 ∧ (k + j) % 2 = 1) ∧ -200 ≤ k ∧ k ≤ 200 ∧ 0 ≤ x ∧ x ≤ 400 ∧ RDiffAt a b w w1 j k x v6 wr) (fun _ _ _ v9 _ => (intOf v9 + 1).toNat)
  case atStart =>
    have hlast := tab_last a b
    have hin : -(dist a b : Int) ≤ (a.length : Int) - b.length ∧ (a.length : Int) - b.length ≤ dist a b ∧ ((a.length : Int) - b.length + dist a b) % 2 = 0 := by
      rcases Classical.em (-(dist a b : Int) ≤ (a.length : Int) - b.length ∧ (a.length : Int) - b.length ≤ dist a b ∧ ((a.length : Int) - b.length + dist a b) % 2 = 0) with h | h
      · exact h
      · rw [atV_out (tabV_len a b _) (by omega)] at hlast; cases hlast
    exact ⟨dist a b + 1, _, _, Nat.le_refl _, by go_num, rfl, rfl, (fun _ => by omega), by omega, by omega, by omega, by omega, [], by rw [List.append_nil]; rfl, by simp, by simp, HO2.out, HE2.out⟩
  case round =>
    obtain ⟨j, k, x, hj, rfl, rfl, rfl, hkj, hk1, hk2, hx1, hx2, ms, hms, hwf, hlen, ho, hE2⟩ := hrel
    have HM := Lib.hid hms; have HW := Lib.hid hwf; have HO := Lib.hid ho; have HE3 := Lib.hid hE2; have HKJ := Lib.hid hkj
    clear hms hwf ho hE2 hkj
    obtain ⟨oA, oc, hv6, hoc, hoC⟩ := ownM_mts HO.out HW.out
    subst hv6
    have HOC := Lib.hid hoC.2.2; clear hoC
    rcases Nat.lt_trichotomy j 1 with hj0 | rfl | hj2
    · obtain rfl : j = 0 := by omega
      go_wp2_with fail
      go_ret
      have hfin : ms = diffV a b (dist a b) := by rw [← HM.out]; rfl
      refine ⟨_, ms.length, rfl, ?_, ?_, HE.out.trans HE3.out⟩
      · rw [← hfin]; exact own_base HO.out HE.out.size
      · rw [← hfin]; exact HW.out
    · by_cases hx : 0 < x
      · have hback : backV a b 1 k x = [⟨0, -k, x⟩] := by rw [backV, if_pos hx]
        have HBK := Lib.hid hback; clear hback
        go_wp2_with (at_builtin; refine wpList_append_size rfl _ _ 52 rfl w1.heap.size 55 inf _ 3 24 underM I1.out I2.out I3.out I4.out rfl (by decide) _ 1 (Mt.cells ⟨0, -k, x⟩) oA ms.length oc (ms.flatMap Mt.cells) rfl rfl (by rw [flat_len mt_cells_len]) (one_mt _) (by simp only [maxLen]; omega) (by omega) (own_first (m := ⟨0, -k, x⟩) HE3.out.size) (HOC.out.ext ((Ext.refl wr).alloc _)) (by have := HE3.out.size; simp; omega) ?_; intro v2 w3 hown2 hg2)
        have HO4 := Lib.hid hown2; have HE4 := Lib.hid ((HE3.out.alloc _).own3 (own_first (m := ⟨0, -k, x⟩) HE3.out.size) hg2); clear hown2 hg2
        go_roundw
        case rel =>
          refine ⟨0, k, 0, by omega, by go_num, rfl, rfl, (fun h => by omega), by omega, by omega, by omega, by omega, ⟨0, -k, x⟩ :: ms, ?_, ?_, by simp; omega, ?_, HE4.out⟩
          · rw [← HM.out, HBK.out]; rfl
          · intro m hm
            rcases List.mem_cons.1 hm with rfl | hm
            · exact mt_wf_small (by omega) (by omega) (by omega)
            · exact HW.out m hm
          · rw [List.flatMap_cons, List.length_cons, Nat.add_comm]; exact HO4.out
        case measure => simp [intOf]
      · have hback : backV a b 1 k x = [] := by rw [backV, if_neg hx]
        have hx' : decide (0 < x) = false := by simpa using hx
        have HBK := Lib.hid hback; clear hback
        go_wp2_with fail
        go_roundw
        case rel =>
          refine ⟨0, k, 0, by omega, by go_num, rfl, rfl, (fun h => by omega), by omega, by omega, by omega, by omega, ms, ?_, HW.out, by omega, HO.out, HE3.out⟩
          rw [← HM.out, HBK.out]; rfl
        case measure => simp [intOf]
    · obtain ⟨d, rfl⟩ : ∃ d, j = d + 2 := ⟨j - 2, by omega⟩
      obtain ⟨kj1, kj2, kj3⟩ := HKJ.out (by omega)
      obtain ⟨bt, off, s, hA, hbt, hs, hrs, hcw⟩ := HR.out.get (k := d) (by omega)
      cases hA
      rw [Nat.zero_add] at hcw
      have hst : s.t = tabV a b d := by
        have h1 : (L.map (·.t))[d]? = some s.t := by rw [List.getElem?_map, hs]; rfl
        rw [HT.out, tabsV, List.getElem?_map, List.getElem?_range (by omega)] at h1
        simpa using h1.symm
      have hsn : s.n = d + 1 := by rw [← hrs.2.1, hst, tabV_len]
      obtain ⟨sa, sn, sc, stt⟩ := s
      simp only at hst hsn hrs hcw
      subst hst hsn
      have hc := HE3.out.cell hcw
      have hint : Ints w1 sa (d + 1) (tabV a b d) := hrs.2
      have HI := Lib.hid hint; have HCW := Lib.hid hcw; clear hint hrs hs hcw
      obtain ⟨i, hi⟩ : ∃ i : Nat, (k + ((d : Int) + 1)) / 2 = i := ⟨((k + ((d : Int) + 1)) / 2).toNat, by omega⟩
      have hile : i ≤ d + 1 := by omega
      have hki : 2 * (i : Int) - ((d + 1 : Nat) : Int) = k := by omega
      have HIX := Lib.hid hi; have HKI := Lib.hid hki
      have e1 : ((d + 2 : Nat) : Int) - 1 = (d : Int) + 1 := by omega
      rw [e1]
      have e2 : (d : Int) + 1 - 1 = d := by omega
      have e3 : (0 : Int) ≤ (k + ((d : Int) + 1)) := by omega
      have hback0 : backV a b (d + 2) k x = (if (stepV (tabV a b d) k).1 < x then [⟨(stepV (tabV a b d) k).1, (stepV (tabV a b d) k).1 - k, x - (stepV (tabV a b d) k).1⟩] else []) ++ backV a b (d + 1) (stepV (tabV a b d) k).2 ((atV (tabV a b d) (stepV (tabV a b d) k).2).getD 0) := by rw [backV]
      cases hdn : downV (tabV a b d) (d + 1) i with
      | true =>
        obtain ⟨q, hq, hid, hst⟩ := down_yes (tabV_len a b d) (by omega) hile hdn
        rw [hki] at hst
        have hqb := tabV_bound a b d q (List.mem_of_getElem? hq)
        obtain ⟨bc, oc2, q', rfl, hbc, hq', hcq⟩ := (HI.out.ext HE3.out).get hid
        obtain rfl : q = q' := by rw [hq] at hq'; simpa using hq'
        have hx' : (atV (tabV a b d) (k + 1)).getD 0 = q := by
          rw [atV_in (tabV_len a b d) (by omega) (by omega) (by omega), show ((k + 1 + (d : Int)) / 2).toNat = i by omega, hq]; rfl
        rw [hst] at hback0
        simp only at hback0
        rw [hx'] at hback0
        have hkd : k + 1 ≤ (d : Int) := by omega
        have HBK := Lib.hid hback0; have HDN := Lib.hid hdn; have HCQ := Lib.hid hcq
        clear hback0 hdn hq hq' hst hx' hi hki hcq
        have hik : (i : Int) < (d : Int) + 1 := by omega
        go_wp2_with fail
        rw [HIX.out]
        refine (down_is HDN.out (HI.out.ext HE3.out) rfl (by omega) hile).mono ?_
        rintro e w4 ⟨rfl, hE⟩
        have HE4 := Lib.hid hE; have HE5 := Lib.hid (HE3.out.trans hE); clear hE hc
        have hc := HE5.out.cell HCW.out
        have hcq := HE4.out.cell HCQ.out
        by_cases hx : q < x
        · rw [if_pos hx] at HBK
          go_wp2_with (at_builtin; refine wpList_append_size rfl _ _ 52 rfl w1.heap.size 55 inf _ 3 24 underM I1.out I2.out I3.out I4.out rfl (by decide) _ 1 (Mt.cells ⟨q, q - k, x - (q)⟩) oA ms.length oc (ms.flatMap Mt.cells) rfl rfl (by rw [flat_len mt_cells_len]) (one_mt _) (by simp only [maxLen]; omega) (by omega) (own_first (m := ⟨q, q - k, x - (q)⟩) HE5.out.size) (HOC.out.ext (HE4.out.alloc _)) (by have := HE5.out.size; simp; omega) ?_; intro v2 w3 hown2 hg2)
          have HO4 := Lib.hid hown2; have HE6 := Lib.hid ((HE5.out.alloc _).own3 (own_first (m := ⟨q, q - k, x - q⟩) HE5.out.size) hg2); clear hown2 hg2
          go_wp2_with fail
          go_roundw
          case rel =>
            refine ⟨d + 1, k + 1, q, by omega, by go_num, by go_num, by go_num, (fun _ => by omega), by omega, by omega, by omega, by omega, ⟨q, q - k, x - q⟩ :: ms, ?_, ?_, by simp; omega, ?_, HE6.out⟩
            · rw [← HM.out, HBK.out]; simp
            · intro m hm
              rcases List.mem_cons.1 hm with rfl | hm
              · exact mt_wf_small (by omega) (by omega) (by omega)
              · exact HW.out m hm
            · rw [List.flatMap_cons, List.length_cons, Nat.add_comm]; exact HO4.out
          case measure => simp [intOf]; omega
        · rw [if_neg hx] at HBK
          have hxf := nd hx
          go_wp2_with fail
          go_roundw
          case rel =>
            refine ⟨d + 1, k + 1, q, by omega, by go_num, by go_num, by go_num, (fun _ => by omega), by omega, by omega, by omega, by omega, ms, ?_, HW.out, by omega, own_stab3 HE4.out HO.out, HE5.out⟩
            rw [← HM.out, HBK.out]; simp
          case measure => simp [intOf]; omega
      | false =>
        obtain ⟨p, hp, hi0, hst⟩ := down_no (tabV_len a b d) (by omega) hile hdn
        rw [hki] at hst
        have hpb := tabV_bound a b d p (List.mem_of_getElem? hp)
        obtain ⟨i', rfl⟩ : ∃ i', i = i' + 1 := ⟨i - 1, by omega⟩
        rw [show i' + 1 - 1 = i' by omega] at hp
        obtain ⟨bc, oc2, p', rfl, hbc, hp', hcq⟩ := (HI.out.ext HE3.out).get (k := i') (by omega)
        obtain rfl : p = p' := by rw [hp] at hp'; simpa using hp'
        have hx' : (atV (tabV a b d) (k - 1)).getD 0 = p := by
          rw [atV_in (tabV_len a b d) (by omega) (by omega) (by omega), show ((k - 1 + (d : Int)) / 2).toNat = i' by omega, hp]; rfl
        rw [hst] at hback0
        simp only at hback0
        rw [hx'] at hback0
        have hkd : -(d : Int) ≤ k - 1 := by omega
        have HBK := Lib.hid hback0; have HDN := Lib.hid hdn; have HCQ := Lib.hid hcq
        clear hback0 hdn hp hp' hst hx' hi hki hcq
        have hik : (i' : Int) < (d : Int) + 1 := by omega
        have e4 : ((i' : Int) + 1) - 1 = i' := by omega
        have e5 : (((i' + 1 : Nat) : Int)) - 1 = i' := by omega
        go_wp2_with fail
        rw [HIX.out]
        refine (down_is HDN.out (HI.out.ext HE3.out) rfl (by omega) hile).mono ?_
        rintro e w4 ⟨rfl, hE⟩
        have HE4 := Lib.hid hE; have HE5 := Lib.hid (HE3.out.trans hE); clear hE hc
        have hc := HE5.out.cell HCW.out
        have hcq := HE4.out.cell HCQ.out
        by_cases hx : p + 1 < x
        · rw [if_pos hx] at HBK
          go_wp2_with (at_builtin; refine wpList_append_size rfl _ _ 52 rfl w1.heap.size 55 inf _ 3 24 underM I1.out I2.out I3.out I4.out rfl (by decide) _ 1 (Mt.cells ⟨p + 1, p + 1 - k, x - (p + 1)⟩) oA ms.length oc (ms.flatMap Mt.cells) rfl rfl (by rw [flat_len mt_cells_len]) (one_mt _) (by simp only [maxLen]; omega) (by omega) (own_first (m := ⟨p + 1, p + 1 - k, x - (p + 1)⟩) HE5.out.size) (HOC.out.ext (HE4.out.alloc _)) (by have := HE5.out.size; simp; omega) ?_; intro v2 w3 hown2 hg2)
          have HO4 := Lib.hid hown2; have HE6 := Lib.hid ((HE5.out.alloc _).own3 (own_first (m := ⟨p + 1, p + 1 - k, x - (p + 1)⟩) HE5.out.size) hg2); clear hown2 hg2
          go_wp2_with fail
          go_roundw
          case rel =>
            refine ⟨d + 1, k - 1, p, by omega, by go_num, by go_num, by go_num, (fun _ => by omega), by omega, by omega, by omega, by omega, ⟨p + 1, p + 1 - k, x - (p + 1)⟩ :: ms, ?_, ?_, by simp; omega, ?_, HE6.out⟩
            · rw [← HM.out, HBK.out]; simp
            · intro m hm
              rcases List.mem_cons.1 hm with rfl | hm
              · exact mt_wf_small (by omega) (by omega) (by omega)
              · exact HW.out m hm
            · rw [List.flatMap_cons, List.length_cons, Nat.add_comm]; exact HO4.out
          case measure => simp [intOf]; omega
        · rw [if_neg hx] at HBK
          have hxf := nd hx
          go_wp2_with fail
          go_roundw
          case rel =>
            refine ⟨d + 1, k - 1, p, by omega, by go_num, by go_num, by go_num, (fun _ => by omega), by omega, by omega, by omega, by omega, ms, ?_, HW.out, by omega, own_stab3 HE4.out HO.out, HE5.out⟩
            rw [← HM.out, HBK.out]; simp
          case measure => simp [intOf]; omega
end Go.Proofs.Ytmmppfopokbcfaa

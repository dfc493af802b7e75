/- HiRar HiBst: parts of the proof of TopDifferences, one text behind the other. No condition. -/
import Derived.Test.YtmmcjcaccicheaaGreatDoorT19
import Derived.Test.YtmmcjcaccicheaaGreatDoorT20
import Derived.Test.YtmmcjcaccicheaaGreatDoorT09
import Derived.Test.YtmmcjcaccicheaaGreatDoorT08
/- Contract: rarity. -/
namespace Go.Proofs.YtmmcjcaccicheaaGreatDoor
open Go.RowKit

set_option maxHeartbeats 4000000 in
theorem rar_any (A : Option Addr) (n c g N : Nat) (ls : Lns) (φ : ByteArray → Nat) (w : World) (ha : Strs w A n ls) (hm : MapI w g N (fun s => (φ s : Int))) (hn : n ≤ 1000) (h0 : 0 < n) (hφ : ∀ s, φ s ≤ 1000) :
    Calls Tryz.prog 75 #[.slice A n c, .map (some g)] w fun e w' => e = .returned (.int .i64 (least (ls.map φ))) ∧ Ext w w' := by
  obtain rfl : ls.length = n := ha.1
  have HA := Lib.hid ha; have HM := Lib.hid hm; clear ha hm
  obtain ⟨b0, o0, s0, hA0, hb0, hs0, hz0, hc0⟩ := HA.out.get (k := 0) h0
  have hrun := HM.out.look (s := s0) (by unfold Reach at hz0; unfold maxLen; omega)
  rw [Nat.add_zero] at hc0
  subst hA0
  go_enter Tryz.func75, Tryz.ntmps75
  go_wp2_with fail
  have HC0 := Lib.hid hc0; have HS0 := Lib.hid hs0; clear hrun hc0 hs0
  go_loopw [5, 15] (fun v5 v15 wr => ∃ (k x : Nat), k ≤ ls.length ∧ x ≤ 1000 ∧ v5 = .int .i64 x ∧ v15 = .int .i64 k ∧ ((k = 0 ∧ x = φ s0) ∨ (0 < k ∧ x = least ((ls.take k).map φ))) ∧ Ext w wr) (fun _ v15 _ => ls.length - (intOf v15).toNat)
  case atStart => exact ⟨0, φ s0, Nat.zero_le _, hφ _, rfl, rfl, .inl ⟨rfl, rfl⟩, Ext.refl _⟩
  case round =>
    obtain ⟨k, x, hk, hx, rfl, rfl, hr, hE⟩ := hrel
    have HR := Lib.hid hr; have HE := Lib.hid hE; clear hr hE
    by_cases hlt : k < ls.length
    case neg =>
      obtain rfl : k = ls.length := by omega
      go_wp2_with fail
      go_ret
      refine ⟨ret_int ?_, HE.out⟩
      rcases HR.out with ⟨h, _⟩ | ⟨_, h⟩
      · omega
      · rw [h, List.take_of_length_le (Nat.le_refl _)]
    obtain ⟨b1, o1, s, hA1, hb1, hs, hz, hc⟩ := (HA.out.ext HE.out).get hlt
    cases hA1
    obtain ⟨z, hzz⟩ : ∃ z, φ s = z := ⟨_, rfl⟩
    have hz2 : z ≤ 1000 := by rw [← hzz]; exact hφ s
    have hrun := (HM.out.ext HE.out).look (s := s) (by unfold Reach at hz; unfold maxLen; omega)
    rw [hzz] at hrun
    have HS := Lib.hid hs; have HZ := Lib.hid hzz; clear hs hzz
    go_wp2_with fail
    go_roundw
    case rel =>
      refine ⟨k + 1, min x z, by omega, by omega, by go_num, by go_num, .inr ⟨by omega, ?_⟩, HE.out⟩
      rw [take_succ_of HS.out, List.map_append, List.map_cons, List.map_nil, HZ.out]
      rcases HR.out with ⟨rfl, h⟩ | ⟨h0, h⟩
      · have := HS.out; rw [HS0.out] at this
        obtain rfl : s0 = s := by simpa using this
        simp [least, h, HZ.out]
      · rw [least_snoc, h]
        intro e
        have := congrArg List.length e
        simp only [List.length_map, List.length_take, List.length_nil] at this
        omega
    case measure => simp [intOf]; omega
end Go.Proofs.YtmmcjcaccicheaaGreatDoor
/- Contract: the program's Best. -/
namespace Go.Proofs.YtmmcjcaccicheaaGreatDoor
open Go.RowKit Go.WideMaps Go.Maps
attribute [local go_sem] Oper.semAt_some

theorem yall_mem {a b : Lns} {m : Mt} (h : m ∈ yall a b a.length) : ∃ i k l : Nat, m = ⟨i, k, l⟩ ∧ runN a b i k = l ∧ l ≠ 0 ∧ i + l ≤ a.length ∧ k + l ≤ b.length := by
  unfold yall at h
  obtain ⟨i, hi, hm⟩ := List.mem_flatMap.1 h
  unfold yrow at hm
  obtain ⟨k, hk, rfl⟩ := List.mem_map.1 hm
  obtain ⟨hk1, hk2⟩ := List.mem_filter.1 hk
  have hk3 := (plc_mem hk1).1
  have hi2 := List.mem_range.1 hi
  obtain ⟨p1, p2, _⟩ := runN_spec (a := a) (b := b) (i := i) (k := k) (by omega) (by omega)
  exact ⟨i, k, _, rfl, rfl, by simpa using hk2, p1, p2⟩

/-- No panic is let out. -/
def NoPH (Q : Exit → Act → World → Prop) (e : Exit) (a : Act) (w : World) : Prop := (∀ c, e ≠ .panic c) ∧ Q e a w

abbrev runsF (ga gb : Nat) : Value := .func (.func 95) #[] #[.pointer (some ⟨gb, 0, none⟩), .pointer (some ⟨ga, 0, none⟩)]
theorem hruns_any (A B : Option Addr) (n c m d : Nat) (w : World) :
    Calls Tryz.prog 74 #[.slice A n c, .slice B m d] w fun e w' => e = .returned (runsF w.heap.size (w.heap.size + 1)) ∧ (w.alloc (boxS A n c)).alloc (boxS B m d) = w' := by
  go_enter Tryz.func74, Tryz.ntmps74
  go_wp2_with fail
  go_ret
  exact ⟨rfl, rfl⟩

theorem MapI.lv {S : Nat → Prop} {w w' : World} {g n : Nat} {f : ByteArray → Int} (h : MapI w g n f) (k : Lv S w w') (hS : ¬ S g) : MapI w' g n f := by
  obtain ⟨D, ⟨es, clock, hb, r⟩, h2⟩ := h
  exact ⟨D, ⟨es, clock, (k.2 g (Array.getElem?_eq_some_iff.1 hb).1 hS).trans hb, r⟩, h2⟩
theorem mstep_yes {a : Lns} {M : Mt} {r i k l n : Nat} (hn : rarV a i l = n) (hc : n < r ∨ (n = r ∧ M.n < l ∧ n ≤ 64)) : mstep a (M, r) ⟨i, k, l⟩ = (⟨i, k, l⟩, n) := by
  unfold mstep; subst hn; exact if_pos hc
theorem mstep_no {a : Lns} {M : Mt} {r i k l n : Nat} (hn : rarV a i l = n) (hc : ¬ (n < r ∨ (n = r ∧ M.n < l ∧ n ≤ 64))) : mstep a (M, r) ⟨i, k, l⟩ = (M, r) := by
  unfold mstep; subst hn; exact if_neg hc
abbrev boxMp (g : Nat) : Obj := .cells #[.map (some g)] 138

set_option maxRecDepth 100000 in
set_option maxHeartbeats 8000000 in
theorem best_any (A B : Option Addr) (n c m d : Nat) (a b : Lns) (w : World) (ha : Strs w A n a) (hb : Strs w B m b) (hn : n ≤ 60) (hm : m ≤ 60) (hc : n ≤ c) :
    Calls Tryz.prog 54 #[.slice A n c, .slice B m d] w fun e w' => e = .returned (bestR (bestV a b)) ∧ Ext w w' := by
  obtain rfl : a.length = n := ha.1
  obtain rfl : b.length = m := hb.1
  have HA := Lib.hid ha; have HB := Lib.hid hb; clear ha hb
  have hmm := @run_makeMap Tryz.prog
  refine calls_marks Tryz.func54 rfl ?_
  simp only [Tryz.ntmps54, List.size_toArray, List.length_cons, List.length_nil, Nat.reduceAdd, Nat.reduceSub, Array.replicate_succ, Array.replicate_zero, List.push_toArray, List.append_toArray, List.nil_append, List.cons_append]
  go_wp2_with fail
  obtain ⟨gr, hgr⟩ : ∃ gr, gr = w.heap.size + 1 := ⟨_, rfl⟩
  obtain ⟨gm, hgm⟩ : ∃ gm, gm = w.heap.size + 1 + 1 := ⟨_, rfl⟩
  obtain ⟨gx, hgx⟩ : ∃ gx, gx = w.heap.size + 1 + 1 + 1 := ⟨_, rfl⟩
  obtain ⟨w1, hw1, hb2, hb4, hbm, hb6, hE1, hsz1⟩ : ∃ w1, w1 = (((w.alloc (boxS A a.length c)).alloc (Mt.obj ⟨0, 0, 0⟩)).alloc (.map #[] 0)).alloc (boxMp (w.heap.size + 1 + 1)) ∧ Blk w1 w.heap.size (boxS A a.length c) ∧ Blk w1 gr (Mt.obj ⟨0, 0, 0⟩) ∧
      MapI w1 gm 0 (fun s => (cntH (a.take 0) s : Int)) ∧ Blk w1 gx (boxMp gm) ∧ Ext w w1 ∧ w1.heap.size = w.heap.size + 4 :=
    ⟨_, rfl, ((Blk.new w _ rfl).alloc _).alloc _ |>.alloc _, by rw [hgr]; exact ((Blk.new (w.alloc _) _ (by simp)).alloc _).alloc _, by rw [hgm]; exact (MapI.new ((w.alloc _).alloc _) (by simp)).ext ((Ext.refl _).alloc _), by rw [hgx, hgm]; exact Blk.new (((w.alloc _).alloc _).alloc _) _ (by simp), ((((Ext.refl w).alloc _).alloc _).alloc _).alloc _, by simp⟩
  rw [← hw1, ← hgx, ← hgm, ← hgr]
  have HB2 := Lib.hid hb2; have HB4 := Lib.hid hb4; have HBM := Lib.hid hbm; have HB6 := Lib.hid hb6; have HE1 := Lib.hid hE1; have HSZ := Lib.hid hsz1
  have HGR := Lib.hid hgr; have HGM := Lib.hid hgm; have HGX := Lib.hid hgx
  clear hw1 hb2 hb4 hbm hb6 hE1 hsz1 hgr hgm hgx
  go_loopw [16] (fun v16 wr => ∃ k : Nat, k ≤ a.length ∧ v16 = .int .i64 k ∧ MapI wr gm k (fun s => (cntH (a.take k) s : Int)) ∧ Blk wr w.heap.size (boxS A a.length c) ∧ Blk wr gr (Mt.obj ⟨0, 0, 0⟩) ∧ Blk wr gx (boxMp gm) ∧ Ext w wr ∧ w.heap.size + 4 ≤ wr.heap.size) (fun v16 _ => a.length - (intOf v16).toNat)
  case atStart => exact ⟨0, Nat.zero_le _, rfl, HBM.out, HB2.out, HB4.out, HB6.out, HE1.out, Nat.le_of_eq HSZ.out.symm⟩
  clear HB2 HB4 HBM HB6 HE1 HSZ
  case round =>
    obtain ⟨k, hk, rfl, hbm, hb2, hb4, hb6, hE, hsz⟩ := hrel
    have HB2 := Lib.hid hb2; have HB4 := Lib.hid hb4; have HBM := Lib.hid hbm; have HB6 := Lib.hid hb6; have HE := Lib.hid hE
    clear hbm hb2 hb4 hb6 hE
    by_cases hlt : k < a.length
    case pos =>
      obtain ⟨ba, oa, s, hA, hba, hs, hs2, hc1⟩ := (HA.out.ext HE.out).get hlt
      subst hA
      obtain ⟨z, hz⟩ : ∃ z, cntH (a.take k) s = z := ⟨_, rfl⟩
      have hz2 : z ≤ k := by have := cnt_leH (a.take k) s; rw [List.length_take] at this; omega
      have hrun := HBM.out.look (s := s) (by unfold Reach at hs2; unfold maxLen; omega)
      rw [hz] at hrun
      have c6 := HB6.out.cell 0
      replace c6 : wr.cell? ⟨gx, 0, none⟩ = some (.map (some gm)) := c6
      have HS := Lib.hid hs; have HZ := Lib.hid hz; clear hs hz
      go_wp2_with (at_mapUpdate; refine wpList_mapI_put _ rfl _ _ _ rfl gm k _ rfl HBM.out (by unfold maxLen; omega) s (z + 1) rfl (by simp [Act.eval]) (by unfold Reach at hs2; unfold maxLen; omega) (WalkArith.wf_i64 (by omega)) ?_; intro w2 hm2 hg2)
      go_roundw
      case rel =>
        have hq1 := HGR.out; have hq2 := HGM.out; have hq3 := HGX.out
        have far : ∀ {g : Nat} {o : Obj}, Blk wr g o → g ≠ gm → Blk w2 g o := fun hb hne => (hg2.block _ hb.lt (fun e => hne (by simpa using e))).trans hb
        refine ⟨k + 1, by omega, by go_num, ?_, far HB2.out (by omega), far HB4.out (by omega), far HB6.out (by omega), Below.grown HE.out hg2 (by omega) (fun j hj => by cases hj; omega), Nat.le_trans hsz hg2.size⟩
        have he : (fun t => if t = s then ((z : Int) + 1) else ((cntH (a.take k) t : Nat) : Int)) = fun t => ((cntH (a.take (k + 1)) t : Nat) : Int) := by
          funext t
          rw [cnt_takeH HS.out]
          by_cases h : t = s
          · subst h; rw [if_pos rfl, if_pos rfl, HZ.out]; omega
          · rw [if_neg h, if_neg (fun e => h e.symm)]; omega
        rw [← he]; exact hm2
      case measure => simp [intOf]; omega
    case neg =>
      obtain rfl : k = a.length := by omega
      have c2 := HB2.out.cell 0
      replace c2 : wr.cell? ⟨w.heap.size, 0, none⟩ = some (.slice A a.length c) := c2
      have l2 := HB2.out.lt
      go_wp2_with fail
      refine (hruns_any _ _ _ _ _ _ _).mono ?_
      rintro e w0 ⟨rfl, hw0⟩
      obtain ⟨N, hN⟩ : ∃ N, N = wr.heap.size := ⟨_, rfl⟩
      obtain ⟨N1, hN1⟩ : ∃ N1, N1 = wr.heap.size + 1 := ⟨_, rfl⟩
      obtain ⟨N2, hN2⟩ : ∃ N1, N1 = wr.heap.size + 1 + 1 := ⟨_, rfl⟩
      obtain ⟨N3, hN3⟩ : ∃ N1, N1 = wr.heap.size + 1 + 1 + 1 := ⟨_, rfl⟩
      have hs0 : w0.heap.size = N + 4 := by rw [← hw0, hN]; simp
      have he0 : Ext wr w0 := by rw [← hw0]; exact ((((Ext.refl wr).alloc _).alloc _).alloc _).alloc _
      have bN : Blk w0 N (Mt.obj ⟨0, 0, 0⟩) := by rw [← hw0, hN]; exact (((Blk.new wr _ rfl).alloc _).alloc _).alloc _
      have bN1 : Blk w0 N1 (.cells #[.int .i64 65] 3) := by rw [← hw0, hN1]; exact ((Blk.new (wr.alloc _) _ (by simp)).alloc _).alloc _
      have bA : Blk w0 N2 (boxS A a.length c) := by rw [← hw0, hN2]; exact (Blk.new ((wr.alloc _).alloc _) _ (by simp)).alloc _
      have bB : Blk w0 N3 (boxS B b.length d) := by rw [← hw0, hN3]; exact Blk.new (((wr.alloc _).alloc _).alloc _) _ (by simp)
      have b2 := HB2.out.ext he0; have b4 := HB4.out.ext he0; have b6 := HB6.out.ext he0; have bm := HBM.out.ext he0
      have hE0 : Ext w w0 := HE.out.trans he0
      have hwr : w.heap.size + 4 ≤ N := by rw [hN]; exact hsz
      simp only [World.size_alloc]
      rw [← hN3, ← hN2, ← hN1, ← hN]
      have hq1 := HGR.out; have hq2 := HGM.out; have hq3 := HGX.out
      have hord : N1 = N + 1 ∧ N2 = N + 2 ∧ N3 = N + 3 ∧ gr < N ∧ gm < N ∧ gx < N ∧ w.heap.size < N ∧ w.heap.size ≤ gr := by omega
      obtain ⟨X, hX⟩ : ∃ X : Nat → Prop, X = fun g => g = N ∨ g = N1 := ⟨_, rfl⟩
      have hXN : X N := by rw [hX]; exact .inl rfl
      have hXN1 : X N1 := by rw [hX]; exact .inr rfl
      have hXn : ∀ g, X g → g = N ∨ g = N1 := fun g h => by rw [hX] at h; exact h
      have hK : ∀ W, Lv X w0 W → Kr A B c d a b N2 N3 W := fun W hv => by
        have nX : ∀ g, g ≠ N → g ≠ N1 → ¬ X g := fun g h1 h2 h => by rcases hXn g h with h | h; exact h1 h; exact h2 h
        have hEW : Ext w W := hv.extBelow hE0 (fun g hg => nX g (by omega) (by omega))
        exact ⟨HA.out.ext hEW, HB.out.ext hEW, bA.lv hv (nX _ (by omega) (by omega)), bB.lv hv (nX _ (by omega) (by omega))⟩
      have hit := runs_iter A B c d a b N2 N3 X w0 hK hn hm
      have HIT := Lib.hid hit; have B2 := Lib.hid b2; have B4 := Lib.hid b4; have B6 := Lib.hid b6; have BM := Lib.hid bm; have E0 := Lib.hid hE0; have S0 := Lib.hid hs0; have HO := Lib.hid hord
      have BN := Lib.hid bN; have BN1 := Lib.hid bN1; have XN := Lib.hid hXN; have XN1 := Lib.hid hXN1; have XO := Lib.hid hXn
      clear hw0 hs0 he0 bN bN1 bA bB b2 b4 b6 bm hE0 hwr hX hK hit hord HB2 HB4 HB6 HBM HE hN hN1 hN2 hN3 c2 l2 hq1 hq2 hq3 HGR HGM HGX hXN hXN1 hXn
      go_wp2_with fail
      obtain ⟨AT, hAT⟩ : ∃ AT : Nat → Value → Act, AT = fun g v => { tmps := #[.slice A a.length c, .slice B b.length d, .pointer (some ⟨w.heap.size, 0, none⟩), undef, .pointer (some ⟨gr, 0, none⟩), .bool false, .pointer (some ⟨gx, 0, none⟩), undef, u8, .pointer (some ⟨N, 0, none⟩), .pointer (some ⟨N1, 0, none⟩), .pointer (some ⟨g, 0, none⟩), undef, .map (some gm), .slice A a.length c, .int .i64 a.length, .int .i64 a.length, .bool false, u18, u19, u20, u21, u22, u23, u24, .slice A a.length c, .slice B b.length d, runsF N2 N3, v, undef, undef, undef, undef, undef, undef, undef, undef, undef, undef, undef, undef, undef, undef, undef, undef, undef, undef, undef, undef, undef, undef, undef, undef, undef, undef, undef, undef, undef, undef, undef, undef, undef, undef, undef], defers := [] } := ⟨_, rfl⟩
      refine wp_of_In (wpIn_range2 (gf := 95) rfl (enters_of Tryz.func95 (by kernel_rfl) rfl) HIT.out (fun x vs S W h => by rw [h]; rfl) (fun x vs S W W' h _ => h) (fun x vs S S' W h _ => h) (fun g h => h.elim)
        (fun pre S W => ∃ (M : Mt) (r : Nat), pre.foldl (mstep a) (⟨0, 0, 0⟩, 65) = (M, r) ∧ r ≤ 1000 ∧ S = X ∧ Blk W N M.obj ∧ Blk W N1 (.cells #[.int .i64 r] 3) ∧ Lv X w0 W)
        (fun _ _ _ _ => False) ?hI (fun _ _ _ _ _ h _ => h.elim) X ⟨⟨0, 0, 0⟩, 65, rfl, by omega, rfl, BN.out, BN1.out, Lv.refl _ _⟩ (fun g h => by have := HO.out; have := S0.out; rcases XO.out g h with h | h <;> omega)
        (fun S W e h => ⟨Lv.of_ext e, h⟩)
        (fun x vs W a₁ W' => a₁ = AT W.heap.size x.val ∧ Ext W W' ∧ Blk W' W.heap.size x.obj) (fun x vs W a₁ W' h => h.2.1) ?assign ?body ?done (fun _ _ _ _ _ _ _ _ h _ => h.elim))
      case hI =>
        rintro pre S W W' ⟨M, r, h1, h2, h3, h4, h5, h6⟩ hv
        have hsz := S0.out; have ho := HO.out
        exact ⟨M, r, h1, h2, h3, h4.lv hv (fun h => by rcases h with h | h; exact h; omega), h5.lv hv (fun h => by rcases h with h | h; exact h; omega), lv_firm (Nat.le_refl _) h6 hv⟩
      case assign =>
        rintro l x vs S W K rfl hK
        simp only [Mt.val]
        gi_wp2
        exact ⟨rfl, (Ext.refl W).alloc _, Blk.new W _ rfl⟩
      case body =>
        rintro l pre x vs S W0 W' W a₁ ⟨rfl, hEa, hba⟩ hle0 hvb ⟨M, r, h1, h2, h3, h4, h5, h6⟩ hleW hpx henc
        obtain ⟨i, k, ln, rfl, hrn, hl0, hil, hkl⟩ := yall_mem (m := x) (hpx.subset (by simp))
        have hsz := S0.out; have ho := HO.out
        have nX : ∀ g, g ≠ N → g ≠ N1 → ¬ X g := fun g h1 h2 h => by rcases XO.out g h with h | h; exact h1 h; exact h2 h
        have hW0 : W0.heap.size ≠ N ∧ W0.heap.size ≠ N1 := by omega
        have bx : Blk W W0.heap.size (Mt.obj ⟨i, k, ln⟩) := hba.lv hvb (fun h => hba.nc h.2)
        have hEW : Ext w W := h6.extBelow E0.out (fun g hg => nX g (by omega) (by omega))
        have b2 := B2.out.lv h6 (nX _ (by omega) (by omega))
        have b6 := B6.out.lv h6 (nX _ (by omega) (by omega))
        have bm := BM.out.lv h6 (nX _ (by omega) (by omega))
        have sA := HA.out.ext hEW
        obtain ⟨A', hA'⟩ : ∃ A', (if c = i then A else A.map (fun x => x.add i)) = A' := ⟨_, rfl⟩
        have sA2 := strs_cut sA hc hil hA'
        obtain ⟨rr, hrr⟩ : ∃ rr, rarV a i ln = rr := ⟨_, rfl⟩
        have hr2 : rr ≤ 60 := by have := rarV_le a i ln; omega
        have hbxl := bx.lt
        have BX := Lib.hid bx; have BB2 := Lib.hid b2; have BB6 := Lib.hid b6; have BBM := Lib.hid bm; have SA2 := Lib.hid sA2; have AA' := Lib.hid hA'; have RR := Lib.hid hrr; have H1 := Lib.hid h1; have H3 := Lib.hid h3; have H4 := Lib.hid h4; have H5 := Lib.hid h5; have H6 := Lib.hid h6; have NX := Lib.hid nX; have W0N := Lib.hid hW0
        clear hEa hba hvb bx hEW b2 b6 bm sA hA' sA2 hrr h1 h3 h4 h5 h6 nX hsz ho hW0
        rw [hAT]
        gi_wp2
        have hic : (i : Int) ≤ c := by omega
        have e1 : IntKind.i64.wrap ((i : Int) + ln) = (i : Int) + ln := wrap_in (by omega) (by omega)
        have e2 : ((i : Int) + ln).toNat = i + ln := by omega
        have e3 : (0 : Int) ≤ (i : Int) + ln := by omega
        have e4 : (i : Int) + ln ≤ c := by omega
        have e5 : i + ln - i = ln := by omega
        have e6 : i ≤ i + ln := by omega
        obtain ⟨T, hT⟩ : ∃ T, T = (fun wx => Ext W wx) := ⟨_, rfl⟩
        have hTs : Stab T := by rw [hT]; exact Stab.ext _
        refine wpIn_region_X (T := T) T (by kernel_rfl) (by kernel_rfl) (fun ⟨_, _, h⟩ => h) (by rw [hT]; exact (Ext.refl _).drew) (wpX_takes (by kernel_rfl) (fun _ d _ _ _ h => by cases d <;> exact h) hTs (fun _ h => h) (fuel := 0) [0,1,2,3,4,5,6,7,8,9,10,11] _ _ (by kernel_rfl) ?_)
        iterate 8
          refine wpTk_want rfl (Eq.refl true) ?_
          apply Exists.intro
          refine ⟨fun wx hx => ?_, ?_⟩
          · rw [hT] at hx
            obtain ⟨d0, d1, d2⟩ := (BX.out.ext hx).cells3
            have d3 := (BB2.out.ext hx).cell 0
            replace d3 : wx.cell? ⟨w.heap.size, 0, none⟩ = some (.slice A a.length c) := d3
            clear hx
            go_simp
            with_reducible exact gives_ok _ _ _
          simp only [Act.put, List.setIfInBounds_toArray, List.set_cons_zero, List.set_cons_succ]
        refine wpTk_want rfl (Eq.refl true) ⟨.slice A' ln (c - i), fun wx hx => ?_, ?_⟩
        · clear hx
          go_simp
          rw [AA'.out]
          with_reducible exact gives_ok _ _ _
        simp only [Act.put, List.setIfInBounds_toArray, List.set_cons_zero, List.set_cons_succ]
        clear e1 e2 e3 e4 e5 e6 hic
        refine wpTk_want rfl (Eq.refl true) ⟨.map (some gm), fun wx hx => ?_, ?_⟩
        · rw [hT] at hx
          have d3 := (BB6.out.ext hx).cell 0
          replace d3 : wx.cell? ⟨gx, 0, none⟩ = some (.map (some gm)) := d3
          clear hx
          go_simp
          with_reducible exact gives_ok _ _ _
        simp only [Act.put, List.setIfInBounds_toArray, List.set_cons_zero, List.set_cons_succ]
        refine wpTk_want rfl (Eq.refl true) ⟨.int .i64 rr, fun wx hx => ?_, ?_⟩
        · rw [hT] at hx
          have r := rar_any A' ln (c - i) gm a.length ((a.drop i).take ln) (cntH a) wx (SA2.out.ext hx) (by have := BBM.out.ext hx; rwa [List.take_of_length_le (Nat.le_refl _)] at this) (by omega) (by omega) (fun s => by have := cnt_leH a s; omega)
          rw [show least (((a.drop i).take ln).map (cntH a)) = rr from RR.out] at r
          clear hx
          go_simp
          with_reducible exact gives_call _ _ _ r
        simp only [Act.put, List.setIfInBounds_toArray, List.set_cons_zero, List.set_cons_succ]
        refine wpTk_want rfl (Eq.refl true) ⟨.int .i64 rr, fun wx hx => ?_, ?_⟩
        · clear hx
          go_simp
          with_reducible exact gives_ok _ _ _
        simp only [Act.put, List.setIfInBounds_toArray, List.set_cons_zero, List.set_cons_succ]
        refine wpTk_nil ?_
        refine wpX_done (by kernel_rfl) (fun wz hz => ?_) _
        rw [hT] at hz
        have HZ := Lib.hid hz
        obtain ⟨d0, d1, d2⟩ := (BX.out.ext hz).cells3
        obtain ⟨c0, c1, c2⟩ := (H4.out.ext hz).cells3
        obtain ⟨f0, f1, f2⟩ := (H4.out.ext hz).free3
        have cr := (H5.out.ext hz).cell 0
        replace cr : wz.cell? ⟨N1, 0, none⟩ = some (.int .i64 r) := cr
        have fr := (H5.out.ext hz).free 0
        have ho1 : N1 ≠ N := by have := HO.out; omega
        clear hz hT hTs
        by_cases hlt2 : rr < r
        case pos =>
          have hst : (pre ++ [(⟨i, k, ln⟩ : Mt)]).foldl (mstep a) (⟨0, 0, 0⟩, 65) = (⟨i, k, ln⟩, rr) := by rw [List.foldl_append, H1.out, List.foldl_cons, List.foldl_nil]; exact mstep_yes RR.out (by omega)
          have HST := Lib.hid hst; clear hst
          gi_wp2
          have hSN : S N := by rw [H3.out]; exact XN.out
          have hSN1 : S N1 := by rw [H3.out]; exact XN1.out
          have ho := HO.out
          have hlv : Lv S W ((((wz.setCell ⟨N, 0, none⟩ (.int .i64 i)).setCell ⟨N, 1, none⟩ (.int .i64 k)).setCell ⟨N, 2, none⟩ (.int .i64 ln)).setCell ⟨N1, 0, none⟩ (.int .i64 rr)) :=
            ((((Lv.of_ext HZ.out).setCell (fun _ => hSN) _).setCell (fun _ => hSN) _).setCell (fun _ => hSN) _).setCell (fun _ => hSN1) _
          refine ⟨X, hlv, fun g h => .inl (by rw [H3.out]; exact h), fun g h => by have := S0.out; have := hlv.size; rcases XO.out g h with h | h <;> omega, ⟨i, k, ln⟩, rr, HST.out, by omega, rfl, ((H4.out.ext HZ.out).set3).far (by simp; omega) _, ?_, H6.out.trans hlv (fun g hg hs => by rw [H3.out] at hs; exact hs)⟩
          have := ((H5.out.ext HZ.out).far3 (k := N) (by omega) (.int .i64 i) (.int .i64 k) (.int .i64 ln)).put 0 (.int .i64 rr)
          simpa using this
        have hlt2' := nd hlt2
        by_cases hnr : rr = r
        case neg =>
          have q1 : ((rr : Int) == r) = false := by simp; omega
          have hst : (pre ++ [(⟨i, k, ln⟩ : Mt)]).foldl (mstep a) (⟨0, 0, 0⟩, 65) = (M, r) := by rw [List.foldl_append, H1.out, List.foldl_cons, List.foldl_nil]; exact mstep_no RR.out (by omega)
          have HST := Lib.hid hst; clear hst
          gi_wp2
          exact ⟨X, Lv.of_ext HZ.out, fun g h => .inl (by rw [H3.out]; exact h), fun g h => by have := HO.out; have := S0.out; have := HZ.out.size; rcases XO.out g h with h | h <;> omega, M, r, HST.out, h2, rfl, H4.out.ext HZ.out, H5.out.ext HZ.out, H6.out.ext HZ.out⟩
        subst hnr
        have q1 : ((rr : Int) == rr) = true := by simp
        have q2 : decide ((rr : Int) ≤ 64) = true := yd (by omega)
        by_cases hMl : M.n < ln
        case pos =>
          have hst : (pre ++ [(⟨i, k, ln⟩ : Mt)]).foldl (mstep a) (⟨0, 0, 0⟩, 65) = (⟨i, k, ln⟩, rr) := by rw [List.foldl_append, H1.out, List.foldl_cons, List.foldl_nil]; exact mstep_yes RR.out (by omega)
          have HST := Lib.hid hst; clear hst
          gi_wp2
          have hSN : S N := by rw [H3.out]; exact XN.out
          have hSN1 : S N1 := by rw [H3.out]; exact XN1.out
          have ho := HO.out
          have hlv : Lv S W ((((wz.setCell ⟨N, 0, none⟩ (.int .i64 i)).setCell ⟨N, 1, none⟩ (.int .i64 k)).setCell ⟨N, 2, none⟩ (.int .i64 ln)).setCell ⟨N1, 0, none⟩ (.int .i64 rr)) :=
            ((((Lv.of_ext HZ.out).setCell (fun _ => hSN) _).setCell (fun _ => hSN) _).setCell (fun _ => hSN) _).setCell (fun _ => hSN1) _
          refine ⟨X, hlv, fun g h => .inl (by rw [H3.out]; exact h), fun g h => by have := S0.out; have := hlv.size; rcases XO.out g h with h | h <;> omega, ⟨i, k, ln⟩, rr, HST.out, by omega, rfl, ((H4.out.ext HZ.out).set3).far (by simp; omega) _, ?_, H6.out.trans hlv (fun g hg hs => by rw [H3.out] at hs; exact hs)⟩
          have := ((H5.out.ext HZ.out).far3 (k := N) (by omega) (.int .i64 i) (.int .i64 k) (.int .i64 ln)).put 0 (.int .i64 rr)
          simpa using this
        case neg =>
          have q3 := nd hMl
          have hst : (pre ++ [(⟨i, k, ln⟩ : Mt)]).foldl (mstep a) (⟨0, 0, 0⟩, 65) = (M, rr) := by rw [List.foldl_append, H1.out, List.foldl_cons, List.foldl_nil]; exact mstep_no RR.out (by omega)
          have HST := Lib.hid hst; clear hst
          gi_wp2
          exact ⟨X, Lv.of_ext HZ.out, fun g h => .inl (by rw [H3.out]; exact h), fun g h => by have := HO.out; have := S0.out; have := HZ.out.size; rcases XO.out g h with h | h <;> omega, M, rr, HST.out, h2, rfl, H4.out.ext HZ.out, H5.out.ext HZ.out, H6.out.ext HZ.out⟩
      case done =>
        rintro D0 S W hD0 hnS ⟨M, r, h1, h2, h3, h4, h5, h6⟩ hdef
        have hsz := S0.out; have ho := HO.out
        have nX : ∀ g, g ≠ N → g ≠ N1 → ¬ X g := fun g h1 h2 h => by rcases XO.out g h with h | h; exact h1 h; exact h2 h
        have hEW : Ext w W := h6.extBelow E0.out (fun g hg => nX g (by omega) (by omega))
        have b4 := B4.out.lv h6 (nX _ (by omega) (by omega))
        have hbd : Blk W D0 (.deferred (some [])) := hdef
        have hV : bestV a b = (M, r) := by rw [← h1]; exact (fold_yall a b _ (Nat.le_refl _)).symm
        have hgr : w.heap.size ≤ gr := by omega
        have hgN : gr ≠ N ∧ gr ≠ N1 ∧ gr ≠ D0 ∧ D0 ≠ N ∧ D0 ≠ N1 ∧ w.heap.size ≤ D0 := by omega
        have HEW := Lib.hid hEW; have B4W := Lib.hid b4; have HBD := Lib.hid hbd; have HV := Lib.hid hV; have HGR := Lib.hid hgr; have HGN := Lib.hid hgN; have H4 := Lib.hid h4; have H5 := Lib.hid h5
        clear hsz ho nX hEW b4 hbd hV hgr hgN h1 h3 h4 h5 h6 hdef hD0 hnS
        go_wp2_with fail
        obtain ⟨T, hT⟩ : ∃ T, T = (fun wx => (Ext w wx ∧ Blk wx D0 (.deferred (some []))) ∧ Blk wx N M.obj ∧ Blk wx N1 (.cells #[.int .i64 r] 3)) := ⟨_, rfl⟩
        have hTs : Stab T := by rw [hT]; exact ((Stab.ext _).and (Stab.blk _ _)).and ((Stab.blk _ _).and (Stab.blk _ _))
        refine wp_mono (Q := NoPH _) ?_ (fun e a w h => h.2)
        refine wp_region_X (T := T) (fun wx => T wx ∧ Blk wx gr (Mt.obj ⟨0, 0, 0⟩)) (by kernel_rfl) ⟨by rw [hT]; exact ⟨⟨HEW.out.drew, HBD.out.drew⟩, H4.out.drew, H5.out.drew⟩, B4W.out.drew⟩ (wpX_takes (by kernel_rfl) (fun c d _ _ _ h => absurd rfl (h.1 c)) (hTs.and (Stab.blk _ _)) (fun _ h => h.1) (fuel := 2) [0,1,2] _ _ (by kernel_rfl) ?_)
        iterate 3
          refine wpTk_want rfl (Eq.refl true) ?_
          apply Exists.intro
          refine ⟨fun wx hx => ?_, ?_⟩
          · rw [hT] at hx
            obtain ⟨d0, d1, d2⟩ := hx.2.1.cells3
            have d3 := hx.2.2.cell 0
            replace d3 : wx.cell? ⟨N1, 0, none⟩ = some (.int .i64 r) := d3
            clear hx
            go_simp
            with_reducible exact gives_ok _ _ _
          simp only [Act.put, List.setIfInBounds_toArray, List.set_cons_zero, List.set_cons_succ]
        refine wpTk_nil ?_
        refine wpX_one 3 (by kernel_rfl) rfl rfl (fun wz hz K hK => ?_)
        obtain ⟨f0, f1, f2⟩ := hz.2.free3
        obtain ⟨p0, p1, p2⟩ := hz.2.cells3
        have HZ := Lib.hid hz
        clear hz
        go_simp
        refine hK _ _ ⟨fun wz => T wz ∧ Blk wz gr M.obj, hTs.and (Stab.blk _ _), fun _ h => h.1, ⟨?_, HZ.out.2.set3⟩, ?_⟩
        · have hz := HZ.out.1
          have hq := HGN.out
          rw [hT] at hz ⊢
          exact ⟨⟨hz.1.1.set3 HGR.out _ _ _, hz.1.2.far3 (by omega) _ _ _⟩, hz.2.1.far3 (by omega) _ _ _, hz.2.2.far3 (by omega) _ _ _⟩
        clear hK HZ f0 f1 f2 p0 p1 p2 K wz
        try simp only [Act.put, List.setIfInBounds_toArray, List.set_cons_zero, List.set_cons_succ]
        refine wpX_one 4 (by kernel_rfl) rfl rfl (fun wz hz K hK => ?_)
        go_simp
        refine hK _ _ ⟨fun wz => T wz ∧ Blk wz gr M.obj, hTs.and (Stab.blk _ _), fun _ h => h.1, hz, ?_⟩
        clear hz hK K wz
        try simp only [Act.put, List.setIfInBounds_toArray, List.set_cons_zero, List.set_cons_succ]
        refine wpX_done (by kernel_rfl) (fun wz hz => ?_) _
        refine ⟨nofun, ?_⟩
        have HZ := Lib.hid hz
        clear hz
        go_wp2_with fail
        have hz := HZ.out; have hq := HGN.out
        rw [hT] at hz
        refine ⟨by simp, .inl ⟨_, _, rfl, run_takeDeferred hz.1.1.2, ?_⟩⟩
        have hlv : Lv (fun g => g = D0) wz (wz.putObj D0 (.deferred none)) := Lv.putObj (S := fun g => g = D0) (Lv.refl _ _) (fun _ => rfl) _
        obtain ⟨p0, p1, p2⟩ := (hz.2.lv hlv (fun h => by omega)).cells3
        refine ⟨.tuple #[M.val, .bool (decide ((r : Int) ≤ 64))], ?_, ?_, ?_⟩
        · simp [results, Tryz.results54, go_sem, Mt.val, p0, p1, p2]
        · have h1 : bestV a b = (M, r) := HV.out
          rw [h1, bestR, show decide ((r : Int) ≤ 64) = decide (r ≤ 64) by rw [Bool.eq_iff_iff]; simp only [decide_eq_true_eq]; omega]
        · exact hlv.extBelow hz.1.1.1 (fun g hg h => by omega)
end Go.Proofs.YtmmcjcaccicheaaGreatDoor

/- UdHdr UdFmt: parts of the proof of TopDifferences, one text behind the other. No condition. -/
import Derived.Test.YtmmcjcaccicheaaGreatDoorT27
/- Contracts: place; number; span; header. -/
namespace Go.Proofs.YtmmcjcaccicheaaGreatDoor
open Go.RowKit

theorem itoa_is {v : Int} {i : Nat} (hv : v = (i : Int)) (hi : i < 100) {w : World} :
    Calls Tryz.prog 67 #[.int .i64 v] w fun e w' => e = .returned (.string (mkS (dgs i))) ∧ w' = w := by
  subst hv
  exact sh_strconv_Itoa_small i hi w
theorem mkS_plus (a b : Bs) : mkS a ++ (⟨b.toArray⟩ : ByteArray) = mkS (a ++ b) := mkS_app a b
set_option maxHeartbeats 1000000 in
theorem place_is {a n : Int} {an nn : Nat} (ha : a = (an : Int)) (hn : n = (nn : Int)) (h1 : an < 90) (h2 : nn < 90) {w : World} :
    Calls Tryz.prog 42 #[.int .i64 a, .int .i64 n] w fun e w' => e = .returned (.string (mkS (plL an nn))) ∧ w' = w := by
  subst ha hn
  obtain ⟨U, hU⟩ : ∃ U, mkS (dgs (upN an nn)) = U := ⟨_, rfl⟩
  obtain ⟨V, hV⟩ : ∃ V, mkS (dgs nn) = V := ⟨_, rfl⟩
  have hr : U ++ (⟨#[44]⟩ : ByteArray) ++ V = mkS (plL an nn) := by
    subst hU hV
    rw [show (⟨#[44]⟩ : ByteArray) = mkS [44] from rfl, mkS_app, mkS_app]; simp [plL]
  have hs1 : U.size ≤ 18 := by rw [← hU]; exact hd_short (up_lt h1)
  have hs2 : V.size ≤ 18 := by rw [← hV]; exact hd_short (by omega)
  have c2 : ∀ w, Calls Tryz.prog 67 #[.int .i64 (nn : Int)] w fun e w' => e = .returned (.string V) ∧ w' = w := fun w => by rw [← hV]; exact itoa_is rfl (by omega)
  have C2 := Lib.hid c2; have HR := Lib.hid hr
  by_cases hn : 0 < nn
  · have c1 : ∀ w, Calls Tryz.prog 67 #[.int .i64 ((an : Int) + 1)] w fun e w' => e = .returned (.string U) ∧ w' = w := fun w => by
      rw [← hU]; exact itoa_is (by unfold upN; rw [if_pos hn]; omega) (up_lt h1)
    have C1 := Lib.hid c1
    clear hU hV hr c1 c2
    go_enter Tryz.func42, Tryz.ntmps42
    go_wp2_with fail
    refine (C1.out _).mono ?_
    rintro e w1 ⟨rfl, rfl⟩
    go_wp2_with fail
    refine (C2.out _).mono ?_
    rintro e w1 ⟨rfl, rfl⟩
    go_wp2_with fail
    go_ret
    exact ⟨by rw [← HR.out]; rfl, rfl⟩
  · obtain rfl : nn = 0 := by omega
    have c1 : ∀ w, Calls Tryz.prog 67 #[.int .i64 (an : Int)] w fun e w' => e = .returned (.string U) ∧ w' = w := fun w => by
      rw [← hU]; exact itoa_is (by unfold upN; rw [if_neg hn]) (up_lt h1)
    have C1 := Lib.hid c1
    clear hU hV hr c1 c2
    go_enter Tryz.func42, Tryz.ntmps42
    go_wp2_with fail
    refine (C1.out _).mono ?_
    rintro e w1 ⟨rfl, rfl⟩
    go_wp2_with fail
    refine (C2.out _).mono ?_
    rintro e w1 ⟨rfl, rfl⟩
    go_wp2_with fail
    go_ret
    exact ⟨by rw [← HR.out]; rfl, rfl⟩
theorem bytesWorld_ext (w : World) (e : TypeId) (s : ByteArray) : Ext w (Lib.bytesWorld w e s) := by
  unfold Lib.bytesWorld
  exact Lib.below_freeze ((Ext.refl w).drew.alloc _) (Nat.le_refl _) _
set_option maxHeartbeats 1000000 in
theorem number_is {n : Nat} {s : ByteArray} (hs : s = mkS (dgs n)) (h : n < 100) {w : World} :
    Calls Tryz.prog 99 #[.string s] w fun e w' => e = .returned (.tuple #[.int .i64 n, .bool true]) ∧ Ext w w' := by
  have c1 : ∀ w, Calls Tryz.prog 108 #[.string s] w fun e w' => e = .returned (.tuple #[.int .i64 n, .nilIface]) ∧ Ext w w' := fun w => by
    refine (sh_strconv_Atoi s n (by rw [hs]; exact hd_short h) (by rw [hs, mkS_data]; exact dgs_atoi h) w).mono ?_
    rintro e w1 ⟨rfl, t, rfl⟩
    exact ⟨rfl, bytesWorld_ext _ _ _⟩
  have c2 : ∀ w, Calls Tryz.prog 67 #[.int .i64 (n : Int)] w fun e w' => e = .returned (.string s) ∧ w' = w := fun w => by rw [hs]; exact itoa_is rfl h
  have C1 := Lib.hid c1; have C2 := Lib.hid c2
  clear c1 c2 hs
  go_enter Tryz.func99, Tryz.ntmps99
  go_wp2_with fail
  refine (C1.out _).mono ?_
  rintro e w1 ⟨rfl, hE⟩
  go_wp2_with fail
  refine (inrange_is (by omega) (by omega)).mono ?_
  rintro e w2 ⟨rfl, rfl⟩
  go_wp2_with fail
  refine (C2.out _).mono ?_
  rintro e w3 ⟨rfl, rfl⟩
  go_wp2_with fail
  go_ret2
  exact ⟨rfl, hE⟩
/-- The library's variable of unknown content is a number. -/
def Mx (w : World) : Prop := ∃ m : Int, w.cell? ⟨0, 0, none⟩ = some (.int .i64 m)
theorem Mx.ext {w w' : World} (h : Mx w) (e : Ext w w') : Mx w' := by
  obtain ⟨m, hm⟩ := h
  exact ⟨m, e.cell hm⟩
theorem cut_is {L P a b : Bs} {s sep : ByteArray} (hs : s = mkS L) (hp : sep = mkS P) (hc : Lib.cut L P = (a, b, true)) (hl : L.length < 4294967281) {w : World} (hm : Mx w) :
    Calls Tryz.prog 77 #[.string s, .string sep] w fun e w' => e = .returned (.tuple #[.string (mkS a), .string (mkS b), .bool true]) ∧ Ext w w' := by
  obtain ⟨m, hm⟩ := hm
  subst hs hp
  refine (sh_strings_Cut (mkS L) (mkS P) m w (by rw [mkS_size]; exact hl) hm).mono ?_
  rintro e w' ⟨rfl, n, rfl⟩
  rw [mkS_data, mkS_data, hc]
  exact ⟨rfl, (Ext.refl w).drewN n⟩
set_option maxHeartbeats 1000000 in
theorem span_is {a n : Nat} {s : ByteArray} (hs : s = mkS (plL a n)) (h1 : a < 90) (h2 : n < 90) {w : World} (hm : Mx w) :
    Calls Tryz.prog 80 #[.string s] w fun e w' => e = .returned (.tuple #[.int .i64 a, .int .i64 n, .bool true]) ∧ Ext w w' := by
  have c1 : ∀ w, Mx w → Calls Tryz.prog 77 #[.string s, .string ⟨#[44]⟩] w fun e w' => e = .returned (.tuple #[.string (mkS (dgs (upN a n))), .string (mkS (dgs n)), .bool true]) ∧ Ext w w' :=
    fun w hm => cut_is hs (P := [44]) rfl (cut_comma h1) (by have := pl_len h1 h2; omega) hm
  have c2 : ∀ w, Calls Tryz.prog 99 #[.string (mkS (dgs (upN a n)))] w fun e w' => e = .returned (.tuple #[.int .i64 (upN a n : Nat), .bool true]) ∧ Ext w w' := fun w => number_is rfl (up_lt h1)
  have c3 : ∀ w, Calls Tryz.prog 99 #[.string (mkS (dgs n))] w fun e w' => e = .returned (.tuple #[.int .i64 (n : Nat), .bool true]) ∧ Ext w w' := fun w => number_is rfl (by omega)
  obtain ⟨U, hU⟩ : ∃ U, mkS (dgs (upN a n)) = U := ⟨_, rfl⟩
  obtain ⟨V, hV⟩ : ∃ V, mkS (dgs n) = V := ⟨_, rfl⟩
  rw [hU] at c1 c2; rw [hV] at c1 c3
  have C1 := Lib.hid c1; have C3 := Lib.hid c3; have HM := Lib.hid hm
  clear hU hV c1 c3 hs hm
  by_cases hn : 0 < n
  · have hu : upN a n = a + 1 := by unfold upN; rw [if_pos hn]
    rw [hu] at c2
    have C2 := Lib.hid c2
    have q1 : ((a : Int) + 1 == 0) = false := by rw [beq_eq_false_iff_ne]; omega
    have q2 : (((a + 1 : Nat) : Int)) = (a : Int) + 1 := by omega
    rw [q2] at c2
    have C2 := Lib.hid c2
    clear c2 hu q2
    go_enter Tryz.func80, Tryz.ntmps80
    go_wp2_with fail
    refine (C1.out _ HM.out).mono ?_
    rintro e w1 ⟨rfl, hE1⟩
    go_wp2_with fail
    refine (C2.out _).mono ?_
    rintro e w2 ⟨rfl, hE2⟩
    go_wp2_with fail
    refine (C3.out _).mono ?_
    rintro e w3 ⟨rfl, hE3⟩
    have HE := Lib.hid ((hE1.trans hE2).trans hE3)
    clear hE1 hE2 hE3
    go_wp2_with fail
    refine bodyPost_ret (v := .tuple #[.int .i64 a, .int .i64 n, .bool true]) (by simp [results, Tryz.results80, go_sem]) rfl ⟨rfl, HE.out⟩
  · obtain rfl : n = 0 := by omega
    have hu : upN a 0 = a := by unfold upN; rw [if_neg hn]
    rw [hu] at c2
    have C2 := Lib.hid c2
    clear c2 hu
    go_enter Tryz.func80, Tryz.ntmps80
    go_wp2_with fail
    refine (C1.out _ HM.out).mono ?_
    rintro e w1 ⟨rfl, hE1⟩
    go_wp2_with fail
    refine (C2.out _).mono ?_
    rintro e w2 ⟨rfl, hE2⟩
    go_wp2_with fail
    refine (C3.out _).mono ?_
    rintro e w3 ⟨rfl, hE3⟩
    have HE := Lib.hid ((hE1.trans hE2).trans hE3)
    clear hE1 hE2 hE3
    go_wp2_with fail
    refine bodyPost_ret (v := .tuple #[.int .i64 a, .int .i64 0, .bool true]) (by simp [results, Tryz.results80, go_sem]) rfl ⟨rfl, HE.out⟩
abbrev BkM.hd (b : Bk) : BkM := ⟨b.oa, b.ol, b.na, b.nl, none, 0, 0⟩
set_option maxRecDepth 100000 in
set_option maxHeartbeats 2000000 in
theorem header_is {b : Bk} {s : ByteArray} (hs : s = mkS (hdL b)) (h : Small b) {w : World} (hm : Mx w) :
    Calls Tryz.prog 59 #[.string s] w fun e w' => e = .returned (.tuple #[(BkM.hd b).val, .bool true]) ∧ Ext w w' := by
  obtain ⟨oa, ol, na, nl, ls⟩ := b
  have hp := hd_pre ⟨oa, ol, na, nl, ls⟩
  have hsf := hd_suf (plL oa ol ++ [32, 43] ++ plL na nl)
  have hcp := cut_plus h
  have hlen := hd_len h
  have l1 := pl_len h.oa h.ol; have l2 := pl_len h.na h.nl
  simp only at hp hsf hcp hlen l1 l2
  have c1 : ∀ w, Calls Tryz.prog 78 #[.string s, .string ⟨#[64, 64, 32, 45]⟩] w fun e w' => e = .returned (.tuple #[.string (mkS (plL oa ol ++ [32, 43] ++ plL na nl ++ [32, 64, 64])), .bool true]) ∧ w' = w := fun w => by
    have := sh_strings_CutPrefix s ⟨#[64, 64, 32, 45]⟩ w
    rw [hs, mkS_data, show (⟨#[64, 64, 32, 45]⟩ : ByteArray).data.toList = [64, 64, 32, 45] from rfl, hp.1, hp.2] at this
    rw [hs]; exact this
  have c2 : ∀ w, Calls Tryz.prog 79 #[.string (mkS (plL oa ol ++ [32, 43] ++ plL na nl ++ [32, 64, 64])), .string ⟨#[32, 64, 64]⟩] w fun e w' => e = .returned (.tuple #[.string (mkS (plL oa ol ++ [32, 43] ++ plL na nl)), .bool true]) ∧ w' = w := fun w => by
    have := sh_strings_CutSuffix (mkS (plL oa ol ++ [32, 43] ++ plL na nl ++ [32, 64, 64])) ⟨#[32, 64, 64]⟩ w (by rw [mkS_size]; simp only [List.length_append, List.length_cons, List.length_nil]; omega)
    rw [mkS_data, show (⟨#[32, 64, 64]⟩ : ByteArray).data.toList = [32, 64, 64] from rfl, hsf.1, hsf.2] at this
    exact this
  have c3 : ∀ w, Mx w → Calls Tryz.prog 77 #[.string (mkS (plL oa ol ++ [32, 43] ++ plL na nl)), .string ⟨#[32, 43]⟩] w fun e w' => e = .returned (.tuple #[.string (mkS (plL oa ol)), .string (mkS (plL na nl)), .bool true]) ∧ Ext w w' :=
    fun w hm => cut_is rfl (P := [32, 43]) rfl hcp (by simp only [List.length_append, List.length_cons, List.length_nil]; omega) hm
  have c4 : ∀ w, Mx w → Calls Tryz.prog 80 #[.string (mkS (plL oa ol))] w fun e w' => e = .returned (.tuple #[.int .i64 oa, .int .i64 ol, .bool true]) ∧ Ext w w' := fun w hm => span_is rfl h.oa h.ol hm
  have c5 : ∀ w, Mx w → Calls Tryz.prog 80 #[.string (mkS (plL na nl))] w fun e w' => e = .returned (.tuple #[.int .i64 na, .int .i64 nl, .bool true]) ∧ Ext w w' := fun w hm => span_is rfl h.na h.nl hm
  obtain ⟨s1, hs1⟩ : ∃ s1, mkS (plL oa ol ++ [32, 43] ++ plL na nl ++ [32, 64, 64]) = s1 := ⟨_, rfl⟩
  obtain ⟨s2, hs2⟩ : ∃ s2, mkS (plL oa ol ++ [32, 43] ++ plL na nl) = s2 := ⟨_, rfl⟩
  obtain ⟨s3, hs3⟩ : ∃ s3, mkS (plL oa ol) = s3 := ⟨_, rfl⟩
  obtain ⟨s4, hs4⟩ : ∃ s4, mkS (plL na nl) = s4 := ⟨_, rfl⟩
  rw [hs1] at c1 c2; rw [hs2] at c2 c3; rw [hs3] at c3 c4; rw [hs4] at c3 c5
  have C1 := Lib.hid c1; have C2 := Lib.hid c2; have C3 := Lib.hid c3; have C4 := Lib.hid c4; have C5 := Lib.hid c5; have HM := Lib.hid hm
  clear hs hs1 hs2 hs3 hs4 c1 c2 c3 c4 c5 hm hp hsf hcp hlen l1 l2
  go_enter Tryz.func59, Tryz.ntmps59
  go_wp2_with fail
  refine (C1.out _).mono ?_
  rintro e w1 ⟨rfl, rfl⟩
  go_wp2_with fail
  refine (C2.out _).mono ?_
  rintro e w2 ⟨rfl, rfl⟩
  go_wp2_with fail
  obtain ⟨A, hA⟩ : ∃ A, w.heap.size = A := ⟨_, rfl⟩
  have kA := Blk.new w (.cells #[.int .i64 0, .int .i64 0, .int .i64 0, .int .i64 0, .slice none 0 0] 80) hA.symm
  have eA := (Ext.refl w).alloc (.cells #[.int .i64 0, .int .i64 0, .int .i64 0, .int .i64 0, .slice none 0 0] 80)
  refine (C3.out _ (HM.out.ext eA)).mono ?_
  rintro e w3 ⟨rfl, hE⟩
  have kA3 := kA.ext hE
  have e3 := eA.trans hE
  obtain ⟨B, hB⟩ : ∃ B, w3.heap.size = B := ⟨_, rfl⟩
  have hAB : A ≠ B := by have := kA3.lt; omega
  have hAle : w.heap.size ≤ A := by omega
  have hBle : w.heap.size ≤ B := by have := e3.size; omega
  have KA3 := Lib.hid kA3; have E3 := Lib.hid e3; have HA := Lib.hid hA; have HB := Lib.hid hB
  clear kA eA hE kA3 e3
  rw [hA]
  go_wp2_with fail
  clear hA
  have kB := Blk.new w3 (.cells #[.int .i64 0, .int .i64 0, .int .i64 0, .int .i64 0, .slice none 0 0] 80) hB.symm
  refine (C4.out _ (HM.out.ext (E3.out.alloc _))).mono ?_
  rintro e w4 ⟨rfl, hE⟩
  have kB4 := kB.ext hE
  have KA4 := Lib.hid ((KA3.out.alloc _).ext hE)
  have E4 := Lib.hid ((E3.out.alloc _).trans hE)
  have KB4 := Lib.hid kB4
  obtain ⟨c0, c1, c2, c3, c4⟩ := kB4.cells5
  have f0 := kB4.free 0; have f1 := kB4.free 1
  clear kB hE hB
  go_wp2_with fail
  have p4 := (kB4.put 0 (.int .i64 oa)).put 1 (.int .i64 ol)
  have l4 := (((Lv.refl (fun g => g = B) w4).setCell (p := ⟨B, 0, none⟩) (fun _ => rfl) (.int .i64 oa)).setCell (p := ⟨B, 1, none⟩) (fun _ => rfl) (.int .i64 ol))
  have E5 := Lib.hid (l4.extBelow E4.out (fun g hg h => by omega))
  have KA5 := Lib.hid (KA4.out.lv l4 hAB)
  have P5 := Lib.hid p4
  clear c0 c1 c2 c3 c4 f0 f1 p4 l4 kB4
  obtain ⟨W5, hW5⟩ : ∃ W5, (w4.setCell ⟨B, 0, none⟩ (.int .i64 oa)).setCell ⟨B, 1, none⟩ (.int .i64 ol) = W5 := ⟨_, rfl⟩
  rw [hW5] at E5 KA5 P5 ⊢
  clear hW5
  refine (C5.out _ (HM.out.ext E5.out)).mono ?_
  rintro e w6 ⟨rfl, hE⟩
  have kB6 := P5.out.ext hE
  have kA6 := KA5.out.ext hE
  have E6 := Lib.hid (E5.out.trans hE)
  obtain ⟨c0, c1, c2, c3, c4⟩ := Blk.cells5 (a := .int .i64 oa) (b := .int .i64 ol) (c := .int .i64 0) (d := .int .i64 0) (e := .slice none 0 0) kB6
  have f2 := kB6.free 2; have f3 := kB6.free 3
  obtain ⟨a0, a1, a2, a3, a4⟩ := kA6.cells5
  have g0 := kA6.free 0; have g1 := kA6.free 1; have g2 := kA6.free 2; have g3 := kA6.free 3; have g4 := kA6.free 4
  have KB6 := Lib.hid kB6; have KA6 := Lib.hid kA6
  have hBA : B ≠ A := fun e => hAB e.symm
  clear hE kB6 kA6
  go_wp2_with fail
  have l6 := ((Lv.refl (fun g => g = B) w6).setCell (p := ⟨B, 2, none⟩) (fun _ => rfl) (.int .i64 na)).setCell (p := ⟨B, 3, none⟩) (fun _ => rfl) (.int .i64 nl)
  have l7 := (((((l6.mono (S' := fun g => g = B ∨ g = A) (fun g _ h => .inl h)).setCell (p := ⟨A, 0, none⟩) (fun _ => .inr rfl) (.int .i64 oa)).setCell (p := ⟨A, 1, none⟩) (fun _ => .inr rfl) (.int .i64 ol)).setCell (p := ⟨A, 2, none⟩) (fun _ => .inr rfl) (.int .i64 na)).setCell (p := ⟨A, 3, none⟩) (fun _ => .inr rfl) (.int .i64 nl)).setCell (p := ⟨A, 4, none⟩) (fun _ => .inr rfl) (.slice none 0 0)
  have E7 := Lib.hid (l7.extBelow E6.out (fun g hg h => by omega))
  have p7 := (((((KA6.out.lv l6 hAB).put 0 (.int .i64 oa)).put 1 (.int .i64 ol)).put 2 (.int .i64 na)).put 3 (.int .i64 nl)).put 4 (.slice none 0 0)
  obtain ⟨z0, z1, z2, z3, z4⟩ := Blk.cells5 (a := .int .i64 oa) (b := .int .i64 ol) (c := .int .i64 na) (d := .int .i64 nl) (e := .slice none 0 0) p7
  clear l6 l7 p7 c0 c1 c2 c3 c4 a0 a1 a2 a3 a4 f2 f3 g0 g1 g2 g3 g4
  obtain ⟨W7, hW7⟩ : ∃ W7, W7 = ((((((w6.setCell ⟨B, 2, none⟩ (.int .i64 na)).setCell ⟨B, 3, none⟩ (.int .i64 nl)).setCell ⟨A, 0, none⟩ (.int .i64 oa)).setCell ⟨A, 1, none⟩ (.int .i64 ol)).setCell ⟨A, 2, none⟩ (.int .i64 na)).setCell ⟨A, 3, none⟩ (.int .i64 nl)).setCell ⟨A, 4, none⟩ (.slice none 0 0) := ⟨_, rfl⟩
  rw [← hW7] at E7 z0 z1 z2 z3 z4 ⊢
  clear hW7
  refine bodyPost_ret (v := .tuple #[(BkM.hd ⟨oa, ol, na, nl, ls⟩).val, .bool true]) ?_ rfl ⟨rfl, E7.out⟩
  simp [results, Tryz.results59, go_sem, z0, z1, z2, z3, z4]
end Go.Proofs.YtmmcjcaccicheaaGreatDoor
/- Contracts: the builder's; Format. -/
namespace Go.Proofs.YtmmcjcaccicheaaGreatDoor
open Go.RowKit

/-- The builder in block b holds the bytes l. -/
def Bd (b B : Nat) (l : Bs) (w : World) : Prop := Lib.IsBuilderF 88 5 B b (Lib.byteCells l) w
/-- What stands while it is written. -/
def BK (b B : Nat) (w w' : World) : Prop := Below B w w' ∧ Lib.OthersKept 5 (some b) w w'
theorem BK.refl (b B : Nat) (w : World) : BK b B w w := ⟨Below.refl _ _, Lib.OthersKept.refl _ _ _⟩
theorem BK.trans {b B : Nat} {x y z : World} (h : BK b B x y) (k : BK b B y z) : BK b B x z := ⟨Below.trans h.1 k.1, h.2.trans k.2⟩
theorem BK.alloc {b B : Nat} {x y : World} (h : BK b B x y) (o : Obj) (hB : B ≤ y.heap.size) : BK b B x (y.alloc o) := ⟨Below.trans h.1 (Ext.below ((Ext.refl y).alloc o) hB), h.2.alloc o⟩
theorem BK.blk {b B k : Nat} {x y : World} {cs : Array Value} {t : TypeId} (h : BK b B x y) (hb : Blk x k (.cells cs t (0, 0))) (hk : k ≠ b) (ht : t ≠ 5) : Blk y k (.cells cs t (0, 0)) :=
  h.2 k _ hb (fun e => hk (Option.some.inj e)) (fun c fz e => ht (by cases e; rfl))
theorem BK.size {b B : Nat} {x y : World} (h : BK b B x y) : x.heap.size ≤ y.heap.size := h.1.size
theorem Bd.new (w : World) : Bd w.heap.size w.heap.size [] (w.alloc (.cells #[.pointer none, .slice none 0 0] 88)) := Lib.IsBuilderF.of (Lib.fresh_isBuilder _ _ w)
theorem Bd.alloc {b B : Nat} {l : Bs} {w : World} (h : Bd b B l w) (o : Obj) : Bd b B l (w.alloc o) := Lib.IsBuilderF.alloc h o
theorem wstr_is {b B : Nat} {l : Bs} {w : World} (s : ByteArray) (h : Bd b B l w) (hl : l.length ≤ 10000000000) (hs : s.size ≤ 10000000000) (hB : B ≤ w.heap.size) :
    Calls Tryz.prog 41 #[.pointer (some ⟨b, 0, none⟩), .string s] w fun e w' => e = .returned (.tuple #[.int .i64 s.size, .nilIface]) ∧ Bd b B (l ++ s.data.toList) w' ∧ BK b B w w' := by
  refine (sh_Builder_WriteString_k B b (Lib.byteCells l) s w h (by rw [Lib.byteCells_length]; omega) hB).mono ?_
  rintro e w' ⟨rfl, h1, h2, h3⟩
  refine ⟨rfl, ?_, h2, h3⟩
  unfold Bd
  rw [Lib.byteCells_append]
  exact .inr h1
theorem bstr_is {b B : Nat} {l : Bs} {w : World} (h : Bd b B l w) (hB : B ≤ w.heap.size) :
    Calls Tryz.prog 44 #[.pointer (some ⟨b, 0, none⟩)] w fun e w' => e = .returned (.string (mkS l)) ∧ BK b B w w' := by
  refine (sh_Builder_String_any_k B b l w h hB).mono ?_
  rintro e w' ⟨rfl, h1, h2, h3⟩
  exact ⟨rfl, h2, h3⟩
theorem bk_ext {w w1 w2 : World} {b g : Nat} (h : Ext w w1) (hg : w.heap.size = g) (k : BK b g w1 w2) : Ext w w2 := Below.trans h (by rw [hg]; exact k.1)
theorem Bd.lt {b B : Nat} {l : Bs} {w : World} (h : Bd b B l w) : b < w.heap.size := by
  rcases h with h | h
  · exact h.lt
  · exact h.lt
theorem grown_ext {w w' : World} (e : Ext w w') : w.grownBy w' none := ⟨e.os, e.tape, e.output, e.size, fun k hk _ => Below.block e k hk⟩
theorem Bd.ext {b B : Nat} {l : Bs} {w w' : World} (h : Bd b B l w) (e : Ext w w') : Bd b B l w' := by
  have at_ : ∀ p, Lib.BuilderAtF 88 5 B b p (Lib.byteCells l) w → Lib.BuilderAtF 88 5 B b p (Lib.byteCells l) w' := by
    rintro p ⟨hB, v, hb, hown, hne⟩
    exact ⟨hB, v, e.block hb, hown.kept (grown_ext e) (by cases hv : v.ownBlock <;> simp), hne⟩
  exact h.elim (fun x => .inl (at_ _ x)) (fun x => .inr (at_ _ x))
theorem Bd.stab (b B : Nat) (l : Bs) : Stab (Bd b B l) := fun _ _ e h => h.ext e
theorem nl_free {l : Bs} (h : (10 : UInt8) ∉ l) : ¬ (0 ≤ Lib.indexByte l 10) := by
  intro h0
  obtain ⟨o, ho⟩ : ∃ o : Nat, Lib.indexByte l 10 = o := ⟨(Lib.indexByte l 10).toNat, by omega⟩
  exact h (mem_of_get (Lib.indexByte_some ho).1)
/-- What the text asks of a block. -/
structure BFit (b : Bk) : Prop where
  sm : Small b
  len : b.ls.length ≤ 10000
  ln : ∀ x ∈ b.ls, (10 : UInt8) ∉ x.s.data.toList ∧ x.s.size ≤ 100000
theorem ln_no {b : Bk} (h : BFit b) {x : Ln} (hx : x ∈ b.ls) : (10 : UInt8) ∉ (lnS x).data.toList := tk_no (t := .ln x) ⟨(h.ln x hx).1, (h.ln x hx).2⟩
theorem contains_is {s : ByteArray} (h : (10 : UInt8) ∉ s.data.toList) {w : World} :
    Calls Tryz.prog 43 #[.string s, .string ⟨#[10]⟩] w fun e w' => e = .returned (.bool false) ∧ w' = w := by
  refine (sh_strings_Contains_one s 10 w).mono ?_
  rintro e w' ⟨rfl, rfl⟩
  exact ⟨ret_bool (decide_eq_false (nl_free h)), rfl⟩
/-- The text up to line j of block k. -/
def fmtA (xs : List Bk) (k : Nat) (b : Bk) (j : Nat) : Bs := fmtL (xs.take k) ++ (hdL b ++ 10 :: joinT ((b.ls.take j).map .ln))
theorem fmtA_len {xs : List Bk} {k : Nat} {b : Bk} (hb : xs[k]? = some b) (j : Nat) : (fmtA xs k b j).length ≤ (fmtL xs).length := by
  have e : fmtL xs = fmtL (xs.take (k + 1)) ++ fmtL (xs.drop (k + 1)) := by
    unfold fmtL; rw [← joinT_app, ← toks_app, List.take_append_drop]
  rw [e, take_succ_of hb, fmt_snoc]
  unfold fmtA
  have e2 : joinT (b.ls.map .ln) = joinT ((b.ls.take j).map .ln) ++ joinT ((b.ls.drop j).map .ln) := by
    rw [← joinT_app, ← List.map_append, List.take_append_drop]
  rw [e2]
  simp only [List.length_append, List.length_cons]; omega
theorem fmtA_zero (xs : List Bk) (k : Nat) (b : Bk) : fmtA xs k b 0 = fmtL (xs.take k) ++ (hdL b ++ [10]) := by simp [fmtA, joinT]
theorem fmtA_succ (xs : List Bk) (k : Nat) {b : Bk} {j : Nat} {x : Ln} (hx : b.ls[j]? = some x) : fmtA xs k b (j + 1) = fmtA xs k b j ++ ((lnS x).data.toList ++ [10]) := by
  unfold fmtA
  rw [take_succ_of hx, List.map_append, joinT_app]
  simp only [List.append_assoc, List.cons_append]
  rfl
theorem fmtA_end {xs : List Bk} {k : Nat} {b : Bk} (hb : xs[k]? = some b) {j : Nat} (hj : b.ls.length ≤ j) : fmtA xs k b j = fmtL (xs.take (k + 1)) := by
  unfold fmtA
  rw [List.take_of_length_le hj, take_succ_of hb, fmt_snoc]
set_option maxRecDepth 100000 in
set_option maxHeartbeats 8000000 in
theorem format_any (A : Option Addr) (n c : Nat) (xs : List Bk) (w : World) (hxs : Bks w A n xs) (hn : n ≤ 10000) (hnc : n ≤ c) (hc0 : c ≤ maxLen) (hok : okKs 0 (-1) xs) (hf : ∀ x ∈ xs, BFit x) (hL : (fmtL xs).length ≤ 1000000000) :
    Calls Tryz.prog 18 #[.slice A n c] w fun r w' => r = .returned (.tuple #[.string (mkS (fmtL xs)), .int .i64 0]) ∧ Ext w w' := by
  have hchk := chk_any A n c xs w hxs (by omega) hnc hc0 hok (fun x hx => by have := (hf x hx).len; omega)
  have hlen := hxs.len
  have HX := Lib.hid hxs; have HF := Lib.hid hf; have HN := Lib.hid hlen; clear hxs hf hlen hok
  go_enter Tryz.func18, Tryz.ntmps18
  go_wp2_with fail
  refine hchk.mono ?_
  rintro e w1 ⟨rfl, hE1⟩
  obtain ⟨g, hg⟩ : ∃ g, w1.heap.size = g := ⟨_, rfl⟩
  have hBn := Bd.new w1
  rw [hg] at hBn
  have HE1 := Lib.hid hE1; have HB := Lib.hid hBn; have HG := Lib.hid hg; clear hE1 hBn hchk
  go_wp2_with fail
  clear hg
  go_loopw [21] (fun i wr => ∃ k : Nat, k ≤ n ∧ i = .int .i64 k ∧ Bd g g (fmtL (xs.take k)) wr ∧ Ext w1 wr ∧ g ≤ wr.heap.size) (fun i _ => n - (intOf i).toNat)
  case atStart => exact ⟨0, Nat.zero_le _, rfl, HB.out, (Ext.refl _).alloc _, by rw [← HG.out]; exact ((Ext.refl w1).alloc _).size⟩
  case round =>
    obtain ⟨k, hk, rfl, hb, hE, hgw⟩ := hrel
    have HB1 := Lib.hid hb; have HE := Lib.hid hE; clear hb hE
    by_cases hlt : k < n
    · obtain ⟨b, off, m, x, rfl, hb1, hx, hr, c0, c1, c2, c3, c4⟩ := HX.out.get hlt
      have hEw := HE1.out.trans HE.out
      replace c0 := hEw.cell c0; replace c1 := hEw.cell c1; replace c2 := hEw.cell c2; replace c3 := hEw.cell c3; replace c4 := hEw.cell c4
      clear hEw
      obtain ⟨moa, mol, mna, mnl, mla, mln, mlc⟩ := m
      dsimp only at c0 c1 c2 c3 c4
      have hfx := HF.out x (mem_of_get hx)
      have hsm := hfx.sm
      obtain ⟨y1, y2, y3, y4⟩ := hsm
      have p1 : ∀ w, Calls Tryz.prog 42 #[.int .i64 moa, .int .i64 mol] w fun e w' => e = .returned (.string (mkS (plL x.oa x.ol))) ∧ w' = w := fun w => place_is hr.oa hr.ol y1 y2
      have p2 : ∀ w, Calls Tryz.prog 42 #[.int .i64 mna, .int .i64 mnl] w fun e w' => e = .returned (.string (mkS (plL x.na x.nl))) ∧ w' = w := fun w => place_is hr.na hr.nl y3 y4
      have s1 : (mkS (plL x.oa x.ol)).size ≤ 5 := by rw [mkS_size]; exact pl_len y1 y2
      have s2 : (mkS (plL x.na x.nl)).size ≤ 5 := by rw [mkS_size]; exact pl_len y3 y4
      have hcat : (⟨#[64, 64, 32, 45]⟩ : ByteArray) ++ mkS (plL x.oa x.ol) ++ (⟨#[32, 43]⟩ : ByteArray) ++ mkS (plL x.na x.nl) ++ (⟨#[32, 64, 64, 10]⟩ : ByteArray) = mkS (hdL x ++ [10]) := by
        rw [show (⟨#[64, 64, 32, 45]⟩ : ByteArray) = mkS [64, 64, 32, 45] from rfl, show (⟨#[32, 43]⟩ : ByteArray) = mkS [32, 43] from rfl, show (⟨#[32, 64, 64, 10]⟩ : ByteArray) = mkS [32, 64, 64, 10] from rfl, mkS_app, mkS_app, mkS_app, mkS_app]
        simp [hdL]
      obtain ⟨S1, hS1⟩ : ∃ S, mkS (plL x.oa x.ol) = S := ⟨_, rfl⟩
      obtain ⟨S2, hS2⟩ : ∃ S, mkS (plL x.na x.nl) = S := ⟨_, rfl⟩
      rw [hS1] at p1 s1 hcat; rw [hS2] at p2 s2 hcat
      have hz := fmtA_zero xs k x
      have hl0 := fmtA_len hx 0
      have hlz : (fmtL (xs.take k)).length ≤ 1000000000 := by have := hl0; rw [hz, List.length_append] at this; omega
      have hhd := hd_len hfx.sm
      have P1 := Lib.hid p1; have P2 := Lib.hid p2; have HC := Lib.hid hcat; have HR := Lib.hid hr; have HFX := Lib.hid hfx; have HXK := Lib.hid hx; have HZ := Lib.hid hz; have HLZ := Lib.hid hlz; have HHD := Lib.hid hhd
      have K1 := Lib.hid ((Know.start wr).new (BkM.obj ⟨moa, mol, mna, mnl, mla, mln, mlc⟩) rfl)
      have B1 := Lib.hid (HB1.out.alloc (BkM.obj ⟨moa, mol, mna, mnl, mla, mln, mlc⟩))
      obtain ⟨z, hz'⟩ : ∃ z, wr.heap.size = z := ⟨_, rfl⟩
      have hzg : z ≠ g := by have := HB1.out.lt; omega
      rw [hz'] at K1
      clear p1 p2 hcat hr hfx hx hz hl0 hlz hhd hS1 hS2 y1 y2 y3 y4
      go_wp2_with fail
      clear hz'
      refine wp_region_X (T := fun wx => Blk wx z (BkM.obj ⟨moa, mol, mna, mnl, mla, mln, mlc⟩)) (fun wx => Know wr [(z, (BkM.obj ⟨moa, mol, mna, mnl, mla, mln, mlc⟩))] wx ∧ Bd g g (fmtL (xs.take k)) wx) (by kernel_rfl) ⟨K1.out.drew, B1.out⟩ (wpX_takes (by kernel_rfl) (fun _ d _ _ _ h => by cases d <;> exact h) ((Know.stab _ _).and (Bd.stab _ _ _)) (fun _ h => h.1.at 0 rfl) (fuel := 1) [0,1,2,3,4,5,6,7,8,9,10,11,12,13] _ _ (by kernel_rfl) ?_)
      iterate 14
        refine wpTk_want rfl (Eq.refl true) ?_
        apply Exists.intro
        refine ⟨fun wx hx => ?_, ?_⟩
        · obtain ⟨d0, d1, d2, d3, d4⟩ := hx.cells5
          clear hx
          go_simp
          first
            | with_reducible exact gives_ok _ _ _
            | (rw [if_neg (by omega)]; with_reducible exact gives_ok _ _ _)
            | (have r := gives_call _ _ wx (Calls.mono (P1.out wx) (fun e w'' h => ⟨h.1, h.2 ▸ Ext.refl _⟩)); with_reducible exact r)
            | (have r := gives_call _ _ wx (Calls.mono (P2.out wx) (fun e w'' h => ⟨h.1, h.2 ▸ Ext.refl _⟩)); with_reducible exact r)
        simp only [Act.put, List.setIfInBounds_toArray, List.set_cons_zero, List.set_cons_succ]
      refine wpTk_nil ?_
      refine wpX_one 14 (by kernel_rfl) rfl rfl (fun wz hz K hK => ?_)
      have hs9 : (⟨#[64, 64, 32, 45]⟩ ++ S1 ++ ⟨#[32, 43]⟩ ++ S2 ++ ⟨#[32, 64, 64, 10]⟩ : ByteArray).size ≤ 100 := by
        rw [HC.out, mkS_size, List.length_append]; have := HHD.out; simp; omega
      have hgz : g ≤ wz.heap.size := Nat.le_trans hgw hz.1.1.size
      have hwr := wstr_is (⟨#[64, 64, 32, 45]⟩ ++ S1 ++ ⟨#[32, 43]⟩ ++ S2 ++ ⟨#[32, 64, 64, 10]⟩) hz.2 (by have := HLZ.out; omega) (by omega) hgz
      have KZ := Lib.hid hz.1
      clear hz
      go_simp
      refine hwr.mono ?_
      rintro e w5 ⟨rfl, hb5, hk5⟩
      have kz5 : Blk w5 z (BkM.obj ⟨moa, mol, mna, mnl, mla, mln, mlc⟩) := hk5.blk (KZ.out.at 0 rfl) hzg (by decide)
      have e5 : Ext w1 w5 := bk_ext (HE.out.trans KZ.out.1) HG.out hk5
      have hg5 : g ≤ w5.heap.size := Nat.le_trans hgz hk5.size
      have hb5' : Bd g g (fmtA xs k x 0) w5 := by
        rw [HZ.out]; rw [HC.out, mkS_data] at hb5; exact hb5
      refine hK _ _ ⟨fun wx => Blk wx z (BkM.obj ⟨moa, mol, mna, mnl, mla, mln, mlc⟩) ∧ Ext w1 wx ∧ Bd g g (fmtA xs k x 0) wx ∧ g ≤ wx.heap.size, (Stab.blk _ _).and ((Stab.ext _).and ((Bd.stab _ _ _).and (Stab.size _))), fun _ h => h.1, ⟨kz5, e5, hb5', hg5⟩, ?_⟩
      clear hK K hwr KZ hgz hb5 hb5' hk5 kz5 e5 hg5 w5 wz hs9
      refine wpX_done (by kernel_rfl) (fun wz hz => ?_) _
      obtain ⟨hz1, hz2, hz3, hz4⟩ := hz
      obtain ⟨d0, d1, d2, d3, d4⟩ := hz1.cells5
      have HZ2 := Lib.hid hz2; have HZ3 := Lib.hid hz3
      clear hz1 hz2 hz3 c0 c1 c2 c3 c4 d0 d1 d2 d3 P1 P2 HC s1 s2 K1 B1
      have hml : mln ≤ Reach := HR.out.ln
      unfold Reach at hml
      go_wp2_with fail
      have hlsn : mln = x.ls.length := by have := HR.out.ls.1; simp at this; exact this.symm
      have HLSN := Lib.hid hlsn
      have hml2 : mln ≤ 10000 := by rw [hlsn]; exact HFX.out.len
      clear hlsn
      go_loopw [43] (fun i wq => ∃ j : Nat, j ≤ mln ∧ i = .int .i64 j ∧ Bd g g (fmtA xs k x j) wq ∧ Ext w1 wq ∧ g ≤ wq.heap.size) (fun i _ => mln - (intOf i).toNat)
      case atStart => exact ⟨0, Nat.zero_le _, rfl, HZ3.out, HZ2.out, hz4⟩
      case round =>
        obtain ⟨j, hj, rfl, hb, hE2, hg2⟩ := hrel
        have HBJ := Lib.hid hb; have HEJ := Lib.hid hE2; clear hb hE2
        by_cases hltj : j < mln
        · obtain ⟨b', off', s, rfl, hb1', hs1, hs2, hc1⟩ := (HR.out.ls.ext (HE1.out.trans HEJ.out)).get hltj
          obtain ⟨y, hy⟩ : ∃ y, x.ls[j]? = some y := ⟨_, List.getElem?_eq_getElem (by rw [← HLSN.out]; exact hltj)⟩
          have hs : lnS y = s := by rw [List.getElem?_map, hy] at hs1; simpa using hs1
          have hno : (10 : UInt8) ∉ s.data.toList := by rw [← hs]; exact ln_no HFX.out (mem_of_get hy)
          have hss : s.size ≤ 100001 := by rw [← hs, lnS_size]; have := (HFX.out.ln y (mem_of_get hy)).2; omega
          have hsu := fmtA_succ xs k hy
          rw [hs] at hsu
          have hlj := fmtA_len HXK.out j
          have hcc := fun w => contains_is (w := w) hno
          have HCC := Lib.hid hcc; have HSU := Lib.hid hsu; have HLJ := Lib.hid hlj
          clear hs1 hs hno hsu hcc hlj hs2 hy
          go_wp2_with fail
          refine (HCC.out _).mono ?_
          rintro e w6 ⟨rfl, rfl⟩
          have hcat : ¬ (9223372036854775807 < s.size + 1) := by omega
          go_wp2_with fail
          have hsz : (s ++ ⟨#[10]⟩ : ByteArray).size = s.size + 1 := by rw [ByteArray.size_append]; rfl
          have hw1 := wstr_is (s ++ ⟨#[10]⟩) HBJ.out (by have := HLJ.out; omega) (by omega) hg2
          clear hsz
          refine hw1.mono ?_
          rintro e w7 ⟨rfl, hb7, hk7⟩
          clear hw1
          have HB7 := Lib.hid hb7; have HE7 := Lib.hid (bk_ext HEJ.out HG.out hk7); have hg7 := Nat.le_trans hg2 hk7.size
          clear hb7 hk7
          go_wp2_with fail
          go_roundw
          case rel =>
            refine ⟨j + 1, by omega, by go_num, ?_, HE7.out, hg7⟩
            have := HB7.out
            rw [HSU.out]
            have e2 : (s ++ ⟨#[10]⟩ : ByteArray).data.toList = s.data.toList ++ [10] := by rw [ByteArray.data_append]; simp
            rw [e2] at this; exact this
          case measure => simp [intOf]; omega
        · go_wp2_with fail
          go_roundw
          case rel =>
            refine ⟨k + 1, by omega, by go_num, ?_, HEJ.out, hg2⟩
            have := HBJ.out
            rw [fmtA_end HXK.out (by rw [← HLSN.out]; omega)] at this
            exact this
          case measure => simp [intOf]; omega
    · go_wp2_with fail
      refine (bstr_is HB1.out hgw).mono ?_
      rintro e w5 ⟨rfl, hk5⟩
      go_wp2_with fail
      have e5 := bk_ext HE.out HG.out hk5
      have h9 : xs.take k = xs := List.take_of_length_le (by rw [HN.out]; omega)
      refine bodyPost_ret (v := .tuple #[.string (mkS (fmtL (xs.take k))), .int .i64 0]) (by simp [results, Tryz.results18, go_sem]) rfl ⟨by rw [h9], HE1.out.trans e5⟩
end Go.Proofs.YtmmcjcaccicheaaGreatDoor

/- The reference's Diff; PatienceDiff: the walk. -/
import Derived.Test.YtmmhbnlafcmloaaPaRMid
namespace Go.Proofs.Ytmmhbnlafcmloaa
open Go.RowKit

set_option maxRecDepth 100000 in
set_option maxHeartbeats 16000000 in
theorem rdiff05_all : ∀ f, DRAll f
  | 0 => fun _ _ _ _ _ _ a _ _ hf _ _ _ _ _ _ => absurd hf (by omega)
  | f + 1 => by
    have IH := rdiff05_all f
    intro A B n c m d a b w hf ha hb hn hm hnc hmd
    obtain rfl : a.length = n := ha.1
    obtain rfl : b.length = m := hb.1
    have HA := Lib.hid ha; have HB := Lib.hid hb; have HIH := Lib.hid IH; clear ha hb IH
    obtain ⟨inf, i1, i2, i3, i4⟩ := info_of infoM'
    have I1 := Lib.hid i1; have I2 := Lib.hid i2; have I3 := Lib.hid i3; have I4 := Lib.hid i4; clear i1 i2 i3 i4
    obtain ⟨p, hp⟩ : ∃ p, preN a b = p := ⟨_, rfl⟩
    obtain ⟨q, hq⟩ : ∃ q, sufN a b = q := ⟨_, rfl⟩
    obtain ⟨s1, s2⟩ := suf_le a b
    rw [hp, hq] at s1 s2
    obtain ⟨a1, ha1⟩ : ∃ a1, cutV a p (a.length - q) = a1 := ⟨_, rfl⟩
    obtain ⟨b1, hb1⟩ : ∃ b1, cutV b p (b.length - q) = b1 := ⟨_, rfl⟩
    have la1 : a1.length = a.length - q - p := by rw [← ha1]; exact cutV_len (by omega)
    have lb1 : b1.length = b.length - q - p := by rw [← hb1]; exact cutV_len (by omega)
    obtain ⟨G, hG⟩ : ∃ G, midG (rdV f) a1 b1 = G := ⟨_, rfl⟩
    have hGl : G.length ≤ 602 := by rw [← hG]; have := rmid_len f a1 b1; omega
    have hGb : Bnd 60 G := by rw [← hG]; exact rmid_bnd f a1 b1 60 (by omega) (by omega)
    obtain ⟨E, hE0⟩ : ∃ E, (if a1 = [] ∨ b1 = [] then [] else shV G p p) = E := ⟨_, rfl⟩
    have hV : rdV (f + 1) a b = runsV ([⟨0, 0, (p : Int)⟩] ++ E ++ [⟨((a.length - q : Nat) : Int), ((b.length - q : Nat) : Int), (q : Int)⟩]) := by
      rw [rdV, hp, hq, ha1, hb1, hG, hE0, show (a.length : Int) - q = ((a.length - q : Nat) : Int) by omega, show (b.length : Int) - q = ((b.length - q : Nat) : Int) by omega]
    have hEb : Bnd 200 E := by
      rw [← hE0]
      split
      · intro m hm; simp at hm
      · exact shV_bnd hGb 60 (Nat.le_refl _) 200 (by omega) p p (by omega) (by omega)
    have hXB : Bnd 200 ([⟨0, 0, (p : Int)⟩] ++ E ++ [⟨((a.length - q : Nat) : Int), ((b.length - q : Nat) : Int), (q : Int)⟩]) := fun m hm => by
      simp only [List.mem_append, List.mem_singleton] at hm
      rcases hm with (rfl | hm) | rfl
      · dsimp only; omega
      · exact hEb m hm
      · dsimp only; omega
    have HP := Lib.hid hp; have HQ := Lib.hid hq; have HGB := Lib.hid hGb; have HG := Lib.hid hG; have HV := Lib.hid hV; have HXB := Lib.hid hXB; have HE0 := Lib.hid hE0
    clear hp hq hGb hG hV hXB hE0 hEb
    go_enter Try.func19, Try.ntmps19
    go_wp2_with fail
    refine (rcommon_is A B a.length c b.length d a b _ HA.out HB.out (by omega) (by omega) p q HP.out HQ.out).mono ?_
    rintro e w1 ⟨rfl, hE⟩
    have HE1 := Lib.hid hE; clear hE
    obtain ⟨A2, hA2⟩ : ∃ A2, (if c = p then A else A.map (fun z => z.add p)) = A2 := ⟨_, rfl⟩
    obtain ⟨B2, hB2⟩ : ∃ B2, (if d = p then B else B.map (fun z => z.add p)) = B2 := ⟨_, rfl⟩
    have sA : ∀ wx, Ext w1 wx → Strs wx A2 (a.length - q - p) a1 := fun wx hx => by rw [← ha1]; exact strs_part (HA.out.ext (HE1.out.trans hx)) hnc (by omega) (by omega) hA2
    have sB : ∀ wx, Ext w1 wx → Strs wx B2 (b.length - q - p) b1 := fun wx hx => by rw [← hb1]; exact strs_part (HB.out.ext (HE1.out.trans hx)) hmd (by omega) (by omega) hB2
    have HA2 := Lib.hid hA2; have HB2 := Lib.hid hB2; have SA := Lib.hid sA; have SB := Lib.hid sB; clear hA2 hB2 sA sB ha1 hb1
    go_wp2_with fail
    obtain ⟨V, hVd⟩ : ∃ V, Value.slice (some ⟨w1.heap.size, 0, none⟩) 1 1 = V := ⟨_, rfl⟩
    obtain ⟨S, hS⟩ : ∃ S, S = (fun wz => Ext w1 wz ∧ wz.ownsRow w1.heap.size 32 3 V 1 (Mt.cells ⟨0, 0, (p : Int)⟩)) := ⟨_, rfl⟩
    have hSs : Stab S := by rw [hS]; exact (Stab.ext _).and (fun _ _ e h => own_stab3 e h)
    have hS1 : S (w1.alloc (Mt.obj ⟨0, 0, (p : Int)⟩)).drew := by
      rw [hS, ← hVd]
      refine ⟨((Ext.refl w1).alloc _).drew, own_stab3 (Ext.refl _).drew ⟨rfl, .inr ⟨w1.heap.size, 1, _, rfl, Nat.le_refl _, heap_alloc_new w1 _, Nat.le_refl _, by simp [maxLen], rfl, rfl⟩⟩⟩
    have g1 : a.length - q ≤ c := by omega
    have g2 : b.length - q ≤ d := by omega
    have g3 : p ≤ a.length - q := by omega
    have g4 : p ≤ b.length - q := by omega
    have e1 : IntKind.i64.wrap ((a.length : Int) - q) = ((a.length - q : Nat) : Int) := by rw [wrap_in (by omega) (by omega)]; omega
    have e2 : IntKind.i64.wrap ((b.length : Int) - q) = ((b.length - q : Nat) : Int) := by rw [wrap_in (by omega) (by omega)]; omega
    have e3 : wrap64 ((a.length : Int) - q) = ((a.length - q : Nat) : Int) := by rw [w64_in (by omega) (by omega)]; omega
    have e4 : wrap64 ((b.length : Int) - q) = ((b.length - q : Nat) : Int) := by rw [w64_in (by omega) (by omega)]; omega
    rw [hVd]
    refine wp_region_X (T := fun wz => Ext w1 wz) S (by kernel_rfl) hS1 (wpX_takes (by kernel_rfl) (fun _ d _ _ _ h => by cases d <;> exact h) hSs (fun _ h => by rw [hS] at h; exact h.1) (fuel := 2) [0,1,2,3,4,5,6,7,8,9,10,11,12,13] _ _ (by kernel_rfl) ?_)
    clear hS1
    iterate 6
      refine wpTk_want rfl (Eq.refl true) ?_
      apply Exists.intro
      refine ⟨fun wx hx => ?_, ?_⟩
      · clear hx
        go_simp
        with_reducible exact gives_ok _ _ _
      simp only [Act.put, List.setIfInBounds_toArray, List.set_cons_zero, List.set_cons_succ]
    refine wpTk_want rfl (Eq.refl true) ⟨.slice A2 (a.length - q - p) (c - p), fun wx hx => ?_, ?_⟩
    · clear hx
      go_simp
      rw [HA2.out]
      with_reducible exact gives_ok _ _ _
    simp only [Act.put, List.setIfInBounds_toArray, List.set_cons_zero, List.set_cons_succ]
    iterate 6
      refine wpTk_want rfl (Eq.refl true) ?_
      apply Exists.intro
      refine ⟨fun wx hx => ?_, ?_⟩
      · clear hx
        go_simp
        with_reducible exact gives_ok _ _ _
      simp only [Act.put, List.setIfInBounds_toArray, List.set_cons_zero, List.set_cons_succ]
    refine wpTk_want rfl (Eq.refl true) ⟨.slice B2 (b.length - q - p) (d - p), fun wx hx => ?_, ?_⟩
    · clear hx
      go_simp
      rw [HB2.out]
      with_reducible exact gives_ok _ _ _
    simp only [Act.put, List.setIfInBounds_toArray, List.set_cons_zero, List.set_cons_succ]
    refine wpTk_nil ?_
    refine wpX_one 14 (by kernel_rfl) rfl rfl (fun wx hx K hK => ?_)
    go_simp
    refine hK _ _ ⟨S, hSs, fun _ h => by rw [hS] at h; exact h.1, hx, ?_⟩
    clear hK K hx wx
    refine wpX_one 15 (by kernel_rfl) rfl rfl (fun wx hx K hK => ?_)
    go_simp
    refine hK _ _ ⟨S, hSs, fun _ h => by rw [hS] at h; exact h.1, hx, ?_⟩
    clear hK K hx wx
    refine wpX_done (by kernel_rfl) (fun w3 hx => ?_) _
    rw [hS] at hx
    have HE3 := Lib.hid hx.1; have HO3 := Lib.hid hx.2; have HVd := Lib.hid hVd; clear hx hS hSs hVd g1 g2 g3 g4
    obtain ⟨la, hla⟩ : ∃ la, a.length - q - p = la := ⟨_, rfl⟩
    obtain ⟨lb, hlb⟩ : ∃ lb, b.length - q - p = lb := ⟨_, rfl⟩
    have hla' : la ≤ 60 := by omega
    have hlb' : lb ≤ 60 := by omega
    have hlaf : la ≤ f := by omega
    rw [hla] at la1 SA ⊢; rw [hlb] at lb1 SB ⊢
    have HLA := Lib.hid hla; have HLB := Lib.hid hlb; clear hla hlb
    by_cases h1 : 0 < la
    case neg =>
      have hE := HE0.out
      rw [if_pos (.inl (List.eq_nil_of_length_eq_zero (by omega)))] at hE
      subst hE
      have q0 : decide (0 < la) = false := nd h1
      have q1 : decide ((0 : Int) < (la : Int)) = false := nd (by omega)
      go_wp2_with (at_builtin; refine wpList_append_size2 rfl (.tmp 49) (.tmp 60) 25 rfl w1.heap.size 32 inf _ 3 24 underM' I1.out I2.out I3.out I4.out rfl (by decide) V 1 (Mt.cells ⟨0, 0, (p : Int)⟩) (some ⟨w3.heap.size, 0, none⟩) 1 1 (Mt.cells ⟨((a.length - q : Nat) : Int), ((b.length - q : Nat) : Int), (q : Int)⟩) rfl (by simp [Act.eval]) rfl (by simp [Mt.cells, Value.oneCell']) (by simp only [maxLen]; omega) (by omega) (own_stab3 ((Ext.refl w3).alloc _) HO3.out) (Cells.new w3 _ _ rfl) (by have := (HE3.out).size; simp; omega) ?_; intro v' w7 hown hg hbk; have hx7 : Ext w1 w7 := ((HE3.out).trans ((Ext.refl w3).alloc _)).own3 (own_stab3 ((Ext.refl w3).alloc _) HO3.out) hg; obtain ⟨A5, k5, rfl, -, hM7⟩ := ownM_mts (ms := ([⟨0, 0, (p : Int)⟩] ++ [] ++ [⟨((a.length - q : Nat) : Int), ((b.length - q : Nat) : Int), (q : Int)⟩])) (by simp only [List.flatMap_append, List.flatMap_cons, List.flatMap_nil, List.append_nil]; exact hown) (HXB.out.wf (by omega)); have HX7 := Lib.hid hx7; have HM7 := Lib.hid hM7; clear hx7 hM7 hown hg hbk)
      refine (rruns_any A5 _ k5 ([⟨0, 0, (p : Int)⟩] ++ [] ++ [⟨((a.length - q : Nat) : Int), ((b.length - q : Nat) : Int), (q : Int)⟩]) 200 _ HM7.out (by omega) HXB.out (by omega)).mono ?_
      rintro e w8 ⟨v8, rfl, ho, hE⟩
      have HO8 := Lib.hid ho; have HE8 := Lib.hid ((HE1.out.trans HX7.out).trans hE); have hs8 : w.heap.size ≤ w7.heap.size := (HE1.out.trans HX7.out).size; clear ho hE
      go_wp2_with fail
      go_ret
      exact ⟨_, rfl, by rw [HV.out]; exact own_base HO8.out hs8, HE8.out⟩
    have q0 : decide (0 < la) = true := yd h1
    have q1 : decide ((0 : Int) < (la : Int)) = true := yd (by omega)
    by_cases h2 : 0 < lb
    case neg =>
      have hE := HE0.out
      rw [if_pos (.inr (List.eq_nil_of_length_eq_zero (by omega)))] at hE
      subst hE
      have q2 : decide (0 < lb) = false := nd h2
      have q3 : decide ((0 : Int) < (lb : Int)) = false := nd (by omega)
      go_wp2_with (at_builtin; refine wpList_append_size2 rfl (.tmp 49) (.tmp 60) 25 rfl w1.heap.size 32 inf _ 3 24 underM' I1.out I2.out I3.out I4.out rfl (by decide) V 1 (Mt.cells ⟨0, 0, (p : Int)⟩) (some ⟨w3.heap.size, 0, none⟩) 1 1 (Mt.cells ⟨((a.length - q : Nat) : Int), ((b.length - q : Nat) : Int), (q : Int)⟩) rfl (by simp [Act.eval]) rfl (by simp [Mt.cells, Value.oneCell']) (by simp only [maxLen]; omega) (by omega) (own_stab3 ((Ext.refl w3).alloc _) HO3.out) (Cells.new w3 _ _ rfl) (by have := (HE3.out).size; simp; omega) ?_; intro v' w7 hown hg hbk; have hx7 : Ext w1 w7 := ((HE3.out).trans ((Ext.refl w3).alloc _)).own3 (own_stab3 ((Ext.refl w3).alloc _) HO3.out) hg; obtain ⟨A5, k5, rfl, -, hM7⟩ := ownM_mts (ms := ([⟨0, 0, (p : Int)⟩] ++ [] ++ [⟨((a.length - q : Nat) : Int), ((b.length - q : Nat) : Int), (q : Int)⟩])) (by simp only [List.flatMap_append, List.flatMap_cons, List.flatMap_nil, List.append_nil]; exact hown) (HXB.out.wf (by omega)); have HX7 := Lib.hid hx7; have HM7 := Lib.hid hM7; clear hx7 hM7 hown hg hbk)
      refine (rruns_any A5 _ k5 ([⟨0, 0, (p : Int)⟩] ++ [] ++ [⟨((a.length - q : Nat) : Int), ((b.length - q : Nat) : Int), (q : Int)⟩]) 200 _ HM7.out (by omega) HXB.out (by omega)).mono ?_
      rintro e w8 ⟨v8, rfl, ho, hE⟩
      have HO8 := Lib.hid ho; have HE8 := Lib.hid ((HE1.out.trans HX7.out).trans hE); have hs8 : w.heap.size ≤ w7.heap.size := (HE1.out.trans HX7.out).size; clear ho hE
      go_wp2_with fail
      go_ret
      exact ⟨_, rfl, by rw [HV.out]; exact own_base HO8.out hs8, HE8.out⟩
    have q2 : decide (0 < lb) = true := yd h2
    have q3 : decide ((0 : Int) < (lb : Int)) = true := yd (by omega)
    have hE := HE0.out
    rw [if_neg (fun h => by
      rcases h with h | h
      · rw [h] at la1; simp only [List.length_nil] at la1; omega
      · rw [h] at lb1; simp only [List.length_nil] at lb1; omega)] at hE
    subst hE
    go_wp2_with fail
    refine (rmiddle_any f HIH.out A2 B2 la (c - p) lb (d - p) a1 b1 _ (SA.out _ HE3.out) (SB.out _ HE3.out) hla' hlb' (by have := HLA.out; omega) (by have := HLB.out; omega) (by omega)).mono ?_
    rintro e w4 ⟨v4, rfl, ho, hE⟩
    rw [HG.out] at ho
    obtain ⟨A3, c3, rfl, -, hM4⟩ := ownM_mts ho (HGB.out.wf (by omega))
    have HE4 := Lib.hid (HE3.out.trans hE); have HO4 := Lib.hid (own_stab3 hE HO3.out); have HM4 := Lib.hid hM4; clear ho hE hM4
    go_wp2_with fail
    refine (rshift_is A3 G.length c3 G p p _ HM4.out HGB.out (by omega) (by omega) (by omega)).mono ?_
    rintro e w5 ⟨A4, c4, rfl, hM5, hE⟩
    have HE5 := Lib.hid (HE4.out.trans hE); have HO5 := Lib.hid (own_stab3 hE HO4.out); have HM5 := Lib.hid hM5; clear hE hM5
    go_wp2_with (at_builtin; first | (refine wpList_append_size2 rfl (.tmp 41) (.tmp 47) 25 rfl w1.heap.size 32 inf _ 3 24 underM' I1.out I2.out I3.out I4.out rfl (by decide) V 1 (Mt.cells ⟨0, 0, (p : Int)⟩) A4 G.length c4 ((shV G p p).flatMap Mt.cells) rfl (by simp [Act.eval]) (by rw [flat_len mt_cells_len, shV, List.length_map]) (one_mt _) (by simp only [maxLen]; omega) (by omega) HO5.out HM5.out.2.2 HE5.out.size ?_; intro v6 w6 hown hg hbk; have HO6 := Lib.hid hown; have HE6 := Lib.hid (HE5.out.own3 HO5.out hg); clear hown hg hbk) | (refine wpList_append_size2 rfl (.tmp 49) (.tmp 60) 25 rfl w1.heap.size 32 inf _ 3 24 underM' I1.out I2.out I3.out I4.out rfl (by decide) v6 (1 + G.length) _ (some ⟨w6.heap.size, 0, none⟩) 1 1 (Mt.cells ⟨((a.length - q : Nat) : Int), ((b.length - q : Nat) : Int), (q : Int)⟩) rfl (by simp [Act.eval]) rfl (by simp [Mt.cells, Value.oneCell']) (by simp only [maxLen]; omega) (by omega) (own_stab3 ((Ext.refl w6).alloc _) HO6.out) (Cells.new w6 _ _ rfl) (by have := (HE6.out).size; simp; omega) ?_; intro v' w7 hown hg hbk; have hx7 : Ext w1 w7 := ((HE6.out).trans ((Ext.refl w6).alloc _)).own3 (own_stab3 ((Ext.refl w6).alloc _) HO6.out) hg; obtain ⟨A5, k5, rfl, -, hM7⟩ := ownM_mts (ms := ([⟨0, 0, (p : Int)⟩] ++ shV G p p ++ [⟨((a.length - q : Nat) : Int), ((b.length - q : Nat) : Int), (q : Int)⟩])) (by simp only [List.flatMap_append, List.flatMap_cons, List.flatMap_nil, List.append_nil]; exact hown) (HXB.out.wf (by omega)); have HX7 := Lib.hid hx7; have HM7 := Lib.hid hM7; clear hx7 hM7 hown hg hbk))
    refine (rruns_any A5 _ k5 ([⟨0, 0, (p : Int)⟩] ++ shV G p p ++ [⟨((a.length - q : Nat) : Int), ((b.length - q : Nat) : Int), (q : Int)⟩]) 200 _ HM7.out (by omega) HXB.out (by omega)).mono ?_
    rintro e w8 ⟨v8, rfl, ho, hE⟩
    have HO8 := Lib.hid ho; have HE8 := Lib.hid ((HE1.out.trans HX7.out).trans hE); have hs8 : w.heap.size ≤ w7.heap.size := (HE1.out.trans HX7.out).size; clear ho hE
    go_wp2_with fail
    go_ret
    exact ⟨_, rfl, by rw [HV.out]; exact own_base HO8.out hs8, HE8.out⟩

theorem rdiff05_is (A B : Option Addr) (n c m d : Nat) (a b : Lns) (w : World) (ha : Strs w A n a) (hb : Strs w B m b) (hn : n ≤ 60) (hm : m ≤ 60) (hnc : n ≤ c) (hmd : m ≤ d) :
    Calls Try.prog 19 #[.slice A n c, .slice B m d] w fun e w' => ∃ C k, e = .returned (.slice C (pdV (a.length + 1) a b).length k) ∧ Mts w' C (pdV (a.length + 1) a b).length (pdV (a.length + 1) a b) ∧ Ext w w' := by
  refine (rdiff05_all (a.length + 1) A B n c m d a b w (by omega) ha hb hn hm hnc hmd).mono ?_
  rintro e w' ⟨v, rfl, ho, hE⟩
  have hla := ha.1; have hlb := hb.1
  have hB := rd_bnd (a.length + 1) a b 60 (by omega) (by omega)
  rw [rd_eq] at ho hB
  obtain ⟨C, k, rfl, _, hM⟩ := ownM_mts ho (hB.wf (by omega))
  exact ⟨C, k, rfl, hM, hE⟩

set_option maxRecDepth 100000 in
set_option maxHeartbeats 8000000 in
theorem diff_walk {A : Option Addr} {n c : Nat} {a : Lns} {B : Option Addr} {m d : Nat} {b : Lns} (w : World) (ha : Strs w A n a) (hac : n ≤ c) (han : n ≤ Reach) (hb : Strs w B m b) (hbc : m ≤ d) (hbn : m ≤ Reach) :
    Calls Try.prog 5 #[.slice A n c, .slice B m d] w (Good w) := by
  obtain rfl : a.length = n := ha.1
  obtain rfl : b.length = m := hb.1
  have HA := Lib.hid ha; have HB := Lib.hid hb; clear ha hb
  go_enter Try.func5, Try.ntmps5
  go_wp2_with fail
  refine (great_any A B a.length c b.length d a b _ HA.out HB.out han hbn).mono ?_
  rintro e w1 ⟨rfl, hE⟩
  have HE := Lib.hid hE; clear hE
  cases hg : (great04 a || great04 b) with
  | true =>
    go_wp2_with fail
    refine (awake_any _).mono ?_
    rintro e w9 ⟨rfl, hE⟩
    have HE9 := Lib.hid (HE.out.trans hE); clear hE
    go_wp2_with fail
    go_ret
    exact ⟨rfl, HE9.out⟩
  | false =>
    have hg2 : great04 a = false ∧ great04 b = false := by simpa using hg
    have h1 := great04_len hg2.1
    have h2 := great04_len hg2.2
    clear hg hg2
    have hRl := pd_len (a.length + 1) a b
    obtain ⟨R, hR⟩ : ∃ R, pdV (a.length + 1) a b = R := ⟨_, rfl⟩
    rw [hR] at hRl
    have HR := Lib.hid hR; clear hR
    go_wp2_with fail
    refine (pdiff_is A B a.length c b.length d a b _ (HA.out.ext HE.out) (HB.out.ext HE.out) (by omega) (by omega) hac hbc).mono ?_
    rintro e w2 ⟨C1, k1, rfl, hM, hE⟩
    rw [HR.out] at hM ⊢
    have HE2 := Lib.hid (HE.out.trans hE); have HM := Lib.hid hM; clear hE hM
    go_wp2_with fail
    refine (rdiff05_is A B a.length c b.length d a b _ (HA.out.ext HE2.out) (HB.out.ext HE2.out) (by omega) (by omega) hac hbc).mono ?_
    rintro e w3 ⟨C2, k2, rfl, hM2, hE⟩
    rw [HR.out] at hM2 ⊢
    have HE3 := Lib.hid (HE2.out.trans hE); have HM2 := Lib.hid hM2; have HM1 := Lib.hid (HM.out.ext hE); clear hE hM2
    go_wp2_with fail
    refine (sameM_is (r := true) (by simp) HM1.out HM2.out (by unfold Reach; omega) (by unfold Reach; omega)).mono ?_
    rintro e w4 ⟨rfl, hE⟩
    have HE4 := Lib.hid (HE3.out.trans hE); clear hE
    go_wp2_with fail
    refine (awake_any _).mono ?_
    rintro e w9 ⟨rfl, hE⟩
    have HE9 := Lib.hid (HE4.out.trans hE); clear hE
    go_wp2_with fail
    go_ret
    exact ⟨rfl, HE9.out⟩
end Go.Proofs.Ytmmhbnlafcmloaa

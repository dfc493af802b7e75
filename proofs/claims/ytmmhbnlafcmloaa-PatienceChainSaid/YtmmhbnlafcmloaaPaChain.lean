/- PatienceChain: the walk. -/
import Derived.Test.YtmmhbnlafcmloaaPaSel
namespace Go.Proofs.Ytmmhbnlafcmloaa
open Go.RowKit

set_option maxRecDepth 100000 in
set_option maxHeartbeats 16000000 in
theorem chain_walk {A : Option Addr} {n c : Nat} {l : List Mt} {B : Option Addr} {m d : Nat} {ps : List Bool} (w : World) (han : n ≤ Reach) (ha : Mts w A n l) (hbn : m ≤ Reach) (hb : Bls w B m ps) :
    Calls Try.prog 7 #[.slice A n c, .slice B m d] w (Good w) := by
  obtain rfl : l.length = n := ha.1
  obtain rfl : ps.length = m := hb.1
  have HA := Lib.hid ha; have HB := Lib.hid hb; clear ha hb
  go_enter Try.func7, Try.ntmps7
  by_cases h40 : 40 < l.length
  · have q0 : decide ((40 : Int) < l.length) = true := yd (by omega)
    have q1 : decide (40 < l.length) = true := yd h40
    clear h40
    go_wp2_with fail
    refine (awake_any _).mono ?_
    rintro e w9 ⟨rfl, hE⟩
    have HE9 := Lib.hid hE; clear hE
    go_wp2_with fail
    go_ret
    exact ⟨rfl, HE9.out⟩
  have q0 : decide ((40 : Int) < l.length) = false := nd (by omega)
  have q1 : decide (40 < l.length) = false := nd h40
  have hll := long_le l
  have hgr := greedy_all l
  have hgl := greedy_le l (longV l)
  have hgs := greedy_succ l (longV l)
  have hla := fun (k : Nat) x y => long_asc (l := l) (k := k) (x := x) (y := y)
  have hlp : l ≠ [] → 0 < (longV l).length := long_pos
  have hlw : ∀ m ∈ longV l, m ∈ l := fun m => long_mem
  obtain ⟨L, hL⟩ : ∃ L, longV l = L := ⟨_, rfl⟩
  rw [hL] at hll hgr hgl hgs hla hlp
  have HL := Lib.hid hL; have HGR := Lib.hid hgr; have HGL := Lib.hid hgl; have HGS := Lib.hid hgs; have HLA := Lib.hid hla; have HLP := Lib.hid hlp
  clear hL hgr hgl hgs hla hlp hlw
  go_wp2_with fail
  refine (longest_is A l.length c l _ HA.out (by omega)).mono ?_
  rintro e w2 ⟨C1, k1, rfl, hM, hE⟩
  rw [HL.out] at hM ⊢
  have HE2 := Lib.hid hE; have HM := Lib.hid hM; clear hE hM q0 q1
  go_wp2_with fail
  go_loopw [6, 21] (fun v6 v21 wr => ∃ k : Nat, k ≤ l.length ∧ v6 = .int .i64 (greedy l L k : Nat) ∧ v21 = .int .i64 k ∧ Ext w2 wr) (fun _ v21 _ => l.length - (intOf v21).toNat)
  case atStart => exact ⟨0, Nat.zero_le _, rfl, rfl, Ext.refl _⟩
  case round =>
    obtain ⟨k, hk, rfl, rfl, hE⟩ := hrel
    have HER := Lib.hid hE; clear hE
    obtain ⟨t, ht⟩ : ∃ t, greedy l L k = t := ⟨_, rfl⟩
    have htl : t ≤ L.length := by rw [← ht]; exact HGL.out k
    have hgs := HGS.out k
    rw [ht] at hgs ⊢
    by_cases hlt : k < l.length
    case pos =>
      obtain ⟨ba, oa, x, hA, hba, hx, -, d0, d1, d2⟩ := (HA.out.ext (HE2.out.trans HER.out)).get hlt
      subst hA
      have hE1 : Ext wr (wr.alloc (Mt.obj x)) := (Ext.refl wr).alloc _
      have HE1 := Lib.hid hE1; clear hE1
      by_cases htt : t < L.length
      case neg =>
        have q1 : decide (t < L.length) = false := nd htt
        rw [List.getElem?_eq_none (by omega), if_neg (fun h => h.1 rfl)] at hgs
        have HG := Lib.hid hgs; clear hgs hx ht
        go_wp2_with fail
        go_quiet (fail)
        go_wp2_with fail
        go_roundw
        case rel => exact ⟨k + 1, by omega, by rw [HG.out], by go_num, (HER.out.trans HE1.out).drewN _⟩
        case measure => simp [intOf]; omega
      have q1 : decide (t < L.length) = true := yd htt
      obtain ⟨b1, o1, y, hA1, hb1, hy, -, c0, c1, c2⟩ := (HM.out.ext HER.out).get htt
      subst hA1
      obtain ⟨e0, e1, e2⟩ := (Blk.new wr (Mt.obj x) rfl).cells3
      have f0 := HE1.out.cell c0; have f1 := HE1.out.cell c1; have f2 := HE1.out.cell c2
      rw [hy, hx] at hgs
      by_cases hyx : y = x
      · subst hyx
        rw [if_pos ⟨by simp, rfl⟩] at hgs
        have HG := Lib.hid hgs; clear hgs hx hy ht
        go_wp2_with fail
        clear c0 c1 c2 d0 d1 d2
        go_quiet (fail)
        go_wp2_with fail
        go_roundw
        case rel => exact ⟨k + 1, by omega, by rw [HG.out]; go_num, by go_num, (HER.out.trans HE1.out).drewN _⟩
        case measure => simp [intOf]; omega
      · rw [if_neg (fun h => hyx (by simpa using h.2))] at hgs
        have hd : (y.a == x.a) = false ∨ ((y.a == x.a) = true ∧ (y.b == x.b) = false) ∨ ((y.a == x.a) = true ∧ (y.b == x.b) = true ∧ (y.n == x.n) = false) := by
          cases y; cases x
          simp only [Mt.mk.injEq, not_and] at hyx
          simp only [beq_eq_false_iff_ne, beq_iff_eq]
          omega
        have HG := Lib.hid hgs; clear hgs hx hy ht hyx
        rcases hd with h1 | ⟨h1, h2⟩ | ⟨h1, h2, h3⟩
        all_goals
          go_wp2_with fail
          clear c0 c1 c2 d0 d1 d2
          go_quiet (fail)
          go_wp2_with fail
          go_roundw
          case rel => exact ⟨k + 1, by omega, by rw [HG.out], by go_num, (HER.out.trans HE1.out).drewN _⟩
          case measure => simp [intOf]; omega
    case neg =>
      obtain rfl : k = l.length := by omega
      have htL : t = L.length := by rw [← ht]; exact HGR.out
      subst htL
      clear ht hgs htl hk hlt
      by_cases hl0 : 0 < l.length
      · have hl1 := HLP.out (List.length_pos_iff.1 hl0)
        have q2 : decide (0 < l.length) = true := yd hl0
        have q3 : ((L.length : Int) == 0) = false := beq_eq_false_iff_ne.2 (by omega)
        clear hl0 hl1
        go_wp2_with fail
        clear q2 q3
        go_loopw [9] (fun v9 wr => ∃ k : Nat, 1 ≤ k ∧ (k = 1 ∨ k ≤ L.length) ∧ v9 = .int .i64 k ∧ Ext w2 wr) (fun v9 _ => L.length - (intOf v9).toNat)
        case atStart => exact ⟨1, Nat.le_refl _, .inl rfl, rfl, HER.out⟩
        clear HER
        case round =>
          obtain ⟨k, hk1, hk2, rfl, hE⟩ := hrel
          have HER := Lib.hid hE; clear hE
          by_cases hlt : k < L.length
          case pos =>
            obtain ⟨j, hj⟩ : ∃ j, j + 1 = k := ⟨k - 1, by omega⟩
            have q1 : decide (k < L.length) = true := yd hlt
            obtain ⟨b0, o0, x, hA0, hb0, hx, -, c0, c1, c2⟩ := (HM.out.ext HER.out).get (k := j) (by omega)
            subst hA0
            obtain ⟨b1, o1, y, hA1, hb1, hy, -, d0, d1, d2⟩ := (HM.out.ext HER.out).get hlt
            cases hA1
            have hxy := HLA.out j x y hx (by rw [hj]; exact hy)
            have q2 : decide (y.b ≤ x.b) = false := nd (by omega)
            have e0 : IntKind.i64.wrap ((k : Int) - 1) = (j : Int) := by rw [wrap_in (by omega) (by omega)]; omega
            have e1 : wrap64 ((k : Int) - 1) = (j : Int) := by rw [w64_in (by omega) (by omega)]; omega
            have hjl : j < L.length := by omega
            have HJ := Lib.hid hj; clear hj hx hy hxy
            go_wp2_with fail
            go_quiet (fail)
            go_wp2_with fail
            go_roundw
            case rel => exact ⟨k + 1, by omega, .inr (by omega), by go_num, HER.out.drewN _⟩
            case measure => simp [intOf]; omega
          have q1 : decide (k < L.length) = false := nd hlt
          clear hk1 hk2 hlt
          go_wp2_with fail
          refine (selected_any A B l.length c ps.length d l ps _ (HA.out.ext (HE2.out.trans HER.out)) (HB.out.ext (HE2.out.trans HER.out)) (by omega) hbn).mono ?_
          rintro e w4 ⟨hsel, hE⟩
          have HE4 := Lib.hid ((HE2.out.trans HER.out).trans hE); have HM4 := Lib.hid (HM.out.ext (HER.out.trans hE)); clear hE
          rcases hsel with ⟨s, C, k9, hs, rfl, hMs⟩ | ⟨hs, rfl⟩
          case inr =>
            go_wp2_with fail
            refine (awake_any _).mono ?_
            rintro e w9 ⟨rfl, hE⟩
            have HE9 := Lib.hid (HE4.out.trans hE); clear hE
            go_wp2_with fail
            go_ret
            exact ⟨rfl, HE9.out⟩
          obtain ⟨hch, -, -⟩ := selI_ok l.length s (Nat.le_refl _) hs
          have hsle := chain_le hch
          rw [← longV_len, HL.out] at hsle
          by_cases hsl : s.length < L.length
          case pos =>
            have q1 : decide (s.length < L.length) = true := yd hsl
            go_wp2_with fail
            refine (awake_any _).mono ?_
            rintro e w9 ⟨rfl, hE⟩
            have HE9 := Lib.hid (HE4.out.trans hE); clear hE
            go_wp2_with fail
            go_ret
            exact ⟨rfl, HE9.out⟩
          have q1 : decide (s.length < L.length) = false := nd hsl
          have hse : s.length = L.length := by omega
          have q2 : ((s.length : Int) == (L.length : Int)) = true := by rw [hse]; simp
          have hlex := fun (k : Nat) x y (hx : (longV l)[k]? = some x) (hy : (selM l s)[k]? = some y) hq => sel_lex hch (by rw [hse, HL.out]) hx hy hq
          rw [HL.out] at hlex
          have HLEX := Lib.hid hlex; have HMS := Lib.hid hMs; have HSE := Lib.hid hse; clear hlex hMs hse hch hs hsle
          go_wp2_with fail
          go_loopw [90] (fun v90 wr => ∃ k : Nat, k ≤ L.length ∧ v90 = .int .i64 k ∧ (∀ q, q < k → ∀ u v, L[q]? = some u → (selM l s)[q]? = some v → u.b = v.b) ∧ Ext w4 wr) (fun v90 _ => L.length - (intOf v90).toNat)
          case atStart => exact ⟨0, Nat.zero_le _, rfl, fun q hq => by omega, Ext.refl _⟩
          case round =>
            obtain ⟨k, hk, rfl, hq, hE⟩ := hrel
            have HQ := Lib.hid hq; have HEQ := Lib.hid hE; clear hq hE
            by_cases hlt : k < L.length
            case neg =>
              obtain rfl : k = L.length := by omega
              go_wp2_with fail
              refine (awake_any _).mono ?_
              rintro e w9 ⟨rfl, hE⟩
              have HE9 := Lib.hid ((HE4.out.trans HEQ.out).trans hE); clear hE
              go_wp2_with fail
              go_ret
              exact ⟨rfl, HE9.out⟩
            have hks : k < s.length := by have := HSE.out; omega
            obtain ⟨b0, o0, x, hA0, hb0, hx, -, c0, c1, c2⟩ := (HM4.out.ext HEQ.out).get hlt
            subst hA0
            obtain ⟨b1, o1, y, hA1, hb1, hy, -, d0, d1, d2⟩ := (HMS.out.ext HEQ.out).get hks
            subst hA1
            by_cases hxy : x.b = y.b
            case pos =>
              have q3 : (x.b != y.b) = false := by rw [hxy]; simp
              have hq2 : ∀ q, q < k + 1 → ∀ u v, L[q]? = some u → (selM l s)[q]? = some v → u.b = v.b := fun q hq u v hu hv => by
                rcases Nat.lt_or_ge q k with h | h
                · exact HQ.out q h u v hu hv
                · obtain rfl : q = k := by omega
                  rw [hx] at hu; cases hu; rw [hy] at hv; cases hv; exact hxy
              have HQ2 := Lib.hid hq2; clear hq2 hxy hx hy
              go_wp2_with fail
              go_quiet (fail)
              go_wp2_with fail
              go_roundw
              case rel => exact ⟨k + 1, by omega, by go_num, HQ2.out, HEQ.out.drewN _⟩
              case measure => simp [intOf]; omega
            have q3 : (x.b != y.b) = true := by simp [hxy]
            have hle := HLEX.out k x y hx hy HQ.out
            have q4 : decide (x.b < y.b) = true := yd (by omega)
            clear hle hxy hx hy
            go_wp2_with fail
            go_quiet (fail)
            go_wp2_with fail
            have C1 := Lib.hid c1; have D1 := Lib.hid d1; clear c0 c1 c2 d0 d1 d2
            have hEw : Ext wr (wr.drewN nq).drew := ((Ext.refl wr).drewN _).drew
            refine wp_region_text (fun wx => Ext wr wx) [0,1,2,3,4,5,6,7,8,9,10,11,12,13,14,15,16,17,18,19,20,21] (by kernel_rfl) (Stab.ext _) hEw (by kernel_rfl) (fun _ d _ _ _ h => by cases d <;> exact h) ?_
            clear hEw
            iterate 4
              refine wpTk_want rfl (Eq.refl true) ?_
              apply Exists.intro
              refine ⟨fun wx hx => ?_, ?_⟩
              · clear hx
                go_simp
                with_reducible exact gives_ok _ _ _
              simp only [Act.put, List.setIfInBounds_toArray, List.set_cons_zero, List.set_cons_succ]
            refine wpTk_want rfl (Eq.refl true) ⟨.bool true, fun wx hx => ?_, ?_⟩
            · clear hx
              go_simp
              with_reducible exact gives_ok _ _ _
            simp only [Act.put, List.setIfInBounds_toArray, List.set_cons_zero, List.set_cons_succ]
            iterate 11
              refine wpTk_want rfl (Eq.refl true) ?_
              apply Exists.intro
              refine ⟨fun wx hx => ?_, ?_⟩
              · have z1 := hx.cell C1.out; have z2 := hx.cell D1.out
                clear hx
                go_simp
                with_reducible exact gives_ok _ _ _
              simp only [Act.put, List.setIfInBounds_toArray, List.set_cons_zero, List.set_cons_succ]
            refine wpTk_want rfl (Eq.refl true) ⟨.bool true, fun wx hx => ?_, ?_⟩
            · clear hx
              go_simp
              with_reducible exact gives_ok _ _ _
            simp only [Act.put, List.setIfInBounds_toArray, List.set_cons_zero, List.set_cons_succ]
            iterate 2
              refine wpTk_want rfl (Eq.refl true) ⟨.bool true, fun wx hx => ?_, ?_⟩
              · clear hx
                go_simp
                with_reducible exact gives_ok _ _ _
              simp only [Act.put, List.setIfInBounds_toArray, List.set_cons_zero, List.set_cons_succ]
            refine wpTk_want rfl (Eq.refl true) ⟨.bool true, fun wx hx => ?_, ?_⟩
            · clear hx
              go_simp
              have r := awake_any wx
              with_reducible exact gives_call _ _ _ r
            simp only [Act.put, List.setIfInBounds_toArray, List.set_cons_zero, List.set_cons_succ]
            iterate 2
              refine wpTk_want rfl (Eq.refl true) ⟨.bool true, fun wx hx => ?_, ?_⟩
              · clear hx
                go_simp
                with_reducible exact gives_ok _ _ _
              simp only [Act.put, List.setIfInBounds_toArray, List.set_cons_zero, List.set_cons_succ]
            refine wpTk_nil ?_
            intro w8 hK
            have HE8 := Lib.hid ((HE4.out.trans HEQ.out).trans hK); clear hK
            go_wp2_with fail
            go_ret
            exact ⟨rfl, HE8.out⟩
      · have q2 : decide (0 < l.length) = false := nd hl0
        clear hl0
        go_wp2_with fail
        clear q2
        go_loopw [9] (fun v9 wr => ∃ k : Nat, 1 ≤ k ∧ (k = 1 ∨ k ≤ L.length) ∧ v9 = .int .i64 k ∧ Ext w2 wr) (fun v9 _ => L.length - (intOf v9).toNat)
        case atStart => exact ⟨1, Nat.le_refl _, .inl rfl, rfl, HER.out⟩
        clear HER
        case round =>
          obtain ⟨k, hk1, hk2, rfl, hE⟩ := hrel
          have HER := Lib.hid hE; clear hE
          by_cases hlt : k < L.length
          case pos =>
            obtain ⟨j, hj⟩ : ∃ j, j + 1 = k := ⟨k - 1, by omega⟩
            have q1 : decide (k < L.length) = true := yd hlt
            obtain ⟨b0, o0, x, hA0, hb0, hx, -, c0, c1, c2⟩ := (HM.out.ext HER.out).get (k := j) (by omega)
            subst hA0
            obtain ⟨b1, o1, y, hA1, hb1, hy, -, d0, d1, d2⟩ := (HM.out.ext HER.out).get hlt
            cases hA1
            have hxy := HLA.out j x y hx (by rw [hj]; exact hy)
            have q2 : decide (y.b ≤ x.b) = false := nd (by omega)
            have e0 : IntKind.i64.wrap ((k : Int) - 1) = (j : Int) := by rw [wrap_in (by omega) (by omega)]; omega
            have e1 : wrap64 ((k : Int) - 1) = (j : Int) := by rw [w64_in (by omega) (by omega)]; omega
            have hjl : j < L.length := by omega
            have HJ := Lib.hid hj; clear hj hx hy hxy
            go_wp2_with fail
            go_quiet (fail)
            go_wp2_with fail
            go_roundw
            case rel => exact ⟨k + 1, by omega, .inr (by omega), by go_num, HER.out.drewN _⟩
            case measure => simp [intOf]; omega
          have q1 : decide (k < L.length) = false := nd hlt
          clear hk1 hk2 hlt
          go_wp2_with fail
          refine (selected_any A B l.length c ps.length d l ps _ (HA.out.ext (HE2.out.trans HER.out)) (HB.out.ext (HE2.out.trans HER.out)) (by omega) hbn).mono ?_
          rintro e w4 ⟨hsel, hE⟩
          have HE4 := Lib.hid ((HE2.out.trans HER.out).trans hE); have HM4 := Lib.hid (HM.out.ext (HER.out.trans hE)); clear hE
          rcases hsel with ⟨s, C, k9, hs, rfl, hMs⟩ | ⟨hs, rfl⟩
          case inr =>
            go_wp2_with fail
            refine (awake_any _).mono ?_
            rintro e w9 ⟨rfl, hE⟩
            have HE9 := Lib.hid (HE4.out.trans hE); clear hE
            go_wp2_with fail
            go_ret
            exact ⟨rfl, HE9.out⟩
          obtain ⟨hch, -, -⟩ := selI_ok l.length s (Nat.le_refl _) hs
          have hsle := chain_le hch
          rw [← longV_len, HL.out] at hsle
          by_cases hsl : s.length < L.length
          case pos =>
            have q1 : decide (s.length < L.length) = true := yd hsl
            go_wp2_with fail
            refine (awake_any _).mono ?_
            rintro e w9 ⟨rfl, hE⟩
            have HE9 := Lib.hid (HE4.out.trans hE); clear hE
            go_wp2_with fail
            go_ret
            exact ⟨rfl, HE9.out⟩
          have q1 : decide (s.length < L.length) = false := nd hsl
          have hse : s.length = L.length := by omega
          have q2 : ((s.length : Int) == (L.length : Int)) = true := by rw [hse]; simp
          have hlex := fun (k : Nat) x y (hx : (longV l)[k]? = some x) (hy : (selM l s)[k]? = some y) hq => sel_lex hch (by rw [hse, HL.out]) hx hy hq
          rw [HL.out] at hlex
          have HLEX := Lib.hid hlex; have HMS := Lib.hid hMs; have HSE := Lib.hid hse; clear hlex hMs hse hch hs hsle
          go_wp2_with fail
          go_loopw [90] (fun v90 wr => ∃ k : Nat, k ≤ L.length ∧ v90 = .int .i64 k ∧ (∀ q, q < k → ∀ u v, L[q]? = some u → (selM l s)[q]? = some v → u.b = v.b) ∧ Ext w4 wr) (fun v90 _ => L.length - (intOf v90).toNat)
          case atStart => exact ⟨0, Nat.zero_le _, rfl, fun q hq => by omega, Ext.refl _⟩
          case round =>
            obtain ⟨k, hk, rfl, hq, hE⟩ := hrel
            have HQ := Lib.hid hq; have HEQ := Lib.hid hE; clear hq hE
            by_cases hlt : k < L.length
            case neg =>
              obtain rfl : k = L.length := by omega
              go_wp2_with fail
              refine (awake_any _).mono ?_
              rintro e w9 ⟨rfl, hE⟩
              have HE9 := Lib.hid ((HE4.out.trans HEQ.out).trans hE); clear hE
              go_wp2_with fail
              go_ret
              exact ⟨rfl, HE9.out⟩
            have hks : k < s.length := by have := HSE.out; omega
            obtain ⟨b0, o0, x, hA0, hb0, hx, -, c0, c1, c2⟩ := (HM4.out.ext HEQ.out).get hlt
            subst hA0
            obtain ⟨b1, o1, y, hA1, hb1, hy, -, d0, d1, d2⟩ := (HMS.out.ext HEQ.out).get hks
            subst hA1
            by_cases hxy : x.b = y.b
            case pos =>
              have q3 : (x.b != y.b) = false := by rw [hxy]; simp
              have hq2 : ∀ q, q < k + 1 → ∀ u v, L[q]? = some u → (selM l s)[q]? = some v → u.b = v.b := fun q hq u v hu hv => by
                rcases Nat.lt_or_ge q k with h | h
                · exact HQ.out q h u v hu hv
                · obtain rfl : q = k := by omega
                  rw [hx] at hu; cases hu; rw [hy] at hv; cases hv; exact hxy
              have HQ2 := Lib.hid hq2; clear hq2 hxy hx hy
              go_wp2_with fail
              go_quiet (fail)
              go_wp2_with fail
              go_roundw
              case rel => exact ⟨k + 1, by omega, by go_num, HQ2.out, HEQ.out.drewN _⟩
              case measure => simp [intOf]; omega
            have q3 : (x.b != y.b) = true := by simp [hxy]
            have hle := HLEX.out k x y hx hy HQ.out
            have q4 : decide (x.b < y.b) = true := yd (by omega)
            clear hle hxy hx hy
            go_wp2_with fail
            go_quiet (fail)
            go_wp2_with fail
            have C1 := Lib.hid c1; have D1 := Lib.hid d1; clear c0 c1 c2 d0 d1 d2
            have hEw : Ext wr (wr.drewN nq).drew := ((Ext.refl wr).drewN _).drew
            refine wp_region_text (fun wx => Ext wr wx) [0,1,2,3,4,5,6,7,8,9,10,11,12,13,14,15,16,17,18,19,20,21] (by kernel_rfl) (Stab.ext _) hEw (by kernel_rfl) (fun _ d _ _ _ h => by cases d <;> exact h) ?_
            clear hEw
            iterate 4
              refine wpTk_want rfl (Eq.refl true) ?_
              apply Exists.intro
              refine ⟨fun wx hx => ?_, ?_⟩
              · clear hx
                go_simp
                with_reducible exact gives_ok _ _ _
              simp only [Act.put, List.setIfInBounds_toArray, List.set_cons_zero, List.set_cons_succ]
            refine wpTk_want rfl (Eq.refl true) ⟨.bool true, fun wx hx => ?_, ?_⟩
            · clear hx
              go_simp
              with_reducible exact gives_ok _ _ _
            simp only [Act.put, List.setIfInBounds_toArray, List.set_cons_zero, List.set_cons_succ]
            iterate 11
              refine wpTk_want rfl (Eq.refl true) ?_
              apply Exists.intro
              refine ⟨fun wx hx => ?_, ?_⟩
              · have z1 := hx.cell C1.out; have z2 := hx.cell D1.out
                clear hx
                go_simp
                with_reducible exact gives_ok _ _ _
              simp only [Act.put, List.setIfInBounds_toArray, List.set_cons_zero, List.set_cons_succ]
            refine wpTk_want rfl (Eq.refl true) ⟨.bool true, fun wx hx => ?_, ?_⟩
            · clear hx
              go_simp
              with_reducible exact gives_ok _ _ _
            simp only [Act.put, List.setIfInBounds_toArray, List.set_cons_zero, List.set_cons_succ]
            iterate 2
              refine wpTk_want rfl (Eq.refl true) ⟨.bool true, fun wx hx => ?_, ?_⟩
              · clear hx
                go_simp
                with_reducible exact gives_ok _ _ _
              simp only [Act.put, List.setIfInBounds_toArray, List.set_cons_zero, List.set_cons_succ]
            refine wpTk_want rfl (Eq.refl true) ⟨.bool true, fun wx hx => ?_, ?_⟩
            · clear hx
              go_simp
              have r := awake_any wx
              with_reducible exact gives_call _ _ _ r
            simp only [Act.put, List.setIfInBounds_toArray, List.set_cons_zero, List.set_cons_succ]
            iterate 2
              refine wpTk_want rfl (Eq.refl true) ⟨.bool true, fun wx hx => ?_, ?_⟩
              · clear hx
                go_simp
                with_reducible exact gives_ok _ _ _
              simp only [Act.put, List.setIfInBounds_toArray, List.set_cons_zero, List.set_cons_succ]
            refine wpTk_nil ?_
            intro w8 hK
            have HE8 := Lib.hid ((HE4.out.trans HEQ.out).trans hK); clear hK
            go_wp2_with fail
            go_ret
            exact ⟨rfl, HE8.out⟩
end Go.Proofs.Ytmmhbnlafcmloaa

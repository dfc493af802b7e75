/- Contract: weight of an alignment. -/
import Derived.Test.YtmmppfopokbcfaaTkPEq
namespace Go.Proofs.Ytmmppfopokbcfaa
open Go.RowKit

/-- Behind j pairs: the places that are left, the weight so far. -/
structure Wt (a b : Lns) (l : List (Int × Int)) (R : Int × Bool) (j : Nat) (I K n : Int) : Prop where
  rest : weightG simV a b (l.drop j) I K n = R
  prev : (j = 0 ∧ I = 0 ∧ K = 0) ∨ (∃ i, j = i + 1 ∧ l[i]? = some (I - 1, K - 1))
  pos : 0 ≤ I ∧ 0 ≤ K
  low : 0 ≤ n ∧ n ≤ 100 * j
theorem Wt.bad {a b : Lns} {l : List (Int × Int)} {R : Int × Bool} {j : Nat} {I K n : Int} {p q : Int} (h : Wt a b l R j I K n) (hx : l[j]? = some (p, q)) (hb : ¬ (I ≤ p ∧ p < a.length ∧ K ≤ q ∧ q < b.length)) : R = (0, false) := by
  have := h.rest
  rw [drop_of hx, weightG, if_neg (fun c => hb ⟨c.1, c.2.1, c.2.2.1, c.2.2.2.1⟩)] at this
  exact this.symm
theorem Wt.weak {a b : Lns} {l : List (Int × Int)} {R : Int × Bool} {j : Nat} {I K n : Int} {p q : Nat} {x y : ByteArray} (h : Wt a b l R j I K n) (hx : l[j]? = some ((p : Int), (q : Int))) (h1 : a[p]? = some x) (h2 : b[q]? = some y) (hb : ¬ 50 ≤ simV x y) : R = (0, false) := by
  have := h.rest
  rw [drop_of hx, weightG, if_neg (fun c => hb (by have := c.2.2.2.2; unfold simAt at this; simpa [h1, h2] using this))] at this
  exact this.symm
theorem Wt.next {a b : Lns} {l : List (Int × Int)} {R : Int × Bool} {j : Nat} {I K n : Int} {p q : Nat} {x y : ByteArray} (h : Wt a b l R j I K n) (hx : l[j]? = some ((p : Int), (q : Int))) (hp : I ≤ p) (hq : K ≤ q) (h1 : a[p]? = some x) (h2 : b[q]? = some y) (hb : 50 ≤ simV x y) : Wt a b l R (j + 1) (p + 1) (q + 1) (n + simV x y) := by
  have hs : simAt simV a b ((p : Int), (q : Int)) = simV x y := by unfold simAt; simp [h1, h2]
  have hr := sim_range x y
  have l1 := (List.getElem?_eq_some_iff.1 h1).1
  have l2 := (List.getElem?_eq_some_iff.1 h2).1
  refine ⟨?_, .inr ⟨j, rfl, by rw [hx]; simp⟩, by omega, by have := h.low; omega⟩
  have := h.rest
  rw [drop_of hx, weightG, if_pos ⟨hp, by dsimp only; omega, hq, by dsimp only; omega, by rw [hs]; exact hb⟩, hs] at this
  exact this
theorem Wt.done {a b : Lns} {l : List (Int × Int)} {R : Int × Bool} {j : Nat} {I K n : Int} (h : Wt a b l R j I K n) (hj : l.length ≤ j) : R = (n, true) := by
  have := h.rest
  rw [List.drop_eq_nil_of_le hj] at this
  exact this.symm

set_option maxRecDepth 100000 in
set_option maxHeartbeats 16000000 in
theorem weight_any (A B C : Option Addr) (c d e : Nat) (a b : Lns) (l : List (Int × Int)) (w : World) (hA : Strs w A a.length a) (hB : Strs w B b.length b) (hC : Prs w C l.length l) (_ha : a.length ≤ 10) (_hb : b.length ≤ 10) (hl : l.length ≤ 10) (hsa : ∀ s ∈ a, s.size ≤ 100) (hsb : ∀ s ∈ b, s.size ≤ 100) (R : Int × Bool) (hR : weightG simV a b l 0 0 0 = R) :
    Calls Try.prog 21 #[.slice A a.length c, .slice B b.length d, .slice C l.length e] w fun e w' => e = .returned (.tuple #[.int .i64 R.1, .bool R.2]) ∧ Ext w w' := by
  have hW0 : Wt a b l R 0 0 0 0 := ⟨hR, .inl ⟨rfl, rfl, rfl⟩, by omega, by omega⟩
  have HW0 := Lib.hid hW0; clear hW0 hR
  have HA := Lib.hid hA; have HB := Lib.hid hB; have HC := Lib.hid hC; have HSA := Lib.hid hsa; have HSB := Lib.hid hsb; clear hA hB hC hsa hsb
  obtain ⟨n, hn⟩ : ∃ n, a.length = n := ⟨_, rfl⟩
  obtain ⟨m, hm⟩ : ∃ m, b.length = m := ⟨_, rfl⟩
  obtain ⟨z, hz⟩ : ∃ z, l.length = z := ⟨_, rfl⟩
  rw [hn] at _ha HA
  rw [hm] at _hb HB
  rw [hz] at hl HC
  rw [hn, hm, hz]
  have HN := Lib.hid hn; have HM := Lib.hid hm; have HZ := Lib.hid hz; clear hn hm hz
  go_enter Try.func21, Try.ntmps21
  go_wp2_with fail
  go_loopw [8, 14] (fun v8 v14 wr => ∃ (j : Nat) (I K N : Int), j ≤ z ∧ v14 = .int .i64 j ∧ v8 = .int .i64 N ∧ Wt a b l R j I K N ∧ Ext w wr) (fun _ v14 _ => z - (intOf v14).toNat)
  case atStart => exact ⟨0, 0, 0, 0, Nat.zero_le _, rfl, rfl, HW0.out, Ext.refl _⟩
  case round =>
    obtain ⟨j, I, K, N, hj, rfl, rfl, hW, hE⟩ := hrel
    have HW := Lib.hid hW; have HE := Lib.hid hE; clear hW hE HW0
    by_cases hlt : j < z
    case neg =>
      obtain rfl : R = (N, true) := HW.out.done (by rw [HZ.out]; omega)
      go_wp2_with fail
      go_ret2
      exact ⟨rfl, HE.out⟩
    case pos =>
      obtain ⟨bc, oc, s, rfl, hbc, hx, hwf, c0, c1⟩ := (HC.out.ext HE.out).get hlt
      obtain ⟨p, q⟩ := s
      dsimp only at c0 c1
      obtain ⟨⟨p1, p2⟩, ⟨q1, q2⟩⟩ := hwf
      have HX := Lib.hid hx; clear hx
      have hEW := (Ext.refl wr).alloc (.cells #[.int .i64 p, .int .i64 q] 39)
      have d0 : (wr.alloc (.cells #[.int .i64 p, .int .i64 q] 39)).cell? ⟨wr.heap.size, 0, none⟩ = some (.int .i64 p) := (alloc_cell rfl).1
      have d1 : (wr.alloc (.cells #[.int .i64 p, .int .i64 q] 39)).cell? ⟨wr.heap.size, 1, none⟩ = some (.int .i64 q) := (alloc_cell rfl).1
      obtain ⟨g, hg⟩ : ∃ g, wr.heap.size = g := ⟨_, rfl⟩
      go_wp2_with fail
      rw [hg] at d0 d1
      obtain ⟨W1, hW1⟩ : ∃ W1, wr.alloc (.cells #[.int .i64 p, .int .i64 q] 39) = W1 := ⟨_, rfl⟩
      rw [hW1] at d0 d1 hEW ⊢
      have HEW := Lib.hid (HE.out.trans hEW); have HC1 := Lib.hid ((HC.out.ext HE.out).ext hEW); clear hW1 hg hEW c0 c1
      by_cases q10 : p < 0
      case pos =>
        have HR := Lib.hid (HW.out.bad HX.out (by have := HW.out.pos; rw [HN.out, HM.out]; omega))
        as_aux_lemma =>
          go_region
          go_wp2_with fail
          go_ret2
          exact ⟨by rw [HR.out]; rfl, HEW.out.drew⟩
      case neg =>
        by_cases q20 : (n : Int) ≤ p
        case pos =>
          have HR := Lib.hid (HW.out.bad HX.out (by have := HW.out.pos; rw [HN.out, HM.out]; omega))
          as_aux_lemma =>
            go_region
            go_wp2_with fail
            go_ret2
            exact ⟨by rw [HR.out]; rfl, HEW.out.drew⟩
        case neg =>
          by_cases q30 : q < 0
          case pos =>
            have HR := Lib.hid (HW.out.bad HX.out (by have := HW.out.pos; rw [HN.out, HM.out]; omega))
            as_aux_lemma =>
              go_region
              go_wp2_with fail
              go_ret2
              exact ⟨by rw [HR.out]; rfl, HEW.out.drew⟩
          case neg =>
            by_cases q40 : (m : Int) ≤ q
            case pos =>
              have HR := Lib.hid (HW.out.bad HX.out (by have := HW.out.pos; rw [HN.out, HM.out]; omega))
              as_aux_lemma =>
                go_region
                go_wp2_with fail
                go_ret2
                exact ⟨by rw [HR.out]; rfl, HEW.out.drew⟩
            case neg =>
              obtain ⟨p', rfl⟩ := Int.eq_ofNat_of_zero_le (show 0 ≤ p by omega)
              obtain ⟨q', rfl⟩ := Int.eq_ofNat_of_zero_le (show 0 ≤ q by omega)
              rcases HW.out.prev with ⟨rfl, rfl, rfl⟩ | ⟨i, rfl, hprev⟩
              · have hIp : (0 : Int) ≤ p' := Int.natCast_nonneg _
                have hKq : (0 : Int) ≤ q' := Int.natCast_nonneg _
                obtain ⟨x, hx⟩ : ∃ x, a[p']? = some x := ⟨_, List.getElem?_eq_getElem (by rw [HN.out]; omega)⟩
                obtain ⟨y, hy⟩ : ∃ y, b[q']? = some y := ⟨_, List.getElem?_eq_getElem (by rw [HM.out]; omega)⟩
                have HXX := Lib.hid hx; have HYY := Lib.hid hy; have HIP := Lib.hid hIp; have HKQ := Lib.hid hKq; clear hx hy hIp hKq
                as_aux_lemma =>
                  go_region
                  obtain ⟨W2, hW2⟩ : ∃ W2, W1.drew = W2 := ⟨_, rfl⟩
                  have hE2 : Ext W1 W2 := hW2 ▸ (Ext.refl W1).drew
                  rw [hW2]
                  replace d0 := hE2.cell d0
                  replace d1 := hE2.cell d1
                  have HE2 := Lib.hid (HEW.out.trans hE2); clear hW2 hE2 HC1
                  go_wp2_with fail
                  obtain ⟨ba, oa, x', hAe, hba, hx', -, cx⟩ := (HA.out.ext HE2.out).get (k := p') (by omega)
                  obtain rfl : x = x' := by have := HXX.out; rw [hx'] at this; exact (Option.some.inj this).symm
                  obtain ⟨bb, ob, y', hBe, hbb, hy', -, cy⟩ := (HB.out.ext HE2.out).get (k := q') (by omega)
                  obtain rfl : y = y' := by have := HYY.out; rw [hy'] at this; exact (Option.some.inj this).symm
                  subst hAe hBe
                  have hxs := HSA.out x (List.mem_of_getElem? hx')
                  have hys := HSB.out y (List.mem_of_getElem? hy')
                  have h0 : (0 : Int) ≤ p' := Int.natCast_nonneg _
                  have h1 : (p' : Int) < n := by omega
                  have h2 : (0 : Int) ≤ q' := Int.natCast_nonneg _
                  have h3 : (q' : Int) < m := by omega
                  obtain ⟨S, hs⟩ : ∃ s, simV x y = s := ⟨_, rfl⟩
                  have HS := Lib.hid hs; have HSR := Lib.hid (hs ▸ sim_range x y); clear hs hx' hy' q10 q20 q30 q40 p1 p2 q1 q2
                  refine wp_region_text (fun wx => Ext W2 wx) [0,1,2,3,4,5,6,7,8,9,10,11] (by kernel_rfl) (Stab.ext _) (Ext.refl W2).drew (by kernel_rfl) (fun _ d _ _ _ h => by cases d <;> exact h) ?_
                  iterate 10
                    refine wpTk_want rfl (Eq.refl true) ?_
                    apply Exists.intro
                    refine ⟨fun wx hx => ?_, ?_⟩
                    · have e0 := hx.cell cx
                      have e1 := hx.cell cy
                      have e2 := hx.cell d0
                      have e3 := hx.cell d1
                      clear hx
                      go_simp
                      with_reducible exact gives_ok _ _ _
                    simp only [Act.put, List.setIfInBounds_toArray, List.set_cons_zero, List.set_cons_succ]
                  refine wpTk_want rfl (Eq.refl true) ⟨.int .i64 S, fun wx hx => ?_, ?_⟩
                  · clear hx
                    go_simp
                    refine gives_call _ _ _ ((sim_any x y wx hxs hys).mono ?_)
                    rintro e w' ⟨rfl, hE⟩
                    exact ⟨by rw [HS.out], hE⟩
                  simp only [Act.put, List.setIfInBounds_toArray, List.set_cons_zero, List.set_cons_succ]
                  refine wpTk_want rfl (Eq.refl true) ?_
                  apply Exists.intro
                  refine ⟨fun wx hx => ?_, ?_⟩
                  · clear hx
                    go_simp
                    with_reducible exact gives_ok _ _ _
                  simp only [Act.put, List.setIfInBounds_toArray, List.set_cons_zero, List.set_cons_succ]
                  refine wpTk_nil fun w4 hE4 => ?_
                  have HE4 := Lib.hid (HE2.out.trans hE4); clear hE4 cx cy d0 d1 hxs hys h0 h1 h2 h3
                  as_aux_lemma =>
                    by_cases h50 : 50 ≤ S
                    case neg =>
                      have HR := Lib.hid (HW.out.weak HX.out HXX.out HYY.out (by rw [HS.out]; exact h50))
                      have q50 : S < 50 := by omega
                      clear h50
                      go_wp2_with fail
                      go_ret2
                      exact ⟨by rw [HR.out]; rfl, HE4.out⟩
                    case pos =>
                      have HW2 := Lib.hid (HW.out.next HX.out HIP.out HKQ.out HXX.out HYY.out (by rw [HS.out]; exact h50))
                      have hlow := HW.out.low
                      have hsr := HSR.out
                      have w3 : IntKind.i64.wrap (N + S) = N + S := wrap_in (by omega) (by omega)
                      have q50 : ¬ S < 50 := by omega
                      clear h50 hlow hsr
                      go_wp2_with fail
                      go_roundw
                      case rel => exact ⟨1, _, _, N + S, by omega, by go_num, by go_num, by have := HW2.out; rwa [HS.out] at this, HE4.out⟩
                      case measure => simp [intOf]; omega
              · obtain ⟨bc', oc', s', hCe, -, hx', -, e0, e1⟩ := HC1.out.get (j := i) (by omega)
                obtain ⟨rfl, rfl⟩ : bc = bc' ∧ oc = oc' := by simpa using hCe
                rw [hprev] at hx'
                obtain rfl : (I - 1, K - 1) = s' := Option.some.inj hx'
                dsimp only at e0 e1
                obtain ⟨I', hI'⟩ : ∃ I', I - 1 = I' := ⟨_, rfl⟩
                obtain ⟨K', hK'⟩ : ∃ K', K - 1 = K' := ⟨_, rfl⟩
                rw [hI'] at e0
                rw [hK'] at e1
                clear hCe hprev hx'
                have hjn : i < z := by omega
                by_cases q50 : (p' : Int) ≤ I'
                case pos =>
                  have HR := Lib.hid (HW.out.bad HX.out (by have := HW.out.pos; rw [HN.out, HM.out]; omega))
                  as_aux_lemma =>
                    go_region
                    go_wp2_with fail
                    go_ret2
                    exact ⟨by rw [HR.out]; rfl, HEW.out.drew⟩
                case neg =>
                  by_cases q60 : (q' : Int) ≤ K'
                  case pos =>
                    have HR := Lib.hid (HW.out.bad HX.out (by have := HW.out.pos; rw [HN.out, HM.out]; omega))
                    as_aux_lemma =>
                      go_region
                      go_wp2_with fail
                      go_ret2
                      exact ⟨by rw [HR.out]; rfl, HEW.out.drew⟩
                  case neg =>
                    have hIp : I ≤ p' := by omega
                    have hKq : K ≤ q' := by omega
                    obtain ⟨x, hx⟩ : ∃ x, a[p']? = some x := ⟨_, List.getElem?_eq_getElem (by rw [HN.out]; omega)⟩
                    obtain ⟨y, hy⟩ : ∃ y, b[q']? = some y := ⟨_, List.getElem?_eq_getElem (by rw [HM.out]; omega)⟩
                    have HXX := Lib.hid hx; have HYY := Lib.hid hy; have HIP := Lib.hid hIp; have HKQ := Lib.hid hKq; clear hx hy hIp hKq
                    as_aux_lemma =>
                      go_region
                      obtain ⟨W2, hW2⟩ : ∃ W2, W1.drew = W2 := ⟨_, rfl⟩
                      have hE2 : Ext W1 W2 := hW2 ▸ (Ext.refl W1).drew
                      rw [hW2]
                      replace d0 := hE2.cell d0
                      replace d1 := hE2.cell d1
                      have HE2 := Lib.hid (HEW.out.trans hE2); clear hW2 hE2 HC1
                      go_wp2_with fail
                      obtain ⟨ba, oa, x', hAe, hba, hx', -, cx⟩ := (HA.out.ext HE2.out).get (k := p') (by omega)
                      obtain rfl : x = x' := by have := HXX.out; rw [hx'] at this; exact (Option.some.inj this).symm
                      obtain ⟨bb, ob, y', hBe, hbb, hy', -, cy⟩ := (HB.out.ext HE2.out).get (k := q') (by omega)
                      obtain rfl : y = y' := by have := HYY.out; rw [hy'] at this; exact (Option.some.inj this).symm
                      subst hAe hBe
                      have hxs := HSA.out x (List.mem_of_getElem? hx')
                      have hys := HSB.out y (List.mem_of_getElem? hy')
                      have h0 : (0 : Int) ≤ p' := Int.natCast_nonneg _
                      have h1 : (p' : Int) < n := by omega
                      have h2 : (0 : Int) ≤ q' := Int.natCast_nonneg _
                      have h3 : (q' : Int) < m := by omega
                      obtain ⟨S, hs⟩ : ∃ s, simV x y = s := ⟨_, rfl⟩
                      have HS := Lib.hid hs; have HSR := Lib.hid (hs ▸ sim_range x y); clear hs hx' hy' q10 q20 q30 q40 p1 p2 q1 q2
                      refine wp_region_text (fun wx => Ext W2 wx) [0,1,2,3,4,5,6,7,8,9,10,11] (by kernel_rfl) (Stab.ext _) (Ext.refl W2).drew (by kernel_rfl) (fun _ d _ _ _ h => by cases d <;> exact h) ?_
                      iterate 10
                        refine wpTk_want rfl (Eq.refl true) ?_
                        apply Exists.intro
                        refine ⟨fun wx hx => ?_, ?_⟩
                        · have e0 := hx.cell cx
                          have e1 := hx.cell cy
                          have e2 := hx.cell d0
                          have e3 := hx.cell d1
                          clear hx
                          go_simp
                          with_reducible exact gives_ok _ _ _
                        simp only [Act.put, List.setIfInBounds_toArray, List.set_cons_zero, List.set_cons_succ]
                      refine wpTk_want rfl (Eq.refl true) ⟨.int .i64 S, fun wx hx => ?_, ?_⟩
                      · clear hx
                        go_simp
                        refine gives_call _ _ _ ((sim_any x y wx hxs hys).mono ?_)
                        rintro e w' ⟨rfl, hE⟩
                        exact ⟨by rw [HS.out], hE⟩
                      simp only [Act.put, List.setIfInBounds_toArray, List.set_cons_zero, List.set_cons_succ]
                      refine wpTk_want rfl (Eq.refl true) ?_
                      apply Exists.intro
                      refine ⟨fun wx hx => ?_, ?_⟩
                      · clear hx
                        go_simp
                        with_reducible exact gives_ok _ _ _
                      simp only [Act.put, List.setIfInBounds_toArray, List.set_cons_zero, List.set_cons_succ]
                      refine wpTk_nil fun w4 hE4 => ?_
                      have HE4 := Lib.hid (HE2.out.trans hE4); clear hE4 cx cy d0 d1 hxs hys h0 h1 h2 h3
                      as_aux_lemma =>
                        by_cases h50 : 50 ≤ S
                        case neg =>
                          have HR := Lib.hid (HW.out.weak HX.out HXX.out HYY.out (by rw [HS.out]; exact h50))
                          have q50 : S < 50 := by omega
                          clear h50
                          go_wp2_with fail
                          go_ret2
                          exact ⟨by rw [HR.out]; rfl, HE4.out⟩
                        case pos =>
                          have HW2 := Lib.hid (HW.out.next HX.out HIP.out HKQ.out HXX.out HYY.out (by rw [HS.out]; exact h50))
                          have hlow := HW.out.low
                          have hsr := HSR.out
                          have w3 : IntKind.i64.wrap (N + S) = N + S := wrap_in (by omega) (by omega)
                          have q50 : ¬ S < 50 := by omega
                          clear h50 hlow hsr
                          go_wp2_with fail
                          go_roundw
                          case rel => exact ⟨i + 1 + 1, _, _, N + S, by omega, by go_num, by go_num, by have := HW2.out; rwa [HS.out] at this, HE4.out⟩
                          case measure => simp [intOf]; omega
end Go.Proofs.Ytmmppfopokbcfaa

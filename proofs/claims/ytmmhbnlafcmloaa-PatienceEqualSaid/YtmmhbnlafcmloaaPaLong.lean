/- Contract: Longest. -/
import Derived.Test.YtmmhbnlafcmloaaPaTail
namespace Go.Proofs.Ytmmhbnlafcmloaa
open Go.RowKit

theorem bOf_at {l : List Mt} {i : Nat} {x : Mt} (h : l[i]? = some x) : bOf l (i : Int) = x.b := by
  unfold bOf; rw [Int.toNat_natCast, getD_is h]
theorem mostV_le (t : List Nat) (L : Nat) (h : ∀ n ∈ t, n ≤ L) : mostV t ≤ L := by
  obtain ⟨_, _, h3⟩ := most_spec t 0
  rcases h3 with h3 | h3
  · have : mostV t = 0 := h3
    omega
  · exact h _ h3
theorem best_yes {l : List Mt} {t : List Nat} {n : Nat} {last : Int} {i : Nat} {b : Int} (hb : bestI l t n last i = b) (hf : fits l t n last i) (h : b < 0 ∨ bOf l i < bOf l b) : bestI l t n last (i + 1) = i := by
  subst hb; rw [bestI_succ, if_pos ⟨hf, h⟩]
theorem best_no {l : List Mt} {t : List Nat} {n : Nat} {last : Int} {i : Nat} {b : Int} (hb : bestI l t n last i = b) (h : ¬ (fits l t n last i ∧ (b < 0 ∨ bOf l i < bOf l b))) : bestI l t n last (i + 1) = b := by
  subst hb; rw [bestI_succ, if_neg h]
theorem last_range (l : List Mt) (t : List Nat) (most : Nat) : ∀ j, lastI l t most j = -1 ∨ ∃ k : Nat, k < l.length ∧ lastI l t most j = k
  | 0 => .inl rfl
  | j + 1 => by
    rw [lastI_succ]
    rcases bestI_spec l t (most - j) (lastI l t most j) l.length with ⟨h, _⟩ | ⟨k, h0, h1, _⟩
    · exact .inl h
    · exact .inr ⟨k, h0, h1⟩
theorem best_range (l : List Mt) (t : List Nat) (n : Nat) (last : Int) (i : Nat) : bestI l t n last i = -1 ∨ ∃ k : Nat, k < i ∧ bestI l t n last i = k := by
  rcases bestI_spec l t n last i with ⟨h, _⟩ | ⟨k, h0, h1, _⟩
  · exact .inl h
  · exact .inr ⟨k, h0, h1⟩

set_option maxRecDepth 100000 in
set_option maxHeartbeats 16000000 in
theorem longest_any (A : Option Addr) (n c : Nat) (l : List Mt) (w : World) (ha : Mts w A n l) (hn : n ≤ 500) :
    Calls Try.prog 16 #[.slice A n c] w fun e w' => ∃ v, e = .returned v ∧ w'.ownsRow w.heap.size 32 3 v (longV l).length ((longV l).flatMap Mt.cells) ∧ Ext w w' := by
  obtain rfl : l.length = n := ha.1
  have HA := Lib.hid ha; clear ha
  obtain ⟨inf, i1, i2, i3, i4⟩ := info_of infoM'
  have I1 := Lib.hid i1; have I2 := Lib.hid i2; have I3 := Lib.hid i3; have I4 := Lib.hid i4; clear i1 i2 i3 i4
  obtain ⟨T, hT⟩ : ∃ T, tailsV l = T := ⟨_, rfl⟩
  have hTl : T.length = l.length := by rw [← hT]; exact tailsV_len l
  have hTb : ∀ x ∈ T, x ≤ l.length := by rw [← hT]; exact tails_le l
  obtain ⟨M, hM⟩ : ∃ M, mostV T = M := ⟨_, rfl⟩
  have hMl : M ≤ l.length := by rw [← hM]; exact mostV_le T _ hTb
  have hV : longV l = chainP l T M M := by unfold longV; rw [hT, hM]
  have hok : ∀ j, j < M → ∃ k : Nat, k < l.length ∧ lastI l T M (j + 1) = k := fun j hj => by
    obtain ⟨k, h1, h2, _⟩ := last_ok l j (by rw [hT, hM]; exact hj)
    rw [hT, hM] at h2
    exact ⟨k, h1, h2⟩
  have HTB := Lib.hid hTb; have HM := Lib.hid hM; have HV := Lib.hid hV; have HOK := Lib.hid hok; have HTL := Lib.hid hTl
  go_enter Try.func16, Try.ntmps16
  go_wp2_with fail
  refine (tails_any A l.length c l _ HA.out (by omega)).mono ?_
  rintro e w1 ⟨g, rfl, hg, ho, hE⟩
  rw [hT] at ho
  have HO1 := Lib.hid ho; have HE1 := Lib.hid hE; clear ho hE hT hTl hTb hM hV hok
  go_wp2_with fail
  go_loopw [4, 15] (fun v4 v15 wr => ∃ k x : Nat, k ≤ l.length ∧ x ≤ 1000 ∧ v4 = .int .i64 x ∧ v15 = .int .i64 k ∧ mostV (T.take k) = x ∧ Ext w1 wr) (fun _ v15 _ => l.length - (intOf v15).toNat)
  case atStart => exact ⟨0, 0, Nat.zero_le _, by omega, rfl, rfl, rfl, Ext.refl _⟩
  case round =>
    obtain ⟨k, x, hk, hx, rfl, rfl, hm, hE⟩ := hrel
    have HMX := Lib.hid hm; have HE := Lib.hid hE; clear hm hE
    by_cases hkl : k < l.length
    case pos =>
      obtain ⟨t, ht⟩ : ∃ t, T[k]? = some t := ⟨_, List.getElem?_eq_getElem (by rw [HTL.out]; omega)⟩
      have htl : t ≤ 500 := by have := HTB.out t (List.mem_of_getElem? ht); omega
      have c1 : wr.cell? ⟨g, k, none⟩ = some (.int .i64 t) := by
        have h3 : (tcells 0 T)[0 + k]? = some (.int .i64 t) := tcells_get ht
        rw [Nat.zero_add] at h3
        exact own_at (own_stab3 HE.out HO1.out) h3
      have hsn : mostV (T.take (k + 1)) = max x t := by rw [take_succ_of ht, mostV_snoc, HMX.out]
      have HSN := Lib.hid hsn; clear hsn ht
      go_wp2_with fail
      all_goals
        go_roundw
        case rel => exact ⟨k + 1, max x t, by omega, by omega, by first | rfl | (congr 1; omega), by go_num, HSN.out, HE.out⟩
        case measure => simp [intOf]; omega
    case neg =>
      obtain rfl : k = l.length := by omega
      have hMx : x = M := by rw [← HMX.out, List.take_of_length_le (by rw [HTL.out]; exact Nat.le_refl _), HM.out]
      subst hMx
      obtain ⟨w2, rfl⟩ : ∃ w2, w2 = wr := ⟨_, rfl⟩
      have HO := Lib.hid (own_stab3 HE.out HO1.out); have HEx := Lib.hid (HE1.out.trans HE.out)
      have hgl : g < w2.heap.size := ((own_stab3 HE.out HO1.out).lt g rfl).2
      clear HO1 HE1 HE HMX
      go_wp2_with fail
      go_loopw [4, 7, 8] (fun v4 v7 v8 wr => ∃ (j nn : Nat) (la : Int), j + nn = x ∧ v4 = .int .i64 nn ∧ v8 = .int .i64 la ∧ lastI l T x j = la ∧ wr.ownsRow w2.heap.size 32 3 v7 j ((chainP l T x j).flatMap Mt.cells) ∧ Ext w2 wr) (fun v4 _ _ _ => (intOf v4).toNat)
      case atStart => exact ⟨0, x, -1, by omega, rfl, rfl, rfl, World.ownsRow_nil _ _ _ _, Ext.refl _⟩
      case round =>
        obtain ⟨j, nn, la, hjn, rfl, rfl, hla, ho, hE⟩ := hrel
        have hrange := last_range l T x j
        rw [hla] at hrange
        have HLA := Lib.hid hla; have HOW := Lib.hid ho; have HE := Lib.hid hE; have HRG := Lib.hid hrange; clear hla ho hE hrange
        by_cases hn0 : nn = 0
        case pos =>
          subst hn0
          obtain rfl : j = x := by omega
          go_wp2_with fail
          go_ret
          have h9 := own_base HOW.out (base' := w.heap.size) HEx.out.size
          exact ⟨_, rfl, by rw [HV.out, chainP_len]; exact h9, HEx.out.trans HE.out⟩
        have hb1 : -1 ≤ la ∧ la < l.length := by rcases HRG.out with h | ⟨k, h1, h2⟩ <;> omega
        obtain ⟨hb1, hb2⟩ := hb1
        have hnn : decide (0 < nn) = true := yd (by omega)
        go_wp2_with fail
        go_loopw [9, 10] (fun v9 v10 wy => ∃ (i : Nat) (bb : Int), la < i ∧ i ≤ l.length ∧ v9 = .int .i64 bb ∧ v10 = .int .i64 i ∧ bestI l T nn la i = bb ∧ Ext wr wy) (fun _ v10 _ => l.length - (intOf v10).toNat)
        case atStart => exact ⟨(la + 1).toNat, -1, by omega, by omega, rfl, by congr 1; omega, bestI_early l T nn la (by omega), Ext.refl _⟩
        case round =>
          obtain ⟨i, bb, hli, hi, rfl, rfl, hbb, hE2⟩ := hrel
          have hbr := best_range l T nn la i
          rw [hbb] at hbr
          have HBB := Lib.hid hbb; have HBR := Lib.hid hbr; have HE2 := Lib.hid hE2; clear hbb hbr hE2
          by_cases hil : i < l.length
          case neg =>
            obtain rfl : i = l.length := by omega
            obtain ⟨k, hk, hlk⟩ := HOK.out j (by omega)
            have hbk : bb = k := by
              rw [← hlk, lastI_succ, HLA.out, show x - j = nn by omega, HBB.out]
            subst hbk
            have HLK := Lib.hid hlk; clear hlk
            obtain ⟨ba, oa, ⟨p, q, z⟩, hA, hba, hm, hwf, d0, d1, d2⟩ := (HA.out.ext (HEx.out.trans (HE.out.trans HE2.out))).get hk
            subst hA
            dsimp only at d0 d1 d2
            have hcs : chainP l T x (j + 1) = chainP l T x j ++ [⟨p, q, z⟩] := by rw [chainP_succ, HLK.out, Int.toNat_natCast, getD_is hm]
            have HCS := Lib.hid hcs; clear hcs hm hwf
            go_wp2_with (at_builtin; refine wpList_append_size2 rfl (.tmp 76) (.tmp 81) 25 rfl w2.heap.size 32 inf _ 3 24 underM' I1.out I2.out I3.out I4.out rfl (by decide) u7 j _ (some ⟨wr.heap.size, 0, none⟩) 1 1 (Mt.cells ⟨p, q, z⟩) rfl (by simp [Act.eval]) rfl (by simp [Mt.cells, Value.oneCell']) (by simp only [maxLen]; omega) (by omega) (own_stab3 (HE2.out.alloc _) HOW.out) (Cells.new wr _ _ rfl) (by have := HE.out.size; have := HE2.out.size; simp; omega) ?_; intro v' w3 hown hg hbk)
            go_roundw
            case rel =>
              refine ⟨j + 1, nn - 1, (k : Int), by omega, by go_num, rfl, HLK.out, ?_, ((HE.out.trans HE2.out).alloc _).own3 (own_stab3 (HE2.out.alloc _) HOW.out) hg⟩
              rw [HCS.out, List.flatMap_append]
              simpa using hown
            case measure => simp [intOf]; omega
          case pos =>
            obtain ⟨ti, hti⟩ : ∃ t, T[i]? = some t := ⟨_, List.getElem?_eq_getElem (by rw [HTL.out]; omega)⟩
            have htl : ti ≤ 500 := by have := HTB.out ti (List.mem_of_getElem? hti); omega
            have c1 : wr.cell? ⟨g, i, none⟩ = some (.int .i64 ti) := by
              have h3 : (tcells 0 T)[0 + i]? = some (.int .i64 ti) := tcells_get hti
              rw [Nat.zero_add] at h3
              exact own_at (own_stab3 (HE.out.trans HE2.out) HO.out) h3
            have hgl2 : g < wr.heap.size := Nat.lt_of_lt_of_le hgl (HE.out.trans HE2.out).size
            have hgd : T.getD i 0 = ti := getD_is hti
            obtain ⟨ba, oa, ⟨p, q, z⟩, hA, hba, hm, -, -, d1, -⟩ := (HA.out.ext (HEx.out.trans (HE.out.trans HE2.out))).get hil
            subst hA
            have hbi := bOf_at hm
            dsimp only at d1 hbi
            have HBI := Lib.hid hbi; have HGD := Lib.hid hgd; clear hm hbi hgd hti
            by_cases h1 : ti = nn
            case neg =>
              have q1 : ((ti : Int) == nn) = false := by simp; omega
              have hn' := best_no HBB.out (fun h => h1 (by rw [← HGD.out]; exact h.1.2.1))
              have HN := Lib.hid hn'; clear hn'
              go_wp2_with fail
              go_quiet (fail)
              go_wp2_with fail
              try clear q7
              try clear z7
              go_roundw
              case rel => exact ⟨i + 1, bb, by omega, by omega, rfl, by go_num, HN.out, HE2.out.drewN _⟩
              case measure => simp [intOf]; omega
            case pos =>
              have q1 : ((ti : Int) == nn) = true := by simp [h1]
              have H1 := Lib.hid h1; clear h1
              rcases HRG.out with hl | ⟨p1, hp1, hl⟩
              · have z5 : decide (la < 0) = true := yd (by omega)
                have HHL := Lib.hid hl; clear hl
                rcases HBR.out with hb | ⟨q1, hq1, hb⟩
                · have hn' := best_yes HBB.out ⟨by omega, by rw [HGD.out]; exact H1.out, .inl (by have := HHL.out; omega)⟩ (.inl (by omega))
                  have q5 : decide (bb < 0) = true := yd (by omega)
                  have HN := Lib.hid hn'; have HHB := Lib.hid hb; clear hn' hb
                  go_wp2_with fail
                  go_quiet (fail)
                  go_wp2_with fail
                  try clear q7
                  try clear z7
                  go_roundw
                  case rel => exact ⟨i + 1, i, by omega, by omega, rfl, by go_num, HN.out, HE2.out.drewN _⟩
                  case measure => simp [intOf]; omega
                · obtain ⟨ba3, oa3, ⟨p3, q3, z3⟩, hA3, -, hm3, -, -, f1, -⟩ := (HA.out.ext (HEx.out.trans (HE.out.trans HE2.out))).get (k := q1) (by omega)
                  cases hA3
                  have hb3 := bOf_at hm3
                  dsimp only at f1 hb3
                  rw [← hb] at hb3
                  have q5 : decide (bb < 0) = false := nd (by omega)
                  have q6 : (0 : Int) ≤ bb := by omega
                  have q7 : bb.toNat = q1 := by omega
                  have q8 : bb < l.length := by omega
                  have q9 : q1 < l.length := by omega
                  have HB3 := Lib.hid hb3; have HHB := Lib.hid hb; clear hm3 hb3 hb
                  by_cases hlt3 : q < q3
                  case pos =>
                    have hn' := best_yes HBB.out ⟨by omega, by rw [HGD.out]; exact H1.out, .inl (by have := HHL.out; omega)⟩ (.inr (by rw [HBI.out, HB3.out]; exact hlt3))
                    have HN := Lib.hid hn'; clear hn'
                    have z9 := yd hlt3
                    go_wp2_with fail
                    go_quiet (fail)
                    go_wp2_with fail
                    try clear q7
                    try clear z7
                    go_roundw
                    case rel => exact ⟨i + 1, i, by omega, by omega, rfl, by go_num, HN.out, HE2.out.drewN _⟩
                    case measure => simp [intOf]; omega
                  case neg =>
                    have hn' := best_no HBB.out (fun h => by rcases h.2 with h | h; have := HHB.out; omega; rw [HBI.out, HB3.out] at h; exact hlt3 h)
                    have HN := Lib.hid hn'; clear hn'
                    have z9 := nd hlt3
                    go_wp2_with fail
                    go_quiet (fail)
                    go_wp2_with fail
                    try clear q7
                    try clear z7
                    go_roundw
                    case rel => exact ⟨i + 1, bb, by omega, by omega, rfl, by go_num, HN.out, HE2.out.drewN _⟩
                    case measure => simp [intOf]; omega
              · obtain ⟨ba2, oa2, ⟨p2, q2, z2⟩, hA2, -, hm2, -, -, e1, -⟩ := (HA.out.ext (HEx.out.trans (HE.out.trans HE2.out))).get hp1
                cases hA2
                have hb2' := bOf_at hm2
                dsimp only at e1 hb2'
                rw [← hl] at hb2'
                have z5 : decide (la < 0) = false := nd (by omega)
                have z6 : (0 : Int) ≤ la := by omega
                have z7 : la.toNat = p1 := by omega
                have z10 : la < l.length := by omega
                have HB2 := Lib.hid hb2'; have HHL := Lib.hid hl; clear hm2 hb2' hl
                by_cases hlt2 : q2 < q
                case neg =>
                  have hn' := best_no HBB.out (fun h => by rcases h.1.2.2 with h | h; have := HHL.out; omega; rw [HBI.out, HB2.out] at h; exact hlt2 h)
                  have HN := Lib.hid hn'; clear hn'
                  have z8 := nd hlt2
                  go_wp2_with fail
                  go_quiet (fail)
                  go_wp2_with fail
                  try clear q7
                  try clear z7
                  go_roundw
                  case rel => exact ⟨i + 1, bb, by omega, by omega, rfl, by go_num, HN.out, HE2.out.drewN _⟩
                  case measure => simp [intOf]; omega
                case pos =>
                  have z8 := yd hlt2
                  rcases HBR.out with hb | ⟨q1, hq1, hb⟩
                  · have hn' := best_yes HBB.out ⟨by omega, by rw [HGD.out]; exact H1.out, .inr (by rw [HBI.out, HB2.out]; exact hlt2)⟩ (.inl (by omega))
                    have q5 : decide (bb < 0) = true := yd (by omega)
                    have HN := Lib.hid hn'; have HHB := Lib.hid hb; clear hn' hb
                    go_wp2_with fail
                    go_quiet (fail)
                    go_wp2_with fail
                    try clear q7
                    try clear z7
                    go_roundw
                    case rel => exact ⟨i + 1, i, by omega, by omega, rfl, by go_num, HN.out, HE2.out.drewN _⟩
                    case measure => simp [intOf]; omega
                  · obtain ⟨ba3, oa3, ⟨p3, q3, z3⟩, hA3, -, hm3, -, -, f1, -⟩ := (HA.out.ext (HEx.out.trans (HE.out.trans HE2.out))).get (k := q1) (by omega)
                    cases hA3
                    have hb3 := bOf_at hm3
                    dsimp only at f1 hb3
                    rw [← hb] at hb3
                    have q5 : decide (bb < 0) = false := nd (by omega)
                    have q6 : (0 : Int) ≤ bb := by omega
                    have q7 : bb.toNat = q1 := by omega
                    have q8 : bb < l.length := by omega
                    have q9 : q1 < l.length := by omega
                    have HB3 := Lib.hid hb3; have HHB := Lib.hid hb; clear hm3 hb3 hb
                    by_cases hlt3 : q < q3
                    case pos =>
                      have hn' := best_yes HBB.out ⟨by omega, by rw [HGD.out]; exact H1.out, .inr (by rw [HBI.out, HB2.out]; exact hlt2)⟩ (.inr (by rw [HBI.out, HB3.out]; exact hlt3))
                      have HN := Lib.hid hn'; clear hn'
                      have z9 := yd hlt3
                      go_wp2_with fail
                      go_quiet (fail)
                      go_wp2_with fail
                      try clear q7
                      try clear z7
                      go_roundw
                      case rel => exact ⟨i + 1, i, by omega, by omega, rfl, by go_num, HN.out, HE2.out.drewN _⟩
                      case measure => simp [intOf]; omega
                    case neg =>
                      have hn' := best_no HBB.out (fun h => by rcases h.2 with h | h; have := HHB.out; omega; rw [HBI.out, HB3.out] at h; exact hlt3 h)
                      have HN := Lib.hid hn'; clear hn'
                      have z9 := nd hlt3
                      go_wp2_with fail
                      go_quiet (fail)
                      go_wp2_with fail
                      try clear q7
                      try clear z7
                      go_roundw
                      case rel => exact ⟨i + 1, bb, by omega, by omega, rfl, by go_num, HN.out, HE2.out.drewN _⟩
                      case measure => simp [intOf]; omega
end Go.Proofs.Ytmmhbnlafcmloaa

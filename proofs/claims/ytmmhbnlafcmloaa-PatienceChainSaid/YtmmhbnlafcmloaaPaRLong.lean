/- Contract: the reference's Longest. -/
import Derived.Test.YtmmhbnlafcmloaaPaLong
import Derived.Test.YtmmhbnlafcmloaaPaRUniq
namespace Go.Proofs.Ytmmhbnlafcmloaa
open Go.RowKit

theorem mostV_cons (x : Nat) (t : List Nat) : mostV (x :: t) = max x (mostV t) := by
  obtain ⟨a1, a2, a3⟩ := most_spec t (max 0 x)
  obtain ⟨b1, b2, b3⟩ := most_spec t 0
  show t.foldl max (max 0 x) = max x (t.foldl max 0)
  rcases a3 with a3 | a3 <;> rcases b3 with b3 | b3
  · omega
  · have := a2 _ b3; omega
  · have := b2 _ a3; omega
  · have := a2 _ b3; have := b2 _ a3; omega

set_option maxRecDepth 100000 in
set_option maxHeartbeats 16000000 in
theorem rlongest_any (A : Option Addr) (n c : Nat) (l : List Mt) (w : World) (ha : Mts w A n l) (hn : n ≤ 500) :
    Calls Try.prog 17 #[.slice A n c] w fun e w' => ∃ v, e = .returned v ∧ w'.ownsRow w.heap.size 32 3 v (longV l).length ((longV l).flatMap Mt.cells) ∧ Ext w w' := by
  obtain rfl : l.length = n := ha.1
  have HA := Lib.hid ha; clear ha
  obtain ⟨inf, i1, i2, i3, i4⟩ := info_of infoM'
  have I1 := Lib.hid i1; have I2 := Lib.hid i2; have I3 := Lib.hid i3; have I4 := Lib.hid i4; clear i1 i2 i3 i4
  obtain ⟨infI, i1, i2, i3, i4⟩ := info_of infoI'
  obtain ⟨T, hT⟩ : ∃ T, tailsV l = T := ⟨_, rfl⟩
  have hTl : T.length = l.length := by rw [← hT]; exact tailsV_len l
  have hTb : ∀ x ∈ T, x ≤ l.length := by rw [← hT]; exact tails_le l
  obtain ⟨M, hM⟩ : ∃ M, mostV T = M := ⟨_, rfl⟩
  have hMl : M ≤ l.length := by rw [← hM]; exact mostV_le T _ hTb
  have hV : longV l = chainP l T M M := by unfold longV; rw [hT, hM]
  have hok : ∀ j, j < M → ∃ k : Nat, k < l.length ∧ lastI l T M (j + 1) = k := fun j hj => by
    obtain ⟨k, h1, h2, _⟩ := last_ok l j (by rw [hT, hM]; exact hj)
    rw [hT, hM] at h2
    exact ⟨k, h1, h2⟩
  have HTT := Lib.hid hT; have HTB := Lib.hid hTb; have HM := Lib.hid hM; have HV := Lib.hid hV; have HOK := Lib.hid hok; have HTL := Lib.hid hTl
  obtain ⟨w1, hmk, how, hg⟩ := run_make_full (P := Try.prog) (w := w) w.heap.size 50 3 infI (.int .i64 0) 1 underI' i1 i2 i3 .i64 .i64 l.length (by rw [i4]; omega) (by unfold maxLen; omega) (Nat.le_refl _)
  have how2 : w1.ownsRow w.heap.size 3 1 (.slice (some ⟨w.heap.size, 0, none⟩) l.length l.length) l.length (tcells l.length (tailsV (l.drop l.length))) := by
    have e : (madeCells (Value.int .i64 0).cells (l.length * 1)).toList = tcells l.length (tailsV (l.drop l.length)) := by
      rw [List.drop_length]
      show (madeCells #[Value.int .i64 0] (l.length * 1)).toList = _
      rw [toList_madeCells_one, Nat.mul_one]
      simp [tcells, tailsV]
    rw [← e]; exact how
  have hE1 : Ext w w1 := Below.grown (Ext.refl w) hg (Nat.le_refl _) (fun j hj => by cases hj)
  have HO1 := Lib.hid how2; have HE1 := Lib.hid hE1; clear how how2 hE1 hg hT hTl hTb hM hV hok
  go_enter Try.func17, Try.ntmps17
  go_wp2_with fail
  go_loopw [4, 5, 6] (fun v4 v5 _ wr => ∃ p : Nat, p ≤ l.length ∧ v5 = .int .i64 ((p : Int) - 1) ∧ v4 = .int .i64 (mostV (tailsV (l.drop p)) : Nat) ∧ wr.ownsRow w.heap.size 3 1 (.slice (some ⟨w.heap.size, 0, none⟩) l.length l.length) l.length (tcells p (tailsV (l.drop p))) ∧ Ext w wr) (fun _ v5 _ _ => (intOf v5 + 1).toNat)
  case atStart => exact ⟨l.length, Nat.le_refl _, rfl, by rw [List.drop_length]; rfl, HO1.out, HE1.out⟩
  clear HO1 HE1
  case round =>
    obtain ⟨p, hp, rfl, rfl, ho, hE⟩ := hrel
    have HO := Lib.hid ho; have HE := Lib.hid hE; clear ho hE
    by_cases h0 : p = 0
    case neg =>
      obtain ⟨i, rfl⟩ : ∃ i, p = i + 1 := ⟨p - 1, by omega⟩
      obtain ⟨x, hx⟩ : ∃ x, l[i]? = some x := ⟨l[i], List.getElem?_eq_getElem (by omega)⟩
      obtain ⟨r, hr⟩ : ∃ r, l.drop (i + 1) = r := ⟨_, rfl⟩
      have hdrop : l.drop i = x :: r := by rw [drop_of hx, hr]
      have hrl : r.length + (i + 1) = l.length := by rw [← hr, List.length_drop]; omega
      rw [hr] at HO ⊢
      obtain ⟨N, hN⟩ : ∃ N, mostV (tailsV r) = N := ⟨_, rfl⟩
      have hNl : N ≤ r.length := by rw [← hN]; exact mostV_le _ _ (tails_le r)
      rw [hN]
      have hfz := HO.out.frozenAt i
      have c0 : wr.cell? ⟨w.heap.size, i, none⟩ = some (.int .i64 0) := own_at HO.out (by unfold tcells; rw [List.getElem?_append_left (by simp)]; simp)
      have q1 : ((i + 1 : Nat) : Int) - 1 = (i : Nat) := by omega
      rw [q1]
      have q2 : decide ((0 : Int) ≤ (i : Nat)) = true := by simp
      have hi : i < l.length := by omega
      have HX := Lib.hid hx; have HR := Lib.hid hr; have HDR := Lib.hid hdrop; have HN := Lib.hid hN
      clear q1 hx hr hdrop hN
      go_wp2_with fail
      have hst := (HO.out.stored i (.int .i64 ((1 : Nat) : Int))).1
      rw [tcells_set] at hst
      have hEs : Ext w (wr.setCell ⟨w.heap.size, i, none⟩ (.int .i64 1)) := HE.out.setCell (by simp) _
      have HST := Lib.hid hst; have HES := Lib.hid hEs
      clear hst hEs HO HE c0 hfz q2
      go_loopw [6] (fun v6 wr => ∃ k : Nat, i + 1 ≤ k ∧ k ≤ l.length ∧ v6 = .int .i64 k ∧ wr.ownsRow w.heap.size 3 1 (.slice (some ⟨w.heap.size, 0, none⟩) l.length l.length) l.length (tcells i (tailP x r (tailsV r) (k - (i + 1)) :: tailsV r)) ∧ Ext w wr) (fun v6 _ => l.length - (intOf v6).toNat)
      case atStart => exact ⟨i + 1, Nat.le_refl _, by omega, rfl, by rw [Nat.sub_self]; exact HST.out, HES.out⟩
      clear HST HES
      case round =>
        obtain ⟨k, hk1, hk2, rfl, ho, hE⟩ := hrel
        have HO := Lib.hid ho; have HE := Lib.hid hE; clear ho hE
        by_cases hkl : k < l.length
        case neg =>
          obtain rfl : k = l.length := by omega
          obtain ⟨v, hv⟩ : ∃ v, tailP x r (tailsV r) (l.length - (i + 1)) = v := ⟨_, rfl⟩
          have hvl : v ≤ 1001 := by rw [← hv]; have := tailP_le x r (l.length - (i + 1)); omega
          rw [hv] at HO
          have hv2 : tailsV (l.drop i) = v :: tailsV r := by
            rw [HDR.out, tailsV, ← tailP_all, ← hv, show l.length - (i + 1) = r.length by omega]
          have c1 : wr.cell? ⟨w.heap.size, i, none⟩ = some (.int .i64 v) := own_at (j := i) HO.out (tcells_get (j := 0) rfl)
          have hmv : mostV (tailsV (l.drop i)) = max v N := by rw [hv2, mostV_cons, HN.out]
          have HV2 := Lib.hid hv2; have HMV := Lib.hid hmv; clear hv hv2 hmv
          by_cases hNv : N < v
          · have q3 : decide (N < v) = true := yd hNv
            have hmx : max v N = v := by omega
            have HMX := Lib.hid hmx; clear hNv hmx
            go_wp2_with fail
            go_roundw
            case rel => exact ⟨i, by omega, rfl, by rw [HMV.out, HMX.out], by rw [HV2.out]; exact HO.out, HE.out⟩
            case measure => simp [intOf]
          · have q3 : decide (N < v) = false := nd hNv
            have hmx : max v N = N := by omega
            have HMX := Lib.hid hmx; clear hNv hmx
            go_wp2_with fail
            go_roundw
            case rel => exact ⟨i, by omega, rfl, by rw [HMV.out, HMX.out], by rw [HV2.out]; exact HO.out, HE.out⟩
            case measure => simp [intOf]
        case pos =>
          obtain ⟨y, hy⟩ : ∃ y, l[k]? = some y := ⟨l[k], List.getElem?_eq_getElem (by omega)⟩
          have hyr : r[k - (i + 1)]? = some y := by rw [← HR.out, List.getElem?_drop, show i + 1 + (k - (i + 1)) = k by omega]; exact hy
          obtain ⟨t, ht⟩ : ∃ t, (tailsV r)[k - (i + 1)]? = some t := ⟨_, List.getElem?_eq_getElem (by rw [tailsV_len]; omega)⟩
          obtain ⟨ba, oa, x', hA, hba, hx', -, d0, d1, d2⟩ := (HA.out.ext HE.out).get (k := i) (by omega)
          obtain ⟨ba', oa', y', hA', -, hy', -, e0, e1, e2⟩ := (HA.out.ext HE.out).get hkl
          subst hA
          cases hA'
          rw [HX.out] at hx'; cases hx'
          rw [hy] at hy'; cases hy'
          have hsn := tailP_succ (x := x) hyr ht
          have htl : t ≤ 1000 := by have := tails_le r t (List.mem_of_getElem? ht); omega
          obtain ⟨v, hv⟩ : ∃ v, tailP x r (tailsV r) (k - (i + 1)) = v := ⟨_, rfl⟩
          have hvl : v ≤ 1001 := by rw [← hv]; have := tailP_le x r (k - (i + 1)); omega
          rw [hv] at HO hsn
          have c1 : wr.cell? ⟨w.heap.size, i, none⟩ = some (.int .i64 v) := own_at (j := i) HO.out (tcells_get (j := 0) rfl)
          have c2 : wr.cell? ⟨w.heap.size, k, none⟩ = some (.int .i64 t) := by
            have h3 : (tcells i (v :: tailsV r))[i + (k - (i + 1) + 1)]? = some (.int .i64 t) := tcells_get (by rw [List.getElem?_cons_succ]; exact ht)
            rw [show i + (k - (i + 1) + 1) = k by omega] at h3
            exact own_at HO.out h3
          rw [show k - (i + 1) + 1 = k + 1 - (i + 1) by omega] at hsn
          have HSN := Lib.hid hsn; clear hsn hv ht hy hyr d0 d2 e0 e2
          by_cases hxy : x.b < y.b
          case neg =>
            have h1 := HSN.out; rw [if_neg hxy] at h1
            have H1 := Lib.hid h1; clear h1
            have q3 := nd hxy
            go_wp2_with fail
            go_quiet (fail)
            go_wp2_with fail
            go_roundw
            case rel => exact ⟨k + 1, by omega, by omega, by go_num, by rw [H1.out]; exact own_stab3 ((Ext.refl wr).drewN nq) HO.out, HE.out.drewN _⟩
            case measure => simp [intOf]; omega
          have h1 := HSN.out; rw [if_pos hxy] at h1
          have H1 := Lib.hid h1; clear h1
          have q3 := yd hxy
          by_cases hvt : v < t + 1
          case neg =>
            have q4 : decide ((v : Int) < (t : Int) + 1) = false := nd (by omega)
            have hmx : max v (t + 1) = v := by omega
            have HMX := Lib.hid hmx; clear hmx hvt
            go_wp2_with fail
            go_quiet (fail)
            go_wp2_with fail
            go_roundw
            case rel => exact ⟨k + 1, by omega, by omega, by go_num, by rw [H1.out, HMX.out]; exact own_stab3 ((Ext.refl wr).drewN nq) HO.out, HE.out.drewN _⟩
            case measure => simp [intOf]; omega
          case pos =>
            have q4 : decide ((v : Int) < (t : Int) + 1) = true := yd (by omega)
            have hmx : max v (t + 1) = t + 1 := by omega
            have HMX := Lib.hid hmx; clear hmx hvt
            go_wp2_with fail
            go_quiet (fail)
            have hfz := (own_stab3 ((Ext.refl wr).drewN nq) HO.out).frozenAt i
            go_wp2_with fail
            go_roundw
            case rel =>
              have hst := ((own_stab3 ((Ext.refl wr).drewN nq) HO.out).stored i (.int .i64 ((t + 1 : Nat) : Int))).1
              rw [tcells_put] at hst
              exact ⟨k + 1, by omega, by omega, by go_num, by rw [H1.out, HMX.out]; exact hst, (HE.out.drewN _).setCell (by simp) _⟩
            case measure => simp [intOf]; omega
    case pos =>
      subst h0
      rw [show ((0 : Nat) : Int) - 1 = -1 from rfl]
      rw [List.drop_zero, HTT.out] at HO
      rw [List.drop_zero, HTT.out, HM.out]
      obtain ⟨x, rfl⟩ : ∃ x, x = M := ⟨_, rfl⟩
      obtain ⟨w2, rfl⟩ : ∃ w2, w2 = wr := ⟨_, rfl⟩
      have hgl : w.heap.size < w2.heap.size := (HO.out.lt w.heap.size rfl).2
      have HEx := Lib.hid HE.out; clear HE
      go_wp2_with fail
      obtain ⟨w3, hw3⟩ : ∃ w3, w3 = w2.alloc (.cells #[] 32) := ⟨_, rfl⟩
      have hE3 : Ext w2 w3 := by rw [hw3]; exact (Ext.refl w2).alloc _
      have hO3 : w3.ownsRow w2.heap.size 32 3 (.slice (some ⟨w2.heap.size, 0, none⟩) 0 0) 0 [] := by
        rw [hw3]; exact ⟨rfl, .inr ⟨w2.heap.size, 0, #[], rfl, Nat.le_refl _, heap_alloc_new w2 _, Nat.le_refl _, by simp [maxLen], rfl, rfl⟩⟩
      rw [← hw3]
      have HE3 := Lib.hid hE3; have HO3 := Lib.hid hO3; clear hw3 hE3 hO3
      go_loopw [7, 8, 9] (fun v7 v8 v9 wr => ∃ (j nn : Nat) (la : Int), j + nn = x ∧ v9 = .int .i64 nn ∧ v8 = .int .i64 la ∧ lastI l T x j = la ∧ wr.ownsRow w2.heap.size 32 3 v7 j ((chainP l T x j).flatMap Mt.cells) ∧ Ext w2 wr) (fun _ _ v9 _ => (intOf v9).toNat)
      case atStart => exact ⟨0, x, -1, by omega, rfl, rfl, rfl, HO3.out, HE3.out⟩
      clear HO3 HE3
      case round =>
        obtain ⟨j, nn, la, hjn, rfl, rfl, hla, ho, hE⟩ := hrel
        have hrange := last_range l T x j
        rw [hla] at hrange
        have HLA := Lib.hid hla; have HOW := Lib.hid ho; have HE := Lib.hid hE; have HRG := Lib.hid hrange; clear hla ho hE hrange
        by_cases hn0 : nn = 0
        case pos =>
          subst hn0
          obtain rfl : j = x := by omega
          go_wp2_with fail
          go_ret
          have h9 := own_base HOW.out (base' := w.heap.size) HEx.out.size
          exact ⟨_, rfl, by rw [HV.out, chainP_len]; exact h9, HEx.out.trans HE.out⟩
        have hb1 : -1 ≤ la ∧ la < l.length := by rcases HRG.out with h | ⟨k, h1, h2⟩ <;> omega
        obtain ⟨hb1, hb2⟩ := hb1
        have hnn : decide (0 < nn) = true := yd (by omega)
        go_wp2_with fail
        go_loopw [10, 11] (fun v10 v11 wy => ∃ (i : Nat) (bb : Int), la < i ∧ i ≤ l.length ∧ v10 = .int .i64 bb ∧ v11 = .int .i64 i ∧ bestI l T nn la i = bb ∧ Ext wr wy) (fun _ v11 _ => l.length - (intOf v11).toNat)
        case atStart => exact ⟨(la + 1).toNat, -1, by omega, by omega, rfl, by congr 1; omega, bestI_early l T nn la (by omega), Ext.refl _⟩
        case round =>
          obtain ⟨i, bb, hli, hi, rfl, rfl, hbb, hE2⟩ := hrel
          have hbr := best_range l T nn la i
          rw [hbb] at hbr
          have HBB := Lib.hid hbb; have HBR := Lib.hid hbr; have HE2 := Lib.hid hE2; clear hbb hbr hE2
          by_cases hil : i < l.length
          case neg =>
            obtain rfl : i = l.length := by omega
            obtain ⟨k, hk, hlk⟩ := HOK.out j (by omega)
            have hbk : bb = k := by
              rw [← hlk, lastI_succ, HLA.out, show x - j = nn by omega, HBB.out]
            subst hbk
            have HLK := Lib.hid hlk; clear hlk
            have k0 : decide ((k : Int) < 0) = false := nd (by omega)
            obtain ⟨ba, oa, ⟨p, q, z⟩, hA, hba, hm, hwf, d0, d1, d2⟩ := (HA.out.ext (HEx.out.trans (HE.out.trans HE2.out))).get hk
            subst hA
            dsimp only at d0 d1 d2
            have hcs : chainP l T x (j + 1) = chainP l T x j ++ [⟨p, q, z⟩] := by rw [chainP_succ, HLK.out, Int.toNat_natCast, getD_is hm]
            have HCS := Lib.hid hcs; clear hcs hm hwf
            go_wp2_with (at_builtin; refine wpList_append_size2 rfl (.tmp 132) (.tmp 137) 25 rfl w2.heap.size 32 inf _ 3 24 underM' I1.out I2.out I3.out I4.out rfl (by decide) u7 j _ (some ⟨wr.heap.size, 0, none⟩) 1 1 (Mt.cells ⟨p, q, z⟩) rfl (by simp [Act.eval]) rfl (by simp [Mt.cells, Value.oneCell']) (by simp only [maxLen]; omega) (by omega) (own_stab3 (HE2.out.alloc _) HOW.out) (Cells.new wr _ _ rfl) (by have := HE.out.size; have := HE2.out.size; simp; omega) ?_; intro v' w3 hown hg hbk)
            go_roundw
            case rel =>
              refine ⟨j + 1, nn - 1, (k : Int), by omega, by go_num, rfl, HLK.out, ?_, ((HE.out.trans HE2.out).alloc _).own3 (own_stab3 (HE2.out.alloc _) HOW.out) hg⟩
              rw [HCS.out, List.flatMap_append]
              simpa using hown
            case measure => simp [intOf]; omega
          case pos =>
            obtain ⟨ti, hti⟩ : ∃ t, T[i]? = some t := ⟨_, List.getElem?_eq_getElem (by rw [HTL.out]; omega)⟩
            have htl : ti ≤ 500 := by have := HTB.out ti (List.mem_of_getElem? hti); omega
            have c1 : wr.cell? ⟨w.heap.size, i, none⟩ = some (.int .i64 ti) := by
              have h3 : (tcells 0 T)[0 + i]? = some (.int .i64 ti) := tcells_get hti
              rw [Nat.zero_add] at h3
              exact own_at (own_stab3 (HE.out.trans HE2.out) HO.out) h3
            have hgl2 : w.heap.size < wr.heap.size := Nat.lt_of_lt_of_le hgl (HE.out.trans HE2.out).size
            have hgd : T.getD i 0 = ti := getD_is hti
            obtain ⟨ba, oa, ⟨p, q, z⟩, hA, hba, hm, -, -, d1, -⟩ := (HA.out.ext (HEx.out.trans (HE.out.trans HE2.out))).get hil
            subst hA
            have hbi := bOf_at hm
            dsimp only at d1 hbi
            have HBI := Lib.hid hbi; have HGD := Lib.hid hgd; clear hm hbi hgd hti
            by_cases h1 : ti = nn
            case neg =>
              have q1 : ((ti : Int) == nn) = false := by simp; omega
              have hn' := best_no HBB.out (fun h => h1 (by rw [← HGD.out]; exact h.1.2.1))
              have HN := Lib.hid hn'; clear hn'
              go_wp2_with fail
              go_quiet (fail)
              go_wp2_with fail
              try clear q7
              try clear z7
              go_roundw
              case rel => exact ⟨i + 1, bb, by omega, by omega, rfl, by go_num, HN.out, HE2.out.drewN _⟩
              case measure => simp [intOf]; omega
            case pos =>
              have q1 : ((ti : Int) == nn) = true := by simp [h1]
              have H1 := Lib.hid h1; clear h1
              rcases HRG.out with hl | ⟨p1, hp1, hl⟩
              · have z5 : decide (la < 0) = true := yd (by omega)
                have HHL := Lib.hid hl; clear hl
                rcases HBR.out with hb | ⟨q1, hq1, hb⟩
                · have hn' := best_yes HBB.out ⟨by omega, by rw [HGD.out]; exact H1.out, .inl (by have := HHL.out; omega)⟩ (.inl (by omega))
                  have q5 : decide (bb < 0) = true := yd (by omega)
                  have HN := Lib.hid hn'; have HHB := Lib.hid hb; clear hn' hb
                  go_wp2_with fail
                  go_quiet (fail)
                  go_wp2_with fail
                  try clear q7
                  try clear z7
                  go_roundw
                  case rel => exact ⟨i + 1, i, by omega, by omega, rfl, by go_num, HN.out, HE2.out.drewN _⟩
                  case measure => simp [intOf]; omega
                · obtain ⟨ba3, oa3, ⟨p3, q3, z3⟩, hA3, -, hm3, -, -, f1, -⟩ := (HA.out.ext (HEx.out.trans (HE.out.trans HE2.out))).get (k := q1) (by omega)
                  cases hA3
                  have hb3 := bOf_at hm3
                  dsimp only at f1 hb3
                  rw [← hb] at hb3
                  have q5 : decide (bb < 0) = false := nd (by omega)
                  have q6 : (0 : Int) ≤ bb := by omega
                  have q7 : bb.toNat = q1 := by omega
                  have q8 : bb < l.length := by omega
                  have q9 : q1 < l.length := by omega
                  have HB3 := Lib.hid hb3; have HHB := Lib.hid hb; clear hm3 hb3 hb
                  by_cases hlt3 : q < q3
                  case pos =>
                    have hn' := best_yes HBB.out ⟨by omega, by rw [HGD.out]; exact H1.out, .inl (by have := HHL.out; omega)⟩ (.inr (by rw [HBI.out, HB3.out]; exact hlt3))
                    have HN := Lib.hid hn'; clear hn'
                    have z9 := yd hlt3
                    go_wp2_with fail
                    go_quiet (fail)
                    go_wp2_with fail
                    try clear q7
                    try clear z7
                    go_roundw
                    case rel => exact ⟨i + 1, i, by omega, by omega, rfl, by go_num, HN.out, HE2.out.drewN _⟩
                    case measure => simp [intOf]; omega
                  case neg =>
                    have hn' := best_no HBB.out (fun h => by rcases h.2 with h | h; have := HHB.out; omega; rw [HBI.out, HB3.out] at h; exact hlt3 h)
                    have HN := Lib.hid hn'; clear hn'
                    have z9 := nd hlt3
                    go_wp2_with fail
                    go_quiet (fail)
                    go_wp2_with fail
                    try clear q7
                    try clear z7
                    go_roundw
                    case rel => exact ⟨i + 1, bb, by omega, by omega, rfl, by go_num, HN.out, HE2.out.drewN _⟩
                    case measure => simp [intOf]; omega
              · obtain ⟨ba2, oa2, ⟨p2, q2, z2⟩, hA2, -, hm2, -, -, e1, -⟩ := (HA.out.ext (HEx.out.trans (HE.out.trans HE2.out))).get hp1
                cases hA2
                have hb2' := bOf_at hm2
                dsimp only at e1 hb2'
                rw [← hl] at hb2'
                have z5 : decide (la < 0) = false := nd (by omega)
                have z6 : (0 : Int) ≤ la := by omega
                have z7 : la.toNat = p1 := by omega
                have z10 : la < l.length := by omega
                have HB2 := Lib.hid hb2'; have HHL := Lib.hid hl; clear hm2 hb2' hl
                by_cases hlt2 : q2 < q
                case neg =>
                  have hn' := best_no HBB.out (fun h => by rcases h.1.2.2 with h | h; have := HHL.out; omega; rw [HBI.out, HB2.out] at h; exact hlt2 h)
                  have HN := Lib.hid hn'; clear hn'
                  have z8 := nd hlt2
                  go_wp2_with fail
                  go_quiet (fail)
                  go_wp2_with fail
                  try clear q7
                  try clear z7
                  go_roundw
                  case rel => exact ⟨i + 1, bb, by omega, by omega, rfl, by go_num, HN.out, HE2.out.drewN _⟩
                  case measure => simp [intOf]; omega
                case pos =>
                  have z8 := yd hlt2
                  rcases HBR.out with hb | ⟨q1, hq1, hb⟩
                  · have hn' := best_yes HBB.out ⟨by omega, by rw [HGD.out]; exact H1.out, .inr (by rw [HBI.out, HB2.out]; exact hlt2)⟩ (.inl (by omega))
                    have q5 : decide (bb < 0) = true := yd (by omega)
                    have HN := Lib.hid hn'; have HHB := Lib.hid hb; clear hn' hb
                    go_wp2_with fail
                    go_quiet (fail)
                    go_wp2_with fail
                    try clear q7
                    try clear z7
                    go_roundw
                    case rel => exact ⟨i + 1, i, by omega, by omega, rfl, by go_num, HN.out, HE2.out.drewN _⟩
                    case measure => simp [intOf]; omega
                  · obtain ⟨ba3, oa3, ⟨p3, q3, z3⟩, hA3, -, hm3, -, -, f1, -⟩ := (HA.out.ext (HEx.out.trans (HE.out.trans HE2.out))).get (k := q1) (by omega)
                    cases hA3
                    have hb3 := bOf_at hm3
                    dsimp only at f1 hb3
                    rw [← hb] at hb3
                    have q5 : decide (bb < 0) = false := nd (by omega)
                    have q6 : (0 : Int) ≤ bb := by omega
                    have q7 : bb.toNat = q1 := by omega
                    have q8 : bb < l.length := by omega
                    have q9 : q1 < l.length := by omega
                    have HB3 := Lib.hid hb3; have HHB := Lib.hid hb; clear hm3 hb3 hb
                    by_cases hlt3 : q < q3
                    case pos =>
                      have hn' := best_yes HBB.out ⟨by omega, by rw [HGD.out]; exact H1.out, .inr (by rw [HBI.out, HB2.out]; exact hlt2)⟩ (.inr (by rw [HBI.out, HB3.out]; exact hlt3))
                      have HN := Lib.hid hn'; clear hn'
                      have z9 := yd hlt3
                      go_wp2_with fail
                      go_quiet (fail)
                      go_wp2_with fail
                      try clear q7
                      try clear z7
                      go_roundw
                      case rel => exact ⟨i + 1, i, by omega, by omega, rfl, by go_num, HN.out, HE2.out.drewN _⟩
                      case measure => simp [intOf]; omega
                    case neg =>
                      have hn' := best_no HBB.out (fun h => by rcases h.2 with h | h; have := HHB.out; omega; rw [HBI.out, HB3.out] at h; exact hlt3 h)
                      have HN := Lib.hid hn'; clear hn'
                      have z9 := nd hlt3
                      go_wp2_with fail
                      go_quiet (fail)
                      go_wp2_with fail
                      try clear q7
                      try clear z7
                      go_roundw
                      case rel => exact ⟨i + 1, bb, by omega, by omega, rfl, by go_num, HN.out, HE2.out.drewN _⟩
                      case measure => simp [intOf]; omega
end Go.Proofs.Ytmmhbnlafcmloaa

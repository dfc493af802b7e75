/- HiRunW: parts of the proof of TopDifferences, one text behind the other. No condition. -/
import Derived.Test.YtmmcjcaccicheaaGreatDoorT19
import Derived.Maps.AppendAt
/- The iterator over the common runs. -/
namespace Go.Proofs.YtmmcjcaccicheaaGreatDoor
open Go.RowKit Go.WideMaps Go.Maps Go.WideElems Go.MapKept Go.ChangeShapes

theorem grp_put {w w2 : World} {base g n : Nat} {D : DataW Unit} {b : Lns} {k : Nat} {s : ByteArray} {v' : Value} {zs : List Int} (hk : b[k]? = some s) (hIs : ∃ es, D = .map es) (hat : ∀ t, D.atKey (kOfH t) .nil = dat (toI (plc b k t)))
    (hzs : zs = toI (plc b k s)) (ho : w.ownsInts base 3 .i64 v' (zs ++ [(k : Int)])) (hown : w2.ownsGroups Tryz.prog 9 base 3 .i64 g n (D.put (kOfH s) (rowDatum .i64 v' (zs ++ [(k : Int)])))) :
    GrpI w2 base g n (fun t => toI (plc b (k + 1) t)) := by
  obtain ⟨es, hes⟩ := hIs
  refine ⟨_, hown, ?_, fun t => ?_⟩
  · subst hes; exact ⟨_, rfl⟩
  · show _ = dat (toI (plc b (k + 1) t))
    rw [plc_succ hk]
    by_cases h : t = s
    · subst h
      rw [if_pos rfl, atKey_put_same (k := kOfH t) ⟨es, hes⟩ (by simp [kOfH, WideAt.IsKeyLit]) _ _, toI_snoc, ← hzs, ho.datum_pos (by simp), dat, if_neg (by simp)]
    · rw [if_neg h, atKey_put_other (fun e => h (kOf_injH e))]; exact hat t

set_option maxRecDepth 100000 in
set_option maxHeartbeats 8000000 in
theorem runs_iter (A B : Option Addr) (c cd : Nat) (a b : Lns) (ga gb : Nat) (X : Nat → Prop) (w0 : World) (hKn : ∀ W, Lv X w0 W → Kr A B c cd a b ga gb W) (hn : a.length ≤ 60) (hm : b.length ≤ 60) :
    Iter Tryz.prog 95 #[.pointer (some ⟨gb, 0, none⟩), .pointer (some ⟨ga, 0, none⟩)] EncM (yall a b a.length) (fun _ => False) (PreT X w0) := by
  intro ly J Jx S W hP hSz hJ hJx hY h0
  have HP := Lib.hid hP; have HJ := Lib.hid hJ; have HY := Lib.hid hY; have H0 := Lib.hid h0; have HZ := Lib.hid hSz; have HK := Lib.hid hKn; clear hP hSz hJ hJx hY h0 hKn
  have hmm := @run_makeMap Tryz.prog
  refine callsIn_wide.2 ?_
  simp only [List.append_toArray, List.cons_append, List.nil_append]
  go_enter Tryz.func95, Tryz.ntmps95
  have HE0 := Lib.hid ((Ext.refl W).alloc (.map #[] 0))
  have c1 := (HK.out _ (HP.out.1.ext HE0.out)).bb.cell 0
  replace c1 : (W.alloc (.map #[] 0)).cell? ⟨gb, 0, none⟩ = some (.slice B b.length cd) := c1
  have K := Lib.hid (HK.out _ HP.out.1)
  have hgbl := K.out.bb.lt
  obtain ⟨inf, i1, i2, i3, i4⟩ := info_of infoI
  have I1 := Lib.hid i1; have I2 := Lib.hid i2; have I3 := Lib.hid i3; have I4 := Lib.hid i4; clear i1 i2 i3 i4
  go_wp2_with fail
  go_loopw [15] (fun v15 wr => ∃ k : Nat, k ≤ b.length ∧ v15 = .int .i64 k ∧ GrpI wr (W.heap.size + 1) W.heap.size k (fun s => toI (plc b k s)) ∧ Ext W wr ∧ W.heap.size + 1 ≤ wr.heap.size) (fun v15 _ => b.length - (intOf v15).toNat)
  case atStart => exact ⟨0, Nat.zero_le _, rfl, GrpI.new W, HE0.out, by simp⟩
  case round =>
    obtain ⟨k, hk, rfl, hg, hE, hsz⟩ := hrel
    have HG := Lib.hid hg; have HE := Lib.hid hE; clear hg hE
    by_cases hlt : k < b.length
    case pos =>
      obtain ⟨bb, ob, s, hB, hbb, hs, hs2, hc2⟩ := (HK.out _ (HP.out.1.ext HE.out)).sb.get hlt
      subst hB
      obtain ⟨D, hD, hIs, hat⟩ := HG.out
      have hkey := key_ofH (s := s) (by unfold Reach at hs2; unfold maxLen; omega)
      have HS := Lib.hid hs; have HIS := Lib.hid hIs; have HAT := Lib.hid hat; clear hs hIs hat c1
      go_wp2_with (first
        | (at_lookup; refine wpList_lookup_groups _ rfl _ _ 159 rfl 9 49 3 .i64 keyedSH underSII (zeroII _) (W.heap.size + 1) W.heap.size k _ rfl hD (by unfold maxLen; omega) _ _ rfl hkey ?_; intro v zs hat hoi hzl hback; have hzs := dat_of hoi ((HAT.out s).symm.trans hat); have HZS := Lib.hid hzs; clear hzs hat)
        | (at_builtin; refine wpList_append_size2 rfl (.tmp 24) (.tmp 26) 49 rfl (W.heap.size + 1) 3 inf _ 1 8 underII I1.out I2.out I3.out I4.out rfl (by decide) v zs.length (zs.map (Value.int .i64)) (some ⟨wr.heap.size, 0, none⟩) 1 1 [.int .i64 k] rfl (by simp [Act.eval]) rfl (by simp [Value.oneCell']) (by simp only [maxLen]; omega) (by omega) (own_stab3 ((Ext.refl wr).alloc _) hoi.1) (Cells.new wr _ [_] rfl) (by simp; omega) ?_; intro v' w1 hown' hgrow hloc)
        | (at_mapUpdate; refine wpList_mapUpdate_back _ rfl _ _ _ 159 rfl hback rfl rfl rfl ((World.grownBy_alloc _ _ _).trans hgrow) (hoi.appended hown' (WalkArith.wf_i64 (by omega))) (by simp; omega) (hloc.imp id (fun ⟨j, h1, h2⟩ => ⟨j, h1, Nat.le_trans (by simp) h2⟩)) ?_; intro w2 hown2 hgrow2))
      go_roundw
      case rel =>
        have hall := (World.grownBy_alloc wr _ _).trans hgrow
        have hnx : Below W.heap.size W w2 := HE.out.groups hoi hall hgrow2 (by omega) (by omega) (Nat.le_refl _)
        exact ⟨k + 1, by omega, by go_num, grp_put HS.out HIS.out HAT.out HZS.out (hoi.appended hown' (WalkArith.wf_i64 (by omega))) hown2, hnx, Nat.le_trans hsz (Nat.le_trans hall.size hgrow2.size)⟩
      case measure => simp [intOf]; omega
    case neg =>
      obtain rfl : k = b.length := by omega
      have hR0 : RunS J X w0 (W.heap.size + 1) W.heap.size b.length (fun s => toI (plc b b.length s)) (yall a b 0) S wr :=
        ⟨HJ.out _ _ _ _ H0.out (Lv.of_ext HE.out), ⟨HP.out.1.ext HE.out, HP.out.2⟩, fun h hh => by have := HZ.out h hh; omega, HG.out, fun h => absurd (HZ.out _ h) (by omega), HG.out.shuns (fun h hh => by have := HZ.out h hh; omega)⟩
      have HR0 := Lib.hid hR0; clear hR0 HE0 HG HE HP H0 HZ K hgbl
      clear c1
      have c2 := (HK.out _ HR0.out.pre.1).ba.cell 0
      replace c2 : wr.cell? ⟨ga, 0, none⟩ = some (.slice A a.length c) := c2
      go_wp2_with fail
      clear c2
      go_loopw [31] (fun v31 wr => ∃ (i : Nat) (S' : Nat → Prop), i ≤ a.length ∧ v31 = .int .i64 i ∧ RunS J X w0 (W.heap.size + 1) W.heap.size b.length (fun s => toI (plc b b.length s)) (yall a b i) S' wr) (fun v31 _ => a.length - (intOf v31).toNat)
      case atStart => exact ⟨0, S, Nat.zero_le _, rfl, HR0.out⟩
      clear HR0
      case round =>
        obtain ⟨i, S1, hi, rfl, hR⟩ := hrel
        have HR := Lib.hid hR; clear hR
        by_cases hil : i < a.length
        case neg =>
          obtain rfl : i = a.length := by omega
          go_wp2_with fail
          refine bodyPost_end (results_none rfl _ _ _) rfl ?_
          exact ⟨⟨_, rfl⟩, .inl ⟨S1, HR.out.j⟩⟩
        case pos =>
          obtain ⟨ba, oa, s, hA, hba, hs, hs2, hc2⟩ := (HK.out _ HR.out.pre.1).sa.get hil
          subst hA
          obtain ⟨D, hD, hIs, hat⟩ := HR.out.grp
          have hkey := key_ofH (s := s) (by unfold Reach at hs2; unfold maxLen; omega)
          obtain ⟨ks, hks⟩ : ∃ ks, plc b b.length s = ks := ⟨_, rfl⟩
          have hat' : D.atKey (kOfH s) .nil = dat (toI ks) := by rw [← hks]; exact hat s
          have HS := Lib.hid hs; have HAT := Lib.hid hat'; have HKS := Lib.hid hks; clear hs hIs hat hat' hks
          go_wp2_with (at_lookup; refine wpList_lookup_groups_shuns _ rfl _ _ 159 rfl 9 49 3 .i64 keyedSH underSII (zeroII _) (W.heap.size + 1) W.heap.size b.length _ rfl hD (by unfold maxLen; omega) _ _ rfl hkey ?_; intro v zs hat hoi hzl hback hsh; obtain ⟨A2, c2, rfl, hpl⟩ := PlAt.of hoi (hsh S1 HR.out.sh); have hzs := dat_of hoi (HAT.out.symm.trans hat); have HZS := Lib.hid hzs; have HPL := Lib.hid hpl; clear hzs hpl hat hoi hzl hback hsh)
          clear hD hkey HAT hc2 hs2
          obtain rfl := HZS.out
          clear HZS
          obtain ⟨m, hml⟩ : ∃ m, (toI ks).length = m := ⟨_, rfl⟩
          have hmk : ks.length = m := by rw [← hml]; simp [toI]
          have hmb : m ≤ b.length := by rw [← hmk, ← HKS.out]; exact plc_len _ _ _
          rw [hml] at HPL
          rw [hml]
          have HML := Lib.hid hmk; clear hmk hml
          go_loopw [40] (fun v40 wr => ∃ (j : Nat) (S' : Nat → Prop), j ≤ m ∧ v40 = .int .i64 j ∧ PlAt S' wr A2 m (toI ks) ∧ RunS J X w0 (W.heap.size + 1) W.heap.size b.length (fun s => toI (plc b b.length s)) (yall a b i ++ yrow a b i (ks.take j)) S' wr) (fun v40 _ => m - (intOf v40).toNat)
          case atStart => exact ⟨0, S1, Nat.zero_le _, rfl, HPL.out, by simpa [yrow] using HR.out⟩
          clear HPL HR
          case round =>
            obtain ⟨j, S2, hj, rfl, hpl, hR⟩ := hrel
            have HPL := Lib.hid hpl; have HR := Lib.hid hR; clear hpl hR
            by_cases hjl : j < m
            case neg =>
              obtain rfl : j = m := by omega
              go_wp2_with fail
              go_roundw
              case rel =>
                refine ⟨i + 1, S2, by omega, by go_num, ?_⟩
                have := HR.out
                rw [List.take_of_length_le (Nat.le_of_eq HML.out)] at this
                rw [yall_succ HS.out, HKS.out]
                exact this
              case measure => simp [intOf]; omega
            case pos =>
              obtain ⟨g2, o2, x, hA2, hg2, hx, hcx⟩ := HPL.out.ints.get hjl
              subst hA2
              obtain ⟨kk, hkj, rfl⟩ : ∃ kk : Nat, ks[j]? = some kk ∧ (kk : Int) = x := by simpa [toI] using hx
              have hmem : kk ∈ plc b b.length s := by rw [HKS.out]; exact List.mem_of_getElem? hkj
              obtain ⟨hkl, hkb⟩ := plc_mem hmem
              have HKJ := Lib.hid hkj; have HKB := Lib.hid hkb; clear hx hkj hmem hkb
              have hfol := folV_step (a := a) (b := b) (x := (i : Int)) (k := (i : Int) - kk) (by rw [show (i : Int) - ((i : Int) - kk) = kk by omega, mtB_at HS.out HKB.out]; simp)
              have HF1 := Lib.hid hfol; clear hfol
              obtain ⟨bb, ob, t0, hB, hbb, -, -, hcb⟩ := (HK.out _ HR.out.pre.1).sb.get hkl
              subst hB
              clear hcb t0
              have ca := (HK.out _ HR.out.pre.1).ba.cell 0
              replace ca : wr.cell? ⟨ga, 0, none⟩ = some (.slice (some ⟨ba, oa, none⟩) a.length c) := ca
              have cb := (HK.out _ HR.out.pre.1).bb.cell 0
              replace cb : wr.cell? ⟨gb, 0, none⟩ = some (.slice (some ⟨bb, ob, none⟩) b.length cd) := cb
              have CA := Lib.hid ca; have CB := Lib.hid cb
              cases hm0 : mtB a b ((i : Int) - 1) ((kk : Int) - 1) with
              | true =>
                have hrun : runN a b i kk = 0 := by rw [runN, if_pos hm0]
                have hlt := mtB_lt hm0
                obtain ⟨x, rfl⟩ : ∃ j, i = j + 1 := ⟨i - 1, by omega⟩
                obtain ⟨y, rfl⟩ : ∃ j, kk = j + 1 := ⟨kk - 1, by omega⟩
                obtain ⟨b1, o1, s1, hA1, hb1, hs1, hs2, hc1⟩ := (HK.out _ HR.out.pre.1).sa.get (k := x) (by omega)
                cases hA1
                obtain ⟨b2, o2', t1, hB1, hb2, ht1, ht2, hc2⟩ := (HK.out _ HR.out.pre.1).sb.get (k := y) (by omega)
                cases hB1
                rw [show ((x + 1 : Nat) : Int) - 1 = (x : Nat) by omega, show ((y + 1 : Nat) : Int) - 1 = (y : Nat) by omega, mtB_at hs1 ht1] at hm0
                obtain rfl : s1 = t1 := by simpa using hm0
                have HRUN := Lib.hid hrun; clear hrun hs1 ht1 hm0 hlt
                go_wp2_with fail
                go_quiet (fail)
                go_wp2_with fail
                go_roundw
                case rel =>
                  have hE := (Ext.refl wr).drewN nq
                  have hRE := HR.out.ext HJ.out hE
                  refine ⟨j + 1, S2, by omega, by go_num, HPL.out.lv (Lv.of_ext hE) (fun _ h => .inl h), ?_⟩
                  rw [take_succ_of HKJ.out, yrow_snoc, if_pos HRUN.out]
                  exact hRE
                case measure => simp [intOf]; omega
              | false =>
                have hrun : runN a b i kk = (folV a b i ((i : Int) - kk) - i).toNat := by rw [runN, if_neg (by rw [hm0]; simp)]
                have HRUN := Lib.hid hrun; clear hrun
                have hq : (i = 0) ∨ (0 < i ∧ kk = 0) ∨ (∃ x y s1 t1, i = x + 1 ∧ kk = y + 1 ∧ (s1.toList == t1.toList) = false ∧ s1.size ≤ Reach ∧ t1.size ≤ Reach ∧ wr.cell? ⟨ba, oa + x, none⟩ = some (.string s1) ∧ wr.cell? ⟨bb, ob + y, none⟩ = some (.string t1)) := by
                  rcases Nat.eq_zero_or_pos i with h | h
                  · exact .inl h
                  rcases Nat.eq_zero_or_pos kk with h' | h'
                  · exact .inr (.inl ⟨h, h'⟩)
                  obtain ⟨x, rfl⟩ : ∃ j, i = j + 1 := ⟨i - 1, by omega⟩
                  obtain ⟨y, rfl⟩ : ∃ j, kk = j + 1 := ⟨kk - 1, by omega⟩
                  obtain ⟨b1, o1, s1, hA1, hb1, hs1, hs2, hc1⟩ := (HK.out _ HR.out.pre.1).sa.get (k := x) (by omega)
                  cases hA1
                  obtain ⟨b2, o2', t1, hB1, hb2, ht1, ht2, hc2⟩ := (HK.out _ HR.out.pre.1).sb.get (k := y) (by omega)
                  cases hB1
                  rw [show ((x + 1 : Nat) : Int) - 1 = (x : Nat) by omega, show ((y + 1 : Nat) : Int) - 1 = (y : Nat) by omega, mtB_at hs1 ht1] at hm0
                  exact .inr (.inr ⟨x, y, s1, t1, rfl, rfl, ne_listH (by simpa using hm0), hs2, ht2, hc1, hc2⟩)
                clear hm0
                rcases hq with h0 | ⟨hi1, h0⟩ | ⟨x, y, s1, t1, hix, hky, hst, hs2, ht2, hc1, hc2⟩
                · have h0' : decide (0 < i) = false := nd (by omega)
                  clear h0
                  go_wp2_with fail
                  go_quiet (fail)
                  go_wp2_with fail
                  clear h0'
                  clear ca cb CA CB hcx hba hbb hg2
                  obtain ⟨w3, hw3⟩ : ∃ w3, w3 = wr.drewN nq := ⟨_, rfl⟩
                  have hE3 : Ext wr w3 := by rw [hw3]; exact (Ext.refl wr).drewN _
                  have HR3 := Lib.hid (HR.out.ext HJ.out hE3)
                  have HPL3 := Lib.hid (HPL.out.lv (Lv.of_ext hE3) (fun _ h => .inl h))
                  rw [← hw3]; clear hw3 hE3 HR HPL
                  go_loopw [11] (fun v11 wx => ∃ l : Nat, 1 ≤ l ∧ i + l ≤ a.length ∧ kk + l ≤ b.length ∧ v11 = .int .i64 l ∧ folV a b ((i + l : Nat)) ((i : Int) - kk) = folV a b i ((i : Int) - kk) ∧ Ext w3 wx) (fun v11 _ => a.length - (intOf v11).toNat)
                  case atStart => exact ⟨1, Nat.le_refl _, by omega, by omega, rfl, by rw [HF1.out]; rfl, Ext.refl _⟩
                  case round =>
                    obtain ⟨l, hl0, hl1, hl2, rfl, hf, hE⟩ := hrel
                    have HF := Lib.hid hf; have HE := Lib.hid hE; clear hf hE
                    have ca := (HK.out _ (HR3.out.pre.1.ext HE.out)).ba.cell 0
                    replace ca : wr.cell? ⟨ga, 0, none⟩ = some (.slice (some ⟨ba, oa, none⟩) a.length c) := ca
                    have cb := (HK.out _ (HR3.out.pre.1.ext HE.out)).bb.cell 0
                    replace cb : wr.cell? ⟨gb, 0, none⟩ = some (.slice (some ⟨bb, ob, none⟩) b.length cd) := cb
                    have e1 : IntKind.i64.wrap ((i : Int) + l) = (i : Int) + l := wrap_in (by omega) (by omega)
                    have e2 : IntKind.i64.wrap ((kk : Int) + l) = (kk : Int) + l := wrap_in (by omega) (by omega)
                    have e3 : ((i : Int) + l).toNat = i + l := by omega
                    have e4 : ((kk : Int) + l).toNat = kk + l := by omega
                    have e5 : 0 ≤ (i : Int) + l := by omega
                    have e6 : 0 ≤ (kk : Int) + l := by omega
                    by_cases hin : i + l < a.length ∧ kk + l < b.length
                    case neg =>
                      have hs : folV a b ((i + l : Nat)) ((i : Int) - kk) = ((i + l : Nat) : Int) := folV_stop (mtB_out (by omega))
                      rw [HF.out] at hs
                      have hs' : runN a b i kk = l := by rw [HRUN.out, hs]; omega
                      have HL := Lib.hid hs'; clear hs hs'
                      have hq : decide ((i : Int) + l < a.length) = false ∨ (decide ((i : Int) + l < a.length) = true ∧ decide ((kk : Int) + l < b.length) = false) := by
                        simp only [decide_eq_true_eq, decide_eq_false_iff_not]; omega
                      clear hin
                      rcases hq with q1 | ⟨q1, q2⟩
                      all_goals
                        go_wp2_with fail
                        go_quiet (fail)
                        rename ∀ a w, Code.wp Tryz.prog ((Code.region 16 _ _).seq _) _ a w → _ => hK3
                        have HK3 := Lib.hid hK3; clear hK3
                        go_wp2_with fail
                        refine HK3.out _ _ ?_
                        clear HK3
                        obtain ⟨w4, hw4⟩ : ∃ w4, w4 = wr.drewN nq := ⟨_, rfl⟩
                        have hE4 : Ext w3 w4 := by rw [hw4]; exact HE.out.drewN _
                        rw [← hw4]
                        have HR4 := Lib.hid (HR3.out.ext HJ.out hE4)
                        have HPL4 := Lib.hid (HPL3.out.lv (Lv.of_ext hE4) (fun _ h => .inl h))
                        have h0l : runN a b i kk ≠ 0 := by have := HL.out; omega
                        have hpx := yall_at HS.out (by rw [HKS.out]; exact HKJ.out) h0l
                        rw [HKS.out, HL.out] at hpx
                        have hR := HY.out (yall a b i ++ yrow a b i (ks.take j)) ⟨(i : Int), (kk : Int), (l : Int)⟩ #[Mt.val ⟨(i : Int), (kk : Int), (l : Int)⟩] S2 w4 HR4.out.j hpx rfl
                        have HYR := Lib.hid hR; have H0L := Lib.hid h0l; have HPX := Lib.hid hpx
                        clear hw4 hE4 hR h0l hpx HR3 HPL3 HE ca cb
                        refine wp_of_In ?_
                        obtain ⟨fn, tmps, assign, body, hy, hRR⟩ := HYR.out
                        simp only [Mt.val] at hy
                        gi_wp2
                        refine ⟨rfl, hRR.mono ?_⟩
                        rintro e W2 ⟨S3, hv2, hs2, hz2, (⟨rfl, hJ2⟩ | ⟨rfl, hJx2⟩)⟩
                        case inr =>
                          clear hy hRR
                          have HX := Lib.hid hJx2; clear hv2 hs2 hz2 hJx2
                          gi_wp2
                          go_wp2_with fail
                          refine bodyPost_ret (results_none rfl _ _ _) rfl ?_
                          exact ⟨⟨_, rfl⟩, .inr ⟨_, _, HPX.out, HX.out⟩⟩
                        case inl =>
                          have HR5 := Lib.hid (HR4.out.step hv2 hs2 hz2 hJ2)
                          have HPL5 := Lib.hid (HPL4.out.lv hv2 hs2)
                          clear hy hRR hv2 hs2 hz2 hJ2 HR4 HPL4
                          gi_wp2
                          go_wp2_with fail
                          try (have hq1 := HI'.out; have hq2 := HKK.out; clear HI' HKK; subst hq1; subst hq2)
                          go_roundw
                          case rel =>
                            refine ⟨j + 1, S3, by omega, by go_num, HPL5.out, ?_⟩
                            rw [take_succ_of HKJ.out, yrow_snoc, if_neg H0L.out, HL.out, ← List.append_assoc]
                            exact HR5.out
                          case measure => simp [intOf]; omega
                    case pos =>
                      obtain ⟨hin1, hin2⟩ := hin
                      obtain ⟨b1, o1, s1, hA1, hb1, hs1, hs2, hc1⟩ := (HK.out _ (HR3.out.pre.1.ext HE.out)).sa.get hin1
                      cases hA1
                      obtain ⟨b2, o2', t1, hB1, hb2, ht1, ht2, hc2⟩ := (HK.out _ (HR3.out.pre.1.ext HE.out)).sb.get hin2
                      cases hB1
                      have hmt : mtB a b ((i + l : Nat)) (((i + l : Nat) : Int) - ((i : Int) - kk)) = decide (s1 = t1) := by rw [show ((i + l : Nat) : Int) - ((i : Int) - kk) = ((kk + l : Nat) : Int) by omega]; exact mtB_at hs1 ht1
                      have HM := Lib.hid hmt; clear hmt hs1 ht1
                      have hc3 := hc1; have hc4 := hc2
                      rw [← Nat.add_assoc] at hc3 hc4
                      have q1 : decide ((i : Int) + l < a.length) = true := yd (by omega)
                      have q2 : decide ((kk : Int) + l < b.length) = true := yd (by omega)
                      have q3 : (i : Int) + l < a.length := by omega
                      have q4 : (kk : Int) + l < b.length := by omega
                      by_cases hst : s1 = t1
                      case pos =>
                        subst hst
                        have hstep := folV_step (a := a) (b := b) (x := ((i + l : Nat) : Int)) (k := (i : Int) - kk) (by rw [HM.out]; simp)
                        have HSTEP := Lib.hid hstep; clear hstep
                        go_wp2_with fail
                        go_quiet (fail)
                        go_wp2_with fail
                        go_roundw
                        case rel =>
                          refine ⟨l + 1, by omega, by omega, by omega, by go_num, ?_, HE.out.drewN _⟩
                          rw [show ((i + (l + 1) : Nat) : Int) = ((i + l : Nat) : Int) + 1 by omega, ← HSTEP.out, HF.out]
                        case measure => simp [intOf]; omega
                      case neg =>
                        have hne := ne_listH hst
                        have hstop := folV_stop (a := a) (b := b) (x := ((i + l : Nat) : Int)) (k := (i : Int) - kk) (by rw [HM.out]; simpa using hst)
                        rw [HF.out] at hstop
                        have hs' : runN a b i kk = l := by rw [HRUN.out, hstop]; omega
                        have HL := Lib.hid hs'; clear hstop hs' hst
                        go_wp2_with fail
                        go_quiet (fail)
                        rename ∀ a w, Code.wp Tryz.prog ((Code.region 16 _ _).seq _) _ a w → _ => hK3
                        have HK3 := Lib.hid hK3; clear hK3
                        go_wp2_with fail
                        refine HK3.out _ _ ?_
                        clear HK3
                        obtain ⟨w4, hw4⟩ : ∃ w4, w4 = wr.drewN nq := ⟨_, rfl⟩
                        have hE4 : Ext w3 w4 := by rw [hw4]; exact HE.out.drewN _
                        rw [← hw4]
                        have HR4 := Lib.hid (HR3.out.ext HJ.out hE4)
                        have HPL4 := Lib.hid (HPL3.out.lv (Lv.of_ext hE4) (fun _ h => .inl h))
                        have h0l : runN a b i kk ≠ 0 := by have := HL.out; omega
                        have hpx := yall_at HS.out (by rw [HKS.out]; exact HKJ.out) h0l
                        rw [HKS.out, HL.out] at hpx
                        have hR := HY.out (yall a b i ++ yrow a b i (ks.take j)) ⟨(i : Int), (kk : Int), (l : Int)⟩ #[Mt.val ⟨(i : Int), (kk : Int), (l : Int)⟩] S2 w4 HR4.out.j hpx rfl
                        have HYR := Lib.hid hR; have H0L := Lib.hid h0l; have HPX := Lib.hid hpx
                        clear hw4 hE4 hR h0l hpx HR3 HPL3 HE ca cb
                        refine wp_of_In ?_
                        obtain ⟨fn, tmps, assign, body, hy, hRR⟩ := HYR.out
                        simp only [Mt.val] at hy
                        gi_wp2
                        refine ⟨rfl, hRR.mono ?_⟩
                        rintro e W2 ⟨S3, hv2, hs2, hz2, (⟨rfl, hJ2⟩ | ⟨rfl, hJx2⟩)⟩
                        case inr =>
                          clear hy hRR
                          have HX := Lib.hid hJx2; clear hv2 hs2 hz2 hJx2
                          gi_wp2
                          go_wp2_with fail
                          refine bodyPost_ret (results_none rfl _ _ _) rfl ?_
                          exact ⟨⟨_, rfl⟩, .inr ⟨_, _, HPX.out, HX.out⟩⟩
                        case inl =>
                          have HR5 := Lib.hid (HR4.out.step hv2 hs2 hz2 hJ2)
                          have HPL5 := Lib.hid (HPL4.out.lv hv2 hs2)
                          clear hy hRR hv2 hs2 hz2 hJ2 HR4 HPL4
                          gi_wp2
                          go_wp2_with fail
                          try (have hq1 := HI'.out; have hq2 := HKK.out; clear HI' HKK; subst hq1; subst hq2)
                          go_roundw
                          case rel =>
                            refine ⟨j + 1, S3, by omega, by go_num, HPL5.out, ?_⟩
                            rw [take_succ_of HKJ.out, yrow_snoc, if_neg H0L.out, HL.out, ← List.append_assoc]
                            exact HR5.out
                          case measure => simp [intOf]; omega
                · have h0' : decide (0 < i) = true := yd hi1
                  have h1' : decide (0 < kk) = false := nd (by omega)
                  clear h0
                  go_wp2_with fail
                  go_quiet (fail)
                  go_wp2_with fail
                  clear h0' h1'
                  clear ca cb CA CB hcx hba hbb hg2
                  obtain ⟨w3, hw3⟩ : ∃ w3, w3 = wr.drewN nq := ⟨_, rfl⟩
                  have hE3 : Ext wr w3 := by rw [hw3]; exact (Ext.refl wr).drewN _
                  have HR3 := Lib.hid (HR.out.ext HJ.out hE3)
                  have HPL3 := Lib.hid (HPL.out.lv (Lv.of_ext hE3) (fun _ h => .inl h))
                  rw [← hw3]; clear hw3 hE3 HR HPL
                  go_loopw [11] (fun v11 wx => ∃ l : Nat, 1 ≤ l ∧ i + l ≤ a.length ∧ kk + l ≤ b.length ∧ v11 = .int .i64 l ∧ folV a b ((i + l : Nat)) ((i : Int) - kk) = folV a b i ((i : Int) - kk) ∧ Ext w3 wx) (fun v11 _ => a.length - (intOf v11).toNat)
                  case atStart => exact ⟨1, Nat.le_refl _, by omega, by omega, rfl, by rw [HF1.out]; rfl, Ext.refl _⟩
                  case round =>
                    obtain ⟨l, hl0, hl1, hl2, rfl, hf, hE⟩ := hrel
                    have HF := Lib.hid hf; have HE := Lib.hid hE; clear hf hE
                    have ca := (HK.out _ (HR3.out.pre.1.ext HE.out)).ba.cell 0
                    replace ca : wr.cell? ⟨ga, 0, none⟩ = some (.slice (some ⟨ba, oa, none⟩) a.length c) := ca
                    have cb := (HK.out _ (HR3.out.pre.1.ext HE.out)).bb.cell 0
                    replace cb : wr.cell? ⟨gb, 0, none⟩ = some (.slice (some ⟨bb, ob, none⟩) b.length cd) := cb
                    have e1 : IntKind.i64.wrap ((i : Int) + l) = (i : Int) + l := wrap_in (by omega) (by omega)
                    have e2 : IntKind.i64.wrap ((kk : Int) + l) = (kk : Int) + l := wrap_in (by omega) (by omega)
                    have e3 : ((i : Int) + l).toNat = i + l := by omega
                    have e4 : ((kk : Int) + l).toNat = kk + l := by omega
                    have e5 : 0 ≤ (i : Int) + l := by omega
                    have e6 : 0 ≤ (kk : Int) + l := by omega
                    by_cases hin : i + l < a.length ∧ kk + l < b.length
                    case neg =>
                      have hs : folV a b ((i + l : Nat)) ((i : Int) - kk) = ((i + l : Nat) : Int) := folV_stop (mtB_out (by omega))
                      rw [HF.out] at hs
                      have hs' : runN a b i kk = l := by rw [HRUN.out, hs]; omega
                      have HL := Lib.hid hs'; clear hs hs'
                      have hq : decide ((i : Int) + l < a.length) = false ∨ (decide ((i : Int) + l < a.length) = true ∧ decide ((kk : Int) + l < b.length) = false) := by
                        simp only [decide_eq_true_eq, decide_eq_false_iff_not]; omega
                      clear hin
                      rcases hq with q1 | ⟨q1, q2⟩
                      all_goals
                        go_wp2_with fail
                        go_quiet (fail)
                        rename ∀ a w, Code.wp Tryz.prog ((Code.region 16 _ _).seq _) _ a w → _ => hK3
                        have HK3 := Lib.hid hK3; clear hK3
                        go_wp2_with fail
                        refine HK3.out _ _ ?_
                        clear HK3
                        obtain ⟨w4, hw4⟩ : ∃ w4, w4 = wr.drewN nq := ⟨_, rfl⟩
                        have hE4 : Ext w3 w4 := by rw [hw4]; exact HE.out.drewN _
                        rw [← hw4]
                        have HR4 := Lib.hid (HR3.out.ext HJ.out hE4)
                        have HPL4 := Lib.hid (HPL3.out.lv (Lv.of_ext hE4) (fun _ h => .inl h))
                        have h0l : runN a b i kk ≠ 0 := by have := HL.out; omega
                        have hpx := yall_at HS.out (by rw [HKS.out]; exact HKJ.out) h0l
                        rw [HKS.out, HL.out] at hpx
                        have hR := HY.out (yall a b i ++ yrow a b i (ks.take j)) ⟨(i : Int), (kk : Int), (l : Int)⟩ #[Mt.val ⟨(i : Int), (kk : Int), (l : Int)⟩] S2 w4 HR4.out.j hpx rfl
                        have HYR := Lib.hid hR; have H0L := Lib.hid h0l; have HPX := Lib.hid hpx
                        clear hw4 hE4 hR h0l hpx HR3 HPL3 HE ca cb
                        refine wp_of_In ?_
                        obtain ⟨fn, tmps, assign, body, hy, hRR⟩ := HYR.out
                        simp only [Mt.val] at hy
                        gi_wp2
                        refine ⟨rfl, hRR.mono ?_⟩
                        rintro e W2 ⟨S3, hv2, hs2, hz2, (⟨rfl, hJ2⟩ | ⟨rfl, hJx2⟩)⟩
                        case inr =>
                          clear hy hRR
                          have HX := Lib.hid hJx2; clear hv2 hs2 hz2 hJx2
                          gi_wp2
                          go_wp2_with fail
                          refine bodyPost_ret (results_none rfl _ _ _) rfl ?_
                          exact ⟨⟨_, rfl⟩, .inr ⟨_, _, HPX.out, HX.out⟩⟩
                        case inl =>
                          have HR5 := Lib.hid (HR4.out.step hv2 hs2 hz2 hJ2)
                          have HPL5 := Lib.hid (HPL4.out.lv hv2 hs2)
                          clear hy hRR hv2 hs2 hz2 hJ2 HR4 HPL4
                          gi_wp2
                          go_wp2_with fail
                          try (have hq1 := HI'.out; have hq2 := HKK.out; clear HI' HKK; subst hq1; subst hq2)
                          go_roundw
                          case rel =>
                            refine ⟨j + 1, S3, by omega, by go_num, HPL5.out, ?_⟩
                            rw [take_succ_of HKJ.out, yrow_snoc, if_neg H0L.out, HL.out, ← List.append_assoc]
                            exact HR5.out
                          case measure => simp [intOf]; omega
                    case pos =>
                      obtain ⟨hin1, hin2⟩ := hin
                      obtain ⟨b1, o1, s1, hA1, hb1, hs1, hs2, hc1⟩ := (HK.out _ (HR3.out.pre.1.ext HE.out)).sa.get hin1
                      cases hA1
                      obtain ⟨b2, o2', t1, hB1, hb2, ht1, ht2, hc2⟩ := (HK.out _ (HR3.out.pre.1.ext HE.out)).sb.get hin2
                      cases hB1
                      have hmt : mtB a b ((i + l : Nat)) (((i + l : Nat) : Int) - ((i : Int) - kk)) = decide (s1 = t1) := by rw [show ((i + l : Nat) : Int) - ((i : Int) - kk) = ((kk + l : Nat) : Int) by omega]; exact mtB_at hs1 ht1
                      have HM := Lib.hid hmt; clear hmt hs1 ht1
                      have hc3 := hc1; have hc4 := hc2
                      rw [← Nat.add_assoc] at hc3 hc4
                      have q1 : decide ((i : Int) + l < a.length) = true := yd (by omega)
                      have q2 : decide ((kk : Int) + l < b.length) = true := yd (by omega)
                      have q3 : (i : Int) + l < a.length := by omega
                      have q4 : (kk : Int) + l < b.length := by omega
                      by_cases hst : s1 = t1
                      case pos =>
                        subst hst
                        have hstep := folV_step (a := a) (b := b) (x := ((i + l : Nat) : Int)) (k := (i : Int) - kk) (by rw [HM.out]; simp)
                        have HSTEP := Lib.hid hstep; clear hstep
                        go_wp2_with fail
                        go_quiet (fail)
                        go_wp2_with fail
                        go_roundw
                        case rel =>
                          refine ⟨l + 1, by omega, by omega, by omega, by go_num, ?_, HE.out.drewN _⟩
                          rw [show ((i + (l + 1) : Nat) : Int) = ((i + l : Nat) : Int) + 1 by omega, ← HSTEP.out, HF.out]
                        case measure => simp [intOf]; omega
                      case neg =>
                        have hne := ne_listH hst
                        have hstop := folV_stop (a := a) (b := b) (x := ((i + l : Nat) : Int)) (k := (i : Int) - kk) (by rw [HM.out]; simpa using hst)
                        rw [HF.out] at hstop
                        have hs' : runN a b i kk = l := by rw [HRUN.out, hstop]; omega
                        have HL := Lib.hid hs'; clear hstop hs' hst
                        go_wp2_with fail
                        go_quiet (fail)
                        rename ∀ a w, Code.wp Tryz.prog ((Code.region 16 _ _).seq _) _ a w → _ => hK3
                        have HK3 := Lib.hid hK3; clear hK3
                        go_wp2_with fail
                        refine HK3.out _ _ ?_
                        clear HK3
                        obtain ⟨w4, hw4⟩ : ∃ w4, w4 = wr.drewN nq := ⟨_, rfl⟩
                        have hE4 : Ext w3 w4 := by rw [hw4]; exact HE.out.drewN _
                        rw [← hw4]
                        have HR4 := Lib.hid (HR3.out.ext HJ.out hE4)
                        have HPL4 := Lib.hid (HPL3.out.lv (Lv.of_ext hE4) (fun _ h => .inl h))
                        have h0l : runN a b i kk ≠ 0 := by have := HL.out; omega
                        have hpx := yall_at HS.out (by rw [HKS.out]; exact HKJ.out) h0l
                        rw [HKS.out, HL.out] at hpx
                        have hR := HY.out (yall a b i ++ yrow a b i (ks.take j)) ⟨(i : Int), (kk : Int), (l : Int)⟩ #[Mt.val ⟨(i : Int), (kk : Int), (l : Int)⟩] S2 w4 HR4.out.j hpx rfl
                        have HYR := Lib.hid hR; have H0L := Lib.hid h0l; have HPX := Lib.hid hpx
                        clear hw4 hE4 hR h0l hpx HR3 HPL3 HE ca cb
                        refine wp_of_In ?_
                        obtain ⟨fn, tmps, assign, body, hy, hRR⟩ := HYR.out
                        simp only [Mt.val] at hy
                        gi_wp2
                        refine ⟨rfl, hRR.mono ?_⟩
                        rintro e W2 ⟨S3, hv2, hs2, hz2, (⟨rfl, hJ2⟩ | ⟨rfl, hJx2⟩)⟩
                        case inr =>
                          clear hy hRR
                          have HX := Lib.hid hJx2; clear hv2 hs2 hz2 hJx2
                          gi_wp2
                          go_wp2_with fail
                          refine bodyPost_ret (results_none rfl _ _ _) rfl ?_
                          exact ⟨⟨_, rfl⟩, .inr ⟨_, _, HPX.out, HX.out⟩⟩
                        case inl =>
                          have HR5 := Lib.hid (HR4.out.step hv2 hs2 hz2 hJ2)
                          have HPL5 := Lib.hid (HPL4.out.lv hv2 hs2)
                          clear hy hRR hv2 hs2 hz2 hJ2 HR4 HPL4
                          gi_wp2
                          go_wp2_with fail
                          try (have hq1 := HI'.out; have hq2 := HKK.out; clear HI' HKK; subst hq1; subst hq2)
                          go_roundw
                          case rel =>
                            refine ⟨j + 1, S3, by omega, by go_num, HPL5.out, ?_⟩
                            rw [take_succ_of HKJ.out, yrow_snoc, if_neg H0L.out, HL.out, ← List.append_assoc]
                            exact HR5.out
                          case measure => simp [intOf]; omega
                · subst hix; subst hky
                  go_wp2_with fail
                  go_quiet (fail)
                  go_wp2_with fail
                  obtain ⟨i, hi'⟩ : ∃ i, i = x + 1 := ⟨_, rfl⟩
                  obtain ⟨kk, hk'⟩ : ∃ k, k = y + 1 := ⟨_, rfl⟩
                  rw [← hi'] at hi hil HR HS HRUN HF1; rw [← hk'] at hkl HKJ HKB HRUN HF1
                  clear hc1 hc2 hst
                  have e01 : (x : Int) + 1 = i := by omega
                  have e02 : (y : Int) + 1 = kk := by omega
                  try rw [← hi']
                  try rw [← hk']
                  try rw [e01]
                  try rw [e02]
                  have HI' := Lib.hid hi'; have HKK := Lib.hid hk'
                  clear e01 e02 hi' hk'
                  clear ca cb CA CB hcx hba hbb hg2
                  obtain ⟨w3, hw3⟩ : ∃ w3, w3 = wr.drewN nq := ⟨_, rfl⟩
                  have hE3 : Ext wr w3 := by rw [hw3]; exact (Ext.refl wr).drewN _
                  have HR3 := Lib.hid (HR.out.ext HJ.out hE3)
                  have HPL3 := Lib.hid (HPL.out.lv (Lv.of_ext hE3) (fun _ h => .inl h))
                  rw [← hw3]; clear hw3 hE3 HR HPL
                  go_loopw [11] (fun v11 wx => ∃ l : Nat, 1 ≤ l ∧ i + l ≤ a.length ∧ kk + l ≤ b.length ∧ v11 = .int .i64 l ∧ folV a b ((i + l : Nat)) ((i : Int) - kk) = folV a b i ((i : Int) - kk) ∧ Ext w3 wx) (fun v11 _ => a.length - (intOf v11).toNat)
                  case atStart => exact ⟨1, Nat.le_refl _, by omega, by omega, rfl, by rw [HF1.out]; rfl, Ext.refl _⟩
                  case round =>
                    obtain ⟨l, hl0, hl1, hl2, rfl, hf, hE⟩ := hrel
                    have HF := Lib.hid hf; have HE := Lib.hid hE; clear hf hE
                    have ca := (HK.out _ (HR3.out.pre.1.ext HE.out)).ba.cell 0
                    replace ca : wr.cell? ⟨ga, 0, none⟩ = some (.slice (some ⟨ba, oa, none⟩) a.length c) := ca
                    have cb := (HK.out _ (HR3.out.pre.1.ext HE.out)).bb.cell 0
                    replace cb : wr.cell? ⟨gb, 0, none⟩ = some (.slice (some ⟨bb, ob, none⟩) b.length cd) := cb
                    have e1 : IntKind.i64.wrap ((i : Int) + l) = (i : Int) + l := wrap_in (by omega) (by omega)
                    have e2 : IntKind.i64.wrap ((kk : Int) + l) = (kk : Int) + l := wrap_in (by omega) (by omega)
                    have e3 : ((i : Int) + l).toNat = i + l := by omega
                    have e4 : ((kk : Int) + l).toNat = kk + l := by omega
                    have e5 : 0 ≤ (i : Int) + l := by omega
                    have e6 : 0 ≤ (kk : Int) + l := by omega
                    by_cases hin : i + l < a.length ∧ kk + l < b.length
                    case neg =>
                      have hs : folV a b ((i + l : Nat)) ((i : Int) - kk) = ((i + l : Nat) : Int) := folV_stop (mtB_out (by omega))
                      rw [HF.out] at hs
                      have hs' : runN a b i kk = l := by rw [HRUN.out, hs]; omega
                      have HL := Lib.hid hs'; clear hs hs'
                      have hq : decide ((i : Int) + l < a.length) = false ∨ (decide ((i : Int) + l < a.length) = true ∧ decide ((kk : Int) + l < b.length) = false) := by
                        simp only [decide_eq_true_eq, decide_eq_false_iff_not]; omega
                      clear hin
                      rcases hq with q1 | ⟨q1, q2⟩
                      all_goals
                        go_wp2_with fail
                        go_quiet (fail)
                        rename ∀ a w, Code.wp Tryz.prog ((Code.region 16 _ _).seq _) _ a w → _ => hK3
                        have HK3 := Lib.hid hK3; clear hK3
                        go_wp2_with fail
                        refine HK3.out _ _ ?_
                        clear HK3
                        obtain ⟨w4, hw4⟩ : ∃ w4, w4 = wr.drewN nq := ⟨_, rfl⟩
                        have hE4 : Ext w3 w4 := by rw [hw4]; exact HE.out.drewN _
                        rw [← hw4]
                        have HR4 := Lib.hid (HR3.out.ext HJ.out hE4)
                        have HPL4 := Lib.hid (HPL3.out.lv (Lv.of_ext hE4) (fun _ h => .inl h))
                        have h0l : runN a b i kk ≠ 0 := by have := HL.out; omega
                        have hpx := yall_at HS.out (by rw [HKS.out]; exact HKJ.out) h0l
                        rw [HKS.out, HL.out] at hpx
                        have hR := HY.out (yall a b i ++ yrow a b i (ks.take j)) ⟨(i : Int), (kk : Int), (l : Int)⟩ #[Mt.val ⟨(i : Int), (kk : Int), (l : Int)⟩] S2 w4 HR4.out.j hpx rfl
                        have HYR := Lib.hid hR; have H0L := Lib.hid h0l; have HPX := Lib.hid hpx
                        clear hw4 hE4 hR h0l hpx HR3 HPL3 HE ca cb
                        refine wp_of_In ?_
                        obtain ⟨fn, tmps, assign, body, hy, hRR⟩ := HYR.out
                        simp only [Mt.val] at hy
                        gi_wp2
                        refine ⟨rfl, hRR.mono ?_⟩
                        rintro e W2 ⟨S3, hv2, hs2, hz2, (⟨rfl, hJ2⟩ | ⟨rfl, hJx2⟩)⟩
                        case inr =>
                          clear hy hRR
                          have HX := Lib.hid hJx2; clear hv2 hs2 hz2 hJx2
                          gi_wp2
                          go_wp2_with fail
                          refine bodyPost_ret (results_none rfl _ _ _) rfl ?_
                          exact ⟨⟨_, rfl⟩, .inr ⟨_, _, HPX.out, HX.out⟩⟩
                        case inl =>
                          have HR5 := Lib.hid (HR4.out.step hv2 hs2 hz2 hJ2)
                          have HPL5 := Lib.hid (HPL4.out.lv hv2 hs2)
                          clear hy hRR hv2 hs2 hz2 hJ2 HR4 HPL4
                          gi_wp2
                          go_wp2_with fail
                          try (have hq1 := HI'.out; have hq2 := HKK.out; clear HI' HKK; subst hq1; subst hq2)
                          go_roundw
                          case rel =>
                            refine ⟨j + 1, S3, by omega, by go_num, HPL5.out, ?_⟩
                            rw [take_succ_of HKJ.out, yrow_snoc, if_neg H0L.out, HL.out, ← List.append_assoc]
                            exact HR5.out
                          case measure => simp [intOf]; omega
                    case pos =>
                      obtain ⟨hin1, hin2⟩ := hin
                      obtain ⟨b1, o1, s1, hA1, hb1, hs1, hs2, hc1⟩ := (HK.out _ (HR3.out.pre.1.ext HE.out)).sa.get hin1
                      cases hA1
                      obtain ⟨b2, o2', t1, hB1, hb2, ht1, ht2, hc2⟩ := (HK.out _ (HR3.out.pre.1.ext HE.out)).sb.get hin2
                      cases hB1
                      have hmt : mtB a b ((i + l : Nat)) (((i + l : Nat) : Int) - ((i : Int) - kk)) = decide (s1 = t1) := by rw [show ((i + l : Nat) : Int) - ((i : Int) - kk) = ((kk + l : Nat) : Int) by omega]; exact mtB_at hs1 ht1
                      have HM := Lib.hid hmt; clear hmt hs1 ht1
                      have hc3 := hc1; have hc4 := hc2
                      rw [← Nat.add_assoc] at hc3 hc4
                      have q1 : decide ((i : Int) + l < a.length) = true := yd (by omega)
                      have q2 : decide ((kk : Int) + l < b.length) = true := yd (by omega)
                      have q3 : (i : Int) + l < a.length := by omega
                      have q4 : (kk : Int) + l < b.length := by omega
                      by_cases hst : s1 = t1
                      case pos =>
                        subst hst
                        have hstep := folV_step (a := a) (b := b) (x := ((i + l : Nat) : Int)) (k := (i : Int) - kk) (by rw [HM.out]; simp)
                        have HSTEP := Lib.hid hstep; clear hstep
                        go_wp2_with fail
                        go_quiet (fail)
                        go_wp2_with fail
                        go_roundw
                        case rel =>
                          refine ⟨l + 1, by omega, by omega, by omega, by go_num, ?_, HE.out.drewN _⟩
                          rw [show ((i + (l + 1) : Nat) : Int) = ((i + l : Nat) : Int) + 1 by omega, ← HSTEP.out, HF.out]
                        case measure => simp [intOf]; omega
                      case neg =>
                        have hne := ne_listH hst
                        have hstop := folV_stop (a := a) (b := b) (x := ((i + l : Nat) : Int)) (k := (i : Int) - kk) (by rw [HM.out]; simpa using hst)
                        rw [HF.out] at hstop
                        have hs' : runN a b i kk = l := by rw [HRUN.out, hstop]; omega
                        have HL := Lib.hid hs'; clear hstop hs' hst
                        go_wp2_with fail
                        go_quiet (fail)
                        rename ∀ a w, Code.wp Tryz.prog ((Code.region 16 _ _).seq _) _ a w → _ => hK3
                        have HK3 := Lib.hid hK3; clear hK3
                        go_wp2_with fail
                        refine HK3.out _ _ ?_
                        clear HK3
                        obtain ⟨w4, hw4⟩ : ∃ w4, w4 = wr.drewN nq := ⟨_, rfl⟩
                        have hE4 : Ext w3 w4 := by rw [hw4]; exact HE.out.drewN _
                        rw [← hw4]
                        have HR4 := Lib.hid (HR3.out.ext HJ.out hE4)
                        have HPL4 := Lib.hid (HPL3.out.lv (Lv.of_ext hE4) (fun _ h => .inl h))
                        have h0l : runN a b i kk ≠ 0 := by have := HL.out; omega
                        have hpx := yall_at HS.out (by rw [HKS.out]; exact HKJ.out) h0l
                        rw [HKS.out, HL.out] at hpx
                        have hR := HY.out (yall a b i ++ yrow a b i (ks.take j)) ⟨(i : Int), (kk : Int), (l : Int)⟩ #[Mt.val ⟨(i : Int), (kk : Int), (l : Int)⟩] S2 w4 HR4.out.j hpx rfl
                        have HYR := Lib.hid hR; have H0L := Lib.hid h0l; have HPX := Lib.hid hpx
                        clear hw4 hE4 hR h0l hpx HR3 HPL3 HE ca cb
                        refine wp_of_In ?_
                        obtain ⟨fn, tmps, assign, body, hy, hRR⟩ := HYR.out
                        simp only [Mt.val] at hy
                        gi_wp2
                        refine ⟨rfl, hRR.mono ?_⟩
                        rintro e W2 ⟨S3, hv2, hs2, hz2, (⟨rfl, hJ2⟩ | ⟨rfl, hJx2⟩)⟩
                        case inr =>
                          clear hy hRR
                          have HX := Lib.hid hJx2; clear hv2 hs2 hz2 hJx2
                          gi_wp2
                          go_wp2_with fail
                          refine bodyPost_ret (results_none rfl _ _ _) rfl ?_
                          exact ⟨⟨_, rfl⟩, .inr ⟨_, _, HPX.out, HX.out⟩⟩
                        case inl =>
                          have HR5 := Lib.hid (HR4.out.step hv2 hs2 hz2 hJ2)
                          have HPL5 := Lib.hid (HPL4.out.lv hv2 hs2)
                          clear hy hRR hv2 hs2 hz2 hJ2 HR4 HPL4
                          gi_wp2
                          go_wp2_with fail
                          try (have hq1 := HI'.out; have hq2 := HKK.out; clear HI' HKK; subst hq1; subst hq2)
                          go_roundw
                          case rel =>
                            refine ⟨j + 1, S3, by omega, by go_num, HPL5.out, ?_⟩
                            rw [take_succ_of HKJ.out, yrow_snoc, if_neg H0L.out, HL.out, ← List.append_assoc]
                            exact HR5.out
                          case measure => simp [intOf]; omega
end Go.Proofs.YtmmcjcaccicheaaGreatDoor

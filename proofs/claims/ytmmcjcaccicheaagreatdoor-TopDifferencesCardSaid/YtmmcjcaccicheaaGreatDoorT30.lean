/- UdHks: parts of the proof of TopDifferences, one text behind the other. No condition. -/
import Derived.Test.YtmmcjcaccicheaaGreatDoorT25
import Derived.Test.YtmmcjcaccicheaaGreatDoorT28
import Derived.Test.YtmmcjcaccicheaaGreatDoorT29
/- The contract of unified's Hunks. -/
namespace Go.Proofs.YtmmcjcaccicheaaGreatDoor
open Go.RowKit

theorem infoHk : (Tryz.prog.info? 69).map (fun i => (i.zero, i.size, i.bytes)) = some (some (.agg #[.int .i64 0, .slice none 0 0, .slice none 0 0]), 3, 56) := by kernel_rfl
theorem underHk : Tryz.prog.underlying 32 = some (.slice 69) := by kernel_rfl
theorem hls_app (a b : List Hp) : hls (a ++ b) = hls a ++ hls b := by simp [hls]
theorem hls_old (os : List Hp) (h : Hp) : (hls (os ++ [h]))[2 * os.length + 0]? = some h.old := by
  rw [hls_app, List.getElem?_append_right (by rw [hls_len]; omega), hls_len, show 2 * os.length + 0 - 2 * os.length = 0 by omega]; rfl
theorem hls_new (os : List Hp) (h : Hp) : (hls (os ++ [h]))[2 * os.length + 1]? = some h.new := by
  rw [hls_app, List.getElem?_append_right (by rw [hls_len]; omega), hls_len, show 2 * os.length + 1 - 2 * os.length = 1 by omega]; rfl
theorem hls_setO (os : List Hp) (h : Hp) (l : Lns) : (hls (os ++ [h])).set (2 * os.length + 0) l = hls (os ++ [{ h with old := l }]) := by
  rw [hls_app, hls_app, List.set_append_right _ _ (by rw [hls_len]; omega), hls_len, show 2 * os.length + 0 - 2 * os.length = 0 by omega]; rfl
theorem hls_setN (os : List Hp) (h : Hp) (l : Lns) : (hls (os ++ [h])).set (2 * os.length + 1) l = hls (os ++ [{ h with new := l }]) := by
  rw [hls_app, hls_app, List.set_append_right _ _ (by rw [hls_len]; omega), hls_len, show 2 * os.length + 1 - 2 * os.length = 1 by omega]; rfl
/-- How many hunks and lines there are at most. -/
def HB (N : Nat) (out : List Hp) : Prop := out.length ≤ N ∧ ∀ h ∈ out, h.old.length ≤ N ∧ h.new.length ≤ N
theorem HB.mono {N M : Nat} {out : List Hp} (h : HB N out) (hm : N ≤ M) : HB M out := ⟨Nat.le_trans h.1 hm, fun x hx => ⟨Nat.le_trans (h.2 x hx).1 hm, Nat.le_trans (h.2 x hx).2 hm⟩⟩
theorem HB.opened {N : Nat} {st : HSt} (h : HB N st.out) : HB (N + 1) st.opened := by
  unfold HSt.opened
  split
  · exact h.mono (by omega)
  · refine ⟨by have := h.1; simp; exact this, fun x hx => ?_⟩
    rcases List.mem_append.1 hx with hx | hx
    · have := h.2 x hx; omega
    · obtain rfl := List.mem_singleton.1 hx
      simp
theorem HB.old {N : Nat} {os : List Hp} {h : Hp} (k : HB N (os ++ [h])) (hl : h.old.length + 1 ≤ N) (s : ByteArray) : HB N (os ++ [{ h with old := h.old ++ [s] }]) := by
  refine ⟨by have := k.1; simpa using this, fun x hx => ?_⟩
  rcases List.mem_append.1 hx with hx | hx
  · exact k.2 x (by simp [hx])
  · obtain rfl := List.mem_singleton.1 hx
    exact ⟨by simpa using hl, (k.2 h (by simp)).2⟩
theorem HB.new {N : Nat} {os : List Hp} {h : Hp} (k : HB N (os ++ [h])) (hl : h.new.length + 1 ≤ N) (s : ByteArray) : HB N (os ++ [{ h with new := h.new ++ [s] }]) := by
  refine ⟨by have := k.1; simpa using this, fun x hx => ?_⟩
  rcases List.mem_append.1 hx with hx | hx
  · exact k.2 x (by simp [hx])
  · obtain rfl := List.mem_singleton.1 hx
    exact ⟨(k.2 h (by simp)).1, by simpa using hl⟩
/-- What holds between two lines. -/
def HI (w : World) (N : Nat) (st : HSt) (v : Value) (W : World) : Prop := ∃ va, HMem w.heap.size v va va st.out (hls st.out) W ∧ Ext w W ∧ HB N st.out
theorem opened_ne (st : HSt) (h : st.op = true → st.out ≠ []) : ∃ os x, st.opened = os ++ [x] := by
  cases ho : st.op with
  | true =>
    obtain ⟨r, z, e⟩ := snoc_of (h ho)
    exact ⟨r, z, by unfold HSt.opened; rw [if_pos ho, e]⟩
  | false => exact ⟨st.out, ⟨st.at_, [], []⟩, by unfold HSt.opened; rw [if_neg (by simp [ho])]⟩
theorem op_ne (x : Ln) (st : HSt) (h : st.op = true → st.out ≠ []) : (hLine st x).op = true → (hLine st x).out ≠ [] := by
  obtain ⟨os, z, e⟩ := opened_ne st h
  obtain ⟨t, s⟩ := x
  cases t
  · intro h; cases h
  · intro _; simp only [hLine, e, addOld_snoc]; simp
  · intro _; simp only [hLine, e, addNew_snoc]; simp
set_option maxRecDepth 100000 in
set_option maxHeartbeats 16000000 in
theorem hunks_any (A : Option Addr) (n c : Nat) (xs : List Bk) (w : World) (hxs : Bks w A n xs) (hn : n ≤ 10000) (hnc : n ≤ c) (hc0 : c ≤ maxLen) (hok : okKs 0 (-1) xs) (hf : ∀ x ∈ xs, BFit x) (hN : (toks xs).length ≤ 10000) :
    Calls Tryz.prog 32 #[.slice A n c] w fun r w' => Ext w w' ∧ ∃ v va, r = .returned (.tuple #[v, .int .i64 0]) ∧ HMem w.heap.size v va va (hunksV xs) (hls (hunksV xs)) w' ∧ HB 10000 (hunksV xs) := by
  have hchk := chk_any A n c xs w hxs (by omega) hnc hc0 hok (fun x hx => by have := (hf x hx).len; omega)
  have hlen := hxs.len
  obtain ⟨hnf, i1, i2, i3, i4⟩ := info_of infoHk
  obtain ⟨snf, j1, j2, j3, j4⟩ := info_of infoS
  have I1 := Lib.hid i1; have I2 := Lib.hid i2; have I3 := Lib.hid i3; have I4 := Lib.hid i4; have J1 := Lib.hid j1; have J2 := Lib.hid j2; have J3 := Lib.hid j3; have J4 := Lib.hid j4
  have HX := Lib.hid hxs; have HF := Lib.hid hf; have HN := Lib.hid hlen; have HT := Lib.hid hN; clear hxs hf hlen hok i1 i2 i3 i4 j1 j2 j3 j4
  go_enter Tryz.func32, Tryz.ntmps32
  go_wp2_with fail
  refine hchk.mono ?_
  rintro e w1 ⟨rfl, hE1⟩
  have HE1 := Lib.hid hE1; clear hE1 hchk
  go_wp2_with fail
  go_loopw [6, 24] (fun v i wr => ∃ k : Nat, k ≤ n ∧ i = .int .i64 k ∧ HI w (toks (xs.take k)).length ⟨(xs.take k).foldl hBlk [], 0, false⟩ v wr) (fun _ i _ => n - (intOf i).toNat)
  case atStart => exact ⟨0, Nat.zero_le _, rfl, [], HMem.nil _ _, HE1.out, by simp [HB]⟩
  case round =>
    obtain ⟨k, hk, rfl, va, hM, hE, hB⟩ := hrel
    have HM := Lib.hid hM; have HE := Lib.hid hE; have HBB := Lib.hid hB; clear hM hE hB
    by_cases hlt : k < n
    · obtain ⟨b, off, m, x, rfl, hb1, hx, hr, c0, c1, c2, c3, c4⟩ := HX.out.get hlt
      have hEw := HE.out
      replace c0 := hEw.cell c0; replace c1 := hEw.cell c1; replace c2 := hEw.cell c2; replace c3 := hEw.cell c3; replace c4 := hEw.cell c4
      clear hEw
      obtain ⟨moa, mol, mna, mnl, mla, mln, mlc⟩ := m
      dsimp only at c0 c1 c2 c3 c4
      have hfx := HF.out x (mem_of_get hx)
      have hsm := hfx.sm
      have hoa0 : moa = (x.oa : Int) := hr.oa
      subst hoa0
      have hoa : x.oa < 90 := hsm.oa
      have hlsn : mln = x.ls.length := by have := hr.ls.1; simp at this; exact this.symm
      have hml : mln ≤ 10000 := by rw [hlsn]; exact hfx.len
      have htk : xs.take (k + 1) = xs.take k ++ [x] := take_succ_of hx
      have htl : (toks (xs.take (k + 1))).length = (toks (xs.take k)).length + 1 + x.ls.length := by rw [htk, toks_app]; simp [toks]; omega
      have htn : (toks (xs.take (k + 1))).length ≤ 10000 := by
        have h1 : (toks xs).length = (toks (xs.take (k + 1))).length + (toks (xs.drop (k + 1))).length := by rw [← List.length_append, ← toks_app, List.take_append_drop]
        have := HT.out; omega
      have HR := Lib.hid hr; have HFX := Lib.hid hfx; have HLSN := Lib.hid hlsn; have HTK := Lib.hid htk; have HTL := Lib.hid htl
      have E1 := Lib.hid (HE.out.alloc (BkM.obj ⟨x.oa, mol, mna, mnl, mla, mln, mlc⟩))
      have M1 := Lib.hid (HM.out.ext ((Ext.refl wr).alloc (BkM.obj ⟨x.oa, mol, mna, mnl, mla, mln, mlc⟩)))
      obtain ⟨P, hP⟩ : ∃ P, (toks (xs.take k)).length = P := ⟨_, rfl⟩
      rw [hP] at HBB htl HTL
      have hPx : P + 1 + x.ls.length ≤ 10000 := by omega
      rw [← hlsn] at hPx
      clear hx hr hfx hsm hlsn htk htl htn HM HE hP
      go_wp2_with fail
      clear c0 c1 c2 c3 c4
      go_loopw [6, 9, 10, 33] (fun v a o i wq => ∃ (j : Nat) (st : HSt), j ≤ mln ∧ i = .int .i64 j ∧ a = .int .i64 st.at_ ∧ o = .bool st.op ∧ st = (x.ls.take j).foldl hLine ⟨(xs.take k).foldl hBlk [], x.oa, false⟩ ∧ st.at_ ≤ x.oa + j ∧ (st.op = true → st.out ≠ []) ∧ HI w (P + j) st v wq) (fun _ _ _ i _ => mln - (intOf i).toNat)
      case atStart => exact ⟨0, _, Nat.zero_le _, rfl, rfl, rfl, rfl, by simp, fun h => (by cases h), va, M1.out, E1.out, HBB.out⟩
      case round =>
        obtain ⟨j, st, hj, rfl, rfl, rfl, hst, hat, hop, va2, hM2, hE2, hB2⟩ := hrel
        have HST := Lib.hid hst; have HOP := Lib.hid hop; have HM2 := Lib.hid hM2; have HE2 := Lib.hid hE2; have HB2 := Lib.hid hB2; clear hst hop hM2 hE2 hB2
        by_cases hltj : j < mln
        · obtain ⟨b', off', s, rfl, hb1', hs1, hs2, hc1⟩ := (HR.out.ls.ext HE2.out).get hltj
          obtain ⟨y, hy⟩ : ∃ y, x.ls[j]? = some y := ⟨_, List.getElem?_eq_getElem (by rw [← HLSN.out]; exact hltj)⟩
          have hs : lnS y = s := by rw [List.getElem?_map, hy] at hs1; simpa using hs1
          have hsz : 0 < s.size := by rw [← hs, lnS_size]; omega
          have hb0 : s[0] = sgn y.t := by subst hs; exact ln_byte y _
          have hbc : ((s[0].toNat : Int) == 32) = decide (y.t = .ctx) := by rw [hb0]; exact sgn_eq y.t .ctx
          have hbd : ((s[0].toNat : Int) == 45) = decide (y.t = .del) := by rw [hb0]; exact sgn_eq y.t .del
          have htl : s.extract 1 s.size = y.s := by rw [← hs]; exact ln_tail y
          have hstp : (x.ls.take (j + 1)).foldl hLine ⟨(xs.take k).foldl hBlk [], x.oa, false⟩ = hLine st y := by rw [take_succ_of hy, List.foldl_append, ← HST.out]; rfl
          have hopn := op_ne y st HOP.out
          obtain ⟨os, h, hos⟩ := opened_ne st HOP.out
          have hbo := HB2.out.opened
          rw [hos] at hbo
          obtain ⟨t, ys⟩ := y
          dsimp only at hbc hbd htl
          have HTLS := Lib.hid htl; have HSTP := Lib.hid hstp; have HOPN := Lib.hid hopn; have HOS := Lib.hid hos; have HBO := Lib.hid hbo
          unfold Reach at hs2
          clear hy hs1 hs hb0 htl hstp hopn hos hbo
          obtain ⟨sout, sat, sop⟩ := st
          dsimp only at hat
          cases t with
          | ctx =>
            replace hbc : ((s[0].toNat : Int) == 32) = true := hbc
            clear hbd
            go_wp2_with fail
            go_roundw
            case rel => exact ⟨j + 1, _, by omega, by go_num, by go_num, rfl, HSTP.out.symm, by simp only [hLine]; omega, HOPN.out, va2, HM2.out, HE2.out, HB2.out.mono (by omega)⟩
            case measure => simp [intOf]; omega
          | del =>
            replace hbc : ((s[0].toNat : Int) == 32) = false := hbc
            replace hbd : ((s[0].toNat : Int) == 45) = true := hbd
            cases sop with
            | true =>
              have ho1 : (HSt.mk sout sat true).opened = sout := rfl
              have hos2 := HOS.out
              rw [ho1] at hos2
              subst hos2
              have hoO := HM2.out.own
              simp only [List.length_append, List.length_singleton] at hoO
              obtain ⟨g, cap, hv⟩ := ownsRow_succ hoO
              subst hv
              have hix : (((os.length + 1 : Nat) : Int) - 1) = os.length := by omega
              have hol0 : os.length + 1 ≤ 20000 := by have := HBO.out.1; simp at this; omega
              obtain ⟨va3, hva3⟩ : ∃ va3, va3 = va2 := ⟨_, rfl⟩
              subst hva3
              have HM3 := Lib.hid HM2.out; have HE3 := Lib.hid HE2.out
              have hlo : h.old.length ≤ P + j ∧ h.new.length ≤ P + j := HB2.out.2 h (by simp)
              clear hoO ho1
              go_wp2_with fail
              clear hbc hbd hc1
              have hul3 := HM3.out.lva
              obtain ⟨u, hu⟩ : ∃ u, va3[2 * os.length + 0]? = some u := ⟨_, List.getElem?_eq_getElem (by rw [hul3, List.length_append, List.length_singleton]; omega)⟩
              have hrow3 := HM3.out.rows.own _ u h.old hu (hls_old os h)
              have hcellT : ∀ (wx : World) (vr : List Value) (ll : List Lns), HMem w.heap.size (.slice (some ⟨g, 0, none⟩) (os.length + 1) cap) va3 vr (os ++ [h]) ll wx → wx.cell? ⟨g, os.length * 3 + 1 + 0, none⟩ = some u := fun wx vr ll hh => (hh.cell (by simp) (by omega) (by omega) hu).1
              have hfreeT : ∀ (wx : World) (vr : List Value) (ll : List Lns), HMem w.heap.size (.slice (some ⟨g, 0, none⟩) (os.length + 1) cap) va3 vr (os ++ [h]) ll wx → wx.frozen? ⟨g, os.length * 3 + 1 + 0, none⟩ = false := fun wx vr ll hh => (hh.cell (by simp) (by omega) (by omega) hu).2
              have hol : os.length + 1 ≤ P + j + 1 := by have := HBO.out.1; simpa using this
              have hhl : h.old.length ≤ P + j + 1 := (HBO.out.2 h (by simp)).1
              have HU := Lib.hid hu; have HCT := Lib.hid hcellT; have HFT := Lib.hid hfreeT
              clear hu hul3 hrow3 hcellT hfreeT
              have hsz1 : (1 : Int) ≤ s.size := by omega
              go_wp2_with fail
              have hcellT := HCT.out; have hfreeT := HFT.out
              refine wp_region_Y 11 (fun wx => wx.cell? ⟨g, os.length * 3 + 1 + 0, none⟩ = some u) (fun wx => HMem w.heap.size (.slice (some ⟨g, 0, none⟩) (os.length + 1) cap) va3 va3 (os ++ [h]) (hls (os ++ [h])) wx ∧ Ext w wx) (by kernel_rfl) ⟨HM3.out.ext (Ext.refl _).drew, HE3.out.trans (Ext.refl _).drew⟩ (wpY_takes (by kernel_rfl) (fun _ d _ _ _ h => by cases d <;> exact h) (fun _ _ e h => ⟨h.1.ext e, h.2.trans e⟩) (fun wx h => hcellT wx _ _ h.1) (fuel := 5) [0, 1, 2, 3, 4, 5, 6] _ _ (Waited.start _) (by kernel_rfl) (by kernel_rfl) (by kernel_rfl) ?_)
              iterate 7
                refine wpTk_want rfl (Eq.refl true) ?_
                apply Exists.intro
                refine ⟨fun wx hx => ?_, ?_⟩
                · have d1 : wx.cell? ⟨g, os.length * 3 + 1, none⟩ = some u := hx
                  clear hx
                  go_simp
                  with_reducible exact gives_ok _ _ _
                simp only [Act.put, List.setIfInBounds_toArray, List.set_cons_zero, List.set_cons_succ]
              refine wpTk_nil ?_
              refine wpY_one 7 (by kernel_rfl) rfl rfl (fun wz hz K hK => ?_)
              obtain ⟨z7, hz7⟩ : ∃ z, wz.heap.size = z := ⟨_, rfl⟩
              have nb7 := Blk.new wz (.cells #[.string (s.extract 1 s.size)] 9) hz7.symm
              have ne := (Ext.refl wz).alloc (.cells #[.string (s.extract 1 s.size)] 9)
              have kA := (⟨hz.1.ext ne, hz.2.trans ne, nb7⟩ : _ ∧ _ ∧ _)
              clear hz
              go_simp
              refine hK _ _ ⟨(fun wx => HMem w.heap.size (.slice (some ⟨g, 0, none⟩) (os.length + 1) cap) va3 va3 (os ++ [h]) (hls (os ++ [h])) wx ∧ Ext w wx ∧ Blk wx z7 (.cells #[.string (s.extract 1 s.size)] 9)), (fun _ _ e h => ⟨h.1.ext e, h.2.1.trans e, h.2.2.ext e⟩), .inr fun wx h => hcellT wx _ _ h.1, kA, ?_⟩
              clear nb7 ne kA hK K hz7 wz
              refine wpY_one 8 (by kernel_rfl) rfl rfl (fun wz hz K hK => ?_)
              have hrow := hz.1.rows.own _ u h.old HU.out (hls_old os h)
              refine wp_append (.tmp 61) (.tmp 64) 22 rfl w.heap.size 9 snf _ 1 16 underSs J1.out J2.out J3.out J4.out rfl (by decide) u h.old.length (h.old.map Value.string) (some ⟨z7, 0, none⟩) 1 1 [.string (s.extract 1 s.size)] rfl rfl rfl (by intro u hu; simp at hu; subst hu; rfl) (by simp only [maxLen]; omega) (by omega) hrow (.inr ⟨z7, 0, rfl, fun j u hu => by rw [hz.2.2.cell]; simpa using hu⟩) hz.2.1.size (fun v1 wy hown hgr hbl => ?_)
              obtain ⟨q3, k3, rfl⟩ := ownsRow_succ hown
              have hown' : wy.ownsRow w.heap.size 9 1 (.slice (some ⟨q3, 0, none⟩) (h.old.length + 1) k3) (h.old ++ [s.extract 1 s.size]).length ((h.old ++ [s.extract 1 s.size]).map Value.string) := by
                simp only [List.map_append, List.length_append, List.length_cons, List.length_nil, List.map_cons, List.map_nil, Nat.zero_add]
                exact hown
              have kM := hz.1.addL HU.out (hls_old os h) hgr hown' hbl
              have kE := hz.1.row_ext hz.2.1 HU.out (hls_old os h) hgr
              simp only [Act.put, List.setIfInBounds_toArray, List.set_cons_zero, List.set_cons_succ]
              refine hK _ _ ⟨(fun wx => HMem w.heap.size (.slice (some ⟨g, 0, none⟩) (os.length + 1) cap) va3 (va3.set (2 * os.length + 0) (.slice (some ⟨q3, 0, none⟩) (h.old.length + 1) k3)) (os ++ [h]) ((hls (os ++ [h])).set (2 * os.length + 0) (h.old ++ [s.extract 1 s.size])) wx ∧ Ext w wx), (fun _ _ e h => ⟨h.1.ext e, h.2.trans e⟩), .inr fun wx h => hcellT wx _ _ h.1, ⟨kM, kE⟩, ?_⟩
              clear kM kE hown hown' hgr hbl hrow hK K hz wz wy
              refine wpY_one 9 (by kernel_rfl) rfl rfl (fun wz hz K hK => ?_)
              have hz' := Lib.hid hz
              clear hz
              go_simp
              refine hK _ _ ⟨(fun wx => HMem w.heap.size (.slice (some ⟨g, 0, none⟩) (os.length + 1) cap) va3 (va3.set (2 * os.length + 0) (.slice (some ⟨q3, 0, none⟩) (h.old.length + 1) k3)) (os ++ [h]) ((hls (os ++ [h])).set (2 * os.length + 0) (h.old ++ [s.extract 1 s.size])) wx ∧ Ext w wx), (fun _ _ e h => ⟨h.1.ext e, h.2.trans e⟩), .inr fun wx h => hcellT wx _ _ h.1, hz'.out, ?_⟩
              clear hK K hz' wz
              refine wpY_one 10 (by kernel_rfl) rfl rfl (fun wz hz K hK => ?_)
              have hz' := Lib.hid hz
              clear hz
              go_simp
              refine hK _ _ ⟨(fun wx => HMem w.heap.size (.slice (some ⟨g, 0, none⟩) (os.length + 1) cap) va3 (va3.set (2 * os.length + 0) (.slice (some ⟨q3, 0, none⟩) (h.old.length + 1) k3)) (os ++ [h]) ((hls (os ++ [h])).set (2 * os.length + 0) (h.old ++ [s.extract 1 s.size])) wx ∧ Ext w wx), (fun _ _ e h => ⟨h.1.ext e, h.2.trans e⟩), .inr fun wx h => hcellT wx _ _ h.1, hz'.out, ?_⟩
              clear hK K hz' wz
              refine wpY_one 11 (by kernel_rfl) rfl rfl (fun wz hz K hK => ?_)
              have d1 : wz.cell? ⟨g, os.length * 3 + 1, none⟩ = some u := hcellT wz _ _ hz.1
              have f1 : wz.frozen? ⟨g, os.length * 3 + 1, none⟩ = false := hfreeT wz _ _ hz.1
              have kM := hz.1.setL (m := os.length) (f := 0) (u' := (.slice (some ⟨q3, 0, none⟩) (h.old.length + 1) k3)) (by simp) (by omega) (by omega)
              have hgb : w.heap.size ≤ g := (own_blk hz.1.own (g := g) rfl).1
              have kE := hz.2.setCell (p := ⟨g, os.length * 3 + 1 + 0, none⟩) hgb (.slice (some ⟨q3, 0, none⟩) (h.old.length + 1) k3)
              clear hz hgb
              go_simp
              refine hK _ _ ⟨(fun wx => HMem w.heap.size (.slice (some ⟨g, 0, none⟩) (os.length + 1) cap) (va3.set (2 * os.length + 0) (.slice (some ⟨q3, 0, none⟩) (h.old.length + 1) k3)) (va3.set (2 * os.length + 0) (.slice (some ⟨q3, 0, none⟩) (h.old.length + 1) k3)) (os ++ [h]) ((hls (os ++ [h])).set (2 * os.length + 0) (h.old ++ [s.extract 1 s.size])) wx ∧ Ext w wx), (fun _ _ e h => ⟨h.1.ext e, h.2.trans e⟩), .inl (by kernel_rfl), ⟨kM, kE⟩, ?_⟩
              clear kM kE hK K d1 f1 wz
              refine wpY_done (by kernel_rfl) (fun wz hz => ?_) _
              have HZ := Lib.hid hz
              clear hz
              go_wp2_with fail
              go_roundw
              case rel =>
                have hM9 := HZ.out.1
                rw [hls_setO] at hM9
                have hown9 := hM9.own
                rw [hcs_same (os ++ [h]) (os ++ [{ h with old := h.old ++ [s.extract 1 s.size] }]) _ (by simp)] at hown9
                have hout : (hLine ⟨os ++ [h], sat, true⟩ ⟨.del, ys⟩).out = os ++ [{ h with old := h.old ++ [s.extract 1 s.size] }] := by
                  show addOld ys _ = _
                  rw [HOS.out, addOld_snoc, HTLS.out]
                have hM10 : HMem w.heap.size (.slice (some ⟨g, 0, none⟩) (os.length + 1) cap) (va3.set (2 * os.length + 0) (.slice (some ⟨q3, 0, none⟩) (h.old.length + 1) k3)) (va3.set (2 * os.length + 0) (.slice (some ⟨q3, 0, none⟩) (h.old.length + 1) k3)) (os ++ [{ h with old := h.old ++ [s.extract 1 s.size] }]) (hls (os ++ [{ h with old := h.old ++ [s.extract 1 s.size] }])) wz := ⟨by simpa using hown9, hM9.rows, by have := hM9.lva; simpa using this⟩
                refine ⟨j + 1, _, by omega, by go_num, by go_num, rfl, HSTP.out.symm, by simp only [hLine]; omega, HOPN.out, va3.set (2 * os.length + 0) (.slice (some ⟨q3, 0, none⟩) (h.old.length + 1) k3), ?_, HZ.out.2, ?_⟩
                · rw [hout]; exact hM10
                · rw [hout]
                  have h2 : (⟨os ++ [h], sat, true⟩ : HSt).opened = os ++ [h] := HOS.out
                  refine HB.old (HBO.out) ?_ _
                  have := hlo.1
                  omega
              case measure => simp [intOf]; omega
            | false =>
              have ho1 : (HSt.mk sout sat false).opened = sout ++ [⟨sat, [], []⟩] := rfl
              have hos2 := HOS.out
              rw [ho1] at hos2
              obtain ⟨rfl, rfl⟩ := snoc_inj hos2
              have hsl : sout.length ≤ P + j := HB2.out.1
              go_wp2_with (at_builtin; refine wpList_append_size2 rfl (.tmp 44) (.tmp 47) 32 rfl w.heap.size 69 hnf _ 3 56 underHk I1.out I2.out I3.out I4.out rfl (by decide) _ sout.length (hcs sout va2) (some ⟨wr.heap.size, 0, none⟩) 1 1 [.int .i64 sat, .slice none 0 0, .slice none 0 0] rfl rfl rfl (by intro u hu; simp only [List.mem_cons, List.not_mem_nil, or_false] at hu; rcases hu with rfl | rfl | rfl <;> rfl) (by simp only [maxLen]; omega) (by omega) (HM2.out.ext ((Ext.refl wr).alloc _)).own (Cells.new wr _ [_, _, _] rfl) (by have := HE2.out.size; simp; omega) ?_; intro v2 w2 hown2 hg2 hb2; have kM := (HM2.out.ext ((Ext.refl wr).alloc (.cells #[.int .i64 sat, .slice none 0 0, .slice none 0 0] 69))).push (a := sat) hg2 hown2; have kE := (HM2.out.ext ((Ext.refl wr).alloc (.cells #[.int .i64 sat, .slice none 0 0, .slice none 0 0] 69))).grow_ext (HE2.out.alloc _) hg2; obtain ⟨g, cap, rfl⟩ := ownsRow_succ hown2; have HM3 := Lib.hid kM; have HE3 := Lib.hid kE; clear hown2 hg2 hb2 kM kE)
              obtain ⟨os, hos3⟩ : ∃ os, os = sout := ⟨_, rfl⟩
              obtain ⟨h, hh3⟩ : ∃ h : Hp, h = ⟨sat, [], []⟩ := ⟨_, rfl⟩
              obtain ⟨va3, hva3⟩ : ∃ va3, va3 = va2 ++ [Value.slice none 0 0, Value.slice none 0 0] := ⟨_, rfl⟩
              have hlo : h.old.length ≤ P + j ∧ h.new.length ≤ P + j := by rw [hh3]; simp
              have hls3 : hls sout ++ [[], []] = hls (os ++ [h]) := by rw [hos3, hh3, hls_app]; rfl
              rw [hls3, ← hva3, ← hos3, ← hh3] at HM3
              rw [← hh3] at HOS HBO
              rw [← hos3] at HOS HBO
              rw [← hos3]
              have HOS3 := Lib.hid hos3
              clear hos3 hh3 hva3 hls3 hc1 hbc
              have hix : (((os.length + 1 : Nat) : Int) - 1) = os.length := by omega
              have hol0 : os.length + 1 ≤ 20000 := by have := HBO.out.1; simp at this; omega
              go_wp2_with fail
              clear hbd
              have hul3 := HM3.out.lva
              obtain ⟨u, hu⟩ : ∃ u, va3[2 * os.length + 0]? = some u := ⟨_, List.getElem?_eq_getElem (by rw [hul3, List.length_append, List.length_singleton]; omega)⟩
              have hrow3 := HM3.out.rows.own _ u h.old hu (hls_old os h)
              have hcellT : ∀ (wx : World) (vr : List Value) (ll : List Lns), HMem w.heap.size (.slice (some ⟨g, 0, none⟩) (os.length + 1) cap) va3 vr (os ++ [h]) ll wx → wx.cell? ⟨g, os.length * 3 + 1 + 0, none⟩ = some u := fun wx vr ll hh => (hh.cell (by simp) (by omega) (by omega) hu).1
              have hfreeT : ∀ (wx : World) (vr : List Value) (ll : List Lns), HMem w.heap.size (.slice (some ⟨g, 0, none⟩) (os.length + 1) cap) va3 vr (os ++ [h]) ll wx → wx.frozen? ⟨g, os.length * 3 + 1 + 0, none⟩ = false := fun wx vr ll hh => (hh.cell (by simp) (by omega) (by omega) hu).2
              have hol : os.length + 1 ≤ P + j + 1 := by have := HBO.out.1; simpa using this
              have hhl : h.old.length ≤ P + j + 1 := (HBO.out.2 h (by simp)).1
              have HU := Lib.hid hu; have HCT := Lib.hid hcellT; have HFT := Lib.hid hfreeT
              clear hu hul3 hrow3 hcellT hfreeT
              have hsz1 : (1 : Int) ≤ s.size := by omega
              go_wp2_with fail
              have hcellT := HCT.out; have hfreeT := HFT.out
              refine wp_region_Y 11 (fun wx => wx.cell? ⟨g, os.length * 3 + 1 + 0, none⟩ = some u) (fun wx => HMem w.heap.size (.slice (some ⟨g, 0, none⟩) (os.length + 1) cap) va3 va3 (os ++ [h]) (hls (os ++ [h])) wx ∧ Ext w wx) (by kernel_rfl) ⟨HM3.out.ext (Ext.refl _).drew, HE3.out.trans (Ext.refl _).drew⟩ (wpY_takes (by kernel_rfl) (fun _ d _ _ _ h => by cases d <;> exact h) (fun _ _ e h => ⟨h.1.ext e, h.2.trans e⟩) (fun wx h => hcellT wx _ _ h.1) (fuel := 5) [0, 1, 2, 3, 4, 5, 6] _ _ (Waited.start _) (by kernel_rfl) (by kernel_rfl) (by kernel_rfl) ?_)
              iterate 7
                refine wpTk_want rfl (Eq.refl true) ?_
                apply Exists.intro
                refine ⟨fun wx hx => ?_, ?_⟩
                · have d1 : wx.cell? ⟨g, os.length * 3 + 1, none⟩ = some u := hx
                  clear hx
                  go_simp
                  with_reducible exact gives_ok _ _ _
                simp only [Act.put, List.setIfInBounds_toArray, List.set_cons_zero, List.set_cons_succ]
              refine wpTk_nil ?_
              refine wpY_one 7 (by kernel_rfl) rfl rfl (fun wz hz K hK => ?_)
              obtain ⟨z7, hz7⟩ : ∃ z, wz.heap.size = z := ⟨_, rfl⟩
              have nb7 := Blk.new wz (.cells #[.string (s.extract 1 s.size)] 9) hz7.symm
              have ne := (Ext.refl wz).alloc (.cells #[.string (s.extract 1 s.size)] 9)
              have kA := (⟨hz.1.ext ne, hz.2.trans ne, nb7⟩ : _ ∧ _ ∧ _)
              clear hz
              go_simp
              refine hK _ _ ⟨(fun wx => HMem w.heap.size (.slice (some ⟨g, 0, none⟩) (os.length + 1) cap) va3 va3 (os ++ [h]) (hls (os ++ [h])) wx ∧ Ext w wx ∧ Blk wx z7 (.cells #[.string (s.extract 1 s.size)] 9)), (fun _ _ e h => ⟨h.1.ext e, h.2.1.trans e, h.2.2.ext e⟩), .inr fun wx h => hcellT wx _ _ h.1, kA, ?_⟩
              clear nb7 ne kA hK K hz7 wz
              refine wpY_one 8 (by kernel_rfl) rfl rfl (fun wz hz K hK => ?_)
              have hrow := hz.1.rows.own _ u h.old HU.out (hls_old os h)
              refine wp_append (.tmp 61) (.tmp 64) 22 rfl w.heap.size 9 snf _ 1 16 underSs J1.out J2.out J3.out J4.out rfl (by decide) u h.old.length (h.old.map Value.string) (some ⟨z7, 0, none⟩) 1 1 [.string (s.extract 1 s.size)] rfl rfl rfl (by intro u hu; simp at hu; subst hu; rfl) (by simp only [maxLen]; omega) (by omega) hrow (.inr ⟨z7, 0, rfl, fun j u hu => by rw [hz.2.2.cell]; simpa using hu⟩) hz.2.1.size (fun v1 wy hown hgr hbl => ?_)
              obtain ⟨q3, k3, rfl⟩ := ownsRow_succ hown
              have hown' : wy.ownsRow w.heap.size 9 1 (.slice (some ⟨q3, 0, none⟩) (h.old.length + 1) k3) (h.old ++ [s.extract 1 s.size]).length ((h.old ++ [s.extract 1 s.size]).map Value.string) := by
                simp only [List.map_append, List.length_append, List.length_cons, List.length_nil, List.map_cons, List.map_nil, Nat.zero_add]
                exact hown
              have kM := hz.1.addL HU.out (hls_old os h) hgr hown' hbl
              have kE := hz.1.row_ext hz.2.1 HU.out (hls_old os h) hgr
              simp only [Act.put, List.setIfInBounds_toArray, List.set_cons_zero, List.set_cons_succ]
              refine hK _ _ ⟨(fun wx => HMem w.heap.size (.slice (some ⟨g, 0, none⟩) (os.length + 1) cap) va3 (va3.set (2 * os.length + 0) (.slice (some ⟨q3, 0, none⟩) (h.old.length + 1) k3)) (os ++ [h]) ((hls (os ++ [h])).set (2 * os.length + 0) (h.old ++ [s.extract 1 s.size])) wx ∧ Ext w wx), (fun _ _ e h => ⟨h.1.ext e, h.2.trans e⟩), .inr fun wx h => hcellT wx _ _ h.1, ⟨kM, kE⟩, ?_⟩
              clear kM kE hown hown' hgr hbl hrow hK K hz wz wy
              refine wpY_one 9 (by kernel_rfl) rfl rfl (fun wz hz K hK => ?_)
              have hz' := Lib.hid hz
              clear hz
              go_simp
              refine hK _ _ ⟨(fun wx => HMem w.heap.size (.slice (some ⟨g, 0, none⟩) (os.length + 1) cap) va3 (va3.set (2 * os.length + 0) (.slice (some ⟨q3, 0, none⟩) (h.old.length + 1) k3)) (os ++ [h]) ((hls (os ++ [h])).set (2 * os.length + 0) (h.old ++ [s.extract 1 s.size])) wx ∧ Ext w wx), (fun _ _ e h => ⟨h.1.ext e, h.2.trans e⟩), .inr fun wx h => hcellT wx _ _ h.1, hz'.out, ?_⟩
              clear hK K hz' wz
              refine wpY_one 10 (by kernel_rfl) rfl rfl (fun wz hz K hK => ?_)
              have hz' := Lib.hid hz
              clear hz
              go_simp
              refine hK _ _ ⟨(fun wx => HMem w.heap.size (.slice (some ⟨g, 0, none⟩) (os.length + 1) cap) va3 (va3.set (2 * os.length + 0) (.slice (some ⟨q3, 0, none⟩) (h.old.length + 1) k3)) (os ++ [h]) ((hls (os ++ [h])).set (2 * os.length + 0) (h.old ++ [s.extract 1 s.size])) wx ∧ Ext w wx), (fun _ _ e h => ⟨h.1.ext e, h.2.trans e⟩), .inr fun wx h => hcellT wx _ _ h.1, hz'.out, ?_⟩
              clear hK K hz' wz
              refine wpY_one 11 (by kernel_rfl) rfl rfl (fun wz hz K hK => ?_)
              have d1 : wz.cell? ⟨g, os.length * 3 + 1, none⟩ = some u := hcellT wz _ _ hz.1
              have f1 : wz.frozen? ⟨g, os.length * 3 + 1, none⟩ = false := hfreeT wz _ _ hz.1
              have kM := hz.1.setL (m := os.length) (f := 0) (u' := (.slice (some ⟨q3, 0, none⟩) (h.old.length + 1) k3)) (by simp) (by omega) (by omega)
              have hgb : w.heap.size ≤ g := (own_blk hz.1.own (g := g) rfl).1
              have kE := hz.2.setCell (p := ⟨g, os.length * 3 + 1 + 0, none⟩) hgb (.slice (some ⟨q3, 0, none⟩) (h.old.length + 1) k3)
              clear hz hgb
              go_simp
              refine hK _ _ ⟨(fun wx => HMem w.heap.size (.slice (some ⟨g, 0, none⟩) (os.length + 1) cap) (va3.set (2 * os.length + 0) (.slice (some ⟨q3, 0, none⟩) (h.old.length + 1) k3)) (va3.set (2 * os.length + 0) (.slice (some ⟨q3, 0, none⟩) (h.old.length + 1) k3)) (os ++ [h]) ((hls (os ++ [h])).set (2 * os.length + 0) (h.old ++ [s.extract 1 s.size])) wx ∧ Ext w wx), (fun _ _ e h => ⟨h.1.ext e, h.2.trans e⟩), .inl (by kernel_rfl), ⟨kM, kE⟩, ?_⟩
              clear kM kE hK K d1 f1 wz
              refine wpY_done (by kernel_rfl) (fun wz hz => ?_) _
              have HZ := Lib.hid hz
              clear hz
              go_wp2_with fail
              go_roundw
              case rel =>
                have hos3 := HOS3.out
                subst hos3
                have hM9 := HZ.out.1
                rw [hls_setO] at hM9
                have hown9 := hM9.own
                rw [hcs_same (os ++ [h]) (os ++ [{ h with old := h.old ++ [s.extract 1 s.size] }]) _ (by simp)] at hown9
                have hout : (hLine ⟨os, sat, false⟩ ⟨.del, ys⟩).out = os ++ [{ h with old := h.old ++ [s.extract 1 s.size] }] := by
                  show addOld ys _ = _
                  rw [HOS.out, addOld_snoc, HTLS.out]
                have hM10 : HMem w.heap.size (.slice (some ⟨g, 0, none⟩) (os.length + 1) cap) (va3.set (2 * os.length + 0) (.slice (some ⟨q3, 0, none⟩) (h.old.length + 1) k3)) (va3.set (2 * os.length + 0) (.slice (some ⟨q3, 0, none⟩) (h.old.length + 1) k3)) (os ++ [{ h with old := h.old ++ [s.extract 1 s.size] }]) (hls (os ++ [{ h with old := h.old ++ [s.extract 1 s.size] }])) wz := ⟨by simpa using hown9, hM9.rows, by have := hM9.lva; simpa using this⟩
                refine ⟨j + 1, _, by omega, by go_num, by go_num, rfl, HSTP.out.symm, by simp only [hLine]; omega, HOPN.out, va3.set (2 * os.length + 0) (.slice (some ⟨q3, 0, none⟩) (h.old.length + 1) k3), ?_, HZ.out.2, ?_⟩
                · rw [hout]; exact hM10
                · rw [hout]
                  have h2 : (⟨os, sat, false⟩ : HSt).opened = os ++ [h] := HOS.out
                  refine HB.old (HBO.out) ?_ _
                  have := hlo.1
                  omega
              case measure => simp [intOf]; omega
          | add =>
            replace hbc : ((s[0].toNat : Int) == 32) = false := hbc
            replace hbd : ((s[0].toNat : Int) == 45) = false := hbd
            cases sop with
            | true =>
              have ho1 : (HSt.mk sout sat true).opened = sout := rfl
              have hos2 := HOS.out
              rw [ho1] at hos2
              subst hos2
              have hoO := HM2.out.own
              simp only [List.length_append, List.length_singleton] at hoO
              obtain ⟨g, cap, hv⟩ := ownsRow_succ hoO
              subst hv
              have hix : (((os.length + 1 : Nat) : Int) - 1) = os.length := by omega
              have hol0 : os.length + 1 ≤ 20000 := by have := HBO.out.1; simp at this; omega
              obtain ⟨va3, hva3⟩ : ∃ va3, va3 = va2 := ⟨_, rfl⟩
              subst hva3
              have HM3 := Lib.hid HM2.out; have HE3 := Lib.hid HE2.out
              have hlo : h.old.length ≤ P + j ∧ h.new.length ≤ P + j := HB2.out.2 h (by simp)
              clear hoO ho1
              go_wp2_with fail
              clear hbc hbd hc1
              have hul3 := HM3.out.lva
              obtain ⟨u, hu⟩ : ∃ u, va3[2 * os.length + 1]? = some u := ⟨_, List.getElem?_eq_getElem (by rw [hul3, List.length_append, List.length_singleton]; omega)⟩
              have hrow3 := HM3.out.rows.own _ u h.new hu (hls_new os h)
              have hcellT : ∀ (wx : World) (vr : List Value) (ll : List Lns), HMem w.heap.size (.slice (some ⟨g, 0, none⟩) (os.length + 1) cap) va3 vr (os ++ [h]) ll wx → wx.cell? ⟨g, os.length * 3 + 1 + 1, none⟩ = some u := fun wx vr ll hh => (hh.cell (by simp) (by omega) (by omega) hu).1
              have hfreeT : ∀ (wx : World) (vr : List Value) (ll : List Lns), HMem w.heap.size (.slice (some ⟨g, 0, none⟩) (os.length + 1) cap) va3 vr (os ++ [h]) ll wx → wx.frozen? ⟨g, os.length * 3 + 1 + 1, none⟩ = false := fun wx vr ll hh => (hh.cell (by simp) (by omega) (by omega) hu).2
              have hol : os.length + 1 ≤ P + j + 1 := by have := HBO.out.1; simpa using this
              have hhl : h.new.length ≤ P + j + 1 := (HBO.out.2 h (by simp)).2
              have HU := Lib.hid hu; have HCT := Lib.hid hcellT; have HFT := Lib.hid hfreeT
              clear hu hul3 hrow3 hcellT hfreeT
              have hsz1 : (1 : Int) ≤ s.size := by omega
              go_wp2_with fail
              have hcellT := HCT.out; have hfreeT := HFT.out
              refine wp_region_Y 11 (fun wx => wx.cell? ⟨g, os.length * 3 + 1 + 1, none⟩ = some u) (fun wx => HMem w.heap.size (.slice (some ⟨g, 0, none⟩) (os.length + 1) cap) va3 va3 (os ++ [h]) (hls (os ++ [h])) wx ∧ Ext w wx) (by kernel_rfl) ⟨HM3.out.ext (Ext.refl _).drew, HE3.out.trans (Ext.refl _).drew⟩ (wpY_takes (by kernel_rfl) (fun _ d _ _ _ h => by cases d <;> exact h) (fun _ _ e h => ⟨h.1.ext e, h.2.trans e⟩) (fun wx h => hcellT wx _ _ h.1) (fuel := 5) [0, 1, 2, 3, 4, 5, 6] _ _ (Waited.start _) (by kernel_rfl) (by kernel_rfl) (by kernel_rfl) ?_)
              iterate 7
                refine wpTk_want rfl (Eq.refl true) ?_
                apply Exists.intro
                refine ⟨fun wx hx => ?_, ?_⟩
                · have d1 : wx.cell? ⟨g, os.length * 3 + 2, none⟩ = some u := hx
                  clear hx
                  go_simp
                  with_reducible exact gives_ok _ _ _
                simp only [Act.put, List.setIfInBounds_toArray, List.set_cons_zero, List.set_cons_succ]
              refine wpTk_nil ?_
              refine wpY_one 7 (by kernel_rfl) rfl rfl (fun wz hz K hK => ?_)
              obtain ⟨z7, hz7⟩ : ∃ z, wz.heap.size = z := ⟨_, rfl⟩
              have nb7 := Blk.new wz (.cells #[.string (s.extract 1 s.size)] 9) hz7.symm
              have ne := (Ext.refl wz).alloc (.cells #[.string (s.extract 1 s.size)] 9)
              have kA := (⟨hz.1.ext ne, hz.2.trans ne, nb7⟩ : _ ∧ _ ∧ _)
              clear hz
              go_simp
              refine hK _ _ ⟨(fun wx => HMem w.heap.size (.slice (some ⟨g, 0, none⟩) (os.length + 1) cap) va3 va3 (os ++ [h]) (hls (os ++ [h])) wx ∧ Ext w wx ∧ Blk wx z7 (.cells #[.string (s.extract 1 s.size)] 9)), (fun _ _ e h => ⟨h.1.ext e, h.2.1.trans e, h.2.2.ext e⟩), .inr fun wx h => hcellT wx _ _ h.1, kA, ?_⟩
              clear nb7 ne kA hK K hz7 wz
              refine wpY_one 8 (by kernel_rfl) rfl rfl (fun wz hz K hK => ?_)
              have hrow := hz.1.rows.own _ u h.new HU.out (hls_new os h)
              refine wp_append (.tmp 74) (.tmp 77) 22 rfl w.heap.size 9 snf _ 1 16 underSs J1.out J2.out J3.out J4.out rfl (by decide) u h.new.length (h.new.map Value.string) (some ⟨z7, 0, none⟩) 1 1 [.string (s.extract 1 s.size)] rfl rfl rfl (by intro u hu; simp at hu; subst hu; rfl) (by simp only [maxLen]; omega) (by omega) hrow (.inr ⟨z7, 0, rfl, fun j u hu => by rw [hz.2.2.cell]; simpa using hu⟩) hz.2.1.size (fun v1 wy hown hgr hbl => ?_)
              obtain ⟨q3, k3, rfl⟩ := ownsRow_succ hown
              have hown' : wy.ownsRow w.heap.size 9 1 (.slice (some ⟨q3, 0, none⟩) (h.new.length + 1) k3) (h.new ++ [s.extract 1 s.size]).length ((h.new ++ [s.extract 1 s.size]).map Value.string) := by
                simp only [List.map_append, List.length_append, List.length_cons, List.length_nil, List.map_cons, List.map_nil, Nat.zero_add]
                exact hown
              have kM := hz.1.addL HU.out (hls_new os h) hgr hown' hbl
              have kE := hz.1.row_ext hz.2.1 HU.out (hls_new os h) hgr
              simp only [Act.put, List.setIfInBounds_toArray, List.set_cons_zero, List.set_cons_succ]
              refine hK _ _ ⟨(fun wx => HMem w.heap.size (.slice (some ⟨g, 0, none⟩) (os.length + 1) cap) va3 (va3.set (2 * os.length + 1) (.slice (some ⟨q3, 0, none⟩) (h.new.length + 1) k3)) (os ++ [h]) ((hls (os ++ [h])).set (2 * os.length + 1) (h.new ++ [s.extract 1 s.size])) wx ∧ Ext w wx), (fun _ _ e h => ⟨h.1.ext e, h.2.trans e⟩), .inr fun wx h => hcellT wx _ _ h.1, ⟨kM, kE⟩, ?_⟩
              clear kM kE hown hown' hgr hbl hrow hK K hz wz wy
              refine wpY_one 9 (by kernel_rfl) rfl rfl (fun wz hz K hK => ?_)
              have hz' := Lib.hid hz
              clear hz
              go_simp
              refine hK _ _ ⟨(fun wx => HMem w.heap.size (.slice (some ⟨g, 0, none⟩) (os.length + 1) cap) va3 (va3.set (2 * os.length + 1) (.slice (some ⟨q3, 0, none⟩) (h.new.length + 1) k3)) (os ++ [h]) ((hls (os ++ [h])).set (2 * os.length + 1) (h.new ++ [s.extract 1 s.size])) wx ∧ Ext w wx), (fun _ _ e h => ⟨h.1.ext e, h.2.trans e⟩), .inr fun wx h => hcellT wx _ _ h.1, hz'.out, ?_⟩
              clear hK K hz' wz
              refine wpY_one 10 (by kernel_rfl) rfl rfl (fun wz hz K hK => ?_)
              have hz' := Lib.hid hz
              clear hz
              go_simp
              refine hK _ _ ⟨(fun wx => HMem w.heap.size (.slice (some ⟨g, 0, none⟩) (os.length + 1) cap) va3 (va3.set (2 * os.length + 1) (.slice (some ⟨q3, 0, none⟩) (h.new.length + 1) k3)) (os ++ [h]) ((hls (os ++ [h])).set (2 * os.length + 1) (h.new ++ [s.extract 1 s.size])) wx ∧ Ext w wx), (fun _ _ e h => ⟨h.1.ext e, h.2.trans e⟩), .inr fun wx h => hcellT wx _ _ h.1, hz'.out, ?_⟩
              clear hK K hz' wz
              refine wpY_one 11 (by kernel_rfl) rfl rfl (fun wz hz K hK => ?_)
              have d1 : wz.cell? ⟨g, os.length * 3 + 2, none⟩ = some u := hcellT wz _ _ hz.1
              have f1 : wz.frozen? ⟨g, os.length * 3 + 2, none⟩ = false := hfreeT wz _ _ hz.1
              have kM := hz.1.setL (m := os.length) (f := 1) (u' := (.slice (some ⟨q3, 0, none⟩) (h.new.length + 1) k3)) (by simp) (by omega) (by omega)
              have hgb : w.heap.size ≤ g := (own_blk hz.1.own (g := g) rfl).1
              have kE := hz.2.setCell (p := ⟨g, os.length * 3 + 1 + 1, none⟩) hgb (.slice (some ⟨q3, 0, none⟩) (h.new.length + 1) k3)
              clear hz hgb
              go_simp
              refine hK _ _ ⟨(fun wx => HMem w.heap.size (.slice (some ⟨g, 0, none⟩) (os.length + 1) cap) (va3.set (2 * os.length + 1) (.slice (some ⟨q3, 0, none⟩) (h.new.length + 1) k3)) (va3.set (2 * os.length + 1) (.slice (some ⟨q3, 0, none⟩) (h.new.length + 1) k3)) (os ++ [h]) ((hls (os ++ [h])).set (2 * os.length + 1) (h.new ++ [s.extract 1 s.size])) wx ∧ Ext w wx), (fun _ _ e h => ⟨h.1.ext e, h.2.trans e⟩), .inl (by kernel_rfl), ⟨kM, kE⟩, ?_⟩
              clear kM kE hK K d1 f1 wz
              refine wpY_done (by kernel_rfl) (fun wz hz => ?_) _
              have HZ := Lib.hid hz
              clear hz
              go_wp2_with fail
              go_roundw
              case rel =>
                have hM9 := HZ.out.1
                rw [hls_setN] at hM9
                have hown9 := hM9.own
                rw [hcs_same (os ++ [h]) (os ++ [{ h with new := h.new ++ [s.extract 1 s.size] }]) _ (by simp)] at hown9
                have hout : (hLine ⟨os ++ [h], sat, true⟩ ⟨.add, ys⟩).out = os ++ [{ h with new := h.new ++ [s.extract 1 s.size] }] := by
                  show addNew ys _ = _
                  rw [HOS.out, addNew_snoc, HTLS.out]
                have hM10 : HMem w.heap.size (.slice (some ⟨g, 0, none⟩) (os.length + 1) cap) (va3.set (2 * os.length + 1) (.slice (some ⟨q3, 0, none⟩) (h.new.length + 1) k3)) (va3.set (2 * os.length + 1) (.slice (some ⟨q3, 0, none⟩) (h.new.length + 1) k3)) (os ++ [{ h with new := h.new ++ [s.extract 1 s.size] }]) (hls (os ++ [{ h with new := h.new ++ [s.extract 1 s.size] }])) wz := ⟨by simpa using hown9, hM9.rows, by have := hM9.lva; simpa using this⟩
                refine ⟨j + 1, _, by omega, by go_num, by go_num, rfl, HSTP.out.symm, by simp only [hLine]; omega, HOPN.out, va3.set (2 * os.length + 1) (.slice (some ⟨q3, 0, none⟩) (h.new.length + 1) k3), ?_, HZ.out.2, ?_⟩
                · rw [hout]; exact hM10
                · rw [hout]
                  have h2 : (⟨os ++ [h], sat, true⟩ : HSt).opened = os ++ [h] := HOS.out
                  refine HB.new (HBO.out) ?_ _
                  have := hlo.2
                  omega
              case measure => simp [intOf]; omega
            | false =>
              have ho1 : (HSt.mk sout sat false).opened = sout ++ [⟨sat, [], []⟩] := rfl
              have hos2 := HOS.out
              rw [ho1] at hos2
              obtain ⟨rfl, rfl⟩ := snoc_inj hos2
              have hsl : sout.length ≤ P + j := HB2.out.1
              go_wp2_with (at_builtin; refine wpList_append_size2 rfl (.tmp 44) (.tmp 47) 32 rfl w.heap.size 69 hnf _ 3 56 underHk I1.out I2.out I3.out I4.out rfl (by decide) _ sout.length (hcs sout va2) (some ⟨wr.heap.size, 0, none⟩) 1 1 [.int .i64 sat, .slice none 0 0, .slice none 0 0] rfl rfl rfl (by intro u hu; simp only [List.mem_cons, List.not_mem_nil, or_false] at hu; rcases hu with rfl | rfl | rfl <;> rfl) (by simp only [maxLen]; omega) (by omega) (HM2.out.ext ((Ext.refl wr).alloc _)).own (Cells.new wr _ [_, _, _] rfl) (by have := HE2.out.size; simp; omega) ?_; intro v2 w2 hown2 hg2 hb2; have kM := (HM2.out.ext ((Ext.refl wr).alloc (.cells #[.int .i64 sat, .slice none 0 0, .slice none 0 0] 69))).push (a := sat) hg2 hown2; have kE := (HM2.out.ext ((Ext.refl wr).alloc (.cells #[.int .i64 sat, .slice none 0 0, .slice none 0 0] 69))).grow_ext (HE2.out.alloc _) hg2; obtain ⟨g, cap, rfl⟩ := ownsRow_succ hown2; have HM3 := Lib.hid kM; have HE3 := Lib.hid kE; clear hown2 hg2 hb2 kM kE)
              obtain ⟨os, hos3⟩ : ∃ os, os = sout := ⟨_, rfl⟩
              obtain ⟨h, hh3⟩ : ∃ h : Hp, h = ⟨sat, [], []⟩ := ⟨_, rfl⟩
              obtain ⟨va3, hva3⟩ : ∃ va3, va3 = va2 ++ [Value.slice none 0 0, Value.slice none 0 0] := ⟨_, rfl⟩
              have hlo : h.old.length ≤ P + j ∧ h.new.length ≤ P + j := by rw [hh3]; simp
              have hls3 : hls sout ++ [[], []] = hls (os ++ [h]) := by rw [hos3, hh3, hls_app]; rfl
              rw [hls3, ← hva3, ← hos3, ← hh3] at HM3
              rw [← hh3] at HOS HBO
              rw [← hos3] at HOS HBO
              rw [← hos3]
              have HOS3 := Lib.hid hos3
              clear hos3 hh3 hva3 hls3 hc1 hbc
              have hix : (((os.length + 1 : Nat) : Int) - 1) = os.length := by omega
              have hol0 : os.length + 1 ≤ 20000 := by have := HBO.out.1; simp at this; omega
              go_wp2_with fail
              clear hbd
              have hul3 := HM3.out.lva
              obtain ⟨u, hu⟩ : ∃ u, va3[2 * os.length + 1]? = some u := ⟨_, List.getElem?_eq_getElem (by rw [hul3, List.length_append, List.length_singleton]; omega)⟩
              have hrow3 := HM3.out.rows.own _ u h.new hu (hls_new os h)
              have hcellT : ∀ (wx : World) (vr : List Value) (ll : List Lns), HMem w.heap.size (.slice (some ⟨g, 0, none⟩) (os.length + 1) cap) va3 vr (os ++ [h]) ll wx → wx.cell? ⟨g, os.length * 3 + 1 + 1, none⟩ = some u := fun wx vr ll hh => (hh.cell (by simp) (by omega) (by omega) hu).1
              have hfreeT : ∀ (wx : World) (vr : List Value) (ll : List Lns), HMem w.heap.size (.slice (some ⟨g, 0, none⟩) (os.length + 1) cap) va3 vr (os ++ [h]) ll wx → wx.frozen? ⟨g, os.length * 3 + 1 + 1, none⟩ = false := fun wx vr ll hh => (hh.cell (by simp) (by omega) (by omega) hu).2
              have hol : os.length + 1 ≤ P + j + 1 := by have := HBO.out.1; simpa using this
              have hhl : h.new.length ≤ P + j + 1 := (HBO.out.2 h (by simp)).2
              have HU := Lib.hid hu; have HCT := Lib.hid hcellT; have HFT := Lib.hid hfreeT
              clear hu hul3 hrow3 hcellT hfreeT
              have hsz1 : (1 : Int) ≤ s.size := by omega
              go_wp2_with fail
              have hcellT := HCT.out; have hfreeT := HFT.out
              refine wp_region_Y 11 (fun wx => wx.cell? ⟨g, os.length * 3 + 1 + 1, none⟩ = some u) (fun wx => HMem w.heap.size (.slice (some ⟨g, 0, none⟩) (os.length + 1) cap) va3 va3 (os ++ [h]) (hls (os ++ [h])) wx ∧ Ext w wx) (by kernel_rfl) ⟨HM3.out.ext (Ext.refl _).drew, HE3.out.trans (Ext.refl _).drew⟩ (wpY_takes (by kernel_rfl) (fun _ d _ _ _ h => by cases d <;> exact h) (fun _ _ e h => ⟨h.1.ext e, h.2.trans e⟩) (fun wx h => hcellT wx _ _ h.1) (fuel := 5) [0, 1, 2, 3, 4, 5, 6] _ _ (Waited.start _) (by kernel_rfl) (by kernel_rfl) (by kernel_rfl) ?_)
              iterate 7
                refine wpTk_want rfl (Eq.refl true) ?_
                apply Exists.intro
                refine ⟨fun wx hx => ?_, ?_⟩
                · have d1 : wx.cell? ⟨g, os.length * 3 + 2, none⟩ = some u := hx
                  clear hx
                  go_simp
                  with_reducible exact gives_ok _ _ _
                simp only [Act.put, List.setIfInBounds_toArray, List.set_cons_zero, List.set_cons_succ]
              refine wpTk_nil ?_
              refine wpY_one 7 (by kernel_rfl) rfl rfl (fun wz hz K hK => ?_)
              obtain ⟨z7, hz7⟩ : ∃ z, wz.heap.size = z := ⟨_, rfl⟩
              have nb7 := Blk.new wz (.cells #[.string (s.extract 1 s.size)] 9) hz7.symm
              have ne := (Ext.refl wz).alloc (.cells #[.string (s.extract 1 s.size)] 9)
              have kA := (⟨hz.1.ext ne, hz.2.trans ne, nb7⟩ : _ ∧ _ ∧ _)
              clear hz
              go_simp
              refine hK _ _ ⟨(fun wx => HMem w.heap.size (.slice (some ⟨g, 0, none⟩) (os.length + 1) cap) va3 va3 (os ++ [h]) (hls (os ++ [h])) wx ∧ Ext w wx ∧ Blk wx z7 (.cells #[.string (s.extract 1 s.size)] 9)), (fun _ _ e h => ⟨h.1.ext e, h.2.1.trans e, h.2.2.ext e⟩), .inr fun wx h => hcellT wx _ _ h.1, kA, ?_⟩
              clear nb7 ne kA hK K hz7 wz
              refine wpY_one 8 (by kernel_rfl) rfl rfl (fun wz hz K hK => ?_)
              have hrow := hz.1.rows.own _ u h.new HU.out (hls_new os h)
              refine wp_append (.tmp 74) (.tmp 77) 22 rfl w.heap.size 9 snf _ 1 16 underSs J1.out J2.out J3.out J4.out rfl (by decide) u h.new.length (h.new.map Value.string) (some ⟨z7, 0, none⟩) 1 1 [.string (s.extract 1 s.size)] rfl rfl rfl (by intro u hu; simp at hu; subst hu; rfl) (by simp only [maxLen]; omega) (by omega) hrow (.inr ⟨z7, 0, rfl, fun j u hu => by rw [hz.2.2.cell]; simpa using hu⟩) hz.2.1.size (fun v1 wy hown hgr hbl => ?_)
              obtain ⟨q3, k3, rfl⟩ := ownsRow_succ hown
              have hown' : wy.ownsRow w.heap.size 9 1 (.slice (some ⟨q3, 0, none⟩) (h.new.length + 1) k3) (h.new ++ [s.extract 1 s.size]).length ((h.new ++ [s.extract 1 s.size]).map Value.string) := by
                simp only [List.map_append, List.length_append, List.length_cons, List.length_nil, List.map_cons, List.map_nil, Nat.zero_add]
                exact hown
              have kM := hz.1.addL HU.out (hls_new os h) hgr hown' hbl
              have kE := hz.1.row_ext hz.2.1 HU.out (hls_new os h) hgr
              simp only [Act.put, List.setIfInBounds_toArray, List.set_cons_zero, List.set_cons_succ]
              refine hK _ _ ⟨(fun wx => HMem w.heap.size (.slice (some ⟨g, 0, none⟩) (os.length + 1) cap) va3 (va3.set (2 * os.length + 1) (.slice (some ⟨q3, 0, none⟩) (h.new.length + 1) k3)) (os ++ [h]) ((hls (os ++ [h])).set (2 * os.length + 1) (h.new ++ [s.extract 1 s.size])) wx ∧ Ext w wx), (fun _ _ e h => ⟨h.1.ext e, h.2.trans e⟩), .inr fun wx h => hcellT wx _ _ h.1, ⟨kM, kE⟩, ?_⟩
              clear kM kE hown hown' hgr hbl hrow hK K hz wz wy
              refine wpY_one 9 (by kernel_rfl) rfl rfl (fun wz hz K hK => ?_)
              have hz' := Lib.hid hz
              clear hz
              go_simp
              refine hK _ _ ⟨(fun wx => HMem w.heap.size (.slice (some ⟨g, 0, none⟩) (os.length + 1) cap) va3 (va3.set (2 * os.length + 1) (.slice (some ⟨q3, 0, none⟩) (h.new.length + 1) k3)) (os ++ [h]) ((hls (os ++ [h])).set (2 * os.length + 1) (h.new ++ [s.extract 1 s.size])) wx ∧ Ext w wx), (fun _ _ e h => ⟨h.1.ext e, h.2.trans e⟩), .inr fun wx h => hcellT wx _ _ h.1, hz'.out, ?_⟩
              clear hK K hz' wz
              refine wpY_one 10 (by kernel_rfl) rfl rfl (fun wz hz K hK => ?_)
              have hz' := Lib.hid hz
              clear hz
              go_simp
              refine hK _ _ ⟨(fun wx => HMem w.heap.size (.slice (some ⟨g, 0, none⟩) (os.length + 1) cap) va3 (va3.set (2 * os.length + 1) (.slice (some ⟨q3, 0, none⟩) (h.new.length + 1) k3)) (os ++ [h]) ((hls (os ++ [h])).set (2 * os.length + 1) (h.new ++ [s.extract 1 s.size])) wx ∧ Ext w wx), (fun _ _ e h => ⟨h.1.ext e, h.2.trans e⟩), .inr fun wx h => hcellT wx _ _ h.1, hz'.out, ?_⟩
              clear hK K hz' wz
              refine wpY_one 11 (by kernel_rfl) rfl rfl (fun wz hz K hK => ?_)
              have d1 : wz.cell? ⟨g, os.length * 3 + 2, none⟩ = some u := hcellT wz _ _ hz.1
              have f1 : wz.frozen? ⟨g, os.length * 3 + 2, none⟩ = false := hfreeT wz _ _ hz.1
              have kM := hz.1.setL (m := os.length) (f := 1) (u' := (.slice (some ⟨q3, 0, none⟩) (h.new.length + 1) k3)) (by simp) (by omega) (by omega)
              have hgb : w.heap.size ≤ g := (own_blk hz.1.own (g := g) rfl).1
              have kE := hz.2.setCell (p := ⟨g, os.length * 3 + 1 + 1, none⟩) hgb (.slice (some ⟨q3, 0, none⟩) (h.new.length + 1) k3)
              clear hz hgb
              go_simp
              refine hK _ _ ⟨(fun wx => HMem w.heap.size (.slice (some ⟨g, 0, none⟩) (os.length + 1) cap) (va3.set (2 * os.length + 1) (.slice (some ⟨q3, 0, none⟩) (h.new.length + 1) k3)) (va3.set (2 * os.length + 1) (.slice (some ⟨q3, 0, none⟩) (h.new.length + 1) k3)) (os ++ [h]) ((hls (os ++ [h])).set (2 * os.length + 1) (h.new ++ [s.extract 1 s.size])) wx ∧ Ext w wx), (fun _ _ e h => ⟨h.1.ext e, h.2.trans e⟩), .inl (by kernel_rfl), ⟨kM, kE⟩, ?_⟩
              clear kM kE hK K d1 f1 wz
              refine wpY_done (by kernel_rfl) (fun wz hz => ?_) _
              have HZ := Lib.hid hz
              clear hz
              go_wp2_with fail
              go_roundw
              case rel =>
                have hos3 := HOS3.out
                subst hos3
                have hM9 := HZ.out.1
                rw [hls_setN] at hM9
                have hown9 := hM9.own
                rw [hcs_same (os ++ [h]) (os ++ [{ h with new := h.new ++ [s.extract 1 s.size] }]) _ (by simp)] at hown9
                have hout : (hLine ⟨os, sat, false⟩ ⟨.add, ys⟩).out = os ++ [{ h with new := h.new ++ [s.extract 1 s.size] }] := by
                  show addNew ys _ = _
                  rw [HOS.out, addNew_snoc, HTLS.out]
                have hM10 : HMem w.heap.size (.slice (some ⟨g, 0, none⟩) (os.length + 1) cap) (va3.set (2 * os.length + 1) (.slice (some ⟨q3, 0, none⟩) (h.new.length + 1) k3)) (va3.set (2 * os.length + 1) (.slice (some ⟨q3, 0, none⟩) (h.new.length + 1) k3)) (os ++ [{ h with new := h.new ++ [s.extract 1 s.size] }]) (hls (os ++ [{ h with new := h.new ++ [s.extract 1 s.size] }])) wz := ⟨by simpa using hown9, hM9.rows, by have := hM9.lva; simpa using this⟩
                refine ⟨j + 1, _, by omega, by go_num, by go_num, rfl, HSTP.out.symm, by simp only [hLine]; omega, HOPN.out, va3.set (2 * os.length + 1) (.slice (some ⟨q3, 0, none⟩) (h.new.length + 1) k3), ?_, HZ.out.2, ?_⟩
                · rw [hout]; exact hM10
                · rw [hout]
                  have h2 : (⟨os, sat, false⟩ : HSt).opened = os ++ [h] := HOS.out
                  refine HB.new (HBO.out) ?_ _
                  have := hlo.2
                  omega
              case measure => simp [intOf]; omega
        · have hjl : x.ls.length ≤ j := by rw [← HLSN.out]; omega
          go_wp2_with fail
          go_roundw
          case rel =>
            have hjm := HLSN.out
            have hfin : st.out = (xs.take (k + 1)).foldl hBlk [] := by
              rw [HTK.out, List.foldl_append]
              have := HST.out
              rw [List.take_of_length_le hjl] at this
              rw [this]; rfl
            refine ⟨k + 1, by omega, by go_num, va2, ?_, HE2.out, ?_⟩
            · have := HM2.out
              rw [hfin] at this; exact this
            · have := HB2.out
              rw [hfin] at this
              exact this.mono (by rw [HTL.out]; omega)
          case measure => simp [intOf]; omega
    · go_wp2_with fail
      have h9 : xs.take k = xs := List.take_of_length_le (by rw [HN.out]; omega)
      have hM9 := HM.out; have hB9 := HBB.out
      rw [h9] at hM9 hB9
      refine bodyPost_ret (v := .tuple #[_, .int .i64 0]) (by simp [results, Tryz.results32, go_sem]) rfl ⟨HE.out, _, rfl, ⟨va, hM9⟩, hB9.mono HT.out⟩
end Go.Proofs.YtmmcjcaccicheaaGreatDoor

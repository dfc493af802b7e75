/- UdPar: parts of the proof of TopDifferences, one text behind the other. No condition. -/
import Derived.Test.YtmmcjcaccicheaaGreatDoorT31
import Derived.Test.YtmmcjcaccicheaaGreatDoorT25
import Derived.Test.YtmmcjcaccicheaaGreatDoorT29
/- The contract of Parse at the text of blocks. -/
namespace Go.Proofs.YtmmcjcaccicheaaGreatDoor
open Go.RowKit
attribute [local go_sem] Oper.semAt_some

theorem lines_is (s : ByteArray) (w : World) :
    Calls Tryz.prog 58 #[.string s] w fun e w' => e = .returned (.func (.func 76) #[] #[.pointer (some ⟨w.heap.size, 0, none⟩)]) ∧ w' = w.alloc (.cells #[.string s] 9) := by
  go_enter Tryz.func58, Tryz.ntmps58
  go_wp2_with fail
  go_ret
  exact ⟨rfl, rfl⟩
/-- What holds between two lines. -/
def PI (B : Nat) (w : World) (pre : List Tk) (S : Nat → Prop) (W : World) : Prop :=
  ∃ (vO vH : Value) (vs : List Value) (st : PSt) (nh : Nat) (hs : List Value), PRun ⟨[], 0, 0⟩ pre st ∧ nh ≤ pre.length ∧ st.out.length ≤ pre.length ∧ (∀ b ∈ st.out, b.ls.length ≤ pre.length) ∧ st.bef ≤ 100000 ∧ st.aft ≤ 100000 ∧
    PMem B vO vO vH vH vs vs st.out (st.out.map fun b => b.ls.map lnS) nh hs st.bef st.aft W ∧ S = PS B vO vH vs ∧ Ext w W
theorem lv_firm' {w W W' : World} {q n : Nat} (h : Ext w W) (hq : w.heap.size ≤ q) (hn : w.heap.size ≤ n) (k : Lv (fun g => g = q ∨ (n ≤ g ∧ NC W g)) W W') : Ext w W' :=
  k.extBelow h (fun g hg h => by rcases h with h | h <;> omega)
theorem PI.firm (B : Nat) (w : World) (hB : w.heap.size = B) : Firm (fun g => g = B + 8) (B + 9) (PI B w) := by
  rintro pre S W W' ⟨vO, vH, vs, st, nh, hs, h1, h2, h3, h4, h5, h6, h7, h8, h9⟩ k
  exact ⟨vO, vH, vs, st, nh, hs, h1, h2, h3, h4, h5, h6, h7.firm k, h8, lv_firm' h9 (by omega) (by omega) k⟩
theorem encL_size (t : Tk) (vs : Array Value) (S : Nat → Prop) (W : World) (h : EncL t vs S W) : vs.size = 2 := by
  obtain ⟨n, _, rfl⟩ := h; rfl
theorem PStep.det {a b c : PSt} {x : Tk} (h : PStep a x b) (k : PStep a x c) : b = c := by
  cases h with
  | hdr st b h1 h2 => cases k with | hdr st b h1 h2 => rfl
  | ln out b bef aft x h1 h2 h3 =>
    generalize hst : (⟨out ++ [b], bef, aft⟩ : PSt) = st at k
    cases k with
    | ln out' b' bef' aft' x h1' h2' h3' =>
      simp only [PSt.mk.injEq] at hst
      obtain ⟨e1, rfl, rfl⟩ := hst
      obtain ⟨rfl, rfl⟩ := snoc_inj e1
      rfl
theorem PRun.det {a b c : PSt} {l : List Tk} (h : PRun a l b) (k : PRun a l c) : b = c := by
  induction h with
  | nil => cases k; rfl
  | cons h1 _ ih => cases k with | cons k1 k2 => exact ih (h1.det k1 ▸ k2)
/-- The next line can be read. -/
theorem run_next {xs : List Bk} (hl : ∀ b ∈ xs, b.ol = (oldB b.ls).length ∧ b.nl = (newB b.ls).length) {pre : List Tk} {x : Tk} {st : PSt} (h : PRun ⟨[], 0, 0⟩ pre st) (hp : pre ++ [x] <+: toks xs) : ∃ st2, PStep st x st2 ∧ PRun ⟨[], 0, 0⟩ (pre ++ [x]) st2 := by
  obtain ⟨r, hr⟩ := hp
  have hall := run_toks xs [] hl
  rw [← hr, List.append_assoc] at hall
  obtain ⟨b, k1, k2⟩ := hall.split
  obtain rfl := h.det k1
  cases k2 with
  | cons k3 _ => exact ⟨_, k3, h.app (.cons k3 (.nil _))⟩
theorem infoBk : (Tryz.prog.info? 80).map (fun i => (i.zero, i.size, i.bytes)) = some (some (.agg #[.int .i64 0, .int .i64 0, .int .i64 0, .int .i64 0, .slice none 0 0]), 5, 56) := by kernel_rfl
theorem underBk : Tryz.prog.underlying 44 = some (.slice 80) := by kernel_rfl
theorem infoInt : (Tryz.prog.info? 3).map (fun i => (i.zero, i.size, i.bytes)) = some (some (.int .i64 0), 1, 8) := by kernel_rfl
theorem underInts : Tryz.prog.underlying 49 = some (.slice 3) := by kernel_rfl
set_option maxRecDepth 100000 in
set_option maxHeartbeats 8000000 in
theorem parse_any (xs : List Bk) (w : World) (hok : ∀ t ∈ toks xs, TkOk t) (hlen : (fmtL xs).length ≤ 1000000000) (hn : (toks xs).length ≤ 10000) (hfit : ∀ b ∈ xs, BFit b) (hchk : okKs 0 (-1) xs) (hm : Mx w) (s : ByteArray) (hs : s = mkS (fmtL xs)) :
    Calls Tryz.prog 31 #[.string s] w fun e w' => Ext w w' ∧ ∃ A n c, e = .returned (.tuple #[.slice A n c, .int .i64 0, .int .i64 0]) ∧ n ≤ c ∧ c ≤ maxLen ∧ Bks w' A n xs := by
  obtain ⟨B, hB⟩ : ∃ B, w.heap.size = B := ⟨_, rfl⟩
  have HOK := Lib.hid hok; have HCH := Lib.hid hchk; have HF := Lib.hid hfit; have HB := Lib.hid hB; have HS := Lib.hid hs; have HM := Lib.hid hm; clear hok hchk hfit hs hm
  refine calls_marks Tryz.func31 rfl ?_
  simp only [Tryz.ntmps31, List.size_toArray, List.length_cons, List.length_nil, Nat.reduceAdd, Nat.reduceSub, Array.replicate_succ, Array.replicate_zero, List.push_toArray, List.append_toArray, List.nil_append, List.cons_append]
  go_wp2_with fail
  refine (lines_is s _).mono ?_
  rintro e w0 ⟨rfl, hw0⟩
  have K0 := (((((((((Know.start w).new (.cells #[.slice none 0 0] 44) hB.symm).new (.cells #[.int .i64 0] 3) (g := B + 1) (by simp [hB])).new (.cells #[.int .i64 0] 23) (g := B + 2) (by simp [hB])).new (.cells #[.slice none 0 0] 44) (g := B + 3) (by simp [hB])).new (.cells #[.slice none 0 0] 49) (g := B + 4) (by simp [hB])).new (.cells #[.int .i64 0] 3) (g := B + 5) (by simp [hB])).new (.cells #[.int .i64 0] 3) (g := B + 6) (by simp [hB])).new (.cells #[.int .i64 0] 3) (g := B + 7) (by simp [hB])).new (.cells #[.string s] 9) (g := B + 8) (by simp [hB])
  rw [← hw0] at K0
  have hz0 : w0.heap.size = B + 9 := by rw [hw0]; simp [hB]
  simp only [World.size_alloc, hB, Nat.add_assoc, Nat.reduceAdd]
  have p0 : PMem B (.slice none 0 0) (.slice none 0 0) (.slice none 0 0) (.slice none 0 0) [] [] [] [] 0 [] 0 0 w0 :=
    ⟨K0.at 8 rfl, K0.at 7 rfl, K0.at 6 rfl, K0.at 5 rfl, K0.at 4 rfl, K0.at 3 rfl, K0.at 2 rfl, ⟨0, K0.at 1 rfl⟩, World.ownsRow_nil _ _ _ _, World.ownsRow_nil _ _ _ _, SRows.nil _ _, rfl⟩
  have hq0 : Blk w0 (B + 8) (.cells #[.string s] 9) := K0.at 0 rfl
  have P0 := Lib.hid p0; have E0 := Lib.hid K0.1; have Q0 := Lib.hid hq0; have Z0 := Lib.hid hz0
  clear K0 p0 hq0 hw0 hz0 hB
  go_wp2_with fail
  obtain ⟨AT, hAT⟩ : ∃ AT : Nat → Value → Value → Act, AT = fun z n v => { tmps := #[.string s, undef, .pointer (some ⟨B, 0, none⟩), .pointer (some ⟨B + 1, 0, none⟩), .pointer (some ⟨B + 2, 0, none⟩), .pointer (some ⟨B + 3, 0, none⟩), .pointer (some ⟨B + 4, 0, none⟩), .pointer (some ⟨B + 5, 0, none⟩), .pointer (some ⟨B + 6, 0, none⟩), .pointer (some ⟨B + 7, 0, none⟩), n, .pointer (some ⟨z, 0, none⟩), undef, undef, undef, undef, undef, undef, undef, undef, undef, .string s, .func (.func 76) #[] #[.pointer (some ⟨B + 8, 0, none⟩)], n, v, undef, undef, undef, undef, undef, undef, undef, undef, undef, undef, undef, undef, undef, undef, undef, undef, undef, undef, undef, undef, undef, undef, undef, undef, undef, undef, undef, undef, undef, undef, undef, undef, undef, undef, undef, undef, undef, undef, undef, undef, undef, undef, undef, undef, undef, undef, undef, undef, undef, undef, undef, undef, undef, undef, undef, undef, undef, undef, undef, undef, undef, undef, undef, undef, undef, undef, undef, undef, undef, undef, undef, undef, undef, undef, undef, undef, undef, undef, undef, undef, undef, undef, undef, undef, undef, undef, undef, undef, undef, undef, undef, undef, undef, undef, undef], defers := [] } := ⟨_, rfl⟩
  refine wp_of_In (wpIn_range4 (gf := 76) rfl (enters_of Tryz.func76 (by kernel_rfl) rfl) (lines_iter (toks xs) HOK.out hlen (by omega) (B + 8)) encL_size (fun x vs S W W' h _ => h) (fun x vs S S' W h _ => h) (fun g h => by have := Z0.out; omega)
    (PI B w) (fun _ _ _ _ => False) ?hI (fun _ _ _ _ _ h _ => h.elim) (PS B (.slice none 0 0) (.slice none 0 0) []) ?h0 ?hS0 ?hpre
    (fun x vs W a₁ W' => ∃ n : Nat, n ≤ 1000000 ∧ a₁ = AT W.heap.size (.int .i64 n) (.agg #[.string (mkS (tkL x)), .bool true]) ∧ Ext W W' ∧ Blk W' W.heap.size (.cells #[.string (mkS (tkL x)), .bool true] 121)) (fun x vs W a₁ W' h => by obtain ⟨_, _, _, h, _⟩ := h; exact h) ?assign ?body ?done (fun _ _ _ _ _ _ _ _ h _ => h.elim))
  case hI =>
    have := PI.firm B w HB.out
    rw [show w0.heap.size = B + 9 from Z0.out]
    exact this
  case h0 => exact ⟨_, _, [], ⟨[], 0, 0⟩, 0, [], .nil _, Nat.le_refl _, Nat.le_refl _, by simp, by simp, by simp, P0.out, rfl, E0.out⟩
  case hS0 =>
    intro g hg
    exact P0.out.size g hg
  case hpre =>
    intro S W hE hS
    have hz := Z0.out
    have nS : ∀ g, g < B + 9 → ¬ (B + 3 ≤ g ∧ g ≤ B + 7) → ¬ S g := fun g hg hn h => by
      rcases hS g (by omega) h with h | h | h | ⟨v, hv, _⟩
      · exact hn h
      · cases h
      · cases h
      · simp at hv
    have hq := Q0.out
    rw [HS.out] at hq
    have hB1 : 0 < B := by
      obtain ⟨m, hm⟩ := HM.out
      have := cell_lt hm
      rw [HB.out] at this; exact this
    exact ⟨hq.ext hE, nS _ (by omega) (by omega), nS 0 (by omega) (by omega), by omega, (HM.out.ext E0.out).ext hE⟩
  case assign =>
    rintro l x vs S W K ⟨n, hn, rfl⟩ hK
    rw [hAT] at hK
    obtain ⟨s2, hs2⟩ : ∃ s2, mkS (tkL x) = s2 := ⟨_, rfl⟩
    rw [hs2] at hK ⊢
    gi_wp2
    exact ⟨n, hn, rfl, (Ext.refl W).alloc _, Blk.new W _ rfl⟩
  case body =>
    rintro l pre x vs S W0 W' W a₁ ⟨n, hn', rfl, hEa, hba⟩ hle0 hvb ⟨vO, vH, vs', st, nh, hs, h1, h2, h3, h4, h5, h6, h7, h8, h9⟩ hleW hpx henc hSl
    have hz0 := Z0.out
    have hprel : pre.length + 1 ≤ (toks xs).length := by have := hpx.length_le; simpa using this
    have bz : Blk W W0.heap.size (.cells #[.string (mkS (tkL x)), .bool true] 121) := hba.lv hvb (fun h => hba.nc h.2)
    obtain ⟨z, hz⟩ : ∃ z, W0.heap.size = z := ⟨_, rfl⟩
    rw [hz] at bz hle0
    rw [hz0] at hle0
    have hx : TkOk x := HOK.out x (hpx.subset (by simp))
    obtain ⟨s2, hs2⟩ : ∃ s2, mkS (tkL x) = s2 := ⟨_, rfl⟩
    rw [hs2] at bz ⊢
    rw [hAT, hz]
    have c0 := bz.cell 0; have c1 := bz.cell 1
    replace c0 : W.cell? ⟨z, 0, none⟩ = some (.string s2) := c0
    replace c1 : W.cell? ⟨z, 1, none⟩ = some (.bool true) := c1
    have d7 := (let ⟨y, hy⟩ := h7.la; ⟨y, hy⟩ : ∃ y : Int, Blk W (B + 7) (.cells #[.int .i64 y] 3))
    obtain ⟨y, hy⟩ := d7
    have e7 := hy.cell 0; have f7 := hy.free 0
    replace e7 : W.cell? ⟨B + 7, 0, none⟩ = some (.int .i64 y) := e7
    have e5 := h7.bf.cell 0; have e6 := h7.af.cell 0; have e3 := h7.o.cell 0; have e4 := h7.h.cell 0
    have f5 := h7.bf.free 0; have f6 := h7.af.free 0; have f3 := h7.o.free 0; have f4 := h7.h.free 0
    replace e5 : W.cell? ⟨B + 5, 0, none⟩ = some (.int .i64 st.bef) := e5
    replace e6 : W.cell? ⟨B + 6, 0, none⟩ = some (.int .i64 st.aft) := e6
    replace e3 : W.cell? ⟨B + 3, 0, none⟩ = some vO := e3
    replace e4 : W.cell? ⟨B + 4, 0, none⟩ = some vH := e4
    obtain ⟨st2, hst, hrun⟩ := run_next (fun b hb => okKs_len xs _ _ HCH.out b hb) h1 hpx
    have hp7 := h7.setN n
    have hl7 : Lv S W (W.setCell ⟨B + 7, 0, none⟩ (.int .i64 n)) := (Lv.refl S W).setCell (p := ⟨B + 7, 0, none⟩) (fun _ => by rw [h8]; exact .inl ⟨by show B + 3 ≤ B + 7; omega, by show B + 7 ≤ B + 7; omega⟩) _
    have bz7 : Blk (W.setCell ⟨B + 7, 0, none⟩ (.int .i64 n)) z (.cells #[.string s2, .bool true] 121) := bz.far (p := ⟨B + 7, 0, none⟩) (by show z ≠ B + 7; omega) _
    have hSB : ∀ g, S g → B + 3 ≤ g := fun g hg => h7.above g (by rw [h8] at hg; exact hg)
    have hE7 : Ext w (W.setCell ⟨B + 7, 0, none⟩ (.int .i64 n)) := hl7.extBelow h9 (fun g hg h => by have := hSB g h; have := HB.out; omega)
    have HE7 := Lib.hid hE7; have HSB := Lib.hid hSB
    have BZ := Lib.hid bz; have H4 := Lib.hid h4; have H7 := Lib.hid h7; have H8 := Lib.hid h8; have H9 := Lib.hid h9; have HX := Lib.hid hx; have HPX := Lib.hid hpx; have HS2 := Lib.hid hs2; have HRUN := Lib.hid hrun
    have HP7 := Lib.hid hp7; have HL7 := Lib.hid hl7; have BZ7 := Lib.hid bz7
    clear hEa hba hvb bz hy h1 h4 h7 h8 h9 hx hpx hs2 henc hSl hz hp7 hl7 bz7 hrun hE7 hSB
    cases hst with
    | hdr _ b g1 g2 =>
      obtain ⟨sout, sbef, saft⟩ := st
      obtain ⟨rfl, rfl⟩ : sbef = 0 ∧ saft = 0 := by simp only at g1; omega
      have G2 := Lib.hid g2; clear g1 g2
      gi_wp2
      have hhd := header_is (b := b) (s := s2) HS2.out.symm HX.out.1 (HM.out.ext HE7.out)
      refine ⟨trivial, rfl, CallsIn.inRound l (callsIn_wide.2 (hhd.mono ?_))⟩
      clear hhd
      rintro e w5 ⟨rfl, hE5⟩
      have HP5 := Lib.hid (HP7.out.ext hE5); have HL5 := Lib.hid (HL7.out.ext hE5); have HE5 := Lib.hid (HE7.out.trans hE5)
      clear HP7 HL7 HE7 BZ7 hE5 c0 c1 e7 f7 e5 e6 e3 e4 f5 f6 f3 f4
      gi_wp2
      obtain ⟨z5, hz5⟩ : ∃ z5, w5.heap.size = z5 := ⟨_, rfl⟩
      obtain ⟨W5, hW5⟩ : ∃ W5, W5 = w5.alloc (BkM.obj (BkM.hd b)) := ⟨_, rfl⟩
      have b5 := Blk.new w5 (BkM.obj (BkM.hd b)) hz5.symm
      have p5 := HP5.out.ext ((Ext.refl w5).alloc (BkM.obj (BkM.hd b)))
      have l5 := HL5.out.ext ((Ext.refl w5).alloc (BkM.obj (BkM.hd b)))
      have hzO : vO.ownBlock ≠ some z5 := fun e => by obtain ⟨_, c, hc⟩ := own_blk HP5.out.ownO e; have := hc.lt; omega
      have hzH : vH.ownBlock ≠ some z5 := fun e => by obtain ⟨_, c, hc⟩ := own_blk HP5.out.ownH e; have := hc.lt; omega
      have hlow5 := HP5.out.low
      rw [← hW5] at b5 p5 l5 ⊢
      rw [hz5]
      have hz5B : B + 8 ≤ z5 := by omega
      have BB5 := Lib.hid b5; have PP5 := Lib.hid p5; have LL5 := Lib.hid l5; have ZO := Lib.hid hzO; have ZH := Lib.hid hzH
      clear hW5 b5 p5 l5 hzO hzH hz5 HP5 HL5 hlow5
      obtain ⟨inf, i1, i2, i3, i4⟩ := info_of infoBk
      obtain ⟨jnf, j1, j2, j3, j4⟩ := info_of infoInt
      refine wpIn_region_Y 8 (fun wx => Blk wx (B + 3) (.cells #[vO] 44) ∧ Blk wx (B + 4) (.cells #[vH] 49) ∧ Blk wx z5 (BkM.obj (BkM.hd b))) (fun wx => PMem B vO vO vH vH vs' vs' sout (sout.map fun b => b.ls.map lnS) nh hs 0 0 wx ∧ Blk wx z5 (BkM.obj (BkM.hd b)) ∧ Lv S W wx) (by kernel_rfl) (by kernel_rfl) (fun ⟨_, _, h⟩ => h)
        ⟨PP5.out.ext (Ext.refl _).drew, BB5.out.drew, LL5.out.drew⟩ (wpY_takes (by kernel_rfl) (fun _ d _ _ _ h => by cases d <;> exact h) (fun _ _ e h => ⟨h.1.ext e, h.2.1.ext e, h.2.2.ext e⟩) (fun _ h => ⟨h.1.o, h.1.h, h.2.1⟩) (fuel := 6) [0, 1, 4, 5] _ _ (Waited.start _) (by kernel_rfl) (by kernel_rfl) (by kernel_rfl) ?_)
      iterate 4
        refine wpTk_want rfl (Eq.refl true) ?_
        apply Exists.intro
        refine ⟨fun wx hx => ?_, ?_⟩
        · obtain ⟨d0, d1, d2, d3, d4⟩ := hx.2.2.cells5
          have d5 := hx.1.cell 0; have d6 := hx.2.1.cell 0
          replace d5 : wx.cell? ⟨B + 3, 0, none⟩ = some vO := d5
          replace d6 : wx.cell? ⟨B + 4, 0, none⟩ = some vH := d6
          clear hx
          go_simp
          with_reducible exact gives_ok _ _ _
        simp only [Act.put, List.setIfInBounds_toArray, List.set_cons_zero, List.set_cons_succ]
      refine wpTk_nil ?_
      have hz0B : B + 9 ≤ W.heap.size := by have := Z0.out; omega
      have hown0 : ∀ wx g, PMem B vO vO vH vH vs' vs' sout (sout.map fun b => b.ls.map lnS) nh hs 0 0 wx → vO.ownBlock = some g → g < wx.heap.size := fun wx g hp hg => by obtain ⟨_, c, hc⟩ := own_blk hp.ownO hg; exact hc.lt
      refine wpY_all (rs := [2, 6]) (by kernel_rfl) (by simp) (fun i hi wz hz K hK => ?_)
      rcases (by simpa using hi : i = 2 ∨ i = 6) with rfl | rfl
      · clear hi
        refine wpOp_of rfl rfl ?_
        obtain ⟨z2, hz2⟩ : ∃ z, wz.heap.size = z := ⟨_, rfl⟩
        have nb := Blk.new wz (.cells #[.int .i64 b.oa, .int .i64 b.ol, .int .i64 b.na, .int .i64 b.nl, .slice none 0 0] 80) hz2.symm
        have ne := (Ext.refl wz).alloc (.cells #[.int .i64 b.oa, .int .i64 b.ol, .int .i64 b.na, .int .i64 b.nl, .slice none 0 0] 80)
        have kA := (⟨hz.1.ext ne, hz.2.1.ext ne, hz.2.2.ext ne, nb⟩ : _ ∧ _ ∧ _ ∧ _)
        clear hz
        go_simp
        refine hK _ _ ⟨(fun wx => PMem B vO vO vH vH vs' vs' sout (sout.map fun b : Bk => b.ls.map lnS) nh hs 0 0 wx ∧ Blk wx z5 (BkM.obj (BkM.hd b)) ∧ Lv S W wx ∧ Blk wx z2 (.cells #[.int .i64 b.oa, .int .i64 b.ol, .int .i64 b.na, .int .i64 b.nl, .slice none 0 0] 80)), (fun _ _ e h => ⟨h.1.ext e, h.2.1.ext e, h.2.2.1.ext e, h.2.2.2.ext e⟩), .inr fun _ h => ⟨h.1.o, h.1.h, h.2.1⟩, kA, ?_⟩
        clear nb ne kA hK K hz2 wz
        refine wpY_all (rs := [3, 6]) (by kernel_rfl) (by simp) (fun i hi wz hz K hK => ?_)
        rcases (by simpa using hi : i = 3 ∨ i = 6) with rfl | rfl
        · clear hi
          refine wpOp_of rfl rfl ?_
          refine wp_append (.tmp 43) (.tmp 45) 44 rfl (B + 9) 80 inf _ 5 56 underBk i1 i2 i3 i4 rfl (by decide) vO sout.length (bcs sout vs') (some ⟨z2, 0, none⟩) 1 1 [.int .i64 b.oa, .int .i64 b.ol, .int .i64 b.na, .int .i64 b.nl, .slice none 0 0] rfl rfl rfl (by intro u hu; simp only [List.mem_cons, List.not_mem_nil, or_false] at hu; rcases hu with rfl | rfl | rfl | rfl | rfl <;> rfl) (by simp only [maxLen]; omega) (by omega) hz.1.ownO (.inr ⟨z2, 0, rfl, fun j u hu => by rw [hz.2.2.2.cell]; simpa using hu⟩) (Nat.le_trans hz0B hz.2.2.1.size) (fun vO1 wy hown hgr hbl => ?_)
          obtain ⟨q1, k1, rfl⟩ := ownsRow_succ hown
          have hO1 : ∀ g, Value.ownBlock (.slice (some ⟨q1, 0, none⟩) (sout.length + 1) k1) = some g → vO.ownBlock = some g ∨ W.heap.size ≤ g := fun g hg => by
            rcases hbl with h | ⟨g', h, hle⟩
            · exact .inl (h ▸ hg)
            · rw [h] at hg; cases hg; exact .inr (Nat.le_trans hz.2.2.1.size hle)
          have kM := hz.1.addO (b := b) hgr hown
          have kZ : Blk wy z5 (BkM.obj (BkM.hd b)) := (hgr.block z5 hz.2.1.lt (fun e => ZO.out e.symm)).trans hz.2.1
          have kL : Lv S W wy := hz.2.2.1.grown hgr (fun k hk _ => by rw [H8.out]; exact .inr (.inl hk))
          simp only [Act.put, List.setIfInBounds_toArray, List.set_cons_zero, List.set_cons_succ]
          refine hK _ _ ⟨(fun wx => PMem B vO (.slice (some ⟨q1, 0, none⟩) (sout.length + 1) k1) vH vH (vs' ++ [.slice none 0 0]) (vs' ++ [.slice none 0 0]) (sout ++ [b]) ((sout.map fun b : Bk => b.ls.map lnS) ++ [[]]) nh hs 0 0 wx ∧ Blk wx z5 (BkM.obj (BkM.hd b)) ∧ Lv S W wx), (fun _ _ e h => ⟨h.1.ext e, h.2.1.ext e, h.2.2.ext e⟩), .inr fun _ h => ⟨h.1.o, h.1.h, h.2.1⟩, ⟨kM, kZ, kL⟩, ?_⟩
          clear kM kZ kL hown hgr hbl hK K hz wz wy
          refine wpY_one 6 (by kernel_rfl) rfl rfl (fun wz hz K hK => ?_)
          obtain ⟨z6, hz6⟩ : ∃ z, wz.heap.size = z := ⟨_, rfl⟩
          have nb := Blk.new wz (.cells #[.int .i64 n] 3) hz6.symm
          have ne := (Ext.refl wz).alloc (.cells #[.int .i64 n] 3)
          have kA := (⟨hz.1.ext ne, hz.2.1.ext ne, hz.2.2.ext ne, nb⟩ : _ ∧ _ ∧ _ ∧ _)
          clear hz
          go_simp
          refine hK _ _ ⟨(fun wx => PMem B vO (.slice (some ⟨q1, 0, none⟩) (sout.length + 1) k1) vH vH (vs' ++ [.slice none 0 0]) (vs' ++ [.slice none 0 0]) (sout ++ [b]) ((sout.map fun b : Bk => b.ls.map lnS) ++ [[]]) nh hs 0 0 wx ∧ Blk wx z5 (BkM.obj (BkM.hd b)) ∧ Lv S W wx ∧ Blk wx z6 (.cells #[.int .i64 n] 3)), (fun _ _ e h => ⟨h.1.ext e, h.2.1.ext e, h.2.2.1.ext e, h.2.2.2.ext e⟩), .inr fun _ h => ⟨h.1.o, h.1.h, h.2.1⟩, kA, ?_⟩
          clear nb ne kA hK K hz6 wz
          refine wpY_one 7 (by kernel_rfl) rfl rfl (fun wz hz K hK => ?_)
          refine wp_append (.tmp 47) (.tmp 49) 49 rfl (B + 9) 3 jnf _ 1 8 underInts j1 j2 j3 j4 rfl (by decide) vH nh hs (some ⟨z6, 0, none⟩) 1 1 [.int .i64 n] rfl rfl rfl (by intro u hu; simp at hu; subst hu; rfl) (by simp only [maxLen]; omega) (by omega) hz.1.ownH (.inr ⟨z6, 0, rfl, fun j u hu => by rw [hz.2.2.2.cell]; simpa using hu⟩) (Nat.le_trans hz0B hz.2.2.1.size) (fun vH1 wy hown hgr hbl => ?_)
          obtain ⟨q2, k2, rfl⟩ := ownsRow_succ hown
          have hH1 : ∀ g, Value.ownBlock (.slice (some ⟨q2, 0, none⟩) (nh + 1) k2) = some g → vH.ownBlock = some g ∨ W.heap.size ≤ g := fun g hg => by
            rcases hbl with h | ⟨g', h, hle⟩
            · exact .inl (h ▸ hg)
            · rw [h] at hg; cases hg; exact .inr (Nat.le_trans hz.2.2.1.size hle)
          have kM := hz.1.addH hgr hown
          have kZ : Blk wy z5 (BkM.obj (BkM.hd b)) := (hgr.block z5 hz.2.1.lt (fun e => ZH.out e.symm)).trans hz.2.1
          have kL : Lv S W wy := hz.2.2.1.grown hgr (fun k hk _ => by rw [H8.out]; exact .inr (.inr (.inl hk)))
          simp only [Act.put, List.setIfInBounds_toArray, List.set_cons_zero, List.set_cons_succ]
          refine hK _ _ ⟨(fun wx => PMem B vO (.slice (some ⟨q1, 0, none⟩) (sout.length + 1) k1) vH (.slice (some ⟨q2, 0, none⟩) (nh + 1) k2) (vs' ++ [.slice none 0 0]) (vs' ++ [.slice none 0 0]) (sout ++ [b]) ((sout.map fun b : Bk => b.ls.map lnS) ++ [[]]) (nh + 1) (hs ++ [.int .i64 n]) 0 0 wx ∧ Blk wx z5 (BkM.obj (BkM.hd b)) ∧ Lv S W wx), (fun _ _ e h => ⟨h.1.ext e, h.2.1.ext e, h.2.2.ext e⟩), .inr fun _ h => ⟨h.1.o, h.1.h, h.2.1⟩, ⟨kM, kZ, kL⟩, ?_⟩
          clear kM kZ kL hown hgr hbl hK K hz wz wy
          refine wpY_one 8 (by kernel_rfl) rfl rfl (fun wz hz K hK => ?_)
          have d3 := hz.1.o.cell 0
          have f3 := hz.1.o.free 0
          replace d3 : wz.cell? ⟨B + 3, 0, none⟩ = some vO := d3
          have kM := hz.1.setO (.slice (some ⟨q1, 0, none⟩) (sout.length + 1) k1)
          have kZ := hz.2.1.far (p := ⟨B + 3, 0, none⟩) (by show z5 ≠ B + 3; omega) (.slice (some ⟨q1, 0, none⟩) (sout.length + 1) k1)
          have kL := hz.2.2.setCell (p := ⟨B + 3, 0, none⟩) (fun _ => by rw [H8.out]; exact .inl ⟨by show B + 3 ≤ B + 3; omega, by show B + 3 ≤ B + 7; omega⟩) (.slice (some ⟨q1, 0, none⟩) (sout.length + 1) k1)
          clear hz
          go_simp
          refine hK _ _ ⟨(fun wx => PMem B (.slice (some ⟨q1, 0, none⟩) (sout.length + 1) k1) (.slice (some ⟨q1, 0, none⟩) (sout.length + 1) k1) vH (.slice (some ⟨q2, 0, none⟩) (nh + 1) k2) (vs' ++ [.slice none 0 0]) (vs' ++ [.slice none 0 0]) (sout ++ [b]) ((sout.map fun b : Bk => b.ls.map lnS) ++ [[]]) (nh + 1) (hs ++ [.int .i64 n]) 0 0 wx ∧ Blk wx z5 (BkM.obj (BkM.hd b)) ∧ Lv S W wx), (fun _ _ e h => ⟨h.1.ext e, h.2.1.ext e, h.2.2.ext e⟩), .inl (by kernel_rfl), ⟨kM, kZ, kL⟩, ?_⟩
          clear d3 f3 kM kZ kL hK K wz
          refine wpY_one 9 (by kernel_rfl) rfl rfl (fun wz hz K hK => ?_)
          have d4 := hz.1.h.cell 0
          have f4 := hz.1.h.free 0
          replace d4 : wz.cell? ⟨B + 4, 0, none⟩ = some vH := d4
          have kM := hz.1.setH (.slice (some ⟨q2, 0, none⟩) (nh + 1) k2)
          have kZ := hz.2.1.far (p := ⟨B + 4, 0, none⟩) (by show z5 ≠ B + 4; omega) (.slice (some ⟨q2, 0, none⟩) (nh + 1) k2)
          have kL := hz.2.2.setCell (p := ⟨B + 4, 0, none⟩) (fun _ => by rw [H8.out]; exact .inl ⟨by show B + 3 ≤ B + 4; omega, by show B + 4 ≤ B + 7; omega⟩) (.slice (some ⟨q2, 0, none⟩) (nh + 1) k2)
          clear hz
          go_simp
          refine hK _ _ ⟨(fun wx => PMem B (.slice (some ⟨q1, 0, none⟩) (sout.length + 1) k1) (.slice (some ⟨q1, 0, none⟩) (sout.length + 1) k1) (.slice (some ⟨q2, 0, none⟩) (nh + 1) k2) (.slice (some ⟨q2, 0, none⟩) (nh + 1) k2) (vs' ++ [.slice none 0 0]) (vs' ++ [.slice none 0 0]) (sout ++ [b]) ((sout.map fun b : Bk => b.ls.map lnS) ++ [[]]) (nh + 1) (hs ++ [.int .i64 n]) 0 0 wx ∧ Blk wx z5 (BkM.obj (BkM.hd b)) ∧ Lv S W wx), (fun _ _ e h => ⟨h.1.ext e, h.2.1.ext e, h.2.2.ext e⟩), .inl (by kernel_rfl), ⟨kM, kZ, kL⟩, ?_⟩
          clear d4 f4 kM kZ kL hK K wz
          refine wpY_done (by kernel_rfl) (fun wz hz => ?_) _
          have HZ := Lib.hid hz
          clear hz
          gi_wp2
          refine wpIn_region_X (T := fun wx => Blk wx z5 (BkM.obj (BkM.hd b))) (fun wx => PMem B (.slice (some ⟨q1, 0, none⟩) (sout.length + 1) k1) (.slice (some ⟨q1, 0, none⟩) (sout.length + 1) k1) (.slice (some ⟨q2, 0, none⟩) (nh + 1) k2) (.slice (some ⟨q2, 0, none⟩) (nh + 1) k2) (vs' ++ [.slice none 0 0]) (vs' ++ [.slice none 0 0]) (sout ++ [b]) ((sout.map fun b : Bk => b.ls.map lnS) ++ [[]]) (nh + 1) (hs ++ [.int .i64 n]) 0 0 wx ∧ Blk wx z5 (BkM.obj (BkM.hd b)) ∧ Lv S W wx) (by kernel_rfl) (by kernel_rfl) (fun ⟨_, _, h⟩ => h) ⟨HZ.out.1.ext (Ext.refl _).drew, HZ.out.2.1.drew, HZ.out.2.2.ext (Ext.refl _).drew⟩ (wpX_takes (by kernel_rfl) (fun _ d _ _ _ h => by cases d <;> exact h) (fun _ _ e h => ⟨h.1.ext e, h.2.1.ext e, h.2.2.ext e⟩) (fun _ h => h.2.1) (fuel := 2) [0, 1, 2, 3] _ _ (by kernel_rfl) ?_)
          iterate 4
            refine wpTk_want rfl (Eq.refl true) ?_
            apply Exists.intro
            refine ⟨fun wx hx => ?_, ?_⟩
            · obtain ⟨d0, d1, d2, d3, d4⟩ := hx.cells5
              clear hx
              go_simp
              with_reducible exact gives_ok _ _ _
            simp only [Act.put, List.setIfInBounds_toArray, List.set_cons_zero, List.set_cons_succ]
          refine wpTk_nil ?_
          clear HZ wz
          refine wpX_one 4 (by kernel_rfl) rfl rfl (fun wz hz K hK => ?_)
          have d5 := hz.1.bf.cell 0
          have f5 := hz.1.bf.free 0
          replace d5 : wz.cell? ⟨B + 5, 0, none⟩ = some (.int .i64 0) := d5
          have kM := hz.1.setB b.ol
          have kZ := hz.2.1.far (p := ⟨B + 5, 0, none⟩) (by show z5 ≠ B + 5; omega) (.int .i64 b.ol)
          have kL := hz.2.2.setCell (p := ⟨B + 5, 0, none⟩) (fun _ => by rw [H8.out]; exact .inl ⟨by show B + 3 ≤ B + 5; omega, by show B + 5 ≤ B + 7; omega⟩) (.int .i64 b.ol)
          clear hz
          go_simp
          refine hK _ _ ⟨(fun wx => PMem B (.slice (some ⟨q1, 0, none⟩) (sout.length + 1) k1) (.slice (some ⟨q1, 0, none⟩) (sout.length + 1) k1) (.slice (some ⟨q2, 0, none⟩) (nh + 1) k2) (.slice (some ⟨q2, 0, none⟩) (nh + 1) k2) (vs' ++ [.slice none 0 0]) (vs' ++ [.slice none 0 0]) (sout ++ [b]) ((sout.map fun b : Bk => b.ls.map lnS) ++ [[]]) (nh + 1) (hs ++ [.int .i64 n]) b.ol 0 wx ∧ Blk wx z5 (BkM.obj (BkM.hd b)) ∧ Lv S W wx), (fun _ _ e h => ⟨h.1.ext e, h.2.1.ext e, h.2.2.ext e⟩), fun _ h => h.2.1, ⟨kM, kZ, kL⟩, ?_⟩
          clear d5 f5 kM kZ kL hK K wz
          refine wpX_one 5 (by kernel_rfl) rfl rfl (fun wz hz K hK => ?_)
          have d6 := hz.1.af.cell 0
          have f6 := hz.1.af.free 0
          replace d6 : wz.cell? ⟨B + 6, 0, none⟩ = some (.int .i64 0) := d6
          have kM := hz.1.setA b.nl
          have kZ := hz.2.1.far (p := ⟨B + 6, 0, none⟩) (by show z5 ≠ B + 6; omega) (.int .i64 b.nl)
          have kL := hz.2.2.setCell (p := ⟨B + 6, 0, none⟩) (fun _ => by rw [H8.out]; exact .inl ⟨by show B + 3 ≤ B + 6; omega, by show B + 6 ≤ B + 7; omega⟩) (.int .i64 b.nl)
          clear hz
          go_simp
          refine hK _ _ ⟨(fun wx => PMem B (.slice (some ⟨q1, 0, none⟩) (sout.length + 1) k1) (.slice (some ⟨q1, 0, none⟩) (sout.length + 1) k1) (.slice (some ⟨q2, 0, none⟩) (nh + 1) k2) (.slice (some ⟨q2, 0, none⟩) (nh + 1) k2) (vs' ++ [.slice none 0 0]) (vs' ++ [.slice none 0 0]) (sout ++ [b]) ((sout.map fun b : Bk => b.ls.map lnS) ++ [[]]) (nh + 1) (hs ++ [.int .i64 n]) b.ol b.nl wx ∧ Blk wx z5 (BkM.obj (BkM.hd b)) ∧ Lv S W wx), (fun _ _ e h => ⟨h.1.ext e, h.2.1.ext e, h.2.2.ext e⟩), fun _ h => h.2.1, ⟨kM, kZ, kL⟩, ?_⟩
          clear d6 f6 kM kZ kL hK K wz
          refine wpX_done (by kernel_rfl) (fun wz hz => ?_) _
          have HZ := Lib.hid hz
          clear hz
          gi_wp2
          have hm9 := HZ.out.1
          have hg2 := G2.out
          have hsm := HX.out.1
          have hlen2 : (pre ++ [Tk.hdr b]).length = pre.length + 1 := by simp
          refine ⟨PS B (.slice (some ⟨q1, 0, none⟩) (sout.length + 1) k1) (.slice (some ⟨q2, 0, none⟩) (nh + 1) k2) (vs' ++ [.slice none 0 0]), HZ.out.2.2, fun g hg => ?_, hm9.size, (.slice (some ⟨q1, 0, none⟩) (sout.length + 1) k1), (.slice (some ⟨q2, 0, none⟩) (nh + 1) k2), vs' ++ [.slice none 0 0], ⟨sout ++ [b], b.ol, b.nl⟩, nh + 1, hs ++ [.int .i64 n], HRUN.out, by rw [hlen2]; omega, by rw [hlen2]; simp; exact h3, ?_, by have := hsm.ol; simp only; omega, by have := hsm.nl; simp only; omega, ?_, rfl, ?_⟩
          · rw [H8.out]
            rcases hg with hg | hg | hg | ⟨v, hv, hg⟩
            · exact .inl (.inl hg)
            · rcases hO1 g hg with h | h
              · exact .inl (.inr (.inl h))
              · exact .inr h
            · rcases hH1 g hg with h | h
              · exact .inl (.inr (.inr (.inl h)))
              · exact .inr h
            · rcases List.mem_append.1 hv with hv | hv
              · exact .inl (.inr (.inr (.inr ⟨v, hv, hg⟩)))
              · obtain rfl := List.mem_singleton.1 hv
                cases hg
          · intro x hx
            rw [hlen2]
            rcases List.mem_append.1 hx with hx | hx
            · have := H4.out x hx; omega
            · obtain rfl := List.mem_singleton.1 hx
              rw [hg2]; simp
          · have e9 : ((sout ++ [b]).map fun b : Bk => b.ls.map lnS) = (sout.map fun b : Bk => b.ls.map lnS) ++ [[]] := by simp [hg2]
            simp only [e9]
            exact hm9
          · exact HZ.out.2.2.extBelow H9.out (fun g hg h => by have := HSB.out g h; have := HB.out; omega)
        · clear hi
          refine wpOp_of rfl rfl ?_
          obtain ⟨z6, hz6⟩ : ∃ z, wz.heap.size = z := ⟨_, rfl⟩
          have nb := Blk.new wz (.cells #[.int .i64 n] 3) hz6.symm
          have ne := (Ext.refl wz).alloc (.cells #[.int .i64 n] 3)
          have kA := (⟨hz.1.ext ne, hz.2.1.ext ne, hz.2.2.1.ext ne, hz.2.2.2.ext ne, nb, (show vO.ownBlock ≠ some z6 from fun e => by have := hown0 _ _ hz.1 e; omega)⟩ : _ ∧ _ ∧ _ ∧ _ ∧ _ ∧ _)
          clear hz
          go_simp
          refine hK _ _ ⟨(fun wx => PMem B vO vO vH vH vs' vs' sout (sout.map fun b : Bk => b.ls.map lnS) nh hs 0 0 wx ∧ Blk wx z5 (BkM.obj (BkM.hd b)) ∧ Lv S W wx ∧ Blk wx z2 (.cells #[.int .i64 b.oa, .int .i64 b.ol, .int .i64 b.na, .int .i64 b.nl, .slice none 0 0] 80) ∧ Blk wx z6 (.cells #[.int .i64 n] 3) ∧ vO.ownBlock ≠ some z6), (fun _ _ e h => ⟨h.1.ext e, h.2.1.ext e, h.2.2.1.ext e, h.2.2.2.1.ext e, h.2.2.2.2.1.ext e, h.2.2.2.2.2⟩), .inr fun _ h => ⟨h.1.o, h.1.h, h.2.1⟩, kA, ?_⟩
          clear nb ne kA hK K hz6 wz
          refine wpY_one 3 (by kernel_rfl) rfl rfl (fun wz hz K hK => ?_)
          refine wp_append (.tmp 43) (.tmp 45) 44 rfl (B + 9) 80 inf _ 5 56 underBk i1 i2 i3 i4 rfl (by decide) vO sout.length (bcs sout vs') (some ⟨z2, 0, none⟩) 1 1 [.int .i64 b.oa, .int .i64 b.ol, .int .i64 b.na, .int .i64 b.nl, .slice none 0 0] rfl rfl rfl (by intro u hu; simp only [List.mem_cons, List.not_mem_nil, or_false] at hu; rcases hu with rfl | rfl | rfl | rfl | rfl <;> rfl) (by simp only [maxLen]; omega) (by omega) hz.1.ownO (.inr ⟨z2, 0, rfl, fun j u hu => by rw [hz.2.2.2.1.cell]; simpa using hu⟩) (Nat.le_trans hz0B hz.2.2.1.size) (fun vO1 wy hown hgr hbl => ?_)
          obtain ⟨q1, k1, rfl⟩ := ownsRow_succ hown
          have hO1 : ∀ g, Value.ownBlock (.slice (some ⟨q1, 0, none⟩) (sout.length + 1) k1) = some g → vO.ownBlock = some g ∨ W.heap.size ≤ g := fun g hg => by
            rcases hbl with h | ⟨g', h, hle⟩
            · exact .inl (h ▸ hg)
            · rw [h] at hg; cases hg; exact .inr (Nat.le_trans hz.2.2.1.size hle)
          have kM := hz.1.addO (b := b) hgr hown
          have kZ : Blk wy z5 (BkM.obj (BkM.hd b)) := (hgr.block z5 hz.2.1.lt (fun e => ZO.out e.symm)).trans hz.2.1
          have kL : Lv S W wy := hz.2.2.1.grown hgr (fun k hk _ => by rw [H8.out]; exact .inr (.inl hk))
          have k6 : Blk wy z6 (.cells #[.int .i64 n] 3) := (hgr.block z6 hz.2.2.2.2.1.lt (fun e => hz.2.2.2.2.2 e.symm)).trans hz.2.2.2.2.1
          simp only [Act.put, List.setIfInBounds_toArray, List.set_cons_zero, List.set_cons_succ]
          refine hK _ _ ⟨(fun wx => PMem B vO (.slice (some ⟨q1, 0, none⟩) (sout.length + 1) k1) vH vH (vs' ++ [.slice none 0 0]) (vs' ++ [.slice none 0 0]) (sout ++ [b]) ((sout.map fun b : Bk => b.ls.map lnS) ++ [[]]) nh hs 0 0 wx ∧ Blk wx z5 (BkM.obj (BkM.hd b)) ∧ Lv S W wx ∧ Blk wx z6 (.cells #[.int .i64 n] 3)), (fun _ _ e h => ⟨h.1.ext e, h.2.1.ext e, h.2.2.1.ext e, h.2.2.2.ext e⟩), .inr fun _ h => ⟨h.1.o, h.1.h, h.2.1⟩, ⟨kM, kZ, kL, k6⟩, ?_⟩
          clear kM kZ kL k6 hown hgr hbl hK K hz wz wy
          refine wpY_one 7 (by kernel_rfl) rfl rfl (fun wz hz K hK => ?_)
          refine wp_append (.tmp 47) (.tmp 49) 49 rfl (B + 9) 3 jnf _ 1 8 underInts j1 j2 j3 j4 rfl (by decide) vH nh hs (some ⟨z6, 0, none⟩) 1 1 [.int .i64 n] rfl rfl rfl (by intro u hu; simp at hu; subst hu; rfl) (by simp only [maxLen]; omega) (by omega) hz.1.ownH (.inr ⟨z6, 0, rfl, fun j u hu => by rw [hz.2.2.2.cell]; simpa using hu⟩) (Nat.le_trans hz0B hz.2.2.1.size) (fun vH1 wy hown hgr hbl => ?_)
          obtain ⟨q2, k2, rfl⟩ := ownsRow_succ hown
          have hH1 : ∀ g, Value.ownBlock (.slice (some ⟨q2, 0, none⟩) (nh + 1) k2) = some g → vH.ownBlock = some g ∨ W.heap.size ≤ g := fun g hg => by
            rcases hbl with h | ⟨g', h, hle⟩
            · exact .inl (h ▸ hg)
            · rw [h] at hg; cases hg; exact .inr (Nat.le_trans hz.2.2.1.size hle)
          have kM := hz.1.addH hgr hown
          have kZ : Blk wy z5 (BkM.obj (BkM.hd b)) := (hgr.block z5 hz.2.1.lt (fun e => ZH.out e.symm)).trans hz.2.1
          have kL : Lv S W wy := hz.2.2.1.grown hgr (fun k hk _ => by rw [H8.out]; exact .inr (.inr (.inl hk)))
          simp only [Act.put, List.setIfInBounds_toArray, List.set_cons_zero, List.set_cons_succ]
          refine hK _ _ ⟨(fun wx => PMem B vO (.slice (some ⟨q1, 0, none⟩) (sout.length + 1) k1) vH (.slice (some ⟨q2, 0, none⟩) (nh + 1) k2) (vs' ++ [.slice none 0 0]) (vs' ++ [.slice none 0 0]) (sout ++ [b]) ((sout.map fun b : Bk => b.ls.map lnS) ++ [[]]) (nh + 1) (hs ++ [.int .i64 n]) 0 0 wx ∧ Blk wx z5 (BkM.obj (BkM.hd b)) ∧ Lv S W wx), (fun _ _ e h => ⟨h.1.ext e, h.2.1.ext e, h.2.2.ext e⟩), .inr fun _ h => ⟨h.1.o, h.1.h, h.2.1⟩, ⟨kM, kZ, kL⟩, ?_⟩
          clear kM kZ kL hown hgr hbl hK K hz wz wy
          refine wpY_one 8 (by kernel_rfl) rfl rfl (fun wz hz K hK => ?_)
          have d3 := hz.1.o.cell 0
          have f3 := hz.1.o.free 0
          replace d3 : wz.cell? ⟨B + 3, 0, none⟩ = some vO := d3
          have kM := hz.1.setO (.slice (some ⟨q1, 0, none⟩) (sout.length + 1) k1)
          have kZ := hz.2.1.far (p := ⟨B + 3, 0, none⟩) (by show z5 ≠ B + 3; omega) (.slice (some ⟨q1, 0, none⟩) (sout.length + 1) k1)
          have kL := hz.2.2.setCell (p := ⟨B + 3, 0, none⟩) (fun _ => by rw [H8.out]; exact .inl ⟨by show B + 3 ≤ B + 3; omega, by show B + 3 ≤ B + 7; omega⟩) (.slice (some ⟨q1, 0, none⟩) (sout.length + 1) k1)
          clear hz
          go_simp
          refine hK _ _ ⟨(fun wx => PMem B (.slice (some ⟨q1, 0, none⟩) (sout.length + 1) k1) (.slice (some ⟨q1, 0, none⟩) (sout.length + 1) k1) vH (.slice (some ⟨q2, 0, none⟩) (nh + 1) k2) (vs' ++ [.slice none 0 0]) (vs' ++ [.slice none 0 0]) (sout ++ [b]) ((sout.map fun b : Bk => b.ls.map lnS) ++ [[]]) (nh + 1) (hs ++ [.int .i64 n]) 0 0 wx ∧ Blk wx z5 (BkM.obj (BkM.hd b)) ∧ Lv S W wx), (fun _ _ e h => ⟨h.1.ext e, h.2.1.ext e, h.2.2.ext e⟩), .inl (by kernel_rfl), ⟨kM, kZ, kL⟩, ?_⟩
          clear d3 f3 kM kZ kL hK K wz
          refine wpY_one 9 (by kernel_rfl) rfl rfl (fun wz hz K hK => ?_)
          have d4 := hz.1.h.cell 0
          have f4 := hz.1.h.free 0
          replace d4 : wz.cell? ⟨B + 4, 0, none⟩ = some vH := d4
          have kM := hz.1.setH (.slice (some ⟨q2, 0, none⟩) (nh + 1) k2)
          have kZ := hz.2.1.far (p := ⟨B + 4, 0, none⟩) (by show z5 ≠ B + 4; omega) (.slice (some ⟨q2, 0, none⟩) (nh + 1) k2)
          have kL := hz.2.2.setCell (p := ⟨B + 4, 0, none⟩) (fun _ => by rw [H8.out]; exact .inl ⟨by show B + 3 ≤ B + 4; omega, by show B + 4 ≤ B + 7; omega⟩) (.slice (some ⟨q2, 0, none⟩) (nh + 1) k2)
          clear hz
          go_simp
          refine hK _ _ ⟨(fun wx => PMem B (.slice (some ⟨q1, 0, none⟩) (sout.length + 1) k1) (.slice (some ⟨q1, 0, none⟩) (sout.length + 1) k1) (.slice (some ⟨q2, 0, none⟩) (nh + 1) k2) (.slice (some ⟨q2, 0, none⟩) (nh + 1) k2) (vs' ++ [.slice none 0 0]) (vs' ++ [.slice none 0 0]) (sout ++ [b]) ((sout.map fun b : Bk => b.ls.map lnS) ++ [[]]) (nh + 1) (hs ++ [.int .i64 n]) 0 0 wx ∧ Blk wx z5 (BkM.obj (BkM.hd b)) ∧ Lv S W wx), (fun _ _ e h => ⟨h.1.ext e, h.2.1.ext e, h.2.2.ext e⟩), .inl (by kernel_rfl), ⟨kM, kZ, kL⟩, ?_⟩
          clear d4 f4 kM kZ kL hK K wz
          refine wpY_done (by kernel_rfl) (fun wz hz => ?_) _
          have HZ := Lib.hid hz
          clear hz
          gi_wp2
          refine wpIn_region_X (T := fun wx => Blk wx z5 (BkM.obj (BkM.hd b))) (fun wx => PMem B (.slice (some ⟨q1, 0, none⟩) (sout.length + 1) k1) (.slice (some ⟨q1, 0, none⟩) (sout.length + 1) k1) (.slice (some ⟨q2, 0, none⟩) (nh + 1) k2) (.slice (some ⟨q2, 0, none⟩) (nh + 1) k2) (vs' ++ [.slice none 0 0]) (vs' ++ [.slice none 0 0]) (sout ++ [b]) ((sout.map fun b : Bk => b.ls.map lnS) ++ [[]]) (nh + 1) (hs ++ [.int .i64 n]) 0 0 wx ∧ Blk wx z5 (BkM.obj (BkM.hd b)) ∧ Lv S W wx) (by kernel_rfl) (by kernel_rfl) (fun ⟨_, _, h⟩ => h) ⟨HZ.out.1.ext (Ext.refl _).drew, HZ.out.2.1.drew, HZ.out.2.2.ext (Ext.refl _).drew⟩ (wpX_takes (by kernel_rfl) (fun _ d _ _ _ h => by cases d <;> exact h) (fun _ _ e h => ⟨h.1.ext e, h.2.1.ext e, h.2.2.ext e⟩) (fun _ h => h.2.1) (fuel := 2) [0, 1, 2, 3] _ _ (by kernel_rfl) ?_)
          iterate 4
            refine wpTk_want rfl (Eq.refl true) ?_
            apply Exists.intro
            refine ⟨fun wx hx => ?_, ?_⟩
            · obtain ⟨d0, d1, d2, d3, d4⟩ := hx.cells5
              clear hx
              go_simp
              with_reducible exact gives_ok _ _ _
            simp only [Act.put, List.setIfInBounds_toArray, List.set_cons_zero, List.set_cons_succ]
          refine wpTk_nil ?_
          clear HZ wz
          refine wpX_one 4 (by kernel_rfl) rfl rfl (fun wz hz K hK => ?_)
          have d5 := hz.1.bf.cell 0
          have f5 := hz.1.bf.free 0
          replace d5 : wz.cell? ⟨B + 5, 0, none⟩ = some (.int .i64 0) := d5
          have kM := hz.1.setB b.ol
          have kZ := hz.2.1.far (p := ⟨B + 5, 0, none⟩) (by show z5 ≠ B + 5; omega) (.int .i64 b.ol)
          have kL := hz.2.2.setCell (p := ⟨B + 5, 0, none⟩) (fun _ => by rw [H8.out]; exact .inl ⟨by show B + 3 ≤ B + 5; omega, by show B + 5 ≤ B + 7; omega⟩) (.int .i64 b.ol)
          clear hz
          go_simp
          refine hK _ _ ⟨(fun wx => PMem B (.slice (some ⟨q1, 0, none⟩) (sout.length + 1) k1) (.slice (some ⟨q1, 0, none⟩) (sout.length + 1) k1) (.slice (some ⟨q2, 0, none⟩) (nh + 1) k2) (.slice (some ⟨q2, 0, none⟩) (nh + 1) k2) (vs' ++ [.slice none 0 0]) (vs' ++ [.slice none 0 0]) (sout ++ [b]) ((sout.map fun b : Bk => b.ls.map lnS) ++ [[]]) (nh + 1) (hs ++ [.int .i64 n]) b.ol 0 wx ∧ Blk wx z5 (BkM.obj (BkM.hd b)) ∧ Lv S W wx), (fun _ _ e h => ⟨h.1.ext e, h.2.1.ext e, h.2.2.ext e⟩), fun _ h => h.2.1, ⟨kM, kZ, kL⟩, ?_⟩
          clear d5 f5 kM kZ kL hK K wz
          refine wpX_one 5 (by kernel_rfl) rfl rfl (fun wz hz K hK => ?_)
          have d6 := hz.1.af.cell 0
          have f6 := hz.1.af.free 0
          replace d6 : wz.cell? ⟨B + 6, 0, none⟩ = some (.int .i64 0) := d6
          have kM := hz.1.setA b.nl
          have kZ := hz.2.1.far (p := ⟨B + 6, 0, none⟩) (by show z5 ≠ B + 6; omega) (.int .i64 b.nl)
          have kL := hz.2.2.setCell (p := ⟨B + 6, 0, none⟩) (fun _ => by rw [H8.out]; exact .inl ⟨by show B + 3 ≤ B + 6; omega, by show B + 6 ≤ B + 7; omega⟩) (.int .i64 b.nl)
          clear hz
          go_simp
          refine hK _ _ ⟨(fun wx => PMem B (.slice (some ⟨q1, 0, none⟩) (sout.length + 1) k1) (.slice (some ⟨q1, 0, none⟩) (sout.length + 1) k1) (.slice (some ⟨q2, 0, none⟩) (nh + 1) k2) (.slice (some ⟨q2, 0, none⟩) (nh + 1) k2) (vs' ++ [.slice none 0 0]) (vs' ++ [.slice none 0 0]) (sout ++ [b]) ((sout.map fun b : Bk => b.ls.map lnS) ++ [[]]) (nh + 1) (hs ++ [.int .i64 n]) b.ol b.nl wx ∧ Blk wx z5 (BkM.obj (BkM.hd b)) ∧ Lv S W wx), (fun _ _ e h => ⟨h.1.ext e, h.2.1.ext e, h.2.2.ext e⟩), fun _ h => h.2.1, ⟨kM, kZ, kL⟩, ?_⟩
          clear d6 f6 kM kZ kL hK K wz
          refine wpX_done (by kernel_rfl) (fun wz hz => ?_) _
          have HZ := Lib.hid hz
          clear hz
          gi_wp2
          have hm9 := HZ.out.1
          have hg2 := G2.out
          have hsm := HX.out.1
          have hlen2 : (pre ++ [Tk.hdr b]).length = pre.length + 1 := by simp
          refine ⟨PS B (.slice (some ⟨q1, 0, none⟩) (sout.length + 1) k1) (.slice (some ⟨q2, 0, none⟩) (nh + 1) k2) (vs' ++ [.slice none 0 0]), HZ.out.2.2, fun g hg => ?_, hm9.size, (.slice (some ⟨q1, 0, none⟩) (sout.length + 1) k1), (.slice (some ⟨q2, 0, none⟩) (nh + 1) k2), vs' ++ [.slice none 0 0], ⟨sout ++ [b], b.ol, b.nl⟩, nh + 1, hs ++ [.int .i64 n], HRUN.out, by rw [hlen2]; omega, by rw [hlen2]; simp; exact h3, ?_, by have := hsm.ol; simp only; omega, by have := hsm.nl; simp only; omega, ?_, rfl, ?_⟩
          · rw [H8.out]
            rcases hg with hg | hg | hg | ⟨v, hv, hg⟩
            · exact .inl (.inl hg)
            · rcases hO1 g hg with h | h
              · exact .inl (.inr (.inl h))
              · exact .inr h
            · rcases hH1 g hg with h | h
              · exact .inl (.inr (.inr (.inl h)))
              · exact .inr h
            · rcases List.mem_append.1 hv with hv | hv
              · exact .inl (.inr (.inr (.inr ⟨v, hv, hg⟩)))
              · obtain rfl := List.mem_singleton.1 hv
                cases hg
          · intro x hx
            rw [hlen2]
            rcases List.mem_append.1 hx with hx | hx
            · have := H4.out x hx; omega
            · obtain rfl := List.mem_singleton.1 hx
              rw [hg2]; simp
          · have e9 : ((sout ++ [b]).map fun b : Bk => b.ls.map lnS) = (sout.map fun b : Bk => b.ls.map lnS) ++ [[]] := by simp [hg2]
            simp only [e9]
            exact hm9
          · exact HZ.out.2.2.extBelow H9.out (fun g hg h => by have := HSB.out g h; have := HB.out; omega)
      · clear hi
        refine wpOp_of rfl rfl ?_
        obtain ⟨z6, hz6⟩ : ∃ z, wz.heap.size = z := ⟨_, rfl⟩
        have nb := Blk.new wz (.cells #[.int .i64 n] 3) hz6.symm
        have ne := (Ext.refl wz).alloc (.cells #[.int .i64 n] 3)
        have kA := (⟨hz.1.ext ne, hz.2.1.ext ne, hz.2.2.ext ne, nb, (show vO.ownBlock ≠ some z6 from fun e => by have := hown0 _ _ hz.1 e; omega)⟩ : _ ∧ _ ∧ _ ∧ _ ∧ _)
        clear hz
        go_simp
        refine hK _ _ ⟨(fun wx => PMem B vO vO vH vH vs' vs' sout (sout.map fun b : Bk => b.ls.map lnS) nh hs 0 0 wx ∧ Blk wx z5 (BkM.obj (BkM.hd b)) ∧ Lv S W wx ∧ Blk wx z6 (.cells #[.int .i64 n] 3) ∧ vO.ownBlock ≠ some z6), (fun _ _ e h => ⟨h.1.ext e, h.2.1.ext e, h.2.2.1.ext e, h.2.2.2.1.ext e, h.2.2.2.2⟩), .inr fun _ h => ⟨h.1.o, h.1.h, h.2.1⟩, kA, ?_⟩
        clear nb ne kA hK K hz6 wz
        refine wpY_one 2 (by kernel_rfl) rfl rfl (fun wz hz K hK => ?_)
        obtain ⟨z2, hz2⟩ : ∃ z, wz.heap.size = z := ⟨_, rfl⟩
        have nb := Blk.new wz (.cells #[.int .i64 b.oa, .int .i64 b.ol, .int .i64 b.na, .int .i64 b.nl, .slice none 0 0] 80) hz2.symm
        have ne := (Ext.refl wz).alloc (.cells #[.int .i64 b.oa, .int .i64 b.ol, .int .i64 b.na, .int .i64 b.nl, .slice none 0 0] 80)
        have kA := (⟨hz.1.ext ne, hz.2.1.ext ne, hz.2.2.1.ext ne, nb, hz.2.2.2.1.ext ne, hz.2.2.2.2⟩ : _ ∧ _ ∧ _ ∧ _ ∧ _ ∧ _)
        clear hz
        go_simp
        refine hK _ _ ⟨(fun wx => PMem B vO vO vH vH vs' vs' sout (sout.map fun b : Bk => b.ls.map lnS) nh hs 0 0 wx ∧ Blk wx z5 (BkM.obj (BkM.hd b)) ∧ Lv S W wx ∧ Blk wx z2 (.cells #[.int .i64 b.oa, .int .i64 b.ol, .int .i64 b.na, .int .i64 b.nl, .slice none 0 0] 80) ∧ Blk wx z6 (.cells #[.int .i64 n] 3) ∧ vO.ownBlock ≠ some z6), (fun _ _ e h => ⟨h.1.ext e, h.2.1.ext e, h.2.2.1.ext e, h.2.2.2.1.ext e, h.2.2.2.2.1.ext e, h.2.2.2.2.2⟩), .inr fun _ h => ⟨h.1.o, h.1.h, h.2.1⟩, kA, ?_⟩
        clear nb ne kA hK K hz2 wz
        refine wpY_one 3 (by kernel_rfl) rfl rfl (fun wz hz K hK => ?_)
        refine wp_append (.tmp 43) (.tmp 45) 44 rfl (B + 9) 80 inf _ 5 56 underBk i1 i2 i3 i4 rfl (by decide) vO sout.length (bcs sout vs') (some ⟨z2, 0, none⟩) 1 1 [.int .i64 b.oa, .int .i64 b.ol, .int .i64 b.na, .int .i64 b.nl, .slice none 0 0] rfl rfl rfl (by intro u hu; simp only [List.mem_cons, List.not_mem_nil, or_false] at hu; rcases hu with rfl | rfl | rfl | rfl | rfl <;> rfl) (by simp only [maxLen]; omega) (by omega) hz.1.ownO (.inr ⟨z2, 0, rfl, fun j u hu => by rw [hz.2.2.2.1.cell]; simpa using hu⟩) (Nat.le_trans hz0B hz.2.2.1.size) (fun vO1 wy hown hgr hbl => ?_)
        obtain ⟨q1, k1, rfl⟩ := ownsRow_succ hown
        have hO1 : ∀ g, Value.ownBlock (.slice (some ⟨q1, 0, none⟩) (sout.length + 1) k1) = some g → vO.ownBlock = some g ∨ W.heap.size ≤ g := fun g hg => by
          rcases hbl with h | ⟨g', h, hle⟩
          · exact .inl (h ▸ hg)
          · rw [h] at hg; cases hg; exact .inr (Nat.le_trans hz.2.2.1.size hle)
        have kM := hz.1.addO (b := b) hgr hown
        have kZ : Blk wy z5 (BkM.obj (BkM.hd b)) := (hgr.block z5 hz.2.1.lt (fun e => ZO.out e.symm)).trans hz.2.1
        have kL : Lv S W wy := hz.2.2.1.grown hgr (fun k hk _ => by rw [H8.out]; exact .inr (.inl hk))
        have k6 : Blk wy z6 (.cells #[.int .i64 n] 3) := (hgr.block z6 hz.2.2.2.2.1.lt (fun e => hz.2.2.2.2.2 e.symm)).trans hz.2.2.2.2.1
        simp only [Act.put, List.setIfInBounds_toArray, List.set_cons_zero, List.set_cons_succ]
        refine hK _ _ ⟨(fun wx => PMem B vO (.slice (some ⟨q1, 0, none⟩) (sout.length + 1) k1) vH vH (vs' ++ [.slice none 0 0]) (vs' ++ [.slice none 0 0]) (sout ++ [b]) ((sout.map fun b : Bk => b.ls.map lnS) ++ [[]]) nh hs 0 0 wx ∧ Blk wx z5 (BkM.obj (BkM.hd b)) ∧ Lv S W wx ∧ Blk wx z6 (.cells #[.int .i64 n] 3)), (fun _ _ e h => ⟨h.1.ext e, h.2.1.ext e, h.2.2.1.ext e, h.2.2.2.ext e⟩), .inr fun _ h => ⟨h.1.o, h.1.h, h.2.1⟩, ⟨kM, kZ, kL, k6⟩, ?_⟩
        clear kM kZ kL k6 hown hgr hbl hK K hz wz wy
        refine wpY_one 7 (by kernel_rfl) rfl rfl (fun wz hz K hK => ?_)
        refine wp_append (.tmp 47) (.tmp 49) 49 rfl (B + 9) 3 jnf _ 1 8 underInts j1 j2 j3 j4 rfl (by decide) vH nh hs (some ⟨z6, 0, none⟩) 1 1 [.int .i64 n] rfl rfl rfl (by intro u hu; simp at hu; subst hu; rfl) (by simp only [maxLen]; omega) (by omega) hz.1.ownH (.inr ⟨z6, 0, rfl, fun j u hu => by rw [hz.2.2.2.cell]; simpa using hu⟩) (Nat.le_trans hz0B hz.2.2.1.size) (fun vH1 wy hown hgr hbl => ?_)
        obtain ⟨q2, k2, rfl⟩ := ownsRow_succ hown
        have hH1 : ∀ g, Value.ownBlock (.slice (some ⟨q2, 0, none⟩) (nh + 1) k2) = some g → vH.ownBlock = some g ∨ W.heap.size ≤ g := fun g hg => by
          rcases hbl with h | ⟨g', h, hle⟩
          · exact .inl (h ▸ hg)
          · rw [h] at hg; cases hg; exact .inr (Nat.le_trans hz.2.2.1.size hle)
        have kM := hz.1.addH hgr hown
        have kZ : Blk wy z5 (BkM.obj (BkM.hd b)) := (hgr.block z5 hz.2.1.lt (fun e => ZH.out e.symm)).trans hz.2.1
        have kL : Lv S W wy := hz.2.2.1.grown hgr (fun k hk _ => by rw [H8.out]; exact .inr (.inr (.inl hk)))
        simp only [Act.put, List.setIfInBounds_toArray, List.set_cons_zero, List.set_cons_succ]
        refine hK _ _ ⟨(fun wx => PMem B vO (.slice (some ⟨q1, 0, none⟩) (sout.length + 1) k1) vH (.slice (some ⟨q2, 0, none⟩) (nh + 1) k2) (vs' ++ [.slice none 0 0]) (vs' ++ [.slice none 0 0]) (sout ++ [b]) ((sout.map fun b : Bk => b.ls.map lnS) ++ [[]]) (nh + 1) (hs ++ [.int .i64 n]) 0 0 wx ∧ Blk wx z5 (BkM.obj (BkM.hd b)) ∧ Lv S W wx), (fun _ _ e h => ⟨h.1.ext e, h.2.1.ext e, h.2.2.ext e⟩), .inr fun _ h => ⟨h.1.o, h.1.h, h.2.1⟩, ⟨kM, kZ, kL⟩, ?_⟩
        clear kM kZ kL hown hgr hbl hK K hz wz wy
        refine wpY_one 8 (by kernel_rfl) rfl rfl (fun wz hz K hK => ?_)
        have d3 := hz.1.o.cell 0
        have f3 := hz.1.o.free 0
        replace d3 : wz.cell? ⟨B + 3, 0, none⟩ = some vO := d3
        have kM := hz.1.setO (.slice (some ⟨q1, 0, none⟩) (sout.length + 1) k1)
        have kZ := hz.2.1.far (p := ⟨B + 3, 0, none⟩) (by show z5 ≠ B + 3; omega) (.slice (some ⟨q1, 0, none⟩) (sout.length + 1) k1)
        have kL := hz.2.2.setCell (p := ⟨B + 3, 0, none⟩) (fun _ => by rw [H8.out]; exact .inl ⟨by show B + 3 ≤ B + 3; omega, by show B + 3 ≤ B + 7; omega⟩) (.slice (some ⟨q1, 0, none⟩) (sout.length + 1) k1)
        clear hz
        go_simp
        refine hK _ _ ⟨(fun wx => PMem B (.slice (some ⟨q1, 0, none⟩) (sout.length + 1) k1) (.slice (some ⟨q1, 0, none⟩) (sout.length + 1) k1) vH (.slice (some ⟨q2, 0, none⟩) (nh + 1) k2) (vs' ++ [.slice none 0 0]) (vs' ++ [.slice none 0 0]) (sout ++ [b]) ((sout.map fun b : Bk => b.ls.map lnS) ++ [[]]) (nh + 1) (hs ++ [.int .i64 n]) 0 0 wx ∧ Blk wx z5 (BkM.obj (BkM.hd b)) ∧ Lv S W wx), (fun _ _ e h => ⟨h.1.ext e, h.2.1.ext e, h.2.2.ext e⟩), .inl (by kernel_rfl), ⟨kM, kZ, kL⟩, ?_⟩
        clear d3 f3 kM kZ kL hK K wz
        refine wpY_one 9 (by kernel_rfl) rfl rfl (fun wz hz K hK => ?_)
        have d4 := hz.1.h.cell 0
        have f4 := hz.1.h.free 0
        replace d4 : wz.cell? ⟨B + 4, 0, none⟩ = some vH := d4
        have kM := hz.1.setH (.slice (some ⟨q2, 0, none⟩) (nh + 1) k2)
        have kZ := hz.2.1.far (p := ⟨B + 4, 0, none⟩) (by show z5 ≠ B + 4; omega) (.slice (some ⟨q2, 0, none⟩) (nh + 1) k2)
        have kL := hz.2.2.setCell (p := ⟨B + 4, 0, none⟩) (fun _ => by rw [H8.out]; exact .inl ⟨by show B + 3 ≤ B + 4; omega, by show B + 4 ≤ B + 7; omega⟩) (.slice (some ⟨q2, 0, none⟩) (nh + 1) k2)
        clear hz
        go_simp
        refine hK _ _ ⟨(fun wx => PMem B (.slice (some ⟨q1, 0, none⟩) (sout.length + 1) k1) (.slice (some ⟨q1, 0, none⟩) (sout.length + 1) k1) (.slice (some ⟨q2, 0, none⟩) (nh + 1) k2) (.slice (some ⟨q2, 0, none⟩) (nh + 1) k2) (vs' ++ [.slice none 0 0]) (vs' ++ [.slice none 0 0]) (sout ++ [b]) ((sout.map fun b : Bk => b.ls.map lnS) ++ [[]]) (nh + 1) (hs ++ [.int .i64 n]) 0 0 wx ∧ Blk wx z5 (BkM.obj (BkM.hd b)) ∧ Lv S W wx), (fun _ _ e h => ⟨h.1.ext e, h.2.1.ext e, h.2.2.ext e⟩), .inl (by kernel_rfl), ⟨kM, kZ, kL⟩, ?_⟩
        clear d4 f4 kM kZ kL hK K wz
        refine wpY_done (by kernel_rfl) (fun wz hz => ?_) _
        have HZ := Lib.hid hz
        clear hz
        gi_wp2
        refine wpIn_region_X (T := fun wx => Blk wx z5 (BkM.obj (BkM.hd b))) (fun wx => PMem B (.slice (some ⟨q1, 0, none⟩) (sout.length + 1) k1) (.slice (some ⟨q1, 0, none⟩) (sout.length + 1) k1) (.slice (some ⟨q2, 0, none⟩) (nh + 1) k2) (.slice (some ⟨q2, 0, none⟩) (nh + 1) k2) (vs' ++ [.slice none 0 0]) (vs' ++ [.slice none 0 0]) (sout ++ [b]) ((sout.map fun b : Bk => b.ls.map lnS) ++ [[]]) (nh + 1) (hs ++ [.int .i64 n]) 0 0 wx ∧ Blk wx z5 (BkM.obj (BkM.hd b)) ∧ Lv S W wx) (by kernel_rfl) (by kernel_rfl) (fun ⟨_, _, h⟩ => h) ⟨HZ.out.1.ext (Ext.refl _).drew, HZ.out.2.1.drew, HZ.out.2.2.ext (Ext.refl _).drew⟩ (wpX_takes (by kernel_rfl) (fun _ d _ _ _ h => by cases d <;> exact h) (fun _ _ e h => ⟨h.1.ext e, h.2.1.ext e, h.2.2.ext e⟩) (fun _ h => h.2.1) (fuel := 2) [0, 1, 2, 3] _ _ (by kernel_rfl) ?_)
        iterate 4
          refine wpTk_want rfl (Eq.refl true) ?_
          apply Exists.intro
          refine ⟨fun wx hx => ?_, ?_⟩
          · obtain ⟨d0, d1, d2, d3, d4⟩ := hx.cells5
            clear hx
            go_simp
            with_reducible exact gives_ok _ _ _
          simp only [Act.put, List.setIfInBounds_toArray, List.set_cons_zero, List.set_cons_succ]
        refine wpTk_nil ?_
        clear HZ wz
        refine wpX_one 4 (by kernel_rfl) rfl rfl (fun wz hz K hK => ?_)
        have d5 := hz.1.bf.cell 0
        have f5 := hz.1.bf.free 0
        replace d5 : wz.cell? ⟨B + 5, 0, none⟩ = some (.int .i64 0) := d5
        have kM := hz.1.setB b.ol
        have kZ := hz.2.1.far (p := ⟨B + 5, 0, none⟩) (by show z5 ≠ B + 5; omega) (.int .i64 b.ol)
        have kL := hz.2.2.setCell (p := ⟨B + 5, 0, none⟩) (fun _ => by rw [H8.out]; exact .inl ⟨by show B + 3 ≤ B + 5; omega, by show B + 5 ≤ B + 7; omega⟩) (.int .i64 b.ol)
        clear hz
        go_simp
        refine hK _ _ ⟨(fun wx => PMem B (.slice (some ⟨q1, 0, none⟩) (sout.length + 1) k1) (.slice (some ⟨q1, 0, none⟩) (sout.length + 1) k1) (.slice (some ⟨q2, 0, none⟩) (nh + 1) k2) (.slice (some ⟨q2, 0, none⟩) (nh + 1) k2) (vs' ++ [.slice none 0 0]) (vs' ++ [.slice none 0 0]) (sout ++ [b]) ((sout.map fun b : Bk => b.ls.map lnS) ++ [[]]) (nh + 1) (hs ++ [.int .i64 n]) b.ol 0 wx ∧ Blk wx z5 (BkM.obj (BkM.hd b)) ∧ Lv S W wx), (fun _ _ e h => ⟨h.1.ext e, h.2.1.ext e, h.2.2.ext e⟩), fun _ h => h.2.1, ⟨kM, kZ, kL⟩, ?_⟩
        clear d5 f5 kM kZ kL hK K wz
        refine wpX_one 5 (by kernel_rfl) rfl rfl (fun wz hz K hK => ?_)
        have d6 := hz.1.af.cell 0
        have f6 := hz.1.af.free 0
        replace d6 : wz.cell? ⟨B + 6, 0, none⟩ = some (.int .i64 0) := d6
        have kM := hz.1.setA b.nl
        have kZ := hz.2.1.far (p := ⟨B + 6, 0, none⟩) (by show z5 ≠ B + 6; omega) (.int .i64 b.nl)
        have kL := hz.2.2.setCell (p := ⟨B + 6, 0, none⟩) (fun _ => by rw [H8.out]; exact .inl ⟨by show B + 3 ≤ B + 6; omega, by show B + 6 ≤ B + 7; omega⟩) (.int .i64 b.nl)
        clear hz
        go_simp
        refine hK _ _ ⟨(fun wx => PMem B (.slice (some ⟨q1, 0, none⟩) (sout.length + 1) k1) (.slice (some ⟨q1, 0, none⟩) (sout.length + 1) k1) (.slice (some ⟨q2, 0, none⟩) (nh + 1) k2) (.slice (some ⟨q2, 0, none⟩) (nh + 1) k2) (vs' ++ [.slice none 0 0]) (vs' ++ [.slice none 0 0]) (sout ++ [b]) ((sout.map fun b : Bk => b.ls.map lnS) ++ [[]]) (nh + 1) (hs ++ [.int .i64 n]) b.ol b.nl wx ∧ Blk wx z5 (BkM.obj (BkM.hd b)) ∧ Lv S W wx), (fun _ _ e h => ⟨h.1.ext e, h.2.1.ext e, h.2.2.ext e⟩), fun _ h => h.2.1, ⟨kM, kZ, kL⟩, ?_⟩
        clear d6 f6 kM kZ kL hK K wz
        refine wpX_done (by kernel_rfl) (fun wz hz => ?_) _
        have HZ := Lib.hid hz
        clear hz
        gi_wp2
        have hm9 := HZ.out.1
        have hg2 := G2.out
        have hsm := HX.out.1
        have hlen2 : (pre ++ [Tk.hdr b]).length = pre.length + 1 := by simp
        refine ⟨PS B (.slice (some ⟨q1, 0, none⟩) (sout.length + 1) k1) (.slice (some ⟨q2, 0, none⟩) (nh + 1) k2) (vs' ++ [.slice none 0 0]), HZ.out.2.2, fun g hg => ?_, hm9.size, (.slice (some ⟨q1, 0, none⟩) (sout.length + 1) k1), (.slice (some ⟨q2, 0, none⟩) (nh + 1) k2), vs' ++ [.slice none 0 0], ⟨sout ++ [b], b.ol, b.nl⟩, nh + 1, hs ++ [.int .i64 n], HRUN.out, by rw [hlen2]; omega, by rw [hlen2]; simp; exact h3, ?_, by have := hsm.ol; simp only; omega, by have := hsm.nl; simp only; omega, ?_, rfl, ?_⟩
        · rw [H8.out]
          rcases hg with hg | hg | hg | ⟨v, hv, hg⟩
          · exact .inl (.inl hg)
          · rcases hO1 g hg with h | h
            · exact .inl (.inr (.inl h))
            · exact .inr h
          · rcases hH1 g hg with h | h
            · exact .inl (.inr (.inr (.inl h)))
            · exact .inr h
          · rcases List.mem_append.1 hv with hv | hv
            · exact .inl (.inr (.inr (.inr ⟨v, hv, hg⟩)))
            · obtain rfl := List.mem_singleton.1 hv
              cases hg
        · intro x hx
          rw [hlen2]
          rcases List.mem_append.1 hx with hx | hx
          · have := H4.out x hx; omega
          · obtain rfl := List.mem_singleton.1 hx
            rw [hg2]; simp
        · have e9 : ((sout ++ [b]).map fun b : Bk => b.ls.map lnS) = (sout.map fun b : Bk => b.ls.map lnS) ++ [[]] := by simp [hg2]
          simp only [e9]
          exact hm9
        · exact HZ.out.2.2.extBelow H9.out (fun g hg h => by have := HSB.out g h; have := HB.out; omega)
    | ln out b bef aft y' g1 g2 g3 =>
      -- the last block's row
      have hlv := H7.out.lva
      obtain ⟨us, v, hus⟩ : ∃ us v, vs' = us ++ [v] := snoc_of (fun e => by rw [e] at hlv; simp at hlv)
      subst hus
      have hul : us.length = out.length := by simpa using hlv
      have hls := H7.out.rows.own us.length v (b.ls.map lnS) List.getElem?_concat_length (by rw [hul, List.map_append, List.getElem?_append_right (by simp)]; simp)
      obtain ⟨Av, cv, hv⟩ : ∃ A c, v = .slice A b.ls.length c := by
        rcases hls.2 with ⟨rfl, h0⟩ | ⟨g', cap, cur, rfl, _⟩
        · rw [List.length_map] at h0; rw [h0]; exact ⟨_, _, rfl⟩
        · rw [List.length_map]; exact ⟨_, _, rfl⟩
      have hoO := H7.out.ownO
      rw [List.length_append, List.length_singleton] at hoO
      obtain ⟨g0, cap0, hvO⟩ := ownsRow_succ hoO
      subst hvO
      have hbl : b.ls.length ≤ pre.length := H4.out b (by simp)
      have hol : out.length + 1 ≤ pre.length := by simpa using h3
      -- the counts of one line
      have k1 : cK [y'] + cD [y'] = oN y' := (c_old [y']).symm
      have k2 : cK [y'] + cA [y'] = nN y' := (c_new [y']).symm
      have k3 : cK [y'] + cD [y'] + cA [y'] = 1 := c_le [y']
      have hcnt := fun wx (hx : Strs wx (some ⟨W.heap.size, 0, none⟩) 1 [lnS y']) => counts_any (some ⟨W.heap.size, 0, none⟩) 1 1 [y'] wx hx (by omega)
      obtain ⟨K0, hK0⟩ : ∃ K0, cK [y'] = K0 := ⟨_, rfl⟩
      obtain ⟨D0, hD0⟩ : ∃ D0, cD [y'] = D0 := ⟨_, rfl⟩
      obtain ⟨R0, hR0⟩ : ∃ R0, cA [y'] = R0 := ⟨_, rfl⟩
      rw [hK0, hD0] at k1; rw [hK0, hR0] at k2; rw [hK0, hD0, hR0] at k3 hcnt
      have hsum : ((bef : Int) + aft == 0) = false := by rw [beq_eq_false_iff_ne]; omega
      have h5' : bef ≤ 100000 := h5
      have h6' : aft ≤ 100000 := h6
      have G1 := Lib.hid k1; have G2 := Lib.hid k2; have HC := Lib.hid hcnt; have HUL := Lib.hid hul; have HLS := Lib.hid hls; have HV := Lib.hid hv
      clear k1 k2 hcnt hul hls hv hK0 hD0 hR0 hlv hoO g1 h5 h6
      gi_wp2
      obtain ⟨W7, hW7⟩ : ∃ W7, W.setCell ⟨B + 7, 0, none⟩ (.int .i64 n) = W7 := ⟨_, rfl⟩
      have hzs : W7.heap.size = W.heap.size := by rw [← hW7]; simp
      rw [hW7] at HP7 HL7 BZ7 HE7 ⊢
      obtain ⟨z3, hz3⟩ : ∃ z3, W.heap.size = z3 := ⟨_, rfl⟩
      rw [hz3] at hzs
      have n3 := Blk.new W7 (.cells #[.string s2] 9) hzs.symm
      have x3 := (Ext.refl W7).alloc (.cells #[.string s2] 9)
      have hs3 : s2 = lnS y' := HS2.out.symm
      have st3 : Strs (W7.alloc (.cells #[.string s2] 9)) (some ⟨z3, 0, none⟩) 1 [lnS y'] := by
        refine Strs.of_blk (t := 9) (by rw [← hs3]; exact n3) rfl (fun s hs => ?_)
        obtain rfl := List.mem_singleton.1 hs
        rw [lnS_size]; have := HX.out.2; unfold Reach; omega
      have hcnt := HC.out _ (by rw [hz3]; exact st3)
      rw [hz3] at hcnt ⊢
      refine ⟨trivial, rfl, CallsIn.inRound l (callsIn_wide.2 (hcnt.mono ?_))⟩
      clear hcnt
      rintro e w5 ⟨rfl, hw5⟩
      have p5 := HP7.out.ext x3; have l5 := HL7.out.ext x3; have z5 := BZ7.out.ext x3
      rw [← hw5] at p5 l5 z5
      have HP5 := Lib.hid p5; have HL5 := Lib.hid l5; have HZ5 := Lib.hid z5
      clear n3 x3 st3 hs3 hw5 p5 l5 z5 HP7 HL7 BZ7 hW7 hzs hz3 HC c0 c1 e7 f7 e5 e6 e3 e4 f5 f6 f3 f4 hsum HE7 W7
      gi_wp2
      have hw1 : IntKind.i64.wrap ((bef : Int) - K0) = (bef : Int) - K0 := wrap_in (by omega) (by omega)
      have hw2 : IntKind.i64.wrap ((bef : Int) - K0 - D0) = (bef : Int) - K0 - D0 := wrap_in (by omega) (by omega)
      have hw3 : IntKind.i64.wrap ((aft : Int) - K0) = (aft : Int) - K0 := wrap_in (by omega) (by omega)
      have hw4 : IntKind.i64.wrap ((aft : Int) - K0 - R0) = (aft : Int) - K0 - R0 := wrap_in (by omega) (by omega)
      have hbK : (0 : Int) ≤ bef ∧ (bef : Int) ≤ 100000 := by omega
      have haK : (0 : Int) ≤ aft ∧ (aft : Int) ≤ 100000 := by omega
      have hls9 : ((out ++ [b]).map fun b : Bk => b.ls.map lnS) = (out.map fun b : Bk => b.ls.map lnS) ++ [b.ls.map lnS] := by simp
      rw [hls9] at HP5
      refine wpIn_region_Y 11 (fun wx => Blk wx (B + 6) (.cells #[.int .i64 aft] 3)) (fun wx => PMem B (.slice (some ⟨g0, 0, none⟩) (out.length + 1) cap0) (.slice (some ⟨g0, 0, none⟩) (out.length + 1) cap0) vH vH (us ++ [v]) (us ++ [v]) (out ++ [b]) ((out.map fun b : Bk => b.ls.map lnS) ++ [b.ls.map lnS]) nh hs bef aft wx ∧ Blk wx z (.cells #[.string s2, .bool true] 121) ∧ Lv S W wx) (by kernel_rfl) (by kernel_rfl) (fun ⟨_, _, h⟩ => h)
        ⟨HP5.out.ext (Ext.refl _).drew, HZ5.out.drew, HL5.out.ext (Ext.refl _).drew⟩ (wpY_takes (by kernel_rfl) (fun _ d _ _ _ h => by cases d <;> exact h) (fun _ _ e h => ⟨h.1.ext e, h.2.1.ext e, h.2.2.ext e⟩) (fun _ h => h.1.af) (fuel := 5) [1, 3, 5, 6, 7, 8, 9] _ _ (Waited.start _) (by kernel_rfl) (by kernel_rfl) (by kernel_rfl) ?_)
      iterate 7
        refine wpTk_want rfl (Eq.refl true) ?_
        apply Exists.intro
        refine ⟨fun wx hx => ?_, ?_⟩
        · have d6 := hx.cell 0
          replace d6 : wx.cell? ⟨B + 6, 0, none⟩ = some (.int .i64 aft) := d6
          clear hx
          go_simp
          with_reducible exact gives_ok _ _ _
        simp only [Act.put, List.setIfInBounds_toArray, List.set_cons_zero, List.set_cons_succ]
      refine wpTk_nil ?_
      clear HP5 HL5 HZ5 w5
      refine wpY_one 0 (by kernel_rfl) rfl rfl (fun wz hz K hK => ?_)
      have d5 := hz.1.bf.cell 0
      replace d5 : wz.cell? ⟨B + 5, 0, none⟩ = some (.int .i64 bef) := d5
      have hz' := Lib.hid hz
      clear hz
      go_simp
      refine hK _ _ ⟨(fun wx => PMem B (.slice (some ⟨g0, 0, none⟩) (out.length + 1) cap0) (.slice (some ⟨g0, 0, none⟩) (out.length + 1) cap0) vH vH (us ++ [v]) (us ++ [v]) (out ++ [b]) ((out.map fun b : Bk => b.ls.map lnS) ++ [b.ls.map lnS]) nh hs bef aft wx ∧ Blk wx z (.cells #[.string s2, .bool true] 121) ∧ Lv S W wx), (fun _ _ e h => ⟨h.1.ext e, h.2.1.ext e, h.2.2.ext e⟩), .inr fun _ h => h.1.af, hz'.out, ?_⟩
      clear d5 hK K hz' wz
      refine wpY_one 2 (by kernel_rfl) rfl rfl (fun wz hz K hK => ?_)
      have d5 := hz.1.bf.cell 0
      replace d5 : wz.cell? ⟨B + 5, 0, none⟩ = some (.int .i64 bef) := d5
      have hz' := Lib.hid hz
      clear hz
      go_simp
      refine hK _ _ ⟨(fun wx => PMem B (.slice (some ⟨g0, 0, none⟩) (out.length + 1) cap0) (.slice (some ⟨g0, 0, none⟩) (out.length + 1) cap0) vH vH (us ++ [v]) (us ++ [v]) (out ++ [b]) ((out.map fun b : Bk => b.ls.map lnS) ++ [b.ls.map lnS]) nh hs bef aft wx ∧ Blk wx z (.cells #[.string s2, .bool true] 121) ∧ Lv S W wx), (fun _ _ e h => ⟨h.1.ext e, h.2.1.ext e, h.2.2.ext e⟩), .inr fun _ h => h.1.af, hz'.out, ?_⟩
      clear d5 hK K hz' wz
      refine wpY_one 4 (by kernel_rfl) rfl rfl (fun wz hz K hK => ?_)
      have d5 := hz.1.bf.cell 0
      replace d5 : wz.cell? ⟨B + 5, 0, none⟩ = some (.int .i64 bef) := d5
      have hz' := Lib.hid hz
      clear hz
      go_simp
      refine hK _ _ ⟨(fun wx => PMem B (.slice (some ⟨g0, 0, none⟩) (out.length + 1) cap0) (.slice (some ⟨g0, 0, none⟩) (out.length + 1) cap0) vH vH (us ++ [v]) (us ++ [v]) (out ++ [b]) ((out.map fun b : Bk => b.ls.map lnS) ++ [b.ls.map lnS]) nh hs bef aft wx ∧ Blk wx z (.cells #[.string s2, .bool true] 121) ∧ Lv S W wx), (fun _ _ e h => ⟨h.1.ext e, h.2.1.ext e, h.2.2.ext e⟩), .inr fun _ h => h.1.af, hz'.out, ?_⟩
      clear d5 hK K hz' wz
      have e1 : (bef : Int) - K0 - D0 = ((bef - oN y' : Nat) : Int) := by have := G1.out; omega
      have e2 : (aft : Int) - K0 - R0 = ((aft - nN y' : Nat) : Int) := by have := G2.out; omega
      refine wpY_one 10 (by kernel_rfl) rfl rfl (fun wz hz K hK => ?_)
      have d5 := hz.1.bf.cell 0
      have f5 := hz.1.bf.free 0
      replace d5 : wz.cell? ⟨B + 5, 0, none⟩ = some (.int .i64 bef) := d5
      have kM := hz.1.setB ((bef : Int) - K0 - D0)
      have kZ := hz.2.1.far (p := ⟨B + 5, 0, none⟩) (by show z ≠ B + 5; omega) (.int .i64 ((bef : Int) - K0 - D0))
      have kL := hz.2.2.setCell (p := ⟨B + 5, 0, none⟩) (fun _ => by rw [H8.out]; exact .inl ⟨by show B + 3 ≤ B + 5; omega, by show B + 5 ≤ B + 7; omega⟩) (.int .i64 ((bef : Int) - K0 - D0))
      have E1 := Lib.hid e1; have E2 := Lib.hid e2
      clear hz e1 e2
      go_simp
      refine hK _ _ ⟨(fun wx => PMem B (.slice (some ⟨g0, 0, none⟩) (out.length + 1) cap0) (.slice (some ⟨g0, 0, none⟩) (out.length + 1) cap0) vH vH (us ++ [v]) (us ++ [v]) (out ++ [b]) ((out.map fun b : Bk => b.ls.map lnS) ++ [b.ls.map lnS]) nh hs ((bef : Int) - K0 - D0) aft wx ∧ Blk wx z (.cells #[.string s2, .bool true] 121) ∧ Lv S W wx), (fun _ _ e h => ⟨h.1.ext e, h.2.1.ext e, h.2.2.ext e⟩), .inr fun _ h => h.1.af, ⟨kM, kZ, kL⟩, ?_⟩
      clear d5 f5 kM kZ kL hK K wz
      refine wpY_one 11 (by kernel_rfl) rfl rfl (fun wz hz K hK => ?_)
      have d6 := hz.1.af.cell 0
      have f6 := hz.1.af.free 0
      replace d6 : wz.cell? ⟨B + 6, 0, none⟩ = some (.int .i64 aft) := d6
      have kM := hz.1.setA ((aft : Int) - K0 - R0)
      have kZ := hz.2.1.far (p := ⟨B + 6, 0, none⟩) (by show z ≠ B + 6; omega) (.int .i64 ((aft : Int) - K0 - R0))
      have kL := hz.2.2.setCell (p := ⟨B + 6, 0, none⟩) (fun _ => by rw [H8.out]; exact .inl ⟨by show B + 3 ≤ B + 6; omega, by show B + 6 ≤ B + 7; omega⟩) (.int .i64 ((aft : Int) - K0 - R0))
      clear hz
      go_simp
      refine hK _ _ ⟨(fun wx => PMem B (.slice (some ⟨g0, 0, none⟩) (out.length + 1) cap0) (.slice (some ⟨g0, 0, none⟩) (out.length + 1) cap0) vH vH (us ++ [v]) (us ++ [v]) (out ++ [b]) ((out.map fun b : Bk => b.ls.map lnS) ++ [b.ls.map lnS]) nh hs ((bef : Int) - K0 - D0) ((aft : Int) - K0 - R0) wx ∧ Blk wx z (.cells #[.string s2, .bool true] 121) ∧ Lv S W wx), (fun _ _ e h => ⟨h.1.ext e, h.2.1.ext e, h.2.2.ext e⟩), .inl (by kernel_rfl), ⟨kM, kZ, kL⟩, ?_⟩
      clear d6 f6 kM kZ kL hK K wz
      refine wpY_done (by kernel_rfl) (fun wz hz => ?_) _
      rw [E1.out, E2.out] at hz
      have d5 := hz.1.bf.cell 0; have d6 := hz.1.af.cell 0; have d3 := hz.1.o.cell 0
      replace d5 : wz.cell? ⟨B + 5, 0, none⟩ = some (.int .i64 ((bef - oN y' : Nat) : Int)) := d5
      replace d6 : wz.cell? ⟨B + 6, 0, none⟩ = some (.int .i64 ((aft - nN y' : Nat) : Int)) := d6
      replace d3 : wz.cell? ⟨B + 3, 0, none⟩ = some (.slice (some ⟨g0, 0, none⟩) (out.length + 1) cap0) := d3
      obtain ⟨nb, hnb⟩ : ∃ nb, bef - oN y' = nb := ⟨_, rfl⟩
      obtain ⟨na, hna⟩ : ∃ na, aft - nN y' = na := ⟨_, rfl⟩
      rw [hnb] at d5 hz; rw [hna] at d6 hz
      have hix : (((out.length + 1 : Nat) : Int) - 1) = out.length := by omega
      have hnb0 : ¬ ((nb : Int) < 0) := by omega
      have hna0 : ¬ ((na : Int) < 0) := by omega
      have HZ := Lib.hid hz; have HNB := Lib.hid hnb; have HNA := Lib.hid hna
      clear hz hnb hna
      gi_wp2
      clear d5 d6 d3 hix hnb0 hna0
      have hul := HUL.out
      obtain ⟨inf, i1, i2, i3, i4⟩ := info_of infoS
      have hlen1 : (out ++ [b]).length = out.length + 1 := by simp
      have hcellT : ∀ (wx : World) (x : Value), wx.ownsRow (B + 9) 80 5 (.slice (some ⟨g0, 0, none⟩) (out.length + 1) cap0) (out ++ [b]).length (bcs (out ++ [b]) (us ++ [x])) → wx.cell? ⟨g0, out.length * 5 + 4, none⟩ = some x := fun wx x h => by
        rw [hlen1] at h
        rw [h.cellAt _ (by omega)]
        exact bcs_last b x out us hul
      have hfreeT : ∀ (wx : World) (x : Value), wx.ownsRow (B + 9) 80 5 (.slice (some ⟨g0, 0, none⟩) (out.length + 1) cap0) (out ++ [b]).length (bcs (out ++ [b]) (us ++ [x])) → wx.frozen? ⟨g0, out.length * 5 + 4, none⟩ = false := fun wx x h => by
        rw [hlen1] at h
        exact h.frozenAt _
      have hz0B : B + 9 ≤ W.heap.size := by have := Z0.out; omega
      refine wpIn_region_Y 11 (fun wx => wx.cell? ⟨g0, out.length * 5 + 4, none⟩ = some v ∧ Blk wx z (.cells #[.string s2, .bool true] 121)) (fun wx => PMem B (.slice (some ⟨g0, 0, none⟩) (out.length + 1) cap0) (.slice (some ⟨g0, 0, none⟩) (out.length + 1) cap0) vH vH (us ++ [v]) (us ++ [v]) (out ++ [b]) ((out.map fun b : Bk => b.ls.map lnS) ++ [b.ls.map lnS]) nh hs nb na wx ∧ Blk wx z (.cells #[.string s2, .bool true] 121) ∧ Lv S W wx) (by kernel_rfl) (by kernel_rfl) (fun ⟨_, _, h⟩ => h)
        ⟨HZ.out.1.ext (Ext.refl _).drew, HZ.out.2.1.drew, HZ.out.2.2.ext (Ext.refl _).drew⟩ (wpY_takes (by kernel_rfl) (fun _ d _ _ _ h => by cases d <;> exact h) (fun _ _ e h => ⟨h.1.ext e, h.2.1.ext e, h.2.2.ext e⟩) (fun wx h => ⟨hcellT wx _ h.1.ownO, h.2.1⟩) (fuel := 5) [0, 1, 2, 3, 4, 5, 6] _ _ (Waited.start _) (by kernel_rfl) (by kernel_rfl) (by kernel_rfl) ?_)
      iterate 7
        refine wpTk_want rfl (Eq.refl true) ?_
        apply Exists.intro
        refine ⟨fun wx hx => ?_, ?_⟩
        · have d1 := hx.1
          have d2 := hx.2.cell 0
          replace d2 : wx.cell? ⟨z, 0, none⟩ = some (.string s2) := d2
          clear hx
          go_simp
          with_reducible exact gives_ok _ _ _
        simp only [Act.put, List.setIfInBounds_toArray, List.set_cons_zero, List.set_cons_succ]
      refine wpTk_nil ?_
      clear HZ wz
      refine wpY_one 7 (by kernel_rfl) rfl rfl (fun wz hz K hK => ?_)
      obtain ⟨z7, hz7⟩ : ∃ z, wz.heap.size = z := ⟨_, rfl⟩
      have nb7 := Blk.new wz (.cells #[.string s2] 9) hz7.symm
      have ne := (Ext.refl wz).alloc (.cells #[.string s2] 9)
      have kA := (⟨hz.1.ext ne, hz.2.1.ext ne, hz.2.2.ext ne, nb7⟩ : _ ∧ _ ∧ _ ∧ _)
      clear hz
      go_simp
      refine hK _ _ ⟨(fun wx => PMem B (.slice (some ⟨g0, 0, none⟩) (out.length + 1) cap0) (.slice (some ⟨g0, 0, none⟩) (out.length + 1) cap0) vH vH (us ++ [v]) (us ++ [v]) (out ++ [b]) ((out.map fun b : Bk => b.ls.map lnS) ++ [b.ls.map lnS]) nh hs nb na wx ∧ Blk wx z (.cells #[.string s2, .bool true] 121) ∧ Lv S W wx ∧ Blk wx z7 (.cells #[.string s2] 9)), (fun _ _ e h => ⟨h.1.ext e, h.2.1.ext e, h.2.2.1.ext e, h.2.2.2.ext e⟩), .inr fun wx h => ⟨hcellT wx _ h.1.ownO, h.2.1⟩, kA, ?_⟩
      clear nb7 ne kA hK K hz7 wz
      refine wpY_one 8 (by kernel_rfl) rfl rfl (fun wz hz K hK => ?_)
      have hrow := hz.1.rows.own us.length v (b.ls.map lnS) List.getElem?_concat_length (by rw [hul, List.getElem?_append_right (by simp)]; simp)
      rw [List.length_map] at hrow
      refine wp_append (.tmp 94) (.tmp 97) 22 rfl (B + 9) 9 inf _ 1 16 underSs i1 i2 i3 i4 rfl (by decide) v b.ls.length ((b.ls.map lnS).map Value.string) (some ⟨z7, 0, none⟩) 1 1 [.string s2] rfl rfl rfl (by intro u hu; simp at hu; subst hu; rfl) (by simp only [maxLen]; omega) (by omega) hrow (.inr ⟨z7, 0, rfl, fun j u hu => by rw [hz.2.2.2.cell]; simpa using hu⟩) (Nat.le_trans hz0B hz.2.2.1.size) (fun v1 wy hown hgr hbl => ?_)
      obtain ⟨q3, k3, rfl⟩ := ownsRow_succ hown
      have hO3 : ∀ g, Value.ownBlock (.slice (some ⟨q3, 0, none⟩) (b.ls.length + 1) k3) = some g → v.ownBlock = some g ∨ W.heap.size ≤ g := fun g hg => by
        rcases hbl with h | ⟨g', h, hle⟩
        · exact .inl (h ▸ hg)
        · rw [h] at hg; cases hg; exact .inr (Nat.le_trans hz.2.2.1.size hle)
      have hzv : v.ownBlock ≠ some z := fun e => by
        obtain ⟨_, c, hc⟩ := own_blk hrow e
        exact absurd (blk_type hc hz.2.1) (by decide)
      have hown' : wy.ownsRow (B + 9) 9 1 (.slice (some ⟨q3, 0, none⟩) (b.ls.length + 1) k3) ((b.ls ++ [y']).map lnS).length (((b.ls ++ [y']).map lnS).map Value.string) := by
        have e2 : lnS y' = s2 := HS2.out
        simp only [List.map_append, List.length_append, List.length_map, List.map_cons, List.map_nil, List.length_cons, List.length_nil, Nat.zero_add, e2] at hown ⊢
        exact hown
      have kM := hz.1.addL hgr hown' hbl
      have kZ : Blk wy z (.cells #[.string s2, .bool true] 121) := (hgr.block z hz.2.1.lt (fun e => hzv e.symm)).trans hz.2.1
      have kL : Lv S W wy := hz.2.2.1.grown hgr (fun k hk _ => by rw [H8.out]; exact .inr (.inr (.inr ⟨v, by simp, hk⟩)))
      simp only [Act.put, List.setIfInBounds_toArray, List.set_cons_zero, List.set_cons_succ]
      refine hK _ _ ⟨(fun wx => PMem B (.slice (some ⟨g0, 0, none⟩) (out.length + 1) cap0) (.slice (some ⟨g0, 0, none⟩) (out.length + 1) cap0) vH vH (us ++ [v]) (us ++ [(.slice (some ⟨q3, 0, none⟩) (b.ls.length + 1) k3)]) (out ++ [b]) ((out.map fun b : Bk => b.ls.map lnS) ++ [(b.ls ++ [y']).map lnS]) nh hs nb na wx ∧ Blk wx z (.cells #[.string s2, .bool true] 121) ∧ Lv S W wx), (fun _ _ e h => ⟨h.1.ext e, h.2.1.ext e, h.2.2.ext e⟩), .inr fun wx h => ⟨hcellT wx _ h.1.ownO, h.2.1⟩, ⟨kM, kZ, kL⟩, ?_⟩
      clear kM kZ kL hown hown' hgr hbl hrow hzv hK K hz wz wy
      refine wpY_one 9 (by kernel_rfl) rfl rfl (fun wz hz K hK => ?_)
      have hz' := Lib.hid hz
      clear hz
      go_simp
      refine hK _ _ ⟨(fun wx => PMem B (.slice (some ⟨g0, 0, none⟩) (out.length + 1) cap0) (.slice (some ⟨g0, 0, none⟩) (out.length + 1) cap0) vH vH (us ++ [v]) (us ++ [(.slice (some ⟨q3, 0, none⟩) (b.ls.length + 1) k3)]) (out ++ [b]) ((out.map fun b : Bk => b.ls.map lnS) ++ [(b.ls ++ [y']).map lnS]) nh hs nb na wx ∧ Blk wx z (.cells #[.string s2, .bool true] 121) ∧ Lv S W wx), (fun _ _ e h => ⟨h.1.ext e, h.2.1.ext e, h.2.2.ext e⟩), .inr fun wx h => ⟨hcellT wx _ h.1.ownO, h.2.1⟩, hz'.out, ?_⟩
      clear hK K hz' wz
      refine wpY_one 10 (by kernel_rfl) rfl rfl (fun wz hz K hK => ?_)
      have hz' := Lib.hid hz
      clear hz
      go_simp
      refine hK _ _ ⟨(fun wx => PMem B (.slice (some ⟨g0, 0, none⟩) (out.length + 1) cap0) (.slice (some ⟨g0, 0, none⟩) (out.length + 1) cap0) vH vH (us ++ [v]) (us ++ [(.slice (some ⟨q3, 0, none⟩) (b.ls.length + 1) k3)]) (out ++ [b]) ((out.map fun b : Bk => b.ls.map lnS) ++ [(b.ls ++ [y']).map lnS]) nh hs nb na wx ∧ Blk wx z (.cells #[.string s2, .bool true] 121) ∧ Lv S W wx), (fun _ _ e h => ⟨h.1.ext e, h.2.1.ext e, h.2.2.ext e⟩), .inr fun wx h => ⟨hcellT wx _ h.1.ownO, h.2.1⟩, hz'.out, ?_⟩
      clear hK K hz' wz
      refine wpY_one 11 (by kernel_rfl) rfl rfl (fun wz hz K hK => ?_)
      have d1 := hcellT wz _ hz.1.ownO
      have f1 := hfreeT wz _ hz.1.ownO
      have kM := hz.1.setL (v' := (.slice (some ⟨q3, 0, none⟩) (b.ls.length + 1) k3)) (b' := { b with ls := b.ls ++ [y'] }) ⟨rfl, rfl, rfl, rfl⟩
      have hg0z : z ≠ g0 := fun e => by
        subst e
        obtain ⟨_, c, hc⟩ := own_blk hz.1.ownO (g := z) rfl
        exact absurd (blk_type hc hz.2.1) (by decide)
      have kZ := hz.2.1.far (p := ⟨g0, out.length * 5 + 4, none⟩) hg0z (.slice (some ⟨q3, 0, none⟩) (b.ls.length + 1) k3)
      have kL := hz.2.2.setCell (p := ⟨g0, out.length * 5 + 4, none⟩) (fun _ => by rw [H8.out]; exact .inr (.inl rfl)) (.slice (some ⟨q3, 0, none⟩) (b.ls.length + 1) k3)
      clear hz hg0z
      go_simp
      refine hK _ _ ⟨(fun wx => PMem B (.slice (some ⟨g0, 0, none⟩) (out.length + 1) cap0) (.slice (some ⟨g0, 0, none⟩) (out.length + 1) cap0) vH vH (us ++ [(.slice (some ⟨q3, 0, none⟩) (b.ls.length + 1) k3)]) (us ++ [(.slice (some ⟨q3, 0, none⟩) (b.ls.length + 1) k3)]) (out ++ [{ b with ls := b.ls ++ [y'] }]) ((out.map fun b : Bk => b.ls.map lnS) ++ [(b.ls ++ [y']).map lnS]) nh hs nb na wx ∧ Blk wx z (.cells #[.string s2, .bool true] 121) ∧ Lv S W wx), (fun _ _ e h => ⟨h.1.ext e, h.2.1.ext e, h.2.2.ext e⟩), .inl (by kernel_rfl), ⟨kM, kZ, kL⟩, ?_⟩
      clear kM kZ kL hK K d1 f1 wz
      refine wpY_done (by kernel_rfl) (fun wz hz => ?_) _
      have HZ := Lib.hid hz
      clear hz
      gi_wp2
      have hm9 := HZ.out.1
      have hlen2 : (pre ++ [Tk.ln y']).length = pre.length + 1 := by simp
      have hnbv := HNB.out; have hnav := HNA.out
      have hru := HRUN.out
      rw [hnbv, hnav] at hru
      refine ⟨PS B (.slice (some ⟨g0, 0, none⟩) (out.length + 1) cap0) vH (us ++ [(.slice (some ⟨q3, 0, none⟩) (b.ls.length + 1) k3)]), HZ.out.2.2, fun g hg => ?_, hm9.size, (.slice (some ⟨g0, 0, none⟩) (out.length + 1) cap0), vH, us ++ [(.slice (some ⟨q3, 0, none⟩) (b.ls.length + 1) k3)], ⟨out ++ [{ b with ls := b.ls ++ [y'] }], nb, na⟩, nh, hs, hru, by rw [hlen2]; omega, by rw [hlen2]; simp; omega, ?_, by simp only; omega, by simp only; omega, ?_, rfl, ?_⟩
      · rw [H8.out]
        rcases hg with hg | hg | hg | ⟨u, hu, hg⟩
        · exact .inl (.inl hg)
        · exact .inl (.inr (.inl hg))
        · exact .inl (.inr (.inr (.inl hg)))
        · rcases List.mem_append.1 hu with hu | hu
          · exact .inl (.inr (.inr (.inr ⟨u, by simp [hu], hg⟩)))
          · obtain rfl := List.mem_singleton.1 hu
            rcases hO3 g hg with h | h
            · exact .inl (.inr (.inr (.inr ⟨v, by simp, h⟩)))
            · exact .inr h
      · intro x hx
        rw [hlen2]
        rcases List.mem_append.1 hx with hx | hx
        · have := H4.out x (by simp [hx]); omega
        · obtain rfl := List.mem_singleton.1 hx
          simp; exact hbl
      · have e9 : ((out ++ [{ b with ls := b.ls ++ [y'] }]).map fun b : Bk => b.ls.map lnS) = ((out.map fun b : Bk => b.ls.map lnS) ++ [(b.ls ++ [y']).map lnS]) := by simp
        simp only [e9]
        exact hm9
      · exact HZ.out.2.2.extBelow H9.out (fun g hg h => by have := HSB.out g h; have := HB.out; omega)
  case done =>
    rintro D S W hD hnS ⟨vO, vH, vs', st, nh, hs', h1, h2, h3, h4, h5, h6, h7, h8, h9⟩ hdef
    have hst : st = ⟨xs, 0, 0⟩ := h1.det (run_toks xs [] (fun b hb => okKs_len xs _ _ HCH.out b hb))
    subst hst
    have hz0 := Z0.out
    rw [hz0] at hD
    obtain ⟨A, c, hvO, hc1, hc2, hbk⟩ := bks_of h7.ownO h7.rows (fun b hb => ⟨by have := (HF.out b hb).len; unfold Reach; omega, fun x hx => by have := ((HF.out b hb).ln x hx).2; unfold Reach; omega⟩)
    have hxl : xs.length ≤ 10000 := by have := toks_len xs; omega
    have d5 := h7.bf.cell 0; have d6 := h7.af.cell 0; have d3 := h7.o.cell 0
    replace d5 : W.cell? ⟨B + 5, 0, none⟩ = some (.int .i64 0) := d5
    replace d6 : W.cell? ⟨B + 6, 0, none⟩ = some (.int .i64 0) := d6
    replace d3 : W.cell? ⟨B + 3, 0, none⟩ = some vO := d3
    subst hvO
    have HD := Lib.hid hdef; have H7 := Lib.hid h7; have H9 := Lib.hid h9; have HBK := Lib.hid hbk
    clear hdef h1 h2 h3 h4 h5 h6 h7 h8 h9 hbk hnS
    go_wp2_with fail
    refine (chk_any A xs.length c xs W HBK.out (by omega) hc1 hc2 HCH.out (fun b hb => by have := (HF.out b hb).len; omega)).mono ?_
    rintro e w5 ⟨rfl, hE⟩
    have p5 := H7.out.ext hE
    have e0 := p5.r0.cell 0; have e1 := p5.r1.cell 0; have e2 := p5.r2.cell 0; have e3 := p5.o.cell 0
    replace e0 : w5.cell? ⟨B, 0, none⟩ = some (.slice none 0 0) := e0
    replace e1 : w5.cell? ⟨B + 1, 0, none⟩ = some (.int .i64 0) := e1
    replace e2 : w5.cell? ⟨B + 2, 0, none⟩ = some (.int .i64 0) := e2
    replace e3 : w5.cell? ⟨B + 3, 0, none⟩ = some (.slice A xs.length c) := e3
    have f0 := p5.r0.free 0; have f1 := p5.r1.free 0; have f2 := p5.r2.free 0
    have l9 := (((Lv.refl (fun g => B ≤ g ∧ g ≤ B + 2) w5).setCell (p := ⟨B, 0, none⟩) (fun _ => ⟨by show B ≤ B; omega, by show B ≤ B + 2; omega⟩) (.slice A xs.length c)).setCell (p := ⟨B + 1, 0, none⟩) (fun _ => ⟨by show B ≤ B + 1; omega, by show B + 1 ≤ B + 2; omega⟩) (.int .i64 0)).setCell (p := ⟨B + 2, 0, none⟩) (fun _ => ⟨by show B ≤ B + 2; omega, by show B + 2 ≤ B + 2; omega⟩) (.int .i64 0)
    have z0 : Blk (((w5.setCell ⟨B, 0, none⟩ (.slice A xs.length c)).setCell ⟨B + 1, 0, none⟩ (.int .i64 0)).setCell ⟨B + 2, 0, none⟩ (.int .i64 0)) B (.cells #[.slice A xs.length c] 44) := ((p5.r0.put 0 _).far (p := ⟨B + 1, 0, none⟩) (by show B ≠ B + 1; omega) _).far (p := ⟨B + 2, 0, none⟩) (by show B ≠ B + 2; omega) _
    have z1 : Blk (((w5.setCell ⟨B, 0, none⟩ (.slice A xs.length c)).setCell ⟨B + 1, 0, none⟩ (.int .i64 0)).setCell ⟨B + 2, 0, none⟩ (.int .i64 0)) (B + 1) (.cells #[.int .i64 0] 3) := ((p5.r1.far (p := ⟨B, 0, none⟩) (by show B + 1 ≠ B; omega) _).put 0 _).far (p := ⟨B + 2, 0, none⟩) (by show B + 1 ≠ B + 2; omega) _
    have z2 : Blk (((w5.setCell ⟨B, 0, none⟩ (.slice A xs.length c)).setCell ⟨B + 1, 0, none⟩ (.int .i64 0)).setCell ⟨B + 2, 0, none⟩ (.int .i64 0)) (B + 2) (.cells #[.int .i64 0] 23) := ((p5.r2.far (p := ⟨B, 0, none⟩) (by show B + 2 ≠ B; omega) _).far (p := ⟨B + 1, 0, none⟩) (by show B + 2 ≠ B + 1; omega) _).put 0 _
    have hD5 : w5.heap[D]? = some (.deferred (some [])) := hE.block HD.out
    have hD9 : (((w5.setCell ⟨B, 0, none⟩ (.slice A xs.length c)).setCell ⟨B + 1, 0, none⟩ (.int .i64 0)).setCell ⟨B + 2, 0, none⟩ (.int .i64 0)).heap[D]? = some (.deferred (some [])) := (l9.2 D (Array.getElem?_eq_some_iff.1 hD5).1 (by omega)).trans hD5
    have E9 : Ext w (((w5.setCell ⟨B, 0, none⟩ (.slice A xs.length c)).setCell ⟨B + 1, 0, none⟩ (.int .i64 0)).setCell ⟨B + 2, 0, none⟩ (.int .i64 0)) := l9.extBelow (H9.out.trans hE) (fun g hg h => by have := HB.out; omega)
    have L9 := Lib.hid l9; have Z0' := Lib.hid z0; have Z1' := Lib.hid z1; have Z2' := Lib.hid z2; have HD9 := Lib.hid hD9; have HE9 := Lib.hid E9; have P5 := Lib.hid p5; have HD5 := Lib.hid hD5
    clear p5 l9 z0 z1 z2 hD5 hD9 E9 hE
    go_wp2_with fail
    clear e0 e1 e2 e3 f0 f1 f2 d5 d6 d3
    obtain ⟨W9, hW9⟩ : ∃ W9, ((w5.setCell ⟨B, 0, none⟩ (.slice A xs.length c)).setCell ⟨B + 1, 0, none⟩ (.int .i64 0)).setCell ⟨B + 2, 0, none⟩ (.int .i64 0) = W9 := ⟨_, rfl⟩
    rw [hW9] at L9 Z0' Z1' Z2' HD9 HE9 ⊢
    clear hW9
    refine ⟨by simp, .inl ⟨_, _, rfl, run_takeDeferred HD9.out, ?_⟩⟩
    have lp : Lv (fun g => g = D) W9 (W9.putObj D (.deferred none)) := Lv.putObj (S := fun g => g = D) (Lv.refl _ _) (fun _ => rfl) _
    have l10 : Lv (fun g => (B ≤ g ∧ g ≤ B + 2) ∨ g = D) w5 (W9.putObj D (.deferred none)) := (L9.out.mono (S' := fun g => (B ≤ g ∧ g ≤ B + 2) ∨ g = D) (fun g _ h => .inl h)).trans lp (fun g _ h => .inr h)
    have y0 := (Z0'.out.lv lp (fun e => by omega)).cell 0
    have y1 := (Z1'.out.lv lp (fun e => by omega)).cell 0
    have y2 := (Z2'.out.lv lp (fun e => by omega)).cell 0
    replace y0 : (W9.putObj D (.deferred none)).cell? ⟨B, 0, none⟩ = some (.slice A xs.length c) := y0
    replace y1 : (W9.putObj D (.deferred none)).cell? ⟨B + 1, 0, none⟩ = some (.int .i64 0) := y1
    replace y2 : (W9.putObj D (.deferred none)).cell? ⟨B + 2, 0, none⟩ = some (.int .i64 0) := y2
    have notD : ∀ g cs (e : TypeId), Blk w5 g (.cells cs e (0, 0)) → g ≠ D := fun g cs e hg he => by
      subst he
      have := HD5.out
      unfold Blk at hg
      rw [hg] at this; cases this
    have o10 := own_lv P5.out.ownO l10 (fun g hg h => by
      obtain ⟨hb, cs, hc⟩ := own_blk P5.out.ownO hg
      rcases h with h | h
      · omega
      · exact notD g _ _ hc h)
    have r10 := P5.out.rows.lv l10 (fun v hv g hg h => by
      obtain ⟨hb, cs, hc⟩ := P5.out.rows.mem hv hg
      rcases h with h | h
      · omega
      · exact notD g _ _ hc h)
    obtain ⟨A', c', hv', hc1', hc2', hbk'⟩ := bks_of o10 r10 (fun b hb => ⟨by have := (HF.out b hb).len; unfold Reach; omega, fun x hx => by have := ((HF.out b hb).ln x hx).2; unfold Reach; omega⟩)
    have e10 : Ext w (W9.putObj D (.deferred none)) := lp.extBelow HE9.out (fun g hg h => by have := HB.out; omega)
    refine ⟨.tuple #[.slice A xs.length c, .int .i64 0, .int .i64 0], ?_, e10, A', xs.length, c', by rw [hv'], hc1', hc2', hbk'⟩
    generalize W9.putObj D (.deferred none) = W10 at y0 y1 y2
    simp [results, Tryz.results31, go_sem, y0, y1, y2]
end Go.Proofs.YtmmcjcaccicheaaGreatDoor

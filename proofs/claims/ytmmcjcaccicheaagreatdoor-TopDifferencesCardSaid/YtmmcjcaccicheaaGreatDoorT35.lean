/- UdOf UdMap: parts of the proof of TopDifferences, one text behind the other. No condition. -/
import Derived.Test.YtmmcjcaccicheaaGreatDoorT34
import Derived.Test.YtmmcjcaccicheaaGreatDoorT07
import Derived.Maps.Own
/- The contract of hunks.Of for a valid matching. -/
namespace Go.Proofs.YtmmcjcaccicheaaGreatDoor
open Go.RowKit

/-! ### The plain side -/
def endM : Int → Int → List Mt → Int × Int
  | x, y, [] => (x, y)
  | _, _, m :: r => endM (m.a + m.n) (m.b + m.n) r
theorem endM_snoc (m : Mt) : ∀ (l : List Mt) (x y : Int), endM x y (l ++ [m]) = (m.a + m.n, m.b + m.n)
  | [], _, _ => rfl
  | _ :: l, _, _ => by simp only [List.cons_append, endM, endM_snoc m l]
theorem ofV_snoc (a b : Lns) (m : Mt) : ∀ (l : List Mt) (x y : Int), ofV a b x y (l ++ [m]) = ofV a b x y l ++ (if (endM x y l).1 < m.a ∨ (endM x y l).2 < m.b then [⟨(endM x y l).1.toNat, (a.drop (endM x y l).1.toNat).take (m.a - (endM x y l).1).toNat, (b.drop (endM x y l).2.toNat).take (m.b - (endM x y l).2).toNat⟩] else [])
  | [], x, y => by simp only [ofV, endM, List.nil_append, List.append_nil]; rfl
  | k :: l, x, y => by
    simp only [List.cons_append, ofV]
    rw [ofV_snoc a b m l, ← List.append_assoc]
    rfl
/-- The numbers of a valid matching. -/
theorem chain_of {a b : Lns} : ∀ (ms : List Mt) (x y : Int) (X Y : Nat), checkV a b x y ms = 0 → (x = X ∧ y = Y ∨ x = -1 ∧ y = -1 ∧ X = 0 ∧ Y = 0) → X ≤ a.length → Y ≤ b.length → ∀ (i : Nat) (m : Mt), (ms ++ [(⟨a.length, b.length, 0⟩ : Mt)])[i]? = some m →
    ∃ P Q M R N : Nat, endM X Y ((ms ++ [(⟨a.length, b.length, 0⟩ : Mt)]).take i) = ((P : Int), (Q : Int)) ∧ m = ⟨M, R, N⟩ ∧ P ≤ M ∧ Q ≤ R ∧ M + N ≤ a.length ∧ R + N ≤ b.length
  | [], x, y, X, Y, _, _, hX, hY, i, m, hm => by
    cases i with
    | zero =>
      obtain rfl : (⟨a.length, b.length, 0⟩ : Mt) = m := by simpa using hm
      exact ⟨X, Y, a.length, b.length, 0, rfl, rfl, hX, hY, by omega, by omega⟩
    | succ i => simp at hm
  | k :: r, x, y, X, Y, hc, hxy, hX, hY, i, m, hm => by
    rw [checkV] at hc
    by_cases h0 : codeV a b x y k = 0
    · rw [if_pos h0] at hc
      obtain ⟨c1, c2, c3, c4, c5, c6, c7, c8, c9⟩ := codeV_zero h0
      obtain ⟨A, hA⟩ : ∃ A : Nat, k.a = A := ⟨k.a.toNat, by omega⟩
      obtain ⟨B, hB⟩ : ∃ B : Nat, k.b = B := ⟨k.b.toNat, by omega⟩
      obtain ⟨n, hn⟩ : ∃ n : Nat, k.n = n := ⟨k.n.toNat, by omega⟩
      cases i with
      | zero =>
        obtain rfl : k = m := by simpa using hm
        exact ⟨X, Y, A, B, n, rfl, by cases k; simp only at hA hB hn; subst hA hB hn; rfl, by omega, by omega, by omega, by omega⟩
      | succ i =>
        have ih := chain_of r (k.a + k.n) (k.b + k.n) (A + n) (B + n) hc (.inl ⟨by omega, by omega⟩) (by omega) (by omega) i m (by simpa using hm)
        simp only [List.cons_append, List.take_succ_cons, endM, hA, hB, hn]
        exact ih
    · rw [if_neg h0] at hc; exact absurd hc h0
theorem ofV_len (a b : Lns) : ∀ (l : List Mt) (x y : Int), (ofV a b x y l).length ≤ l.length
  | [], _, _ => Nat.le_refl _
  | m :: r, x, y => by
    have := ofV_len a b r (m.a + m.n) (m.b + m.n)
    rw [ofV, List.length_append, List.length_cons]
    split <;> simp <;> omega
theorem HMem.low {b0 base : Nat} {v : Value} {va vr : List Value} {out : List Hp} {ls : List Lns} {W : World} (h : HMem base v va vr out ls W) (hb : b0 ≤ base) : HMem b0 v va vr out ls W :=
  ⟨own_base h.own hb, ⟨h.rows.len, fun j v l h1 h2 => own_base (h.rows.own j v l h1 h2) hb, h.rows.sep⟩, h.lva⟩
set_option maxRecDepth 100000 in
set_option maxHeartbeats 16000000 in
theorem of_any (A B C : Option Addr) (n c m d ln lc : Nat) (a b : Lns) (ms : List Mt) (w : World) (ha : Strs w A n a) (hb : Strs w B m b) (hl : Mts w C ln ms) (hn : n ≤ 1000) (hm : m ≤ 1000) (hln : ln ≤ 999) (hnc : n ≤ c) (hmd : m ≤ d) (hv : checkV a b (-1) (-1) ms = 0) :
    Calls Tryz.prog 28 #[.slice A n c, .slice B m d, .slice C ln lc] w fun r w' => Ext w w' ∧ ∃ v va, r = .returned (.tuple #[v, .int .i64 0]) ∧ HMem w.heap.size v va va (ofV a b 0 0 (ms ++ [⟨a.length, b.length, 0⟩])) (hls (ofV a b 0 0 (ms ++ [⟨a.length, b.length, 0⟩]))) w' := by
  have hchk := check_any A B C n c m d ln lc a b ms w ha hb hl hn hm (by omega) hnc hmd
  rw [hv] at hchk
  have hch := chain_of ms (-1) (-1) 0 0 hv (.inr ⟨rfl, rfl, rfl, rfl⟩) (Nat.zero_le _) (Nat.zero_le _)
  obtain ⟨hnf, j1, j2, j3, j4⟩ := info_of infoHk
  obtain ⟨mnf, i1, i2, i3, i4⟩ := info_of infoM
  have J1 := Lib.hid j1; have J2 := Lib.hid j2; have J3 := Lib.hid j3; have J4 := Lib.hid j4
  have I1 := Lib.hid i1; have I2 := Lib.hid i2; have I3 := Lib.hid i3; have I4 := Lib.hid i4
  obtain rfl := ha.len
  obtain rfl := hb.len
  have HA := Lib.hid ha; have HB := Lib.hid hb; have HL := Lib.hid hl; have HCH := Lib.hid hch
  obtain ⟨l, hlq⟩ : ∃ l, ms ++ [(⟨a.length, b.length, 0⟩ : Mt)] = l := ⟨_, rfl⟩
  rw [hlq]
  have HLQ := Lib.hid hlq
  clear hlq ha hb hl hv hch j1 j2 j3 j4 i1 i2 i3 i4
  go_enter Tryz.func28, Tryz.ntmps28
  go_wp2_with fail
  refine hchk.mono ?_
  rintro e w1 ⟨rfl, hE1⟩
  have HE1 := Lib.hid hE1; clear hE1 hchk
  go_wp2_with fail
  refine (mclone_any C ln lc w1 (HL.out.ext HE1.out) (by omega)).mono ?_
  rintro r w2 ⟨hE2, v2, rfl, ho2⟩
  have HO2 := Lib.hid ho2; have HE2 := Lib.hid hE2; clear ho2 hE2
  go_wp2_with (at_builtin; refine wpList_append_size2 rfl (.tmp 22) (.tmp 28) 66 rfl w1.heap.size 104 mnf _ 3 24 underM I1.out I2.out I3.out I4.out rfl (by decide) v2 ln (ms.flatMap Mt.cells) (some ⟨w2.heap.size, 0, none⟩) 1 1 [.int .i64 a.length, .int .i64 b.length, .int .i64 0] rfl rfl rfl (by intro u hu; simp only [List.mem_cons, List.not_mem_nil, or_false] at hu; rcases hu with rfl | rfl | rfl <;> rfl) (by simp only [maxLen]; omega) (by omega) (own_stab3 ((Ext.refl w2).alloc _) HO2.out) (Cells.new w2 _ _ rfl) (by have := HE2.out.size; simp; omega) ?_; intro v3 w3 hown3 hg3 hb3; have e3 := (HE2.out.alloc (.cells #[.int .i64 a.length, .int .i64 b.length, .int .i64 0] 104)).own3 (own_stab3 ((Ext.refl w2).alloc _) HO2.out) hg3; obtain ⟨g3, k3, rfl⟩ := ownsRow_succ hown3; have HO3 := Lib.hid hown3; have HE3 := Lib.hid (HE1.out.trans e3); clear hown3 hg3 hb3 e3)
  have hl := HLQ.out
  have hch := HCH.out
  have hll : l.length = ln + 1 := by rw [← hl, List.length_append, HL.out.1]; rfl
  rw [hl] at hch
  have ho3 := HO3.out
  rw [show ms.flatMap Mt.cells ++ [.int .i64 a.length, .int .i64 b.length, .int .i64 0] = l.flatMap Mt.cells by rw [← hl, List.flatMap_append]; rfl] at ho3
  obtain ⟨C', lc', hcc, hcl, hmt⟩ := ownM_mts ho3 (fun x hx => by
    obtain ⟨i, hi⟩ := List.getElem?_of_mem hx
    obtain ⟨P, Q, M, R, N, _, rfl, _, _, h5, h6⟩ := hch i x hi
    unfold Mt.wf I64
    simp only
    omega)
  obtain ⟨rfl, -, rfl⟩ : C' = some ⟨g3, 0, none⟩ ∧ True ∧ lc' = k3 := by
    simp only [Value.slice.injEq] at hcc
    exact ⟨hcc.1.symm, trivial, hcc.2.2.symm⟩
  have HMT := Lib.hid hmt; have HLL := Lib.hid hll; have HCH2 := Lib.hid hch
  have HLO := Lib.hid (ofV_len a b)
  clear hmt hll hch ho3 hl HCH hcc HO3 HO2 HE2
  go_loopw [9, 10, 11, 31] (fun v x y i wr => ∃ k : Nat, k ≤ ln + 1 ∧ i = .int .i64 k ∧ x = .int .i64 (endM 0 0 (l.take k)).1 ∧ y = .int .i64 (endM 0 0 (l.take k)).2 ∧ Ext w3 wr ∧ ∃ va, HMem w3.heap.size v va va (ofV a b 0 0 (l.take k)) (hls (ofV a b 0 0 (l.take k))) wr) (fun _ _ _ i _ => ln + 1 - (intOf i).toNat)
  case atStart => exact ⟨0, by omega, rfl, rfl, rfl, Ext.refl _, [], HMem.nil _ _⟩
  case round =>
    obtain ⟨k, hk, rfl, rfl, rfl, hEw, va, hM⟩ := hrel
    have HEW := Lib.hid hEw; have HM := Lib.hid hM; clear hEw hM
    by_cases hlt : k < ln + 1
    · obtain ⟨bb, off, mt, hA, hb1, hx, hwf, c0, c1, c2⟩ := (HMT.out.ext HEW.out).get hlt
      obtain ⟨rfl, rfl⟩ : g3 = bb ∧ 0 = off := by simpa using hA
      simp only [Nat.zero_add] at c0 c1 c2
      obtain ⟨P, Q, M, R, N, he, rfl, h3, h4, h5, h6⟩ := HCH2.out k mt hx
      have he : endM 0 0 (l.take k) = ((P : Int), (Q : Int)) := he
      have hen : endM 0 0 (l.take (k + 1)) = ((M : Int) + N, (R : Int) + N) := by rw [take_succ_of hx, endM_snoc]
      have hof := ofV_snoc a b ⟨M, R, N⟩ (l.take k) 0 0
      rw [← take_succ_of hx] at hof
      rw [he] at hof ⊢
      have hol := HLO.out (l.take k) 0 0
      rw [List.length_take] at hol
      dsimp only at c0 c1 c2 hof ⊢
      obtain ⟨outV, hout⟩ : ∃ o, ofV a b 0 0 (l.take k) = o := ⟨_, rfl⟩
      rw [hout] at HM hof hol
      have hol2 : outV.length ≤ 1000 := by omega
      have HEN := Lib.hid hen; have HOF := Lib.hid hof
      have hw1 : IntKind.i64.wrap ((M : Int) + N) = (M : Int) + N := IntWalk.i64_in _ (by omega)
      have hw2 : IntKind.i64.wrap ((R : Int) + N) = (R : Int) + N := IntWalk.i64_in _ (by omega)
      clear hx hwf he hen hof hol hA hout
      by_cases hop : (P : Int) < M ∨ (Q : Int) < R
      · by_cases hd1 : (P : Int) < M
        · go_wp2_with fail
          obtain ⟨z, hz'⟩ : ∃ z, wr.heap.size = z := ⟨_, rfl⟩
          obtain ⟨wC, hwC⟩ : ∃ wC : World, wC = wr.alloc (.cells #[.int .i64 M, .int .i64 R, .int .i64 N] 104) := ⟨_, rfl⟩
          have nC := Blk.new wr (.cells #[.int .i64 M, .int .i64 R, .int .i64 N] 104) hz'.symm
          have xC := (Ext.refl wr).alloc (.cells #[.int .i64 M, .int .i64 R, .int .i64 N] 104)
          rw [← hwC] at nC xC ⊢
          rw [hz']
          have NC := Lib.hid nC; have XC := Lib.hid xC; have HZZ := Lib.hid hz'
          have h0 : wC.cell? ⟨z, 0, none⟩ = some (.int .i64 M) := nC.cell 0
          have h1 : wC.cell? ⟨z, 1, none⟩ = some (.int .i64 R) := nC.cell 1
          have hzv : ∀ (y : Value), y ∈ va → ∀ g, y.ownBlock = some g → g < wC.heap.size := fun y hy g hg => Nat.lt_of_lt_of_le (HM.out.sz y hy g hg) xC.size
          have HZV := Lib.hid hzv
          have hEa := HE3.out.trans (HEW.out.trans xC)
          obtain ⟨B1, hB1⟩ : ∃ A', (if c = P then A else A.map (fun x => x.add P)) = A' := ⟨_, rfl⟩
          obtain ⟨B2, hB2⟩ : ∃ A', (if d = Q then B else B.map (fun x => x.add Q)) = A' := ⟨_, rfl⟩
          have hs1 := strs_cut (HA.out.ext hEa) hnc (lo := P) (k := M - P) (by omega) hB1
          have hs2 := strs_cut (HB.out.ext hEa) hmd (lo := Q) (k := R - Q) (by omega) hB2
          obtain ⟨gl, hgl⟩ : ∃ gl, (a.drop P).take (M - P) = gl := ⟨_, rfl⟩
          obtain ⟨hl, hhl⟩ : ∃ hl, (b.drop Q).take (R - Q) = hl := ⟨_, rfl⟩
          rw [hgl] at hs1; rw [hhl] at hs2
          have hof := HOF.out
          rw [if_pos hop, show ((M : Int) - P).toNat = M - P by omega, show ((R : Int) - Q).toNat = R - Q by omega, Int.toNat_natCast, Int.toNat_natCast, hgl, hhl] at hof
          have HS1 := Lib.hid hs1; have HS2 := Lib.hid hs2; have HOF2 := Lib.hid hof
          have hk1 : M ≤ c := by omega
          have hk2 : R ≤ d := by omega
          have hk3 : M - P ≤ 1000 := by omega
          have hk4 : R - Q ≤ 1000 := by omega
          clear nC xC hwC hz' c0 c1 c2 hzv hEa hs1 hs2 hgl hhl hof
          go_wp2_with fail
          refine wp_region_Y 16 (fun wx => Ext wC wx) (fun wx => Ext wC wx) (by kernel_rfl) (Ext.refl wC).drew (wpY_takes (by kernel_rfl) (fun _ d _ _ _ h => by cases d <;> exact h) (Stab.ext _) (fun _ h => h) (fuel := 6) [0, 1, 2, 3, 4, 5, 6, 8, 9, 10, 11, 12] _ _ (Waited.start _) (by kernel_rfl) (by kernel_rfl) (by kernel_rfl) ?_)
          iterate 12
            refine wpTk_want rfl (Eq.refl true) ?_
            apply Exists.intro
            refine ⟨fun wx hx => ?_, ?_⟩
            · replace h0 := Ext.cell hx h0; replace h1 := Ext.cell hx h1
              clear hx
              go_simp
              with_reducible exact gives_ok _ _ _
            simp only [Act.put, List.setIfInBounds_toArray, List.set_cons_zero, List.set_cons_succ]
          refine wpTk_nil ?_
          clear h0 h1
          refine wpY_one 7 (by kernel_rfl) rfl rfl (fun wz hz K hK => ?_)
          have hz' := Lib.hid hz
          clear hz
          go_simp
          refine (sclone_any B1 (M - P) (c - P) wz (HS1.out.ext hz'.out) (by omega)).mono ?_
          rintro r w5 ⟨hE5, v5, rfl, ho5⟩
          obtain ⟨A1, c1, rfl⟩ := own_shp ho5
          have hlt5 : ∀ g, Value.ownBlock (.slice A1 (M - P) c1) = some g → g < w5.heap.size := fun g hg => by obtain ⟨_, c, hc⟩ := own_blk ho5 hg; exact hc.lt
          refine hK _ _ ⟨(fun wx => Ext wC wx ∧ wx.ownsRow wC.heap.size 9 1 (.slice A1 (M - P) c1) gl.length (gl.map Value.string) ∧ ∀ g, Value.ownBlock (.slice A1 (M - P) c1) = some g → g < wx.heap.size), (fun _ _ e h => ⟨h.1.trans e, own_stab3 e h.2.1, fun g hg => Nat.lt_of_lt_of_le (h.2.2 g hg) e.size⟩), .inr fun _ h => h.1, ⟨hz'.out.trans hE5, by have := own_base ho5 hz'.out.size; rwa [← HS1.out.1] at this ⊢, hlt5⟩, ?_⟩
          clear hK K hz' hE5 ho5 hlt5 w5 wz
          refine wpY_one 13 (by kernel_rfl) rfl rfl (fun wz hz K hK => ?_)
          have hz' := Lib.hid hz
          clear hz
          go_simp
          refine (sclone_any B2 (R - Q) (d - Q) wz (HS2.out.ext hz'.out.1) (by omega)).mono ?_
          rintro r w5 ⟨hE5, v5, rfl, ho5⟩
          obtain ⟨A2, c2, rfl⟩ := own_shp ho5
          have h12 : ∀ g, Value.ownBlock (.slice A1 (M - P) c1) = some g → Value.ownBlock (.slice A2 (R - Q) c2) ≠ some g := fun g hg hg2 => by have := hz'.out.2.2 g hg; have := (own_blk ho5 hg2).1; omega
          refine hK _ _ ⟨(fun wx => Ext wC wx ∧ wx.ownsRow wC.heap.size 9 1 (.slice A1 (M - P) c1) gl.length (gl.map Value.string) ∧ wx.ownsRow wC.heap.size 9 1 (.slice A2 (R - Q) c2) hl.length (hl.map Value.string) ∧ ∀ g, Value.ownBlock (.slice A1 (M - P) c1) = some g → Value.ownBlock (.slice A2 (R - Q) c2) ≠ some g), (fun _ _ e h => ⟨h.1.trans e, own_stab3 e h.2.1, own_stab3 e h.2.2.1, h.2.2.2⟩), .inr fun _ h => h.1, ⟨hz'.out.1.trans hE5, own_stab3 hE5 hz'.out.2.1, by have := own_base ho5 hz'.out.1.size; rwa [← HS2.out.1] at this ⊢, h12⟩, ?_⟩
          clear hK K hz' hE5 ho5 h12 w5 wz
          refine wpY_one 14 (by kernel_rfl) rfl rfl (fun wz hz K hK => ?_)
          have hz' := Lib.hid hz
          clear hz
          go_simp
          refine hK _ _ ⟨(fun wx => Ext wC wx ∧ wx.ownsRow wC.heap.size 9 1 (.slice A1 (M - P) c1) gl.length (gl.map Value.string) ∧ wx.ownsRow wC.heap.size 9 1 (.slice A2 (R - Q) c2) hl.length (hl.map Value.string) ∧ ∀ g, Value.ownBlock (.slice A1 (M - P) c1) = some g → Value.ownBlock (.slice A2 (R - Q) c2) ≠ some g), (fun _ _ e h => ⟨h.1.trans e, own_stab3 e h.2.1, own_stab3 e h.2.2.1, h.2.2.2⟩), .inr fun _ h => h.1, hz'.out, ?_⟩
          clear hK K hz' wz
          refine wpY_one 15 (by kernel_rfl) rfl rfl (fun wz hz K hK => ?_)
          obtain ⟨z12, hz12⟩ : ∃ z, wz.heap.size = z := ⟨_, rfl⟩
          have nb := Blk.new wz (.cells #[.int .i64 P, (.slice A1 (M - P) c1), (.slice A2 (R - Q) c2)] 69) hz12.symm
          have ne := (Ext.refl wz).alloc (.cells #[.int .i64 P, (.slice A1 (M - P) c1), (.slice A2 (R - Q) c2)] 69)
          have kA := Lib.hid (⟨hz.1.trans ne, own_stab3 ne hz.2.1, own_stab3 ne hz.2.2.1, hz.2.2.2, nb⟩ : _ ∧ _ ∧ _ ∧ _ ∧ _)
          clear hz nb ne
          go_simp
          refine hK _ _ ⟨(fun wx => Ext wC wx ∧ wx.ownsRow wC.heap.size 9 1 (.slice A1 (M - P) c1) gl.length (gl.map Value.string) ∧ wx.ownsRow wC.heap.size 9 1 (.slice A2 (R - Q) c2) hl.length (hl.map Value.string) ∧ (∀ g, Value.ownBlock (.slice A1 (M - P) c1) = some g → Value.ownBlock (.slice A2 (R - Q) c2) ≠ some g) ∧ Blk wx z12 (.cells #[.int .i64 P, (.slice A1 (M - P) c1), (.slice A2 (R - Q) c2)] 69)), (fun _ _ e h => ⟨h.1.trans e, own_stab3 e h.2.1, own_stab3 e h.2.2.1, h.2.2.2.1, h.2.2.2.2.ext e⟩), .inr fun _ h => h.1, kA.out, ?_⟩
          clear kA hK K hz12 wz
          refine wpY_one 16 (by kernel_rfl) rfl rfl (fun wz hz K hK => ?_)
          have hmz := HM.out.ext (XC.out.trans hz.1)
          refine wp_append (.tmp 45) (.tmp 60) 32 rfl w3.heap.size 69 hnf _ 3 56 underHk J1.out J2.out J3.out J4.out rfl (by decide) u9 outV.length (hcs outV va) (some ⟨z12, 0, none⟩) 1 1 [.int .i64 P, (.slice A1 (M - P) c1), (.slice A2 (R - Q) c2)] rfl rfl rfl (by intro u hu; simp only [List.mem_cons, List.not_mem_nil, or_false] at hu; rcases hu with rfl | rfl | rfl <;> rfl) (by simp only [maxLen]; omega) (by omega) hmz.own (.inr ⟨z12, 0, rfl, fun j u hu => by rw [hz.2.2.2.2.cell]; simpa using hu⟩) (Nat.le_trans HEW.out.size (Nat.le_trans XC.out.size hz.1.size)) (fun v1 wy hown hgr hbl => ?_)
          have kM := hmz.pushW (x := ⟨P, gl, hl⟩) HZV.out hz.2.1 hz.2.2.1 hz.2.2.2.1 (Nat.le_trans HEW.out.size XC.out.size) hgr hown
          have kE := hmz.grow_ext (HEW.out.trans (XC.out.trans hz.1)) hgr
          have kB : Blk wy z (.cells #[.int .i64 M, .int .i64 R, .int .i64 N] 104) := (NC.out.ext hz.1).lv ((Lv.refl (fun g => Value.ownBlock u9 = some g) wz).grown hgr (fun k hk _ => hk)) (fun e => by
            obtain ⟨_, c, hc⟩ := own_blk HM.out.own e
            have := hc.lt
            have := HZZ.out
            omega)
          obtain ⟨g9, k9, rfl⟩ := ownsRow_succ hown
          simp only [Act.put, List.setIfInBounds_toArray, List.set_cons_zero, List.set_cons_succ]
          refine hK _ _ ⟨(fun wx => HMem w3.heap.size (.slice (some ⟨g9, 0, none⟩) (outV.length + 1) k9) (va ++ [(.slice A1 (M - P) c1), (.slice A2 (R - Q) c2)]) (va ++ [(.slice A1 (M - P) c1), (.slice A2 (R - Q) c2)]) (outV ++ [⟨P, gl, hl⟩]) (hls (outV ++ [⟨P, gl, hl⟩])) wx ∧ Ext w3 wx ∧ Blk wx z (.cells #[.int .i64 M, .int .i64 R, .int .i64 N] 104)), (fun _ _ e h => ⟨h.1.ext e, h.2.1.trans e, h.2.2.ext e⟩), .inl (by kernel_rfl), ⟨kM, kE, kB⟩, ?_⟩
          clear kM kE kB hown hgr hbl hmz hK K hz wz wy
          refine wpY_one 17 (by kernel_rfl) rfl rfl (fun wz hz K hK => ?_)
          have hz' := Lib.hid hz
          clear hz
          go_simp
          refine hK _ _ ⟨(fun wx => HMem w3.heap.size (.slice (some ⟨g9, 0, none⟩) (outV.length + 1) k9) (va ++ [(.slice A1 (M - P) c1), (.slice A2 (R - Q) c2)]) (va ++ [(.slice A1 (M - P) c1), (.slice A2 (R - Q) c2)]) (outV ++ [⟨P, gl, hl⟩]) (hls (outV ++ [⟨P, gl, hl⟩])) wx ∧ Ext w3 wx ∧ Blk wx z (.cells #[.int .i64 M, .int .i64 R, .int .i64 N] 104)), (fun _ _ e h => ⟨h.1.ext e, h.2.1.trans e, h.2.2.ext e⟩), .inl (by kernel_rfl), hz'.out, ?_⟩
          clear hK K hz' wz
          refine wpY_done (by kernel_rfl) (fun wz hz => ?_) _
          have HZ := Lib.hid hz
          clear hz
          go_wp2_with fail
          refine wp_region_X (T := fun wx => Blk wx z (.cells #[.int .i64 M, .int .i64 R, .int .i64 N] 104)) (fun wx => HMem w3.heap.size (.slice (some ⟨g9, 0, none⟩) (outV.length + 1) k9) (va ++ [(.slice A1 (M - P) c1), (.slice A2 (R - Q) c2)]) (va ++ [(.slice A1 (M - P) c1), (.slice A2 (R - Q) c2)]) (outV ++ [⟨P, gl, hl⟩]) (hls (outV ++ [⟨P, gl, hl⟩])) wx ∧ Ext w3 wx ∧ Blk wx z (.cells #[.int .i64 M, .int .i64 R, .int .i64 N] 104)) (by kernel_rfl) ⟨HZ.out.1.ext (Ext.refl _).drew, HZ.out.2.1.trans (Ext.refl _).drew, HZ.out.2.2.drew⟩ (wpX_takes (by kernel_rfl) (fun _ d _ _ _ h => by cases d <;> exact h) (fun _ _ e h => ⟨h.1.ext e, h.2.1.trans e, h.2.2.ext e⟩) (fun _ h => h.2.2) (fuel := 2) [0, 1, 2, 3, 4, 5, 6, 7, 8, 9] _ _ (by kernel_rfl) ?_)
          iterate 10
            refine wpTk_want rfl (Eq.refl true) ?_
            apply Exists.intro
            refine ⟨fun wx hx => ?_, ?_⟩
            · obtain ⟨d00, d01, d02⟩ := hx.cells3
              clear hx
              go_simp
              with_reducible exact gives_ok _ _ _
            simp only [Act.put, List.setIfInBounds_toArray, List.set_cons_zero, List.set_cons_succ]
          refine wpTk_nil ?_
          refine wpX_one 10 (by kernel_rfl) rfl rfl (fun wz hz K hK => ?_)
          have hz' := Lib.hid hz
          clear hz
          go_simp
          refine hK _ _ ⟨(fun wx => HMem w3.heap.size (.slice (some ⟨g9, 0, none⟩) (outV.length + 1) k9) (va ++ [(.slice A1 (M - P) c1), (.slice A2 (R - Q) c2)]) (va ++ [(.slice A1 (M - P) c1), (.slice A2 (R - Q) c2)]) (outV ++ [⟨P, gl, hl⟩]) (hls (outV ++ [⟨P, gl, hl⟩])) wx ∧ Ext w3 wx ∧ Blk wx z (.cells #[.int .i64 M, .int .i64 R, .int .i64 N] 104)), (fun _ _ e h => ⟨h.1.ext e, h.2.1.trans e, h.2.2.ext e⟩), fun _ h => h.2.2, hz'.out, ?_⟩
          clear hK K hz' wz
          refine wpX_one 11 (by kernel_rfl) rfl rfl (fun wz hz K hK => ?_)
          have hz' := Lib.hid hz
          clear hz
          go_simp
          refine hK _ _ ⟨(fun wx => HMem w3.heap.size (.slice (some ⟨g9, 0, none⟩) (outV.length + 1) k9) (va ++ [(.slice A1 (M - P) c1), (.slice A2 (R - Q) c2)]) (va ++ [(.slice A1 (M - P) c1), (.slice A2 (R - Q) c2)]) (outV ++ [⟨P, gl, hl⟩]) (hls (outV ++ [⟨P, gl, hl⟩])) wx ∧ Ext w3 wx ∧ Blk wx z (.cells #[.int .i64 M, .int .i64 R, .int .i64 N] 104)), (fun _ _ e h => ⟨h.1.ext e, h.2.1.trans e, h.2.2.ext e⟩), fun _ h => h.2.2, hz'.out, ?_⟩
          clear hK K hz' wz
          refine wpX_done (by kernel_rfl) (fun wz hz => ?_) _
          have HZ9 := Lib.hid hz
          clear hz
          go_wp2_with fail
          go_roundw
          case rel => exact ⟨k + 1, by omega, by go_num, by rw [HEN.out], by rw [HEN.out], HZ9.out.2.1, _, by rw [HOF2.out]; exact HZ9.out.1⟩
          case measure => simp [intOf]; omega
        · have hd2 : (Q : Int) < R := by omega
          go_wp2_with fail
          obtain ⟨z, hz'⟩ : ∃ z, wr.heap.size = z := ⟨_, rfl⟩
          obtain ⟨wC, hwC⟩ : ∃ wC : World, wC = wr.alloc (.cells #[.int .i64 M, .int .i64 R, .int .i64 N] 104) := ⟨_, rfl⟩
          have nC := Blk.new wr (.cells #[.int .i64 M, .int .i64 R, .int .i64 N] 104) hz'.symm
          have xC := (Ext.refl wr).alloc (.cells #[.int .i64 M, .int .i64 R, .int .i64 N] 104)
          rw [← hwC] at nC xC ⊢
          rw [hz']
          have NC := Lib.hid nC; have XC := Lib.hid xC; have HZZ := Lib.hid hz'
          have h0 : wC.cell? ⟨z, 0, none⟩ = some (.int .i64 M) := nC.cell 0
          have h1 : wC.cell? ⟨z, 1, none⟩ = some (.int .i64 R) := nC.cell 1
          have hzv : ∀ (y : Value), y ∈ va → ∀ g, y.ownBlock = some g → g < wC.heap.size := fun y hy g hg => Nat.lt_of_lt_of_le (HM.out.sz y hy g hg) xC.size
          have HZV := Lib.hid hzv
          have hEa := HE3.out.trans (HEW.out.trans xC)
          obtain ⟨B1, hB1⟩ : ∃ A', (if c = P then A else A.map (fun x => x.add P)) = A' := ⟨_, rfl⟩
          obtain ⟨B2, hB2⟩ : ∃ A', (if d = Q then B else B.map (fun x => x.add Q)) = A' := ⟨_, rfl⟩
          have hs1 := strs_cut (HA.out.ext hEa) hnc (lo := P) (k := M - P) (by omega) hB1
          have hs2 := strs_cut (HB.out.ext hEa) hmd (lo := Q) (k := R - Q) (by omega) hB2
          obtain ⟨gl, hgl⟩ : ∃ gl, (a.drop P).take (M - P) = gl := ⟨_, rfl⟩
          obtain ⟨hl, hhl⟩ : ∃ hl, (b.drop Q).take (R - Q) = hl := ⟨_, rfl⟩
          rw [hgl] at hs1; rw [hhl] at hs2
          have hof := HOF.out
          rw [if_pos hop, show ((M : Int) - P).toNat = M - P by omega, show ((R : Int) - Q).toNat = R - Q by omega, Int.toNat_natCast, Int.toNat_natCast, hgl, hhl] at hof
          have HS1 := Lib.hid hs1; have HS2 := Lib.hid hs2; have HOF2 := Lib.hid hof
          have hk1 : M ≤ c := by omega
          have hk2 : R ≤ d := by omega
          have hk3 : M - P ≤ 1000 := by omega
          have hk4 : R - Q ≤ 1000 := by omega
          clear nC xC hwC hz' c0 c1 c2 hzv hEa hs1 hs2 hgl hhl hof
          go_wp2_with fail
          refine wp_region_Y 16 (fun wx => Ext wC wx) (fun wx => Ext wC wx) (by kernel_rfl) (Ext.refl wC).drew (wpY_takes (by kernel_rfl) (fun _ d _ _ _ h => by cases d <;> exact h) (Stab.ext _) (fun _ h => h) (fuel := 6) [0, 1, 2, 3, 4, 5, 6, 8, 9, 10, 11, 12] _ _ (Waited.start _) (by kernel_rfl) (by kernel_rfl) (by kernel_rfl) ?_)
          iterate 12
            refine wpTk_want rfl (Eq.refl true) ?_
            apply Exists.intro
            refine ⟨fun wx hx => ?_, ?_⟩
            · replace h0 := Ext.cell hx h0; replace h1 := Ext.cell hx h1
              clear hx
              go_simp
              with_reducible exact gives_ok _ _ _
            simp only [Act.put, List.setIfInBounds_toArray, List.set_cons_zero, List.set_cons_succ]
          refine wpTk_nil ?_
          clear h0 h1
          refine wpY_one 7 (by kernel_rfl) rfl rfl (fun wz hz K hK => ?_)
          have hz' := Lib.hid hz
          clear hz
          go_simp
          refine (sclone_any B1 (M - P) (c - P) wz (HS1.out.ext hz'.out) (by omega)).mono ?_
          rintro r w5 ⟨hE5, v5, rfl, ho5⟩
          obtain ⟨A1, c1, rfl⟩ := own_shp ho5
          have hlt5 : ∀ g, Value.ownBlock (.slice A1 (M - P) c1) = some g → g < w5.heap.size := fun g hg => by obtain ⟨_, c, hc⟩ := own_blk ho5 hg; exact hc.lt
          refine hK _ _ ⟨(fun wx => Ext wC wx ∧ wx.ownsRow wC.heap.size 9 1 (.slice A1 (M - P) c1) gl.length (gl.map Value.string) ∧ ∀ g, Value.ownBlock (.slice A1 (M - P) c1) = some g → g < wx.heap.size), (fun _ _ e h => ⟨h.1.trans e, own_stab3 e h.2.1, fun g hg => Nat.lt_of_lt_of_le (h.2.2 g hg) e.size⟩), .inr fun _ h => h.1, ⟨hz'.out.trans hE5, by have := own_base ho5 hz'.out.size; rwa [← HS1.out.1] at this ⊢, hlt5⟩, ?_⟩
          clear hK K hz' hE5 ho5 hlt5 w5 wz
          refine wpY_one 13 (by kernel_rfl) rfl rfl (fun wz hz K hK => ?_)
          have hz' := Lib.hid hz
          clear hz
          go_simp
          refine (sclone_any B2 (R - Q) (d - Q) wz (HS2.out.ext hz'.out.1) (by omega)).mono ?_
          rintro r w5 ⟨hE5, v5, rfl, ho5⟩
          obtain ⟨A2, c2, rfl⟩ := own_shp ho5
          have h12 : ∀ g, Value.ownBlock (.slice A1 (M - P) c1) = some g → Value.ownBlock (.slice A2 (R - Q) c2) ≠ some g := fun g hg hg2 => by have := hz'.out.2.2 g hg; have := (own_blk ho5 hg2).1; omega
          refine hK _ _ ⟨(fun wx => Ext wC wx ∧ wx.ownsRow wC.heap.size 9 1 (.slice A1 (M - P) c1) gl.length (gl.map Value.string) ∧ wx.ownsRow wC.heap.size 9 1 (.slice A2 (R - Q) c2) hl.length (hl.map Value.string) ∧ ∀ g, Value.ownBlock (.slice A1 (M - P) c1) = some g → Value.ownBlock (.slice A2 (R - Q) c2) ≠ some g), (fun _ _ e h => ⟨h.1.trans e, own_stab3 e h.2.1, own_stab3 e h.2.2.1, h.2.2.2⟩), .inr fun _ h => h.1, ⟨hz'.out.1.trans hE5, own_stab3 hE5 hz'.out.2.1, by have := own_base ho5 hz'.out.1.size; rwa [← HS2.out.1] at this ⊢, h12⟩, ?_⟩
          clear hK K hz' hE5 ho5 h12 w5 wz
          refine wpY_one 14 (by kernel_rfl) rfl rfl (fun wz hz K hK => ?_)
          have hz' := Lib.hid hz
          clear hz
          go_simp
          refine hK _ _ ⟨(fun wx => Ext wC wx ∧ wx.ownsRow wC.heap.size 9 1 (.slice A1 (M - P) c1) gl.length (gl.map Value.string) ∧ wx.ownsRow wC.heap.size 9 1 (.slice A2 (R - Q) c2) hl.length (hl.map Value.string) ∧ ∀ g, Value.ownBlock (.slice A1 (M - P) c1) = some g → Value.ownBlock (.slice A2 (R - Q) c2) ≠ some g), (fun _ _ e h => ⟨h.1.trans e, own_stab3 e h.2.1, own_stab3 e h.2.2.1, h.2.2.2⟩), .inr fun _ h => h.1, hz'.out, ?_⟩
          clear hK K hz' wz
          refine wpY_one 15 (by kernel_rfl) rfl rfl (fun wz hz K hK => ?_)
          obtain ⟨z12, hz12⟩ : ∃ z, wz.heap.size = z := ⟨_, rfl⟩
          have nb := Blk.new wz (.cells #[.int .i64 P, (.slice A1 (M - P) c1), (.slice A2 (R - Q) c2)] 69) hz12.symm
          have ne := (Ext.refl wz).alloc (.cells #[.int .i64 P, (.slice A1 (M - P) c1), (.slice A2 (R - Q) c2)] 69)
          have kA := Lib.hid (⟨hz.1.trans ne, own_stab3 ne hz.2.1, own_stab3 ne hz.2.2.1, hz.2.2.2, nb⟩ : _ ∧ _ ∧ _ ∧ _ ∧ _)
          clear hz nb ne
          go_simp
          refine hK _ _ ⟨(fun wx => Ext wC wx ∧ wx.ownsRow wC.heap.size 9 1 (.slice A1 (M - P) c1) gl.length (gl.map Value.string) ∧ wx.ownsRow wC.heap.size 9 1 (.slice A2 (R - Q) c2) hl.length (hl.map Value.string) ∧ (∀ g, Value.ownBlock (.slice A1 (M - P) c1) = some g → Value.ownBlock (.slice A2 (R - Q) c2) ≠ some g) ∧ Blk wx z12 (.cells #[.int .i64 P, (.slice A1 (M - P) c1), (.slice A2 (R - Q) c2)] 69)), (fun _ _ e h => ⟨h.1.trans e, own_stab3 e h.2.1, own_stab3 e h.2.2.1, h.2.2.2.1, h.2.2.2.2.ext e⟩), .inr fun _ h => h.1, kA.out, ?_⟩
          clear kA hK K hz12 wz
          refine wpY_one 16 (by kernel_rfl) rfl rfl (fun wz hz K hK => ?_)
          have hmz := HM.out.ext (XC.out.trans hz.1)
          refine wp_append (.tmp 45) (.tmp 60) 32 rfl w3.heap.size 69 hnf _ 3 56 underHk J1.out J2.out J3.out J4.out rfl (by decide) u9 outV.length (hcs outV va) (some ⟨z12, 0, none⟩) 1 1 [.int .i64 P, (.slice A1 (M - P) c1), (.slice A2 (R - Q) c2)] rfl rfl rfl (by intro u hu; simp only [List.mem_cons, List.not_mem_nil, or_false] at hu; rcases hu with rfl | rfl | rfl <;> rfl) (by simp only [maxLen]; omega) (by omega) hmz.own (.inr ⟨z12, 0, rfl, fun j u hu => by rw [hz.2.2.2.2.cell]; simpa using hu⟩) (Nat.le_trans HEW.out.size (Nat.le_trans XC.out.size hz.1.size)) (fun v1 wy hown hgr hbl => ?_)
          have kM := hmz.pushW (x := ⟨P, gl, hl⟩) HZV.out hz.2.1 hz.2.2.1 hz.2.2.2.1 (Nat.le_trans HEW.out.size XC.out.size) hgr hown
          have kE := hmz.grow_ext (HEW.out.trans (XC.out.trans hz.1)) hgr
          have kB : Blk wy z (.cells #[.int .i64 M, .int .i64 R, .int .i64 N] 104) := (NC.out.ext hz.1).lv ((Lv.refl (fun g => Value.ownBlock u9 = some g) wz).grown hgr (fun k hk _ => hk)) (fun e => by
            obtain ⟨_, c, hc⟩ := own_blk HM.out.own e
            have := hc.lt
            have := HZZ.out
            omega)
          obtain ⟨g9, k9, rfl⟩ := ownsRow_succ hown
          simp only [Act.put, List.setIfInBounds_toArray, List.set_cons_zero, List.set_cons_succ]
          refine hK _ _ ⟨(fun wx => HMem w3.heap.size (.slice (some ⟨g9, 0, none⟩) (outV.length + 1) k9) (va ++ [(.slice A1 (M - P) c1), (.slice A2 (R - Q) c2)]) (va ++ [(.slice A1 (M - P) c1), (.slice A2 (R - Q) c2)]) (outV ++ [⟨P, gl, hl⟩]) (hls (outV ++ [⟨P, gl, hl⟩])) wx ∧ Ext w3 wx ∧ Blk wx z (.cells #[.int .i64 M, .int .i64 R, .int .i64 N] 104)), (fun _ _ e h => ⟨h.1.ext e, h.2.1.trans e, h.2.2.ext e⟩), .inl (by kernel_rfl), ⟨kM, kE, kB⟩, ?_⟩
          clear kM kE kB hown hgr hbl hmz hK K hz wz wy
          refine wpY_one 17 (by kernel_rfl) rfl rfl (fun wz hz K hK => ?_)
          have hz' := Lib.hid hz
          clear hz
          go_simp
          refine hK _ _ ⟨(fun wx => HMem w3.heap.size (.slice (some ⟨g9, 0, none⟩) (outV.length + 1) k9) (va ++ [(.slice A1 (M - P) c1), (.slice A2 (R - Q) c2)]) (va ++ [(.slice A1 (M - P) c1), (.slice A2 (R - Q) c2)]) (outV ++ [⟨P, gl, hl⟩]) (hls (outV ++ [⟨P, gl, hl⟩])) wx ∧ Ext w3 wx ∧ Blk wx z (.cells #[.int .i64 M, .int .i64 R, .int .i64 N] 104)), (fun _ _ e h => ⟨h.1.ext e, h.2.1.trans e, h.2.2.ext e⟩), .inl (by kernel_rfl), hz'.out, ?_⟩
          clear hK K hz' wz
          refine wpY_done (by kernel_rfl) (fun wz hz => ?_) _
          have HZ := Lib.hid hz
          clear hz
          go_wp2_with fail
          refine wp_region_X (T := fun wx => Blk wx z (.cells #[.int .i64 M, .int .i64 R, .int .i64 N] 104)) (fun wx => HMem w3.heap.size (.slice (some ⟨g9, 0, none⟩) (outV.length + 1) k9) (va ++ [(.slice A1 (M - P) c1), (.slice A2 (R - Q) c2)]) (va ++ [(.slice A1 (M - P) c1), (.slice A2 (R - Q) c2)]) (outV ++ [⟨P, gl, hl⟩]) (hls (outV ++ [⟨P, gl, hl⟩])) wx ∧ Ext w3 wx ∧ Blk wx z (.cells #[.int .i64 M, .int .i64 R, .int .i64 N] 104)) (by kernel_rfl) ⟨HZ.out.1.ext (Ext.refl _).drew, HZ.out.2.1.trans (Ext.refl _).drew, HZ.out.2.2.drew⟩ (wpX_takes (by kernel_rfl) (fun _ d _ _ _ h => by cases d <;> exact h) (fun _ _ e h => ⟨h.1.ext e, h.2.1.trans e, h.2.2.ext e⟩) (fun _ h => h.2.2) (fuel := 2) [0, 1, 2, 3, 4, 5, 6, 7, 8, 9] _ _ (by kernel_rfl) ?_)
          iterate 10
            refine wpTk_want rfl (Eq.refl true) ?_
            apply Exists.intro
            refine ⟨fun wx hx => ?_, ?_⟩
            · obtain ⟨d00, d01, d02⟩ := hx.cells3
              clear hx
              go_simp
              with_reducible exact gives_ok _ _ _
            simp only [Act.put, List.setIfInBounds_toArray, List.set_cons_zero, List.set_cons_succ]
          refine wpTk_nil ?_
          refine wpX_one 10 (by kernel_rfl) rfl rfl (fun wz hz K hK => ?_)
          have hz' := Lib.hid hz
          clear hz
          go_simp
          refine hK _ _ ⟨(fun wx => HMem w3.heap.size (.slice (some ⟨g9, 0, none⟩) (outV.length + 1) k9) (va ++ [(.slice A1 (M - P) c1), (.slice A2 (R - Q) c2)]) (va ++ [(.slice A1 (M - P) c1), (.slice A2 (R - Q) c2)]) (outV ++ [⟨P, gl, hl⟩]) (hls (outV ++ [⟨P, gl, hl⟩])) wx ∧ Ext w3 wx ∧ Blk wx z (.cells #[.int .i64 M, .int .i64 R, .int .i64 N] 104)), (fun _ _ e h => ⟨h.1.ext e, h.2.1.trans e, h.2.2.ext e⟩), fun _ h => h.2.2, hz'.out, ?_⟩
          clear hK K hz' wz
          refine wpX_one 11 (by kernel_rfl) rfl rfl (fun wz hz K hK => ?_)
          have hz' := Lib.hid hz
          clear hz
          go_simp
          refine hK _ _ ⟨(fun wx => HMem w3.heap.size (.slice (some ⟨g9, 0, none⟩) (outV.length + 1) k9) (va ++ [(.slice A1 (M - P) c1), (.slice A2 (R - Q) c2)]) (va ++ [(.slice A1 (M - P) c1), (.slice A2 (R - Q) c2)]) (outV ++ [⟨P, gl, hl⟩]) (hls (outV ++ [⟨P, gl, hl⟩])) wx ∧ Ext w3 wx ∧ Blk wx z (.cells #[.int .i64 M, .int .i64 R, .int .i64 N] 104)), (fun _ _ e h => ⟨h.1.ext e, h.2.1.trans e, h.2.2.ext e⟩), fun _ h => h.2.2, hz'.out, ?_⟩
          clear hK K hz' wz
          refine wpX_done (by kernel_rfl) (fun wz hz => ?_) _
          have HZ9 := Lib.hid hz
          clear hz
          go_wp2_with fail
          go_roundw
          case rel => exact ⟨k + 1, by omega, by go_num, by rw [HEN.out], by rw [HEN.out], HZ9.out.2.1, _, by rw [HOF2.out]; exact HZ9.out.1⟩
          case measure => simp [intOf]; omega
      · have hd1 : ¬ ((P : Int) < M) := by omega
        have hd2 : ¬ ((Q : Int) < R) := by omega
        go_wp2_with fail
        obtain ⟨z, hz'⟩ : ∃ z, wr.heap.size = z := ⟨_, rfl⟩
        have HZ := Lib.hid (⟨HM.out.ext ((Ext.refl wr).alloc (.cells #[.int .i64 M, .int .i64 R, .int .i64 N] 104)), HEW.out.alloc (.cells #[.int .i64 M, .int .i64 R, .int .i64 N] 104), Blk.new wr (.cells #[.int .i64 M, .int .i64 R, .int .i64 N] 104) hz'.symm⟩ : _ ∧ _ ∧ _)
        have hof := HOF.out
        rw [if_neg hop, List.append_nil] at hof
        have HOF2 := Lib.hid hof
        rw [hz']
        clear hof hz' c0 c1 c2
        refine wp_region_X (T := fun wx => Blk wx z (.cells #[.int .i64 M, .int .i64 R, .int .i64 N] 104)) (fun wx => HMem w3.heap.size u9 va va outV (hls outV) wx ∧ Ext w3 wx ∧ Blk wx z (.cells #[.int .i64 M, .int .i64 R, .int .i64 N] 104)) (by kernel_rfl) ⟨HZ.out.1.ext (Ext.refl _).drew, HZ.out.2.1.trans (Ext.refl _).drew, HZ.out.2.2.drew⟩ (wpX_takes (by kernel_rfl) (fun _ d _ _ _ h => by cases d <;> exact h) (fun _ _ e h => ⟨h.1.ext e, h.2.1.trans e, h.2.2.ext e⟩) (fun _ h => h.2.2) (fuel := 2) [0, 1, 2, 3, 4, 5, 6, 7, 8, 9] _ _ (by kernel_rfl) ?_)
        iterate 10
          refine wpTk_want rfl (Eq.refl true) ?_
          apply Exists.intro
          refine ⟨fun wx hx => ?_, ?_⟩
          · obtain ⟨d00, d01, d02⟩ := hx.cells3
            clear hx
            go_simp
            with_reducible exact gives_ok _ _ _
          simp only [Act.put, List.setIfInBounds_toArray, List.set_cons_zero, List.set_cons_succ]
        refine wpTk_nil ?_
        refine wpX_one 10 (by kernel_rfl) rfl rfl (fun wz hz K hK => ?_)
        have hz' := Lib.hid hz
        clear hz
        go_simp
        refine hK _ _ ⟨(fun wx => HMem w3.heap.size u9 va va outV (hls outV) wx ∧ Ext w3 wx ∧ Blk wx z (.cells #[.int .i64 M, .int .i64 R, .int .i64 N] 104)), (fun _ _ e h => ⟨h.1.ext e, h.2.1.trans e, h.2.2.ext e⟩), fun _ h => h.2.2, hz'.out, ?_⟩
        clear hK K hz' wz
        refine wpX_one 11 (by kernel_rfl) rfl rfl (fun wz hz K hK => ?_)
        have hz' := Lib.hid hz
        clear hz
        go_simp
        refine hK _ _ ⟨(fun wx => HMem w3.heap.size u9 va va outV (hls outV) wx ∧ Ext w3 wx ∧ Blk wx z (.cells #[.int .i64 M, .int .i64 R, .int .i64 N] 104)), (fun _ _ e h => ⟨h.1.ext e, h.2.1.trans e, h.2.2.ext e⟩), fun _ h => h.2.2, hz'.out, ?_⟩
        clear hK K hz' wz
        refine wpX_done (by kernel_rfl) (fun wz hz => ?_) _
        have HZ9 := Lib.hid hz
        clear hz
        go_wp2_with fail
        go_roundw
        case rel => exact ⟨k + 1, by omega, by go_num, by rw [HEN.out], by rw [HEN.out], HZ9.out.2.1, _, by rw [HOF2.out]; exact HZ9.out.1⟩
        case measure => simp [intOf]; omega
    · have htt : l.take k = l := List.take_of_length_le (by rw [HLL.out]; omega)
      have hm9 := HM.out
      rw [htt] at hm9
      have HM9 := Lib.hid (hm9.low HE3.out.size)
      clear hm9 htt HM
      go_wp2_with fail
      exact bodyPost_ret (v := .tuple #[u9, .int .i64 0]) (by simp [results, Tryz.results28, go_sem]) rfl ⟨HE3.out.trans HEW.out, _, _, rfl, HM9.out⟩
end Go.Proofs.YtmmcjcaccicheaaGreatDoor
/- The map of the three algorithms, looked up. -/
namespace Go.Proofs.YtmmcjcaccicheaaGreatDoor
open Go.RowKit
open Go.Maps (Keyed)
theorem underIn : Tryz.prog.underlying 3 = some (.int .i64) := by kernel_rfl
theorem underMp : Tryz.prog.underlying 64 = some (.map 3 62) := by kernel_rfl
def fR (v : Value) : Option (DataW Unit × List MemPlace) :=
  match v with
  | .func (.func f) ⟨[]⟩ ⟨[]⟩ => some (.lit (.int .i64 f), [])
  | _ => none
theorem fR_inv {v : Value} {y : DataW Unit × List MemPlace} {f : Nat} (h : fR v = some y) (hy : y.1 = .lit (.int .i64 f)) : v = .func (.func f) #[] #[] := by
  unfold fR at h
  split at h
  · rename_i f'
    cases h
    simp at hy
    obtain rfl : f' = f := Int.ofNat_inj.1 hy
    rfl
  · cases h
theorem fR_mk (f : Nat) : fR (.func (.func f) #[] #[]) = some (.lit (.int .i64 f), []) := rfl
set_option maxRecDepth 100000 in
set_option maxHeartbeats 1000000 in
theorem algs (w : World) : ∃ w2 w3 w4, (Instr.mapUpdate 64 (.map (some w.heap.size)) (.int .i64 1) (.func (.func 25) #[] #[])).run Tryz.prog (w.alloc (.map #[] 0)) = .ok () w2 ∧
    (Instr.mapUpdate 64 (.map (some w.heap.size)) (.int .i64 2) (.func (.func 26) #[] #[])).run Tryz.prog w2 = .ok () w3 ∧
    (Instr.mapUpdate 64 (.map (some w.heap.size)) (.int .i64 3) (.func (.func 27) #[] #[])).run Tryz.prog w3 = .ok () w4 ∧ Ext w w4 ∧
    ∀ (al f : Nat), (al = 1 ∧ f = 25 ∨ al = 2 ∧ f = 26 ∨ al = 3 ∧ f = 27) → (Instr.lookup 64 (.map (some w.heap.size)) (.int .i64 al) true).run Tryz.prog w4 = .ok (.tuple #[.func (.func f) #[] #[], .bool true]) w4 := by
  have K : Keyed Tryz.prog 3 := Maps.int_keyed underIn
  have k1 : keyOf Tryz.prog 3 (.int .i64 1) = some (.int .i64 1) := Maps.keyOf_int_mk underIn (by decide)
  have k2 : keyOf Tryz.prog 3 (.int .i64 2) = some (.int .i64 2) := Maps.keyOf_int_mk underIn (by decide)
  have k3 : keyOf Tryz.prog 3 (.int .i64 3) = some (.int .i64 3) := Maps.keyOf_int_mk underIn (by decide)
  have o1 := World.ownsMap_made w Tryz.prog 3 fR
  obtain ⟨w2, r2, o2, g2⟩ := o1.update K underMp (by simp only [maxLen]; omega) k1 (fR_mk 25)
  obtain ⟨w3, r3, o3, g3⟩ := o2.update K underMp (by simp only [maxLen]; omega) k2 (fR_mk 26)
  obtain ⟨w4, r4, o4, g4⟩ := o3.update K underMp (by simp only [maxLen]; omega) k3 (fR_mk 27)
  have e1 := (Ext.refl w).alloc (.map #[] 0)
  have e4 : Ext w w4 := ((e1.grown g2 (fun k hk => by cases hk; exact Nat.le_refl _)).grown g3 (fun k hk => by cases hk; exact Nat.le_refl _)).grown g4 (fun k hk => by cases hk; exact Nat.le_refl _)
  refine ⟨w2, w3, w4, r2, r3, r4, e4, fun al f h => ?_⟩
  obtain ⟨es, clock, hb, F, -, hD⟩ := o4
  have hz : (zeroValue 62).run Tryz.prog w4 = .ok .nilFunc w4 := Tryz.zeroValue62 w4
  have hkey : keyOf Tryz.prog 3 (.int .i64 al) = some (.int .i64 al) := by rcases h with ⟨rfl, _⟩ | ⟨rfl, _⟩ | ⟨rfl, _⟩ <;> assumption
  have hat0 : (((DataW.put (H := Unit) (.map []) (.int .i64 1) (.lit (.int .i64 (25 : Nat)))).put (.int .i64 2) (.lit (.int .i64 (26 : Nat)))).put (.int .i64 3) (.lit (.int .i64 (27 : Nat)))).atKey (.int .i64 al) .nil = .lit (.int .i64 f) := by
    rcases h with ⟨rfl, rfl⟩ | ⟨rfl, rfl⟩ | ⟨rfl, rfl⟩ <;> rfl
  rcases Maps.fit_look true K underMp hz hb F hkey with ⟨hrun, -, hat⟩ | ⟨e0, y, -, -, hrun, hR, hat, -⟩
  · have := hat .nil
    rw [← hD, hat0] at this
    cases this
  · have := hat .nil
    rw [← hD, hat0] at this
    rw [hrun, fR_inv hR this.symm]; rfl
end Go.Proofs.YtmmcjcaccicheaaGreatDoor

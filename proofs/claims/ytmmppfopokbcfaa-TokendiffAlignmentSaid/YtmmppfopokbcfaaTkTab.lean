/- Contract: Pairs of the program. -/
import Derived.Test.YtmmppfopokbcfaaTkGrid
import Derived.Test.YtmmppfopokbcfaaTkDP
import Derived.Test.YtmmppfopokbcfaaTkSim
import Derived.Test.YtmmppfopokbcfaaTkPrs
namespace Go.Proofs.Ytmmppfopokbcfaa
open Go.RowKit

/-- Two grids: the similarities and the greatest weights. -/
structure Two (g1 g2 : Nat) (b1 b2 : Nat → Nat) (n m R C : Nat) (F1 F2 : Nat → Nat → Int) (base base2 : Nat) (w : World) : Prop where
  one : Gr g1 b1 n m F1 base w
  two : Gr g2 b2 R C F2 base2 w
  low : ∀ i, i < n → b1 i < base2
  lowg : g1 < base2
section
variable {g1 g2 n m R C base base2 : Nat} {b1 b2 : Nat → Nat} {F1 F2 : Nat → Nat → Int} {w w' : World}
theorem Two.ext (h : Two g1 g2 b1 b2 n m R C F1 F2 base base2 w) (e : Ext w w') : Two g1 g2 b1 b2 n m R C F1 F2 base base2 w' := ⟨h.one.ext e, h.two.ext e, h.low, h.lowg⟩
theorem Two.set1 (h : Two g1 g2 b1 b2 n m R C F1 F2 base base2 w) {i0 k0 : Nat} (hi0 : i0 < n) (hk0 : k0 < m) (x : Int) : Two g1 g2 b1 b2 n m R C (fun i k => if i = i0 ∧ k = k0 then x else F1 i k) F2 base base2 (w.setCell ⟨b1 i0, k0, none⟩ (.int .i64 x)) := by
  refine ⟨h.one.set hi0 hk0 x, h.two.far ?_ (fun i hi => ?_) _, h.low, h.lowg⟩
  · have := h.low i0 hi0; have := h.two.ggt; omega
  · have := h.low i0 hi0; have := h.two.gt i hi; omega
theorem Two.set2 (h : Two g1 g2 b1 b2 n m R C F1 F2 base base2 w) {i0 k0 : Nat} (hi0 : i0 < R) (hk0 : k0 < C) (x : Int) : Two g1 g2 b1 b2 n m R C F1 (fun i k => if i = i0 ∧ k = k0 then x else F2 i k) base base2 (w.setCell ⟨b2 i0, k0, none⟩ (.int .i64 x)) := by
  refine ⟨h.one.far ?_ (fun i hi => ?_) _, h.two.set hi0 hk0 x, h.low, h.lowg⟩
  · have := h.lowg; have := h.two.gt i0 hi0; omega
  · have := h.low i hi; have := h.two.gt i0 hi0; omega
end
/-- What both grids hold when the rows behind p, and of row p the places from q on, are done. -/
def Done (a b : Lns) (F1 F2 : Nat → Nat → Int) (p q : Nat) : Prop :=
  (∀ i k x y, a[i]? = some x → b[k]? = some y → (p < i ∨ (i = p ∧ q ≤ k)) → F1 i k = simV x y) ∧
  (∀ i k, i ≤ a.length → k ≤ b.length → (p < i ∨ (i = p ∧ q ≤ k) ∨ i = a.length ∨ k = b.length) → F2 i k = bestAt simV a b i k)
theorem Done.start (a b : Lns) : Done a b (fun _ _ => 0) (fun _ _ => 0) a.length 0 := by
  refine ⟨fun i k x y hx _ h => ?_, fun i k hi hk h => ?_⟩
  · have := (List.getElem?_eq_some_iff.1 hx).1; omega
  · rw [bestAt_end]; omega
theorem Done.row {a b : Lns} {F1 F2 : Nat → Nat → Int} {p : Nat} (h : Done a b F1 F2 (p + 1) 0) : Done a b F1 F2 p b.length := by
  refine ⟨fun i k x y hx hy hd => h.1 i k x y hx hy ?_, fun i k hi hk hd => h.2 i k hi hk ?_⟩
  · have := (List.getElem?_eq_some_iff.1 hy).1; omega
  · omega
theorem Done.step {a b : Lns} {F1 F2 : Nat → Nat → Int} {i k : Nat} {x y : ByteArray} {s v : Int} (h : Done a b F1 F2 i (k + 1)) (hx : a[i]? = some x) (hy : b[k]? = some y) (hs : simV x y = s) (hv : bestAt simV a b i k = v) :
    Done a b (fun i' k' => if i' = i ∧ k' = k then s else F1 i' k') (fun i' k' => if i' = i ∧ k' = k then v else F2 i' k') i k := by
  refine ⟨fun i' k' x' y' hx' hy' hd => ?_, fun i' k' hi hk hd => ?_⟩
  · dsimp only
    split
    · rename_i e
      obtain ⟨rfl, rfl⟩ := e
      rw [hx] at hx'; rw [hy] at hy'
      cases hx'; cases hy'
      exact hs.symm
    · exact h.1 i' k' x' y' hx' hy' (by omega)
  · dsimp only
    split
    · rename_i e
      obtain ⟨rfl, rfl⟩ := e
      exact hv.symm
    · exact h.2 i' k' hi hk (by omega)
theorem Done.same {a b : Lns} {F1 F2 G2 : Nat → Nat → Int} {i k : Nat} (h : Done a b F1 F2 i k) (he : ∀ i' k', F2 i' k' = G2 i' k') : Done a b F1 G2 i k :=
  ⟨h.1, fun i' k' hi hk hd => by rw [← he]; exact h.2 i' k' hi hk hd⟩
theorem best_I (a b : Lns) (i k : Nat) (ha : a.length ≤ 10) : 0 ≤ bestAt simV a b i k ∧ bestAt simV a b i k ≤ 1000 := by
  have h1 := bestAt_ge simV a b i k
  have h2 := (best_top simV (fun x y => (sim_range x y).2.1) (a.drop i) (b.drop k)).1
  refine ⟨h1, ?_⟩
  unfold bestAt
  rw [List.length_drop] at h2
  omega

theorem pairs_wf {a b : Lns} (ha : a.length ≤ 10) (hb : b.length ≤ 10) : ∀ p ∈ pairsAt simV a b 0 0, prwf p := by
  have h := pairs_in simV a b (a.length + b.length) 0 0 (by omega)
  intro p hp
  have := h p hp
  exact ⟨⟨by omega, by omega⟩, ⟨by omega, by omega⟩⟩
theorem table_at {r c : Int} {R C : Nat} (w : World) (hr : r = R) (hc : c = C) (hR : R ≤ 1000) (hC : C ≤ 1000) :
    Calls Try.prog 46 #[.int .i64 r, .int .i64 c] w fun e w' => ∃ b, e = .returned (.slice (some ⟨w.heap.size, 0, none⟩) R R) ∧ Gr w.heap.size b R C (fun _ _ => 0) w.heap.size w' ∧ Ext w w' := by
  subst hr hc
  exact table_any R C w hR hC
set_option maxRecDepth 100000 in
set_option maxHeartbeats 16000000 in
theorem pairs_any (A B : Option Addr) (c d : Nat) (a b : Lns) (w : World) (hA : Strs w A a.length a) (hB : Strs w B b.length b) (ha : a.length ≤ 10) (hb : b.length ≤ 10) (_hac : a.length ≤ c) (_hbd : b.length ≤ d) (hsa : ∀ s ∈ a, s.size ≤ 100) (hsb : ∀ s ∈ b, s.size ≤ 100) :
    Calls Try.prog 22 #[.slice A a.length c, .slice B b.length d] w fun e w' => ∃ A c, e = .returned (.slice A (pairsAt simV a b 0 0).length c) ∧ (pairsAt simV a b 0 0).length ≤ c ∧ Prs w' A (pairsAt simV a b 0 0).length (pairsAt simV a b 0 0) ∧ Ext w w' := by
  have HA := Lib.hid hA; have HB := Lib.hid hB; have HSA := Lib.hid hsa; have HSB := Lib.hid hsb; clear hA hB hsa hsb
  obtain ⟨n, hn⟩ : ∃ n, a.length = n := ⟨_, rfl⟩
  obtain ⟨m, hm⟩ : ∃ m, b.length = m := ⟨_, rfl⟩
  rw [hn] at ha _hac HA
  rw [hm] at hb _hbd HB
  rw [hn, hm]
  have HN := Lib.hid hn; have HM := Lib.hid hm; clear hn hm
  go_enter Try.func22, Try.ntmps22
  go_wp2_with fail
  refine (table_any n m w (by omega) (by omega)).mono ?_
  rintro e w1 ⟨b1, rfl, hG1, hE⟩
  have HG1 := Lib.hid hG1; have HE1 := Lib.hid hE; clear hG1 hE
  go_wp2_with fail
  refine (table_at (R := n + 1) (C := m + 1) w1 (by simp) (by simp) (by omega) (by omega)).mono ?_
  rintro e w2 ⟨b2, rfl, hG2, hE⟩
  have hT : Two w.heap.size w1.heap.size b1 b2 n m (n + 1) (m + 1) (fun _ _ => 0) (fun _ _ => 0) w.heap.size w1.heap.size w2 := ⟨HG1.out.ext hE, hG2, HG1.out.lt, HG1.out.glt⟩
  have HT := Lib.hid hT; have HE2 := Lib.hid (HE1.out.trans hE); have HS1 := Lib.hid HE1.out.size; clear hG2 hE hT HE1 HG1
  obtain ⟨g1, hg1⟩ : ∃ g1, w.heap.size = g1 := ⟨_, rfl⟩
  obtain ⟨g2, hg2⟩ : ∃ g2, w1.heap.size = g2 := ⟨_, rfl⟩
  rw [hg1, hg2] at HT HS1
  rw [hg1, hg2]
  have HW := Lib.hid hg1; clear hg1 hg2
  have HD := Lib.hid (show Done a b (fun _ _ => 0) (fun _ _ => 0) n 0 by have := Done.start a b; rwa [HN.out] at this)
  go_wp2_with fail
  go_loopw [7] (fun v7 wr => ∃ (p : Nat) (F1 F2 : Nat → Nat → Int), p ≤ n ∧ v7 = .int .i64 ((p : Int) - 1) ∧ Two g1 g2 b1 b2 n m (n + 1) (m + 1) F1 F2 g1 g2 wr ∧ Done a b F1 F2 p 0 ∧ Ext w wr) (fun v7 _ => (intOf v7 + 1).toNat)
  case atStart => exact ⟨n, _, _, Nat.le_refl _, rfl, HT.out, HD.out, HE2.out⟩
  case round =>
    obtain ⟨p, F1, F2, hp, rfl, hT, hD, hE⟩ := hrel
    have HT3 := Lib.hid hT; have HD3 := Lib.hid hD; have HE3 := Lib.hid hE; clear hT hD hE HT HD HE2
    cases p with
    | zero =>
      rw [show (((0 : Nat) : Int) - 1) = -1 from rfl]
      obtain ⟨W, rfl⟩ : ∃ W, W = wr := ⟨_, rfl⟩
      have HSM := Lib.hid (fun (i k : Nat) (x y : ByteArray) (hx : a[i]? = some x) (hy : b[k]? = some y) => HD3.out.1 i k x y hx hy (by omega))
      have HBS := Lib.hid (fun (i k : Nat) (hi : i ≤ n) (hk : k ≤ m) => HD3.out.2 i k (by rw [HN.out]; exact hi) (by rw [HM.out]; exact hk) (by omega))
      clear HD3 HS1
      go_wp2_with fail
      go_loopw [10, 11, 12] (fun v10 v11 v12 wr => ∃ (i k : Nat) (L : List (Int × Int)), i ≤ n ∧ k ≤ m ∧ v11 = .int .i64 i ∧ v12 = .int .i64 k ∧ L.length ≤ i ∧ L ++ pairsAt simV a b i k = pairsAt simV a b 0 0 ∧ wr.ownsRow W.heap.size 39 2 v10 L.length (L.flatMap prc) ∧ Ext W wr) (fun _ v11 v12 _ => (n - (intOf v11).toNat) + (m - (intOf v12).toNat))
      case atStart => exact ⟨0, 0, [], Nat.zero_le _, Nat.zero_le _, rfl, rfl, Nat.zero_le _, rfl, World.ownsRow_nil _ _ _ _, Ext.refl _⟩
      case round =>
        obtain ⟨i, k, L, hi, hk, rfl, rfl, hL, hpre, ho, hE⟩ := hrel
        have HP := Lib.hid hpre; have HO := Lib.hid ho; have HE := Lib.hid hE; clear hpre ho hE
        by_cases hik : i < n ∧ k < m
        case neg =>
          have hend : pairsAt simV a b i k = [] := pairsAt_end simV a b (by rw [HN.out, HM.out]; omega)
          have hfin : L = pairsAt simV a b 0 0 := by rw [← HP.out, hend, List.append_nil]
          have hwf : ∀ p ∈ L, prwf p := hfin ▸ pairs_wf (by rw [HN.out]; exact ha) (by rw [HM.out]; exact hb)
          obtain ⟨A', c', rfl, hc', hPr⟩ := own_prs HO.out hwf
          rw [hfin] at hPr hc'
          have hr : L.length = (pairsAt simV a b 0 0).length := by rw [hfin]
          have HPR := Lib.hid hPr; have HR := Lib.hid hr; have HEx := Lib.hid (HE3.out.trans HE.out); clear hPr hr hend hfin hwf
          as_aux_lemma =>
            by_cases h1 : i < n
            · have h2 : ¬ k < m := by omega
              go_wp2_with fail
              go_ret
              exact ⟨A', c', by rw [HR.out]; rfl, hc', HPR.out, HEx.out⟩
            · go_wp2_with fail
              go_ret
              exact ⟨A', c', by rw [HR.out]; rfl, hc', HPR.out, HEx.out⟩
        case pos =>
          obtain ⟨hin, hkm⟩ := hik
          have hx := List.getElem?_eq_getElem (l := a) (i := i) (by rw [HN.out]; exact hin)
          have hy := List.getElem?_eq_getElem (l := b) (i := k) (by rw [HM.out]; exact hkm)
          obtain ⟨x, hx2⟩ : ∃ x, a[i]? = some x := ⟨_, hx⟩
          obtain ⟨y, hy2⟩ : ∃ y, b[k]? = some y := ⟨_, hy⟩
          have hT := HT3.out.ext HE.out
          have c1 := hT.one.row i hin
          have c2 := hT.one.cell i k hin hkm
          have c3 := hT.two.row i (by omega)
          have c4 := hT.two.row (i + 1) (by omega)
          have c5 := hT.two.cell (i + 1) (k + 1) (by omega) (by omega)
          have c6 := hT.two.cell i k (by omega) (by omega)
          have c7 := hT.two.cell (i + 1) k (by omega) (by omega)
          rw [HSM.out i k x y hx2 hy2] at c2
          rw [HBS.out (i + 1) (k + 1) (by omega) (by omega)] at c5
          rw [HBS.out i k (by omega) (by omega)] at c6
          rw [HBS.out (i + 1) k (by omega) (by omega)] at c7
          have hstep := pairsAt_step simV a b hx2 hy2
          have r1 := best_I a b i k (by rw [HN.out]; exact ha)
          have r2 := best_I a b (i + 1) k (by rw [HN.out]; exact ha)
          have r3 := best_I a b (i + 1) (k + 1) (by rw [HN.out]; exact ha)
          have r4 := sim_range x y
          obtain ⟨s, hs⟩ : ∃ z, simV x y = z := ⟨_, rfl⟩
          obtain ⟨B1, hB1⟩ : ∃ z, bestAt simV a b i k = z := ⟨_, rfl⟩
          obtain ⟨B2, hB2⟩ : ∃ z, bestAt simV a b (i + 1) k = z := ⟨_, rfl⟩
          obtain ⟨B3, hB3⟩ : ∃ z, bestAt simV a b (i + 1) (k + 1) = z := ⟨_, rfl⟩
          rw [hB1, hB2, hB3, hs] at hstep
          rw [hs] at c2 r4
          rw [hB1] at c6 r1
          rw [hB2] at c7 r2
          rw [hB3] at c5 r3
          have HST := hstep; clear hstep hs hB1 hB2 hB3 hx hy hx2 hy2 hT
          obtain ⟨r10, r11⟩ := r1; obtain ⟨r20, r21⟩ := r2; obtain ⟨r30, r31⟩ := r3; obtain ⟨r40, r41, -⟩ := r4
          have h0 : (0 : Int) ≤ i := Int.natCast_nonneg _
          have h1 : (i : Int) < n := by omega
          have h2 : (0 : Int) ≤ k := Int.natCast_nonneg _
          have h3 : (k : Int) < m := by omega
          have f1 : i + 1 < n + 1 := by omega
          have f2 : k + 1 < m + 1 := by omega
          have h4 : (i : Int) < (n + 1 : Nat) := by omega
          have h5 : (k : Int) < (m + 1 : Nat) := by omega
          have h6 : (i : Int) + 1 < (n + 1 : Nat) := by omega
          have h7 : (k : Int) + 1 < (m + 1 : Nat) := by omega
          clear HT3 HSM HBS
          as_aux_lemma =>
            by_cases h50 : 50 ≤ s
            case neg =>
              rw [if_neg (fun h => h50 h.1)] at HST
              have q50 : decide (50 ≤ s) = false := by simpa using h50
              go_wp2_with fail
              go_region
              go_wp2_with fail
              by_cases h21 : B2 = B1
              case pos =>
                rw [if_pos h21] at HST
                go_region
                go_wp2_with fail
                go_roundw
                case rel => exact ⟨i + 1, k, L, by omega, by omega, by go_num, by go_num, by omega, by rw [← HST]; exact HP.out, own_stab3 ((Ext.refl _).drew.drew) HO.out, HE.out.drew.drew⟩
                case measure => simp [intOf]; omega
              case neg =>
                rw [if_neg h21] at HST
                go_region
                go_wp2_with fail
                go_roundw
                case rel => exact ⟨i, k + 1, L, by omega, by omega, by go_num, by go_num, by omega, by rw [← HST]; exact HP.out, own_stab3 ((Ext.refl _).drew.drew) HO.out, HE.out.drew.drew⟩
                case measure => simp [intOf]; omega
            case pos =>
              by_cases h31 : s + B3 = B1
              case neg =>
                rw [if_neg (fun h => h31 h.2)] at HST
                have w3 : IntKind.i64.wrap (s + B3) = s + B3 := wrap_in (by omega) (by omega)
                go_wp2_with fail
                go_region
                go_wp2_with fail
                by_cases h21 : B2 = B1
                case pos =>
                  rw [if_pos h21] at HST
                  go_region
                  go_wp2_with fail
                  go_roundw
                  case rel => exact ⟨i + 1, k, L, by omega, by omega, by go_num, by go_num, by omega, by rw [← HST]; exact HP.out, own_stab3 ((Ext.refl _).drew.drew) HO.out, HE.out.drew.drew⟩
                  case measure => simp [intOf]; omega
                case neg =>
                  rw [if_neg h21] at HST
                  go_region
                  go_wp2_with fail
                  go_roundw
                  case rel => exact ⟨i, k + 1, L, by omega, by omega, by go_num, by go_num, by omega, by rw [← HST]; exact HP.out, own_stab3 ((Ext.refl _).drew.drew) HO.out, HE.out.drew.drew⟩
                  case measure => simp [intOf]; omega
              case pos =>
                rw [if_pos ⟨h50, h31⟩] at HST
                have w3 : IntKind.i64.wrap (s + B3) = s + B3 := wrap_in (by omega) (by omega)
                obtain ⟨inf, i1, i2, i3, i4⟩ := info_of infoPr
                have I1 := Lib.hid i1; have I2 := Lib.hid i2; have I3 := Lib.hid i3; have I4 := Lib.hid i4; clear i1 i2 i3 i4
                have HO8 := Lib.hid (own_stab3 ((Ext.refl wr).drew) HO.out); have HE8 := Lib.hid HE.out.drew
                go_wp2_with fail
                go_region
                obtain ⟨W8, hW8⟩ : ∃ W8, wr.drew = W8 := ⟨_, rfl⟩
                rw [hW8] at HO8 HE8 ⊢
                clear hW8 c1 c2 c3 c4 c5 c6 c7
                go_wp2_with (at_builtin; refine wpList_append_size2 rfl (.tmp 149) (.tmp 153) 34 rfl W.heap.size 39 inf _ 2 16 underPr I1.out I2.out I3.out I4.out rfl (by decide) u10 L.length (L.flatMap prc) (some ⟨W8.heap.size, 0, none⟩) 1 1 (prc ((i : Int), (k : Int))) rfl (by simp [Act.eval]) rfl (by simp [prc, Value.oneCell']) (by simp only [maxLen]; omega) (by omega) (own_stab3 ((Ext.refl W8).alloc _) HO8.out) (Cells.new W8 _ _ rfl) (by have := HE8.out.size; simp; omega) ?_; intro v' w3 hown hg hbk)
                go_roundw
                case rel =>
                  refine ⟨i + 1, k + 1, L ++ [((i : Int), (k : Int))], by omega, by omega, by go_num, by go_num, by simp; omega, by rw [List.append_assoc, List.singleton_append, ← HST]; exact HP.out, ?_, (HE8.out.alloc _).own3 (own_stab3 ((Ext.refl W8).alloc _) HO8.out) hg⟩
                  rw [List.flatMap_append, List.length_append]
                  simpa using hown
                case measure => simp [intOf]; omega
    | succ i =>
      rw [show (((i + 1 : Nat) : Int) - 1) = (i : Int) by omega]
      have HD4 := Lib.hid (show Done a b F1 F2 i m by have := HD3.out.row; rwa [HM.out] at this)
      clear HD3
      go_wp2_with fail
      go_loopw [8] (fun v8 wy => ∃ (q : Nat) (G1 G2 : Nat → Nat → Int), q ≤ m ∧ v8 = .int .i64 ((q : Int) - 1) ∧ Two g1 g2 b1 b2 n m (n + 1) (m + 1) G1 G2 g1 g2 wy ∧ Done a b G1 G2 i q ∧ Ext w wy) (fun v8 _ => (intOf v8 + 1).toNat)
      case atStart => exact ⟨m, _, _, Nat.le_refl _, rfl, HT3.out, HD4.out, HE3.out⟩
      case round =>
        obtain ⟨q, G1, G2, hq, rfl, hT, hD, hE⟩ := hrel
        have HT5 := Lib.hid hT; have HD5 := Lib.hid hD; have HE5 := Lib.hid hE; clear hT hD hE HT3 HD4 HE3
        cases q with
        | zero =>
          go_wp2_with fail
          go_roundw
          case rel => exact ⟨i, G1, G2, by omega, by go_num, HT5.out, HD5.out, HE5.out⟩
          case measure => simp [intOf]
        | succ k =>
          rw [show (((k + 1 : Nat) : Int) - 1) = (k : Int) by omega]
          obtain ⟨ba, oa, x, hAe, hba, hx, -, cx⟩ := (HA.out.ext HE5.out).get (k := i) (by omega)
          obtain ⟨bb, ob, y, hBe, hbb, hy, -, cy⟩ := (HB.out.ext HE5.out).get (k := k) (by omega)
          subst hAe hBe
          go_wp2_with fail
          have hxs := HSA.out x (List.mem_of_getElem? hx)
          have hys := HSB.out y (List.mem_of_getElem? hy)
          have h0 : (0 : Int) ≤ i := Int.natCast_nonneg _
          have h1 : (i : Int) < n := by omega
          have h2 : (0 : Int) ≤ k := Int.natCast_nonneg _
          have h3 : (k : Int) < m := by omega
          obtain ⟨s, hs⟩ : ∃ s, simV x y = s := ⟨_, rfl⟩
          have HX := Lib.hid hx; have HY := Lib.hid hy; have HS := Lib.hid hs; have HR := Lib.hid (hs ▸ sim_range x y); clear hx hy hs
          refine wp_region_text (fun wx => Ext wr wx) [0,1,2,3,4,5,6,7,8,9] (by kernel_rfl) (Stab.ext _) (Ext.refl wr).drew (by kernel_rfl) (fun _ d _ _ _ h => by cases d <;> exact h) ?_
          iterate 8
            refine wpTk_want rfl (Eq.refl true) ?_
            apply Exists.intro
            refine ⟨fun wx hx => ?_, ?_⟩
            · have d1 := hx.cell cx
              have d2 := hx.cell cy
              clear hx
              go_simp
              with_reducible exact gives_ok _ _ _
            simp only [Act.put, List.setIfInBounds_toArray, List.set_cons_zero, List.set_cons_succ]
          refine wpTk_want rfl (Eq.refl true) ⟨.int .i64 s, fun wx hx => ?_, ?_⟩
          · clear hx
            go_simp
            refine gives_call _ _ _ ((sim_any x y wx hxs hys).mono ?_)
            rintro e w' ⟨rfl, hE⟩
            exact ⟨by rw [HS.out], hE⟩
          simp only [Act.put, List.setIfInBounds_toArray, List.set_cons_zero, List.set_cons_succ]
          refine wpTk_want rfl (Eq.refl true) ?_
          apply Exists.intro
          refine ⟨fun wx hx => ?_, ?_⟩
          · clear hx
            go_simp
            with_reducible exact gives_ok _ _ _
          simp only [Act.put, List.setIfInBounds_toArray, List.set_cons_zero, List.set_cons_succ]
          refine wpTk_nil fun w4 hE4 => ?_
          as_aux_lemma =>
            have hT6 := HT5.out.ext hE4
            have HE6 := Lib.hid (HE5.out.trans hE4)
            have r1 := hT6.one.row i (by omega)
            have r2 := hT6.one.cell i k (by omega) (by omega)
            have r3 := hT6.one.free i k (by omega) (by omega)
            have hT7 := hT6.set1 (i0 := i) (k0 := k) (by omega) (by omega) s
            obtain ⟨W5, hW5⟩ : ∃ W5, w4.setCell ⟨b1 i, k, none⟩ (.int .i64 s) = W5 := ⟨_, rfl⟩
            have HE7 := Lib.hid (hW5 ▸ (HE6.out.setCell (p := ⟨b1 i, k, none⟩) (by rw [HW.out]; exact hT6.one.gt i (by omega)) (.int .i64 s)) : Ext w W5)
            rw [hW5] at hT7
            have c1 := hT7.two.row i (by omega)
            have c2 := hT7.two.row (i + 1) (by omega)
            have c3 := hT7.two.cell (i + 1) k (by omega) (by omega)
            have c4 := hT7.two.cell i (k + 1) (by omega) (by omega)
            have c5 := hT7.two.cell i k (by omega) (by omega)
            have c6 := hT7.two.free i k (by omega) (by omega)
            have hv3 := HD5.out.2 (i + 1) k (by rw [HN.out]; omega) (by rw [HM.out]; omega) (by omega)
            have hv4 := HD5.out.2 i (k + 1) (by rw [HN.out]; omega) (by rw [HM.out]; omega) (by omega)
            rw [hv3] at c3
            rw [hv4] at c4
            obtain ⟨B3, hB3⟩ : ∃ z, bestAt simV a b (i + 1) k = z := ⟨_, rfl⟩
            obtain ⟨B4, hB4⟩ : ∃ z, bestAt simV a b i (k + 1) = z := ⟨_, rfl⟩
            rw [hB3] at c3
            rw [hB4] at c4
            have hT8 := hT7.two.lt i (by omega)
            have HT7 := Lib.hid hT7; have HB3 := Lib.hid hB3; have HB4 := Lib.hid hB4; have HW5 := Lib.hid hW5
            clear hT7 hB3 hB4 hv3 hv4 hT6 hE4 HT5 HE5 HE6 hW5 cx cy hxs hys
            have f1 : i + 1 < n + 1 := by omega
            have f2 : k + 1 < m + 1 := by omega
            have h4 : (i : Int) < (n + 1 : Nat) := by omega
            have h5 : (k : Int) < (m + 1 : Nat) := by omega
            have h6 : (i : Int) + 1 < (n + 1 : Nat) := by omega
            have h7 : (k : Int) + 1 < (m + 1 : Nat) := by omega
            go_wp2_with fail
            rw [HW5.out]
            go_region
            as_aux_lemma =>
              have hT9 := (HT7.out.set2 (i0 := i) (k0 := k) (by omega) (by omega) (max B3 B4)).ext (Ext.refl _).drew
              have HE9 := Lib.hid ((HE7.out.setCell (p := ⟨b2 i, k, none⟩) (by rw [HW.out]; exact Nat.le_trans HS1.out (HT7.out.two.gt i (by omega))) (.int .i64 (max B3 B4))).drew)
              obtain ⟨W6, hW6⟩ : ∃ W6, (W5.setCell ⟨b2 i, k, none⟩ (.int .i64 (max B3 B4))).drew = W6 := ⟨_, rfl⟩
              rw [hW6] at hT9 HE9 ⊢
              clear c1 c2 c3 c4 c5 c6
              have hstep := bestAt_step simV a b HX.out HY.out
              rw [HB3.out, HB4.out, HS.out] at hstep
              by_cases h50 : 50 ≤ s
              case neg =>
                rw [if_neg h50] at hstep
                have hD9 : Done a b (fun i' k' => if i' = i ∧ k' = k then s else G1 i' k') (fun i' k' => if i' = i ∧ k' = k then max B3 B4 else G2 i' k') i k := HD5.out.step HX.out HY.out HS.out hstep
                have HT9 := Lib.hid hT9; have HD9 := Lib.hid hD9; clear hT9 hD9 hstep HD5 HT7
                go_wp2_with fail
                go_roundw
                case rel => exact ⟨k, _, _, by omega, by go_num, HT9.out, HD9.out, HE9.out⟩
                case measure => simp [intOf]
              case pos =>
                rw [if_pos h50] at hstep
                have hb5 := best_I a b (i + 1) (k + 1) (by rw [HN.out]; exact ha)
                have hb3 := best_I a b (i + 1) k (by rw [HN.out]; exact ha)
                have hb4 := best_I a b i (k + 1) (by rw [HN.out]; exact ha)
                rw [HB3.out] at hb3
                rw [HB4.out] at hb4
                have hv5 := HD5.out.2 (i + 1) (k + 1) (by rw [HN.out]; omega) (by rw [HM.out]; omega) (by omega)
                have c1 := hT9.two.row i (by omega)
                have c2 := hT9.two.row (i + 1) (by omega)
                have c3 := hT9.two.cell (i + 1) (k + 1) (by omega) (by omega)
                have c5 := hT9.two.cell i k (by omega) (by omega)
                have c6 := hT9.two.free i k (by omega) (by omega)
                rw [if_neg (by omega), hv5] at c3
                rw [if_pos ⟨rfl, rfl⟩] at c5
                obtain ⟨B5, hB5⟩ : ∃ z, bestAt simV a b (i + 1) (k + 1) = z := ⟨_, rfl⟩
                rw [hB5] at c3 hb5 hstep
                have hsr := HR.out
                have w1 : IntKind.i64.wrap (s + B5) = s + B5 := wrap_in (by omega) (by omega)
                have hD9 : Done a b (fun i' k' => if i' = i ∧ k' = k then s else G1 i' k') (fun i' k' => if i' = i ∧ k' = k then max (max B3 B4) (s + B5) else (if i' = i ∧ k' = k then max B3 B4 else G2 i' k')) i k := (HD5.out.step HX.out HY.out HS.out hstep).same fun i' k' => by split <;> rfl
                obtain ⟨B6, hB6⟩ : ∃ z, max B3 B4 = z := ⟨_, rfl⟩
                rw [hB6] at c5 hT9 hD9
                have hB6' : 0 ≤ B6 ∧ B6 ≤ 1000 := by omega
                have HT9 := Lib.hid hT9; have HD9 := Lib.hid hD9; clear hT9 hD9 hstep HD5 HT7 hb3 hb4 hv5 hB5 hB6
                obtain ⟨hs0, hs1, -⟩ := hsr
                obtain ⟨hb50, hb51⟩ := hb5
                obtain ⟨hb60, hb61⟩ := hB6'
                go_wp2_with fail
                go_region
                have HT10 := Lib.hid ((HT9.out.set2 (i0 := i) (k0 := k) (by omega) (by omega) (max B6 (s + B5))).ext (Ext.refl _).drew)
                have HE10 := Lib.hid ((HE9.out.setCell (p := ⟨b2 i, k, none⟩) (by rw [HW.out]; exact Nat.le_trans HS1.out (HT9.out.two.gt i (by omega))) (.int .i64 (max B6 (s + B5)))).drew)
                as_aux_lemma =>
                  obtain ⟨W7, hW7⟩ : ∃ W7, (W6.setCell ⟨b2 i, k, none⟩ (.int .i64 (max B6 (s + B5)))).drew = W7 := ⟨_, rfl⟩
                  rw [hW7] at HT10 HE10 ⊢
                  clear hW7 w1 c1 c2 c3 c5 c6 HT9 hb50 hb51 hb60 hb61 hs0 hs1 h50
                  obtain ⟨F3, hF3⟩ : ∃ F, (fun i' k' => if i' = i ∧ k' = k then s else G1 i' k') = F := ⟨_, rfl⟩
                  obtain ⟨F4, hF4⟩ : ∃ F, (fun i' k' => if i' = i ∧ k' = k then max B6 (s + B5) else (if i' = i ∧ k' = k then B6 else G2 i' k')) = F := ⟨_, rfl⟩
                  rw [hF3, hF4] at HT10 HD9
                  clear hF3 hF4
                  go_wp2_with fail
                  go_roundw
                  case rel => exact ⟨k, F3, F4, by omega, by go_num, HT10.out, HD9.out, HE10.out⟩
                  case measure => simp [intOf]
end Go.Proofs.Ytmmppfopokbcfaa

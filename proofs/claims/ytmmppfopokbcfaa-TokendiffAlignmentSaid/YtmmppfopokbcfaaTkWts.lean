/- Contract: weights of the reference. -/
import Derived.Test.YtmmppfopokbcfaaTkWg
import Derived.Test.YtmmppfopokbcfaaTkTab
import Derived.Deep.DeepCutAuto
namespace Go.Proofs.Ytmmppfopokbcfaa
open Go.RowKit

theorem Done.begin (a b : Lns) : Done a b (fun _ _ => 0) (fun _ _ => 0) (a.length + 1) 0 := by
  refine ⟨fun i k x y hx _ h => ?_, fun i k hi hk h => ?_⟩
  · have := (List.getElem?_eq_some_iff.1 hx).1; omega
  · rw [bestAt_end]; omega
theorem Done.fresh {a b : Lns} {F1 F2 : Nat → Nat → Int} {p : Nat} (h : Done a b F1 F2 (p + 1) 0) : Done a b (fun i k => if i = p then 0 else F1 i k) (fun i k => if i = p then 0 else F2 i k) p b.length := by
  refine ⟨fun i k x y hx hy hd => ?_, fun i k hi hk hd => ?_⟩
  · have := (List.getElem?_eq_some_iff.1 hy).1
    dsimp only
    rw [if_neg (by omega)]
    exact h.1 i k x y hx hy (by omega)
  · dsimp only
    by_cases hp : i = p
    · rw [if_pos hp, bestAt_end]; omega
    · rw [if_neg hp]
      exact h.2 i k hi hk (by omega)
theorem Done.last {a b : Lns} {F1 F2 : Nat → Nat → Int} {p q : Nat} (h : Done a b F1 F2 p q) (hp : a.length ≤ p) : Done a b F1 F2 p 0 := by
  refine ⟨fun i k x y hx hy hd => ?_, fun i k hi hk hd => h.2 i k hi hk (by omega)⟩
  have := (List.getElem?_eq_some_iff.1 hx).1
  omega

theorem Done.set2 {a b : Lns} {F : Bool → Nat → Nat → Int} {i k : Nat} {x y : ByteArray} {s v : Int} (h : Done a b (F true) (F false) i (k + 1)) (hx : a[i]? = some x) (hy : b[k]? = some y) (hs : simV x y = s) (hv : bestAt simV a b i k = v) :
    Done a b ((fun d i' k' => if d = false ∧ i' = i ∧ k' = k then v else if d = true ∧ i' = i ∧ k' = k then s else F d i' k') true) ((fun d i' k' => if d = false ∧ i' = i ∧ k' = k then v else if d = true ∧ i' = i ∧ k' = k then s else F d i' k') false) i k := by
  have := h.step hx hy hs hv
  simpa using this
def pick2 (x y : Nat) : Bool → Nat
  | true => x
  | false => y
theorem Wg.two {R C : Nat} {g : Bool → Nat} (w : World) {t : TypeId} (h1 : w.heap.size ≤ g true ∧ w.heap.size ≤ g false ∧ g true ≠ g false) (h2 : g true ≤ w.heap.size + 1 ∧ g false ≤ w.heap.size + 1) :
    Wg g (fun _ _ => 0) R R C (fun _ _ _ => 0) w.heap.size ((w.alloc (.cells (madeCells #[.slice none 0 0] R) t)).alloc (.cells (madeCells #[.slice none 0 0] R) t)) := by
  obtain ⟨w3, hw3⟩ : ∃ w3, w.alloc (.cells (madeCells #[.slice none 0 0] R) t) = w3 := ⟨_, rfl⟩
  have s3 : w3.heap.size = w.heap.size + 1 := by rw [← hw3]; simp
  have e3 : Ext w3 (w3.alloc (.cells (madeCells #[.slice none 0 0] R) t)) := (Ext.refl w3).alloc _
  have s4 : (w3.alloc (.cells (madeCells #[.slice none 0 0] R) t)).heap.size = w.heap.size + 2 := by simp [s3]
  have z0 : ∀ k, k < R → w3.cell? ⟨w.heap.size, k, none⟩ = some (.slice none 0 0) ∧ w3.frozen? ⟨w.heap.size, k, none⟩ = false := by
    intro k hk
    rw [← hw3]
    exact alloc_cell (made_at _ hk)
  have z1 : ∀ k, k < R → (w3.alloc (.cells (madeCells #[.slice none 0 0] R) t)).cell? ⟨w.heap.size + 1, k, none⟩ = some (.slice none 0 0) ∧ (w3.alloc (.cells (madeCells #[.slice none 0 0] R) t)).frozen? ⟨w.heap.size + 1, k, none⟩ = false := by
    intro k hk
    rw [← s3]
    exact alloc_cell (made_at _ hk)
  rw [hw3]
  obtain ⟨w4, hw4⟩ : ∃ w4, w3.alloc (.cells (madeCells #[.slice none 0 0] R) t) = w4 := ⟨_, rfl⟩
  rw [hw4] at e3 s4 z1 ⊢
  have z : ∀ d k, k < R → w4.cell? ⟨g d, k, none⟩ = some (.slice none 0 0) ∧ w4.frozen? ⟨g d, k, none⟩ = false := by
    intro d k hk
    have hg : g d = w.heap.size ∨ g d = w.heap.size + 1 := by cases d <;> omega
    rcases hg with hg | hg
    · rw [hg]; exact ⟨e3.cell (z0 k hk).1, (e3.frozen (by show w.heap.size < w3.heap.size; omega)).trans (z0 k hk).2⟩
    · rw [hg]; exact z1 k hk
  exact ⟨fun d i h1 h2 => absurd h2 (by omega), fun d i _ h2 => (z d i h2).1, fun d i h2 => (z d i h2).2, fun d i k h1 h2 => absurd h2 (by omega), fun d i k h1 h2 => absurd h2 (by omega), fun d d' i i' h1 h2 => absurd h2 (by omega),
    fun d d' i h1 h2 => absurd h2 (by omega), h1.2.2, fun d i h1 h2 => absurd h2 (by omega), fun d i h1 h2 => absurd h2 (by omega), fun d => by cases d <;> omega, fun d => by cases d <;> omega⟩
set_option maxRecDepth 100000 in
set_option maxHeartbeats 16000000 in
theorem weights_any (A B : Option Addr) (c d : Nat) (a b : Lns) (w : World) (hA : Strs w A a.length a) (hB : Strs w B b.length b) (ha : a.length ≤ 10) (hb : b.length ≤ 10) (_hac : a.length ≤ c) (_hbd : b.length ≤ d) (hsa : ∀ s ∈ a, s.size ≤ 100) (hsb : ∀ s ∈ b, s.size ≤ 100) :
    Calls Try.prog 47 #[.slice A a.length c, .slice B b.length d] w fun e w' => ∃ g br F, e = .returned (.tuple #[.slice (some ⟨g true, 0, none⟩) (a.length + 1) (a.length + 1), .slice (some ⟨g false, 0, none⟩) (a.length + 1) (a.length + 1)]) ∧ Wg g br 0 (a.length + 1) (b.length + 1) F w.heap.size w' ∧ Done a b (F true) (F false) 0 0 ∧ Ext w w' := by
  have HA := Lib.hid hA; have HB := Lib.hid hB; have HSA := Lib.hid hsa; have HSB := Lib.hid hsb; clear hA hB hsa hsb
  obtain ⟨n, hn⟩ : ∃ n, a.length = n := ⟨_, rfl⟩
  obtain ⟨m, hm⟩ : ∃ m, b.length = m := ⟨_, rfl⟩
  rw [hn] at ha _hac HA
  rw [hm] at hb _hbd HB
  rw [hn, hm]
  have HN := Lib.hid hn; have HM := Lib.hid hm; clear hn hm
  have w1 : IntKind.i64.wrap ((n : Int) + 1) = (n : Int) + 1 := wrap_in (by omega) (by omega)
  have hmk : ∀ w : World, (Instr.makeSlice 65 (.int .i64 ((n : Int) + 1)) (.int .i64 ((n : Int) + 1))).run Try.prog w = .ok (.slice (some ⟨w.heap.size, 0, none⟩) (n + 1) (n + 1)) (w.alloc (.cells (madeCells #[.slice none 0 0] (n + 1)) 67)) := fun w => make_slices w (n + 1) (by omega)
  go_enter Try.func47, Try.ntmps47
  go_upto_region 1 with fail
  go_cut [6, 7] (fun s6 s7 wx => ∃ g : Bool → Nat, s6 = .slice (some ⟨g true, 0, none⟩) (n + 1) (n + 1) ∧ s7 = .slice (some ⟨g false, 0, none⟩) (n + 1) (n + 1) ∧ Wg g (fun _ _ => 0) (n + 1) (n + 1) (m + 1) (fun _ _ _ => 0) w.heap.size wx ∧ Ext w wx)
  case first =>
    go_region
    all_goals
      go_wp2_with fail
      go_meet
      first
      | exact ⟨pick2 (w.heap.size + 1) w.heap.size, rfl, rfl, (Wg.two w (by simp [pick2]) (by simp [pick2])).ext (Ext.refl _).drew, (((Ext.refl w).alloc _).alloc _).drew⟩
      | exact ⟨pick2 w.heap.size (w.heap.size + 1), rfl, rfl, (Wg.two w (by simp [pick2]) (by simp [pick2])).ext (Ext.refl _).drew, (((Ext.refl w).alloc _).alloc _).drew⟩
  case rest =>
    obtain ⟨g, rfl, rfl, hW, hE⟩ := hcut
    have HW0 := Lib.hid hW; have HE0 := Lib.hid hE; clear hW hE hmk w1
    obtain ⟨W0, hW0⟩ : ∃ W0, wc = W0 := ⟨_, rfl⟩
    subst hW0
    go_wp2_with fail
    go_loopw [8] (fun v8 wr => ∃ (p : Nat) (br : Bool → Nat → Nat) (F : Bool → Nat → Nat → Int), p ≤ n + 1 ∧ v8 = .int .i64 ((p : Int) - 1) ∧ Wg g br p (n + 1) (m + 1) F w.heap.size wr ∧ Done a b (F true) (F false) p 0 ∧ Ext w wr) (fun v8 _ => (intOf v8 + 1).toNat)
    case atStart => exact ⟨n + 1, _, _, Nat.le_refl _, by go_num, HW0.out, by have := Done.begin a b; rwa [HN.out] at this, HE0.out⟩
    case round =>
      obtain ⟨p, br, F, hp, rfl, hW, hD, hE⟩ := hrel
      have HW1 := Lib.hid hW; have HD1 := Lib.hid hD; have HE1 := Lib.hid hE; clear hW hD hE HW0 HE0
      cases p with
      | zero =>
        rw [show (((0 : Nat) : Int) - 1) = -1 from rfl]
        go_wp2_with fail
        go_ret2
        exact ⟨g, br, F, rfl, HW1.out, HD1.out, HE1.out⟩
      | succ i =>
        rw [show (((i + 1 : Nat) : Int) - 1) = (i : Int) by omega]
        have w1 : IntKind.i64.wrap ((m : Int) + 1) = (m : Int) + 1 := wrap_in (by omega) (by omega)
        have hmk : ∀ w : World, (Instr.makeSlice 67 (.int .i64 ((m : Int) + 1)) (.int .i64 ((m : Int) + 1))).run Try.prog w = .ok (.slice (some ⟨w.heap.size, 0, none⟩) (m + 1) (m + 1)) (w.alloc (.cells (madeCells #[.int .i64 0] (m + 1)) 3)) := fun w => make_ints w (m + 1) (by omega)
        have c1 := HW1.out.gap true i (by omega) (by omega)
        have c2 := HW1.out.gap false i (by omega) (by omega)
        have f1 := HW1.out.gfree true i (by omega)
        have f2 := HW1.out.gfree false i (by omega)
        have l1 := HW1.out.glt true
        have l2 := HW1.out.glt false
        have hne := HW1.out.gne
        have h0 : (0 : Int) ≤ i := Int.natCast_nonneg _
        have h1 : (i : Int) < (n + 1 : Nat) := by omega
        have HE5 := Lib.hid (fun x y : Value => ((((HE1.out.setCell (p := ⟨g true, i, none⟩) (HW1.out.ggt true) x).setCell (p := ⟨g false, i, none⟩) (HW1.out.ggt false) y).alloc (.cells (madeCells #[.int .i64 0] (m + 1)) 3)).alloc (.cells (madeCells #[.int .i64 0] (m + 1)) 3)).drew)
        go_wp2_with fail
        go_upto_region 5 with fail
        go_cut [] (fun wx => ∃ br F, Wg g br i (n + 1) (m + 1) F w.heap.size wx ∧ Done a b (F true) (F false) i m ∧ Ext w wx)
        case first =>
          go_region
          all_goals
            go_wp2_with fail
            go_meet
            first
            | exact ⟨_, _, ((HW1.out.made (by omega) HE1.out.size (pick2 wr.heap.size (wr.heap.size + 1)) (.inl ⟨rfl, rfl⟩))).ext (Ext.refl _).drew, by have := HD1.out.fresh; rwa [HM.out] at this, HE5.out _ _⟩
            | exact ⟨_, _, ((HW1.out.made (by omega) HE1.out.size (pick2 (wr.heap.size + 1) wr.heap.size) (.inr ⟨rfl, rfl⟩))).ext (Ext.refl _).drew, by have := HD1.out.fresh; rwa [HM.out] at this, HE5.out _ _⟩
        case rest =>
          clear hmk w1 c1 c2 f1 f2 l1 l2 hne
          obtain ⟨br2, F2, hW, hD, hE⟩ := hcut
          have HW2 := Lib.hid hW; have HD2 := Lib.hid hD; have HE2 := Lib.hid hE; clear hW hD hE HW1 HD1 HE1
          obtain ⟨W1, hW1⟩ : ∃ W1, wc = W1 := ⟨_, rfl⟩
          subst hW1
          go_wp2_with fail
          go_loopw [9] (fun v9 wr => ∃ (q : Nat) (F : Bool → Nat → Nat → Int), q ≤ m ∧ v9 = .int .i64 ((q : Int) - 1) ∧ Wg g br2 i (n + 1) (m + 1) F w.heap.size wr ∧ Done a b (F true) (F false) i q ∧ Ext w wr) (fun v9 _ => (intOf v9 + 1).toNat)
          case atStart => exact ⟨m, F2, Nat.le_refl _, by go_num, HW2.out, HD2.out, HE2.out⟩
          case round =>
            obtain ⟨q, F, hq, rfl, hW, hD, hE⟩ := hrel
            have HW3 := Lib.hid hW; have HD3 := Lib.hid hD; have HE3 := Lib.hid hE; clear hW hD hE HW2 HD2 HE2
            cases q with
            | zero =>
              rw [show (((0 : Nat) : Int) - 1) = -1 from rfl]
              go_wp2_with fail
              go_roundw
              case rel => exact ⟨i, br2, F, by omega, by go_num, HW3.out, HD3.out, HE3.out⟩
              case measure => simp [intOf]
            | succ k =>
              rw [show (((k + 1 : Nat) : Int) - 1) = (k : Int) by omega]
              by_cases hin : i < n
              case neg =>
                have HD4 := Lib.hid (HD3.out.last (by rw [HN.out]; omega))
                clear HD3
                go_wp2_with fail
                go_roundw
                case rel => exact ⟨i, br2, F, by omega, by go_num, HW3.out, HD4.out, HE3.out⟩
                case measure => simp [intOf]
              case pos =>
                as_aux_lemma =>
                  obtain ⟨ba, oa, x, hAe, hba, hx, -, cx⟩ := HA.out.get (k := i) (by omega)
                  obtain ⟨bb, ob, y, hBe, hbb, hy, -, cy⟩ := HB.out.get (k := k) (by omega)
                  replace cx := HE3.out.cell cx
                  replace cy := HE3.out.cell cy
                  have hgt := HW3.out.gt true i (Nat.le_refl _) (by omega)
                  have hog := HW3.out.out true true i (Nat.le_refl _) (by omega)
                  subst hAe hBe
                  go_wp2_with fail
                  have hxs := HSA.out x (List.mem_of_getElem? hx)
                  have hys := HSB.out y (List.mem_of_getElem? hy)
                  have h0 : (0 : Int) ≤ i := Int.natCast_nonneg _
                  have h1 : (i : Int) < n := by omega
                  have h2 : (0 : Int) ≤ k := Int.natCast_nonneg _
                  have h3 : (k : Int) < m := by omega
                  have f1 : i + 1 < n + 1 := by omega
                  have f2 : k + 1 < m + 1 := by omega
                  have h4 : (i : Int) < (n + 1 : Nat) := by omega
                  have h5 : (k : Int) < (m + 1 : Nat) := by omega
                  have h6 : (i : Int) + 1 < (n + 1 : Nat) := by omega
                  have h7 : (k : Int) + 1 < (m + 1 : Nat) := by omega
                  obtain ⟨s, hs⟩ : ∃ s, simV x y = s := ⟨_, rfl⟩
                  have HX := Lib.hid hx; have HY := Lib.hid hy; have HS := Lib.hid hs; have HR := Lib.hid (hs ▸ sim_range x y); clear hx hy hs
                  have c1 := HW3.out.row true i (Nat.le_refl _) (by omega)
                  have c2 := HW3.out.cell true i k (Nat.le_refl _) (by omega) (by omega)
                  have c3 := HW3.out.free true i k (Nat.le_refl _) (by omega) (by omega)
                  have h8 : (i : Int) < (n : Int) + 1 := by omega
                  have h9 : (k : Int) < (m : Int) + 1 := by omega
                  have HC4 := Lib.hid (fun wx (h : Ext wr wx) => h.cell (HW3.out.cell true i k (Nat.le_refl _) (by omega) (by omega)))
                  obtain ⟨T, hT⟩ : ∃ T : World → Prop, T = fun wx => wx.cell? ⟨ba, oa + i, none⟩ = some (.string x) ∧ wx.cell? ⟨bb, ob + k, none⟩ = some (.string y) ∧ wx.cell? ⟨g true, i, none⟩ = some (.slice (some ⟨br2 true i, 0, none⟩) (m + 1) (m + 1)) := ⟨_, rfl⟩
                  have hST : ∀ wx, Ext wr wx → T wx := by
                    rw [hT]; exact fun wx h => ⟨h.cell cx, h.cell cy, h.cell c1⟩
                  have hSV : ∀ wx v, Ext wr wx → ∀ wz, Ext (wx.setCell ⟨br2 true i, k, none⟩ v) wz → T wz := by
                    rw [hT]
                    intro wx v hx wz hz
                    refine ⟨hz.cell ?_, hz.cell ?_, hz.cell ?_⟩
                    · rw [World.cell?_setCell_other _ _ _ _ (fun e => by injection e; omega)]; exact hx.cell cx
                    · rw [World.cell?_setCell_other _ _ _ _ (fun e => by injection e; omega)]; exact hx.cell cy
                    · rw [World.cell?_setCell_other _ _ _ _ (fun e => hog (by injection e))]; exact hx.cell c1
                  refine wp_region_X (T := T) (fun wx => Ext wr wx) (by kernel_rfl) (Ext.refl wr).drew (wpX_takes (by kernel_rfl) (fun _ d _ _ _ h => by cases d <;> exact h) (Stab.ext _) hST (fuel := 2) [0,1,2,3,4,5,6,7,8,9,10,11,12,13] _ _ (by kernel_rfl) ?_)
                  iterate 13
                    refine wpTk_want rfl (Eq.refl true) ?_
                    apply Exists.intro
                    refine ⟨fun wx hx => ?_, ?_⟩
                    · rw [hT] at hx
                      obtain ⟨d1, d2, d3⟩ := hx
                      go_simp
                      with_reducible exact gives_ok _ _ _
                    simp only [Act.put, List.setIfInBounds_toArray, List.set_cons_zero, List.set_cons_succ]
                  refine wpTk_want rfl (Eq.refl true) ⟨.int .i64 s, fun wx hx => ?_, ?_⟩
                  · clear hx
                    go_simp
                    refine gives_call _ _ _ ((rsim_any x y wx hxs hys).mono ?_)
                    rintro e w' ⟨rfl, hE⟩
                    exact ⟨by rw [HS.out], hE⟩
                  simp only [Act.put, List.setIfInBounds_toArray, List.set_cons_zero, List.set_cons_succ]
                  refine wpTk_nil ?_
                  refine wpX_one 14 (by kernel_rfl) rfl rfl (fun wx hx K hK => ?_)
                  go_simp
                  refine hK _ _ ⟨fun wz => Ext wr wz, Stab.ext _, hST, hx, ?_⟩
                  clear hK K hx wx
                  refine wpX_one 15 (by kernel_rfl) rfl rfl (fun wx hx K hK => ?_)
                  have d2 := hx.cell c2
                  have d3 := (hx.frozen (by show br2 true i < _; exact HW3.out.lt true i (Nat.le_refl _) (by omega))).trans c3
                  have hW7 := (HW3.out.ext hx).set true (i0 := i) (k0 := k) (Nat.le_refl _) (by omega) s
                  have hE7 := (HE3.out.trans hx).setCell (p := ⟨br2 true i, k, none⟩) (HW3.out.gt true i (Nat.le_refl _) (by omega)) (.int .i64 s)
                  go_simp
                  obtain ⟨W5, hW5⟩ : ∃ W5, wx.setCell ⟨br2 true i, k, none⟩ (.int .i64 s) = W5 := ⟨_, rfl⟩
                  have hTW := hSV wx (.int .i64 s) hx
                  rw [hW5] at hW7 hE7 hTW ⊢
                  refine hK _ _ ⟨fun wz => Ext W5 wz, Stab.ext _, hTW, Ext.refl _, ?_⟩
                  clear hK K hx hW5 d2 d3 wx
                  refine wpX_done (by kernel_rfl) (fun W6 hE6 => ?_) _
                  have hW8 := hW7.ext hE6
                  have HE8 := Lib.hid (hE7.trans hE6)
                  as_aux_lemma =>
                    have q1 := hW8.row true i (Nat.le_refl _) (by omega)
                    have q2 := hW8.row false i (Nat.le_refl _) (by omega)
                    have q3 := hW8.row false (i + 1) (by omega) (by omega)
                    have q4 := hW8.cell true i k (Nat.le_refl _) (by omega) (by omega)
                    have q5 := hW8.cell false (i + 1) k (by omega) (by omega) (by omega)
                    have q6 := hW8.cell false i (k + 1) (Nat.le_refl _) (by omega) (by omega)
                    have q7 := hW8.cell false (i + 1) (k + 1) (by omega) (by omega) (by omega)
                    have q8 := hW8.cell false i k (Nat.le_refl _) (by omega) (by omega)
                    have q9 := hW8.free false i k (Nat.le_refl _) (by omega) (by omega)
                    have hgt2 := hW8.gt false i (Nat.le_refl _) (by omega)
                    rw [if_pos ⟨rfl, rfl, rfl⟩] at q4
                    rw [if_neg (fun e => nomatch e.1), HD3.out.2 (i + 1) k (by rw [HN.out]; omega) (by rw [HM.out]; omega) (by omega)] at q5
                    rw [if_neg (fun e => nomatch e.1), HD3.out.2 i (k + 1) (by rw [HN.out]; omega) (by rw [HM.out]; omega) (by omega)] at q6
                    rw [if_neg (fun e => nomatch e.1), HD3.out.2 (i + 1) (k + 1) (by rw [HN.out]; omega) (by rw [HM.out]; omega) (by omega)] at q7
                    have hst := bestAt_step simV a b HX.out HY.out
                    rw [HS.out] at hst
                    have r2 := best_I a b (i + 1) k (by rw [HN.out]; exact ha)
                    have r3 := best_I a b i (k + 1) (by rw [HN.out]; exact ha)
                    have r4 := best_I a b (i + 1) (k + 1) (by rw [HN.out]; exact ha)
                    obtain ⟨B3, hB3⟩ : ∃ z, bestAt simV a b (i + 1) k = z := ⟨_, rfl⟩
                    obtain ⟨B4, hB4⟩ : ∃ z, bestAt simV a b i (k + 1) = z := ⟨_, rfl⟩
                    obtain ⟨B5, hB5⟩ : ∃ z, bestAt simV a b (i + 1) (k + 1) = z := ⟨_, rfl⟩
                    obtain ⟨B6, hB6⟩ : ∃ z, bestAt simV a b i k = z := ⟨_, rfl⟩
                    rw [hB3, hB4, hB5, hB6] at hst
                    rw [hB3] at q5 r2
                    rw [hB4] at q6 r3
                    rw [hB5] at q7 r4
                    obtain ⟨s0, s1, -⟩ := HR.out
                    obtain ⟨r20, r21⟩ := r2; obtain ⟨r30, r31⟩ := r3; obtain ⟨r40, r41⟩ := r4
                    have HW8 := Lib.hid hW8
                    have HD9 := Lib.hid (HD3.out.set2 HX.out HY.out HS.out hB6)
                    have HST := Lib.hid hst
                    have HE9 := Lib.hid (fun (wz : World) (hz : Ext W6 wz) v => (HE8.out.trans hz).setCell (p := ⟨br2 false i, k, none⟩) hgt2 v)
                    clear hW8 hW7 hE7 hE6 HW3 HE3 HD3 c1 c2 c3 cx cy hxs hys hst hB3 hB4 hB5 hB6 HC4 hT hST hSV hTW
                    have w3 : IntKind.i64.wrap (s + B5) = s + B5 := wrap_in (by omega) (by omega)
                    have fin : ∀ (wz : World) (hz : Ext W6 wz), ∃ (q : Nat) (F : Bool → Nat → Nat → Int), q ≤ m ∧ Value.int .i64 ((k : Int) - 1) = .int .i64 ((q : Int) - 1) ∧ Wg g br2 i (n + 1) (m + 1) F w.heap.size (wz.setCell ⟨br2 false i, k, none⟩ (.int .i64 B6)) ∧ Done a b (F true) (F false) i q ∧ Ext w (wz.setCell ⟨br2 false i, k, none⟩ (.int .i64 B6)) :=
                      fun wz hz => ⟨k, _, by omega, rfl, (HW8.out.ext hz).set false (i0 := i) (k0 := k) (Nat.le_refl _) (by omega) B6, HD9.out, HE9.out wz hz _⟩
                    have FIN := Lib.hid fin; clear fin
                    by_cases h34 : B3 < B4
                    case pos =>
                      by_cases h50 : 50 ≤ s
                      case neg =>
                        have q50 : decide (50 ≤ s) = false := by simpa using h50
                        have e6 : B6 = B4 := by
                          have := HST.out
                          rw [if_neg h50, Int.max_def] at this; split at this <;> omega
                        rw [e6] at FIN
                        clear HST HD9 HE9 HW8
                        as_aux_lemma =>
                          go_wp2_with fail
                          go_region
                          go_wp2_with fail
                          go_roundw
                          case rel => exact FIN.out _ ((Ext.refl _).drew)
                          case measure => simp [intOf]
                      case pos =>
                        by_cases h5 : B4 < s + B5
                        case pos =>
                          have e6 : B6 = s + B5 := by
                            have := HST.out
                            rw [if_pos h50, Int.max_def, Int.max_def] at this; (repeat' split at this) <;> omega
                          rw [e6] at FIN
                          clear HST HD9 HE9 HW8
                          as_aux_lemma =>
                            go_wp2_with fail
                            go_region
                            go_wp2_with fail
                            go_region
                            go_wp2_with fail
                            go_roundw
                            case rel => exact FIN.out _ ((Ext.refl _).drew.drew)
                            case measure => simp [intOf]
                        case neg =>
                          have q5 : decide (B4 < s + B5) = false := by simpa using h5
                          have e6 : B6 = B4 := by
                            have := HST.out
                            rw [if_pos h50, Int.max_def, Int.max_def] at this; (repeat' split at this) <;> omega
                          rw [e6] at FIN
                          clear HST HD9 HE9 HW8
                          as_aux_lemma =>
                            go_wp2_with fail
                            go_region
                            go_wp2_with fail
                            go_roundw
                            case rel => exact FIN.out _ ((Ext.refl _).drew)
                            case measure => simp [intOf]
                    case neg =>
                      have q34 : decide (B3 < B4) = false := by simpa using h34
                      by_cases h50 : 50 ≤ s
                      case neg =>
                        have q50 : decide (50 ≤ s) = false := by simpa using h50
                        have e6 : B6 = B3 := by
                          have := HST.out
                          rw [if_neg h50, Int.max_def] at this; split at this <;> omega
                        rw [e6] at FIN
                        clear HST HD9 HE9 HW8
                        as_aux_lemma =>
                          go_wp2_with fail
                          go_region
                          go_wp2_with fail
                          go_roundw
                          case rel => exact FIN.out _ ((Ext.refl _).drew)
                          case measure => simp [intOf]
                      case pos =>
                        by_cases h5 : B3 < s + B5
                        case pos =>
                          have e6 : B6 = s + B5 := by
                            have := HST.out
                            rw [if_pos h50, Int.max_def, Int.max_def] at this; (repeat' split at this) <;> omega
                          rw [e6] at FIN
                          clear HST HD9 HE9 HW8
                          as_aux_lemma =>
                            go_wp2_with fail
                            go_region
                            go_wp2_with fail
                            go_region
                            go_wp2_with fail
                            go_roundw
                            case rel => exact FIN.out _ ((Ext.refl _).drew.drew)
                            case measure => simp [intOf]
                        case neg =>
                          have q5 : decide (B3 < s + B5) = false := by simpa using h5
                          have e6 : B6 = B3 := by
                            have := HST.out
                            rw [if_pos h50, Int.max_def, Int.max_def] at this; (repeat' split at this) <;> omega
                          rw [e6] at FIN
                          clear HST HD9 HE9 HW8
                          as_aux_lemma =>
                            go_wp2_with fail
                            go_region
                            go_wp2_with fail
                            go_roundw
                            case rel => exact FIN.out _ ((Ext.refl _).drew)
                            case measure => simp [intOf]
end Go.Proofs.Ytmmppfopokbcfaa

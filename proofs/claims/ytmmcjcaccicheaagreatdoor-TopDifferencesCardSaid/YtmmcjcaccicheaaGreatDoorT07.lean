/- MyCheck: parts of the proof of TopDifferences, one text behind the other. No condition. -/
import Derived.Test.YtmmcjcaccicheaaGreatDoorT06
import Derived.Test.YtmmcjcaccicheaaGreatDoorT04
/- Contracts: Check, of myers and of the reference. -/
namespace Go.Proofs.YtmmcjcaccicheaaGreatDoor
open Go.RowKit

theorem w64_in {x : Int} (h1 : -9223372036854775808 ≤ x) (h2 : x ≤ 9223372036854775807) : wrap64 x = x := by unfold wrap64; omega
theorem wrap_in {x : Int} (h1 : -9223372036854775808 ≤ x) (h2 : x ≤ 9223372036854775807) : IntKind.i64.wrap x = x := IntWalk.i64_in _ ⟨h1, h2⟩

/-- The error of one match behind (x, y). -/
def codeV (a b : Lns) (x y : Int) (m : Mt) : Int :=
  if m.n < 1 then 1
  else if m.a < 0 ∨ m.b < 0 ∨ (a.length : Int) - m.n < m.a ∨ (b.length : Int) - m.n < m.b then 2
  else if m.a < x ∨ m.b < y ∨ (m.a = x ∧ m.b = y) then 9
  else if (a.drop m.a.toNat).take m.n.toNat = (b.drop m.b.toNat).take m.n.toNat then 0 else 10
def checkV (a b : Lns) : Int → Int → List Mt → Int
  | _, _, [] => 0
  | x, y, m :: r => if codeV a b x y m = 0 then checkV a b (m.a + m.n) (m.b + m.n) r else codeV a b x y m

theorem checkV_bad {a b : Lns} {x y c : Int} {m : Mt} {r : List Mt} (h : codeV a b x y m = c) (hc : c ≠ 0) : checkV a b x y (m :: r) = c := by
  rw [checkV, h, if_neg hc]
theorem checkV_good {a b : Lns} {x y : Int} {m : Mt} {r : List Mt} (h : codeV a b x y m = 0) : checkV a b x y (m :: r) = checkV a b (m.a + m.n) (m.b + m.n) r := by
  rw [checkV, if_pos h]

set_option maxRecDepth 100000 in
set_option maxHeartbeats 8000000 in
theorem check_any (A B C : Option Addr) (n c m d ln lc : Nat) (a b : Lns) (ms : List Mt) (w : World) (ha : Strs w A n a) (hb : Strs w B m b) (hl : Mts w C ln ms) (hn : n ≤ 1000) (hm : m ≤ 1000) (hln : ln ≤ 1000) (hnc : n ≤ c) (hmd : m ≤ d) :
    Calls Tryz.prog 55 #[.slice A n c, .slice B m d, .slice C ln lc] w fun e w' => e = .returned (.int .i64 (checkV a b (-1) (-1) ms)) ∧ Ext w w' := by
  obtain rfl : a.length = n := ha.1
  obtain rfl : b.length = m := hb.1
  have HA := Lib.hid ha; have HB := Lib.hid hb; have HL := Lib.hid hl; clear ha hb hl
  go_enter Tryz.func55, Tryz.ntmps55
  go_wp2_with fail
  go_loopw [7, 8, 13] (fun v7 v8 v13 wr => ∃ (k : Nat) (x y : Int), k ≤ ln ∧ v13 = .int .i64 k ∧ v7 = .int .i64 x ∧ v8 = .int .i64 y ∧ -1 ≤ x ∧ x ≤ 1000 ∧ -1 ≤ y ∧ y ≤ 1000 ∧ checkV a b (-1) (-1) ms = checkV a b x y (ms.drop k) ∧ Ext w wr) (fun _ _ v13 _ => ln - (intOf v13).toNat)
  case atStart => exact ⟨0, -1, -1, Nat.zero_le _, rfl, rfl, rfl, by omega, by omega, by omega, by omega, rfl, Ext.refl _⟩
  case round =>
    obtain ⟨k, x, y, hk, rfl, rfl, rfl, hx1, hx2, hy1, hy2, hch, hE⟩ := hrel
    have HC := Lib.hid hch; have HE := Lib.hid hE; clear hch hE
    by_cases hlt : k < ln
    case neg =>
      have hkn : ms.drop k = [] := List.drop_of_length_le (by rw [HL.out.1]; omega)
      have HK := Lib.hid hkn; clear hkn
      go_wp2_with fail
      go_ret
      exact ⟨ret_int (by rw [HC.out, HK.out]; rfl), HE.out⟩
    obtain ⟨bb, off, ⟨ma, mb, mn⟩, rfl, hbb, hs, hwf, c1, c2, c3⟩ := (HL.out.ext HE.out).get hlt
    dsimp only at c1 c2 c3
    obtain ⟨⟨w1, w2⟩, ⟨w3, w4⟩, ⟨w5, w6⟩⟩ : ((-9223372036854775808 : Int) ≤ ma ∧ ma ≤ 9223372036854775807) ∧ ((-9223372036854775808 : Int) ≤ mb ∧ mb ≤ 9223372036854775807) ∧ ((-9223372036854775808 : Int) ≤ mn ∧ mn ≤ 9223372036854775807) := hwf
    have HS := Lib.hid (drop_of hs); clear hs
    by_cases g1 : mn < 1
    · have hcode : codeV a b x y ⟨ma, mb, mn⟩ = 1 := by rw [codeV, if_pos g1]
      have HCO := Lib.hid hcode; clear hcode
      go_wp2_with fail
      go_ret
      exact ⟨ret_int (by rw [HC.out, HS.out, checkV_bad HCO.out (by decide)]), HE.out.alloc _⟩
    have g1' := nd g1
    have g1b : 1 ≤ mn := by omega
    have hwa : wrap64 ((a.length : Int) - mn) = (a.length : Int) - mn := w64_in (by omega) (by omega)
    have hwb : wrap64 ((b.length : Int) - mn) = (b.length : Int) - mn := w64_in (by omega) (by omega)
    by_cases g2 : ma < 0 ∨ mb < 0 ∨ (a.length : Int) - mn < ma ∨ (b.length : Int) - mn < mb
    · have hcode : codeV a b x y ⟨ma, mb, mn⟩ = 2 := by rw [codeV, if_neg g1, if_pos g2]
      have HCO := Lib.hid hcode; clear hcode
      rcases hg : decide (ma < 0) with _ | _
      · rcases hg2 : decide (mb < 0) with _ | _
        · rcases hg3 : decide ((a.length : Int) - mn < ma) with _ | _
          · have hg4 : (b.length : Int) - mn < mb := by simp only [decide_eq_false_iff_not] at hg hg2 hg3; omega
            have hg4' := yd hg4
            clear g2
            go_wp2_with fail
            go_ret
            exact ⟨ret_int (by rw [HC.out, HS.out, checkV_bad HCO.out (by decide)]), HE.out.alloc _⟩
          · clear g2
            go_wp2_with fail
            go_ret
            exact ⟨ret_int (by rw [HC.out, HS.out, checkV_bad HCO.out (by decide)]), HE.out.alloc _⟩
        · clear g2
          go_wp2_with fail
          go_ret
          exact ⟨ret_int (by rw [HC.out, HS.out, checkV_bad HCO.out (by decide)]), HE.out.alloc _⟩
      · clear g2
        go_wp2_with fail
        go_ret
        exact ⟨ret_int (by rw [HC.out, HS.out, checkV_bad HCO.out (by decide)]), HE.out.alloc _⟩
    have h21 : ¬ ma < 0 := fun h => g2 (.inl h)
    have h22 : ¬ mb < 0 := fun h => g2 (.inr (.inl h))
    have h23 : ¬ (a.length : Int) - mn < ma := fun h => g2 (.inr (.inr (.inl h)))
    have h24 : ¬ (b.length : Int) - mn < mb := fun h => g2 (.inr (.inr (.inr h)))
    have h21' := nd h21; have h22' := nd h22; have h23' := nd h23; have h24' := nd h24
    by_cases g3 : ma < x ∨ mb < y ∨ (ma = x ∧ mb = y)
    · have hcode : codeV a b x y ⟨ma, mb, mn⟩ = 9 := by rw [codeV, if_neg g1, if_neg g2, if_pos g3]
      have HCO := Lib.hid hcode; clear hcode
      clear g2
      rcases hg : decide (ma < x) with _ | _
      · rcases hg2 : decide (mb < y) with _ | _
        · have hg3 : ma = x ∧ mb = y := by simp only [decide_eq_false_iff_not] at hg hg2; omega
          have e1 : (ma == x) = true := by simpa using hg3.1
          have e2 : (mb == y) = true := by simpa using hg3.2
          clear g3 hg3
          go_wp2_with fail
          go_ret
          exact ⟨ret_int (by rw [HC.out, HS.out, checkV_bad HCO.out (by decide)]), HE.out.alloc _⟩
        · clear g3
          go_wp2_with fail
          go_ret
          exact ⟨ret_int (by rw [HC.out, HS.out, checkV_bad HCO.out (by decide)]), HE.out.alloc _⟩
      · clear g3
        go_wp2_with fail
        go_ret
        exact ⟨ret_int (by rw [HC.out, HS.out, checkV_bad HCO.out (by decide)]), HE.out.alloc _⟩
    have h31' := nd (fun h => g3 (.inl h)); have h32' := nd (fun h => g3 (.inr (.inl h)))
    obtain ⟨p, rfl⟩ : ∃ p : Nat, ma = p := ⟨ma.toNat, by omega⟩
    obtain ⟨q, rfl⟩ : ∃ q : Nat, mb = q := ⟨mb.toNat, by omega⟩
    obtain ⟨l, rfl⟩ : ∃ l : Nat, mn = l := ⟨mn.toNat, by omega⟩
    have hpl : p + l ≤ a.length := by omega
    have hql : q + l ≤ b.length := by omega
    obtain ⟨A', hA'⟩ : ∃ A', (if c = p then A else A.map (fun x => x.add p)) = A' := ⟨_, rfl⟩
    obtain ⟨B', hB'⟩ : ∃ B', (if d = q then B else B.map (fun x => x.add q)) = B' := ⟨_, rfl⟩
    have SA := Lib.hid (strs_cut (HA.out.ext HE.out) hnc hpl hA')
    have SB := Lib.hid (strs_cut (HB.out.ext HE.out) hmd hql hB')
    have HA' := Lib.hid hA'; have HB' := Lib.hid hB'; clear hA' hB'
    have h3x : ((p : Int) == x && (q : Int) == y) = false := by
      cases e : ((p : Int) == x && (q : Int) == y) with
      | false => rfl
      | true => simp at e; exact absurd (.inr (.inr e)) g3
    have hcode : codeV a b x y ⟨p, q, l⟩ = if (a.drop p).take l = (b.drop q).take l then 0 else 10 := by
      rw [codeV, if_neg g1, if_neg g2, if_neg g3]
      simp
    clear g1 g2 g3
    have HCO := Lib.hid hcode; clear hcode
    obtain ⟨r, hr⟩ : ∃ r, decide ((a.drop p).take l = (b.drop q).take l) = r := ⟨_, rfl⟩
    have HR := Lib.hid hr; clear hr
    rcases hpx : ((p : Int) == x) with _ | _
    case' false => skip
    case' true =>
      have hqy : ((q : Int) == y) = false := by rw [hpx] at h3x; simpa using h3x
    all_goals
      clear h3x
      go_wp2_with fail
      refine wp_region_text (fun wx => Ext wr wx ∧ Blk wx wr.heap.size (Mt.obj ⟨p, q, l⟩)) [0,1,2,3,4,5,6,7,8,9,10,11,12,13,14,15,16,17,18,19,20] (by kernel_rfl) ((Stab.ext _).and (Stab.blk _ _)) ⟨((Ext.refl wr).alloc _).drew, (Blk.new wr _ rfl).drew⟩ (by kernel_rfl) (fun _ d _ _ _ h => by cases d <;> exact h) ?_
      iterate 8
        refine wpTk_want rfl (Eq.refl true) ?_
        apply Exists.intro
        refine ⟨fun wx hx => ?_, ?_⟩
        · obtain ⟨d00, d01, d02⟩ := hx.2.cells3
          clear hx
          go_simp
          with_reducible exact gives_ok _ _ _
        simp only [Act.put, List.setIfInBounds_toArray, List.set_cons_zero, List.set_cons_succ]
      have e1 : IntKind.i64.wrap ((p : Int) + l) = (p : Int) + l := wrap_in (by omega) (by omega)
      have e2 : ((p : Int) + l).toNat = p + l := by omega
      have e3 : (0 : Int) ≤ (p : Int) + l := by omega
      have e4 : (p : Int) + l ≤ c := by omega
      have e5 : p + l - p = l := by omega
      have e6 : p ≤ p + l := by omega
      refine wpTk_want rfl (Eq.refl true) ⟨.slice A' l (c - p), fun wx hx => ?_, ?_⟩
      · clear hx
        go_simp
        rw [HA'.out]
        with_reducible exact gives_ok _ _ _
      simp only [Act.put, List.setIfInBounds_toArray, List.set_cons_zero, List.set_cons_succ]
      clear e1 e2 e3 e4 e5 e6
      iterate 8
        refine wpTk_want rfl (Eq.refl true) ?_
        apply Exists.intro
        refine ⟨fun wx hx => ?_, ?_⟩
        · obtain ⟨d00, d01, d02⟩ := hx.2.cells3
          clear hx
          go_simp
          with_reducible exact gives_ok _ _ _
        simp only [Act.put, List.setIfInBounds_toArray, List.set_cons_zero, List.set_cons_succ]
      have e1 : IntKind.i64.wrap ((q : Int) + l) = (q : Int) + l := wrap_in (by omega) (by omega)
      have e2 : ((q : Int) + l).toNat = q + l := by omega
      have e3 : (0 : Int) ≤ (q : Int) + l := by omega
      have e4 : (q : Int) + l ≤ d := by omega
      have e5 : q + l - q = l := by omega
      have e6 : q ≤ q + l := by omega
      refine wpTk_want rfl (Eq.refl true) ⟨.slice B' l (d - q), fun wx hx => ?_, ?_⟩
      · clear hx
        go_simp
        rw [HB'.out]
        with_reducible exact gives_ok _ _ _
      simp only [Act.put, List.setIfInBounds_toArray, List.set_cons_zero, List.set_cons_succ]
      clear e1 e2 e3 e4 e5 e6
      iterate 3
        refine wpTk_want rfl (Eq.refl true) ?_
        apply Exists.intro
        refine ⟨fun wx hx => ?_, ?_⟩
        · have HXX := Lib.hid hx; clear hx
          go_simp
          first
            | with_reducible exact gives_ok _ _ _
            | (have r := equal_is (c := c - p) (d := d - q) wx (SA.out.ext HXX.out.1) (SB.out.ext HXX.out.1) (by unfold Reach; omega) (by unfold Reach; omega) HR.out; with_reducible exact gives_call _ _ _ r)
        simp only [Act.put, List.setIfInBounds_toArray, List.set_cons_zero, List.set_cons_succ]
      refine wpTk_nil ?_
      intro w3 hK
      have K3 := Lib.hid hK; clear hK
      cases r
      case false =>
        have hne : codeV a b x y ⟨p, q, l⟩ = 10 := by rw [HCO.out, if_neg (by simpa using HR.out)]
        have HN := Lib.hid hne; clear hne
        go_wp2_with fail
        go_ret
        exact ⟨ret_int (by rw [HC.out, HS.out, checkV_bad HN.out (by decide)]), HE.out.trans K3.out.1⟩
      case true =>
        have heq : codeV a b x y ⟨p, q, l⟩ = 0 := by rw [HCO.out, if_pos (by simpa using HR.out)]
        have HN := Lib.hid heq; clear heq
        obtain ⟨d00, d01, d02⟩ := K3.out.2.cells3
        go_wp2_with fail
        go_quiet (fail)
        go_wp2_with fail
        go_roundw
        case rel =>
          refine ⟨k + 1, (p : Int) + l, (q : Int) + l, by omega, by go_num, by go_num, by go_num, by omega, by omega, by omega, by omega, ?_, (HE.out.trans K3.out.1).drewN _⟩
          rw [HC.out, HS.out, checkV_good HN.out]
        case measure => simp [intOf]; omega
end Go.Proofs.YtmmcjcaccicheaaGreatDoor

/- Contracts: the reference's Check, Great, Valid. -/
import Derived.Test.YtbjniaihkllmdaaTrHeap
namespace Go.Proofs.Ytbjniaihkllmdaa
open Go.RowKit

def ascB : List Pr → Bool
  | x :: y :: r => klt x.k y.k && ascB (y :: r)
  | _ => true
theorem asc_iff : ∀ l : List Pr, ascB l = true ↔ ∀ (i : Nat) x y, l[i]? = some x → l[i + 1]? = some y → klt x.k y.k = true
  | [] => by simp [ascB]
  | [x] => by simp [ascB]
  | x :: y :: r => by
    rw [ascB, Bool.and_eq_true, asc_iff (y :: r)]
    constructor
    · rintro ⟨h1, h2⟩ i a b ha hb
      cases i with
      | zero => simp at ha hb; subst ha; subst hb; exact h1
      | succ i => exact h2 i a b (by simpa using ha) (by simpa using hb)
    · intro h
      exact ⟨h 0 x y rfl rfl, fun i a b ha hb => h (i + 1) a b (by simpa using ha) (by simpa using hb)⟩
def anyLong (l : List Pr) : Bool := l.any fun p => lgB p.k p.v
/-- Why a tree is not valid. -/
def chkV (b : BT) : Int := if anyLong (prsV b) = true then 4 else if ascB (prsV b) = false then 9 else if heapB b = false then 10 else 0
def MT.tree : MT → BT
  | .nil => .leaf
  | .cons k v l r _ => .node l.tree k v r.tree
theorem BT.tree_mt : ∀ b : BT, b.mt.tree = b
  | .leaf => rfl
  | .node l k v r => by simp [BT.mt, MT.tree, BT.tree_mt l, BT.tree_mt r]
theorem MT.tree_of {t : MT} (h : t.wide = false) : t = t.tree.mt := by
  obtain ⟨b, rfl⟩ := MT.narrow h
  rw [BT.tree_mt]
/-- Why a map is not valid. -/
def chkT (t : MT) : Int := if t.wide = true then 1 else chkV t.tree
def valB (t : MT) : Bool := decide (t.size ≤ 30) && (chkT t == 0)

set_option maxRecDepth 100000 in
set_option maxHeartbeats 8000000 in
theorem rcheck_any (t : MT) (A : Option Addr) (n c : Nat) (w : World) (hm : MapAt w t A n) (hs : t.size ≤ 1000) :
    Calls Try.prog 16 #[.slice A n c] w fun e w' => e = .returned (.int .i64 (chkT t)) ∧ Ext w w' := by
  obtain ⟨x, hx⟩ : ∃ x, min t.size (20000 + 1) = x := ⟨_, rfl⟩
  have hx2 : x ≤ 1000 := by omega
  have HM := Lib.hid hm; have HX := Lib.hid hx; clear hm hx
  have q0 : decide ((20000 : Int) < (x : Int)) = false := nd (by omega)
  have q00 : decide (20000 < x) = false := nd (by omega)
  cases hw : t.wide with
  | true =>
    have hv : chkT t = 1 := by rw [chkT, if_pos hw]
    have HV := Lib.hid hv; have HW := Lib.hid hw; clear hv hw
    go_enter Try.func16, Try.ntmps16
    go_wp2_with fail
    refine (size_is HX.out HM.out (by omega)).mono ?_
    rintro e w' ⟨rfl, rfl⟩
    go_wp2_with fail
    refine (several_is HM.out).mono ?_
    rintro e w' ⟨rfl, rfl⟩
    rw [HW.out]
    go_wp2_with fail
    go_ret
    exact ⟨ret_int (by rw [HV.out]), Ext.refl _⟩
  | false =>
    have hv : chkT t = chkV t.tree := by rw [chkT, if_neg (by rw [hw]; simp)]
    have hbt : BAt w t.tree A n := by have := HM.out; rwa [MT.tree_of hw] at this
    obtain ⟨b, hb⟩ : ∃ b, t.tree = b := ⟨_, rfl⟩
    have hbs : b.size ≤ 1000 := by rw [← hb, ← BT.mt_size, ← MT.tree_of hw]; exact hs
    rw [hb] at hv hbt
    obtain ⟨l, hl⟩ : ∃ l, prsV b = l := ⟨_, rfl⟩
    have hll : l.length ≤ 1000 := by rw [← hl, prs_len]; exact hbs
    have hv2 : chkV b = if anyLong l = true then 4 else if ascB l = false then 9 else if heapB b = false then 10 else 0 := by rw [chkV, hl]
    have HV := Lib.hid hv; have HV2 := Lib.hid hv2; have HW := Lib.hid hw; have HB := Lib.hid hbt; have HL := Lib.hid hl; clear hv hv2 hw hbt hl hb
    go_enter Try.func16, Try.ntmps16
    go_wp2_with fail
    refine (size_is HX.out HM.out (by omega)).mono ?_
    rintro e w' ⟨rfl, rfl⟩
    go_wp2_with fail
    refine (several_is HM.out).mono ?_
    rintro e w' ⟨rfl, rfl⟩
    rw [HW.out]
    go_wp2_with fail
    refine (rlist_is HL.out HB.out hbs).mono ?_
    rintro e w2 ⟨B, k, rfl, hP, -, hE⟩
    have HP := Lib.hid hP; have HE := Lib.hid hE; clear hP hE q0 q00
    go_wp2_with fail
    go_loopw [4] (fun v4 wr => ∃ j : Nat, j ≤ l.length ∧ v4 = .int .i64 j ∧ anyLong (l.take j) = false ∧ Ext w2 wr) (fun v4 _ => l.length - (intOf v4).toNat)
    case atStart => exact ⟨0, Nat.zero_le _, rfl, rfl, Ext.refl _⟩
    case round =>
      obtain ⟨j, hj, rfl, ha, hE2⟩ := hrel
      have HA := Lib.hid ha; have HE2 := Lib.hid hE2; clear ha hE2
      by_cases hlt : j < l.length
      case pos =>
        obtain ⟨b1, o1, p, hB, hb1, hp, -, d0, d1⟩ := (HP.out.ext HE2.out).get hlt
        subst hB
        obtain ⟨z, hz⟩ : ∃ z, lgB p.k p.v = z := ⟨_, rfl⟩
        have HZ := Lib.hid hz; have HPP := Lib.hid hp; clear hz hp
        go_wp2_with fail
        refine (rlong_any p.k p.v _).mono ?_
        rintro e w3 ⟨rfl, hE⟩
        rw [HZ.out]
        have HE3 := Lib.hid (HE2.out.trans hE); clear hE d0 d1 hb1
        cases z with
        | true =>
          have hlong : anyLong l = true := by
            rw [anyLong, List.any_eq_true]; exact ⟨p, List.mem_of_getElem? HPP.out, HZ.out⟩
          have HLO := Lib.hid hlong; clear hlong
          go_wp2_with fail
          go_ret
          exact ⟨ret_int (by rw [HV.out, HV2.out, if_pos HLO.out]), HE.out.trans HE3.out⟩
        | false =>
          have hnext : anyLong (l.take (j + 1)) = false := by
            have := HA.out
            unfold anyLong at this ⊢
            rw [take_succ_of HPP.out, List.any_append, this]
            simp [HZ.out]
          have HNX := Lib.hid hnext; clear hnext
          go_wp2_with fail
          go_roundw
          case rel => exact ⟨j + 1, by omega, by go_num, HNX.out, HE3.out⟩
          case measure => simp [intOf]; omega
      case neg =>
        have hnl : anyLong l = false := by have := HA.out; rwa [List.take_of_length_le (by omega)] at this
        have HNL := Lib.hid hnl; clear hnl HA
        go_wp2_with fail
        clear hlt hj
        have HE0 := Lib.hid (HE.out.trans HE2.out)
        go_loopw [5] (fun v5 wr => ∃ j : Nat, 1 ≤ j ∧ (j = 1 ∨ j ≤ l.length) ∧ v5 = .int .i64 j ∧ (∀ (i : Nat) x y, i + 1 < j → l[i]? = some x → l[i + 1]? = some y → klt x.k y.k = true) ∧ Ext w2 wr) (fun v5 _ => l.length - (intOf v5).toNat)
        case atStart => exact ⟨1, Nat.le_refl _, .inl rfl, rfl, fun i _ _ h => by omega, HE2.out⟩
        case round =>
          obtain ⟨j, hj1, hj2, rfl, ha, hE3⟩ := hrel
          have HA := Lib.hid ha; have HE3 := Lib.hid hE3; clear ha hE3
          by_cases hlt : j < l.length
          case pos =>
            obtain ⟨i, hi⟩ : ∃ i, i + 1 = j := ⟨j - 1, by omega⟩
            have q1 : decide (j < l.length) = true := yd hlt
            obtain ⟨b0, o0, p, hA0, hb0, hp, -, c0, c1⟩ := (HP.out.ext HE3.out).get (j := i) (by omega)
            subst hA0
            obtain ⟨b1, o1, q, hA1, hb1, hq, -, d0, d1⟩ := (HP.out.ext HE3.out).get hlt
            cases hA1
            have e0 : IntKind.i64.wrap ((j : Int) - 1) = (i : Int) := by rw [wrap_in (by omega) (by omega)]; omega
            have e1 : wrap64 ((j : Int) - 1) = (i : Int) := by rw [w64_in (by omega) (by omega)]; omega
            have hil : i < l.length := by omega
            have HI := Lib.hid hi; have HPP := Lib.hid hp; have HQQ := Lib.hid hq; clear hi hp hq
            by_cases hk : klt p.k q.k = true
            · have q2 : Op.bytesLess p.k.toList q.k.toList = true := hk
              have hnx : ∀ (i : Nat) x y, i + 1 < j + 1 → l[i]? = some x → l[i + 1]? = some y → klt x.k y.k = true := fun i' x y hi' hx hy => by
                rcases Nat.lt_or_ge (i' + 1) j with h | h
                · exact HA.out i' x y h hx hy
                · obtain rfl : i' = i := by have := HI.out; omega
                  rw [HPP.out] at hx; cases hx
                  rw [HI.out, HQQ.out] at hy; cases hy
                  exact hk
              have HNX := Lib.hid hnx; clear hnx hk
              go_wp2_with fail
              go_quiet (fail)
              go_wp2_with fail
              go_roundw
              case rel => exact ⟨j + 1, by omega, .inr (by omega), by go_num, HNX.out, HE3.out.drewN _⟩
              case measure => simp [intOf]; omega
            · have q2 : Op.bytesLess p.k.toList q.k.toList = false := by simpa [klt] using hk
              have hbad : ascB l = false := by
                cases h : ascB l with
                | false => rfl
                | true => exact absurd ((asc_iff l).1 h i p q HPP.out (by rw [HI.out]; exact HQQ.out)) hk
              have HBAD := Lib.hid hbad; clear hbad hk
              go_wp2_with fail
              go_quiet (fail)
              go_wp2_with fail
              go_ret
              exact ⟨ret_int (by rw [HV.out, HV2.out, if_neg (by rw [HNL.out]; simp), if_pos HBAD.out]), (HE.out.trans HE3.out).drewN _⟩
          case neg =>
            have q1 : decide (j < l.length) = false := nd hlt
            have hgood : ascB l = true := (asc_iff l).2 fun i x y hx hy => HA.out i x y (by have := (List.getElem?_eq_some_iff.1 hy).1; omega) hx hy
            have HGD := Lib.hid hgood; clear hgood hlt hj1 hj2
            obtain ⟨z, hz⟩ : ∃ z, heapB b = z := ⟨_, rfl⟩
            have HZ := Lib.hid hz; clear hz
            go_wp2_with fail
            refine (heap_any b A n c _ (HB.out.ext (HE.out.trans HE3.out))).mono ?_
            rintro e w4 ⟨rfl, hE⟩
            rw [HZ.out]
            have HE4 := Lib.hid ((HE.out.trans HE3.out).trans hE); clear hE
            cases z with
            | true =>
              go_wp2_with fail
              go_ret
              exact ⟨ret_int (by rw [HV.out, HV2.out, if_neg (by rw [HNL.out]; simp), if_neg (by rw [HGD.out]; simp), if_neg (by rw [HZ.out]; simp)]), HE4.out⟩
            | false =>
              go_wp2_with fail
              go_ret
              exact ⟨ret_int (by rw [HV.out, HV2.out, if_neg (by rw [HNL.out]; simp), if_neg (by rw [HGD.out]; simp), if_pos HZ.out]), HE4.out⟩
theorem rcheck_is {t : MT} {A : Option Addr} {n c : Nat} {w : World} {x : Int} (hx : chkT t = x) (hm : MapAt w t A n) (hs : t.size ≤ 1000) :
    Calls Try.prog 16 #[.slice A n c] w fun e w' => e = .returned (.int .i64 x) ∧ Ext w w' := by
  subst hx; exact rcheck_any t A n c w hm hs

theorem great_any (t : MT) (A : Option Addr) (n c : Nat) (w : World) (hm : MapAt w t A n) :
    Calls Try.prog 13 #[.slice A n c] w fun e w' => e = .returned (.bool (decide (30 < t.size))) ∧ w = w' := by
  obtain ⟨x, hx⟩ : ∃ x, min t.size (30 + 1) = x := ⟨_, rfl⟩
  have hd : decide ((30 : Int) < (x : Int)) = decide (30 < t.size) := by simp only [decide_eq_decide]; omega
  have HM := Lib.hid hm; have HX := Lib.hid hx; have HD := Lib.hid hd; clear hm hx hd
  go_enter Try.func13, Try.ntmps13
  go_wp2_with fail
  refine (size_is HX.out HM.out (by omega)).mono ?_
  rintro e w' ⟨rfl, rfl⟩
  go_wp2_with fail
  go_ret
  refine ⟨ret_bool ?_, rfl⟩
  first | exact HD.out | (rw [← HD.out]; simp)
theorem great_is {t : MT} {A : Option Addr} {n c : Nat} {w : World} {r : Bool} (hr : decide (30 < t.size) = r) (hm : MapAt w t A n) :
    Calls Try.prog 13 #[.slice A n c] w fun e w' => e = .returned (.bool r) ∧ w = w' := by
  subst hr; exact great_any t A n c w hm
theorem valid_any (t : MT) (A : Option Addr) (n c : Nat) (w : World) (hm : MapAt w t A n) :
    Calls Try.prog 23 #[.slice A n c] w fun e w' => e = .returned (.bool (valB t)) ∧ Ext w w' := by
  have HM := Lib.hid hm; clear hm
  by_cases h30 : t.size ≤ 30
  · have hg : decide (30 < t.size) = false := nd (by omega)
    obtain ⟨x, hx⟩ : ∃ x, chkT t = x := ⟨_, rfl⟩
    have hv : valB t = (x == 0) := by rw [valB, hx, yd h30]; rfl
    have HG := Lib.hid hg; have HX := Lib.hid hx; have HV := Lib.hid hv; clear hg hx hv
    go_enter Try.func23, Try.ntmps23
    go_wp2_with fail
    refine (great_is HG.out HM.out).mono ?_
    rintro e w' ⟨rfl, rfl⟩
    go_wp2_with fail
    refine (rcheck_is HX.out HM.out (by omega)).mono ?_
    rintro e w' ⟨rfl, hE⟩
    have HE := Lib.hid hE; clear hE
    go_wp2_with fail
    go_ret
    exact ⟨ret_bool (by rw [HV.out]), HE.out⟩
  · have hg : decide (30 < t.size) = true := yd (by omega)
    have hv : valB t = false := by rw [valB, nd h30]; rfl
    have HG := Lib.hid hg; have HV := Lib.hid hv; clear hg hv
    go_enter Try.func23, Try.ntmps23
    go_wp2_with fail
    refine (great_is HG.out HM.out).mono ?_
    rintro e w' ⟨rfl, rfl⟩
    go_wp2_with fail
    go_ret
    exact ⟨ret_bool (by rw [HV.out]), Ext.refl _⟩
theorem valid_is {t : MT} {A : Option Addr} {n c : Nat} {w : World} {r : Bool} (hr : valB t = r) (hm : MapAt w t A n) :
    Calls Try.prog 23 #[.slice A n c] w fun e w' => e = .returned (.bool r) ∧ Ext w w' := by
  subst hr; exact valid_any t A n c w hm
end Go.Proofs.Ytbjniaihkllmdaa

/- Contract: treap.Diff. -/
import Derived.Test.YtbjniaihkllmdaaTrJoin
import Derived.BigRegion
namespace Go.Proofs.Ytbjniaihkllmdaa
open Go.RowKit

/-- A change of a pair. -/
structure Chg where
  k : ByteArray
  o : Option ByteArray
  n : Option ByteArray
deriving DecidableEq
abbrev nothing : ByteArray := ⟨#[]⟩
def Chg.cells (c : Chg) : List Value := [.string c.k, .bool c.o.isSome, .bool c.n.isSome, .string (c.o.getD nothing), .string (c.n.getD nothing)]
theorem chg_len (c : Chg) : c.cells.length = 5 := rfl
theorem one_chg (l : List Chg) : ∀ u ∈ l.flatMap Chg.cells, u.oneCell' = true := by
  intro u hu
  obtain ⟨x, _, hx⟩ := List.mem_flatMap.1 hu
  simp only [Chg.cells, List.mem_cons, List.not_mem_nil, or_false] at hx
  rcases hx with rfl | rfl | rfl | rfl | rfl <;> rfl
theorem infoC : (Try.prog.info? 54).map (fun i => (i.zero, i.size, i.bytes)) = some (some (.agg #[.string ⟨#[]⟩, .bool false, .bool false, .string ⟨#[]⟩, .string ⟨#[]⟩]), 5, 56) := by kernel_rfl
theorem underC : Try.prog.underlying 45 = some (.slice 54) := by kernel_rfl
/-- The changes between two lists of pairs in order. -/
def diffV : List Pr → List Pr → List Chg
  | [], [] => []
  | x :: k, [] => ⟨x.k, some x.v, none⟩ :: diffV k []
  | [], y :: l => ⟨y.k, none, some y.v⟩ :: diffV [] l
  | x :: k, y :: l => if klt x.k y.k = true then ⟨x.k, some x.v, none⟩ :: diffV k (y :: l) else if klt y.k x.k = true then ⟨y.k, none, some y.v⟩ :: diffV (x :: k) l
      else (if x.v = y.v then [] else [⟨x.k, some x.v, some y.v⟩]) ++ diffV k l
termination_by k l => k.length + l.length
def lenOf : Value → Nat
  | .slice _ n _ => n
  | _ => 0
theorem Prs.tail {w : World} {A : Option Addr} {n c : Nat} {x : Pr} {k : List Pr} (h : Prs w A (n + 1) (x :: k)) (hc : n + 1 ≤ c) : Prs w (if c = 1 then A else A.map (fun z => z.add 2)) n k := by
  obtain ⟨h1, h2, h3⟩ := h
  have h1' : k.length = n := by simpa using h1
  refine ⟨h1', fun p hp => h2 p (by simp [hp]), ?_⟩
  by_cases hk : k = []
  · left; rw [hk]; rfl
  · have : 0 < k.length := by cases k; exact absurd rfl hk; simp
    rw [if_neg (by omega)]
    rcases h3 with h3 | ⟨b, off, rfl, h3⟩
    · exfalso; have := congrArg List.length h3; rw [flat_len pr_cells_len] at this; simp at this
    · refine .inr ⟨b, off + 2, rfl, fun j u hj => ?_⟩
      have := h3 (2 + j) u (by rw [List.flatMap_cons, List.getElem?_append_right (by rw [pr_cells_len]; omega), pr_cells_len]; simpa using hj)
      rwa [← Nat.add_assoc] at this
abbrev chgObj (a : ByteArray) (p q : Bool) (b c : ByteArray) : Obj := .cells #[.string a, .bool p, .bool q, .string b, .string c] 54

set_option maxRecDepth 100000 in
set_option maxHeartbeats 16000000 in
theorem diff_any {a b : BT} {A : Option Addr} {n c : Nat} {B : Option Addr} {m d : Nat} {w : World} (ha : BAt w a A n) (hb : BAt w b B m) (hsa : a.size ≤ 1000) (hsb : b.size ≤ 1000) (h0 : chkV a = 0) (h1 : chkV b = 0) :
    Calls Try.prog 30 #[.slice A n c, .slice B m d] w fun e w' => Ext w w' ∧ ∃ v, e = .returned v ∧ w'.ownsRow w.heap.size 54 5 v (diffV (prsV a) (prsV b)).length ((diffV (prsV a) (prsV b)).flatMap Chg.cells) := by
  obtain ⟨inf, i1, i2, i3, i4⟩ := info_of infoC
  have I1 := Lib.hid i1; have I2 := Lib.hid i2; have I3 := Lib.hid i3; have I4 := Lib.hid i4; clear i1 i2 i3 i4
  have HA := Lib.hid ha; have HB := Lib.hid hb; have H0 := Lib.hid h0; have H1 := Lib.hid h1; clear ha hb h0 h1
  obtain ⟨k, hk⟩ : ∃ k, prsV a = k := ⟨_, rfl⟩
  obtain ⟨l, hl⟩ : ∃ l, prsV b = l := ⟨_, rfl⟩
  have hkl : k.length ≤ 1000 := by rw [← hk, prs_len]; exact hsa
  have hll : l.length ≤ 1000 := by rw [← hl, prs_len]; exact hsb
  have HK := Lib.hid hk; have HL := Lib.hid hl
  rw [hk, hl]; clear hk hl
  obtain ⟨V, hV⟩ : ∃ V, diffV k l = V := ⟨_, rfl⟩
  rw [hV]
  have HV := Lib.hid hV; clear hV
  obtain ⟨kn, hkn⟩ : ∃ kn, k.length = kn := ⟨_, rfl⟩
  obtain ⟨ln, hln⟩ : ∃ ln, l.length = ln := ⟨_, rfl⟩
  have l1 := list_is (c := c) HK.out HA.out hsa H0.out
  have l2 : ∀ wx, Ext w wx → Calls Try.prog 22 #[.slice B m d] wx fun e w' => ∃ B k', e = .returned (.slice B ln k') ∧ ln ≤ k' ∧ Prs w' B ln l ∧ Ext wx w' := fun wx h => by
    have := list_is (c := d) HL.out (HB.out.ext h) hsb H1.out
    rwa [hln] at this
  rw [hkn] at l1 hkl; rw [hln] at hll
  have L1 := Lib.hid l1; have L2 := Lib.hid l2; have HKN := Lib.hid hkn; have HLN := Lib.hid hln; clear l1 l2 hkn hln
  go_enter Try.func30, Try.ntmps30
  go_wp2_with fail
  refine L1.out.mono ?_
  rintro e w1 ⟨Ak, ck, rfl, hck, hPk, hE⟩
  have HE := Lib.hid hE; have HP := Lib.hid hPk; clear hE hPk
  go_wp2_with fail
  refine (L2.out w1 HE.out).mono ?_
  rintro e w2 ⟨Al, cl, rfl, hcl, hPl, hE⟩
  have HE2 := Lib.hid (HE.out.trans hE); have HP1 := Lib.hid (HP.out.ext hE); have HP2 := Lib.hid hPl; clear hE hPl HP HE
  go_wp2_with fail
  go_loopw [5, 6, 7] (fun v5 v6 v7 wr => ∃ (D : List Chg) (k' l' : List Pr) (kn' ln' : Nat) (A' : Option Addr) (c' : Nat) (B' : Option Addr) (d' : Nat), v6 = .slice A' kn' c' ∧ v7 = .slice B' ln' d' ∧ kn' ≤ c' ∧ ln' ≤ d' ∧ Prs w2 A' kn' k' ∧ Prs w2 B' ln' l' ∧ Ext w2 wr ∧
      wr.ownsRow w2.heap.size 54 5 v5 D.length (D.flatMap Chg.cells) ∧ V = D ++ diffV k' l' ∧ D.length + kn' + ln' ≤ 2000) (fun _ v6 v7 _ => lenOf v6 + lenOf v7)
  case atStart => exact ⟨[], k, l, kn, ln, Ak, ck, Al, cl, rfl, rfl, hck, hcl, HP1.out, HP2.out, Ext.refl _, World.ownsRow_nil _ _ _ _, by rw [List.nil_append]; exact HV.out.symm, by simp; omega⟩
  case round =>
    obtain ⟨D, k', l', kn', ln', A', c', B', d', rfl, rfl, hc', hd', hp, hq, hE, hO, hv, hle⟩ := hrel
    have HPK := Lib.hid hp; have HPL := Lib.hid hq; have HER := Lib.hid hE; have HO := Lib.hid hO; have HVD := Lib.hid hv
    clear hp hq hE hO hv HP1 HP2 hck hcl
    obtain ⟨gx, hgx⟩ : ∃ gx, wr.heap.size = gx := ⟨_, rfl⟩
    cases k' with
    | nil =>
      obtain rfl : 0 = kn' := HPK.out.1
      cases l' with
      | nil =>
        obtain rfl : 0 = ln' := HPL.out.1
        have hVD : V = D := by rw [HVD.out, diffV]; simp
        go_wp2_with fail
        refine bodyPost_ret (v := u5) (by simp [results, Try.results30, go_sem]) rfl ?_
        rw [hVD]
        exact ⟨HE2.out.trans HER.out, _, rfl, own_base HO.out HE2.out.size⟩
      | cons y l' =>
        obtain ⟨yk, yv⟩ := y
        obtain ⟨ln', rfl⟩ : ∃ q, ln' = q + 1 := ⟨l'.length, by rw [← HPL.out.1]; rfl⟩
        obtain ⟨b2, off2, y', rfl, hb2, hy, hwy, ey0, ey1⟩ := (HPL.out.ext HER.out).get (j := 0) (by omega)
        obtain rfl : (⟨yk, yv⟩ : Pr) = y' := by simpa using hy
        simp only [Nat.zero_mul, Nat.add_zero] at ey0 ey1
        have hne2 : b2 ≠ gx := by omega
        have hz2 : ((ln' : Int) + 1 == 0) = false := by simp; omega
        have EY0 := Lib.hid ey0; have EY1 := Lib.hid ey1
        clear hy hwy ey0 ey1
        go_wp2_with fail
        obtain ⟨wa, hwa, hbwa, hEwa⟩ : ∃ wa, wa = wr.alloc (chgObj nothing false false nothing nothing) ∧ Blk wa gx (chgObj nothing false false nothing nothing) ∧ Ext wr wa := ⟨_, rfl, Blk.new wr _ hgx.symm, (Ext.refl wr).alloc _⟩
        rw [← hwa]
        clear hwa
        have ey0 := hEwa.cell EY0.out
        have ey1 := hEwa.cell EY1.out
        go_quiet (fail)
        generalize hq : wa.drewN nq = wb
        have hEwb : Ext wr wb := by rw [← hq]; exact hEwa.drewN nq
        have hbwb : Blk wb gx (chgObj nothing false false nothing nothing) := by rw [← hq]; exact hbwa.ext ((Ext.refl wa).drewN nq)
        clear hq hEwa hbwa ey0 ey1
        go_wp2_with fail
        have ey0 := hEwb.cell EY0.out
        have ey1 := hEwb.cell EY1.out
        go_quiet (fail)
        generalize hq : wb.drewN nq = wd
        have hEwd : Ext wr wd := by rw [← hq]; exact hEwb.drewN nq
        have hbwd : Blk wd gx (chgObj nothing false false nothing nothing) := by rw [← hq]; exact hbwb.ext ((Ext.refl wb).drewN nq)
        clear hq hEwb hbwb ey0 ey1
        go_wp2_with fail
        have ey0 := hEwd.cell EY0.out
        have ey1 := hEwd.cell EY1.out
        have z0 := hbwd.cell 0; have z1 := hbwd.cell 1; have z2 := hbwd.cell 2; have z3 := hbwd.cell 3; have z4 := hbwd.cell 4
        have y0 := hbwd.free 0; have y1 := hbwd.free 1; have y2 := hbwd.free 2; have y3 := hbwd.free 3; have y4 := hbwd.free 4
        simp only [List.getElem?_toArray, List.getElem?_cons_zero, List.getElem?_cons_succ] at z0 z1 z2 z3 z4
        have HEwd := Lib.hid hEwd; have HBwd := Lib.hid hbwd
        clear hEwd hbwd
        go_region
        obtain ⟨we, hq, hbwe, hEwe⟩ : ∃ we, we = (((wd.setCell ⟨gx, 0, none⟩ (.string yk)).setCell ⟨gx, 2, none⟩ (.bool true)).setCell ⟨gx, 4, none⟩ (.string yv)).drew ∧ Blk we gx (chgObj yk false true nothing yv) ∧ Ext wr we :=
          ⟨_, rfl, (((HBwd.out.put 0 _).put 2 _).put 4 _).drew, (((HEwd.out.setCell (by simp; omega) _).setCell (by simp; omega) _).setCell (by simp; omega) _).drew⟩
        rw [← hq]
        clear hq HEwd HBwd ey0 ey1 z0 z1 z2 z3 z4 y0 y1 y2 y3 y4
        have HEE := Lib.hid (HER.out.trans hEwe); have HOE := Lib.hid (own_stab3 hEwe HO.out)
        have z0 := hbwe.cell 0; have z1 := hbwe.cell 1; have z2 := hbwe.cell 2; have z3 := hbwe.cell 3; have z4 := hbwe.cell 4
        simp only [List.getElem?_toArray, List.getElem?_cons_zero, List.getElem?_cons_succ] at z0 z1 z2 z3 z4
        have hgl := hbwe.lt
        clear hbwe hEwe
        go_wp2_with (at_builtin; refine wpList_append_size2 rfl (.tmp 101) (.tmp 103) 45 rfl w2.heap.size 54 inf _ 5 56 underC I1.out I2.out I3.out I4.out rfl (by decide) u5 D.length (D.flatMap Chg.cells) (some ⟨we.heap.size, 0, none⟩) 1 1 [.string yk, .bool false, .bool true, .string nothing, .string yv] rfl (by simp [Act.eval]) rfl (by simp [Value.oneCell']) (by simp only [maxLen]; omega) (by omega) (own_stab3 ((Ext.refl we).alloc _) HOE.out) (Cells.new we _ [_, _, _, _, _] rfl) (by have := HEE.out.size; simp; omega) ?_; intro v9 w9 hown9 hg9 hb9; have HO9 := Lib.hid hown9; have HG9 := Lib.hid hg9; clear hown9 hg9 hb9)
        clear z0 z1 z2 z3 z4
        refine ⟨⟨D ++ [⟨yk, none, some yv⟩], [], l', 0, ln', _, _, _, _, rfl, rfl, by omega, by omega, HPK.out, HPL.out.tail hd', (HEE.out.alloc _).own3 (own_stab3 ((Ext.refl _).alloc _) HOE.out) HG9.out, (by rw [List.length_append, List.flatMap_append]; exact HO9.out), (by rw [HVD.out, diffV, List.append_assoc]; rfl), by simp; omega⟩, by simp [lenOf]⟩
    | cons x k' =>
      obtain ⟨xk, xv⟩ := x
      obtain ⟨kn', rfl⟩ : ∃ q, kn' = q + 1 := ⟨k'.length, by rw [← HPK.out.1]; rfl⟩
      obtain ⟨b1, off1, x', rfl, hb1, hx, hwx, ex0, ex1⟩ := (HPK.out.ext HER.out).get (j := 0) (by omega)
      obtain rfl : (⟨xk, xv⟩ : Pr) = x' := by simpa using hx
      simp only [Nat.zero_mul, Nat.add_zero] at ex0 ex1
      have hne1 : b1 ≠ gx := by omega
      have hz1 : ((kn' : Int) + 1 == 0) = false := by simp; omega
      have EX0 := Lib.hid ex0; have EX1 := Lib.hid ex1
      clear hx hwx ex0 ex1
      cases l' with
      | nil =>
        obtain rfl : 0 = ln' := HPL.out.1
        go_wp2_with fail
        obtain ⟨wa, hwa, hbwa, hEwa⟩ : ∃ wa, wa = wr.alloc (chgObj nothing false false nothing nothing) ∧ Blk wa gx (chgObj nothing false false nothing nothing) ∧ Ext wr wa := ⟨_, rfl, Blk.new wr _ hgx.symm, (Ext.refl wr).alloc _⟩
        rw [← hwa]
        clear hwa
        have ex0 := hEwa.cell EX0.out
        have ex1 := hEwa.cell EX1.out
        go_quiet (fail)
        generalize hq : wa.drewN nq = wb
        have hEwb : Ext wr wb := by rw [← hq]; exact hEwa.drewN nq
        have hbwb : Blk wb gx (chgObj nothing false false nothing nothing) := by rw [← hq]; exact hbwa.ext ((Ext.refl wa).drewN nq)
        clear hq hEwa hbwa ex0 ex1
        go_wp2_with fail
        have ex0 := hEwb.cell EX0.out
        have ex1 := hEwb.cell EX1.out
        have z0 := hbwb.cell 0; have z1 := hbwb.cell 1; have z2 := hbwb.cell 2; have z3 := hbwb.cell 3; have z4 := hbwb.cell 4
        have y0 := hbwb.free 0; have y1 := hbwb.free 1; have y2 := hbwb.free 2; have y3 := hbwb.free 3; have y4 := hbwb.free 4
        simp only [List.getElem?_toArray, List.getElem?_cons_zero, List.getElem?_cons_succ] at z0 z1 z2 z3 z4
        have HEwb := Lib.hid hEwb; have HBwb := Lib.hid hbwb
        clear hEwb hbwb
        go_region
        obtain ⟨wc, hq, hbwc, hEwc⟩ : ∃ wc, wc = (((wb.setCell ⟨gx, 0, none⟩ (.string xk)).setCell ⟨gx, 1, none⟩ (.bool true)).setCell ⟨gx, 3, none⟩ (.string xv)).drew ∧ Blk wc gx (chgObj xk true false xv nothing) ∧ Ext wr wc :=
          ⟨_, rfl, (((HBwb.out.put 0 _).put 1 _).put 3 _).drew, (((HEwb.out.setCell (by simp; omega) _).setCell (by simp; omega) _).setCell (by simp; omega) _).drew⟩
        rw [← hq]
        clear hq HEwb HBwb ex0 ex1 z0 z1 z2 z3 z4 y0 y1 y2 y3 y4
        go_wp2_with fail
        have ex0 := hEwc.cell EX0.out
        have ex1 := hEwc.cell EX1.out
        go_quiet (fail)
        generalize hq : wc.drewN nq = wd
        have hEwd : Ext wr wd := by rw [← hq]; exact hEwc.drewN nq
        have hbwd : Blk wd gx (chgObj xk true false xv nothing) := by rw [← hq]; exact hbwc.ext ((Ext.refl wc).drewN nq)
        clear hq hEwc hbwc ex0 ex1
        have HEE := Lib.hid (HER.out.trans hEwd); have HOE := Lib.hid (own_stab3 hEwd HO.out)
        have z0 := hbwd.cell 0; have z1 := hbwd.cell 1; have z2 := hbwd.cell 2; have z3 := hbwd.cell 3; have z4 := hbwd.cell 4
        simp only [List.getElem?_toArray, List.getElem?_cons_zero, List.getElem?_cons_succ] at z0 z1 z2 z3 z4
        have hgl := hbwd.lt
        clear hbwd hEwd
        go_wp2_with (at_builtin; refine wpList_append_size2 rfl (.tmp 101) (.tmp 103) 45 rfl w2.heap.size 54 inf _ 5 56 underC I1.out I2.out I3.out I4.out rfl (by decide) u5 D.length (D.flatMap Chg.cells) (some ⟨wd.heap.size, 0, none⟩) 1 1 [.string xk, .bool true, .bool false, .string xv, .string nothing] rfl (by simp [Act.eval]) rfl (by simp [Value.oneCell']) (by simp only [maxLen]; omega) (by omega) (own_stab3 ((Ext.refl wd).alloc _) HOE.out) (Cells.new wd _ [_, _, _, _, _] rfl) (by have := HEE.out.size; simp; omega) ?_; intro v9 w9 hown9 hg9 hb9; have HO9 := Lib.hid hown9; have HG9 := Lib.hid hg9; clear hown9 hg9 hb9)
        clear z0 z1 z2 z3 z4
        refine ⟨⟨D ++ [⟨xk, some xv, none⟩], k', [], kn', 0, _, _, _, _, rfl, rfl, by omega, by omega, HPK.out.tail hc', HPL.out, (HEE.out.alloc _).own3 (own_stab3 ((Ext.refl _).alloc _) HOE.out) HG9.out, (by rw [List.length_append, List.flatMap_append]; exact HO9.out), (by rw [HVD.out, diffV, List.append_assoc]; rfl), by simp; omega⟩, by simp [lenOf]⟩
      | cons y l' =>
        obtain ⟨yk, yv⟩ := y
        obtain ⟨ln', rfl⟩ : ∃ q, ln' = q + 1 := ⟨l'.length, by rw [← HPL.out.1]; rfl⟩
        obtain ⟨b2, off2, y', rfl, hb2, hy, hwy, ey0, ey1⟩ := (HPL.out.ext HER.out).get (j := 0) (by omega)
        obtain rfl : (⟨yk, yv⟩ : Pr) = y' := by simpa using hy
        simp only [Nat.zero_mul, Nat.add_zero] at ey0 ey1
        have hne2 : b2 ≠ gx := by omega
        have hz2 : ((ln' : Int) + 1 == 0) = false := by simp; omega
        have EY0 := Lib.hid ey0; have EY1 := Lib.hid ey1
        clear hy hwy ey0 ey1
        have hvd := HVD.out
        rw [diffV] at hvd
        dsimp only at hvd
        rcases Bool.eq_false_or_eq_true (klt xk yk) with h1 | h1
        · have h2 := klt_asymm h1
          rw [if_pos h1] at hvd
          have HVX := Lib.hid hvd; clear hvd HVD
          have p1 : Op.bytesLess xk.toList yk.toList = true := h1
          have p2 : Op.bytesLess yk.toList xk.toList = false := h2
          have p3 := ne_list (klt_ne h1)
          have p4 := ne_list (Ne.symm (klt_ne h1))
          clear h1 h2
          go_wp2_with fail
          obtain ⟨wa, hwa, hbwa, hEwa⟩ : ∃ wa, wa = wr.alloc (chgObj nothing false false nothing nothing) ∧ Blk wa gx (chgObj nothing false false nothing nothing) ∧ Ext wr wa := ⟨_, rfl, Blk.new wr _ hgx.symm, (Ext.refl wr).alloc _⟩
          rw [← hwa]
          clear hwa
          have ex0 := hEwa.cell EX0.out
          have ex1 := hEwa.cell EX1.out
          have ey0 := hEwa.cell EY0.out
          have ey1 := hEwa.cell EY1.out
          go_quiet (fail)
          generalize hq : wa.drewN nq = wb
          have hEwb : Ext wr wb := by rw [← hq]; exact hEwa.drewN nq
          have hbwb : Blk wb gx (chgObj nothing false false nothing nothing) := by rw [← hq]; exact hbwa.ext ((Ext.refl wa).drewN nq)
          clear hq hEwa hbwa ex0 ex1 ey0 ey1
          go_wp2_with fail
          have ex0 := hEwb.cell EX0.out
          have ex1 := hEwb.cell EX1.out
          have ey0 := hEwb.cell EY0.out
          have ey1 := hEwb.cell EY1.out
          have z0 := hbwb.cell 0; have z1 := hbwb.cell 1; have z2 := hbwb.cell 2; have z3 := hbwb.cell 3; have z4 := hbwb.cell 4
          have y0 := hbwb.free 0; have y1 := hbwb.free 1; have y2 := hbwb.free 2; have y3 := hbwb.free 3; have y4 := hbwb.free 4
          simp only [List.getElem?_toArray, List.getElem?_cons_zero, List.getElem?_cons_succ] at z0 z1 z2 z3 z4
          have HEwb := Lib.hid hEwb; have HBwb := Lib.hid hbwb
          clear hEwb hbwb
          go_region
          obtain ⟨wc, hq, hbwc, hEwc⟩ : ∃ wc, wc = (((wb.setCell ⟨gx, 0, none⟩ (.string xk)).setCell ⟨gx, 1, none⟩ (.bool true)).setCell ⟨gx, 3, none⟩ (.string xv)).drew ∧ Blk wc gx (chgObj xk true false xv nothing) ∧ Ext wr wc :=
            ⟨_, rfl, (((HBwb.out.put 0 _).put 1 _).put 3 _).drew, (((HEwb.out.setCell (by simp; omega) _).setCell (by simp; omega) _).setCell (by simp; omega) _).drew⟩
          rw [← hq]
          clear hq HEwb HBwb ex0 ex1 ey0 ey1 z0 z1 z2 z3 z4 y0 y1 y2 y3 y4
          go_wp2_with fail
          have ex0 := hEwc.cell EX0.out
          have ex1 := hEwc.cell EX1.out
          have ey0 := hEwc.cell EY0.out
          have ey1 := hEwc.cell EY1.out
          go_quiet (fail)
          generalize hq : wc.drewN nq = wd
          have hEwd : Ext wr wd := by rw [← hq]; exact hEwc.drewN nq
          have hbwd : Blk wd gx (chgObj xk true false xv nothing) := by rw [← hq]; exact hbwc.ext ((Ext.refl wc).drewN nq)
          clear hq hEwc hbwc ex0 ex1 ey0 ey1
          have HEE := Lib.hid (HER.out.trans hEwd); have HOE := Lib.hid (own_stab3 hEwd HO.out)
          have z0 := hbwd.cell 0; have z1 := hbwd.cell 1; have z2 := hbwd.cell 2; have z3 := hbwd.cell 3; have z4 := hbwd.cell 4
          simp only [List.getElem?_toArray, List.getElem?_cons_zero, List.getElem?_cons_succ] at z0 z1 z2 z3 z4
          have hgl := hbwd.lt
          clear hbwd hEwd
          go_wp2_with (at_builtin; refine wpList_append_size2 rfl (.tmp 101) (.tmp 103) 45 rfl w2.heap.size 54 inf _ 5 56 underC I1.out I2.out I3.out I4.out rfl (by decide) u5 D.length (D.flatMap Chg.cells) (some ⟨wd.heap.size, 0, none⟩) 1 1 [.string xk, .bool true, .bool false, .string xv, .string nothing] rfl (by simp [Act.eval]) rfl (by simp [Value.oneCell']) (by simp only [maxLen]; omega) (by omega) (own_stab3 ((Ext.refl wd).alloc _) HOE.out) (Cells.new wd _ [_, _, _, _, _] rfl) (by have := HEE.out.size; simp; omega) ?_; intro v9 w9 hown9 hg9 hb9; have HO9 := Lib.hid hown9; have HG9 := Lib.hid hg9; clear hown9 hg9 hb9)
          clear z0 z1 z2 z3 z4
          refine ⟨⟨D ++ [⟨xk, some xv, none⟩], k', (⟨yk, yv⟩ :: l'), kn', ln' + 1, _, _, _, _, rfl, rfl, by omega, by omega, HPK.out.tail hc', HPL.out, (HEE.out.alloc _).own3 (own_stab3 ((Ext.refl _).alloc _) HOE.out) HG9.out, (by rw [List.length_append, List.flatMap_append]; exact HO9.out), (by rw [HVX.out, List.append_assoc]; rfl), by simp; omega⟩, by simp [lenOf]⟩
        · rcases Bool.eq_false_or_eq_true (klt yk xk) with h2 | h2
          · rw [if_neg (by rw [h1]; simp), if_pos h2] at hvd
            have HVX := Lib.hid hvd; clear hvd HVD
            have p1 : Op.bytesLess xk.toList yk.toList = false := h1
            have p2 : Op.bytesLess yk.toList xk.toList = true := h2
            have p3 := ne_list (klt_ne h2)
            have p4 := ne_list (Ne.symm (klt_ne h2))
            clear h1 h2
            go_wp2_with fail
            obtain ⟨wa, hwa, hbwa, hEwa⟩ : ∃ wa, wa = wr.alloc (chgObj nothing false false nothing nothing) ∧ Blk wa gx (chgObj nothing false false nothing nothing) ∧ Ext wr wa := ⟨_, rfl, Blk.new wr _ hgx.symm, (Ext.refl wr).alloc _⟩
            rw [← hwa]
            clear hwa
            have ex0 := hEwa.cell EX0.out
            have ex1 := hEwa.cell EX1.out
            have ey0 := hEwa.cell EY0.out
            have ey1 := hEwa.cell EY1.out
            go_quiet (fail)
            generalize hq : wa.drewN nq = wb
            have hEwb : Ext wr wb := by rw [← hq]; exact hEwa.drewN nq
            have hbwb : Blk wb gx (chgObj nothing false false nothing nothing) := by rw [← hq]; exact hbwa.ext ((Ext.refl wa).drewN nq)
            clear hq hEwa hbwa ex0 ex1 ey0 ey1
            go_wp2_with fail
            have ex0 := hEwb.cell EX0.out
            have ex1 := hEwb.cell EX1.out
            have ey0 := hEwb.cell EY0.out
            have ey1 := hEwb.cell EY1.out
            go_quiet (fail)
            generalize hq : wb.drewN nq = wd
            have hEwd : Ext wr wd := by rw [← hq]; exact hEwb.drewN nq
            have hbwd : Blk wd gx (chgObj nothing false false nothing nothing) := by rw [← hq]; exact hbwb.ext ((Ext.refl wb).drewN nq)
            clear hq hEwb hbwb ex0 ex1 ey0 ey1
            go_wp2_with fail
            have ex0 := hEwd.cell EX0.out
            have ex1 := hEwd.cell EX1.out
            have ey0 := hEwd.cell EY0.out
            have ey1 := hEwd.cell EY1.out
            have z0 := hbwd.cell 0; have z1 := hbwd.cell 1; have z2 := hbwd.cell 2; have z3 := hbwd.cell 3; have z4 := hbwd.cell 4
            have y0 := hbwd.free 0; have y1 := hbwd.free 1; have y2 := hbwd.free 2; have y3 := hbwd.free 3; have y4 := hbwd.free 4
            simp only [List.getElem?_toArray, List.getElem?_cons_zero, List.getElem?_cons_succ] at z0 z1 z2 z3 z4
            have HEwd := Lib.hid hEwd; have HBwd := Lib.hid hbwd
            clear hEwd hbwd
            go_region
            obtain ⟨we, hq, hbwe, hEwe⟩ : ∃ we, we = (((wd.setCell ⟨gx, 0, none⟩ (.string yk)).setCell ⟨gx, 2, none⟩ (.bool true)).setCell ⟨gx, 4, none⟩ (.string yv)).drew ∧ Blk we gx (chgObj yk false true nothing yv) ∧ Ext wr we :=
              ⟨_, rfl, (((HBwd.out.put 0 _).put 2 _).put 4 _).drew, (((HEwd.out.setCell (by simp; omega) _).setCell (by simp; omega) _).setCell (by simp; omega) _).drew⟩
            rw [← hq]
            clear hq HEwd HBwd ex0 ex1 ey0 ey1 z0 z1 z2 z3 z4 y0 y1 y2 y3 y4
            have HEE := Lib.hid (HER.out.trans hEwe); have HOE := Lib.hid (own_stab3 hEwe HO.out)
            have z0 := hbwe.cell 0; have z1 := hbwe.cell 1; have z2 := hbwe.cell 2; have z3 := hbwe.cell 3; have z4 := hbwe.cell 4
            simp only [List.getElem?_toArray, List.getElem?_cons_zero, List.getElem?_cons_succ] at z0 z1 z2 z3 z4
            have hgl := hbwe.lt
            clear hbwe hEwe
            go_wp2_with (at_builtin; refine wpList_append_size2 rfl (.tmp 101) (.tmp 103) 45 rfl w2.heap.size 54 inf _ 5 56 underC I1.out I2.out I3.out I4.out rfl (by decide) u5 D.length (D.flatMap Chg.cells) (some ⟨we.heap.size, 0, none⟩) 1 1 [.string yk, .bool false, .bool true, .string nothing, .string yv] rfl (by simp [Act.eval]) rfl (by simp [Value.oneCell']) (by simp only [maxLen]; omega) (by omega) (own_stab3 ((Ext.refl we).alloc _) HOE.out) (Cells.new we _ [_, _, _, _, _] rfl) (by have := HEE.out.size; simp; omega) ?_; intro v9 w9 hown9 hg9 hb9; have HO9 := Lib.hid hown9; have HG9 := Lib.hid hg9; clear hown9 hg9 hb9)
            clear z0 z1 z2 z3 z4
            refine ⟨⟨D ++ [⟨yk, none, some yv⟩], (⟨xk, xv⟩ :: k'), l', kn' + 1, ln', _, _, _, _, rfl, rfl, by omega, by omega, HPK.out, HPL.out.tail hd', (HEE.out.alloc _).own3 (own_stab3 ((Ext.refl _).alloc _) HOE.out) HG9.out, (by rw [List.length_append, List.flatMap_append]; exact HO9.out), (by rw [HVX.out, List.append_assoc]; rfl), by simp; omega⟩, by simp [lenOf]⟩
          · rw [if_neg (by rw [h1]; simp), if_neg (by rw [h2]; simp)] at hvd
            obtain rfl : xk = yk := by
              rcases klt_tri xk yk with h | h | h
              · rw [h1] at h; cases h
              · exact h
              · rw [h2] at h; cases h
            have p1 : Op.bytesLess xk.toList xk.toList = false := h1
            clear h1 h2
            by_cases hvv : xv = yv
            · rw [if_pos hvv] at hvd
              obtain rfl := hvv
              have HVX := Lib.hid hvd; clear hvd HVD
              go_wp2_with fail
              obtain ⟨wa, hwa, hbwa, hEwa⟩ : ∃ wa, wa = wr.alloc (chgObj nothing false false nothing nothing) ∧ Blk wa gx (chgObj nothing false false nothing nothing) ∧ Ext wr wa := ⟨_, rfl, Blk.new wr _ hgx.symm, (Ext.refl wr).alloc _⟩
              rw [← hwa]
              clear hwa
              have ex0 := hEwa.cell EX0.out
              have ex1 := hEwa.cell EX1.out
              have ey0 := hEwa.cell EY0.out
              have ey1 := hEwa.cell EY1.out
              go_quiet (fail)
              generalize hq : wa.drewN nq = wb
              have hEwb : Ext wr wb := by rw [← hq]; exact hEwa.drewN nq
              have hbwb : Blk wb gx (chgObj nothing false false nothing nothing) := by rw [← hq]; exact hbwa.ext ((Ext.refl wa).drewN nq)
              clear hq hEwa hbwa ex0 ex1 ey0 ey1
              go_wp2_with fail
              have ex0 := hEwb.cell EX0.out
              have ex1 := hEwb.cell EX1.out
              have ey0 := hEwb.cell EY0.out
              have ey1 := hEwb.cell EY1.out
              have z0 := hbwb.cell 0; have z1 := hbwb.cell 1; have z2 := hbwb.cell 2; have z3 := hbwb.cell 3; have z4 := hbwb.cell 4
              have y0 := hbwb.free 0; have y1 := hbwb.free 1; have y2 := hbwb.free 2; have y3 := hbwb.free 3; have y4 := hbwb.free 4
              simp only [List.getElem?_toArray, List.getElem?_cons_zero, List.getElem?_cons_succ] at z0 z1 z2 z3 z4
              have HEwb := Lib.hid hEwb; have HBwb := Lib.hid hbwb
              clear hEwb hbwb
              go_region
              obtain ⟨wc, hq, hbwc, hEwc⟩ : ∃ wc, wc = (((wb.setCell ⟨gx, 0, none⟩ (.string xk)).setCell ⟨gx, 1, none⟩ (.bool true)).setCell ⟨gx, 3, none⟩ (.string xv)).drew ∧ Blk wc gx (chgObj xk true false xv nothing) ∧ Ext wr wc :=
                ⟨_, rfl, (((HBwb.out.put 0 _).put 1 _).put 3 _).drew, (((HEwb.out.setCell (by simp; omega) _).setCell (by simp; omega) _).setCell (by simp; omega) _).drew⟩
              rw [← hq]
              clear hq HEwb HBwb ex0 ex1 ey0 ey1 z0 z1 z2 z3 z4 y0 y1 y2 y3 y4
              go_wp2_with fail
              have ex0 := hEwc.cell EX0.out
              have ex1 := hEwc.cell EX1.out
              have ey0 := hEwc.cell EY0.out
              have ey1 := hEwc.cell EY1.out
              go_quiet (fail)
              generalize hq : wc.drewN nq = wd
              have hEwd : Ext wr wd := by rw [← hq]; exact hEwc.drewN nq
              have hbwd : Blk wd gx (chgObj xk true false xv nothing) := by rw [← hq]; exact hbwc.ext ((Ext.refl wc).drewN nq)
              clear hq hEwc hbwc ex0 ex1 ey0 ey1
              go_wp2_with fail
              have ex0 := hEwd.cell EX0.out
              have ex1 := hEwd.cell EX1.out
              have ey0 := hEwd.cell EY0.out
              have ey1 := hEwd.cell EY1.out
              have z0 := hbwd.cell 0; have z1 := hbwd.cell 1; have z2 := hbwd.cell 2; have z3 := hbwd.cell 3; have z4 := hbwd.cell 4
              have y0 := hbwd.free 0; have y1 := hbwd.free 1; have y2 := hbwd.free 2; have y3 := hbwd.free 3; have y4 := hbwd.free 4
              simp only [List.getElem?_toArray, List.getElem?_cons_zero, List.getElem?_cons_succ] at z0 z1 z2 z3 z4
              have HEwd := Lib.hid hEwd; have HBwd := Lib.hid hbwd
              clear hEwd hbwd
              go_region
              obtain ⟨we, hq, hbwe, hEwe⟩ : ∃ we, we = (((wd.setCell ⟨gx, 0, none⟩ (.string xk)).setCell ⟨gx, 2, none⟩ (.bool true)).setCell ⟨gx, 4, none⟩ (.string xv)).drew ∧ Blk we gx (chgObj xk true true xv xv) ∧ Ext wr we :=
                ⟨_, rfl, (((HBwd.out.put 0 _).put 2 _).put 4 _).drew, (((HEwd.out.setCell (by simp; omega) _).setCell (by simp; omega) _).setCell (by simp; omega) _).drew⟩
              rw [← hq]
              clear hq HEwd HBwd ex0 ex1 ey0 ey1 z0 z1 z2 z3 z4 y0 y1 y2 y3 y4
              have HEE := Lib.hid (HER.out.trans hEwe); have HOE := Lib.hid (own_stab3 hEwe HO.out)
              have z0 := hbwe.cell 0; have z1 := hbwe.cell 1; have z2 := hbwe.cell 2; have z3 := hbwe.cell 3; have z4 := hbwe.cell 4
              simp only [List.getElem?_toArray, List.getElem?_cons_zero, List.getElem?_cons_succ] at z0 z1 z2 z3 z4
              have hgl := hbwe.lt
              clear hbwe hEwe
              go_wp2_with fail
              clear z0 z1 z2 z3 z4
              refine ⟨⟨D, k', l', kn', ln', _, _, _, _, rfl, rfl, by omega, by omega, HPK.out.tail hc', HPL.out.tail hd', HEE.out, HOE.out, HVX.out, by omega⟩, by simp [lenOf]; omega⟩
            · rw [if_neg hvv] at hvd
              have HVX := Lib.hid hvd; clear hvd HVD
              have hvn := ne_list hvv
              clear hvv
              go_wp2_with fail
              obtain ⟨wa, hwa, hbwa, hEwa⟩ : ∃ wa, wa = wr.alloc (chgObj nothing false false nothing nothing) ∧ Blk wa gx (chgObj nothing false false nothing nothing) ∧ Ext wr wa := ⟨_, rfl, Blk.new wr _ hgx.symm, (Ext.refl wr).alloc _⟩
              rw [← hwa]
              clear hwa
              have ex0 := hEwa.cell EX0.out
              have ex1 := hEwa.cell EX1.out
              have ey0 := hEwa.cell EY0.out
              have ey1 := hEwa.cell EY1.out
              go_quiet (fail)
              generalize hq : wa.drewN nq = wb
              have hEwb : Ext wr wb := by rw [← hq]; exact hEwa.drewN nq
              have hbwb : Blk wb gx (chgObj nothing false false nothing nothing) := by rw [← hq]; exact hbwa.ext ((Ext.refl wa).drewN nq)
              clear hq hEwa hbwa ex0 ex1 ey0 ey1
              go_wp2_with fail
              have ex0 := hEwb.cell EX0.out
              have ex1 := hEwb.cell EX1.out
              have ey0 := hEwb.cell EY0.out
              have ey1 := hEwb.cell EY1.out
              have z0 := hbwb.cell 0; have z1 := hbwb.cell 1; have z2 := hbwb.cell 2; have z3 := hbwb.cell 3; have z4 := hbwb.cell 4
              have y0 := hbwb.free 0; have y1 := hbwb.free 1; have y2 := hbwb.free 2; have y3 := hbwb.free 3; have y4 := hbwb.free 4
              simp only [List.getElem?_toArray, List.getElem?_cons_zero, List.getElem?_cons_succ] at z0 z1 z2 z3 z4
              have HEwb := Lib.hid hEwb; have HBwb := Lib.hid hbwb
              clear hEwb hbwb
              go_region
              obtain ⟨wc, hq, hbwc, hEwc⟩ : ∃ wc, wc = (((wb.setCell ⟨gx, 0, none⟩ (.string xk)).setCell ⟨gx, 1, none⟩ (.bool true)).setCell ⟨gx, 3, none⟩ (.string xv)).drew ∧ Blk wc gx (chgObj xk true false xv nothing) ∧ Ext wr wc :=
                ⟨_, rfl, (((HBwb.out.put 0 _).put 1 _).put 3 _).drew, (((HEwb.out.setCell (by simp; omega) _).setCell (by simp; omega) _).setCell (by simp; omega) _).drew⟩
              rw [← hq]
              clear hq HEwb HBwb ex0 ex1 ey0 ey1 z0 z1 z2 z3 z4 y0 y1 y2 y3 y4
              go_wp2_with fail
              have ex0 := hEwc.cell EX0.out
              have ex1 := hEwc.cell EX1.out
              have ey0 := hEwc.cell EY0.out
              have ey1 := hEwc.cell EY1.out
              go_quiet (fail)
              generalize hq : wc.drewN nq = wd
              have hEwd : Ext wr wd := by rw [← hq]; exact hEwc.drewN nq
              have hbwd : Blk wd gx (chgObj xk true false xv nothing) := by rw [← hq]; exact hbwc.ext ((Ext.refl wc).drewN nq)
              clear hq hEwc hbwc ex0 ex1 ey0 ey1
              go_wp2_with fail
              have ex0 := hEwd.cell EX0.out
              have ex1 := hEwd.cell EX1.out
              have ey0 := hEwd.cell EY0.out
              have ey1 := hEwd.cell EY1.out
              have z0 := hbwd.cell 0; have z1 := hbwd.cell 1; have z2 := hbwd.cell 2; have z3 := hbwd.cell 3; have z4 := hbwd.cell 4
              have y0 := hbwd.free 0; have y1 := hbwd.free 1; have y2 := hbwd.free 2; have y3 := hbwd.free 3; have y4 := hbwd.free 4
              simp only [List.getElem?_toArray, List.getElem?_cons_zero, List.getElem?_cons_succ] at z0 z1 z2 z3 z4
              have HEwd := Lib.hid hEwd; have HBwd := Lib.hid hbwd
              clear hEwd hbwd
              go_region
              obtain ⟨we, hq, hbwe, hEwe⟩ : ∃ we, we = (((wd.setCell ⟨gx, 0, none⟩ (.string xk)).setCell ⟨gx, 2, none⟩ (.bool true)).setCell ⟨gx, 4, none⟩ (.string yv)).drew ∧ Blk we gx (chgObj xk true true xv yv) ∧ Ext wr we :=
                ⟨_, rfl, (((HBwd.out.put 0 _).put 2 _).put 4 _).drew, (((HEwd.out.setCell (by simp; omega) _).setCell (by simp; omega) _).setCell (by simp; omega) _).drew⟩
              rw [← hq]
              clear hq HEwd HBwd ex0 ex1 ey0 ey1 z0 z1 z2 z3 z4 y0 y1 y2 y3 y4
              have HEE := Lib.hid (HER.out.trans hEwe); have HOE := Lib.hid (own_stab3 hEwe HO.out)
              have z0 := hbwe.cell 0; have z1 := hbwe.cell 1; have z2 := hbwe.cell 2; have z3 := hbwe.cell 3; have z4 := hbwe.cell 4
              simp only [List.getElem?_toArray, List.getElem?_cons_zero, List.getElem?_cons_succ] at z0 z1 z2 z3 z4
              have hgl := hbwe.lt
              clear hbwe hEwe
              go_wp2_with (at_builtin; refine wpList_append_size2 rfl (.tmp 101) (.tmp 103) 45 rfl w2.heap.size 54 inf _ 5 56 underC I1.out I2.out I3.out I4.out rfl (by decide) u5 D.length (D.flatMap Chg.cells) (some ⟨we.heap.size, 0, none⟩) 1 1 [.string xk, .bool true, .bool true, .string xv, .string yv] rfl (by simp [Act.eval]) rfl (by simp [Value.oneCell']) (by simp only [maxLen]; omega) (by omega) (own_stab3 ((Ext.refl we).alloc _) HOE.out) (Cells.new we _ [_, _, _, _, _] rfl) (by have := HEE.out.size; simp; omega) ?_; intro v9 w9 hown9 hg9 hb9; have HO9 := Lib.hid hown9; have HG9 := Lib.hid hg9; clear hown9 hg9 hb9)
              clear z0 z1 z2 z3 z4
              refine ⟨⟨D ++ [⟨xk, some xv, some yv⟩], k', l', kn', ln', _, _, _, _, rfl, rfl, by omega, by omega, HPK.out.tail hc', HPL.out.tail hd', (HEE.out.alloc _).own3 (own_stab3 ((Ext.refl _).alloc _) HOE.out) HG9.out, (by rw [List.length_append, List.flatMap_append]; exact HO9.out), (by rw [HVX.out, List.append_assoc]), by simp; omega⟩, by simp [lenOf]; omega⟩
end Go.Proofs.Ytbjniaihkllmdaa

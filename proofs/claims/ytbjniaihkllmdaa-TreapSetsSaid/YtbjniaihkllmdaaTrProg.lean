/- Contracts: treap.Get, Put, Delete, Split, for valid maps. -/
import Derived.Test.YtbjniaihkllmdaaTrList
namespace Go.Proofs.Ytbjniaihkllmdaa
open Go.RowKit

theorem chk_mt (b : BT) : chkT b.mt = chkV b := by rw [chkT, if_neg (by rw [BT.mt_wide]; simp), BT.tree_mt]
/-- A map and an error number are returned. -/
def Res (b : BT) (x : Int) (w : World) (e : Ending) (w' : World) : Prop := ∃ A n c, e = .returned (.tuple #[.slice A n c, .int .i64 x]) ∧ BAt w' b A n ∧ Ext w w'
theorem checkB {b : BT} {A : Option Addr} {n c : Nat} {w : World} (hb : BAt w b A n) (hs : b.size ≤ 1000) (h0 : chkV b = 0) :
    Calls Try.prog 15 #[.slice A n c] w fun e w' => e = .returned (.int .i64 0) ∧ Ext w w' :=
  (check_any b.mt A n c w hb (by rw [BT.mt_size]; exact hs)).mono (by rintro e w' ⟨rfl, hE⟩; rw [chk_mt, h0]; exact ⟨rfl, hE⟩)

set_option maxRecDepth 100000
set_option maxHeartbeats 4000000
theorem get_any (k : ByteArray) {b : BT} {A : Option Addr} {n c : Nat} {w : World} (hb : BAt w b A n) (hs : b.size ≤ 1000) (h0 : chkV b = 0) :
    Calls Try.prog 26 #[.slice A n c, .string k] w fun e w' => e = .returned (.tuple #[.string ((findV k b).getD ⟨#[]⟩), .bool (findV k b).isSome]) ∧ Ext w w' := by
  have HB := Lib.hid hb; have H0 := Lib.hid h0; clear hb h0
  go_enter Try.func26, Try.ntmps26
  go_wp2_with fail
  refine (checkB HB.out hs H0.out).mono ?_
  rintro e w1 ⟨rfl, hE⟩
  have HE := Lib.hid hE; clear hE
  go_wp2_with fail
  refine (find_any b A n c k w1 (HB.out.ext HE.out)).mono ?_
  rintro e w2 ⟨rfl, hE⟩
  have HE2 := Lib.hid (HE.out.trans hE); clear hE HE
  go_wp2_with fail
  refine bodyPost_ret (v := .tuple #[.string ((findV k b).getD ⟨#[]⟩), .bool (findV k b).isSome]) (by simp [results, Try.results26, go_sem]) rfl ?_
  exact ⟨rfl, HE2.out⟩

theorem Put_any {k v : ByteArray} {b : BT} {A : Option Addr} {n c : Nat} {w : World} (hb : BAt w b A n) (hs : b.size ≤ 1000) (h0 : chkV b = 0) (hk : k.size ≤ Reach) (hv : v.size ≤ Reach) :
    Calls Try.prog 19 #[.slice A n c, .string k, .string v] w (Res (if lgB k v = true then .leaf else putV k v b) (if lgB k v = true then 4 else 0) w) := by
  have HB := Lib.hid hb; have H0 := Lib.hid h0; clear hb h0
  obtain ⟨z, hz⟩ : ∃ z, lgB k v = z := ⟨_, rfl⟩
  obtain ⟨x, hx⟩ : ∃ x, 0 + b.mt.size = x := ⟨_, rfl⟩
  have hx2 : x ≤ 1000 := by rw [BT.mt_size] at hx; omega
  have HX := Lib.hid hx; clear hx
  rw [hz]
  have HZ := Lib.hid hz; clear hz
  cases z with
  | true =>
    go_enter Try.func19, Try.ntmps19
    go_wp2_with fail
    refine (checkB HB.out hs H0.out).mono ?_
    rintro e w1 ⟨rfl, hE⟩
    have HE := Lib.hid hE; clear hE
    go_wp2_with fail
    refine (long_any k v _).mono ?_
    rintro e w2 ⟨rfl, rfl⟩
    rw [HZ.out]
    go_wp2_with fail
    refine bodyPost_ret (v := .tuple #[.slice none 0 0, .int .i64 4]) (by simp [results, Try.results19, go_sem]) rfl ?_
    exact ⟨none, 0, 0, rfl, MapAt.nil _ _, HE.out⟩
  | false =>
    cases hf : findV k b with
    | some u =>
      have HF := Lib.hid hf; clear hf
      go_enter Try.func19, Try.ntmps19
      go_wp2_with fail
      refine (checkB HB.out hs H0.out).mono ?_
      rintro e w1 ⟨rfl, hE⟩
      have HE := Lib.hid hE; clear hE
      go_wp2_with fail
      refine (long_any k v _).mono ?_
      rintro e w2 ⟨rfl, rfl⟩
      rw [HZ.out]
      go_wp2_with fail
      refine (find_any b A n c k w1 (HB.out.ext HE.out)).mono ?_
      rintro e w2 ⟨rfl, hE⟩
      rw [HF.out]
      have HE2 := Lib.hid (HE.out.trans hE); clear hE HE
      go_wp2_with fail
      refine (put_any k v hk hv b A n c w2 (HB.out.ext HE2.out)).mono ?_
      rintro e w3 ⟨A1, n1, c1, rfl, hG, hE⟩
      have HE3 := Lib.hid (HE2.out.trans hE); have HG := Lib.hid hG; clear hE HE2 hG
      go_wp2_with fail
      refine bodyPost_ret (v := .tuple #[.slice A1 n1 c1, .int .i64 0]) (by simp [results, Try.results19, go_sem]) rfl ?_
      exact ⟨A1, n1, c1, rfl, HG.out, HE3.out⟩
    | none =>
      have HF := Lib.hid hf; clear hf
      have hge : ¬ ((20000 : Int) ≤ (x : Int)) := by omega
      go_enter Try.func19, Try.ntmps19
      go_wp2_with fail
      refine (checkB HB.out hs H0.out).mono ?_
      rintro e w1 ⟨rfl, hE⟩
      have HE := Lib.hid hE; clear hE
      go_wp2_with fail
      refine (long_any k v _).mono ?_
      rintro e w2 ⟨rfl, rfl⟩
      rw [HZ.out]
      go_wp2_with fail
      refine (find_any b A n c k w1 (HB.out.ext HE.out)).mono ?_
      rintro e w2 ⟨rfl, hE⟩
      rw [HF.out]
      have HE2 := Lib.hid (HE.out.trans hE); clear hE HE
      go_wp2_with fail
      refine (count_is HX.out (HB.out.ext HE2.out) (by omega)).mono ?_
      rintro e w4 ⟨rfl, hE⟩
      have HE4 := Lib.hid (HE2.out.trans hE); clear hE HE2
      go_wp2_with fail
      refine (put_any k v hk hv b A n c w4 (HB.out.ext HE4.out)).mono ?_
      rintro e w3 ⟨A1, n1, c1, rfl, hG, hE⟩
      have HE3 := Lib.hid (HE4.out.trans hE); have HG := Lib.hid hG; clear hE HE4 hG
      go_wp2_with fail
      refine bodyPost_ret (v := .tuple #[.slice A1 n1 c1, .int .i64 0]) (by simp [results, Try.results19, go_sem]) rfl ?_
      exact ⟨A1, n1, c1, rfl, HG.out, HE3.out⟩

theorem Delete_any {k : ByteArray} {b : BT} {A : Option Addr} {n c : Nat} {w : World} (hb : BAt w b A n) (hs : b.size ≤ 1000) (h0 : chkV b = 0) :
    Calls Try.prog 36 #[.slice A n c, .string k] w (Res (if findV k b = none then .leaf else woV k b) (if findV k b = none then 7 else 0) w) := by
  have HB := Lib.hid hb; have H0 := Lib.hid h0; clear hb h0
  cases hf : findV k b with
  | none =>
    have HF := Lib.hid hf; clear hf
    go_enter Try.func36, Try.ntmps36
    go_wp2_with fail
    refine (checkB HB.out hs H0.out).mono ?_
    rintro e w1 ⟨rfl, hE⟩
    have HE := Lib.hid hE; clear hE
    go_wp2_with fail
    refine (find_any b A n c k w1 (HB.out.ext HE.out)).mono ?_
    rintro e w2 ⟨rfl, hE⟩
    rw [HF.out]
    have HE2 := Lib.hid (HE.out.trans hE); clear hE HE
    go_wp2_with fail
    refine bodyPost_ret (v := .tuple #[.slice none 0 0, .int .i64 7]) (by simp [results, Try.results36, go_sem]) rfl ?_
    exact ⟨none, 0, 0, rfl, MapAt.nil _ _, HE2.out⟩
  | some u =>
    have HF := Lib.hid hf; clear hf
    go_enter Try.func36, Try.ntmps36
    go_wp2_with fail
    refine (checkB HB.out hs H0.out).mono ?_
    rintro e w1 ⟨rfl, hE⟩
    have HE := Lib.hid hE; clear hE
    go_wp2_with fail
    refine (find_any b A n c k w1 (HB.out.ext HE.out)).mono ?_
    rintro e w2 ⟨rfl, hE⟩
    rw [HF.out]
    have HE2 := Lib.hid (HE.out.trans hE); clear hE HE
    go_wp2_with fail
    refine (without_any k b A n c w2 (HB.out.ext HE2.out)).mono ?_
    rintro e w3 ⟨A1, n1, c1, rfl, hG, hE⟩
    have HE3 := Lib.hid (HE2.out.trans hE); have HG := Lib.hid hG; clear hE HE2 hG
    go_wp2_with fail
    refine bodyPost_ret (v := .tuple #[.slice A1 n1 c1, .int .i64 0]) (by simp [results, Try.results36, go_sem]) rfl ?_
    exact ⟨A1, n1, c1, rfl, HG.out, HE3.out⟩

theorem Split_any {k : ByteArray} {b : BT} {A : Option Addr} {n c : Nat} {w : World} (hb : BAt w b A n) (hs : b.size ≤ 1000) (h0 : chkV b = 0) :
    Calls Try.prog 34 #[.slice A n c, .string k] w (Got2 (splitV k b) w) := by
  have HB := Lib.hid hb; have H0 := Lib.hid h0; clear hb h0
  go_enter Try.func34, Try.ntmps34
  go_wp2_with fail
  refine (checkB HB.out hs H0.out).mono ?_
  rintro e w1 ⟨rfl, hE⟩
  have HE := Lib.hid hE; clear hE
  go_wp2_with fail
  refine (split_any k b A n c w1 (HB.out.ext HE.out)).mono ?_
  rintro e w2 ⟨A1, n1, c1, A2, n2, c2, rfl, h1, h2, hE⟩
  have HE2 := Lib.hid (HE.out.trans hE); have HG := Lib.hid h1; have HG2 := Lib.hid h2; clear hE HE h1 h2
  go_wp2_with fail
  refine bodyPost_ret (v := .tuple #[.slice A1 n1 c1, .slice A2 n2 c2]) (by simp [results, Try.results34, go_sem]) rfl ?_
  exact ⟨A1, n1, c1, A2, n2, c2, rfl, HG.out, HG2.out, HE2.out⟩
end Go.Proofs.Ytbjniaihkllmdaa

/- A connection with one string: arq's NewSender, Check, element. No condition. -/
import Derived.Test.YtmmcjcaccicheaaTfCol
namespace Go.Proofs.Ytmmcjcaccicheaa
open Go.RowKit
abbrev snd (b n : Int) (d s : Value) : Array Value := #[.int .i64 b, .int .i64 n, d, s]
set_option maxHeartbeats 4000000 in
theorem newsender_is (w : World) : Calls Try.prog 17 #[.int .i64 1] w fun e w' => e = .returned (.tuple #[.agg (snd 0 1 zsg zsg), .int .i64 0]) ∧ Ext w w' := by
  go_enter Try.func17, Try.ntmps17
  go_wp2_with fail
  refine ret_cell2 (A := ⟨w.heap.size, 0, none⟩) (v := .agg (snd 0 1 zsg zsg)) rfl rfl ?_ rfl rfl ⟨rfl, (Ext.refl w).alloc _⟩
  go_simp
theorem within_is (n : Int) (h0 : 0 ≤ n) (h1 : n ≤ 1000) (w : World) : Calls Try.prog 34 #[.int .i64 n] w fun e w' => e = .returned (.bool true) ∧ w' = w := by
  have h2 : n ≤ 1099511627776 := by omega
  go_enter Try.func34, Try.ntmps34
  go_wp2
  go_ret
  exact ⟨rfl, rfl⟩
set_option maxHeartbeats 4000000 in
theorem idle_is (w : World) : Calls Try.prog 20 #[.agg #[.int .i64 0, zsg, zsg]] w fun e w' => e = .returned (.bool true) ∧ Ext w w' := by
  go_enter Try.func20, Try.ntmps20
  go_wp2
  go_ret
  exact ⟨rfl, (Ext.refl w).alloc _⟩
set_option maxHeartbeats 4000000 in
theorem element_is (gd cd gs cs : Nat) (x : Bs) (hx : x.length ≤ 1000) (w : World) (hd : w.cell? ⟨gd, 0, none⟩ = some (sv x)) (hs : w.cell? ⟨gs, 0, none⟩ = some (.int .i64 (-1))) :
    Calls Try.prog 47 #[.agg (snd 0 1 (.slice (some ⟨gd, 0, none⟩) 1 cd) (.slice (some ⟨gs, 0, none⟩) 1 cs)), .int .i64 0] w fun e w' => e = .returned (.int .i64 0) ∧ Ext w w' := by
  have e1 := (Ext.refl w).alloc (.cells (snd 0 1 (.slice (some ⟨gd, 0, none⟩) 1 cd) (.slice (some ⟨gs, 0, none⟩) 1 cs)) 45)
  have hd := e1.cell hd; have hs := e1.cell hs
  unfold sv at hd
  have hx1 : (x.length : Int) ≤ 1000 := by omega
  have hx2 : ¬ (65472 : Int) < x.length := by omega
  have E1 := Lib.hid e1; clear e1
  go_enter Try.func47, Try.ntmps47
  go_wp2
  go_ret
  exact ⟨rfl, E1.out⟩
set_option maxHeartbeats 4000000 in
theorem acheck0_is (w : World) : Calls Try.prog 31 #[.agg (snd 0 1 zsg zsg)] w fun e w' => e = .returned (.int .i64 0) ∧ Ext w w' := by
  go_enter Try.func31, Try.ntmps31
  go_wp2_with fail
  refine (within_is 0 (by omega) (by omega) _).mono ?_
  rintro e w2 ⟨rfl, hw2⟩
  have e1 : Ext w w2 := by rw [hw2]; exact (Ext.refl w).alloc _
  have b1 : Blk w2 w.heap.size (.cells (snd 0 1 zsg zsg) 45 (0, 0)) := by rw [hw2]; exact Blk.new _ _ rfl
  have c0 := b1.cell 0; have c1 := b1.cell 1; have c2 := b1.cell 2; have c3 := b1.cell 3
  have E1 := Lib.hid e1; have B1 := Lib.hid b1
  clear hw2 e1 b1
  go_wp2_with fail
  clear c0 c1 c2 c3
  go_loopw [36] (fun v36 wq => v36 = .int .i64 0 ∧ wq = w2) (fun _ _ => 0)
  case atStart => exact ⟨rfl, rfl⟩
  case round =>
    obtain ⟨rfl, rfl⟩ := hrel
    have c0 := B1.out.cell 0; have c2 := B1.out.cell 2
    go_wp2_with fail
    go_ret
    exact ⟨rfl, E1.out⟩
set_option maxHeartbeats 4000000 in
theorem acheck1_is (gd cd gs cs : Nat) (x : Bs) (hx : x.length ≤ 1000) (w : World) (hd : w.cell? ⟨gd, 0, none⟩ = some (sv x)) (hs : w.cell? ⟨gs, 0, none⟩ = some (.int .i64 (-1))) :
    Calls Try.prog 31 #[.agg (snd 0 1 (.slice (some ⟨gd, 0, none⟩) 1 cd) (.slice (some ⟨gs, 0, none⟩) 1 cs))] w fun e w' => e = .returned (.int .i64 0) ∧ Ext w w' := by
  go_enter Try.func31, Try.ntmps31
  go_wp2_with fail
  refine (within_is 0 (by omega) (by omega) _).mono ?_
  rintro e w2 ⟨rfl, hw2⟩
  have e1 : Ext w w2 := by rw [hw2]; exact (Ext.refl w).alloc _
  have b1 : Blk w2 w.heap.size (.cells (snd 0 1 (.slice (some ⟨gd, 0, none⟩) 1 cd) (.slice (some ⟨gs, 0, none⟩) 1 cs)) 45 (0, 0)) := by rw [hw2]; exact Blk.new _ _ rfl
  have c0 := b1.cell 0; have c1 := b1.cell 1; have c2 := b1.cell 2; have c3 := b1.cell 3
  have E1 := Lib.hid e1; have B1 := Lib.hid b1
  clear hw2 e1 b1
  go_wp2_with fail
  clear c0 c1 c2 c3
  go_loopw [36] (fun v36 wq => Ext w2 wq ∧ (v36 = .int .i64 0 ∨ v36 = .int .i64 1)) (fun v36 _ => 1 - (intOf v36).toNat)
  case atStart => exact ⟨Ext.refl _, .inl rfl⟩
  case round =>
    obtain ⟨he, rfl | rfl⟩ := hrel
    · have c0 := (B1.out.ext he).cell 0; have c1 := (B1.out.ext he).cell 1; have c2 := (B1.out.ext he).cell 2; have c3 := (B1.out.ext he).cell 3
      have HE := Lib.hid he; clear he
      go_wp2_with fail
      refine (element_is gd cd gs cs x hx _ ((E1.out.trans HE.out).cell hd) ((E1.out.trans HE.out).cell hs)).mono ?_
      rintro e w4 ⟨rfl, hE4⟩
      have H4 := Lib.hid (HE.out.trans hE4)
      clear c0 c1 c2 c3 hE4
      go_wp2_with fail
      go_roundw
      case rel => exact ⟨H4.out, .inr rfl⟩
      case measure => simp [intOf]
    · have c0 := (B1.out.ext he).cell 0; have c2 := (B1.out.ext he).cell 2
      have HE := Lib.hid he; clear he
      go_wp2_with fail
      go_ret
      exact ⟨rfl, E1.out.trans HE.out⟩
end Go.Proofs.Ytmmcjcaccicheaa

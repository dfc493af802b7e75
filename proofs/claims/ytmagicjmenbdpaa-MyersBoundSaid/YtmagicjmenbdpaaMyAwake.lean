/- The example of the chapter: awake returns true. -/
import Derived.Test.YtmagicjmenbdpaaMyGreat
import Derived.Test.YtmagicjmenbdpaaMyDiff
import Derived.Test.YtmagicjmenbdpaaMyCert
import Derived.Test.YtmagicjmenbdpaaMyRefCheck
namespace Go.Proofs.Ytmagicjmenbdpaa
open Go.RowKit

abbrev sX : ByteArray := ⟨#[120]⟩
abbrev sA : ByteArray := ⟨#[97]⟩
abbrev sY : ByteArray := ⟨#[121]⟩
theorem aw_small : ∀ s ∈ [sX, sA, sY], s.size ≤ Reach := by
  intro s hs
  simp only [List.mem_cons, List.not_mem_nil, or_false] at hs
  rcases hs with rfl | rfl | rfl <;> decide
theorem aw_small' : ∀ s ∈ [sY, sA, sX], s.size ≤ Reach := by
  intro s hs
  simp only [List.mem_cons, List.not_mem_nil, or_false] at hs
  rcases hs with rfl | rfl | rfl <;> decide
theorem aw_last : LastT [sX, sA, sY] [sY, sA, sX] 4 := by
  refine ⟨by decide +kernel, ?_⟩
  intro d hd
  match d with
  | 0 => decide +kernel
  | 1 => decide +kernel
  | 2 => decide +kernel
  | 3 => decide +kernel
theorem aw_diff : diffV [sX, sA, sY] [sY, sA, sX] 4 = [⟨2, 0, 1⟩] := by decide +kernel
theorem aw_check : checkV [sX, sA, sY] [sY, sA, sX] (-1) (-1) [⟨2, 0, 1⟩] = 0 := by decide +kernel
theorem aw_tabs : tabsV [sX, sA, sY] [sY, sA, sX] 4 = [[0], [0, 1], [1, 2, 3], [1, 2, 3, 4]] := by decide +kernel

theorem Mts.of_blk {w : World} {g : Nat} {t : TypeId} {ms : List Mt} (h : Blk w g (.cells (ms.flatMap Mt.cells).toArray t (0, 0))) (hs : ∀ m ∈ ms, m.wf) : Mts w (some ⟨g, 0, none⟩) ms.length ms := by
  refine ⟨rfl, hs, .inr ⟨g, 0, rfl, fun j u hu => ?_⟩⟩
  rw [h.cell]; simpa using hu
theorem RTBs.of_blk {w : World} {g : Nat} {t : TypeId} {L : List TB} (h : Blk w g (.cells (L.map fun s => Value.slice s.a s.n s.c).toArray t (0, 0))) (hr : ∀ s ∈ L, RTB w s) : RTBs w (some ⟨g, 0, none⟩) L.length L := by
  refine ⟨rfl, hr, .inr ⟨g, 0, rfl, fun j u hu => ?_⟩⟩
  rw [h.cell]; simpa using hu
theorem RTB.of_blk {w : World} {g n : Nat} {t : TypeId} {xs : List Int} (h : Blk w g (.cells (xs.map (Value.int .i64)).toArray t (0, 0))) (hn : xs.length = n) (hr : n ≤ Reach) : RTB w ⟨some ⟨g, 0, none⟩, n, n, xs⟩ := by
  refine ⟨hr, hn, .inr ⟨g, 0, rfl, fun j u hu => ?_⟩⟩
  rw [h.cell]; simpa using hu

abbrev awL (g : Nat) : List TB := [⟨some ⟨g, 0, none⟩, 1, 1, [0]⟩, ⟨some ⟨g + 1, 0, none⟩, 2, 2, [0, 1]⟩, ⟨some ⟨g + 1 + 1, 0, none⟩, 3, 3, [1, 2, 3]⟩, ⟨some ⟨g + 1 + 1 + 1, 0, none⟩, 4, 4, [1, 2, 3, 4]⟩]
theorem awL_tabs (w : World) {o : Obj} : ∀ s ∈ awL w.heap.size, RTB (((((w.alloc (.cells #[.int .i64 0] 3)).alloc (.cells #[.int .i64 0, .int .i64 1] 3)).alloc (.cells #[.int .i64 1, .int .i64 2, .int .i64 3] 3)).alloc (.cells #[.int .i64 1, .int .i64 2, .int .i64 3, .int .i64 4] 3)).alloc o) s := by
  have b0 := ((((Blk.new w (.cells #[.int .i64 0] 3) rfl).alloc (.cells #[.int .i64 0, .int .i64 1] 3)).alloc (.cells #[.int .i64 1, .int .i64 2, .int .i64 3] 3)).alloc (.cells #[.int .i64 1, .int .i64 2, .int .i64 3, .int .i64 4] 3)).alloc o
  have b1 := (((Blk.new (w.alloc (.cells #[.int .i64 0] 3)) (.cells #[.int .i64 0, .int .i64 1] 3) (g := w.heap.size + 1) (by simp)).alloc (.cells #[.int .i64 1, .int .i64 2, .int .i64 3] 3)).alloc (.cells #[.int .i64 1, .int .i64 2, .int .i64 3, .int .i64 4] 3)).alloc o
  have b2 := ((Blk.new ((w.alloc (.cells #[.int .i64 0] 3)).alloc (.cells #[.int .i64 0, .int .i64 1] 3)) (.cells #[.int .i64 1, .int .i64 2, .int .i64 3] 3) (g := w.heap.size + 1 + 1) (by simp)).alloc (.cells #[.int .i64 1, .int .i64 2, .int .i64 3, .int .i64 4] 3)).alloc o
  have b3 := (Blk.new (((w.alloc (.cells #[.int .i64 0] 3)).alloc (.cells #[.int .i64 0, .int .i64 1] 3)).alloc (.cells #[.int .i64 1, .int .i64 2, .int .i64 3] 3)) (.cells #[.int .i64 1, .int .i64 2, .int .i64 3, .int .i64 4] 3) (g := w.heap.size + 1 + 1 + 1) (by simp)).alloc o
  intro s hs
  simp only [awL, List.mem_cons, List.not_mem_nil, or_false] at hs
  rcases hs with rfl | rfl | rfl | rfl
  · exact RTB.of_blk (xs := [0]) b0 rfl (by decide)
  · exact RTB.of_blk (xs := [0, 1]) b1 rfl (by decide)
  · exact RTB.of_blk (xs := [1, 2, 3]) b2 rfl (by decide)
  · exact RTB.of_blk (xs := [1, 2, 3, 4]) b3 rfl (by decide)

theorem sameM_is {A B : Option Addr} {n m c d : Nat} {xs ys : List Mt} {r : Bool} {w : World} (h : decide (xs = ys) = r) (ha : Mts w A n xs) (hb : Mts w B m ys) (hn : n ≤ Reach) (hm : m ≤ Reach) :
    Calls Try.prog 16 #[.slice A n c, .slice B m d] w fun e w' => e = .returned (.bool r) ∧ Ext w w' := by
  subst h; exact sameM_any A B n m c d xs ys w ha hb hn hm
theorem sameT_is {A B : Option Addr} {n m c d : Nat} {xs ys : List TB} {r : Bool} {w : World} (h : decide (xs.map (·.t) = ys.map (·.t)) = r) (ha : RTBs w A n xs) (hb : RTBs w B m ys) (hn : n ≤ Reach) (hm : m ≤ Reach) :
    Calls Try.prog 21 #[.slice A n c, .slice B m d] w fun e w' => e = .returned (.bool r) ∧ Ext w w' := by
  subst h; exact sameT_any A B n m c d xs ys w ha hb hn hm
theorem check_is {A B C : Option Addr} {n c m d ln lc : Nat} {a b : Lns} {ms : List Mt} {r : Int} {w : World} (h : checkV a b (-1) (-1) ms = r) (ha : Strs w A n a) (hb : Strs w B m b) (hl : Mts w C ln ms) (hn : n ≤ 1000) (hm : m ≤ 1000) (hln : ln ≤ 1000) (hnc : n ≤ c) (hmd : m ≤ d) :
    Calls Try.prog 14 #[.slice A n c, .slice B m d, .slice C ln lc] w fun e w' => e = .returned (.int .i64 r) ∧ Ext w w' := by
  subst h; exact check_any A B C n c m d ln lc a b ms w ha hb hl hn hm hln hnc hmd

theorem refCheck_is {A B C : Option Addr} {n c m d ln lc : Nat} {a b : Lns} {ms : List Mt} {r : Int} {w : World} (h : checkV a b (-1) (-1) ms = r) (ha : Strs w A n a) (hb : Strs w B m b) (hl : Mts w C ln ms) (hn : n ≤ 1000) (hm : m ≤ 1000) (hln : ln ≤ 1000) :
    Calls Try.prog 15 #[.slice A n c, .slice B m d, .slice C ln lc] w fun e w' => e = .returned (.int .i64 r) ∧ Ext w w' := by
  subst h; exact refCheck_any A B C n c m d ln lc a b ms w ha hb hl hn hm hln

set_option maxRecDepth 100000 in
set_option maxHeartbeats 8000000 in
theorem awake_any (w : World) : Calls Try.prog 13 #[] w fun e w' => e = .returned (.bool true) ∧ Ext w w' := by
  have K0 := Lib.hid (((Know.start w).new (.cells #[.string sX, .string sA, .string sY] 9) (g := w.heap.size) rfl).new (.cells #[.string sY, .string sA, .string sX] 9) (g := w.heap.size + 1) (by simp))
  have hsa : ∀ wx : World, Know w [(w.heap.size + 1, .cells #[.string sY, .string sA, .string sX] 9), (w.heap.size, .cells #[.string sX, .string sA, .string sY] 9)] wx → Strs wx (some ⟨w.heap.size, 0, none⟩) 3 [sX, sA, sY] := fun _ h => Strs.of_blk (ss := [sX, sA, sY]) (h.at 1 rfl) rfl aw_small
  have hsb : ∀ wx : World, Know w [(w.heap.size + 1, .cells #[.string sY, .string sA, .string sX] 9), (w.heap.size, .cells #[.string sX, .string sA, .string sY] 9)] wx → Strs wx (some ⟨w.heap.size + 1, 0, none⟩) 3 [sY, sA, sX] := fun _ h => Strs.of_blk (ss := [sY, sA, sX]) (h.at 0 rfl) rfl aw_small'
  have SA := Lib.hid hsa; have SB := Lib.hid hsb; clear hsa hsb
  go_enter Try.func13, Try.ntmps13
  go_wp2_with fail
  refine (diff_any (some ⟨w.heap.size, 0, none⟩) (some ⟨w.heap.size + 1, 0, none⟩) 3 3 3 3 _ _ _ (SA.out _ K0.out) (SB.out _ K0.out) (by omega) (by omega) 4 (by omega) aw_last).mono ?_
  rintro e w1 ⟨v, N, rfl, ho, hwf, hE⟩
  rw [aw_diff] at ho hwf
  obtain ⟨A, c, rfl, hNc, hM⟩ := ownM_mts ho hwf
  obtain rfl : N = 1 := hM.1.symm
  have K1 := Lib.hid (K0.out.ext hE); have M1 := Lib.hid hM; have WF := Lib.hid hwf; clear hE hM ho hwf
  go_wp2_with fail
  refine (distance_any (some ⟨w.heap.size, 0, none⟩) (some ⟨w.heap.size + 1, 0, none⟩) 3 3 3 3 _ _ _ (SA.out _ K1.out) (SB.out _ K1.out) (by omega) (by omega) 4 (by omega) aw_last).mono ?_
  rintro e w2 ⟨rfl, hE⟩
  have K2 := Lib.hid (K1.out.ext hE); have M2 := Lib.hid (M1.out.ext hE); clear hE
  go_wp2_with fail
  refine (sameM_is (r := true) (xs := [⟨2, 0, 1⟩]) (ys := [⟨2, 0, 1⟩]) (by simp) (M2.out.ext ((Ext.refl _).alloc _)) (Mts.of_blk (ms := [⟨2, 0, 1⟩]) (Blk.new w2 _ rfl) WF.out) (by decide) (by decide)).mono ?_
  rintro e w3 ⟨rfl, hE⟩
  have K3 := Lib.hid (K2.out.ext (((Ext.refl w2).alloc _).trans hE)); have M3 := Lib.hid (M2.out.ext (((Ext.refl w2).alloc _).trans hE)); clear hE
  go_wp2_with fail
  refine (check_is aw_check (SA.out _ K3.out) (SB.out _ K3.out) M3.out (by omega) (by omega) (by omega) (by omega) (by omega)).mono ?_
  rintro e w4 ⟨rfl, hE⟩
  have K4 := Lib.hid (K3.out.ext hE); clear hE
  go_wp2_with fail
  refine (certificate_any (some ⟨w.heap.size, 0, none⟩) (some ⟨w.heap.size + 1, 0, none⟩) 3 3 3 3 _ _ _ (SA.out _ K4.out) (SB.out _ K4.out) (by omega) (by omega) 4 (by omega) aw_last).mono ?_
  rintro e w5 ⟨g, cc, L, rfl, hL, hLt, hE⟩
  rw [aw_tabs] at hLt
  have K5 := Lib.hid (K4.out.ext hE); have HL := Lib.hid hL; have HLT := Lib.hid hLt; clear hE hL hLt
  go_wp2_with fail
  refine (sameT_is (r := true) (by rw [HLT.out]; exact decide_eq_true rfl) (HL.out.ext (((((((Ext.refl w5).alloc _).alloc _).alloc _).alloc _).alloc _))) (RTBs.of_blk (L := awL w5.heap.size) (Blk.new _ _ (by simp)) (awL_tabs w5)) (by decide) (by show 4 ≤ Reach; decide)).mono ?_
  rintro e w6 ⟨rfl, hE⟩
  have K6 := Lib.hid (K5.out.ext ((((((((Ext.refl w5).alloc _).alloc _).alloc _).alloc _).alloc _)).trans hE)); clear hE
  go_wp2_with fail
  go_ret
  exact ⟨rfl, K6.out.1⟩
end Go.Proofs.Ytmagicjmenbdpaa

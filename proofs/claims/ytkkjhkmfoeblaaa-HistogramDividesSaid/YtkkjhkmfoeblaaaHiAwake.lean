/- The example of the chapter: awake returns true. -/
import Derived.Test.YtkkjhkmfoeblaaaMyGreat
import Derived.Test.YtkkjhkmfoeblaaaHiDif
import Derived.Test.YtkkjhkmfoeblaaaMyRefCheck
import Derived.Test.YtkkjhkmfoeblaaaMyCheck
import Derived.Test.YtkkjhkmfoeblaaaMem
namespace Go.Proofs.Ytkkjhkmfoeblaaa
open Go.RowKit

abbrev sO : ByteArray := ⟨#[123]⟩
abbrev sX : ByteArray := ⟨#[120]⟩
abbrev sC : ByteArray := ⟨#[125]⟩
abbrev sY : ByteArray := ⟨#[121]⟩
abbrev sA : ByteArray := ⟨#[97]⟩
abbrev sB : ByteArray := ⟨#[98]⟩
abbrev awP : Lns := [sO, sX, sC, sO, sY, sC]
abbrev awQ : Lns := [sO, sY, sC, sO, sX, sC]
theorem aw_sz {l : Lns} (h : l.all (fun s => decide (s.size ≤ 1)) = true) : ∀ s ∈ l, s.size ≤ Reach := fun s hs => by
  have := List.all_eq_true.1 h s hs
  have h2 : s.size ≤ 1 := by simpa using this
  unfold Reach; omega
theorem aw_best : bestV awP awQ = (⟨0, 3, 3⟩, 1) := by decide +kernel
theorem aw_diff : hdiffV 2 [sA] [sB, sA] = [⟨0, 1, 1⟩] := by decide +kernel

theorem Mts.of_blk {w : World} {g : Nat} {t : TypeId} {ms : List Mt} (h : Blk w g (.cells (ms.flatMap Mt.cells).toArray t (0, 0))) (hs : ∀ m ∈ ms, m.wf) : Mts w (some ⟨g, 0, none⟩) ms.length ms := by
  refine ⟨rfl, hs, .inr ⟨g, 0, rfl, fun j u hu => ?_⟩⟩
  rw [h.cell]; simpa using hu
theorem sameM_is {A B : Option Addr} {n m c d : Nat} {xs ys : List Mt} {r : Bool} {w : World} (h : decide (xs = ys) = r) (ha : Mts w A n xs) (hb : Mts w B m ys) (hn : n ≤ Reach) (hm : m ≤ Reach) :
    Calls Try.prog 14 #[.slice A n c, .slice B m d] w fun e w' => e = .returned (.bool r) ∧ Ext w w' := by
  subst h; exact sameM_any A B n m c d xs ys w ha hb hn hm
theorem check_is {A B C : Option Addr} {n c m d ln lc : Nat} {a b : Lns} {ms : List Mt} {r : Int} {w : World} (h : checkV a b (-1) (-1) ms = r) (ha : Strs w A n a) (hb : Strs w B m b) (hl : Mts w C ln ms) (hn : n ≤ 1000) (hm : m ≤ 1000) (hln : ln ≤ 1000) (hnc : n ≤ c) (hmd : m ≤ d) :
    Calls Try.prog 22 #[.slice A n c, .slice B m d, .slice C ln lc] w fun e w' => e = .returned (.int .i64 r) ∧ Ext w w' := by
  subst h; exact check_any A B C n c m d ln lc a b ms w ha hb hl hn hm hln hnc hmd
theorem refCheck_is {A B C : Option Addr} {n c m d ln lc : Nat} {a b : Lns} {ms : List Mt} {r : Int} {w : World} (h : checkV a b (-1) (-1) ms = r) (ha : Strs w A n a) (hb : Strs w B m b) (hl : Mts w C ln ms) (hn : n ≤ 1000) (hm : m ≤ 1000) (hln : ln ≤ 1000) :
    Calls Try.prog 18 #[.slice A n c, .slice B m d, .slice C ln lc] w fun e w' => e = .returned (.int .i64 r) ∧ Ext w w' := by
  subst h; exact refCheck_any A B C n c m d ln lc a b ms w ha hb hl hn hm hln
/-- Diff with its answer as matches in memory. -/
theorem hdiff_is (A B : Option Addr) (n c m d : Nat) (a b : Lns) (w : World) (ha : Strs w A n a) (hb : Strs w B m b) (hn : n ≤ 60) (hm : m ≤ 60) (hnc : n ≤ c) (hmd : m ≤ d) :
    Calls Try.prog 15 #[.slice A n c, .slice B m d] w fun e w' => ∃ C N k, e = .returned (.slice C N k) ∧ N ≤ k ∧ N ≤ n ∧ Mts w' C N (hdiffV (a.length + 1) a b) ∧ Ext w w' := by
  refine (hdiff_any (a.length + 1) A B n c m d a b w (by omega) ha hb hn hm hnc hmd).mono ?_
  rintro e w' ⟨v, rfl, ho, hE⟩
  have hla := ha.1
  have hok := hdiff_ok (a.length + 1) a b (by omega) (by omega)
  have hsz := check_sizes _ _ _ hok (by simp)
  have hlb := hb.1
  obtain ⟨C, k, rfl, hk, hM⟩ := ownM_mts ho (fun m hm => by have := hsz.2 m hm; exact mt_wf_small (by omega) (by omega) (by omega))
  exact ⟨C, _, k, rfl, hk, by have := hdiff_len (f := a.length + 1) (a := a) (b := b) (by omega) (by omega); omega, hM, hE⟩
theorem rhdiff_is (A B : Option Addr) (n c m d : Nat) (a b : Lns) (w : World) (ha : Strs w A n a) (hb : Strs w B m b) (hn : n ≤ 60) (hm : m ≤ 60) (hnc : n ≤ c) (hmd : m ≤ d) :
    Calls Try.prog 16 #[.slice A n c, .slice B m d] w fun e w' => ∃ C N k, e = .returned (.slice C N k) ∧ N ≤ k ∧ N ≤ n ∧ Mts w' C N (hdiffV (a.length + 1) a b) ∧ Ext w w' := by
  refine (rhdiff_any (a.length + 1) A B n c m d a b w (by omega) ha hb hn hm hnc hmd).mono ?_
  rintro e w' ⟨v, rfl, ho, hE⟩
  have hla := ha.1
  have hok := hdiff_ok (a.length + 1) a b (by omega) (by omega)
  have hsz := check_sizes _ _ _ hok (by simp)
  have hlb := hb.1
  obtain ⟨C, k, rfl, hk, hM⟩ := ownM_mts ho (fun m hm => by have := hsz.2 m hm; exact mt_wf_small (by omega) (by omega) (by omega))
  exact ⟨C, _, k, rfl, hk, by have := hdiff_len (f := a.length + 1) (a := a) (b := b) (by omega) (by omega); omega, hM, hE⟩

set_option maxRecDepth 100000 in
set_option maxHeartbeats 8000000 in
theorem awake_any (w : World) : Calls Try.prog 11 #[] w fun e w' => e = .returned (.bool true) ∧ Ext w w' := by
  have hsp : Strs ((w.alloc (.cells (awP.map Value.string).toArray 9)).alloc (.cells (awQ.map Value.string).toArray 9)) (some ⟨w.heap.size, 0, none⟩) 6 awP := Strs.of_blk (ss := awP) ((Blk.new w _ rfl).alloc _) rfl (aw_sz rfl)
  have hsq : Strs ((w.alloc (.cells (awP.map Value.string).toArray 9)).alloc (.cells (awQ.map Value.string).toArray 9)) (some ⟨w.heap.size + 1, 0, none⟩) 6 awQ := Strs.of_blk (ss := awQ) (Blk.new (w.alloc _) _ (by simp)) rfl (aw_sz rfl)
  have SP := Lib.hid hsp; have SQ := Lib.hid hsq; clear hsp hsq
  go_enter Try.func11, Try.ntmps11
  go_wp2_with fail
  refine (best_any (some ⟨w.heap.size, 0, none⟩) (some ⟨w.heap.size + 1, 0, none⟩) 6 6 6 6 _ _ _ SP.out SQ.out (by omega) (by omega) (by omega)).mono ?_
  rintro e w1 ⟨rfl, hE⟩
  rw [aw_best, bestR, Mt.val]
  have HE := Lib.hid ((((Ext.refl w).alloc _).alloc _).trans hE); clear hE SP SQ
  go_wp2_with fail
  have hs1 : Strs (((w1.alloc (Mt.obj ⟨0, 3, 3⟩)).alloc (.cells ([sA].map Value.string).toArray 9)).alloc (.cells ([sB, sA].map Value.string).toArray 9)) (some ⟨w1.heap.size + 1, 0, none⟩) 1 [sA] := Strs.of_blk (ss := [sA]) ((Blk.new (w1.alloc _) _ (by simp)).alloc _) rfl (aw_sz rfl)
  have hs2 : Strs (((w1.alloc (Mt.obj ⟨0, 3, 3⟩)).alloc (.cells ([sA].map Value.string).toArray 9)).alloc (.cells ([sB, sA].map Value.string).toArray 9)) (some ⟨w1.heap.size + 1 + 1, 0, none⟩) 2 [sB, sA] := Strs.of_blk (ss := [sB, sA]) (Blk.new ((w1.alloc _).alloc _) _ (by simp)) rfl (aw_sz rfl)
  refine (hdiff_is (some ⟨w1.heap.size + 1, 0, none⟩) (some ⟨w1.heap.size + 1 + 1, 0, none⟩) 1 1 2 2 _ _ _ hs1 hs2 (by omega) (by omega) (by omega) (by omega)).mono ?_
  rintro e w2 ⟨C, N, k, rfl, hNk, hN, hM, hE⟩
  replace hM : Mts w2 C N [⟨0, 1, 1⟩] := by rw [← aw_diff]; exact hM
  obtain rfl : N = 1 := hM.1.symm
  have hb : Blk w2 w1.heap.size (Mt.obj ⟨0, 3, 3⟩) := (((Blk.new w1 _ rfl).alloc _).alloc _).ext hE
  have HE2 := Lib.hid (HE.out.trans ((((Ext.refl w1).alloc _).alloc _).alloc _ |>.trans hE)); have HM := Lib.hid hM; clear hE hM hs1 hs2 HE
  obtain ⟨c0, c1, c2⟩ := hb.cells3
  clear hb
  go_wp2_with fail
  refine (sameM_is (r := true) (xs := [⟨0, 1, 1⟩]) (ys := [⟨0, 1, 1⟩]) (by simp) (HM.out.ext ((Ext.refl _).alloc _)) (Mts.of_blk (ms := [⟨0, 1, 1⟩]) (Blk.new w2 _ rfl) HM.out.2.1) (by decide) (by decide)).mono ?_
  rintro e w3 ⟨rfl, hE⟩
  have HE3 := Lib.hid (HE2.out.trans (((Ext.refl w2).alloc _).trans hE)); clear hE
  go_wp2_with fail
  go_ret
  exact ⟨rfl, HE3.out⟩
end Go.Proofs.Ytkkjhkmfoeblaaa

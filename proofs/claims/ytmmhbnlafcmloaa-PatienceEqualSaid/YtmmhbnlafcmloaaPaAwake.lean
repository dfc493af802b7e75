/- Contracts: Great, great; the example of the chapter: awake returns true. -/
import Derived.Test.YtmmhbnlafcmloaaPaMidA
import Derived.Test.YtmmhbnlafcmloaaMem
namespace Go.Proofs.Ytmmhbnlafcmloaa
open Go.RowKit

def totS (l : Lns) : Nat := l.foldl (fun n s => n + s.size) 0
theorem totS_snoc (l : Lns) (s : ByteArray) : totS (l ++ [s]) = totS l + s.size := by simp [totS]
/-- Is a list of lines larger than the statements use? -/
def great04 (l : Lns) : Bool := decide (40 < l.length) || decide (3000 < totS l)
theorem great04_len {l : Lns} (h : great04 l = false) : l.length ≤ 40 := by
  unfold great04 at h; simp at h; omega

set_option maxHeartbeats 4000000 in
theorem great04_any (A : Option Addr) (n c : Nat) (l : Lns) (w : World) (ha : Strs w A n l) (hn : n ≤ Reach) :
    Calls Try.prog 22 #[.slice A n c] w fun e w' => e = .returned (.bool (great04 l)) ∧ Ext w w' := by
  obtain rfl : l.length = n := ha.1
  have HA := Lib.hid ha; clear ha
  unfold Reach at hn
  go_enter Try.func22, Try.ntmps22
  go_wp2_with fail
  go_loopw [3, 4] (fun v3 v4 wr => ∃ (k : Nat) (x : Int), k ≤ l.length ∧ v3 = .int .i64 x ∧ v4 = .int .i64 k ∧ (k ≤ 40 → x = totS (l.take k) ∧ x ≤ k * 140737488355328) ∧ Ext w wr) (fun _ v4 _ => l.length - (intOf v4).toNat)
  case atStart => exact ⟨0, 0, Nat.zero_le _, rfl, rfl, fun _ => ⟨rfl, by omega⟩, Ext.refl _⟩
  case round =>
    obtain ⟨k, x, hk, rfl, rfl, hx, hE⟩ := hrel
    have HX := Lib.hid hx; have HE := Lib.hid hE; clear hx hE
    by_cases hlt : k < l.length
    case pos =>
      obtain ⟨ba, oa, s, hA, hba, hs, hs2, hc1⟩ := (HA.out.ext HE.out).get hlt
      subst hA
      have hts : totS (l.take (k + 1)) = totS (l.take k) + s.size := by rw [take_succ_of hs, totS_snoc]
      have HT := Lib.hid hts; clear hts hs
      unfold Reach at hs2
      go_wp2_with fail
      go_roundw
      case rel =>
        refine ⟨k + 1, _, by omega, rfl, by go_num, fun h40 => ?_, HE.out⟩
        obtain ⟨h1, h2⟩ := HX.out (by omega)
        have h3 : 0 ≤ x := by omega
        have e : wrap64 (x + s.size) = x + s.size := w64_in (by omega) (by omega)
        rw [e, HT.out]; constructor <;> (push_cast; omega)
      case measure => simp [intOf]; omega
    case neg =>
      obtain rfl : k = l.length := by omega
      by_cases h40 : 40 < l.length
      · go_wp2_with fail
        go_ret
        exact ⟨ret_bool (by rw [great04]; simp [h40]), HE.out⟩
      · obtain ⟨h1, _⟩ := HX.out (by omega)
        rw [List.take_length] at h1
        subst h1
        have hg : decide ((3000 : Int) < (totS l : Nat)) = great04 l := by
          rw [great04, Bool.eq_iff_iff]; simp; omega
        have HG := Lib.hid hg; clear hg
        go_wp2_with fail
        go_ret
        exact ⟨ret_bool (by rw [← HG.out]; first | rfl | (rw [Bool.eq_iff_iff]; simp; omega)), HE.out⟩

set_option maxHeartbeats 4000000 in
theorem great_any (A B : Option Addr) (n c m d : Nat) (a b : Lns) (w : World) (ha : Strs w A n a) (hb : Strs w B m b) (hn : n ≤ Reach) (hm : m ≤ Reach) :
    Calls Try.prog 11 #[.slice A n c, .slice B m d] w fun e w' => e = .returned (.bool (great04 a || great04 b)) ∧ Ext w w' := by
  have HA := Lib.hid ha; have HB := Lib.hid hb; clear ha hb
  go_enter Try.func11, Try.ntmps11
  go_wp2_with fail
  refine (great04_any A n c a _ HA.out hn).mono ?_
  rintro e w1 ⟨rfl, hE⟩
  have HE := Lib.hid hE; clear hE
  cases hga : great04 a with
  | true =>
    go_wp2_with fail
    go_ret
    exact ⟨ret_bool (by simp [hga]), HE.out⟩
  | false =>
    go_wp2_with fail
    refine (great04_any B m d b _ (HB.out.ext HE.out) hm).mono ?_
    rintro e w2 ⟨rfl, hE⟩
    have HE2 := Lib.hid (HE.out.trans hE); clear hE
    go_wp2_with fail
    go_ret
    exact ⟨ret_bool (by simp [hga]), HE2.out⟩

abbrev sA : ByteArray := ⟨#[97]⟩
abbrev sB : ByteArray := ⟨#[98]⟩
abbrev sC : ByteArray := ⟨#[99]⟩
abbrev sD : ByteArray := ⟨#[100]⟩
abbrev awP : Lns := [sA, sB, sC, sD]
abbrev awQ : Lns := [sC, sA, sB, sD]
theorem aw_sz {l : Lns} (h : l.all (fun s => decide (s.size ≤ 1)) = true) : ∀ s ∈ l, s.size ≤ Reach := fun s hs => by
  have := List.all_eq_true.1 h s hs
  have h2 : s.size ≤ 1 := by simpa using this
  unfold Reach; omega
theorem aw_uniq : (uniqV awP awQ).length = 4 := by decide +kernel
theorem aw_diff : pdV 5 awP awQ = [⟨0, 1, 2⟩, ⟨3, 3, 1⟩] := by decide +kernel
theorem Mts.of_blk {w : World} {g : Nat} {t : TypeId} {ms : List Mt} (h : Blk w g (.cells (ms.flatMap Mt.cells).toArray t (0, 0))) (hs : ∀ m ∈ ms, m.wf) : Mts w (some ⟨g, 0, none⟩) ms.length ms := by
  refine ⟨rfl, hs, .inr ⟨g, 0, rfl, fun j u hu => ?_⟩⟩
  rw [h.cell]; simpa using hu
theorem sameM_is {A B : Option Addr} {n m c d : Nat} {xs ys : List Mt} {r : Bool} {w : World} (h : decide (xs = ys) = r) (ha : Mts w A n xs) (hb : Mts w B m ys) (hn : n ≤ Reach) (hm : m ≤ Reach) :
    Calls Try.prog 12 #[.slice A n c, .slice B m d] w fun e w' => e = .returned (.bool r) ∧ Ext w w' := by
  subst h; exact sameM_any A B n m c d xs ys w ha hb hn hm
/-- Unique and Diff with their answers as matches in memory. -/
theorem unique_is (A B : Option Addr) (n c m d : Nat) (a b : Lns) (w : World) (ha : Strs w A n a) (hb : Strs w B m b) (hn : n ≤ 125) (hm : m ≤ 125) :
    Calls Try.prog 13 #[.slice A n c, .slice B m d] w fun e w' => ∃ C k, e = .returned (.slice C (uniqV a b).length k) ∧ Mts w' C (uniqV a b).length (uniqV a b) ∧ Ext w w' := by
  refine (unique_any A B n c m d a b w ha hb (by omega) (by omega)).mono ?_
  rintro e w' ⟨v, rfl, ho, hE⟩
  have hla := ha.1; have hlb := hb.1
  obtain ⟨C, k, rfl, _, hM⟩ := ownM_mts ho ((uniq_bnd a b 500 (by omega) (by omega) _ (Nat.le_refl _)).wf (by omega))
  exact ⟨C, k, rfl, hM, hE⟩
theorem pdiff_is (A B : Option Addr) (n c m d : Nat) (a b : Lns) (w : World) (ha : Strs w A n a) (hb : Strs w B m b) (hn : n ≤ 125) (hm : m ≤ 125) (hnc : n ≤ c) (hmd : m ≤ d) :
    Calls Try.prog 18 #[.slice A n c, .slice B m d] w fun e w' => ∃ C k, e = .returned (.slice C (pdV (a.length + 1) a b).length k) ∧ Mts w' C (pdV (a.length + 1) a b).length (pdV (a.length + 1) a b) ∧ Ext w w' := by
  refine (pdiff_any A B n c m d a b w ha hb hn hm hnc hmd).mono ?_
  rintro e w' ⟨v, rfl, ho, hB, hE⟩
  obtain ⟨C, k, rfl, _, hM⟩ := ownM_mts ho (hB.wf (by omega))
  exact ⟨C, k, rfl, hM, hE⟩

set_option maxRecDepth 100000 in
set_option maxHeartbeats 8000000 in
theorem awake_any (w : World) : Calls Try.prog 15 #[] w fun e w' => e = .returned (.bool true) ∧ Ext w w' := by
  have hsp : Strs ((w.alloc (.cells (awP.map Value.string).toArray 9)).alloc (.cells (awQ.map Value.string).toArray 9)) (some ⟨w.heap.size, 0, none⟩) 4 awP := Strs.of_blk (ss := awP) ((Blk.new w _ rfl).alloc _) rfl (aw_sz rfl)
  have hsq : Strs ((w.alloc (.cells (awP.map Value.string).toArray 9)).alloc (.cells (awQ.map Value.string).toArray 9)) (some ⟨w.heap.size + 1, 0, none⟩) 4 awQ := Strs.of_blk (ss := awQ) (Blk.new (w.alloc _) _ (by simp)) rfl (aw_sz rfl)
  have SP := Lib.hid hsp; have SQ := Lib.hid hsq; clear hsp hsq
  go_enter Try.func15, Try.ntmps15
  go_wp2_with fail
  refine (unique_is (some ⟨w.heap.size, 0, none⟩) (some ⟨w.heap.size + 1, 0, none⟩) 4 4 4 4 _ _ _ SP.out SQ.out (by omega) (by omega)).mono ?_
  rintro e w1 ⟨C, k, rfl, hM, hE⟩
  rw [aw_uniq]
  have HE := Lib.hid ((((Ext.refl w).alloc _).alloc _).trans hE); have SP1 := Lib.hid (SP.out.ext hE); have SQ1 := Lib.hid (SQ.out.ext hE); clear hE SP SQ hM
  go_wp2_with fail
  refine (pdiff_is (some ⟨w.heap.size, 0, none⟩) (some ⟨w.heap.size + 1, 0, none⟩) 4 4 4 4 _ _ _ SP1.out SQ1.out (by omega) (by omega) (by omega) (by omega)).mono ?_
  rintro e w2 ⟨C2, k2, rfl, hM, hE⟩
  have hd : pdV (awP.length + 1) awP awQ = [⟨0, 1, 2⟩, ⟨3, 3, 1⟩] := aw_diff
  rw [hd] at hM ⊢
  have HM := Lib.hid hM
  have HE2 := Lib.hid (HE.out.trans hE); clear hE hM hd
  go_wp2_with fail
  refine (sameM_is (r := true) (xs := [⟨0, 1, 2⟩, ⟨3, 3, 1⟩]) (ys := [⟨0, 1, 2⟩, ⟨3, 3, 1⟩]) (by simp) (HM.out.ext ((Ext.refl _).alloc _)) (Mts.of_blk (ms := [⟨0, 1, 2⟩, ⟨3, 3, 1⟩]) (Blk.new w2 _ rfl) HM.out.2.1) (by decide) (by decide)).mono ?_
  rintro e w3 ⟨rfl, hE⟩
  have HE3 := Lib.hid (HE2.out.trans (((Ext.refl w2).alloc _).trans hE)); clear hE
  go_wp2_with fail
  go_ret
  exact ⟨rfl, HE3.out⟩
end Go.Proofs.Ytmmhbnlafcmloaa

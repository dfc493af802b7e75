/- HistogramSelf: the walk. -/
import Derived.Test.YtkkjhkmfoeblaaaHiWalk
namespace Go.Proofs.Ytkkjhkmfoeblaaa
open Go.RowKit

set_option maxRecDepth 100000 in
set_option maxHeartbeats 8000000 in
theorem self_walk {A : Option Addr} {n c : Nat} {a : Lns} (w : World) (ha : Strs w A n a) (hac : n ≤ c) (han : n ≤ Reach) :
    Calls Try.prog 5 #[.slice A n c] w (Good w) := by
  obtain rfl : a.length = n := ha.1
  have HA := Lib.hid ha; clear ha
  have HG := Lib.hid (rss1 (c := c) HA.out han)
  by_cases hg : ([(⟨A, a.length, c, a⟩ : SS)].any fun s => great03 s.l) = true
  · have HGR := Lib.hid hg; clear hg
    go_enter Try.func5, Try.ntmps5
    go_wp2_with fail
    refine (great_new (L := [(⟨A, a.length, c, a⟩ : SS)]) rfl HGR.out HG.out (by simp)).mono ?_
    rintro e w1 ⟨rfl, hE⟩
    have HE := Lib.hid hE; clear hE
    go_wp2_with fail
    refine (awake_any _).mono ?_
    rintro e w9 ⟨rfl, hE⟩
    have HE9 := Lib.hid (HE.out.trans hE); clear hE
    go_wp2_with fail
    go_ret
    exact ⟨rfl, HE9.out⟩
  have hg' : ([(⟨A, a.length, c, a⟩ : SS)].any fun s => great03 s.l) = false := by simpa using hg
  have h1 : a.length ≤ 12 := great03_len (by simp at hg'; exact hg')
  have HGR := Lib.hid hg'; clear hg hg'
  by_cases h0 : a = []
  · subst h0
    go_enter Try.func5, Try.ntmps5
    go_wp2_with fail
    refine (great_new (L := [(⟨A, 0, c, []⟩ : SS)]) rfl HGR.out HG.out (by simp)).mono ?_
    rintro e w1 ⟨rfl, hE⟩
    have HE := Lib.hid hE; clear hE
    go_wp2_with fail
    refine (hdiff_is A A 0 c 0 c [] [] _ (HA.out.ext HE.out) (HA.out.ext HE.out) (by omega) (by omega) hac hac).mono ?_
    rintro e w2 ⟨C1, N1, k1, rfl, hN1, hNa, hM, hE⟩
    have HE2 := Lib.hid (HE.out.trans hE); have HM := Lib.hid hM; clear hE hM
    obtain rfl : N1 = 0 := by simpa using hNa
    go_wp2_with fail
    refine (awake_any _).mono ?_
    rintro e w9 ⟨rfl, hE⟩
    have HE9 := Lib.hid (HE2.out.trans hE); clear hE
    go_wp2_with fail
    go_ret
    exact ⟨rfl, HE9.out⟩
  have hpos : 0 < a.length := List.length_pos_iff.2 h0
  have e0 : ((a.length : Int) == 0) = false := by simp; omega
  have hself := hdiff_self h0 (by omega : a.length ≤ 64) a.length
  have HS := Lib.hid hself; clear hself h0
  go_enter Try.func5, Try.ntmps5
  go_wp2_with fail
  refine (great_new (L := [(⟨A, a.length, c, a⟩ : SS)]) rfl HGR.out HG.out (by simp)).mono ?_
  rintro e w1 ⟨rfl, hE⟩
  have HE := Lib.hid hE; clear hE
  go_wp2_with fail
  refine (hdiff_is A A a.length c a.length c a a _ (HA.out.ext HE.out) (HA.out.ext HE.out) (by omega) (by omega) hac hac).mono ?_
  rintro e w2 ⟨C1, N1, k1, rfl, hN1, hNa, hM, hE⟩
  have HE2 := Lib.hid (HE.out.trans hE); have HM := Lib.hid hM; clear hE hM
  rw [HS.out] at HM
  have hNe : N1 = 1 := HM.out.1.symm
  subst hNe
  go_wp2_with fail
  refine (sameM_is (r := true) (xs := [⟨0, 0, a.length⟩]) (ys := [⟨0, 0, a.length⟩]) (by simp) (HM.out.ext ((Ext.refl _).alloc _)) (Mts.of_blk (ms := [⟨0, 0, a.length⟩]) (Blk.new w2 _ rfl) HM.out.2.1) (by decide) (by simp [Reach])).mono ?_
  rintro e w3 ⟨rfl, hE⟩
  have HE3 := Lib.hid (HE2.out.trans (((Ext.refl w2).alloc _).trans hE)); clear hE
  go_wp2_with fail
  refine (awake_any _).mono ?_
  rintro e w9 ⟨rfl, hE⟩
  have HE9 := Lib.hid (HE3.out.trans hE); clear hE
  go_wp2_with fail
  go_ret
  exact ⟨rfl, HE9.out⟩
end Go.Proofs.Ytkkjhkmfoeblaaa

/- MyersCommon: the walk. -/
import Derived.Test.YtmagicjmenbdpaaMyWalks
import Derived.Test.YtmagicjmenbdpaaConcatS
namespace Go.Proofs.Ytmagicjmenbdpaa
open Go.RowKit

theorem strs_app {w : World} {A B : Option Addr} {n m : Nat} {a b : Lns} (ha : Strs w A n a) (hb : Strs w B m b) : ∀ s ∈ a ++ b, s.size ≤ Reach := fun s hs => (List.mem_append.1 hs).elim (ha.2.1 s) (hb.2.1 s)

set_option maxRecDepth 100000 in
set_option maxHeartbeats 8000000 in
theorem common_walk {A : Option Addr} {n c : Nat} {a : Lns} {B : Option Addr} {m d : Nat} {b : Lns} {C : Option Addr} {k q : Nat} {x : Lns}  (w : World) (ha : Strs w A n a) (hac : n ≤ c) (han : n ≤ Reach) (hb : Strs w B m b) (hbc : m ≤ d) (hbn : m ≤ Reach) (hc : Strs w C k x) (hcc : k ≤ q) (hcn : k ≤ Reach)  :
    Calls Try.prog 8 #[.slice A n c, .slice B m d, .slice C k q] w (Good w) := by
  have HA := Lib.hid ha; have HB := Lib.hid hb; have HC := Lib.hid hc; clear ha hb hc 
  have HG := Lib.hid (rss3 (c := c) (d := d) (q := q) HA.out han HB.out hbn HC.out hcn)
  by_cases hg : ([(⟨A, n, c, a⟩ : SS), ⟨B, m, d, b⟩, ⟨C, k, q, x⟩].any fun s => great03 s.l) = true
  · have HGR := Lib.hid hg; clear hg
    go_enter Try.func8, Try.ntmps8
    go_wp2_with fail
    refine (great_new (L := [(⟨A, n, c, a⟩ : SS), ⟨B, m, d, b⟩, ⟨C, k, q, x⟩]) rfl HGR.out HG.out (by simp)).mono ?_
    rintro e w1 ⟨rfl, hE⟩
    have HE := Lib.hid hE; clear hE
    go_wp2_with fail
    refine (awake_any _).mono ?_
    rintro e w9 ⟨rfl, hE⟩
    have HE9 := Lib.hid (HE.out.trans hE); clear hE
    go_wp2_with fail
    go_ret
    exact ⟨rfl, HE9.out⟩
  have hg' : ([(⟨A, n, c, a⟩ : SS), ⟨B, m, d, b⟩, ⟨C, k, q, x⟩].any fun s => great03 s.l) = false := by simpa using hg
  have h1 : n ≤ 12 := by rw [← HA.out.1]; exact great03_len (by simp at hg'; exact hg'.1)
  have h2 : m ≤ 12 := by rw [← HB.out.1]; exact great03_len (by simp at hg'; exact hg'.2.1)
  have h3 : k ≤ 12 := by rw [← HC.out.1]; exact great03_len (by simp at hg'; exact hg'.2.2)
  have HGR := Lib.hid hg'; clear hg hg'
  have hla := HA.out.1; have hlb := HB.out.1; have hlc := HC.out.1
  have HLA := Lib.hid hla; have HLB := Lib.hid hlb; have HLC := Lib.hid hlc
  clear hla hlb hlc
  go_enter Try.func8, Try.ntmps8
  go_wp2_with fail
  refine (great_new (L := [(⟨A, n, c, a⟩ : SS), ⟨B, m, d, b⟩, ⟨C, k, q, x⟩]) rfl HGR.out HG.out (by simp)).mono ?_
  rintro e w1 ⟨rfl, hE⟩
  have HE := Lib.hid hE; clear hE
  go_wp2_with fail
  refine (distance_any A B n c m d a b _ (HA.out.ext HE.out) (HB.out.ext HE.out) (by omega) (by omega) (dist a b) (by have := dist_le a b; have := HA.out.1; have := HB.out.1; omega) (last_dist a b)).mono ?_
  rintro e w2 ⟨rfl, hE⟩
  have HE2 := Lib.hid (HE.out.trans hE); clear hE
  go_wp2_with fail
  refine (concat_two (hs := x) (gs := a) C A k q n c _ _ (Blk.new _ _ rfl) (HC.out.ext (HE2.out.alloc _)) (HA.out.ext (HE2.out.alloc _)) (by omega) (by omega)).mono ?_
  rintro e w3 ⟨hE, v, rfl, ho⟩
  obtain ⟨A1, c1, rfl, hc1, hs1⟩ := own_strs ho (strs_app HC.out HA.out)
  have S1 := Lib.hid hs1; have HE3 := Lib.hid ((HE2.out.alloc _).trans hE); have E1 := Lib.hid (((Ext.refl _).alloc _).trans hE)
  clear hE ho hs1
  go_wp2_with fail
  refine (concat_two (hs := x) (gs := b) C B k q m d _ _ (Blk.new _ _ rfl) (HC.out.ext (HE3.out.alloc _)) (HB.out.ext (HE3.out.alloc _)) (by omega) (by omega)).mono ?_
  rintro e w4 ⟨hE, v, rfl, ho⟩
  obtain ⟨A2, c2, rfl, hc2, hs2⟩ := own_strs ho (strs_app HC.out HB.out)
  have S2 := Lib.hid hs2; have HE4 := Lib.hid ((HE3.out.alloc _).trans hE); have E2 := Lib.hid (((Ext.refl _).alloc _).trans hE)
  clear hE ho hs2
  go_wp2_with fail
  refine (distance_any A1 A2 (k + n) c1 (k + m) c2 (x ++ a) (x ++ b) _ (S1.out.ext E2.out) S2.out (by omega) (by omega) _ (by have := dist_le (x ++ a) (x ++ b); have := S1.out.1; have := S2.out.1; omega) (last_dist (x ++ a) (x ++ b))).mono ?_
  rintro e w5 ⟨rfl, hE⟩
  have HE5 := Lib.hid (HE4.out.trans hE); clear hE
  rw [dist_before a b x]
  have e1 : ((dist a b : Int) == dist a b) = true := by simp
  go_wp2_with fail
  refine (concat_two (hs := a) (gs := x) A C n c k q _ _ (Blk.new _ _ rfl) (HA.out.ext (HE5.out.alloc _)) (HC.out.ext (HE5.out.alloc _)) (by omega) (by omega)).mono ?_
  rintro e w6 ⟨hE, v, rfl, ho⟩
  obtain ⟨A3, c3, rfl, hc3, hs3⟩ := own_strs ho (strs_app HA.out HC.out)
  have S3 := Lib.hid hs3; have HE6 := Lib.hid ((HE5.out.alloc _).trans hE); have E3 := Lib.hid (((Ext.refl _).alloc _).trans hE)
  clear hE ho hs3
  go_wp2_with fail
  refine (concat_two (hs := b) (gs := x) B C m d k q _ _ (Blk.new _ _ rfl) (HB.out.ext (HE6.out.alloc _)) (HC.out.ext (HE6.out.alloc _)) (by omega) (by omega)).mono ?_
  rintro e w7 ⟨hE, v, rfl, ho⟩
  obtain ⟨A4, c4, rfl, hc4, hs4⟩ := own_strs ho (strs_app HB.out HC.out)
  have S4 := Lib.hid hs4; have HE7 := Lib.hid ((HE6.out.alloc _).trans hE); have E4 := Lib.hid (((Ext.refl _).alloc _).trans hE)
  clear hE ho hs4
  go_wp2_with fail
  refine (distance_any A3 A4 (n + k) c3 (m + k) c4 (a ++ x) (b ++ x) _ (S3.out.ext E4.out) S4.out (by omega) (by omega) _ (by have := dist_le (a ++ x) (b ++ x); have := S3.out.1; have := S4.out.1; omega) (last_dist (a ++ x) (b ++ x))).mono ?_
  rintro e w8 ⟨rfl, hE⟩
  have HE8 := Lib.hid (HE7.out.trans hE); clear hE
  rw [dist_behind x a b]
  go_wp2_with fail
  refine (awake_any _).mono ?_
  rintro e w9 ⟨rfl, hE⟩
  have HE9 := Lib.hid (HE8.out.trans hE); clear hE
  go_wp2_with fail
  go_ret
  exact ⟨rfl, HE9.out⟩

end Go.Proofs.Ytmagicjmenbdpaa

/- MyersCheck: the walk. -/
import Derived.Test.YtmagicjmenbdpaaMyAwake
namespace Go.Proofs.Ytmagicjmenbdpaa
open Go.RowKit

theorem great03_len {l : Lns} (h : great03 l = false) : l.length ≤ 12 := by
  unfold great03 at h
  simp at h
  omega
/-- 'great(a, b)' in the world that has just laid the slice. -/
theorem great_new {w : World} {L : List SS} {t : TypeId} {r : Bool} {k : Nat} (hk : L.length = k) (hr : (L.any fun s => great03 s.l) = r) (hL : ∀ s ∈ L, RSS w s) (hn : L.length ≤ 1000) :
    Calls Try.prog 12 #[.slice (some ⟨w.heap.size, 0, none⟩) k k] (w.alloc (.cells (L.map fun s => Value.slice s.a s.n s.c).toArray t)) fun e w' => e = .returned (.bool r) ∧ Ext w w' := by
  subst hk hr
  refine (great_any _ _ _ L _ (RSSs.of_blk (Blk.new w _ rfl) (by unfold Reach; omega) (fun s hs => (hL s hs).ext ((Ext.refl w).alloc _)))).mono ?_
  rintro e w' ⟨h1, h2⟩
  exact ⟨h1, ((Ext.refl w).alloc _).trans h2⟩
theorem rss2 {w : World} {A B : Option Addr} {n c m d : Nat} {a b : Lns} (ha : Strs w A n a) (hn : n ≤ Reach) (hb : Strs w B m b) (hm : m ≤ Reach) : ∀ s ∈ [(⟨A, n, c, a⟩ : SS), ⟨B, m, d, b⟩], RSS w s := by
  intro s hs
  simp only [List.mem_cons, List.not_mem_nil, or_false] at hs
  rcases hs with rfl | rfl
  · exact ⟨hn, ha⟩
  · exact ⟨hm, hb⟩
/-- What is asked of a law: it returns true, and nothing old has turned. -/
def Good (w : World) (e : Ending) (w' : World) : Prop := e = .returned (.bool true) ∧ Ext w w'

set_option maxHeartbeats 4000000 in
theorem check_walk {A : Option Addr} {n c : Nat} {a : Lns} {B : Option Addr} {m d : Nat} {b : Lns} {C : Option Addr} {ln lc : Nat} {l : List Mt} (w : World)
    (ha : Strs w A n a) (hac : n ≤ c) (han : n ≤ Reach) (hb : Strs w B m b) (hbc : m ≤ d) (hbn : m ≤ Reach) (hln : ln ≤ Reach) (hl : Mts w C ln l) :
    Calls Try.prog 3 #[.slice A n c, .slice B m d, .slice C ln lc] w (Good w) := by
  have HA := Lib.hid ha; have HB := Lib.hid hb; have HL := Lib.hid hl; clear ha hb hl
  have HG := Lib.hid (rss2 (c := c) (d := d) HA.out han HB.out hbn)
  unfold Reach at hln
  by_cases hg : ([(⟨A, n, c, a⟩ : SS), ⟨B, m, d, b⟩].any fun s => great03 s.l) = true
  · have HGR := Lib.hid hg; clear hg
    go_enter Try.func3, Try.ntmps3
    go_wp2_with fail
    refine (great_new (L := [⟨A, n, c, a⟩, ⟨B, m, d, b⟩]) rfl HGR.out HG.out (by simp)).mono ?_
    rintro e w1 ⟨rfl, hE⟩
    have HE := Lib.hid hE; clear hE
    go_wp2_with fail
    refine (awake_any _).mono ?_
    rintro e w2 ⟨rfl, hE⟩
    have HE2 := Lib.hid (HE.out.trans hE); clear hE
    go_wp2_with fail
    go_ret
    exact ⟨rfl, HE2.out⟩
  have hg' : ([(⟨A, n, c, a⟩ : SS), ⟨B, m, d, b⟩].any fun s => great03 s.l) = false := by simpa using hg
  have h1 : n ≤ 12 := by rw [← HA.out.1]; exact great03_len (by simp at hg'; exact hg'.1)
  have h2 : m ≤ 12 := by rw [← HB.out.1]; exact great03_len (by simp at hg'; exact hg'.2)
  have HGR := Lib.hid hg'; clear hg hg'
  by_cases h10 : 10 < ln
  · go_enter Try.func3, Try.ntmps3
    go_wp2_with fail
    refine (great_new (L := [⟨A, n, c, a⟩, ⟨B, m, d, b⟩]) rfl HGR.out HG.out (by simp)).mono ?_
    rintro e w1 ⟨rfl, hE⟩
    have HE := Lib.hid hE; clear hE
    go_wp2_with fail
    refine (awake_any _).mono ?_
    rintro e w2 ⟨rfl, hE⟩
    have HE2 := Lib.hid (HE.out.trans hE); clear hE
    go_wp2_with fail
    go_ret
    exact ⟨rfl, HE2.out⟩
  · go_enter Try.func3, Try.ntmps3
    go_wp2_with fail
    refine (great_new (L := [⟨A, n, c, a⟩, ⟨B, m, d, b⟩]) rfl HGR.out HG.out (by simp)).mono ?_
    rintro e w1 ⟨rfl, hE⟩
    have HE := Lib.hid hE; clear hE
    go_wp2_with fail
    refine (check_any A B C n c m d ln lc a b l _ (HA.out.ext HE.out) (HB.out.ext HE.out) (HL.out.ext HE.out) (by omega) (by omega) (by omega) hac hbc).mono ?_
    rintro e w2 ⟨rfl, hE⟩
    have HE2 := Lib.hid (HE.out.trans hE); clear hE
    go_wp2_with fail
    refine (refCheck_any A B C n c m d ln lc a b l _ (HA.out.ext HE2.out) (HB.out.ext HE2.out) (HL.out.ext HE2.out) (by omega) (by omega) (by omega)).mono ?_
    rintro e w3 ⟨rfl, hE⟩
    have HE3 := Lib.hid (HE2.out.trans hE); clear hE
    go_wp2_with fail
    refine (awake_any _).mono ?_
    rintro e w4 ⟨rfl, hE⟩
    have HE4 := Lib.hid (HE3.out.trans hE); clear hE
    go_wp2_with fail
    go_ret
    exact ⟨rfl, HE4.out⟩
end Go.Proofs.Ytmagicjmenbdpaa

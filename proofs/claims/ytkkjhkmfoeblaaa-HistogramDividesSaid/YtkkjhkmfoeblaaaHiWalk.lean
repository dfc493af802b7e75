/- What the walks of the Histogram statements share; Contains. -/
import Derived.Test.YtkkjhkmfoeblaaaHiAwake
import Derived.Test.YtkkjhkmfoeblaaaHiPlain
namespace Go.Proofs.Ytkkjhkmfoeblaaa
open Go.RowKit

theorem great03_len {l : Lns} (h : great03 l = false) : l.length ≤ 12 := by
  unfold great03 at h
  simp at h
  omega
/-- 'great(a, b)' in the world that has just laid the slice. -/
theorem great_new {w : World} {L : List SS} {t : TypeId} {r : Bool} {k : Nat} (hk : L.length = k) (hr : (L.any fun s => great03 s.l) = r) (hL : ∀ s ∈ L, RSS w s) (hn : L.length ≤ 1000) :
    Calls Try.prog 10 #[.slice (some ⟨w.heap.size, 0, none⟩) k k] (w.alloc (.cells (L.map fun s => Value.slice s.a s.n s.c).toArray t)) fun e w' => e = .returned (.bool r) ∧ Ext w w' := by
  subst hk hr
  refine (great_any _ _ _ L _ (RSSs.of_blk (Blk.new w _ rfl) (by unfold Reach; omega) (fun s hs => (hL s hs).ext ((Ext.refl w).alloc _)))).mono ?_
  rintro e w' ⟨h1, h2⟩
  exact ⟨h1, ((Ext.refl w).alloc _).trans h2⟩
theorem rss1 {w : World} {A : Option Addr} {n c : Nat} {a : Lns} (ha : Strs w A n a) (hn : n ≤ Reach) : ∀ s ∈ [(⟨A, n, c, a⟩ : SS)], RSS w s := by
  intro s hs
  simp only [List.mem_cons, List.not_mem_nil, or_false] at hs
  subst hs
  exact ⟨hn, ha⟩
theorem rss2 {w : World} {A B : Option Addr} {n c m d : Nat} {a b : Lns} (ha : Strs w A n a) (hn : n ≤ Reach) (hb : Strs w B m b) (hm : m ≤ Reach) : ∀ s ∈ [(⟨A, n, c, a⟩ : SS), ⟨B, m, d, b⟩], RSS w s := by
  intro s hs
  simp only [List.mem_cons, List.not_mem_nil, or_false] at hs
  rcases hs with rfl | rfl
  · exact ⟨hn, ha⟩
  · exact ⟨hm, hb⟩
/-- What is asked of a law: it returns true, and nothing old has turned. -/
def Good (w : World) (e : Ending) (w' : World) : Prop := e = .returned (.bool true) ∧ Ext w w'

set_option maxHeartbeats 4000000 in
theorem index_any (A : Option Addr) (n c : Nat) (b : Lns) (s : ByteArray) (w : World) (ha : Strs w A n b) (hn : n ≤ 1000) :
    Calls Try.prog 37 #[.slice A n c, .string s] w fun e w' => (∃ r : Int, e = .returned (.int .i64 r) ∧ (0 ≤ r ↔ 0 < cnt b s)) ∧ Ext w w' := by
  obtain rfl : b.length = n := ha.1
  have HA := Lib.hid ha; clear ha
  go_enter Try.func37, Try.ntmps37
  go_wp2_with fail
  go_loopw [8] (fun v8 wr => ∃ k : Nat, k ≤ b.length ∧ v8 = .int .i64 k ∧ cnt (b.take k) s = 0 ∧ Ext w wr) (fun v8 _ => b.length - (intOf v8).toNat)
  case atStart => exact ⟨0, Nat.zero_le _, rfl, rfl, Ext.refl _⟩
  case round =>
    obtain ⟨k, hk, rfl, hc, hE⟩ := hrel
    have HE := Lib.hid hE; have HC := Lib.hid hc; clear hE hc
    by_cases hlt : k < b.length
    case neg =>
      go_wp2_with fail
      go_ret
      have hcz : cnt b s = 0 := by rw [← HC.out, List.take_of_length_le (by omega)]
      exact ⟨⟨-1, rfl, by omega⟩, HE.out⟩
    obtain ⟨ba, oa, t, rfl, hba, ht, ht2, hc1⟩ := (HA.out.ext HE.out).get hlt
    have HT := Lib.hid (cnt_take (s := s) ht); have HM := Lib.hid (List.mem_of_getElem? ht); clear ht
    by_cases hst : s = t
    · subst hst
      go_wp2_with fail
      go_ret
      have := cnt_pos.2 HM.out
      exact ⟨⟨k, rfl, by omega⟩, HE.out⟩
    · have hne := ne_list hst
      have HN := Lib.hid hst; clear hst
      go_wp2_with fail
      go_roundw
      case rel => exact ⟨k + 1, by omega, by go_num, by rw [HT.out, HC.out, if_neg (fun e => HN.out e.symm)], HE.out⟩
      case measure => simp [intOf]; omega

set_option maxHeartbeats 4000000 in
theorem contains_any (A : Option Addr) (n c : Nat) (b : Lns) (s : ByteArray) (w : World) (ha : Strs w A n b) (hn : n ≤ 1000) :
    Calls Try.prog 20 #[.slice A n c, .string s] w fun e w' => e = .returned (.bool (decide (0 < cnt b s))) ∧ Ext w w' := by
  have HA := Lib.hid ha; clear ha
  go_enter Try.func20, Try.ntmps20
  go_wp2_with fail
  refine (index_any A n c b s _ HA.out hn).mono ?_
  rintro e w1 ⟨⟨r, rfl, hr⟩, hE⟩
  have HE := Lib.hid hE; have HR := Lib.hid hr; clear hE hr
  go_wp2_with fail
  go_ret
  exact ⟨ret_bool (by rw [Bool.eq_iff_iff]; simpa using HR.out), HE.out⟩
end Go.Proofs.Ytkkjhkmfoeblaaa

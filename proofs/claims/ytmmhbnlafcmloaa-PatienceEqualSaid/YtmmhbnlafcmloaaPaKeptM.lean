/- Contracts: the reference's Kept; Distance by its number; how large the matches are. -/
import Derived.Test.YtmmhbnlafcmloaaPaAwake
import Derived.Test.YtmmhbnlafcmloaaPaKept
import Derived.Test.YtmmhbnlafcmloaaPaValP
namespace Go.Proofs.Ytmmhbnlafcmloaa
open Go.RowKit

set_option maxHeartbeats 1000000 in
theorem keptM_any (A : Option Addr) (n c : Nat) (ms : List Mt) (w : World) (ha : Mts w A n ms) (hn : n ≤ 1000) (hb : ∀ m ∈ ms, 0 ≤ m.n ∧ m.n ≤ 1000) :
    Calls Try.prog 23 #[.slice A n c] w fun e w' => e = .returned (.int .i64 (keptV ms)) ∧ w = w' := by
  have HA := Lib.hid ha; have HBd := Lib.hid hb; clear ha hb
  go_enter Try.func23, Try.ntmps23
  go_wp2_with fail
  go_loop [3, 4] (fun t i => ∃ k : Nat, k ≤ n ∧ i = .int .i64 k ∧ t = .int .i64 (keptV (ms.take k))) (fun _ i => n - (intOf i).toNat)
  case atStart => exact ⟨0, Nat.zero_le _, rfl, rfl⟩
  case round =>
    obtain ⟨k, hk, rfl, rfl⟩ := hrel
    by_cases hlt : k < n
    · obtain ⟨b, off, m, rfl, hb1, hs, hwf, c1, c2, c3⟩ := HA.out.get hlt
      obtain ⟨b1, b2⟩ := keptV_bound HBd.out k
      obtain ⟨b3, b4⟩ := HBd.out m (List.mem_of_getElem? hs)
      have HS := Lib.hid hs; clear hs hwf
      go_wp2_with fail
      go_round
      case rel => exact ⟨k + 1, by omega, by go_num, by rw [take_succ_of HS.out, keptV_snoc]⟩
      case measure => simp [intOf]; omega
    · have hkn : ms.take k = ms := List.take_of_length_le (by rw [HA.out.1]; omega)
      have HK := Lib.hid hkn; clear hkn
      go_wp2_with fail
      go_ret
      exact ⟨ret_int (by rw [HK.out]), rfl⟩
theorem distance_is (A B : Option Addr) (n c m cd : Nat) (a b : Lns) (w : World) (ha : Strs w A n a) (hb : Strs w B m b) (hn : n ≤ 125) (hm : m ≤ 125) :
    Calls Try.prog 25 #[.slice A n c, .slice B m cd] w fun e w' => e = .returned (.int .i64 (dist a b : Nat)) ∧ Ext w w' := by
  have h1 := ha.1; have h2 := hb.1; have := dist_le a b
  refine (distance_any A B n c m cd a b w ha hb (by omega) (by omega) (dist a b) (by omega) (last_dist a b)).mono ?_
  rintro e w' h
  exact h
theorem pd_sizes (f : Nat) (a b : Lns) : ∀ m ∈ pdV f a b, 0 ≤ m.n ∧ m.n ≤ a.length := check_small _ _ _ (pd_ok f a b)
theorem fold_len' : ∀ (l out : List Mt), (l.foldl keepV out).length ≤ out.length + l.length
  | [], _ => by simp
  | m :: l, out => by
    have := fold_len' l (keepV out m)
    have := keepV_len out m
    simp only [List.foldl_cons, List.length_cons]; omega
theorem pd_len (f : Nat) (a b : Lns) : (pdV f a b).length ≤ 5 * (a.length + b.length) + 2 := by
  have h1 := fold_len' (pcV f a b) []
  have h2 := pc_len f a b
  unfold pdV runsV
  simp only [List.length_nil] at h1; omega
end Go.Proofs.Ytmmhbnlafcmloaa

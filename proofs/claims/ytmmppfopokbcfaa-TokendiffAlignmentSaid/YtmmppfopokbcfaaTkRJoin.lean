/- Contracts: the reference's join, add; Same. -/
import Derived.Test.YtmmppfopokbcfaaTkRefine
import Derived.Test.YtmmppfopokbcfaaTkRWords
namespace Go.Proofs.Ytmmppfopokbcfaa
open Go.RowKit

theorem joinV_snoc (l : Lns) (x : ByteArray) : joinV (l ++ [x]) = joinV l ++ x := by
  apply toList_inj
  rw [ByteArray.toList_eq, ByteArray.toList_eq, ByteArray.data_append, Array.toList_append, joinV, joinV, mkS_data, mkS_data, List.map_append, List.flatten_append]
  simp
set_option maxRecDepth 100000 in
set_option maxHeartbeats 4000000 in
theorem rjoin_any (A : Option Addr) (n c : Nat) (xs : Lns) (w : World) (hS : Strs w A n xs) (hn : n ≤ 1000) (hs : (joinV xs).size ≤ 100000) :
    Calls Try.prog 40 #[.slice A n c] w fun e w' => e = .returned (.string (joinV xs)) ∧ w' = w := by
  have HS := Lib.hid hS; have HL := Lib.hid hS.1; clear hS
  go_enter Try.func40, Try.ntmps40
  go_wp2_with fail
  go_loop [3, 4] (fun v3 v4 => ∃ j : Nat, j ≤ n ∧ v4 = .int .i64 j ∧ v3 = .string (joinV (xs.take j))) (fun _ v4 => n - (intOf v4).toNat)
  case atStart => exact ⟨0, Nat.zero_le _, rfl, rfl⟩
  case round =>
    obtain ⟨j, hj, rfl, rfl⟩ := hrel
    have hsz : (joinV (xs.take j)).size ≤ 100000 := Nat.le_trans (joinV_sub (List.take_sublist _ _)) hs
    by_cases hlt : j < n
    · obtain ⟨b, off, s, rfl, hb, hx, hwf, c0⟩ := HS.out.get hlt
      have hst : joinV (xs.take (j + 1)) = joinV (xs.take j) ++ s := by rw [take_succ_of hx, joinV_snoc]
      have hs2 : (joinV (xs.take (j + 1))).size ≤ 100000 := Nat.le_trans (joinV_sub (List.take_sublist _ _)) hs
      have hsum : (joinV (xs.take j)).size + s.size ≤ 100000 := by rw [← ByteArray.size_append, ← hst]; exact hs2
      have hc1 : ¬ (9223372036854775807 < (joinV (xs.take j)).size + s.size) := by omega
      have HX := Lib.hid hx; have HST := Lib.hid hst; clear hx hst hs2
      go_wp2_with fail
      go_round
      case rel => exact ⟨j + 1, by omega, by go_num, by rw [HST.out]⟩
      case measure => simp [intOf]; omega
    · go_wp2_with fail
      go_ret
      have : xs.take j = xs := List.take_of_length_le (by rw [HL.out]; omega)
      rw [this]
      exact ⟨rfl, rfl⟩
/-- What stands while a list of pieces of one's own grows. -/
def OutN (base : Nat) (w w' : World) : Prop := Below base w w' ∧ Lib.OthersKept 30 none w w'
theorem OutN.refl (base : Nat) (w : World) : OutN base w w := ⟨Below.refl _ _, Lib.OthersKept.refl _ _ _⟩
theorem OutN.trans {base : Nat} {a b c : World} (h : OutN base a b) (k : OutN base b c) : OutN base a c := ⟨Below.trans h.1 k.1, h.2.trans k.2⟩
theorem OutN.drewN {base : Nat} {a b : World} (h : OutN base a b) (n : Nat) : OutN base a (b.drewN n) := by
  refine ⟨Below.trans h.1 (Go.Joins.below_draws _ _ n), fun k o hk hkg hne => ?_⟩
  rw [(Go.Joins.below_draws (k + 1) b n).block k (by omega)]
  exact h.2 k o hk hkg hne
theorem OutN.own {base b0 : Nat} {w w' : World} {e : TypeId} {size n : Nat} {v : Value} {xs : List Value} (h : OutN base w w') (ho : w.ownsRow b0 e size v n xs) (he : e ≠ 30) : w'.ownsRow b0 e size v n xs := by
  refine own_stands ho fun k o hk hw => h.2 k o hw (fun e => by cases e) (fun c fz e2 => ?_)
  obtain ⟨cs, f2, hc⟩ := own_type ho k hk
  rw [hw, e2] at hc
  cases hc
  exact he rfl
theorem outN_ext {w w1 w2 : World} {g : Nat} (h : Ext w w1) (hg : w.heap.size ≤ g) (k : OutN g w1 w2) : Ext w w2 := Below.trans h (Below.mono k.1 hg)
theorem outN_of {base : Nat} {v : Value} {L : List Pc} {w w' : World} (ho : w.ownsRow base 30 2 v L.length (L.flatMap Pc.cells)) (h : Lv (fun k => v.ownBlock = some k) w w') (hbase : base ≤ w.heap.size) : OutN base w w' := by
  refine ⟨⟨h.1.os, h.1.tape, h.1.output, h.1.size, fun k hk => h.2 k (Nat.lt_of_lt_of_le hk hbase) ?_⟩, ?_⟩
  · intro e
    have := (ho.lt k e).1; omega
  · intro k o hk hkg hne
    rw [h.2 k (Array.getElem?_eq_some_iff.1 hk).1 ?_]
    · exact hk
    · intro e
      obtain ⟨cs, fz, hc⟩ := own_type ho k e
      rw [hk] at hc
      exact hne cs fz (Option.some.inj hc)
set_option maxRecDepth 100000 in
set_option maxHeartbeats 4000000 in
theorem radd_any (k : Int) (ws : Lns) (s : ByteArray) (hj : joinV ws = s) (hne : ∀ x ∈ ws, x.size ≠ 0) (v : Value) (base : Nat) (L : List Pc) (w : World) (ho : w.ownsRow base 30 2 v L.length (L.flatMap Pc.cells)) (hL : L.length ≤ 1000) (hbase : base ≤ w.heap.size) :
    Calls Try.prog 39 #[v, .int .i64 k, .string s] w fun e w' => ∃ v', e = .returned v' ∧ w'.ownsRow base 30 2 v' (L ++ pcV k ws).length ((L ++ pcV k ws).flatMap Pc.cells) ∧ OutN base w w' := by
  obtain ⟨inf, i1, i2, i3, i4⟩ := info_of infoPc
  have I1 := Lib.hid i1; have I2 := Lib.hid i2; have I3 := Lib.hid i3; have I4 := Lib.hid i4; clear i1 i2 i3 i4
  by_cases h0 : ws = []
  · have hp : pcV k ws = [] := by rw [pcV, if_pos h0]
    have hs : s.size = 0 := by rw [← hj, h0]; rfl
    have hq := emp_yes hs
    rw [hp, List.append_nil]
    have HO := Lib.hid ho; clear ho hp h0 hj hne hs
    go_enter Try.func39, Try.ntmps39
    go_wp2_with fail
    go_ret
    exact ⟨_, rfl, HO.out, OutN.refl _ _⟩
  · have hp : pcV k ws = [⟨k, s⟩] := by rw [pcV, if_neg h0, hj]
    have hs : s.size ≠ 0 := by rw [← hj]; exact jb_ne h0 hne
    have hq := emp_no hs
    rw [hp]
    have HO := Lib.hid ho; clear ho hp h0 hj hne hs
    go_enter Try.func39, Try.ntmps39
    go_wp2_with (at_builtin; refine wpList_append_size rfl (.tmp 10) (.tmp 14) 25 rfl base 30 inf _ 2 24 underPc I1.out I2.out I3.out I4.out rfl (by decide) _ L.length (L.flatMap Pc.cells) (some ⟨w.heap.size, 0, none⟩) 1 1 (Pc.cells ⟨k, s⟩) rfl (by simp [Act.eval]) rfl (by simp [Pc.cells, Value.oneCell']) (by simp only [maxLen]; omega) (by omega) (own_stab3 ((Ext.refl w).alloc _) HO.out) (Cells.new w _ (Pc.cells ⟨k, s⟩) rfl) (by simp; omega) ?_; intro v2 w2 hown2 hg2)
    have HO2 := Lib.hid hown2; have HG2 := Lib.hid hg2; clear hown2 hg2
    go_wp2_with fail
    go_ret
    refine ⟨v2, rfl, ?_, outN_of HO.out (((Lv.refl _ w).alloc _).grown HG2.out (fun k hk _ => hk)) hbase⟩
    rw [List.length_append, List.flatMap_append]
    simpa using HO2.out
end Go.Proofs.Ytmmppfopokbcfaa

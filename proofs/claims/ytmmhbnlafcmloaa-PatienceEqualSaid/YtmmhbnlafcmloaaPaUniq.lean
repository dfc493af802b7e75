/- Contracts: spots, Unique. -/
import Derived.Test.YtmmhbnlafcmloaaPaMap
import Derived.Test.YtmmhbnlafcmloaaPaKeep
import Derived.Maps.OwnRows
namespace Go.Proofs.Ytmmhbnlafcmloaa
open Go.RowKit Go.WideMaps Go.Maps

theorem field0 (x y : Value) (w : World) : (Instr.field 48 (.agg #[x, y]) 0).run Try.prog w = .ok x w := by rfl
theorem field1 (x y : Value) (w : World) : (Instr.field 48 (.agg #[x, y]) 1).run Try.prog w = .ok y w := by rfl

set_option maxHeartbeats 4000000 in
theorem spots_any (A : Option Addr) (n c : Nat) (l : Lns) (w : World) (ha : Strs w A n l) (hn : n ≤ 1000) :
    Calls Try.prog 27 #[.slice A n c] w fun e w' => e = .returned (.map (some w.heap.size)) ∧ MapP w' w.heap.size n (fun s => ((cnt l s : Int), (whV l s : Int))) ∧ Ext w w' := by
  obtain rfl : l.length = n := ha.1
  have HA := Lib.hid ha; clear ha
  have hmm := @run_makeMap Try.prog
  have hf0 := field0
  go_enter Try.func27, Try.ntmps27
  go_wp2_with fail
  go_loopw [9] (fun v9 wr => ∃ k : Nat, k ≤ l.length ∧ v9 = .int .i64 k ∧ MapP wr w.heap.size k (fun s => ((cnt (l.take k) s : Int), (whP l s k : Int))) ∧ Ext w wr ∧ w.heap.size + 1 ≤ wr.heap.size) (fun v9 _ => l.length - (intOf v9).toNat)
  case atStart => exact ⟨0, Nat.zero_le _, rfl, MapP.new w rfl, (Ext.refl w).alloc _, by simp⟩
  case round =>
    obtain ⟨k, hk, rfl, hm, hE, hsz⟩ := hrel
    have HM := Lib.hid hm; have HE := Lib.hid hE; clear hm hE
    by_cases hlt : k < l.length
    case neg =>
      obtain rfl : k = l.length := by omega
      go_wp2_with fail
      go_ret
      refine ⟨rfl, ?_, HE.out⟩
      have := HM.out
      rw [List.take_of_length_le (Nat.le_refl _)] at this
      exact this
    case pos =>
      obtain ⟨ba, oa, s, hA, hba, hs, hs2, hc1⟩ := (HA.out.ext HE.out).get hlt
      subst hA
      have hrun := HM.out.look (s := s) (by unfold Reach at hs2; unfold maxLen; omega)
      obtain ⟨z, hz⟩ : ∃ z, cnt (l.take k) s = z := ⟨_, rfl⟩
      obtain ⟨y, hy⟩ : ∃ y, whP l s k = y := ⟨_, rfl⟩
      have hz2 : z ≤ k := by have := cnt_le (l.take k) s; rw [List.length_take] at this; omega
      dsimp only at hrun
      rw [hz, hy] at hrun
      have HS := Lib.hid hs; have HZ := Lib.hid hz; have HY := Lib.hid hy; clear hs hz hy
      go_wp2_with (at_mapUpdate; refine wpList_mapP_put _ rfl _ _ _ rfl w.heap.size k _ rfl HM.out (by unfold maxLen; omega) s (z + 1) k rfl (by simp [Act.eval]) (by unfold Reach at hs2; unfold maxLen; omega) ?_; intro w2 hm2 hg2)
      go_roundw
      case rel =>
        refine ⟨k + 1, by omega, by go_num, ?_, Below.grown HE.out hg2 (by omega) (fun j hj => by cases hj; omega), Nat.le_trans hsz hg2.size⟩
        have he : (fun t => if t = s then ((z : Int) + 1, (k : Int)) else (((cnt (l.take k) t : Nat) : Int), ((whP l t k : Nat) : Int))) = fun t => (((cnt (l.take (k + 1)) t : Nat) : Int), ((whP l t (k + 1) : Nat) : Int)) := by
          funext t
          rw [cnt_take HS.out, whP_succ, HS.out]
          by_cases h : t = s
          · subst h; rw [if_pos rfl, if_pos rfl, if_pos rfl, HZ.out]; rfl
          · rw [if_neg h, if_neg (fun e => h e.symm), if_neg (fun e => h (Option.some.inj e).symm)]; rfl
        rw [← he]; exact hm2
      case measure => simp [intOf]; omega

theorem whP_lt (b : Lns) (s : ByteArray) : ∀ n, 0 < n → whP b s n < n
  | 0, h => by omega
  | n + 1, _ => by
    rw [whP_succ]
    split
    · omega
    · rcases Nat.eq_zero_or_pos n with rfl | h0
      · simp [whP]
      · have := whP_lt b s n h0; omega
theorem uniq_bnd (a b : Lns) (L : Nat) (ha : a.length ≤ L) (hb : b.length ≤ L) : ∀ k, k ≤ a.length → Bnd L (uniqP a b k)
  | 0, _ => by intro m hm; simp [uniqP] at hm
  | k + 1, hk => by
    obtain ⟨s, hs⟩ : ∃ s, a[k]? = some s := ⟨a[k], List.getElem?_eq_getElem (by omega)⟩
    rw [uniqP_succ b hs]
    have ih := uniq_bnd a b L ha hb k (by omega)
    by_cases h : cnt a s = 1 ∧ cnt b s = 1
    · rw [if_pos h]
      intro m hm
      rcases List.mem_append.1 hm with hm | hm
      · exact ih m hm
      · simp only [List.mem_singleton] at hm
        subst hm
        have hw : whV b s < b.length := whP_lt b s _ (by have := cnt_le b s; omega)
        dsimp only; omega
    · rw [if_neg h]; exact ih

set_option maxRecDepth 100000 in
set_option maxHeartbeats 8000000 in
theorem unique_any (A B : Option Addr) (n c m d : Nat) (a b : Lns) (w : World) (ha : Strs w A n a) (hb : Strs w B m b) (hn : n ≤ 500) (hm : m ≤ 500) :
    Calls Try.prog 13 #[.slice A n c, .slice B m d] w fun e w' => ∃ v, e = .returned v ∧ w'.ownsRow w.heap.size 32 3 v (uniqV a b).length ((uniqV a b).flatMap Mt.cells) ∧ Ext w w' := by
  obtain rfl : a.length = n := ha.1
  obtain rfl : b.length = m := hb.1
  have HA := Lib.hid ha; have HB := Lib.hid hb; clear ha hb
  obtain ⟨inf, i1, i2, i3, i4⟩ := info_of infoM'
  have I1 := Lib.hid i1; have I2 := Lib.hid i2; have I3 := Lib.hid i3; have I4 := Lib.hid i4; clear i1 i2 i3 i4
  have hf0 := field0
  have hf1 := field1
  go_enter Try.func13, Try.ntmps13
  go_wp2_with fail
  refine (spots_any A a.length c a _ HA.out (by omega)).mono ?_
  rintro e w1 ⟨rfl, hma, hE⟩
  have HMA := Lib.hid hma; have HE := Lib.hid hE; clear hma hE
  go_wp2_with fail
  refine (spots_any B b.length d b _ (HB.out.ext HE.out) (by omega)).mono ?_
  rintro e w2 ⟨rfl, hmb, hE⟩
  have HMA2 := Lib.hid (HMA.out.ext hE); have HMB := Lib.hid hmb; have HE2 := Lib.hid (HE.out.trans hE); clear hmb hE HMA
  have hgb : w1.heap.size < w2.heap.size := by
    obtain ⟨D, ⟨es, clock, hb, _⟩, _⟩ := HMB.out
    exact (Array.getElem?_eq_some_iff.1 hb).1
  have hga : w.heap.size < w2.heap.size := by
    obtain ⟨D, ⟨es, clock, hb, _⟩, _⟩ := HMA2.out
    exact (Array.getElem?_eq_some_iff.1 hb).1
  go_wp2_with fail
  go_loopw [7, 16] (fun v7 v16 wr => ∃ k : Nat, k ≤ a.length ∧ v16 = .int .i64 k ∧ wr.ownsRow w2.heap.size 32 3 v7 (uniqP a b k).length ((uniqP a b k).flatMap Mt.cells) ∧ Ext w2 wr) (fun _ v16 _ => a.length - (intOf v16).toNat)
  case atStart => exact ⟨0, Nat.zero_le _, rfl, World.ownsRow_nil _ _ _ _, Ext.refl _⟩
  case round =>
    obtain ⟨k, hk, rfl, ho, hE⟩ := hrel
    have HO := Lib.hid ho; have HEr := Lib.hid hE; clear ho hE
    by_cases hlt : k < a.length
    case neg =>
      obtain rfl : k = a.length := by omega
      go_wp2_with fail
      go_ret
      exact ⟨_, rfl, own_base HO.out HE2.out.size, HE2.out.trans HEr.out⟩
    case pos =>
      obtain ⟨ba, oa, s, hA, hba, hs, hs2, hc1⟩ := (HA.out.ext (HE2.out.trans HEr.out)).get hlt
      subst hA
      have hrun1 := (HMA2.out.ext HEr.out).look (s := s) (by unfold Reach at hs2; unfold maxLen; omega)
      have hrun2 := (HMB.out.ext HEr.out).look (s := s) (by unfold Reach at hs2; unfold maxLen; omega)
      have hsn := uniqP_succ b hs
      have hlen := uniqP_len a b k
      obtain ⟨z, hz⟩ : ∃ z, cnt a s = z := ⟨_, rfl⟩
      obtain ⟨y, hy⟩ : ∃ y, cnt b s = y := ⟨_, rfl⟩
      obtain ⟨x, hx⟩ : ∃ x, whV b s = x := ⟨_, rfl⟩
      obtain ⟨x', hx'⟩ : ∃ x, whV a s = x := ⟨_, rfl⟩
      dsimp only at hrun1 hrun2
      rw [hz, hx'] at hrun1
      rw [hy, hx] at hrun2
      rw [hz, hy, hx] at hsn
      have HSN := Lib.hid hsn; clear hsn hz hy hx hx' hs
      by_cases hz1 : z = 1
      case neg =>
        have q1 : ((z : Int) == 1) = false := by simp; omega
        have hs3 := HSN.out; rw [if_neg (fun h => hz1 h.1)] at hs3
        have HS3 := Lib.hid hs3; clear hs3 hz1
        go_wp2_with fail
        go_roundw
        case rel => exact ⟨k + 1, by omega, by go_num, by rw [HS3.out]; exact HO.out, HEr.out⟩
        case measure => simp [intOf]; omega
      subst hz1
      by_cases hy1 : y = 1
      case neg =>
        have q1 : ((y : Int) == 1) = false := by simp; omega
        have hs3 := HSN.out; rw [if_neg (fun h => hy1 h.2)] at hs3
        have HS3 := Lib.hid hs3; clear hs3 hy1
        go_wp2_with fail
        go_roundw
        case rel => exact ⟨k + 1, by omega, by go_num, by rw [HS3.out]; exact HO.out, HEr.out⟩
        case measure => simp [intOf]; omega
      subst hy1
      have hs3 := HSN.out; rw [if_pos ⟨rfl, rfl⟩] at hs3
      have HS3 := Lib.hid hs3; clear hs3
      go_wp2_with (at_builtin; refine wpList_append_size2 rfl (.tmp 33) (.tmp 40) 25 rfl w2.heap.size 32 inf _ 3 24 underM' I1.out I2.out I3.out I4.out rfl (by decide) u7 (uniqP a b k).length _ (some ⟨wr.heap.size, 0, none⟩) 1 1 (Mt.cells ⟨k, x, 1⟩) rfl (by simp [Act.eval]) rfl (by simp [Mt.cells, Value.oneCell']) (by simp only [maxLen]; omega) (by omega) (own_stab3 ((Ext.refl wr).alloc _) HO.out) (Cells.new wr _ _ rfl) (by have := HEr.out.size; simp; omega) ?_; intro v' w3 hown hg hbk)
      go_roundw
      case rel =>
        have hx : Ext wr (wr.alloc (.cells (Mt.cells ⟨k, x, 1⟩).toArray 32)) := (Ext.refl wr).alloc _
        refine ⟨k + 1, by omega, by go_num, ?_, (HEr.out.trans hx).own3 (own_stab3 hx HO.out) hg⟩
        rw [HS3.out, List.length_append, List.flatMap_append]
        simpa using hown
      case measure => simp [intOf]; omega
end Go.Proofs.Ytmmhbnlafcmloaa
